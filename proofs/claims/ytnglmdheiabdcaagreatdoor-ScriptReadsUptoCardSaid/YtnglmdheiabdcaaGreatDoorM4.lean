/-
  Part 4 of what the proof of the statement ScriptReadsUpto leans on: the evaluator, the functions in compact form, and what they answer.
-/
import Derived.Test.YtnglmdheiabdcaaGreatDoorM3
import Derived.Test.YtnglmdheiabdcaaGreatDoorProg
import Derived.KernelRfl
import Derived.WalkKit
import Derived.LoopTactic
import Derived.Laws.RangeString
import Derived.Laws.RangeAny
import Derived.Lib.ItoaNum
import Derived.Lib.Join
import Derived.Lib.Split
import Derived.Lib.AtoiAll
import Derived.Shelf.Strconv.Itoa3
import Derived.Shelf.Strings.Cut
import Derived.Shelf.Strings.Split
import Derived.Shelf.Strconv.AtoiAll
set_option linter.unusedSimpArgs false
set_option linter.unusedVariables false
set_option maxRecDepth 10000
namespace Go.Proofs.YtnglmdheiabdcaaGreatDoor.Ev
open Go
/-! Alike. -/
theorem fSame_ints (l l':List Int) (hl:l.length≤4611686018427387904) (hl':l'.length≤4611686018427387904):PCall Tryz.prog 23 [.fsl .loose 1 (vI l),.fsl .loose 1 (vI l')] (.bool (decide (l=l'))):=by
  refine en23 (by simp) (by simp [closedL,V.closed,vI_closed]) ?_
  simp (maxSteps:=1000000) (disch:=omega) only [rg,gD,simprocAttr,c23,vI_len]
  by_cases c:l.length=l'.length
  case neg =>
    simp (maxSteps:=1000000) (disch:=omega) only [rg,gD,simprocAttr,show ¬ (l.length:Int)=l'.length by omega]
    (refine fin_x rfl ?_ ?_<;>simp [pack,lo,loL,V.closed,closedL,mv_closed,decide_eq_false (fun e:l=l' => c (by rw [e]))])
  simp (maxSteps:=1000000) (disch:=omega) only [rg,gD,simprocAttr,show (l.length:Int)=l'.length by omega]
  refine x_itp l.length (fun i => l=l'↔l.drop i=l'.drop i) (fun i => [(0,.fsl .loose 1 (vI l)),(1,.fsl .loose 1 (vI l')),(12,.int .i64 l.length),(13,.int .i64 i)]) (by simp) (by simp [c]) ?_
  intro T i hi hs hN hX hR
  simp (maxSteps:=1000000) (disch:=omega) only [rg,gD,simprocAttr]
  refine ⟨fun h => ?_,fun h => ?_⟩
  · have i1:i < l.length:=by omega
    have i2:i < l'.length:=by omega
    rw [List.drop_eq_getElem_cons i1,List.drop_eq_getElem_cons i2,List.cons.injEq] at hs
    simp (maxSteps:=1000000) (disch:=omega) only [rg,gD,simprocAttr,vI_get]
    by_cases he:l[i]=l'[i]
    case neg =>
      simp (maxSteps:=1000000) (disch:=omega) only [rg,gD,simprocAttr,he]
      try refine ⟨by simp [compat,disj,nthL], ?_⟩
      refine hR _ _ ?_
      simp (maxSteps:=1000000) (disch:=omega) only [rg,gD,simprocAttr]
      (refine fin_x rfl ?_ ?_<;>simp [pack,lo,loL,V.closed,closedL,mv_closed,decide_eq_false (fun e:l=l' => he (hs.1 e).1)])
    · simp (maxSteps:=1000000) (disch:=omega) only [rg,gD,simprocAttr,he]
      try refine ⟨by simp [compat,disj,nthL], ?_⟩
      exact hN _ i1 (hs.trans (and_iff_right he)) rfl
  · obtain rfl:i=l.length:=by omega
    refine hX _ _ _ ?_
    simp (maxSteps:=1000000) (disch:=omega) only [rg,gD,simprocAttr]
    refine x_frz0 ?_
    simp (maxSteps:=1000000) (disch:=omega) only [rg,gD,simprocAttr]
    rw [List.drop_length,c,List.drop_length] at hs
    (refine fin_x rfl ?_ ?_<;>simp [pack,lo,loL,V.closed,closedL,mv_closed,decide_eq_true (hs.2 rfl)])
def fTaskEq (a b:Task):Prop:=a.needs=b.needs∧a.tries=b.tries∧a.wait=b.wait∧a.lease=b.lease
instance (a b:Task):Decidable (fTaskEq a b):=by unfold fTaskEq; infer_instance
theorem fTaskEq_eq {a b:Task}:fTaskEq a b↔a=b:=by
  obtain ⟨a1,a2,a3,a4⟩:=a
  obtain ⟨b1,b2,b3,b4⟩:=b
  simp [fTaskEq]
instance:DecidableEq Task:=fun a b => decidable_of_iff _ fTaskEq_eq
theorem fDag_ext {a b:Dag}:(a=b)↔(a.name=b.name∧a.tasks=b.tasks):=by
  obtain ⟨a1,a2⟩:=a
  obtain ⟨b1,b2⟩:=b
  simp
instance:DecidableEq Dag:=fun a b => decidable_of_iff _ fDag_ext.symm
def fOkDagL (d:Dag):Prop:=d.tasks.length≤4611686018427387904∧∀ t∈d.tasks,t.needs.length≤4611686018427387904
theorem fLike_dag (a b:Dag) (ha:fOkDagL a) (hb:fOkDagL b):PCall Tryz.prog 42 [dagV a,dagV b] (.bool (decide (a=b))):=by
  refine en42 (by simp) (by simp [closedL,dagV_closed]) ?_
  simp (maxSteps:=1000000) (disch:=omega) only [rg,gD,simprocAttr,c42,dagV,tasksV]
  by_cases c1:a.name=b.name
  case neg =>
    simp (maxSteps:=1000000) (disch:=omega) only [rg,gD,simprocAttr,c1]
    (refine fin_x rfl ?_ ?_<;>simp [pack,lo,loL,V.closed,closedL,mv_closed,decide_eq_false (fun e:a=b => c1 (by rw [e]))])
  by_cases c:a.tasks.length=b.tasks.length
  case neg =>
    simp (maxSteps:=1000000) (disch:=omega) only [rg,gD,simprocAttr,c1,show ¬ (a.tasks.length:Int)=b.tasks.length by omega]
    (refine fin_x rfl ?_ ?_<;>simp [pack,lo,loL,V.closed,closedL,mv_closed,decide_eq_false (fun e:a=b => c (by rw [e]))])
  simp (maxSteps:=1000000) (disch:=omega) only [rg,gD,simprocAttr,c1,show (a.tasks.length:Int)=b.tasks.length by omega]
  refine x_it a.tasks.length (fun i σ H => 2≤H.n∧H.m 1=some (.arr 2 [.agg [.str b.name,.fsl .loose 4 (mv taskV b.tasks)]])∧(a=b↔a.tasks.drop i=b.tasks.drop i)∧σ=[(3,.ptr 1 0 0),(23,tasksV a.tasks),(24,.int .i64 a.tasks.length),(25,.int .i64 i)]) ⟨Nat.le_refl 2,(by simp (disch:=omega) only [upd_eq,upd_ne,wo_0,wo_1,wo_2]),by simp [fDag_ext,c1],by simp [tasksV,c]⟩ ?_
  rintro T i σ ⟨q,m⟩ hi ⟨hq,e1,hs,rfl⟩ hN hX hR
  simp only at hq e1
  have ha1:=ha.1
  simp (maxSteps:=1000000) (disch:=omega) only [rg,gD,simprocAttr,tasksV]
  refine ⟨fun h => ?_,fun h => ?_⟩
  · have i1:i < a.tasks.length:=by omega
    have i2:i < b.tasks.length:=by omega
    have hq1:1≠q:=by omega
    have hq2:1≠q+1:=by omega
    rw [List.drop_eq_getElem_cons i1,List.drop_eq_getElem_cons i2,List.cons.injEq] at hs
    have ks:=fSame_ints a.tasks[i].needs b.tasks[i].needs (ha.2 _ (List.getElem_mem i1)) (hb.2 _ (List.getElem_mem i2))
    simp (maxSteps:=1000000) (disch:=omega) only [rg,gD,simprocAttr,taskV,e1,vI_len,show (a.tasks.length:Int)=b.tasks.length by omega]
    refine ⟨_,ks, ?_⟩
    by_cases d1:a.tasks[i].needs=b.tasks[i].needs
    case neg =>
      simp (maxSteps:=1000000) (disch:=omega) only [rg,gD,simprocAttr,decide_eq_false d1]
      refine hR _ _ ?_
      simp (maxSteps:=1000000) (disch:=omega) only [rg,gD,simprocAttr]
      (refine fin_x rfl ?_ ?_<;>simp [pack,lo,loL,V.closed,closedL,mv_closed,decide_eq_false (fun e:a=b => d1 (by rw [(hs.1 e).1]))])
    by_cases d2:a.tasks[i].tries=b.tasks[i].tries
    case neg =>
      simp (maxSteps:=1000000) (disch:=omega) only [rg,gD,simprocAttr,decide_eq_true d1,d2]
      refine hR _ _ ?_
      simp (maxSteps:=1000000) (disch:=omega) only [rg,gD,simprocAttr]
      (refine fin_x rfl ?_ ?_<;>simp [pack,lo,loL,V.closed,closedL,mv_closed,decide_eq_false (fun e:a=b => d2 (by rw [(hs.1 e).1]))])
    by_cases d3:a.tasks[i].wait=b.tasks[i].wait
    case neg =>
      simp (maxSteps:=1000000) (disch:=omega) only [rg,gD,simprocAttr,decide_eq_true d1,d2,d3]
      refine hR _ _ ?_
      simp (maxSteps:=1000000) (disch:=omega) only [rg,gD,simprocAttr]
      (refine fin_x rfl ?_ ?_<;>simp [pack,lo,loL,V.closed,closedL,mv_closed,decide_eq_false (fun e:a=b => d3 (by rw [(hs.1 e).1]))])
    by_cases d4:a.tasks[i].lease=b.tasks[i].lease
    case neg =>
      simp (maxSteps:=1000000) (disch:=omega) only [rg,gD,simprocAttr,decide_eq_true d1,d2,d3,d4]
      refine hR _ _ ?_
      simp (maxSteps:=1000000) (disch:=omega) only [rg,gD,simprocAttr]
      (refine fin_x rfl ?_ ?_<;>simp [pack,lo,loL,V.closed,closedL,mv_closed,decide_eq_false (fun e:a=b => d4 (by rw [(hs.1 e).1]))])
    simp (maxSteps:=1000000) (disch:=omega) only [rg,gD,simprocAttr,decide_eq_true d1,d2,d3,d4]
    refine hN _ _ i1 ⟨by show 2≤q+1+1; omega,(by simp (disch:=omega) only [upd_eq,upd_ne,wo_0,wo_1,wo_2,e1]),hs.trans (and_iff_right (fTaskEq_eq.1 ⟨d1,d2,d3,d4⟩)),by simp [tasksV,c]⟩
  · obtain rfl:i=a.tasks.length:=by omega
    refine hX _ _ _ ?_
    simp (maxSteps:=1000000) (disch:=omega) only [rg,gD,simprocAttr]
    refine x_frz0 ?_
    simp (maxSteps:=1000000) (disch:=omega) only [rg,gD,simprocAttr]
    rw [List.drop_length,c,List.drop_length] at hs
    (refine fin_x rfl ?_ ?_<;>simp [pack,lo,loL,V.closed,closedL,mv_closed,decide_eq_true (hs.2 rfl)])
theorem cmd_ext {a b:Cmd}:(a=b)↔(a.kind=b.kind∧a.key=b.key∧a.name=b.name∧a.token=b.token∧a.time=b.time∧a.text=b.text∧a.dag=b.dag):=by
  obtain ⟨a1,a2,a3,a4,a5,a6,a7⟩:=a
  obtain ⟨b1,b2,b3,b4,b5,b6,b7⟩:=b
  simp
instance:DecidableEq Cmd:=fun a b => decidable_of_iff _ cmd_ext.symm
theorem like_cmd (a b:Cmd) (ha:fOkDagL a.dag) (hb:fOkDagL b.dag):PCall Tryz.prog 24 [cmdV a,cmdV b] (.bool (decide (a=b))):=by
  refine en24 (by simp) (by simp [closedL,cmdV_closed]) ?_
  have kd:=fLike_dag a.dag b.dag ha hb
  unfold dagV tasksV at kd
  by_cases c0:a.kind=b.kind
  case neg =>
    simp (maxSteps:=1000000) (disch:=omega) only [rg,gD,simprocAttr,c24,cmdV,tasksV,c0]
    (refine fin_x rfl ?_ ?_<;>simp [pack,lo,loL,V.closed,closedL,mv_closed,decide_eq_false (fun e:a=b => c0 (by rw [e]))])
  by_cases c1:a.key=b.key
  case neg =>
    simp (maxSteps:=1000000) (disch:=omega) only [rg,gD,simprocAttr,c24,cmdV,tasksV,c0,c1]
    (refine fin_x rfl ?_ ?_<;>simp [pack,lo,loL,V.closed,closedL,mv_closed,decide_eq_false (fun e:a=b => c1 (by rw [e]))])
  by_cases c2:a.name=b.name
  case neg =>
    simp (maxSteps:=1000000) (disch:=omega) only [rg,gD,simprocAttr,c24,cmdV,tasksV,c0,c1,c2]
    (refine fin_x rfl ?_ ?_<;>simp [pack,lo,loL,V.closed,closedL,mv_closed,decide_eq_false (fun e:a=b => c2 (by rw [e]))])
  by_cases c3:a.token=b.token
  case neg =>
    simp (maxSteps:=1000000) (disch:=omega) only [rg,gD,simprocAttr,c24,cmdV,tasksV,c0,c1,c2,c3]
    (refine fin_x rfl ?_ ?_<;>simp [pack,lo,loL,V.closed,closedL,mv_closed,decide_eq_false (fun e:a=b => c3 (by rw [e]))])
  by_cases c4:a.time=b.time
  case neg =>
    simp (maxSteps:=1000000) (disch:=omega) only [rg,gD,simprocAttr,c24,cmdV,tasksV,c0,c1,c2,c3,c4]
    (refine fin_x rfl ?_ ?_<;>simp [pack,lo,loL,V.closed,closedL,mv_closed,decide_eq_false (fun e:a=b => c4 (by rw [e]))])
  by_cases c5:a.text=b.text
  case neg =>
    simp (maxSteps:=1000000) (disch:=omega) only [rg,gD,simprocAttr,c24,cmdV,tasksV,c0,c1,c2,c3,c4,c5]
    (refine fin_x rfl ?_ ?_<;>simp [pack,lo,loL,V.closed,closedL,mv_closed,decide_eq_false (fun e:a=b => c5 (by rw [e]))])
  simp (maxSteps:=1000000) (disch:=omega) only [rg,gD,simprocAttr,c24,cmdV,tasksV,c0,c1,c2,c3,c4,c5]
  refine ⟨_,kd, ?_⟩
  simp (maxSteps:=1000000) (disch:=omega) only [rg,gD,simprocAttr]
  have:decide (a=b)=decide (a.dag=b.dag):=by rw [decide_eq_decide,cmd_ext]; simp [c0,c1,c2,c3,c4,c5]
  (refine fin_x rfl ?_ ?_<;>simp [pack,lo,loL,V.closed,closedL,mv_closed,this])
section
open Go Go.RowKit
def lowB (b:UInt8):Bool:=decide (97≤b.toNat∧b.toNat≤122)
def nameB (s:Str):Bool:=decide (1≤s.length∧s.length≤16) && s.all lowB
def headB (s:ByteArray) (pos:Nat):Prop:=∀ j,j < pos→∀ b,s.data.toList[j]?=some b→lowB b=true
theorem headB_step {s:ByteArray} {pos:Nat} (h:pos < s.size) (h1:¬ ((Utf8.decode s pos).1 < 97)) (h2:¬ (122 < (Utf8.decode s pos).1)) (hh:headB s pos):headB s (pos+(Utf8.decode s pos).2)∧(Utf8.decode s pos).2=1:=by
  have ha:(s[pos]'h).toNat < 128:=by
    rcases Nat.lt_or_ge (s[pos]'h).toNat 128 with h' | h'
    · exact h'
    · have:=(decode_high s pos h h').1; omega
  rw [decode_ascii s pos h ha] at h1 h2 ⊢
  simp only at h1 h2 ⊢
  refine ⟨fun j hj b hb => ?_,by simp⟩
  by_cases e:j=pos
  · subst e
    have:s.data.toList[j]?=some (s[j]'h):=by
      simp only [Array.getElem?_toList]
      exact Array.getElem?_eq_getElem h
    rw [this] at hb; simp at hb; subst hb
    simp only [lowB,decide_eq_true_eq]; omega
  · exact hh j (by omega) b hb
theorem headB_stop {s:ByteArray} {pos:Nat} (h:pos < s.size) (h1:(Utf8.decode s pos).1 < 97∨122 < (Utf8.decode s pos).1):s.data.toList.all lowB=false:=by
  rw [List.all_eq_false]
  refine ⟨s[pos]'h, ?_, ?_⟩
  · have h':pos < s.data.toList.length:=by rw [Array.length_toList]; exact h
    exact (List.getElem_mem h':s.data.toList[pos]∈s.data.toList)
  · intro hl
    simp only [lowB,decide_eq_true_eq] at hl
    rw [decode_ascii s pos h (by omega)] at h1
    simp only at h1; omega
theorem headB_all {s:ByteArray} {pos:Nat} (h:¬ pos < s.size) (hh:headB s pos):s.data.toList.all lowB=true:=by
  rw [List.all_eq_true]
  intro b hb
  obtain ⟨j,hj⟩:=List.mem_iff_getElem?.1 hb
  have:=(List.getElem?_eq_some_iff.1 hj).1
  exact hh j (by simp only [Array.length_toList] at this; simp only [ByteArray.size] at h; omega) b hj
set_option maxRecDepth 1000000 in
theorem name_walk (s:ByteArray) (w:World) :
    Calls Tryz.prog 64 #[.string s] w fun e w' => e=.returned (.bool (nameB s.data.toList))∧Below w.heap.size w w':=by
  have hsz:s.data.toList.length=s.size:=by rw [Array.length_toList]; rfl
  have bel:∀ pos,Below w.heap.size w (w.iter s pos):=fun pos => (Below.refl _ w).alloc (Nat.le_refl _) _
  go_enter Tryz.func64,Tryz.ntmps64
  by_cases c1:(s.size:Int) < 1
  · go_wp2
    go_ret
    exact ⟨by rw [nameB,hsz,decide_eq_false (by omega)]; rfl,.refl _ _⟩
  by_cases c2:(16:Int) < s.size
  · go_wp2
    go_ret
    exact ⟨by rw [nameB,hsz,decide_eq_false (by omega)]; rfl,.refl _ _⟩
  have hn:nameB s.data.toList=s.data.toList.all lowB:=by rw [nameB,hsz,decide_eq_true (by omega),Bool.true_and]
  go_wp2
  go_loopw [] (fun w' => ∃ pos:Nat,w'=w.iter s pos∧headB s pos) (fun w' => s.size - w'.iterPos w.heap.size)
  case atStart => exact ⟨0,rfl,fun j hj => by omega⟩
  case round =>
    obtain ⟨pos,rfl,hh⟩:=hrel
    by_cases hp:pos < s.size
    · have hnx:∀ ty,(Instr.next (.pointer (some ⟨w.heap.size,0,none⟩)) true ty).run Tryz.prog (w.iter s pos)=_:=fun ty => run_next_any w s pos ty hp
      by_cases d1:(((Utf8.decode s pos).1:Nat):Int) < 97
      · have hf:nameB s.data.toList=false:=by rw [hn,headB_stop hp (.inl (by omega))]
        clear hn
        go_wp2
        go_ret
        exact ⟨by first | rfl | (rw [hf]; rfl),bel _⟩
      by_cases d2:(122:Int) < (((Utf8.decode s pos).1:Nat):Int)
      · have hf:nameB s.data.toList=false:=by rw [hn,headB_stop hp (.inr (by omega))]
        clear hn
        go_wp2
        go_ret
        exact ⟨by first | rfl | (rw [hf]; rfl),bel _⟩
      obtain ⟨k1,k2⟩:=headB_step hp (by omega) (by omega) hh
      go_wp2
      go_roundw
      case rel => first | exact ⟨_,rfl,k1⟩ | (rw [k2] at k1; exact ⟨_,rfl,k1⟩)
      case measure =>
        simp
        omega
    · have hnx:∀ ty,(Instr.next (.pointer (some ⟨w.heap.size,0,none⟩)) true ty).run Tryz.prog (w.iter s pos)=_:=fun ty => run_next_end w s pos ty hp
      have hf:nameB s.data.toList=true:=by rw [hn,headB_all hp hh]
      clear hn
      go_wp2
      go_ret
      exact ⟨by first | rfl | (rw [hf]; rfl),bel _⟩
theorem p_name (s:Str):PCall Tryz.prog 64 [.str s] (.bool (nameB s)):=by
  refine .of_below ⟨Tryz.f64,Tryz.func64,rfl,by kernel_rfl⟩ fun g m w xs hs hx => ?_
  simp only [RC,R] at hx
  obtain ⟨y,ys,e1,rfl,rfl⟩:=hx
  obtain rfl:xs=#[.string ⟨s.toArray⟩]:=by apply Array.ext'; simpa using e1
  refine (name_walk ⟨s.toArray⟩ w).mono ?_
  rintro e w' ⟨rfl,hw⟩
  exact ⟨_,rfl,by simp [R],hw⟩
end
structure Stp where
  cmd:Cmd
  check:Bool
  crash:Bool
  masks:List Int
structure Pln where
  size:Int
  steps:List Stp
def stpV (s:Stp):V:=.agg [.int .i64 s.cmd.kind,.str s.cmd.key,.str s.cmd.name,.int .i64 s.cmd.token,.int .i64 s.cmd.time,.str s.cmd.text,.str s.cmd.dag.name,tasksV s.cmd.dag.tasks,.bool s.check,.bool s.crash,.fsl .loose 1 (vI s.masks)]
def plnV (p:Pln):V:=.agg [.int .i64 p.size,.fsl .loose 11 (mv stpV p.steps)]
theorem stpV_closed (s:Stp):(stpV s).closed=true:=by simp [stpV,V.closed,closedL,tasksV,vI_closed,mv_closed taskV_closed]
theorem plnV_closed (p:Pln):(plnV p).closed=true:=by simp [plnV,V.closed,closedL,mv_closed stpV_closed]
def timeOk (c:Cmd):Bool:=decide (c.token≤1099511627776∧c.time≤1099511627776)
def wordsOk (c:Cmd):Bool :=
  if c.kind=1 then nameB c.dag.name
  else if c.kind=2 then nameB c.key && nameB c.name
  else if c.kind=5 then decide (c.text=[]) || nameB c.text
  else if c.kind=7∨c.kind=9 then nameB c.key
  else true
def lineCmd (c:Cmd):Bool:=decide (cmdP c) && timeOk c && wordsOk c
def noneC (c:Cmd):Bool:=decide (c.kind=0∧c.key=[]∧c.name=[]∧c.token=0∧c.time=0∧c.text=[]∧noDag c.dag)
def maskB (m:Int):Bool:=decide (0≤m∧m≤255)
def stpB (s:Stp):Bool :=
  if s.crash then !s.check && noneC s.cmd && decide (s.masks.length≤64) && s.masks.all maskB
  else if s.check then noneC s.cmd && decide (s.masks.length=0)
  else lineCmd s.cmd && decide (s.masks.length=0)
def planB (p:Pln):Bool:=decide (24≤p.size∧p.size≤200) && decide (p.steps.length≤200) && p.steps.all stpB
/-! Lines. -/
def wCrash:Str:=[99,114,97,115,104]
def wCheck:Str:=[99,104,101,99,107]
def wGraph:Str:=[103,114,97,112,104]
def wStart:Str:=[115,116,97,114,116]
def wPoll:Str:=[112,111,108,108]
def wBeat:Str:=[98,101,97,116]
def wDone:Str:=[100,111,110,101]
def wFail:Str:=[102,97,105,108]
def wCancel:Str:=[99,97,110,99,101,108]
def wTick:Str:=[116,105,99,107]
def wState:Str:=[115,116,97,116,101]
def wSync:Str:=[115,121,110,99]
def wSize:Str:=[115,105,122,101]
def numW (l:List Int):List Str:=l.map Lib.itoa
def taskW (t:Task):Str:=Lib.join (numW ([t.tries,t.wait,t.lease]++t.needs)) [44]
def wordsL (c:Cmd):List Str :=
  if c.kind=1 then [wGraph,c.dag.name]++c.dag.tasks.map taskW
  else if c.kind=2 then [wStart,c.key,c.name]
  else if c.kind=3 then [wPoll]
  else if c.kind=4 then [wBeat,Lib.itoa c.token]
  else if c.kind=5 then (if c.text=[] then [wDone,Lib.itoa c.token] else [wDone,Lib.itoa c.token,c.text])
  else if c.kind=6 then [wFail,Lib.itoa c.token]
  else if c.kind=7 then [wCancel,c.key]
  else if c.kind=8 then [wTick,Lib.itoa c.time]
  else if c.kind=9 then [wState,c.key]
  else [wSync]
def wordsS (s:Stp):List Str :=
  if s.crash then [wCrash]++numW s.masks else if s.check then [wCheck] else wordsL s.cmd
/-! Lengths. -/
theorem digits_pos (u:Nat):1≤(Lib.decDigits u).length:=by
  rw [Lib.decDigits]; split<;>simp
theorem digits_len:∀ (k u:Nat),u < 10 ^ (k+1)→(Lib.decDigits u).length≤k+1
  | 0,u,h => by rw [Lib.decDigits,dif_pos (by simpa using h)]; simp
  | k+1,u,h => by
    rw [Lib.decDigits]
    split
    · simp
    · have:=digits_len k (u / 10) (by rw [Nat.div_lt_iff_lt_mul (by omega)]; rw [Nat.pow_succ] at h; exact h)
      simp only [List.length_append,List.length_singleton]; omega
theorem itoa_len {n:Int} (h:-9223372036854775808≤n∧n≤9223372036854775807):(Lib.itoa n).length≤20:=by
  unfold Lib.itoa
  split
  · have := digits_len 18 n.natAbs (by have : (10 : Nat) ^ (18 + 1) = 10000000000000000000 := by decide
                                       omega)
    simp only [List.length_cons]; omega
  · have := digits_len 18 n.toNat (by have : (10 : Nat) ^ (18 + 1) = 10000000000000000000 := by decide
                                      omega)
    omega
def cutC (c:UInt8):Str→Str×Str×Bool
  | [] => ([],[],false)
  | b::s => if b=c then ([],s,true) else (b::(cutC c s).1,(cutC c s).2.1,(cutC c s).2.2)
def splitC (c:UInt8):Str→List Str
  | [] => [[]]
  | b::s => if b=c then []::splitC c s else (b::(splitC c s).headD [])::(splitC c s).tail
theorem splitC_ne (c:UInt8) (s:Str):splitC c s≠[]:=by
  cases s with
  | nil => simp [splitC]
  | cons b s => simp only [splitC]; split<;>simp
theorem index_c (c:UInt8):∀ s:Str,(Lib.index s [c]=-1∧(cutC c s).2.2=false∧(cutC c s).1=s∧(cutC c s).2.1=[]) ∨
    ∃ i:Nat,Lib.index s [c]=i∧i < s.length∧(cutC c s).2.2=true∧(cutC c s).1=s.take i∧(cutC c s).2.1=s.drop (i+1)
  | [] => .inl ⟨by simp [Lib.index],rfl,rfl,rfl⟩
  | b::s => by
    by_cases h:b=c
    · subst h
      exact .inr ⟨0,by simp [Lib.index],by simp,by simp [cutC],by simp [cutC],by simp [cutC]⟩
    · have h0:([c].isPrefixOf (b::s))=false:=by simp [List.isPrefixOf,Ne.symm h]
      rcases index_c c s with ⟨h1,h2,h3,h4⟩ | ⟨i,h1,h2,h3,h4,h5⟩
      · exact .inl ⟨by simp [Lib.index,h0,h1],by simp [cutC,h,h2],by simp [cutC,h,h3],by simp [cutC,h,h4]⟩
      · have hne:¬ ((i:Int)=-1):=by omega
        refine .inr ⟨i+1, ?_,by simp; omega,by simp [cutC,h,h3],by simp [cutC,h,h4],by simp [cutC,h,h5]⟩
        simp [Lib.index,h0,h1,hne]
theorem cut_c (c:UInt8) (s:Str):Lib.cut s [c]=cutC c s:=by
  have e:cutC c s=((cutC c s).1,(cutC c s).2.1,(cutC c s).2.2):=rfl
  unfold Lib.cut
  rcases index_c c s with ⟨h1,h2,h3,h4⟩ | ⟨i,h1,h2,h3,h4,h5⟩
  · rw [h1,if_neg (by omega),e,h2,h3,h4]
  · rw [h1,if_pos (by omega),e,h3,h4,h5]
    simp only [Int.toNat_natCast,List.length_singleton]
theorem split_cut (c:UInt8):∀ s:Str,splitC c s=if (cutC c s).2.2=true then (cutC c s).1::splitC c (cutC c s).2.1 else [s]
  | [] => by simp [splitC,cutC]
  | b::s => by
    by_cases h:b=c
    · simp [splitC,cutC,h]
    · simp only [splitC,cutC,if_neg h]
      rw [split_cut c s]
      by_cases g:(cutC c s).2.2=true
      · simp [g]
      · simp [g]
theorem cut_len (c:UInt8) (s:Str) (h:(cutC c s).2.2=true):(cutC c s).2.1.length < s.length∧(cutC c s).1.length < s.length:=by
  rcases index_c c s with ⟨h1,h2,h3,h4⟩ | ⟨i,h1,h2,h3,h4,h5⟩
  · rw [h2] at h; cases h
  · rw [h4,h5]; simp; omega
theorem count_c (c:UInt8):∀ (f:Nat) (s:Str),s.length≤f→∀ k,Lib.countFrom [c] f s≤k→Lib.splitK [c] 0 k s=splitC c s
  | 0,s,hf,k,_ => by
    have:s=[]:=by cases s; rfl; simp at hf
    subst this
    cases k<;>simp [Lib.splitK,splitC,Lib.index]
  | f+1,s,hf,k,hk => by
    rw [split_cut]
    rcases index_c c s with ⟨h1,h2,h3,h4⟩ | ⟨i,h1,h2,h3,h4,h5⟩
    · rw [h2]
      cases k<;>simp [Lib.splitK,h1]
    · have hne:¬ ((i:Int)=-1):=by omega
      rw [h3,if_pos rfl]
      rw [Lib.countFrom,h1] at hk
      simp only [beq_iff_eq,hne,if_false,Int.toNat_natCast,List.length_singleton] at hk
      cases k with
      | zero => omega
      | succ k =>
        rw [Lib.splitK,h1]
        simp only [beq_iff_eq,hne,if_false,Int.toNat_natCast,List.length_singleton,Nat.add_zero]
        rw [count_c c f (s.drop (i+1)) (by simp; omega) k (by omega),h4,h5]
theorem splitC_len (c:UInt8):∀ s:Str,(splitC c s).length≤s.length+1
  | [] => by simp [splitC]
  | b::s => by
    have:=splitC_len c s
    have h0:=splitC_ne c s
    simp only [splitC]; split
    · simp; omega
    · simp only [List.length_cons,List.length_tail]; omega
/-! Joined again. -/
theorem tail_one (sep:Str) (a:Str) (l:List Str):Lib.joinTail sep (a::l)=sep++a++Lib.joinTail sep l:=by simp [Lib.joinTail]
theorem join_split (c:UInt8):∀ s:Str,Lib.join (splitC c s) [c]=s
  | [] => by simp [splitC,Lib.join_one]
  | b::s => by
    have ih:=join_split c s
    have h0:=splitC_ne c s
    obtain ⟨w,ws,e⟩:∃ w ws,splitC c s=w::ws:=by cases h:splitC c s with | nil => exact absurd h h0 | cons w ws => exact ⟨w,ws,rfl⟩
    rw [e,Lib.join_cons] at ih
    by_cases h:b=c
    · subst h
      rw [splitC,if_pos rfl,e,Lib.join_cons,tail_one,List.nil_append,List.append_assoc,ih]; rfl
    · rw [splitC,if_neg h,e,List.headD_cons,List.tail_cons,Lib.join_cons,List.cons_append,ih]
theorem split_free (c:UInt8):∀ w:Str,c∉w→splitC c w=[w]
  | [],_ => rfl
  | b::w,h => by
    rw [List.mem_cons,not_or] at h
    rw [splitC,if_neg (Ne.symm h.1),split_free c w h.2]; rfl
theorem split_word (c:UInt8) (s:Str):∀ w:Str,c∉w→splitC c (w++c::s)=w::splitC c s
  | [],_ => by simp [splitC]
  | b::w,h => by
    rw [List.mem_cons,not_or] at h
    rw [List.cons_append,splitC,if_neg (Ne.symm h.1),split_word c s w h.2]; rfl
theorem split_join (c:UInt8):∀ ws:List Str,ws≠[]→(∀ w∈ws,c∉w)→splitC c (Lib.join ws [c])=ws
  | [],h,_ => absurd rfl h
  | [w],_,h => by rw [Lib.join_one]; exact split_free c w (h w (by simp))
  | w::v::ws,_,h => by
    have ih:=split_join c (v::ws) (by simp) (fun x hx => h x (by simp [hx]))
    rw [Lib.join_cons] at ih
    rw [Lib.join_cons,tail_one,List.append_assoc,List.singleton_append,split_word c _ w (h w (by simp)),ih]
theorem cut_none (c:UInt8) (s:Str) (h:(cutC c s).2.2=false):(cutC c s).1=s∧(cutC c s).2.1=[]:=by
  rcases index_c c s with ⟨h1,h2,h3,h4⟩ | ⟨i,h1,h2,h3,h4,h5⟩
  · exact ⟨h3,h4⟩
  · rw [h3] at h; cases h
def numS (s:Str):Int:=match Lib.atoiAll s with
  | .ok v => if v < 0∨Lib.itoa v≠s then -1 else v
  | _ => -1
def digB (b:UInt8):Bool:=decide (48≤b.toNat∧b.toNat≤57)
def valS (s:Str):Int:=s.foldl (fun n b => 10*n+((b.toNat:Int) - 48)) 0
def refN (s:Str):Int:=if (1≤s.length∧s.length≤13)∧s.all digB=true then (if Lib.itoa (valS s)=s then valS s else -1) else -1
theorem numS_back {s:Str} (h:0≤numS s):Lib.itoa (numS s)=s:=by
  unfold numS at h ⊢
  split at h
  · rename_i v hv
    split at h
    · omega
    · rename_i hn
      rw [if_neg hn]
      rcases Classical.em (Lib.itoa v=s) with h | h
      · exact h
      · exact absurd (.inr h) hn
  · omega
theorem refN_back {s:Str} (h:0≤refN s):Lib.itoa (refN s)=s:=by
  unfold refN at h ⊢
  split at h
  · split at h
    · rename_i h1 h2; rw [if_pos h1,if_pos h2]; exact h2
    · omega
  · omega
theorem dig_ok {u:Nat} (h:u < 10):(UInt8.ofNat (48+u)).toNat=48+u:=by simp [UInt8.toNat_ofNat']; omega
theorem parse_snoc (c:UInt8) (d:Nat) (hc:c.toNat=48+d) (hd:d < 10):∀ (l:Str) (acc u:Nat),Lib.parseUint10 acc l=.ok u→u*10+d < 18446744073709551616→Lib.parseUint10 acc (l++[c])=.ok (u*10+d)
  | [],acc,u,h,hu => by
    simp only [Lib.parseUint10] at h; injection h with h; subst h
    simp only [List.nil_append,Lib.parseUint10]
    rw [if_pos (by omega),if_neg (by omega),hc,if_neg (by omega)]
    simp
  | b::l,acc,u,h,hu => by
    simp only [List.cons_append,Lib.parseUint10] at h ⊢
    split at h
    · rename_i h1
      rw [if_pos h1]
      split at h
      · cases h
      · rename_i h2
        rw [if_neg h2]
        split at h
        · cases h
        · rename_i h3
          rw [if_neg h3]
          exact parse_snoc c d hc hd l _ u h hu
    · cases h
theorem parse_dec:∀ (f u:Nat),u≤f→u < 18446744073709551616→Lib.parseUint10 0 (Lib.decDigits u)=.ok u
  | 0,u,h,_ => by
    have:u=0:=by omega
    subst this
    rw [Lib.decDigits]; simp [Lib.parseUint10]
  | f+1,u,h,hu => by
    rw [Lib.decDigits]
    split
    · rename_i h1
      have:=dig_ok h1
      simp only [Lib.parseUint10]
      rw [if_pos (by omega),if_neg (by omega),this,if_neg (by omega)]
      simp
    · have ih:=parse_dec f (u / 10) (by omega) (by omega)
      have:=parse_snoc _ (u % 10) (dig_ok (by omega)) (by omega) _ _ _ ih (by omega)
      rw [this]; congr 1; omega
theorem dec_all:∀ (f u:Nat),u≤f→∀ b∈Lib.decDigits u,48≤b.toNat∧b.toNat≤57
  | 0,u,h,b,hb => by
    have:u=0:=by omega
    subst this
    rw [Lib.decDigits] at hb; simp at hb; subst hb; decide
  | f+1,u,h,b,hb => by
    rw [Lib.decDigits] at hb
    split at hb
    · rename_i h1
      simp only [List.mem_singleton] at hb; subst hb
      have:=dig_ok h1; omega
    · rcases List.mem_append.1 hb with hb | hb
      · exact dec_all f (u / 10) (by omega) b hb
      · simp only [List.mem_singleton] at hb; subst hb
        have:=dig_ok (u:=u % 10) (by omega); omega
theorem itoa_nat (v:Nat):Lib.itoa (v:Int)=Lib.decDigits v:=by
  unfold Lib.itoa; rw [if_neg (by omega)]; rfl
theorem numS_of (v:Nat) (h:v≤9223372036854775807):numS (Lib.itoa (v:Int))=v:=by
  have h1:=parse_dec v v (Nat.le_refl _) (by omega)
  have h2:=dec_all v v (Nat.le_refl _)
  have h3:=digits_pos v
  have ha:Lib.atoiAll (Lib.decDigits v)=.ok (v:Int):=by
    cases hd:Lib.decDigits v with
    | nil => rw [hd] at h3; simp at h3
    | cons c r =>
      rw [hd] at h1 h2
      have hc:=h2 c (by simp)
      simp only [Lib.atoiAll]
      rw [if_neg (by omega),Lib.parseMag,if_neg (by simp),h1]
      simp only
      rw [if_neg (by omega),if_neg (by omega),if_neg (by omega)]
  unfold numS
  rw [itoa_nat,ha]
  simp only
  rw [if_neg (by rw [itoa_nat]; simp)]
theorem val_snoc (l:Str) (c:UInt8):valS (l++[c])=10*valS l+((c.toNat:Int) - 48):=by simp [valS]
theorem val_dec:∀ (f u:Nat),u≤f→valS (Lib.decDigits u)=u
  | 0,u,h => by
    have:u=0:=by omega
    subst this
    rw [Lib.decDigits]; simp [valS]
  | f+1,u,h => by
    rw [Lib.decDigits]
    split
    · rename_i h1
      have:=dig_ok h1
      simp only [valS,List.foldl_cons,List.foldl_nil]; omega
    · have ih:=val_dec f (u / 10) (by omega)
      have:=dig_ok (u:=u % 10) (by omega)
      rw [val_snoc,ih]; omega
theorem refN_of (v:Nat) (h:v < 10000000000000):refN (Lib.itoa (v:Int))=v:=by
  have h2:=dec_all v v (Nat.le_refl _)
  have h3:=digits_pos v
  have h4 := digits_len 12 v (by have : (10 : Nat) ^ (12 + 1) = 10000000000000 := by decide
                                 omega)
  have h5:=val_dec v v (Nat.le_refl _)
  unfold refN
  rw [itoa_nat,if_pos ⟨by omega,by rw [List.all_eq_true]; intro b hb; simp only [digB,decide_eq_true_eq]; exact h2 b hb⟩,h5,if_pos (itoa_nat v)]
theorem itoa_no {v:Int} {c:UInt8} (hc:c=32∨c=44):c∉Lib.itoa v:=by
  unfold Lib.itoa
  split
  · intro h
    rcases List.mem_cons.1 h with h | h
    · rcases hc with rfl | rfl<;>simp at h
    · have:=dec_all _ _ (Nat.le_refl _) c h
      rcases hc with rfl | rfl<;>simp at this
  · intro h
    have:=dec_all _ _ (Nat.le_refl _) c h
    rcases hc with rfl | rfl<;>simp at this
def c47:C :=
  (.seq
 (.reg false [p (.mov (.k (.int .i64 0)))] [(0,.v 0),(1,.v 1)])
 (.seq
 (.seq
 (.reg false [p (.mov (.v 0)),
 p (.len false (.r 0)),
 p (.mov (.k (.int .i64 0)))] [(0,.v 0),(1,.v 1),(7,.r 1),(8,.r 0)])
 (.block 0
 (.loop
 (.seq
 (.reg false [p (.bin .lss (.v 8) (.v 7))] [(0,.v 0),(1,.v 1),(7,.v 7),(8,.v 8),(9,.r 0)])
 (.seq
 (.cond (.v 9)
 .skip
 (.exit 0))
 (.seq
 (.block 1
 (.seq
 (.reg false [p (.mov (.v 8)),
 p (.mov (.r 0))] [(0,.v 0),(1,.v 1),(5,.r 0),(7,.v 7),(8,.v 8)])
 (.seq
 (.reg false [p (.mov (.v 1)),
 p (.mov (.v 0)),
 p (.mov (.v 5)),
 p (.iad 11 (.r 1) (.r 0)),
 p (.load (some 11) (.r 0)),
 p (.call false (.r 4) [.r 0])] [(0,.v 0),(1,.v 1),(5,.v 5),(7,.v 7),(8,.v 8),(16,.r 0)])
 (.cond (.v 16)
 (.seq
 (.reg false [p (.mov (.v 5)),
 p (.mov (.r 0))] [(4,.r 0)])
 .ret)
 .skip))))
 (.reg false [p (.bin .add (.v 8) (.k (.int .i64 1))),
 p (.mov (.r 0))] [(0,.v 0),(1,.v 1),(7,.v 7),(8,.r 0)])))))))
 (.frz
 (.seq
 (.reg false [p (.mov (.k (.int .i64 (-1))))] [(4,.r 0)])
 .ret))))
def r47:List RV:=[.t 4]
theorem chk47:Chk Tryz.prog Tryz.f47 c47 r47:=⟨_,rfl,by kernel_rfl,by kernel_rfl⟩
theorem ena47:EnA Tryz.prog 47 19 c47 r47:=mkEnA (by kernel_rfl) Tryz.func47 (by kernel_rfl) chk47
def c30:C :=
  (.seq
 (.reg false [p (.mov (.k (.bool false)))] [(0,.v 0),(1,.v 1)])
 (.seq
 (.reg false [p (.mov (.v 0)),
 p (.mov (.v 1)),
 p (.call false (.k (.fn 47 [] [])) [.r 1,.r 0]),
 p (.bin .geq (.r 0) (.k (.int .i64 0))),
 p (.mov (.r 0))] [(4,.r 0)])
 .ret))
def r30:List RV:=[.t 4]
theorem chk30:Chk Tryz.prog Tryz.f30 c30 r30:=⟨_,rfl,by kernel_rfl,by kernel_rfl⟩
theorem ena30:EnA Tryz.prog 30 9 c30 r30:=mkEnA (by kernel_rfl) Tryz.func30 (by kernel_rfl) chk30
def c48:C :=
  (.seq
 (.reg false [p (.box 8 (.v 0)),
 p (.mov (.k (.bool false)))] [(1,.r 1)])
 (.seq
 (.reg false [p (.fad 0 (.v 1)),
 p (.load (none) (.r 0)),
 p (.bin .eql (.r 0) (.k (.int .i64 0))),
 p (.mov (.r 0)),
 ⟨.fad 1 (.v 1),some (0,true),[]⟩,
 ⟨.load (none) (.r 0),some (1,true),[]⟩,
 ⟨.bin .eql (.r 0) (.k (.str [])),some (2,true),[]⟩,
 p (.pick (.r 3) (.r 0) (.k (.bool false))),
 p (.mov (.r 0)),
 ⟨.fad 2 (.v 1),some (0,true),[]⟩,
 ⟨.load (none) (.r 0),some (1,true),[]⟩,
 ⟨.bin .eql (.r 0) (.k (.str [])),some (2,true),[]⟩,
 p (.pick (.r 3) (.r 0) (.k (.bool false))),
 p (.mov (.r 0)),
 ⟨.fad 3 (.v 1),some (0,true),[]⟩,
 ⟨.load (none) (.r 0),some (1,true),[]⟩,
 ⟨.bin .eql (.r 0) (.k (.int .i64 0)),some (2,true),[]⟩,
 p (.pick (.r 3) (.r 0) (.k (.bool false))),
 p (.mov (.r 0)),
 ⟨.fad 4 (.v 1),some (0,true),[]⟩,
 ⟨.load (none) (.r 0),some (1,true),[]⟩,
 ⟨.bin .eql (.r 0) (.k (.int .i64 0)),some (2,true),[]⟩,
 p (.pick (.r 3) (.r 0) (.k (.bool false))),
 p (.mov (.r 0)),
 ⟨.fad 5 (.v 1),some (0,true),[]⟩,
 ⟨.load (none) (.r 0),some (1,true),[]⟩,
 ⟨.bin .eql (.r 0) (.k (.str [])),some (2,true),[]⟩,
 p (.pick (.r 3) (.r 0) (.k (.bool false))),
 p (.mov (.r 0)),
 ⟨.fad 6 (.v 1),some (0,true),[]⟩,
 ⟨.fad 0 (.r 0),some (1,true),[]⟩,
 ⟨.load (none) (.r 0),some (2,true),[]⟩,
 ⟨.bin .eql (.r 0) (.k (.str [])),some (3,true),[]⟩,
 p (.pick (.r 4) (.r 0) (.k (.bool false))),
 p (.mov (.r 0)),
 ⟨.fad 6 (.v 1),some (0,true),[]⟩,
 ⟨.fad 1 (.r 0),some (1,true),[]⟩,
 ⟨.load (none) (.r 0),some (2,true),[]⟩,
 ⟨.len false (.r 0),some (3,true),[]⟩,
 ⟨.bin .eql (.r 0) (.k (.int .i64 0)),some (4,true),[]⟩,
 p (.pick (.r 5) (.r 0) (.k (.bool false))),
 p (.mov (.r 0))] [(2,.r 0)])
 .ret))
def r48:List RV:=[.t 2]
theorem en48:EnP Tryz.prog 48 44 c48 r48:=mkEnP (by kernel_rfl) Tryz.func48 (by kernel_rfl) ⟨_,rfl,by kernel_rfl,by kernel_rfl⟩
def c51:C :=
  (.seq
 (.reg false [p (.box 8 (.v 0)),
 p (.mov (.k (.bool false)))] [(1,.r 1)])
 (.seq
 (.seq
 (.reg false [p (.load (some 8) (.v 1)),
 p (.call true (.k (.fn 62 [] [])) [.r 0]),
 p (.mov (.r 0)),
 p (.ext (.r 0) 0),
 p (.ext (.r 1) 1),
 p (.mov (.r 1)),
 p (.mov (.r 1))] [(1,.v 1),(4,.r 0)])
 (.seq
 (.reg false [p (.mov (.v 4)),
 p (.bin .neq (.r 0) (.k (.int .i64 0))),
 p (.mov (.r 0)),
 ⟨.fad 3 (.v 1),some (0,false),[]⟩,
 ⟨.load (none) (.r 0),some (1,false),[]⟩,
 ⟨.bin .gtr (.r 0) (.k (.int .i64 1099511627776)),some (2,false),[]⟩,
 p (.pick (.r 3) (.k (.bool true)) (.r 0)),
 p (.mov (.r 0)),
 ⟨.fad 4 (.v 1),some (0,false),[]⟩,
 ⟨.load (none) (.r 0),some (1,false),[]⟩,
 ⟨.bin .gtr (.r 0) (.k (.int .i64 1099511627776)),some (2,false),[]⟩,
 p (.pick (.r 3) (.k (.bool true)) (.r 0))] [(1,.v 1),(21,.r 0)])
 (.cond (.v 21)
 (.seq
 (.reg false [p (.mov (.k (.bool false)))] [(2,.r 0)])
 .ret)
 .skip)))
 (.seq
 (.seq
 (.reg false [p (.fad 0 (.v 1)),
 p (.load (none) (.r 0))] [(1,.v 1),(23,.r 0)])
 (.block 0
 (.seq
 (.reg false [p (.bin .eql (.v 23) (.k (.int .i64 1))),
 p (.mov (.r 0))] [(1,.v 1),(23,.v 23),(24,.r 0)])
 (.cond (.v 24)
 (.seq
 (.reg false [p (.fad 6 (.v 1)),
 p (.load (some 2) (.r 0)),
 p (.call true (.k (.fn 63 [] [])) [.r 0]),
 p (.bin .eql (.r 0) (.k (.int .i64 0))),
 p (.mov (.r 0)),
 ⟨.fad 6 (.v 1),some (0,true),[]⟩,
 ⟨.fad 0 (.r 0),some (1,true),[]⟩,
 ⟨.load (none) (.r 0),some (2,true),[]⟩,
 ⟨.call true (.k (.fn 64 [] [])) [.r 0],some (3,true),[]⟩,
 p (.pick (.r 4) (.r 0) (.k (.bool false))),
 p (.mov (.r 0))] [(2,.r 0)])
 .ret)
 (.seq
 (.reg false [p (.bin .eql (.v 23) (.k (.int .i64 2))),
 p (.mov (.r 0))] [(1,.v 1),(23,.v 23),(36,.r 0)])
 (.cond (.v 36)
 (.seq
 (.reg false [p (.fad 1 (.v 1)),
 p (.load (none) (.r 0)),
 p (.call true (.k (.fn 64 [] [])) [.r 0]),
 p (.mov (.r 0)),
 ⟨.fad 2 (.v 1),some (0,true),[]⟩,
 ⟨.load (none) (.r 0),some (1,true),[]⟩,
 ⟨.call true (.k (.fn 64 [] [])) [.r 0],some (2,true),[]⟩,
 p (.pick (.r 3) (.r 0) (.k (.bool false))),
 p (.mov (.r 0))] [(2,.r 0)])
 .ret)
 (.seq
 (.reg false [p (.bin .eql (.v 23) (.k (.int .i64 5))),
 p (.mov (.r 0))] [(1,.v 1),(23,.v 23),(46,.r 0)])
 (.cond (.v 46)
 (.seq
 (.reg false [p (.fad 5 (.v 1)),
 p (.load (none) (.r 0)),
 p (.bin .eql (.r 0) (.k (.str []))),
 p (.mov (.r 0)),
 ⟨.fad 5 (.v 1),some (0,false),[]⟩,
 ⟨.load (none) (.r 0),some (1,false),[]⟩,
 ⟨.call true (.k (.fn 64 [] [])) [.r 0],some (2,false),[]⟩,
 p (.pick (.r 3) (.k (.bool true)) (.r 0)),
 p (.mov (.r 0))] [(2,.r 0)])
 .ret)
 (.seq
 (.seq
 (.reg false [p (.bin .eql (.v 23) (.k (.int .i64 7))),
 p (.mov (.r 0))] [(1,.v 1),(23,.v 23),(56,.r 0)])
 (.cond (.v 56)
 .skip
 (.reg false [p (.bin .eql (.v 23) (.k (.int .i64 9))),
 p (.mov (.r 0))] [(1,.v 1),(56,.r 0)])))
 (.cond (.v 56)
 (.seq
 (.reg false [p (.fad 1 (.v 1)),
 p (.load (none) (.r 0)),
 p (.call true (.k (.fn 64 [] [])) [.r 0]),
 p (.mov (.r 0))] [(2,.r 0)])
 .ret)
 .skip))))))))))
 (.seq
 (.reg false [p (.mov (.k (.bool true)))] [(2,.r 0)])
 .ret))))
def r51:List RV:=[.t 2]
theorem en51:EnP Tryz.prog 51 62 c51 r51:=mkEnP (by kernel_rfl) Tryz.func51 (by kernel_rfl) ⟨_,rfl,by kernel_rfl,by kernel_rfl⟩
def c50:C :=
  (.seq
 (.reg false [p (.mov (.k (.bool false)))] [(0,.v 0)])
 (.seq
 (.reg false [p (.mov (.v 0)),
 p (.bin .lss (.r 0) (.k (.int .i64 0))),
 p (.mov (.r 0)),
 ⟨.mov (.v 0),some (0,false),[]⟩,
 ⟨.bin .gtr (.r 0) (.k (.int .i64 255)),some (1,false),[]⟩,
 p (.pick (.r 2) (.k (.bool true)) (.r 0)),
 p (.mov (.r 0))] [(2,.r 0)])
 .ret))
def r50:List RV:=[.t 2]
theorem chk50:Chk Tryz.prog Tryz.f50 c50 r50:=⟨_,rfl,by kernel_rfl,by kernel_rfl⟩
theorem ena50:EnA Tryz.prog 50 9 c50 r50:=mkEnA (by kernel_rfl) Tryz.func50 (by kernel_rfl) chk50
def c32:C :=
  (.seq
 (.reg false [p (.box 11 (.v 0)),
 p (.mov (.k (.bool false)))] [(1,.r 1)])
 (.seq
 (.block 0
 (.seq
 (.reg false [p (.fad 9 (.v 1)),
 p (.load (none) (.r 0)),
 p (.mov (.r 0))] [(1,.v 1),(3,.r 0)])
 (.cond (.v 3)
 (.seq
 (.reg false [p (.fad 8 (.v 1)),
 p (.load (none) (.r 0)),
 p (.un .not (.r 0)),
 p (.mov (.r 0)),
 ⟨.fad 0 (.v 1),some (0,true),[]⟩,
 ⟨.load (some 8) (.r 0),some (1,true),[]⟩,
 ⟨.call true (.k (.fn 48 [] [])) [.r 0],some (2,true),[]⟩,
 p (.pick (.r 3) (.r 0) (.k (.bool false))),
 p (.mov (.r 0)),
 ⟨.fad 10 (.v 1),some (0,true),[]⟩,
 ⟨.load (none) (.r 0),some (1,true),[]⟩,
 ⟨.len false (.r 0),some (2,true),[]⟩,
 ⟨.bin .leq (.r 0) (.k (.int .i64 64)),some (3,true),[]⟩,
 p (.pick (.r 4) (.r 0) (.k (.bool false))),
 p (.mov (.r 0)),
 ⟨.fad 10 (.v 1),some (0,true),[]⟩,
 ⟨.load (none) (.r 0),some (1,true),[]⟩,
 ⟨.call false (.k (.fn 49 [] [])) [.r 0,.k (.fn 50 [] [])],some (2,true),[]⟩,
 ⟨.un .not (.r 0),some (3,true),[]⟩,
 p (.pick (.r 4) (.r 0) (.k (.bool false))),
 p (.mov (.r 0))] [(2,.r 0)])
 .ret)
 (.seq
 (.reg false [p (.fad 8 (.v 1)),
 p (.load (none) (.r 0)),
 p (.mov (.r 0))] [(1,.v 1),(26,.r 0)])
 (.cond (.v 26)
 (.seq
 (.reg false [p (.fad 0 (.v 1)),
 p (.load (some 8) (.r 0)),
 p (.call true (.k (.fn 48 [] [])) [.r 0]),
 p (.mov (.r 0)),
 ⟨.fad 10 (.v 1),some (0,true),[]⟩,
 ⟨.load (none) (.r 0),some (1,true),[]⟩,
 ⟨.len false (.r 0),some (2,true),[]⟩,
 ⟨.bin .eql (.r 0) (.k (.int .i64 0)),some (3,true),[]⟩,
 p (.pick (.r 4) (.r 0) (.k (.bool false))),
 p (.mov (.r 0))] [(2,.r 0)])
 .ret)
 .skip)))))
 (.seq
 (.reg false [p (.fad 0 (.v 1)),
 p (.load (some 8) (.r 0)),
 p (.call true (.k (.fn 51 [] [])) [.r 0]),
 p (.mov (.r 0)),
 ⟨.fad 10 (.v 1),some (0,true),[]⟩,
 ⟨.load (none) (.r 0),some (1,true),[]⟩,
 ⟨.len false (.r 0),some (2,true),[]⟩,
 ⟨.bin .eql (.r 0) (.k (.int .i64 0)),some (3,true),[]⟩,
 p (.pick (.r 4) (.r 0) (.k (.bool false))),
 p (.mov (.r 0))] [(2,.r 0)])
 .ret)))
def r32:List RV:=[.t 2]
theorem en32:EnP Tryz.prog 32 47 c32 r32:=mkEnP (by kernel_rfl) Tryz.func32 (by kernel_rfl) ⟨_,rfl,by kernel_rfl,by kernel_rfl⟩
def c31:C :=
  (.seq
 (.reg false [p (.box 11 (.v 0)),
 p (.mov (.k (.bool false)))] [(1,.r 1)])
 (.seq
 (.reg false [p (.load (some 11) (.v 1)),
 p (.call true (.k (.fn 32 [] [])) [.r 0]),
 p (.un .not (.r 0)),
 p (.mov (.r 0))] [(2,.r 0)])
 .ret))
def r31:List RV:=[.t 2]
theorem chk31:Chk Tryz.prog Tryz.f31 c31 r31:=⟨_,rfl,by kernel_rfl,by kernel_rfl⟩
theorem ena31:EnA Tryz.prog 31 6 c31 r31:=mkEnA (by kernel_rfl) Tryz.func31 (by kernel_rfl) chk31
def c10:C :=
  (.seq
 (.reg false [p (.box 2 (.v 0)),
 p (.mov (.k (.bool false)))] [(1,.r 1)])
 (.seq
 (.reg false [p (.fad 0 (.v 1)),
 p (.load (none) (.r 0)),
 p (.bin .geq (.r 0) (.k (.int .i64 24))),
 p (.mov (.r 0)),
 ⟨.fad 0 (.v 1),some (0,true),[]⟩,
 ⟨.load (none) (.r 0),some (1,true),[]⟩,
 ⟨.bin .leq (.r 0) (.k (.int .i64 200)),some (2,true),[]⟩,
 p (.pick (.r 3) (.r 0) (.k (.bool false))),
 p (.mov (.r 0)),
 ⟨.fad 1 (.v 1),some (0,true),[]⟩,
 ⟨.load (none) (.r 0),some (1,true),[]⟩,
 ⟨.len false (.r 0),some (2,true),[]⟩,
 ⟨.bin .leq (.r 0) (.k (.int .i64 200)),some (3,true),[]⟩,
 p (.pick (.r 4) (.r 0) (.k (.bool false))),
 p (.mov (.r 0)),
 ⟨.fad 1 (.v 1),some (0,true),[]⟩,
 ⟨.load (none) (.r 0),some (1,true),[]⟩,
 ⟨.call false (.k (.fn 30 [] [])) [.r 0,.k (.fn 31 [] [])],some (2,true),[]⟩,
 ⟨.un .not (.r 0),some (3,true),[]⟩,
 p (.pick (.r 4) (.r 0) (.k (.bool false))),
 p (.mov (.r 0))] [(2,.r 0)])
 .ret))
def r10:List RV:=[.t 2]
theorem en10:EnP Tryz.prog 10 23 c10 r10:=mkEnP (by kernel_rfl) Tryz.func10 (by kernel_rfl) ⟨_,rfl,by kernel_rfl,by kernel_rfl⟩
def c46:C :=
  (.seq
 (.reg false [p (.mov (.k (.fsl .nil 1 [])))] [(0,.v 0)])
 (.seq
 (.reg false [p (.mov (.k (.fsl .nil 1 [])))] [(0,.v 0),(3,.r 0)])
 (.seq
 (.seq
 (.reg false [p (.mov (.v 0)),
 p (.len false (.r 0)),
 p (.mov (.k (.int .i64 0)))] [(3,.v 3),(6,.r 2),(7,.r 1),(8,.r 0)])
 (.block 0
 (.loop
 (.seq
 (.reg false [p (.bin .lss (.v 8) (.v 7))] [(3,.v 3),(6,.v 6),(7,.v 7),(8,.v 8),(9,.r 0)])
 (.seq
 (.cond (.v 9)
 .skip
 (.exit 0))
 (.seq
 (.block 1
 (.seq
 (.reg false [p (.iad 1 (.v 6) (.v 8)),
 p (.load (none) (.r 0)),
 p (.mov (.r 0))] [(3,.v 3),(5,.r 0),(6,.v 6),(7,.v 7),(8,.v 8)])
 (.reg false [p (.mov (.v 3)),
 p (.mov (.v 5)),
 p (.call true (.k (.fn 27 [] [])) [.r 0]),
 p (.bsl 1 [.r 0]),
 p (.app 1 16 (.r 3) (.r 0)),
 p (.mov (.r 0))] [(3,.r 0),(6,.v 6),(7,.v 7),(8,.v 8)])))
 (.reg false [p (.bin .add (.v 8) (.k (.int .i64 1))),
 p (.mov (.r 0))] [(3,.v 3),(6,.v 6),(7,.v 7),(8,.r 0)])))))))
 (.frz
 (.seq
 (.reg false [p (.mov (.v 3)),
 p (.mov (.r 0))] [(2,.r 0)])
 .ret)))))
def c57:C :=
  (.seq
 (.reg false [p (.mov (.k (.bool false)))] [(0,.v 0)])
 (.seq
 (.seq
 (.reg false [p (.mov (.k (.int .i64 0)))] [(0,.v 0),(3,.r 0)])
 (.block 0
 (.loop
 (.seq
 (.seq
 (.reg false [p (.mov (.v 3)),
 p (.mov (.v 0)),
 p (.len true (.r 0)),
 p (.bin .lss (.r 2) (.r 0))] [(0,.v 0),(3,.v 3),(7,.r 0)])
 (.cond (.v 7)
 .skip
 (.exit 0)))
 (.seq
 (.block 1
 (.seq
 (.reg false [p (.mov (.v 0)),
 p (.mov (.v 3)),
 p (.ixs (.r 1) (.r 0)),
 p (.bin .lss (.r 0) (.k (.int .u8 97))),
 p (.mov (.r 0)),
 ⟨.mov (.v 0),some (0,false),[]⟩,
 ⟨.mov (.v 3),some (1,false),[]⟩,
 ⟨.ixs (.r 1) (.r 0),some (2,false),[]⟩,
 ⟨.bin .gtr (.r 0) (.k (.int .u8 122)),some (3,false),[]⟩,
 p (.pick (.r 4) (.k (.bool true)) (.r 0))] [(0,.v 0),(3,.v 3),(19,.r 0)])
 (.cond (.v 19)
 (.seq
 (.reg false [p (.mov (.k (.bool false)))] [(2,.r 0)])
 .ret)
 .skip)))
 (.reg false [p (.mov (.v 3)),
 p (.bin .add (.r 0) (.k (.int .i64 1))),
 p (.mov (.r 0))] [(0,.v 0),(3,.r 0)]))))))
 (.frz
 (.seq
 (.reg false [p (.mov (.v 0)),
 p (.len true (.r 0)),
 p (.bin .geq (.r 0) (.k (.int .i64 1))),
 p (.mov (.r 0)),
 ⟨.mov (.v 0),some (0,true),[]⟩,
 ⟨.len true (.r 0),some (1,true),[]⟩,
 ⟨.bin .leq (.r 0) (.k (.int .i64 16)),some (2,true),[]⟩,
 p (.pick (.r 3) (.r 0) (.k (.bool false))),
 p (.mov (.r 0))] [(2,.r 0)])
 .ret))))
def r57:List RV:=[.t 2]
theorem en57:EnP Tryz.prog 57 28 c57 r57:=mkEnP (by kernel_rfl) Tryz.func57 (by kernel_rfl) ⟨_,rfl,by kernel_rfl,by kernel_rfl⟩
def c39:C :=
  (.seq
 (.reg false [p (.box 8 (.v 0)),
 p (.mov (.k (.bool false)))] [(1,.r 1)])
 (.seq
 (.reg false [p (.load (some 8) (.v 1)),
 p (.build [.int .i64 0,.str [],.str [],.int .i64 0,.int .i64 0,.str [],.str [],.fsl .nil 4 []] []),
 p (.call true (.k (.fn 24 [] [])) [.r 1,.r 0]),
 p (.mov (.r 0))] [(2,.r 0)])
 .ret))
def r39:List RV:=[.t 2]
theorem en39:EnP Tryz.prog 39 6 c39 r39:=mkEnP (by kernel_rfl) Tryz.func39 (by kernel_rfl) ⟨_,rfl,by kernel_rfl,by kernel_rfl⟩
def c40:C :=
  (.seq
 (.reg false [p (.box 8 (.v 0)),
 p (.mov (.k (.bool false)))] [(1,.r 1)])
 (.seq
 (.reg false [p (.load (some 8) (.v 1)),
 p (.call true (.k (.fn 56 [] [])) [.r 0]),
 p (.mov (.r 0)),
 p (.ext (.r 0) 0),
 p (.ext (.r 1) 1),
 p (.mov (.r 1)),
 p (.mov (.r 1))] [(1,.v 1),(4,.r 0)])
 (.seq
 (.seq
 (.reg false [p (.mov (.v 4)),
 p (.bin .neq (.r 0) (.k (.int .i64 0))),
 p (.mov (.r 0)),
 ⟨.fad 3 (.v 1),some (0,false),[]⟩,
 ⟨.load (none) (.r 0),some (1,false),[]⟩,
 ⟨.bin .gtr (.r 0) (.k (.int .i64 1099511627776)),some (2,false),[]⟩,
 p (.pick (.r 3) (.k (.bool true)) (.r 0)),
 p (.mov (.r 0)),
 ⟨.fad 4 (.v 1),some (0,false),[]⟩,
 ⟨.load (none) (.r 0),some (1,false),[]⟩,
 ⟨.bin .gtr (.r 0) (.k (.int .i64 1099511627776)),some (2,false),[]⟩,
 p (.pick (.r 3) (.k (.bool true)) (.r 0))] [(1,.v 1),(21,.r 0)])
 (.cond (.v 21)
 (.seq
 (.reg false [p (.mov (.k (.bool false)))] [(2,.r 0)])
 .ret)
 .skip))
 (.seq
 (.seq
 (.reg false [p (.fad 0 (.v 1)),
 p (.load (none) (.r 0)),
 p (.bin .eql (.r 0) (.k (.int .i64 1)))] [(1,.v 1),(24,.r 0)])
 (.cond (.v 24)
 (.seq
 (.reg false [p (.fad 6 (.v 1)),
 p (.fad 0 (.r 0)),
 p (.load (none) (.r 0)),
 p (.call true (.k (.fn 57 [] [])) [.r 0]),
 p (.mov (.r 0))] [(2,.r 0)])
 .ret)
 .skip))
 (.seq
 (.seq
 (.reg false [p (.fad 0 (.v 1)),
 p (.load (none) (.r 0)),
 p (.bin .eql (.r 0) (.k (.int .i64 2)))] [(1,.v 1),(31,.r 0)])
 (.cond (.v 31)
 (.seq
 (.reg false [p (.fad 1 (.v 1)),
 p (.load (none) (.r 0)),
 p (.call true (.k (.fn 57 [] [])) [.r 0]),
 p (.mov (.r 0)),
 ⟨.fad 2 (.v 1),some (0,true),[]⟩,
 ⟨.load (none) (.r 0),some (1,true),[]⟩,
 ⟨.call true (.k (.fn 57 [] [])) [.r 0],some (2,true),[]⟩,
 p (.pick (.r 3) (.r 0) (.k (.bool false))),
 p (.mov (.r 0))] [(2,.r 0)])
 .ret)
 .skip))
 (.seq
 (.seq
 (.reg false [p (.fad 0 (.v 1)),
 p (.load (none) (.r 0)),
 p (.bin .eql (.r 0) (.k (.int .i64 5)))] [(1,.v 1),(42,.r 0)])
 (.cond (.v 42)
 (.seq
 (.reg false [p (.fad 5 (.v 1)),
 p (.load (none) (.r 0)),
 p (.bin .eql (.r 0) (.k (.str []))),
 p (.mov (.r 0)),
 ⟨.fad 5 (.v 1),some (0,false),[]⟩,
 ⟨.load (none) (.r 0),some (1,false),[]⟩,
 ⟨.call true (.k (.fn 57 [] [])) [.r 0],some (2,false),[]⟩,
 p (.pick (.r 3) (.k (.bool true)) (.r 0)),
 p (.mov (.r 0))] [(2,.r 0)])
 .ret)
 .skip))
 (.seq
 (.seq
 (.reg false [p (.fad 0 (.v 1)),
 p (.load (none) (.r 0)),
 p (.bin .eql (.r 0) (.k (.int .i64 7))),
 p (.mov (.r 0)),
 ⟨.fad 0 (.v 1),some (0,false),[]⟩,
 ⟨.load (none) (.r 0),some (1,false),[]⟩,
 ⟨.bin .eql (.r 0) (.k (.int .i64 9)),some (2,false),[]⟩,
 p (.pick (.r 3) (.k (.bool true)) (.r 0))] [(1,.v 1),(58,.r 0)])
 (.cond (.v 58)
 (.seq
 (.reg false [p (.fad 1 (.v 1)),
 p (.load (none) (.r 0)),
 p (.call true (.k (.fn 57 [] [])) [.r 0]),
 p (.mov (.r 0))] [(2,.r 0)])
 .ret)
 .skip))
 (.seq
 (.reg false [p (.mov (.k (.bool true)))] [(2,.r 0)])
 .ret))))))))
def r40:List RV:=[.t 2]
theorem en40:EnP Tryz.prog 40 62 c40 r40:=mkEnP (by kernel_rfl) Tryz.func40 (by kernel_rfl) ⟨_,rfl,by kernel_rfl,by kernel_rfl⟩
def c21:C :=
  (.seq
 (.reg false [p (.box 11 (.v 0)),
 p (.mov (.k (.bool false)))] [(1,.r 1)])
 (.seq
 (.seq
 (.reg false [p (.fad 10 (.v 1)),
 p (.load (none) (.r 0)),
 p (.len false (.r 0)),
 p (.mov (.k (.int .i64 0)))] [(1,.v 1),(6,.r 2),(7,.r 1),(8,.r 0)])
 (.block 0
 (.loop
 (.seq
 (.reg false [p (.bin .lss (.v 8) (.v 7))] [(1,.v 1),(6,.v 6),(7,.v 7),(8,.v 8),(9,.r 0)])
 (.seq
 (.cond (.v 9)
 .skip
 (.exit 0))
 (.seq
 (.block 1
 (.seq
 (.reg false [p (.iad 1 (.v 6) (.v 8)),
 p (.load (none) (.r 0)),
 p (.mov (.r 0))] [(1,.v 1),(4,.r 0),(6,.v 6),(7,.v 7),(8,.v 8)])
 (.seq
 (.reg false [p (.mov (.v 4)),
 p (.bin .lss (.r 0) (.k (.int .i64 0))),
 p (.mov (.r 0)),
 ⟨.mov (.v 4),some (0,false),[]⟩,
 ⟨.bin .gtr (.r 0) (.k (.int .i64 255)),some (1,false),[]⟩,
 p (.pick (.r 2) (.k (.bool true)) (.r 0)),
 p (.mov (.r 0)),
 ⟨.fad 9 (.v 1),some (0,false),[]⟩,
 ⟨.load (none) (.r 0),some (1,false),[]⟩,
 ⟨.un .not (.r 0),some (2,false),[]⟩,
 p (.pick (.r 3) (.k (.bool true)) (.r 0))] [(1,.v 1),(6,.v 6),(7,.v 7),(8,.v 8),(22,.r 0)])
 (.cond (.v 22)
 (.seq
 (.reg false [p (.mov (.k (.bool false)))] [(2,.r 0)])
 .ret)
 .skip))))
 (.reg false [p (.bin .add (.v 8) (.k (.int .i64 1))),
 p (.mov (.r 0))] [(1,.v 1),(6,.v 6),(7,.v 7),(8,.r 0)])))))))
 (.frz
 (.seq
 (.seq
 (.reg false [p (.fad 9 (.v 1)),
 p (.load (none) (.r 0))] [(1,.v 1),(25,.r 0)])
 (.cond (.v 25)
 (.seq
 (.reg false [p (.fad 8 (.v 1)),
 p (.load (none) (.r 0)),
 p (.un .not (.r 0)),
 p (.mov (.r 0)),
 ⟨.fad 0 (.v 1),some (0,true),[]⟩,
 ⟨.load (some 8) (.r 0),some (1,true),[]⟩,
 ⟨.call true (.k (.fn 39 [] [])) [.r 0],some (2,true),[]⟩,
 p (.pick (.r 3) (.r 0) (.k (.bool false))),
 p (.mov (.r 0)),
 ⟨.fad 10 (.v 1),some (0,true),[]⟩,
 ⟨.load (none) (.r 0),some (1,true),[]⟩,
 ⟨.len false (.r 0),some (2,true),[]⟩,
 ⟨.bin .leq (.r 0) (.k (.int .i64 64)),some (3,true),[]⟩,
 p (.pick (.r 4) (.r 0) (.k (.bool false))),
 p (.mov (.r 0))] [(2,.r 0)])
 .ret)
 .skip))
 (.seq
 (.seq
 (.reg false [p (.fad 8 (.v 1)),
 p (.load (none) (.r 0))] [(1,.v 1),(41,.r 0)])
 (.cond (.v 41)
 (.seq
 (.reg false [p (.fad 0 (.v 1)),
 p (.load (some 8) (.r 0)),
 p (.call true (.k (.fn 39 [] [])) [.r 0]),
 p (.mov (.r 0))] [(2,.r 0)])
 .ret)
 .skip))
 (.seq
 (.reg false [p (.fad 0 (.v 1)),
 p (.load (some 8) (.r 0)),
 p (.call true (.k (.fn 40 [] [])) [.r 0]),
 p (.mov (.r 0))] [(2,.r 0)])
 .ret))))))
def r21:List RV:=[.t 2]
theorem en21:EnP Tryz.prog 21 48 c21 r21:=mkEnP (by kernel_rfl) Tryz.func21 (by kernel_rfl) ⟨_,rfl,by kernel_rfl,by kernel_rfl⟩
def c19:C :=
  (.seq
 (.reg false [p (.box 2 (.v 0)),
 p (.mov (.k (.bool false)))] [(1,.r 1)])
 (.seq
 (.seq
 (.reg false [p (.fad 1 (.v 1)),
 p (.load (none) (.r 0)),
 p (.len false (.r 0)),
 p (.mov (.k (.int .i64 0)))] [(1,.v 1),(6,.r 2),(7,.r 1),(8,.r 0)])
 (.block 0
 (.loop
 (.seq
 (.reg false [p (.bin .lss (.v 8) (.v 7))] [(1,.v 1),(6,.v 6),(7,.v 7),(8,.v 8),(9,.r 0)])
 (.seq
 (.cond (.v 9)
 .skip
 (.exit 0))
 (.seq
 (.block 1
 (.seq
 (.reg false [p (.iad 11 (.v 6) (.v 8)),
 p (.load (some 11) (.r 0)),
 p (.alloc 11 (.agg [.int .i64 0,.str [],.str [],.int .i64 0,.int .i64 0,.str [],.str [],.fsl .nil 4 [],.bool false,.bool false,.fsl .nil 1 []])),
 p (.store (some 11) (.r 0) (.r 1))] [(1,.v 1),(4,.r 1),(6,.v 6),(7,.v 7),(8,.v 8)])
 (.seq
 (.reg false [p (.load (some 11) (.v 4)),
 p (.call true (.k (.fn 21 [] [])) [.r 0]),
 p (.un .not (.r 0))] [(1,.v 1),(6,.v 6),(7,.v 7),(8,.v 8),(14,.r 0)])
 (.cond (.v 14)
 (.seq
 (.reg false [p (.mov (.k (.bool false)))] [(2,.r 0)])
 .ret)
 .skip))))
 (.reg false [p (.bin .add (.v 8) (.k (.int .i64 1))),
 p (.mov (.r 0))] [(1,.v 1),(6,.v 6),(7,.v 7),(8,.r 0)])))))))
 (.frz
 (.seq
 (.reg false [p (.fad 0 (.v 1)),
 p (.load (none) (.r 0)),
 p (.bin .geq (.r 0) (.k (.int .i64 24))),
 p (.mov (.r 0)),
 ⟨.fad 0 (.v 1),some (0,true),[]⟩,
 ⟨.load (none) (.r 0),some (1,true),[]⟩,
 ⟨.bin .leq (.r 0) (.k (.int .i64 200)),some (2,true),[]⟩,
 p (.pick (.r 3) (.r 0) (.k (.bool false))),
 p (.mov (.r 0)),
 ⟨.fad 1 (.v 1),some (0,true),[]⟩,
 ⟨.load (none) (.r 0),some (1,true),[]⟩,
 ⟨.len false (.r 0),some (2,true),[]⟩,
 ⟨.bin .leq (.r 0) (.k (.int .i64 200)),some (3,true),[]⟩,
 p (.pick (.r 4) (.r 0) (.k (.bool false))),
 p (.mov (.r 0))] [(2,.r 0)])
 .ret))))
def r19:List RV:=[.t 2]
theorem en19:EnP Tryz.prog 19 30 c19 r19:=mkEnP (by kernel_rfl) Tryz.func19 (by kernel_rfl) ⟨_,rfl,by kernel_rfl,by kernel_rfl⟩
def c41:C :=
  (.seq
 (.reg false [p (.box 2 (.v 0)),
 p (.mov (.k (.str [])))] [(1,.r 1)])
 (.seq
 (.reg false [p (.fad 0 (.v 1)),
 p (.load (none) (.r 0)),
 p (.bin .add (.k (.str [103,114,97,112,104,32])) (.r 0)),
 p (.mov (.r 0))] [(1,.v 1),(3,.r 0)])
 (.seq
 (.seq
 (.reg false [p (.fad 1 (.v 1)),
 p (.load (none) (.r 0)),
 p (.len false (.r 0)),
 p (.mov (.k (.int .i64 0)))] [(3,.v 3),(12,.r 2),(13,.r 1),(14,.r 0)])
 (.block 0
 (.loop
 (.seq
 (.reg false [p (.bin .lss (.v 14) (.v 13))] [(3,.v 3),(12,.v 12),(13,.v 13),(14,.v 14),(15,.r 0)])
 (.seq
 (.cond (.v 15)
 .skip
 (.exit 0))
 (.seq
 (.block 1
 (.seq
 (.reg false [p (.iad 4 (.v 12) (.v 14)),
 p (.load (some 4) (.r 0)),
 p (.alloc 4 (.agg [.fsl .nil 1 [],.int .i64 0,.int .i64 0,.int .i64 0])),
 p (.store (some 4) (.r 0) (.r 1))] [(3,.v 3),(5,.r 1),(12,.v 12),(13,.v 13),(14,.v 14)])
 (.seq
 (.reg true [p (.mov (.v 3)),
 p (.bin .add (.r 0) (.k (.str [32]))),
 p (.fad 1 (.v 5)),
 p (.load (none) (.r 0)),
 p (.call true (.k (.fn 27 [] [])) [.r 0]),
 p (.bin .add (.r 3) (.r 0)),
 p (.bin .add (.r 0) (.k (.str [44]))),
 p (.fad 2 (.v 5)),
 p (.load (none) (.r 0)),
 p (.call true (.k (.fn 27 [] [])) [.r 0]),
 p (.bin .add (.r 3) (.r 0)),
 p (.bin .add (.r 0) (.k (.str [44]))),
 p (.fad 3 (.v 5)),
 p (.load (none) (.r 0)),
 p (.call true (.k (.fn 27 [] [])) [.r 0]),
 p (.bin .add (.r 3) (.r 0)),
 p (.mov (.r 0))] [(3,.r 0),(5,.v 5),(12,.v 12),(13,.v 13),(14,.v 14)])
 (.seq
 (.reg false [p (.fad 0 (.v 5)),
 p (.load (none) (.r 0)),
 p (.len false (.r 0)),
 p (.mov (.k (.int .i64 0)))] [(3,.v 3),(12,.v 12),(13,.v 13),(14,.v 14),(35,.r 2),(36,.r 1),(37,.r 0)])
 (.block 2
 (.loop
 (.seq
 (.reg false [p (.bin .lss (.v 37) (.v 36))] [(3,.v 3),(12,.v 12),(13,.v 13),(14,.v 14),(35,.v 35),(36,.v 36),(37,.v 37),(38,.r 0)])
 (.seq
 (.cond (.v 38)
 .skip
 (.exit 2))
 (.seq
 (.block 3
 (.seq
 (.reg false [p (.iad 1 (.v 35) (.v 37)),
 p (.load (none) (.r 0)),
 p (.mov (.r 0))] [(3,.v 3),(7,.r 0),(12,.v 12),(13,.v 13),(14,.v 14),(35,.v 35),(36,.v 36),(37,.v 37)])
 (.reg false [p (.mov (.v 3)),
 p (.bin .add (.r 0) (.k (.str [44]))),
 p (.mov (.v 7)),
 p (.call true (.k (.fn 27 [] [])) [.r 0]),
 p (.bin .add (.r 2) (.r 0)),
 p (.mov (.r 0))] [(3,.r 0),(12,.v 12),(13,.v 13),(14,.v 14),(35,.v 35),(36,.v 36),(37,.v 37)])))
 (.reg false [p (.bin .add (.v 37) (.k (.int .i64 1))),
 p (.mov (.r 0))] [(3,.v 3),(12,.v 12),(13,.v 13),(14,.v 14),(35,.v 35),(36,.v 36),(37,.r 0)]))))))))))
 (.frz
 (.reg false [p (.bin .add (.v 14) (.k (.int .i64 1))),
 p (.mov (.r 0))] [(3,.v 3),(12,.v 12),(13,.v 13),(14,.r 0)]))))))))
 (.frz
 (.seq
 (.reg false [p (.mov (.v 3)),
 p (.mov (.r 0))] [(2,.r 0)])
 .ret)))))
def r41:List RV:=[.t 2]
theorem en41:EnP Tryz.prog 41 49 c41 r41:=mkEnP (by kernel_rfl) Tryz.func41 (by kernel_rfl) ⟨_,rfl,by kernel_rfl,by kernel_rfl⟩
def c22:C :=
  (.seq
 (.reg false [p (.box 11 (.v 0)),
 p (.mov (.k (.str [])))] [(1,.r 1)])
 (.seq
 (.reg false [p (.fad 0 (.v 1)),
 p (.load (some 8) (.r 0)),
 p (.alloc 8 (.agg [.int .i64 0,.str [],.str [],.int .i64 0,.int .i64 0,.str [],.str [],.fsl .nil 4 []])),
 p (.store (some 8) (.r 0) (.r 1))] [(1,.v 1),(3,.r 1)])
 (.seq
 (.reg false [p (.fad 3 (.v 3)),
 p (.load (none) (.r 0)),
 p (.call true (.k (.fn 27 [] [])) [.r 0]),
 p (.mov (.r 0))] [(1,.v 1),(3,.v 3),(4,.r 0)])
 (.seq
 (.seq
 (.reg false [p (.fad 9 (.v 1)),
 p (.load (none) (.r 0))] [(1,.v 1),(3,.v 3),(4,.v 4),(14,.r 0)])
 (.cond (.v 14)
 (.seq
 (.reg false [p (.mov (.k (.str [99,114,97,115,104])))] [(1,.v 1),(5,.r 0)])
 (.seq
 (.seq
 (.reg false [p (.fad 10 (.v 1)),
 p (.load (none) (.r 0)),
 p (.len false (.r 0)),
 p (.mov (.k (.int .i64 0)))] [(5,.v 5),(16,.r 2),(17,.r 1),(18,.r 0)])
 (.block 0
 (.loop
 (.seq
 (.reg false [p (.bin .lss (.v 18) (.v 17))] [(5,.v 5),(16,.v 16),(17,.v 17),(18,.v 18),(19,.r 0)])
 (.seq
 (.cond (.v 19)
 .skip
 (.exit 0))
 (.seq
 (.block 1
 (.seq
 (.reg false [p (.iad 1 (.v 16) (.v 18)),
 p (.load (none) (.r 0)),
 p (.mov (.r 0))] [(5,.v 5),(7,.r 0),(16,.v 16),(17,.v 17),(18,.v 18)])
 (.reg false [p (.mov (.v 5)),
 p (.bin .add (.r 0) (.k (.str [32]))),
 p (.mov (.v 7)),
 p (.call true (.k (.fn 27 [] [])) [.r 0]),
 p (.bin .add (.r 2) (.r 0)),
 p (.mov (.r 0))] [(5,.r 0),(16,.v 16),(17,.v 17),(18,.v 18)])))
 (.reg false [p (.bin .add (.v 18) (.k (.int .i64 1))),
 p (.mov (.r 0))] [(5,.v 5),(16,.v 16),(17,.v 17),(18,.r 0)])))))))
 (.frz
 (.seq
 (.reg false [p (.mov (.v 5)),
 p (.mov (.r 0))] [(2,.r 0)])
 .ret))))
 .skip))
 (.frz
 (.seq
 (.seq
 (.reg false [p (.fad 8 (.v 1)),
 p (.load (none) (.r 0))] [(3,.v 3),(4,.v 4),(30,.r 0)])
 (.cond (.v 30)
 (.seq
 (.reg false [p (.mov (.k (.str [99,104,101,99,107])))] [(2,.r 0)])
 .ret)
 .skip))
 (.seq
 (.seq
 (.reg false [p (.fad 0 (.v 3)),
 p (.load (none) (.r 0))] [(3,.v 3),(4,.v 4),(32,.r 0)])
 (.block 2
 (.seq
 (.reg false [p (.bin .eql (.v 32) (.k (.int .i64 1))),
 p (.mov (.r 0))] [(3,.v 3),(4,.v 4),(32,.v 32),(33,.r 0)])
 (.cond (.v 33)
 (.seq
 (.reg false [p (.fad 6 (.v 3)),
 p (.load (some 2) (.r 0)),
 p (.call true (.k (.fn 41 [] [])) [.r 0]),
 p (.mov (.r 0))] [(2,.r 0)])
 .ret)
 (.seq
 (.reg false [p (.bin .eql (.v 32) (.k (.int .i64 2))),
 p (.mov (.r 0))] [(3,.v 3),(4,.v 4),(32,.v 32),(38,.r 0)])
 (.cond (.v 38)
 (.seq
 (.reg false [p (.fad 1 (.v 3)),
 p (.load (none) (.r 0)),
 p (.bin .add (.k (.str [115,116,97,114,116,32])) (.r 0)),
 p (.bin .add (.r 0) (.k (.str [32]))),
 p (.fad 2 (.v 3)),
 p (.load (none) (.r 0)),
 p (.bin .add (.r 2) (.r 0)),
 p (.mov (.r 0))] [(2,.r 0)])
 .ret)
 (.seq
 (.reg false [p (.bin .eql (.v 32) (.k (.int .i64 3))),
 p (.mov (.r 0))] [(3,.v 3),(4,.v 4),(32,.v 32),(47,.r 0)])
 (.cond (.v 47)
 (.seq
 (.reg false [p (.mov (.k (.str [112,111,108,108])))] [(2,.r 0)])
 .ret)
 (.seq
 (.reg false [p (.bin .eql (.v 32) (.k (.int .i64 4))),
 p (.mov (.r 0))] [(3,.v 3),(4,.v 4),(32,.v 32),(49,.r 0)])
 (.cond (.v 49)
 (.seq
 (.reg false [p (.mov (.v 4)),
 p (.bin .add (.k (.str [98,101,97,116,32])) (.r 0)),
 p (.mov (.r 0))] [(2,.r 0)])
 .ret)
 (.seq
 (.reg false [p (.bin .eql (.v 32) (.k (.int .i64 5))),
 p (.mov (.r 0))] [(3,.v 3),(4,.v 4),(32,.v 32),(53,.r 0)])
 (.cond (.v 53)
 (.seq
 (.seq
 (.reg false [p (.fad 5 (.v 3)),
 p (.load (none) (.r 0)),
 p (.bin .neq (.r 0) (.k (.str [])))] [(3,.v 3),(4,.v 4),(57,.r 0)])
 (.cond (.v 57)
 (.seq
 (.reg false [p (.mov (.v 4)),
 p (.bin .add (.k (.str [100,111,110,101,32])) (.r 0)),
 p (.bin .add (.r 0) (.k (.str [32]))),
 p (.fad 5 (.v 3)),
 p (.load (none) (.r 0)),
 p (.bin .add (.r 2) (.r 0)),
 p (.mov (.r 0))] [(2,.r 0)])
 .ret)
 .skip))
 (.seq
 (.reg false [p (.mov (.v 4)),
 p (.bin .add (.k (.str [100,111,110,101,32])) (.r 0)),
 p (.mov (.r 0))] [(2,.r 0)])
 .ret))
 (.seq
 (.reg false [p (.bin .eql (.v 32) (.k (.int .i64 6))),
 p (.mov (.r 0))] [(3,.v 3),(4,.v 4),(32,.v 32),(66,.r 0)])
 (.cond (.v 66)
 (.seq
 (.reg false [p (.mov (.v 4)),
 p (.bin .add (.k (.str [102,97,105,108,32])) (.r 0)),
 p (.mov (.r 0))] [(2,.r 0)])
 .ret)
 (.seq
 (.reg false [p (.bin .eql (.v 32) (.k (.int .i64 7))),
 p (.mov (.r 0))] [(3,.v 3),(32,.v 32),(70,.r 0)])
 (.cond (.v 70)
 (.seq
 (.reg false [p (.fad 1 (.v 3)),
 p (.load (none) (.r 0)),
 p (.bin .add (.k (.str [99,97,110,99,101,108,32])) (.r 0)),
 p (.mov (.r 0))] [(2,.r 0)])
 .ret)
 (.seq
 (.reg false [p (.bin .eql (.v 32) (.k (.int .i64 8))),
 p (.mov (.r 0))] [(3,.v 3),(32,.v 32),(75,.r 0)])
 (.cond (.v 75)
 (.seq
 (.reg false [p (.fad 4 (.v 3)),
 p (.load (none) (.r 0)),
 p (.call true (.k (.fn 27 [] [])) [.r 0]),
 p (.bin .add (.k (.str [116,105,99,107,32])) (.r 0)),
 p (.mov (.r 0))] [(2,.r 0)])
 .ret)
 (.seq
 (.reg false [p (.bin .eql (.v 32) (.k (.int .i64 9))),
 p (.mov (.r 0))] [(3,.v 3),(81,.r 0)])
 (.cond (.v 81)
 (.seq
 (.reg false [p (.fad 1 (.v 3)),
 p (.load (none) (.r 0)),
 p (.bin .add (.k (.str [115,116,97,116,101,32])) (.r 0)),
 p (.mov (.r 0))] [(2,.r 0)])
 .ret)
 .skip))))))))))))))))))))
 (.seq
 (.reg false [p (.mov (.k (.str [115,121,110,99])))] [(2,.r 0)])
 .ret))))))))
def r22:List RV:=[.t 2]
theorem en22:EnP Tryz.prog 22 86 c22 r22:=mkEnP (by kernel_rfl) Tryz.func22 (by kernel_rfl) ⟨_,rfl,by kernel_rfl,by kernel_rfl⟩
def c7:C :=
  (.seq
 (.reg false [p (.mov (.k (.bool false)))] [])
 (.seq
 (.reg false [p (.build [.int .i64 0,.fsl .nil 11 []] [(0,1,.k (.int .i64 24))]),
 p (.call true (.k (.fn 10 [] [])) [.r 0]),
 p (.mov (.r 0))] [(0,.r 0)])
 .ret))
def r7:List RV:=[.t 0]
theorem en7:EnP Tryz.prog 7 3 c7 r7:=mkEnP (by kernel_rfl) Tryz.func7 (by kernel_rfl) ⟨_,rfl,by kernel_rfl,by kernel_rfl⟩
theorem p_none (c:Cmd):PCall Tryz.prog 48 [cmdV c] (.bool (noneC c)):=by
  refine en48 (by simp) (by simp [closedL,cmdV_closed]) ?_
  by_cases a0:c.kind=0
  case neg =>
    have e:noneC c=false:=decide_eq_false fun h => a0 h.1
    simp (maxSteps:=1000000) (disch:=omega) only [rg,gD,simprocAttr,c48,cmdV,tasksV,mv_len,a0]
    (refine fin_x rfl ?_ ?_<;>simp [pack,lo,loL,V.closed,closedL,mv_closed,e])
  by_cases a1:c.key=[]
  case neg =>
    have e:noneC c=false:=decide_eq_false fun h => a1 h.2.1
    simp (maxSteps:=1000000) (disch:=omega) only [rg,gD,simprocAttr,c48,cmdV,tasksV,mv_len,a0,a1]
    (refine fin_x rfl ?_ ?_<;>simp [pack,lo,loL,V.closed,closedL,mv_closed,e])
  by_cases a2:c.name=[]
  case neg =>
    have e:noneC c=false:=decide_eq_false fun h => a2 h.2.2.1
    simp (maxSteps:=1000000) (disch:=omega) only [rg,gD,simprocAttr,c48,cmdV,tasksV,mv_len,a0,a1,a2]
    (refine fin_x rfl ?_ ?_<;>simp [pack,lo,loL,V.closed,closedL,mv_closed,e])
  by_cases a3:c.token=0
  case neg =>
    have e:noneC c=false:=decide_eq_false fun h => a3 h.2.2.2.1
    simp (maxSteps:=1000000) (disch:=omega) only [rg,gD,simprocAttr,c48,cmdV,tasksV,mv_len,a0,a1,a2,a3]
    (refine fin_x rfl ?_ ?_<;>simp [pack,lo,loL,V.closed,closedL,mv_closed,e])
  by_cases a4:c.time=0
  case neg =>
    have e:noneC c=false:=decide_eq_false fun h => a4 h.2.2.2.2.1
    simp (maxSteps:=1000000) (disch:=omega) only [rg,gD,simprocAttr,c48,cmdV,tasksV,mv_len,a0,a1,a2,a3,a4]
    (refine fin_x rfl ?_ ?_<;>simp [pack,lo,loL,V.closed,closedL,mv_closed,e])
  by_cases a5:c.text=[]
  case neg =>
    have e:noneC c=false:=decide_eq_false fun h => a5 h.2.2.2.2.2.1
    simp (maxSteps:=1000000) (disch:=omega) only [rg,gD,simprocAttr,c48,cmdV,tasksV,mv_len,a0,a1,a2,a3,a4,a5]
    (refine fin_x rfl ?_ ?_<;>simp [pack,lo,loL,V.closed,closedL,mv_closed,e])
  by_cases a6:c.dag.name=[]
  case neg =>
    have e:noneC c=false:=decide_eq_false fun h => a6 h.2.2.2.2.2.2.1
    simp (maxSteps:=1000000) (disch:=omega) only [rg,gD,simprocAttr,c48,cmdV,tasksV,mv_len,a0,a1,a2,a3,a4,a5,a6]
    (refine fin_x rfl ?_ ?_<;>simp [pack,lo,loL,V.closed,closedL,mv_closed,e])
  by_cases a7:c.dag.tasks.length=0
  case neg =>
    have e:noneC c=false:=decide_eq_false fun h => a7 h.2.2.2.2.2.2.2
    simp (maxSteps:=1000000) (disch:=omega) only [rg,gD,simprocAttr,c48,cmdV,tasksV,mv_len,a0,a1,a2,a3,a4,a5,a6,show ¬ (c.dag.tasks.length:Int)=0 by omega]
    (refine fin_x rfl ?_ ?_<;>simp [pack,lo,loL,V.closed,closedL,mv_closed,e])
  have e:noneC c=true:=decide_eq_true ⟨a0,a1,a2,a3,a4,a5,a6,a7⟩
  simp (maxSteps:=1000000) (disch:=omega) only [rg,gD,simprocAttr,c48,cmdV,tasksV,mv_len,a0,a1,a2,a3,a4,a5,a6,show (c.dag.tasks.length:Int)=0 by omega]
  (refine fin_x rfl ?_ ?_<;>simp [pack,lo,loL,V.closed,closedL,mv_closed,e])
theorem p_command (c:Cmd) (hc:okCmd c):PCall Tryz.prog 51 [cmdV c] (.bool (lineCmd c)):=by
  refine en51 (by simp) (by simp [closedL,cmdV_closed]) ?_
  have kp:=frame_put c hc
  unfold cmdV tasksV at kp
  have kd:=dag_right c.dag hc.2.2.2.2.1 hc.2.2.2.1
  unfold dagV tasksV at kd
  by_cases hP:cmdP c
  case neg =>
    have e:cmdPutS c=([],1):=by rw [cmdPutS,if_neg hP]
    have el:lineCmd c=false:=by rw [lineCmd,decide_eq_false hP]; rfl
    rw [e] at kp
    simp (maxSteps:=1000000) (disch:=omega) only [rg,gD,simprocAttr,c51,cmdV,tasksV]
    refine ⟨_,kp, ?_⟩
    simp (maxSteps:=1000000) (disch:=omega) only [rg,gD,simprocAttr,sV]
    (refine fin_x rfl ?_ ?_<;>simp [pack,lo,loL,V.closed,closedL,mv_closed,el])
  have e:cmdPutS c=(sealS (cmdB c),0):=by rw [cmdPutS,if_pos hP]
  rw [e] at kp
  by_cases t1:(1099511627776:Int) < c.token
  · have el:lineCmd c=false:=by rw [lineCmd,timeOk,decide_eq_true hP,decide_eq_false (by omega)]; rfl
    simp (maxSteps:=1000000) (disch:=omega) only [rg,gD,simprocAttr,c51,cmdV,tasksV]
    refine ⟨_,kp, ?_⟩
    simp (maxSteps:=1000000) (disch:=omega) only [rg,gD,simprocAttr,sV,t1]
    (refine fin_x rfl ?_ ?_<;>simp [pack,lo,loL,V.closed,closedL,mv_closed,el])
  by_cases t2:(1099511627776:Int) < c.time
  · have el:lineCmd c=false:=by rw [lineCmd,timeOk,decide_eq_true hP,decide_eq_false (by omega)]; rfl
    simp (maxSteps:=1000000) (disch:=omega) only [rg,gD,simprocAttr,c51,cmdV,tasksV]
    refine ⟨_,kp, ?_⟩
    simp (maxSteps:=1000000) (disch:=omega) only [rg,gD,simprocAttr,sV,t1,t2]
    (refine fin_x rfl ?_ ?_<;>simp [pack,lo,loL,V.closed,closedL,mv_closed,el])
  have el:lineCmd c=wordsOk c:=by rw [lineCmd,timeOk,decide_eq_true hP,decide_eq_true (by omega)]; rfl
  simp (maxSteps:=1000000) (disch:=omega) only [rg,gD,simprocAttr,c51,cmdV,tasksV]
  refine ⟨_,kp, ?_⟩
  simp (maxSteps:=1000000) (disch:=omega) only [rg,gD,simprocAttr,sV,t1,t2]
  by_cases k1:c.kind=1
  · have e2:lineCmd c=nameB c.dag.name:=by rw [el,wordsOk,if_pos k1]
    have hd:dagRightS c.dag=0:=by rw [← right_same]; exact hP.2.2.2.2 k1
    rw [hd] at kd
    simp (maxSteps:=1000000) (disch:=omega) only [rg,gD,simprocAttr,k1]
    refine ⟨_,kd, ?_⟩
    simp (maxSteps:=1000000) (disch:=omega) only [rg,gD,simprocAttr]
    refine ⟨_,p_name _, ?_⟩
    simp (maxSteps:=1000000) (disch:=omega) only [rg,gD,simprocAttr]
    (refine fin_x rfl ?_ ?_<;>simp [pack,lo,loL,V.closed,closedL,mv_closed,e2])
  by_cases k2:c.kind=2
  · have e2:lineCmd c=(nameB c.key && nameB c.name):=by rw [el,wordsOk,if_neg k1,if_pos k2]
    simp (maxSteps:=1000000) (disch:=omega) only [rg,gD,simprocAttr,k1,k2]
    refine ⟨_,p_name _, ?_⟩
    cases hn:nameB c.key with
    | false =>
      rw [hn,Bool.false_and] at e2
      simp (maxSteps:=1000000) (disch:=omega) only [rg,gD,simprocAttr]
      (refine fin_x rfl ?_ ?_<;>simp [pack,lo,loL,V.closed,closedL,mv_closed,e2])
    | true =>
      rw [hn,Bool.true_and] at e2
      simp (maxSteps:=1000000) (disch:=omega) only [rg,gD,simprocAttr]
      refine ⟨_,p_name _, ?_⟩
      simp (maxSteps:=1000000) (disch:=omega) only [rg,gD,simprocAttr]
      (refine fin_x rfl ?_ ?_<;>simp [pack,lo,loL,V.closed,closedL,mv_closed,e2])
  by_cases k5:c.kind=5
  · by_cases x:c.text=[]
    · have e2:lineCmd c=true:=by rw [el,wordsOk,if_neg k1,if_neg k2,if_pos k5,decide_eq_true x]; rfl
      simp (maxSteps:=1000000) (disch:=omega) only [rg,gD,simprocAttr,k1,k2,k5,x]
      (refine fin_x rfl ?_ ?_<;>simp [pack,lo,loL,V.closed,closedL,mv_closed,e2])
    · have e2:lineCmd c=nameB c.text:=by rw [el,wordsOk,if_neg k1,if_neg k2,if_pos k5,decide_eq_false x]; rfl
      simp (maxSteps:=1000000) (disch:=omega) only [rg,gD,simprocAttr,k1,k2,k5,x]
      refine ⟨_,p_name _, ?_⟩
      simp (maxSteps:=1000000) (disch:=omega) only [rg,gD,simprocAttr]
      (refine fin_x rfl ?_ ?_<;>simp [pack,lo,loL,V.closed,closedL,mv_closed,e2])
  by_cases k7:c.kind=7
  · have e2:lineCmd c=nameB c.key:=by rw [el,wordsOk,if_neg k1,if_neg k2,if_neg k5,if_pos (.inl k7)]
    simp (maxSteps:=1000000) (disch:=omega) only [rg,gD,simprocAttr,k1,k2,k5,k7]
    refine ⟨_,p_name _, ?_⟩
    simp (maxSteps:=1000000) (disch:=omega) only [rg,gD,simprocAttr]
    (refine fin_x rfl ?_ ?_<;>simp [pack,lo,loL,V.closed,closedL,mv_closed,e2])
  by_cases k9:c.kind=9
  · have e2:lineCmd c=nameB c.key:=by rw [el,wordsOk,if_neg k1,if_neg k2,if_neg k5,if_pos (.inr k9)]
    simp (maxSteps:=1000000) (disch:=omega) only [rg,gD,simprocAttr,k1,k2,k5,k7,k9]
    refine ⟨_,p_name _, ?_⟩
    simp (maxSteps:=1000000) (disch:=omega) only [rg,gD,simprocAttr]
    (refine fin_x rfl ?_ ?_<;>simp [pack,lo,loL,V.closed,closedL,mv_closed,e2])
  have e2:lineCmd c=true:=by rw [el,wordsOk,if_neg k1,if_neg k2,if_neg k5,if_neg (by omega)]
  simp (maxSteps:=1000000) (disch:=omega) only [rg,gD,simprocAttr,k1,k2,k5,k7,k9]
  (refine fin_x rfl ?_ ?_<;>simp [pack,lo,loL,V.closed,closedL,mv_closed,e2])
theorem p_mask (H:Hp) (x:Int):ACall Tryz.prog 50 [.int .i64 x] H [] (.bool (!maskB x)) [] 0:=by
  refine ena50 (by simp) (by simp [lowL,V.low]) (by simp) (by simp) ?_
  by_cases a:x < 0
  · simp (maxSteps:=1000000) (disch:=omega) only [rg,gD,simprocAttr,c50,a]
    exact fin_A (l:=[.bool true]) rfl (.inl (by simp [pack,maskB]; omega)) (by simp) (fun id => .inr rfl)
  by_cases b:(255:Int) < x
  · simp (maxSteps:=1000000) (disch:=omega) only [rg,gD,simprocAttr,c50,a,b]
    exact fin_A (l:=[.bool true]) rfl (.inl (by simp [pack,maskB]; omega)) (by simp) (fun id => .inr rfl)
  simp (maxSteps:=1000000) (disch:=omega) only [rg,gD,simprocAttr,c50,a,b]
  exact fin_A (l:=[.bool false]) rfl (.inl (by simp [pack,maskB]; omega)) (by simp) (fun id => .inr rfl)
theorem any_not {α:Type} (l:List α) (q:α→Bool):(l.any fun x => !q x)=!l.all q:=by
  induction l with
  | nil => rfl
  | cons a l ih => simp [ih,Bool.not_and]
theorem p_step (s:Stp) (hc:okCmd s.cmd) (hm:s.masks.length≤4611686018427387904):PCall Tryz.prog 32 [stpV s] (.bool (stpB s)):=by
  refine en32 (by simp) (by simp [closedL,stpV_closed]) ?_
  have kn:=p_none s.cmd
  have kc:=p_command s.cmd hc
  unfold cmdV tasksV at kn kc
  obtain ⟨c,chk,cr,ms⟩:=s
  simp only at hc hm kn kc
  cases cr with
  | true =>
    cases chk with
    | true =>
      simp (maxSteps:=1000000) (disch:=omega) only [rg,gD,simprocAttr,c32,stpV,tasksV,vI_len]
      (refine fin_x rfl ?_ ?_<;>simp [pack,lo,loL,V.closed,closedL,mv_closed,stpB])
    | false =>
      simp (maxSteps:=1000000) (disch:=omega) only [rg,gD,simprocAttr,c32,stpV,tasksV,vI_len]
      refine ⟨_,kn, ?_⟩
      cases hn:noneC c with
      | false =>
        simp (maxSteps:=1000000) (disch:=omega) only [rg,gD,simprocAttr]
        (refine fin_x rfl ?_ ?_<;>simp [pack,lo,loL,V.closed,closedL,mv_closed,stpB,hn])
      | true =>
        by_cases h64:ms.length≤64
        · simp (maxSteps:=1000000) (disch:=omega) only [rg,gD,simprocAttr,vI_len,show (ms.length:Int)≤64 by omega]
          refine ⟨_,_,_,_,con_ints (rows:=ms) (q:=fun x => !maskB x) (fp:=[]) (kk:=0) (by omega) rfl rfl (FpOk.nil _) (fun x hx H' h1 h2 => p_mask H' x), ?_⟩
          rw [any_not]
          simp (maxSteps:=1000000) (disch:=omega) only [rg,gD,simprocAttr]
          (refine fin_x rfl ?_ ?_<;>simp [pack,lo,loL,V.closed,closedL,mv_closed,stpB,hn,h64])
        · simp (maxSteps:=1000000) (disch:=omega) only [rg,gD,simprocAttr,vI_len,show ¬ (ms.length:Int)≤64 by omega]
          (refine fin_x rfl ?_ ?_<;>simp [pack,lo,loL,V.closed,closedL,mv_closed,stpB,hn,h64])
  | false =>
    cases chk with
    | true =>
      simp (maxSteps:=1000000) (disch:=omega) only [rg,gD,simprocAttr,c32,stpV,tasksV,vI_len]
      refine ⟨_,kn, ?_⟩
      cases hn:noneC c with
      | false =>
        simp (maxSteps:=1000000) (disch:=omega) only [rg,gD,simprocAttr]
        (refine fin_x rfl ?_ ?_<;>simp [pack,lo,loL,V.closed,closedL,mv_closed,stpB,hn])
      | true =>
        by_cases h0:ms.length=0
        · simp (maxSteps:=1000000) (disch:=omega) only [rg,gD,simprocAttr,vI_len,show (ms.length:Int)=0 by omega]
          (refine fin_x rfl ?_ ?_<;>simp [pack,lo,loL,V.closed,closedL,mv_closed,stpB,hn,h0])
        · simp (maxSteps:=1000000) (disch:=omega) only [rg,gD,simprocAttr,vI_len,show ¬ (ms.length:Int)=0 by omega]
          (refine fin_x rfl ?_ ?_<;>simp [pack,lo,loL,V.closed,closedL,mv_closed,stpB,hn,h0])
    | false =>
      simp (maxSteps:=1000000) (disch:=omega) only [rg,gD,simprocAttr,c32,stpV,tasksV,vI_len]
      refine ⟨_,kc, ?_⟩
      cases hn:lineCmd c with
      | false =>
        simp (maxSteps:=1000000) (disch:=omega) only [rg,gD,simprocAttr]
        (refine fin_x rfl ?_ ?_<;>simp [pack,lo,loL,V.closed,closedL,mv_closed,stpB,hn])
      | true =>
        by_cases h0:ms.length=0
        · simp (maxSteps:=1000000) (disch:=omega) only [rg,gD,simprocAttr,vI_len,show (ms.length:Int)=0 by omega]
          (refine fin_x rfl ?_ ?_<;>simp [pack,lo,loL,V.closed,closedL,mv_closed,stpB,hn,h0])
        · simp (maxSteps:=1000000) (disch:=omega) only [rg,gD,simprocAttr,vI_len,show ¬ (ms.length:Int)=0 by omega]
          (refine fin_x rfl ?_ ?_<;>simp [pack,lo,loL,V.closed,closedL,mv_closed,stpB,hn,h0])
def okStp (s:Stp):Prop:=okCmd s.cmd∧s.masks.length≤4611686018427387904
theorem p_clo (H:Hp) (s:Stp) (h:okStp s):ACall Tryz.prog 31 [stpV s] H [] (.bool (!stpB s)) [] 1:=by
  refine ena31 (by simp) (by simp [lowL,V.low_closed _ (stpV_closed s)]) (by simp) (by simp) ?_
  have k:=p_step s h.1 h.2
  unfold stpV tasksV at k ⊢
  simp (maxSteps:=1000000) (disch:=omega) only [rg,gD,simprocAttr,c31]
  refine ⟨_,k, ?_⟩
  simp (maxSteps:=1000000) (disch:=omega) only [rg,gD,simprocAttr]
  refine fin_A (l:=[.bool (!stpB s)]) rfl (.inl rfl) (by simp) (fun j => ?_)
  by_cases hj:j=H.n
  · subst hj; left; simp [appd,only]
  · right; simp [appd,upd,hj]
def unT:V→Task
  | .agg [.fsl _ _ l,.int _ a,.int _ b,.int _ c] => ⟨l.map unI,a,b,c⟩
  | _ => ⟨[],0,0,0⟩
theorem unT_map:∀ l:List Task,(mv taskV l).map unT=l
  | [] => rfl
  | t::l => by
    show unT (taskV t)::(mv taskV l).map unT=_
    rw [unT_map l]; simp only [taskV,unT,unI_map]
def unP:V→Stp
  | .agg [.int _ a,.str b,.str c,.int _ d,.int _ e,.str f,.str g,.fsl _ _ l,.bool h,.bool i,.fsl _ _ m] => ⟨⟨a,b,c,d,e,f,⟨g,l.map unT⟩⟩,h,i,m.map unI⟩
  | _ => ⟨zeroC,false,false,[]⟩
theorem unP_stp (s:Stp):unP (stpV s)=s:=by
  simp only [stpV,unP,tasksV,unT_map,unI_map]
theorem con_steps {st:St} {rows:List Stp} {fs cs:List V} {g:Nat} {q:Stp→Bool} {H:Hp} {fp:List Nat} {kk:Nat} (hn:rows.length≤1000000) (hl:lowL H.n fs=true) (hl':lowL H.n cs=true) (hfp:FpOk H fp)
    (hg:∀ x∈rows,∀ H':Hp,H.n≤H'.n→(∀ id∈fp,H'.m id=H.m id)→ACall Tryz.prog g (fs++[stpV x]++cs) H' fp (.bool (q x)) [] kk) :
    ACall Tryz.prog 30 [.fsl st 11 (mv stpV rows),.fn g fs cs] H fp (.bool (rows.any q)) [] (rows.length*kk):=by
  have:=con_gen (f:=30) (f2:=47) (sz:=11) (k:=some 11) (st:=st) (rows:=mv stpV rows) (fs:=fs) (cs:=cs) (g:=g) (q:=fun v => q (unP v)) (H:=H) (fp:=fp) (kk:=kk)
    ena30 ena47 (by decide) (by decide) (mv_closed stpV_closed) (fun e he => by obtain ⟨a,_,rfl⟩:=mv_mem he; rfl) (by rw [mv_len]; omega) hl hl' hfp
    (fun e he H' h1 h2 => by obtain ⟨a,ha,rfl⟩:=mv_mem he; simp only [unP_stp]; exact hg a ha H' h1 h2)
  rw [mv_len] at this
  have e:(mv stpV rows).any (fun v => q (unP v))=rows.any q:=by
    rw [mv,List.any_map]; congr 1; funext t; exact congrArg q (unP_stp t)
  rwa [e] at this
theorem p_right (p:Pln) (h:∀ s∈p.steps,okStp s):PCall Tryz.prog 10 [plnV p] (.bool (planB p)):=by
  refine en10 (by simp) (by simp [closedL,plnV_closed]) ?_
  by_cases a:(24:Int)≤p.size
  case neg =>
    have e:planB p=false:=by rw [planB,decide_eq_false (by omega)]; rfl
    simp (maxSteps:=1000000) (disch:=omega) only [rg,gD,simprocAttr,c10,plnV,mv_len,a]
    (refine fin_x rfl ?_ ?_<;>simp [pack,lo,loL,V.closed,closedL,mv_closed,e])
  by_cases b:p.size≤(200:Int)
  case neg =>
    have e:planB p=false:=by rw [planB,decide_eq_false (by omega)]; rfl
    simp (maxSteps:=1000000) (disch:=omega) only [rg,gD,simprocAttr,c10,plnV,mv_len,a,b]
    (refine fin_x rfl ?_ ?_<;>simp [pack,lo,loL,V.closed,closedL,mv_closed,e])
  by_cases d:p.steps.length≤200
  case neg =>
    have e:planB p=false:=by rw [planB,decide_eq_true (by omega),decide_eq_false d]; rfl
    simp (maxSteps:=1000000) (disch:=omega) only [rg,gD,simprocAttr,c10,plnV,mv_len,a,b,show ¬ (p.steps.length:Int)≤200 by omega]
    (refine fin_x rfl ?_ ?_<;>simp [pack,lo,loL,V.closed,closedL,mv_closed,e])
  have e:planB p=p.steps.all stpB:=by rw [planB,decide_eq_true (by omega),decide_eq_true d]; rfl
  simp (maxSteps:=1000000) (disch:=omega) only [rg,gD,simprocAttr,c10,plnV,mv_len,a,b,show (p.steps.length:Int)≤200 by omega]
  refine ⟨_,_,_,_,con_steps (rows:=p.steps) (q:=fun s => !stpB s) (fp:=[]) (kk:=1) (by omega) rfl rfl (FpOk.nil _) (fun x hx H' h1 h2 => p_clo H' x (h x hx)), ?_⟩
  rw [any_not]
  simp (maxSteps:=1000000) (disch:=omega) only [rg,gD,simprocAttr]
  (refine fin_x rfl ?_ ?_<;>simp [pack,lo,loL,V.closed,closedL,mv_closed,e])
theorem p_alive:PCall Tryz.prog 7 [] (.bool true):=by
  refine en7 (by simp) (by simp [closedL]) ?_
  have k:=p_right ⟨24,[]⟩ (by simp)
  have e:planB ⟨24,[]⟩=true:=by decide
  rw [e] at k
  simp only [plnV,mv,List.map_nil] at k
  simp (maxSteps:=1000000) (disch:=omega) only [rg,gD,simprocAttr,c7]
  refine ⟨_,PCall.of_eq k rfl, ?_⟩
  simp (maxSteps:=1000000) (disch:=omega) only [rg,gD,simprocAttr]
  (refine fin_x rfl ?_ ?_<;>simp [pack,lo,loL,V.closed,closedL,mv_closed])
def mkTask:List Int→Option Task
  | a::b::c::r => some ⟨r,a,b,c⟩
  | _ => none
def taskP (w:Str):Option Task:=if ((splitC 44 w).map numS).all (fun n => decide (0≤n))=true then mkTask ((splitC 44 w).map numS) else none
def taskR (w:Str):Option Task:=mkTask ((splitC 44 w).map refN)
def takeT (f:Str→Option Task):List Str→List Task×Bool
  | [] => ([],true)
  | w::ws => match f w with
    | none => ([],false)
    | some t => (t::(takeT f ws).1,(takeT f ws).2)
def zeroS:Stp:=⟨zeroC,false,false,[]⟩
def mkS (c:Cmd):Stp:=⟨c,false,false,[]⟩
def rawP:List Str→Option (Stp×List Str)
  | [] => none
  | first::rest =>
    if first=wCrash then some (⟨zeroC,false,true,rest.map numS⟩,[])
    else if first=wCheck then some (⟨zeroC,true,false,[]⟩,rest)
    else if first=wGraph then (if (takeT taskP rest.tail).2=true then some (mkS ⟨1,[],[],0,0,[],⟨rest.headD [],(takeT taskP rest.tail).1⟩⟩,[]) else none)
    else if first=wStart then some (mkS ⟨2,rest.headD [],rest.tail.headD [],0,0,[],zeroD⟩,rest.tail.tail)
    else if first=wPoll then some (mkS ⟨3,[],[],0,0,[],zeroD⟩,rest)
    else if first=wBeat then some (mkS ⟨4,[],[],numS (rest.headD []),0,[],zeroD⟩,rest.tail)
    else if first=wDone then (if rest.tail=[] then some (mkS ⟨5,[],[],numS (rest.headD []),0,[],zeroD⟩,[]) else if rest.tail.headD []=[] then none else some (mkS ⟨5,[],[],numS (rest.headD []),0,rest.tail.headD [],zeroD⟩,rest.tail.tail))
    else if first=wFail then some (mkS ⟨6,[],[],numS (rest.headD []),0,[],zeroD⟩,rest.tail)
    else if first=wCancel then some (mkS ⟨7,rest.headD [],[],0,0,[],zeroD⟩,rest.tail)
    else if first=wTick then some (mkS ⟨8,[],[],0,numS (rest.headD []),[],zeroD⟩,rest.tail)
    else if first=wState then some (mkS ⟨9,rest.headD [],[],0,0,[],zeroD⟩,rest.tail)
    else if first=wSync then some (mkS ⟨10,[],[],0,0,[],zeroD⟩,rest)
    else none
def parseS (text:Str):Stp×Bool:=match rawP (splitC 32 text) with
  | none => (zeroS,false)
  | some (x,left) => (x,decide (left=[]) && stpB x)
def readR (ws:List Str):Stp×Bool :=
  if ws.headD []=wCrash then (⟨zeroC,false,true,ws.tail.map refN⟩,true)
  else if ws.headD []=wCheck then (⟨zeroC,true,false,[]⟩,true)
  else if ws.headD []=wGraph then (mkS ⟨1,[],[],0,0,[],⟨ws.tail.headD [],(takeT taskR ws.tail.tail).1⟩⟩,(takeT taskR ws.tail.tail).2)
  else if ws.headD []=wStart then (mkS ⟨2,ws.tail.headD [],ws.tail.tail.headD [],0,0,[],zeroD⟩,true)
  else if ws.headD []=wPoll then (mkS ⟨3,[],[],0,0,[],zeroD⟩,true)
  else if ws.headD []=wBeat then (mkS ⟨4,[],[],refN (ws.tail.headD []),0,[],zeroD⟩,true)
  else if ws.headD []=wDone then (mkS ⟨5,[],[],refN (ws.tail.headD []),0,ws.tail.tail.headD [],zeroD⟩,true)
  else if ws.headD []=wFail then (mkS ⟨6,[],[],refN (ws.tail.headD []),0,[],zeroD⟩,true)
  else if ws.headD []=wCancel then (mkS ⟨7,ws.tail.headD [],[],0,0,[],zeroD⟩,true)
  else if ws.headD []=wTick then (mkS ⟨8,[],[],0,refN (ws.tail.headD []),[],zeroD⟩,true)
  else if ws.headD []=wState then (mkS ⟨9,ws.tail.headD [],[],0,0,[],zeroD⟩,true)
  else if ws.headD []=wSync then (mkS ⟨10,[],[],0,0,[],zeroD⟩,true)
  else (zeroS,false)
def lineC (y:Stp) (text:Str):Prop:=stpB y=true∧Lib.join (wordsS y) [32]=text
theorem noneC_eq {c:Cmd} (h:noneC c=true):c=zeroC:=by
  obtain ⟨h1,h2,h3,h4,h5,h6,h7,h8⟩:=of_decide_eq_true h
  obtain ⟨a,b,d,e,f,g,⟨n,l⟩⟩:=c
  simp only at h1 h2 h3 h4 h5 h6 h7 h8
  rw [h1,h2,h3,h4,h5,h6,h7,List.eq_nil_of_length_eq_zero h8]; rfl
theorem numW_num {l:List Int} (h:∀ x∈l,0≤x∧x≤9223372036854775807):(numW l).map numS=l:=by
  induction l with
  | nil => rfl
  | cons a l ih =>
    have ha:=h a (by simp)
    have:=numS_of a.toNat (by omega)
    rw [Int.toNat_of_nonneg ha.1] at this
    simp only [numW,List.map_cons] at ih ⊢
    rw [this,ih fun x hx => h x (by simp [hx])]
theorem numW_ref {l:List Int} (h:∀ x∈l,0≤x∧x < 10000000000000):(numW l).map refN=l:=by
  induction l with
  | nil => rfl
  | cons a l ih =>
    have ha:=h a (by simp)
    have:=refN_of a.toNat (by omega)
    rw [Int.toNat_of_nonneg ha.1] at this
    simp only [numW,List.map_cons] at ih ⊢
    rw [this,ih fun x hx => h x (by simp [hx])]
theorem num_back:∀ {l:List Str},(∀ w∈l,0≤numS w)→numW (l.map numS)=l
  | [],_ => rfl
  | w::l,h => by
    have:=num_back (l:=l) fun x hx => h x (by simp [hx])
    simp only [numW,List.map_cons] at this ⊢
    rw [this,numS_back (h w (by simp))]
def tkB (t:Task):Prop:=∀ x∈[t.tries,t.wait,t.lease]++t.needs,0≤x∧x < 10000000000000
theorem put_bd {n k:Int} (h:(putS n k).2=0) (hk:k≤3):0≤n∧n < 10000000000000:=by
  obtain ⟨h1,h2,h3,h4⟩:=putS_ok.1 h
  have:k=1∨k=2∨k=3:=by omega
  rcases this with rfl | rfl | rfl<;>simp at h4<;>omega
theorem tk_bd {d:Dag} (h:refRightS d=0):∀ t∈d.tasks,tkB t:=by
  intro t ht x hx
  obtain ⟨h1,h2,h3,h4,h5⟩:=(right_fit h).1.2.2 t ht
  simp only [List.mem_append,List.mem_cons,List.not_mem_nil,or_false] at hx
  rcases hx with (rfl | rfl | rfl) | hx
  · exact put_bd h3 (by omega)
  · exact put_bd h4 (by omega)
  · exact put_bd h5 (by omega)
  · exact put_bd (h2 x hx) (by omega)
theorem split_task (t:Task):splitC 44 (taskW t)=numW ([t.tries,t.wait,t.lease]++t.needs):=by
  rw [taskW,split_join 44 _ (by simp [numW])]
  intro w hw
  obtain ⟨x,_,rfl⟩:=List.mem_map.1 hw
  exact itoa_no (.inr rfl)
theorem taskP_of {t:Task} (h:tkB t):taskP (taskW t)=some t:=by
  rw [taskP,split_task,numW_num fun x hx => by have:=h x hx; omega,if_pos]
  · rfl
  · rw [List.all_eq_true]; intro x hx; exact decide_eq_true (h x hx).1
theorem taskR_of {t:Task} (h:tkB t):taskR (taskW t)=some t:=by
  rw [taskR,split_task,numW_ref h]; rfl
theorem taskP_back {w:Str} {t:Task} (h:taskP w=some t):taskW t=w:=by
  unfold taskP at h
  split at h
  · rename_i ha
    rw [List.all_eq_true] at ha
    have hb:=num_back (l:=splitC 44 w) fun x hx => by simpa using ha (numS x) (List.mem_map_of_mem hx)
    have hj:=join_split 44 w
    cases hl:(splitC 44 w).map numS with
    | nil => rw [hl] at h; simp [mkTask] at h
    | cons a l => cases l with
      | nil => rw [hl] at h; simp [mkTask] at h
      | cons b l => cases l with
        | nil => rw [hl] at h; simp [mkTask] at h
        | cons c r =>
          rw [hl] at h hb
          simp only [mkTask,Option.some.injEq] at h; subst h
          rw [taskW]; show Lib.join (numW (a::b::c::r)) [44]=w
          rw [hb,hj]
  · cases h
theorem take_all {f:Str→Option Task}:∀ {l:List Task},(∀ t∈l,f (taskW t)=some t)→takeT f (l.map taskW)=(l,true)
  | [],_ => rfl
  | t::l,h => by
    have ih:=take_all (l:=l) fun x hx => h x (by simp [hx])
    simp only [List.map_cons,takeT,h t (by simp),ih]
theorem take_back:∀ {l:List Str},(takeT taskP l).2=true→((takeT taskP l).1).map taskW=l
  | [],_ => rfl
  | w::l,h => by
    simp only [takeT] at h ⊢
    cases ht:taskP w with
    | none => rw [ht] at h; cases h
    | some t =>
      rw [ht] at h
      simp only at h ⊢
      rw [List.map_cons,taskP_back ht,take_back h]
theorem name_no {s:Str} (h:nameB s=true):(32:UInt8)∉s:=by
  intro hm
  simp only [nameB,Bool.and_eq_true,List.all_eq_true] at h
  have:=h.2 32 hm
  simp [lowB] at this
theorem words_no {y:Stp} (h:stpB y=true):∀ w∈wordsS y,(32:UInt8)∉w:=by
  obtain ⟨c,chk,cr,ms⟩:=y
  have num:∀ v:Int,(32:UInt8)∉Lib.itoa v:=fun v => itoa_no (.inl rfl)
  cases cr with
  | true =>
    intro w hw
    simp only [wordsS,if_true,List.mem_append,List.mem_singleton,numW,List.mem_map] at hw
    rcases hw with rfl | ⟨x,_,rfl⟩
    · decide
    · exact num x
  | false =>
  cases chk with
  | true => intro w hw; simp [wordsS] at hw; subst hw; decide
  | false =>
  have hcm:lineCmd c=true:=by simp [stpB] at h; exact h.1
  have hw0:wordsOk c=true:=by simp [lineCmd] at hcm; exact hcm.2
  intro w hw
  simp only [wordsS,Bool.false_eq_true,if_false,wordsL] at hw
  unfold wordsOk at hw0
  by_cases k1:c.kind=1
  · rw [if_pos k1] at hw hw0
    simp only [List.mem_append,List.mem_cons,List.not_mem_nil,or_false,List.mem_map] at hw
    rcases hw with (rfl | rfl) | ⟨t,_,rfl⟩
    · decide
    · exact name_no hw0
    · intro hm
      rw [taskW] at hm
      have:∀ l:List Str,(∀ w∈l,(32:UInt8)∉w)→(32:UInt8)∉Lib.join l [44]:=by
        intro l
        cases l with
        | nil => intro _; simp [Lib.join_nil]
        | cons a l =>
          intro hl hm
          rw [Lib.join_cons] at hm
          rcases List.mem_append.1 hm with hm | hm
          · exact hl a (by simp) hm
          · simp only [Lib.joinTail,List.mem_flatten,List.mem_map] at hm
            obtain ⟨_,⟨x,hx,rfl⟩,hm⟩:=hm
            rcases List.mem_append.1 hm with hm | hm
            · simp at hm
            · exact hl x (by simp [hx]) hm
      refine this _ (fun w hw => ?_) hm
      obtain ⟨x,_,rfl⟩:=List.mem_map.1 hw
      exact num x
  rw [if_neg k1] at hw hw0
  by_cases k2:c.kind=2
  · rw [if_pos k2] at hw hw0
    simp only [Bool.and_eq_true] at hw0
    simp only [List.mem_cons,List.not_mem_nil,or_false] at hw
    rcases hw with rfl | rfl | rfl
    · decide
    · exact name_no hw0.1
    · exact name_no hw0.2
  rw [if_neg k2] at hw hw0
  by_cases k5:c.kind=5
  · rw [if_pos k5] at hw0
    rw [if_neg (by omega),if_neg (by omega),if_pos k5] at hw
    split at hw
    · simp only [List.mem_cons,List.not_mem_nil,or_false] at hw
      rcases hw with rfl | rfl
      · decide
      · exact num _
    · rename_i hx
      simp only [hx,decide_false,Bool.false_or] at hw0
      simp only [List.mem_cons,List.not_mem_nil,or_false] at hw
      rcases hw with rfl | rfl | rfl
      · decide
      · exact num _
      · exact name_no hw0
  rw [if_neg k5] at hw0
  by_cases k79:c.kind=7∨c.kind=9
  · rw [if_pos k79] at hw0
    rcases k79 with k | k<;>simp [k] at hw<;>rcases hw with rfl | rfl<;>first | decide | exact name_no hw0
  · repeat' split at hw
    all_goals (simp only [List.mem_cons,List.not_mem_nil,or_false] at hw)
    all_goals (first | (rcases hw with rfl | rfl) | (subst hw))
    all_goals first | decide | exact num _ | (exfalso; omega)
theorem zeroD_of {d:Dag} (h:noDag d):d=zeroD:=noDag_eq h
theorem both (y:Stp) (h:stpB y=true):rawP (wordsS y)=some (y,[])∧readR (wordsS y)=(y,true):=by
  obtain ⟨c,chk,cr,ms⟩:=y
  cases cr with
  | true =>
    simp only [stpB,if_true,Bool.and_eq_true,Bool.not_eq_true',decide_eq_true_eq,List.all_eq_true] at h
    obtain ⟨⟨⟨rfl,h2⟩,h3⟩,h4⟩:=h
    obtain rfl:=noneC_eq h2
    have hb:∀ x∈ms,0≤x∧x≤255:=fun x hx => by simpa [maskB] using h4 x hx
    have e1:=numW_num (l:=ms) fun x hx => by have:=hb x hx; omega
    have e2:=numW_ref (l:=ms) fun x hx => by have:=hb x hx; omega
    have ew:wordsS ⟨zeroC,false,true,ms⟩=wCrash::numW ms:=by simp [wordsS]
    rw [ew]
    exact ⟨by rw [rawP,if_pos rfl,e1],by rw [readR,List.headD_cons,if_pos rfl,List.tail_cons,e2]⟩
  | false =>
  cases chk with
  | true =>
    simp only [stpB,Bool.false_eq_true,if_false,if_true,Bool.and_eq_true,decide_eq_true_eq] at h
    obtain rfl:=noneC_eq h.1
    obtain rfl:=List.eq_nil_of_length_eq_zero h.2
    exact ⟨rfl,rfl⟩
  | false =>
  simp only [stpB,Bool.false_eq_true,if_false,Bool.and_eq_true,decide_eq_true_eq] at h
  obtain ⟨hcm,hm⟩:=h
  obtain rfl:=List.eq_nil_of_length_eq_zero hm
  simp only [lineCmd,Bool.and_eq_true,decide_eq_true_eq] at hcm
  obtain ⟨⟨hP,ht⟩,hw⟩:=hcm
  obtain ⟨p1,p2,p3,p4,p5⟩:=hP
  simp only [timeOk,decide_eq_true_eq] at ht
  obtain ⟨k,key,nm,tok,tm,txt,d⟩:=c
  simp only at p1 p2 p5 ht
  obtain ⟨f1,f2,f3,f4,f5,f6,f7⟩:=p4
  simp only at f4 f6
  have n1:numS (Lib.itoa tok)=tok:=by have:=numS_of tok.toNat (by omega); rwa [Int.toNat_of_nonneg f4] at this
  have r1:refN (Lib.itoa tok)=tok:=by have:=refN_of tok.toNat (by omega); rwa [Int.toNat_of_nonneg f4] at this
  have n2:numS (Lib.itoa tm)=tm:=by have:=numS_of tm.toNat (by omega); rwa [Int.toNat_of_nonneg f6] at this
  have r2:refN (Lib.itoa tm)=tm:=by have:=refN_of tm.toNat (by omega); rwa [Int.toNat_of_nonneg f6] at this
  have hk:k=1∨k=2∨k=3∨k=4∨k=5∨k=6∨k=7∨k=8∨k=9∨k=10:=by omega
  rcases hk with rfl | rfl | rfl | rfl | rfl | rfl | rfl | rfl | rfl | rfl
  · simp [bareP] at p3
    obtain ⟨rfl,rfl,rfl,rfl,rfl⟩:=p3
    have hd:=p5 rfl
    have tb:=tk_bd hd
    have ew:wordsS ⟨⟨1,[],[],0,0,[],d⟩,false,false,[]⟩=wGraph::d.name::d.tasks.map taskW:=by simp [wordsS,wordsL]
    have a1:=take_all (f:=taskP) (l:=d.tasks) fun t ht => taskP_of (tb t ht)
    have a2:=take_all (f:=taskR) (l:=d.tasks) fun t ht => taskR_of (tb t ht)
    rw [ew]
    refine ⟨?_, ?_⟩
    · rw [rawP,if_neg (by decide),if_neg (by decide),if_pos rfl,List.tail_cons,a1,if_pos rfl]; rfl
    · rw [readR,List.headD_cons,if_neg (by decide),if_neg (by decide),if_pos rfl,List.tail_cons,List.tail_cons,a2]; rfl
  · simp [bareP] at p3
    obtain ⟨rfl,rfl,rfl,hz⟩:=p3
    obtain rfl:=zeroD_of hz
    have ew:wordsS ⟨⟨2,key,nm,0,0,[],zeroD⟩,false,false,[]⟩=[wStart,key,nm]:=by simp [wordsS,wordsL]
    rw [ew]
    refine ⟨?_, ?_⟩
    · rw [rawP,if_neg (by decide),if_neg (by decide),if_neg (by decide),if_pos rfl]; rfl
    · rw [readR,List.headD_cons,if_neg (by decide),if_neg (by decide),if_neg (by decide),if_pos rfl]; rfl
  · simp [bareP] at p3
    obtain ⟨rfl,rfl,rfl,rfl,rfl,hz⟩:=p3
    obtain rfl:=zeroD_of hz
    have ew:wordsS ⟨⟨3,[],[],0,0,[],zeroD⟩,false,false,[]⟩=[wPoll]:=by simp [wordsS,wordsL]
    rw [ew]
    refine ⟨?_, ?_⟩
    · rw [rawP,if_neg (by decide),if_neg (by decide),if_neg (by decide),if_neg (by decide),if_pos rfl]; rfl
    · rw [readR,List.headD_cons,if_neg (by decide),if_neg (by decide),if_neg (by decide),if_neg (by decide),if_pos rfl]; rfl
  · simp [bareP] at p3
    obtain ⟨rfl,rfl,rfl,rfl,hz⟩:=p3
    obtain rfl:=zeroD_of hz
    have ew:wordsS ⟨⟨4,[],[],tok,0,[],zeroD⟩,false,false,[]⟩=[wBeat,Lib.itoa tok]:=by simp [wordsS,wordsL]
    rw [ew]
    refine ⟨?_, ?_⟩
    · rw [rawP,if_neg (by decide),if_neg (by decide),if_neg (by decide),if_neg (by decide),if_neg (by decide),if_pos rfl]; show some (mkS ⟨4,[],[],numS (Lib.itoa tok),0,[],zeroD⟩,_)=_; rw [n1]; rfl
    · rw [readR,List.headD_cons,if_neg (by decide),if_neg (by decide),if_neg (by decide),if_neg (by decide),if_neg (by decide),if_pos rfl]; show (mkS ⟨4,[],[],refN (Lib.itoa tok),0,[],zeroD⟩,_)=_; rw [r1]; rfl
  · simp [bareP] at p3
    obtain ⟨rfl,rfl,rfl,hz⟩:=p3
    obtain rfl:=zeroD_of hz
    by_cases hx:txt=[]
    · subst hx
      have ew:wordsS ⟨⟨5,[],[],tok,0,[],zeroD⟩,false,false,[]⟩=[wDone,Lib.itoa tok]:=by simp [wordsS,wordsL]
      rw [ew]
      refine ⟨?_, ?_⟩
      · rw [rawP,if_neg (by decide),if_neg (by decide),if_neg (by decide),if_neg (by decide),if_neg (by decide),if_neg (by decide),if_pos rfl,if_pos (show ([Lib.itoa tok]:List Str).tail=[] from rfl)]; show some (mkS ⟨5,[],[],numS (Lib.itoa tok),0,[],zeroD⟩,_)=_; rw [n1]; rfl
      · rw [readR,List.headD_cons,if_neg (by decide),if_neg (by decide),if_neg (by decide),if_neg (by decide),if_neg (by decide),if_neg (by decide),if_pos rfl]; show (mkS ⟨5,[],[],refN (Lib.itoa tok),0,[],zeroD⟩,_)=_; rw [r1]; rfl
    · have ew:wordsS ⟨⟨5,[],[],tok,0,txt,zeroD⟩,false,false,[]⟩=[wDone,Lib.itoa tok,txt]:=by simp [wordsS,wordsL,hx]
      rw [ew]
      refine ⟨?_, ?_⟩
      · rw [rawP,if_neg (by decide),if_neg (by decide),if_neg (by decide),if_neg (by decide),if_neg (by decide),if_neg (by decide),if_pos rfl,if_neg (by simp),if_neg (by simpa using hx)]; show some (mkS ⟨5,[],[],numS (Lib.itoa tok),0,txt,zeroD⟩,_)=_; rw [n1]; rfl
      · rw [readR,List.headD_cons,if_neg (by decide),if_neg (by decide),if_neg (by decide),if_neg (by decide),if_neg (by decide),if_neg (by decide),if_pos rfl]; show (mkS ⟨5,[],[],refN (Lib.itoa tok),0,txt,zeroD⟩,_)=_; rw [r1]; rfl
  · simp [bareP] at p3
    obtain ⟨rfl,rfl,rfl,rfl,hz⟩:=p3
    obtain rfl:=zeroD_of hz
    have ew:wordsS ⟨⟨6,[],[],tok,0,[],zeroD⟩,false,false,[]⟩=[wFail,Lib.itoa tok]:=by simp [wordsS,wordsL]
    rw [ew]
    refine ⟨?_, ?_⟩
    · rw [rawP,if_neg (by decide),if_neg (by decide),if_neg (by decide),if_neg (by decide),if_neg (by decide),if_neg (by decide),if_neg (by decide),if_pos rfl]; show some (mkS ⟨6,[],[],numS (Lib.itoa tok),0,[],zeroD⟩,_)=_; rw [n1]; rfl
    · rw [readR,List.headD_cons,if_neg (by decide),if_neg (by decide),if_neg (by decide),if_neg (by decide),if_neg (by decide),if_neg (by decide),if_neg (by decide),if_pos rfl]; show (mkS ⟨6,[],[],refN (Lib.itoa tok),0,[],zeroD⟩,_)=_; rw [r1]; rfl
  · simp [bareP] at p3
    obtain ⟨rfl,rfl,rfl,rfl,hz⟩:=p3
    obtain rfl:=zeroD_of hz
    have ew:wordsS ⟨⟨7,key,[],0,0,[],zeroD⟩,false,false,[]⟩=[wCancel,key]:=by simp [wordsS,wordsL]
    rw [ew]
    refine ⟨?_, ?_⟩
    · rw [rawP,if_neg (by decide),if_neg (by decide),if_neg (by decide),if_neg (by decide),if_neg (by decide),if_neg (by decide),if_neg (by decide),if_neg (by decide),if_pos rfl]; rfl
    · rw [readR,List.headD_cons,if_neg (by decide),if_neg (by decide),if_neg (by decide),if_neg (by decide),if_neg (by decide),if_neg (by decide),if_neg (by decide),if_neg (by decide),if_pos rfl]; rfl
  · simp [bareP] at p3
    obtain ⟨rfl,rfl,rfl,rfl,hz⟩:=p3
    obtain rfl:=zeroD_of hz
    have ew:wordsS ⟨⟨8,[],[],0,tm,[],zeroD⟩,false,false,[]⟩=[wTick,Lib.itoa tm]:=by simp [wordsS,wordsL]
    rw [ew]
    refine ⟨?_, ?_⟩
    · rw [rawP,if_neg (by decide),if_neg (by decide),if_neg (by decide),if_neg (by decide),if_neg (by decide),if_neg (by decide),if_neg (by decide),if_neg (by decide),if_neg (by decide),if_pos rfl]; show some (mkS ⟨8,[],[],0,numS (Lib.itoa tm),[],zeroD⟩,_)=_; rw [n2]; rfl
    · rw [readR,List.headD_cons,if_neg (by decide),if_neg (by decide),if_neg (by decide),if_neg (by decide),if_neg (by decide),if_neg (by decide),if_neg (by decide),if_neg (by decide),if_neg (by decide),if_pos rfl]; show (mkS ⟨8,[],[],0,refN (Lib.itoa tm),[],zeroD⟩,_)=_; rw [r2]; rfl
  · simp [bareP] at p3
    obtain ⟨rfl,rfl,rfl,rfl,hz⟩:=p3
    obtain rfl:=zeroD_of hz
    have ew:wordsS ⟨⟨9,key,[],0,0,[],zeroD⟩,false,false,[]⟩=[wState,key]:=by simp [wordsS,wordsL]
    rw [ew]
    refine ⟨?_, ?_⟩
    · rw [rawP,if_neg (by decide),if_neg (by decide),if_neg (by decide),if_neg (by decide),if_neg (by decide),if_neg (by decide),if_neg (by decide),if_neg (by decide),if_neg (by decide),if_neg (by decide),if_pos rfl]; rfl
    · rw [readR,List.headD_cons,if_neg (by decide),if_neg (by decide),if_neg (by decide),if_neg (by decide),if_neg (by decide),if_neg (by decide),if_neg (by decide),if_neg (by decide),if_neg (by decide),if_neg (by decide),if_pos rfl]; rfl
  · simp [bareP] at p3
    obtain ⟨rfl,rfl,rfl,rfl,rfl,hz⟩:=p3
    obtain rfl:=zeroD_of hz
    have ew:wordsS ⟨⟨10,[],[],0,0,[],zeroD⟩,false,false,[]⟩=[wSync]:=by simp [wordsS,wordsL]
    rw [ew]
    refine ⟨?_, ?_⟩
    · rw [rawP,if_neg (by decide),if_neg (by decide),if_neg (by decide),if_neg (by decide),if_neg (by decide),if_neg (by decide),if_neg (by decide),if_neg (by decide),if_neg (by decide),if_neg (by decide),if_neg (by decide),if_pos rfl]; rfl
    · rw [readR,List.headD_cons,if_neg (by decide),if_neg (by decide),if_neg (by decide),if_neg (by decide),if_neg (by decide),if_neg (by decide),if_neg (by decide),if_neg (by decide),if_neg (by decide),if_neg (by decide),if_neg (by decide),if_pos rfl]; rfl
theorem words_ne (y:Stp):wordsS y≠[]:=by
  obtain ⟨c,chk,cr,ms⟩:=y
  simp only [wordsS]
  split
  · simp
  · split
    · simp
    · simp only [wordsL]; repeat' split
      all_goals simp
theorem split_line {y:Stp} {text:Str} (h:lineC y text):splitC 32 text=wordsS y:=by
  rw [← h.2]; exact split_join 32 _ (words_ne y) (words_no h.1)
theorem raw_back {ws:List Str} {x:Stp} (h:rawP ws=some (x,[])) (hs:stpB x=true):wordsS x=ws:=by
  cases ws with
  | nil => simp [rawP] at h
  | cons first rest =>
  have ge:∀ {c:Cmd},stpB (mkS c)=true→cmdP c∧wordsOk c=true:=fun {c} hc => by
    simp only [mkS,stpB,Bool.false_eq_true,if_false,Bool.and_eq_true] at hc
    have:=hc.1
    simp only [lineCmd,Bool.and_eq_true,decide_eq_true_eq] at this
    exact ⟨this.1.1,this.2⟩
  have one:∀ {w:List Str},numS (w.headD [])≥0→w.tail=[]→w=[Lib.itoa (numS (w.headD []))]:=fun {w} h0 h1 => by
    cases w with
    | nil => exact absurd h0 (by decide)
    | cons a r => simp only [List.tail_cons] at h1; subst h1; simp only [List.headD_cons] at h0 ⊢; rw [numS_back h0]
  have name1:∀ {w:List Str},nameB (w.headD [])=true→w.tail=[]→w=[w.headD []]:=fun {w} h0 h1 => by
    cases w with
    | nil => simp [nameB] at h0
    | cons a r => simp only [List.tail_cons] at h1; subst h1; rfl
  rw [rawP] at h
  by_cases c0:first=wCrash
  · rw [if_pos c0] at h
    simp only [Option.some.injEq,Prod.mk.injEq,and_true] at h; subst h; subst c0
    simp only [stpB,if_true,Bool.and_eq_true,List.all_eq_true] at hs
    have hb:=num_back (l:=rest) fun w hw => by
      have:=hs.2 (numS w) (List.mem_map_of_mem hw)
      simp only [maskB,decide_eq_true_eq] at this; exact this.1
    simp [wordsS,hb]
  rw [if_neg c0] at h
  by_cases c1:first=wCheck
  · rw [if_pos c1] at h
    simp only [Option.some.injEq,Prod.mk.injEq] at h; obtain ⟨rfl,rfl⟩:=h; subst c1; rfl
  rw [if_neg c1] at h
  by_cases c2:first=wGraph
  · rw [if_pos c2] at h
    split at h
    · rename_i ht
      simp only [Option.some.injEq,Prod.mk.injEq,and_true] at h; subst h; subst c2
      have hw:=(ge hs).2
      simp only [wordsOk,if_true] at hw
      cases rest with
      | nil => simp [nameB] at hw
      | cons a r =>
        simp only [List.tail_cons] at ht ⊢
        have:=take_back ht
        simp [wordsS,wordsL,mkS,this]
    · cases h
  rw [if_neg c2] at h
  by_cases c3:first=wStart
  · rw [if_pos c3] at h
    simp only [Option.some.injEq,Prod.mk.injEq] at h; obtain ⟨rfl,ht⟩:=h; subst c3
    have hw:=(ge hs).2
    simp [wordsOk] at hw
    cases rest with
    | nil => simp [nameB] at hw
    | cons a r => cases r with
      | nil => simp [nameB] at hw
      | cons b r =>
        simp only [List.tail_cons] at ht; subst ht; simp [wordsS,wordsL,mkS]
  rw [if_neg c3] at h
  by_cases c4:first=wPoll
  · rw [if_pos c4] at h
    simp only [Option.some.injEq,Prod.mk.injEq] at h; obtain ⟨rfl,rfl⟩:=h; subst c4; simp [wordsS,wordsL,mkS]
  rw [if_neg c4] at h
  by_cases c5:first=wBeat
  · rw [if_pos c5] at h
    simp only [Option.some.injEq,Prod.mk.injEq] at h; obtain ⟨rfl,ht⟩:=h; subst c5
    have hf:=(ge hs).1.2.2.2.1
    unfold fitP at hf
    have:=one (w:=rest) (by simp only at hf; omega) ht
    have e:wordsS (mkS ⟨4,[],[],numS (rest.headD []),0,[],zeroD⟩)=wBeat::[Lib.itoa (numS (rest.headD []))]:=by simp [wordsS,wordsL,mkS]
    rw [e,← this]
  rw [if_neg c5] at h
  by_cases c6:first=wDone
  · rw [if_pos c6] at h
    subst c6
    by_cases ht:rest.tail=[]
    · rw [if_pos ht] at h
      simp only [Option.some.injEq,Prod.mk.injEq,and_true] at h; subst h
      have hf:=(ge hs).1.2.2.2.1
      unfold fitP at hf
      have:=one (w:=rest) (by simp only at hf; omega) ht
      have e:wordsS (mkS ⟨5,[],[],numS (rest.headD []),0,[],zeroD⟩)=wDone::[Lib.itoa (numS (rest.headD []))]:=by simp [wordsS,wordsL,mkS]
      rw [e,← this]
    · rw [if_neg ht] at h
      by_cases hx:rest.tail.headD []=[]
      · rw [if_pos hx] at h; cases h
      · rw [if_neg hx] at h
        simp only [Option.some.injEq,Prod.mk.injEq] at h; obtain ⟨rfl,h2⟩:=h
        have hf:=(ge hs).1.2.2.2.1
        unfold fitP at hf
        have e:∀ tx:Str,tx≠[]→∀ n,wordsS (mkS ⟨5,[],[],n,0,tx,zeroD⟩)=[wDone,Lib.itoa n,tx]:=fun tx hx n => by simp [wordsS,wordsL,mkS,hx]
        rw [e _ hx]
        cases rest with
        | nil => exact absurd rfl ht
        | cons a r => cases r with
          | nil => exact absurd rfl ht
          | cons b r =>
            simp only [List.tail_cons] at h2; subst h2
            simp only [List.headD_cons,List.tail_cons] at hf ⊢
            rw [numS_back (by omega)]
  rw [if_neg c6] at h
  by_cases c7:first=wFail
  · rw [if_pos c7] at h
    simp only [Option.some.injEq,Prod.mk.injEq] at h; obtain ⟨rfl,ht⟩:=h; subst c7
    have hf:=(ge hs).1.2.2.2.1
    unfold fitP at hf
    have:=one (w:=rest) (by simp only at hf; omega) ht
    have e:wordsS (mkS ⟨6,[],[],numS (rest.headD []),0,[],zeroD⟩)=wFail::[Lib.itoa (numS (rest.headD []))]:=by simp [wordsS,wordsL,mkS]
    rw [e,← this]
  rw [if_neg c7] at h
  by_cases c8:first=wCancel
  · rw [if_pos c8] at h
    simp only [Option.some.injEq,Prod.mk.injEq] at h; obtain ⟨rfl,ht⟩:=h; subst c8
    have hw:=(ge hs).2
    simp [wordsOk] at hw
    have:=name1 (w:=rest) (by simpa using hw) ht
    have e:wordsS (mkS ⟨7,rest.headD [],[],0,0,[],zeroD⟩)=wCancel::[rest.headD []]:=by simp [wordsS,wordsL,mkS]
    rw [e,← this]
  rw [if_neg c8] at h
  by_cases c9:first=wTick
  · rw [if_pos c9] at h
    simp only [Option.some.injEq,Prod.mk.injEq] at h; obtain ⟨rfl,ht⟩:=h; subst c9
    have hf:=(ge hs).1.2.2.2.1
    unfold fitP at hf
    have:=one (w:=rest) (by simp only at hf; omega) ht
    have e:wordsS (mkS ⟨8,[],[],0,numS (rest.headD []),[],zeroD⟩)=wTick::[Lib.itoa (numS (rest.headD []))]:=by simp [wordsS,wordsL,mkS]
    rw [e,← this]
  rw [if_neg c9] at h
  by_cases c10:first=wState
  · rw [if_pos c10] at h
    simp only [Option.some.injEq,Prod.mk.injEq] at h; obtain ⟨rfl,ht⟩:=h; subst c10
    have hw:=(ge hs).2
    simp [wordsOk] at hw
    have:=name1 (w:=rest) (by simpa using hw) ht
    have e:wordsS (mkS ⟨9,rest.headD [],[],0,0,[],zeroD⟩)=wState::[rest.headD []]:=by simp [wordsS,wordsL,mkS]
    rw [e,← this]
  rw [if_neg c10] at h
  by_cases c11:first=wSync
  · rw [if_pos c11] at h
    simp only [Option.some.injEq,Prod.mk.injEq] at h; obtain ⟨rfl,rfl⟩:=h; subst c11; simp [wordsS,wordsL,mkS]
  rw [if_neg c11] at h
  cases h
theorem parse_iff (text:Str) (y:Stp):parseS text=(y,true)↔lineC y text:=by
  constructor
  · intro h
    unfold parseS at h
    split at h
    · simp at h
    · rename_i x left hr
      simp only [Prod.mk.injEq,Bool.and_eq_true,decide_eq_true_eq] at h
      obtain ⟨rfl,rfl,hs⟩:=h
      refine ⟨hs, ?_⟩
      rw [raw_back hr hs,join_split]
  · intro h
    have:=(both y h.1).1
    unfold parseS
    rw [split_line h,this]
    simp [h.1]
theorem ref_iff (text:Str) (y:Stp):(readR (splitC 32 text)=(y,true)∧stpB y=true∧Lib.join (wordsS y) [32]=text)↔lineC y text:=by
  constructor
  · rintro ⟨_,h1,h2⟩; exact ⟨h1,h2⟩
  · intro h
    exact ⟨by rw [split_line h]; exact (both y h.1).2,h.1,h.2⟩
section
set_option maxRecDepth 100000
def ren_itoa:Go.Shelf.Ren:=⟨fun x => match x with | 171 => 27 | 243 => 45 | 246 => 60 | 283 => 85 | 284 => 86 | 285 => 87 | 286 => 88 | 129 => 115 | 317 => 114 | 318 => 116 | 319 => 117 | 320 => 118 | 337 => 131 | 338 => 132 | n => n,fun x => match x with | 3 => 3 | 9 => 9 | 2 => 2 | 4 => 4 | 171 => 109 | 0 => 0 | 53 => 110 | 37 => 60 | 5 => 5 | 173 => 113 | 212 => 144 | 51 => 126 | 20 => 20 | 213 => 145 | 46 => 98 | 232 => 161 | 233 => 162 | n => n,fun x => match x with | 17 => 3 | 18 => 6 | 19 => 7 | n => n⟩
theorem lays_itoa:LaysM.n171 Tryz.prog ren_itoa where
  mixed:=by kernel_rfl
  f129:=Tryz.func115.trans (congrArg some (by kernel_rfl))
  f171:=Tryz.func27.trans (congrArg some (by kernel_rfl))
  f243:=Tryz.func45.trans (congrArg some (by kernel_rfl))
  f246:=Tryz.func60.trans (congrArg some (by kernel_rfl))
  f283:=Tryz.func85.trans (congrArg some (by kernel_rfl))
  f284:=Tryz.func86.trans (congrArg some (by kernel_rfl))
  f285:=Tryz.func87.trans (congrArg some (by kernel_rfl))
  f286:=Tryz.func88.trans (congrArg some (by kernel_rfl))
  f317:=Tryz.func114.trans (congrArg some (by kernel_rfl))
  f318:=Tryz.func116.trans (congrArg some (by kernel_rfl))
  f319:=Tryz.func117.trans (congrArg some (by kernel_rfl))
  f320:=Tryz.func118.trans (congrArg some (by kernel_rfl))
  f337:=Tryz.func131.trans (congrArg some (by kernel_rfl))
  f338:=Tryz.func132.trans (congrArg some (by kernel_rfl))
  t0:=Tryz.underlying0
  a0:=Tryz.isAgg0
  z0:=Tryz.sizeOf0
  v0:=Tryz.zeroValue0
  t2:=Tryz.underlying2
  a2:=Tryz.isAgg2
  z2:=Tryz.sizeOf2
  v2:=Tryz.zeroValue2
  t3:=Tryz.underlying3
  a3:=Tryz.isAgg3
  z3:=Tryz.sizeOf3
  v3:=Tryz.zeroValue3
  t4:=Tryz.underlying4
  a4:=Tryz.isAgg4
  z4:=Tryz.sizeOf4
  v4:=Tryz.zeroValue4
  t5:=Tryz.underlying5
  a5:=Tryz.isAgg5
  z5:=Tryz.sizeOf5
  v5:=Tryz.zeroValue5
  t9:=Tryz.underlying9
  a9:=Tryz.isAgg9
  z9:=Tryz.sizeOf9
  v9:=Tryz.zeroValue9
  t20:=Tryz.underlying20
  a20:=Tryz.isAgg20
  z20:=Tryz.sizeOf20
  v20:=Tryz.zeroValue20
  t37:=Tryz.underlying60
  a37:=Tryz.isAgg60
  z37:=Tryz.sizeOf60
  v37:=Tryz.zeroValue60
  t46:=Tryz.underlying98
  a46:=Tryz.isAgg98
  z46:=Tryz.sizeOf98
  v46:=Tryz.zeroValue98
  t51:=Tryz.underlying126
  a51:=Tryz.isAgg126
  z51:=Tryz.sizeOf126
  v51:=Tryz.zeroValue126
  t53:=Tryz.underlying110
  a53:=Tryz.isAgg110
  z53:=Tryz.sizeOf110
  v53:=Tryz.zeroValue110
  t171:=Tryz.underlying109
  a171:=Tryz.isAgg109
  z171:=Tryz.sizeOf109
  v171:=Tryz.zeroValue109
  t173:=Tryz.underlying113
  a173:=Tryz.isAgg113
  z173:=Tryz.sizeOf113
  v173:=Tryz.zeroValue113
  t212:=Tryz.underlying144
  a212:=Tryz.isAgg144
  z212:=Tryz.sizeOf144
  v212:=Tryz.zeroValue144
  t213:=Tryz.underlying145
  a213:=Tryz.isAgg145
  z213:=Tryz.sizeOf145
  t232:=Tryz.underlying161
  a232:=Tryz.isAgg161
  z232:=Tryz.sizeOf161
  v232:=Tryz.zeroValue161
  t233:=Tryz.underlying162
  a233:=Tryz.isAgg162
  z233:=Tryz.sizeOf162
  v233:=Tryz.zeroValue162
  g17:=by kernel_rfl
  g18:=by kernel_rfl
  g19:=by kernel_rfl
  i0:=by kernel_rfl
  i2:=by kernel_rfl
  i3:=by kernel_rfl
  i4:=by kernel_rfl
  i5:=by kernel_rfl
  i9:=by kernel_rfl
  i20:=by kernel_rfl
  i37:=by kernel_rfl
  i46:=by kernel_rfl
  i51:=by kernel_rfl
  i53:=by kernel_rfl
  i171:=by kernel_rfl
  i173:=by kernel_rfl
  i212:=by kernel_rfl
  i232:=by kernel_rfl
  i233:=by kernel_rfl
  m17:=by kernel_rfl
  m18:=by kernel_rfl
  m19:=by kernel_rfl
end
section
open Go Go.RowKit
theorem itoa_p {P:Program} {ρ:Shelf.Ren} (L:LaysM.n171 P ρ) (hb:HasBody P (ρ.f 171)) {gi:Nat} (hg:P.globalNamed "internal/strconv.uint64pow10"=some gi) (hin:(gi,fun cs => cs=Lib.pow10Tab.map fun z => Value.int .u64 z)∈theTabs) (n:Int) (h0:-9223372036854775808≤n) (h1:n≤9223372036854775807) :
    PCall P (ρ.f 171) [.int .i64 n] (.str (Lib.itoa n)):=by
  refine .of_below hb fun g m w xs hs hx => ?_
  simp only [RC,R] at hx
  obtain ⟨y,ys,e1,rfl,rfl⟩:=hx
  obtain rfl:xs=#[.int .i64 n]:=by apply Array.ext'; simpa using e1
  obtain ⟨cs,hF,hcs⟩:=hs.tab _ hin
  simp only at hF hcs
  subst hcs
  obtain ⟨e,fr,hh⟩:=hs.fro _ _ hF
  have ht:Lib.TabIs P w "internal/strconv.uint64pow10" .u64 Lib.pow10Tab:=by
    unfold Lib.TabIs World.var?
    rw [hg]
    simp only [Option.bind_some,hh]
  refine (Any.strconv_Itoa L n h0 h1 w ht).mono ?_
  rintro e w' ⟨rfl,k,os,rfl⟩
  exact ⟨_,rfl,by simp [R],⟨rfl,rfl,rfl,by show w.heap.size≤(w.heap++os).size; rw [Array.size_append]; omega,fun j hj => by show (w.heap++os)[j]?=_; rw [Array.getElem?_append_left hj]⟩⟩
theorem p_itoa (n:Int) (h:-9223372036854775808≤n∧n≤9223372036854775807):PCall Tryz.prog 27 [.int .i64 n] (.str (Lib.itoa n)) :=
  itoa_p (P:=Tryz.prog) (ρ:=ren_itoa) lays_itoa ⟨Tryz.f27,Tryz.func27,rfl,by kernel_rfl⟩ (gi:=3) (by kernel_rfl) (by repeat (first | exact List.mem_cons_self | apply List.mem_cons_of_mem)) n h.1 h.2
end
def V.flat:V→Bool
  | .bool _ | .int _ _ | .str _ => true
  | _ => false
theorem R.flat {g g':G} {v:V} {x:Value} (h:v.flat=true) (r:R g v x):R g' v x:=by
  cases v<;>simp [V.flat] at h<;>simpa only [R] using r
theorem RS.still {g:G} {m:Hm} {w w':World} (h:RS g m w) (hz:w.heap.size≤w'.heap.size) (hb:∀ b,b < w.heap.size→w'.heap[b]?=w.heap[b]?):RS g m w' :=
  ⟨fun b cs k => by
    obtain ⟨e,fr,h1⟩:=h.fro b cs k
    exact ⟨e,fr,(hb b (Array.getElem?_eq_some_iff.1 h1).1).trans h1⟩,
   fun id ob k => (h.live id ob k).keep (.refl g) fun b s n hb' => ⟨hb b ((h.live id ob k).lt hb'),(h.live id ob k).unF hb'⟩,h.inj,h.tab⟩
def snapL (m:Hm):List V→Option (List V)
  | [] => some []
  | v::vs => match snapF m v with | some u => (match snapL m vs with | some us => some (u::us) | none => none) | none => none
theorem snapL_c {m:Hm} {v u:V} {vs us:List V} (h1:snapF m v=some u) (h2:snapL m vs=some us):snapL m (v::vs)=some (u::us):=by simp [snapL,h1,h2]
theorem snapL_n {m:Hm}:snapL m []=some []:=rfl
theorem snapF_of {m:Hm} {v u:V} (h:snap 4 m v=some u):snapF m v=some u:=by simp [snapF,h]
theorem PCall.frzA {P:Program} {f:Nat} {us vs:List V} {r:V} (h:PCall P f vs r) {H:Hp} {fp:List Nat} (hv:snapL (only fp H.m) us=some vs):ACall P f us H fp r (fp.map fun i => (i,none)) 0:=by
  refine ⟨h.1,fun p hp => .inl (by obtain ⟨i,hi,rfl⟩:=List.mem_map.1 hp; exact hi),fun m g w xs hag _ hs hx => ?_⟩
  have e0:only fp m=only fp H.m:=by
    funext id
    simp only [only]
    split
    · rename_i hid; exact hag id hid
    · rfl
  rw [← e0] at hv
  obtain ⟨F',p1,p2,p3,p4⟩:=freezeSome hs fp
  have j1:∀ {us vs:List V} {xs:List Value},snapL (only fp m) us=some vs→RC g us xs→RC ⟨g.ι,F'⟩ vs xs:=by
    intro us
    induction us with
    | nil => intro vs xs hv hx; simp [snapL] at hv; subst hv; simpa only [RC] using hx
    | cons u us ih =>
      intro vs xs hv hx
      simp only [snapL] at hv
      split at hv
      · rename_i u' hu
        split at hv
        · rename_i us' hus
          simp at hv; subst hv
          simp only [RC] at hx ⊢
          obtain ⟨y,ys,rfl,r1,r2⟩:=hx
          exact ⟨y,ys,rfl,snapF_sound (g:=g) (g':=⟨g.ι,F'⟩) (hs.only fp) p1 p4 hu r1,ih hus r2⟩
        · cases hv
      · cases hv
  have hle:g.le ⟨g.ι,F'⟩:=⟨fun _ _ k => k,p1⟩
  have hsub:∀ id o,without fp m id=some o→m id=some o:=fun id o k => by simp only [without] at k; split at k; cases k; exact k
  have hxt:Ext g m w ⟨g.ι,F'⟩ (without fp m) w :=
    ⟨Nat.le_refl _,fun _ _ _ => rfl,hle,fun b ⟨id,o,s,n,k1,k2⟩ => .inr ⟨id,o,s,n,hsub _ _ k1,k2⟩,fun b cs k => (p2 b cs k).imp (fun h => h) .inr,rfl,rfl,rfl⟩
  have hm:appd (fp.map fun i => (i,none)) m=without fp m:=by
    have:∀ (fp:List Nat) (m:Hm),appd (fp.map fun i => (i,none)) m=without fp m:=by
      intro fp
      induction fp with
      | nil => intro m; funext i; simp [appd,without]
      | cons a fp ih =>
        intro m
        simp only [List.map_cons,appd]
        rw [ih]
        funext i
        simp only [without,upd,List.mem_cons]
        by_cases h1:i∈fp<;>by_cases h2:i=a<;>simp [h1,h2]
    exact this fp m
  refine (h.2 (without fp m) ⟨g.ι,F'⟩ w xs p3 (j1 hv hx)).mono ?_
  rintro e w' ⟨x,F2,k1,k2,k3,k4⟩
  rw [hm]
  exact ⟨x,⟨g.ι,F2⟩,k1,k2,k3,fun _ _ => rfl,hxt.trans k4⟩
theorem PCall.own1 {P:Program} {f id sz len:Nat} {l:List V} {r:V} {H:Hp} (h:PCall P f [.fsl .loose sz l] r) (hm:H.m id=some (.arr sz l)) (hc:closedL l=true) (hl:len=l.length):ACall P f [.sl id 0 len] H [id] r [(id,none)] 0 :=
  h.frzA (fp:=[id]) (snapL_c (snapF_of (snap_sl (by simp [only,hm]) hc hl)) snapL_n)
def Bfo (H:Hp) (sz:Nat) (v:V) (l:List V):Prop :=
  (∃ st,(st≠.loose∧st≠.nn)∧v=.fsl st sz l)∨∃ id,id < H.n∧v=.sl id 0 l.length∧H.m id=some (.arr sz l)
theorem Bfo.frz {H:Hp} {sz:Nat} {v:V} {l:List V} (h:Bfo H sz v l) (hc:closedL l=true):∃ fz st,frzV fz H.m v=.fsl st sz l:=by
  rcases h with ⟨st,h0,rfl⟩ | ⟨id,h1,rfl,h2⟩
  · exact ⟨[],st,frz_f hc⟩
  · exact ⟨[id],.loose,by rw [frz_sl h2 (by simp) (by simp) hc]; simp⟩
theorem Bfo.keep {H:Hp} {n':Nat} {m':Hm} {sz:Nat} {v:V} {l:List V} (h:Bfo H sz v l) (hn:H.n≤n') (hm:∀ id,id < H.n→m' id=H.m id):Bfo ⟨n',m'⟩ sz v l:=by
  rcases h with h | ⟨id,h1,h2,h3⟩
  · exact .inl h
  · exact .inr ⟨id,Nat.lt_of_lt_of_le h1 hn,h2,(hm id h1).trans h3⟩
theorem vS_len' (l:List Str):(vS l).length=l.length:=mv_len
section
set_option maxRecDepth 100000
def ren_cut:Go.Shelf.Ren:=⟨fun x => match x with | 145 => 12 | 220 => 33 | 219 => 52 | 217 => 65 | 225 => 66 | 224 => 67 | 267 => 68 | 266 => 99 | 314 => 100 | n => n,fun x => match x with | 9 => 9 | 4 => 4 | 59 => 35 | 3 => 3 | 5 => 5 | 46 => 98 | 146 => 127 | 51 => 126 | n => n,fun x => match x with | 1 => 0 | n => n⟩
theorem lays_cut:Lays.n145 Tryz.prog ren_cut where
  mixed:=by kernel_rfl
  f145:=Tryz.func12.trans (congrArg some (by kernel_rfl))
  f217:=Tryz.func65.trans (congrArg some (by kernel_rfl))
  f219:=Tryz.func52.trans (congrArg some (by kernel_rfl))
  f220:=Tryz.func33.trans (congrArg some (by kernel_rfl))
  f224:=Tryz.func67.trans (congrArg some (by kernel_rfl))
  f225:=Tryz.func66.trans (congrArg some (by kernel_rfl))
  f266:=Tryz.func99.trans (congrArg some (by kernel_rfl))
  f267:=Tryz.func68.trans (congrArg some (by kernel_rfl))
  f314:=Tryz.func100.trans (congrArg some (by kernel_rfl))
  t3:=Tryz.underlying3
  a3:=Tryz.isAgg3
  z3:=Tryz.sizeOf3
  v3:=Tryz.zeroValue3
  t4:=Tryz.underlying4
  a4:=Tryz.isAgg4
  z4:=Tryz.sizeOf4
  v4:=Tryz.zeroValue4
  t5:=Tryz.underlying5
  a5:=Tryz.isAgg5
  z5:=Tryz.sizeOf5
  v5:=Tryz.zeroValue5
  t9:=Tryz.underlying9
  a9:=Tryz.isAgg9
  z9:=Tryz.sizeOf9
  v9:=Tryz.zeroValue9
  t46:=Tryz.underlying98
  a46:=Tryz.isAgg98
  z46:=Tryz.sizeOf98
  v46:=Tryz.zeroValue98
  t51:=Tryz.underlying126
  a51:=Tryz.isAgg126
  z51:=Tryz.sizeOf126
  v51:=Tryz.zeroValue126
  t59:=Tryz.underlying35
  a59:=Tryz.isAgg35
  z59:=Tryz.sizeOf35
  v59:=Tryz.zeroValue35
  t146:=Tryz.underlying127
  a146:=Tryz.isAgg127
  z146:=Tryz.sizeOf127
  v146:=Tryz.zeroValue127
  g1:=by kernel_rfl
end
section
set_option maxRecDepth 100000
def ren_split:Go.Shelf.Ren:=⟨fun x => match x with | 146 => 35 | 221 => 55 | 268 => 74 | 138 => 75 | 143 => 76 | 195 => 104 | 197 => 105 | 218 => 106 | 219 => 52 | 260 => 128 | 217 => 65 | 225 => 66 | 224 => 67 | 267 => 68 | 266 => 99 | 314 => 100 | n => n,fun x => match x with | 9 => 9 | 31 => 52 | 3 => 3 | 4 => 4 | 0 => 0 | 105 => 134 | 21 => 21 | 5 => 5 | 46 => 98 | 119 => 157 | 139 => 160 | 138 => 159 | 146 => 127 | 51 => 126 | n => n,fun x => match x with | 1 => 0 | 3 => 4 | 4 => 5 | n => n⟩
theorem lays_split:Lays.n146 Tryz.prog ren_split where
  mixed:=by kernel_rfl
  f138:=Tryz.func75.trans (congrArg some (by kernel_rfl))
  f143:=Tryz.func76.trans (congrArg some (by kernel_rfl))
  f146:=Tryz.func35.trans (congrArg some (by kernel_rfl))
  f195:=Tryz.func104.trans (congrArg some (by kernel_rfl))
  f197:=Tryz.func105.trans (congrArg some (by kernel_rfl))
  f217:=Tryz.func65.trans (congrArg some (by kernel_rfl))
  f218:=Tryz.func106.trans (congrArg some (by kernel_rfl))
  f219:=Tryz.func52.trans (congrArg some (by kernel_rfl))
  f221:=Tryz.func55.trans (congrArg some (by kernel_rfl))
  f224:=Tryz.func67.trans (congrArg some (by kernel_rfl))
  f225:=Tryz.func66.trans (congrArg some (by kernel_rfl))
  f260:=Tryz.func128.trans (congrArg some (by kernel_rfl))
  f266:=Tryz.func99.trans (congrArg some (by kernel_rfl))
  f267:=Tryz.func68.trans (congrArg some (by kernel_rfl))
  f268:=Tryz.func74.trans (congrArg some (by kernel_rfl))
  f314:=Tryz.func100.trans (congrArg some (by kernel_rfl))
  t0:=Tryz.underlying0
  a0:=Tryz.isAgg0
  z0:=Tryz.sizeOf0
  v0:=Tryz.zeroValue0
  t3:=Tryz.underlying3
  a3:=Tryz.isAgg3
  z3:=Tryz.sizeOf3
  v3:=Tryz.zeroValue3
  t4:=Tryz.underlying4
  a4:=Tryz.isAgg4
  z4:=Tryz.sizeOf4
  v4:=Tryz.zeroValue4
  t5:=Tryz.underlying5
  a5:=Tryz.isAgg5
  z5:=Tryz.sizeOf5
  v5:=Tryz.zeroValue5
  t9:=Tryz.underlying9
  a9:=Tryz.isAgg9
  z9:=Tryz.sizeOf9
  v9:=Tryz.zeroValue9
  t21:=Tryz.underlying21
  a21:=Tryz.isAgg21
  z21:=Tryz.sizeOf21
  v21:=Tryz.zeroValue21
  t31:=Tryz.underlying52
  a31:=Tryz.isAgg52
  z31:=Tryz.sizeOf52
  v31:=Tryz.zeroValue52
  t46:=Tryz.underlying98
  a46:=Tryz.isAgg98
  z46:=Tryz.sizeOf98
  v46:=Tryz.zeroValue98
  t51:=Tryz.underlying126
  a51:=Tryz.isAgg126
  z51:=Tryz.sizeOf126
  v51:=Tryz.zeroValue126
  t105:=Tryz.underlying134
  a105:=Tryz.isAgg134
  z105:=Tryz.sizeOf134
  v105:=Tryz.zeroValue134
  t119:=Tryz.underlying157
  a119:=Tryz.isAgg157
  z119:=Tryz.sizeOf157
  t138:=Tryz.underlying159
  a138:=Tryz.isAgg159
  z138:=Tryz.sizeOf159
  v138:=Tryz.zeroValue159
  t139:=Tryz.underlying160
  a139:=Tryz.isAgg160
  z139:=Tryz.sizeOf160
  v139:=Tryz.zeroValue160
  t146:=Tryz.underlying127
  a146:=Tryz.isAgg127
  z146:=Tryz.sizeOf127
  v146:=Tryz.zeroValue127
  g1:=by kernel_rfl
  g3:=by kernel_rfl
  g4:=by kernel_rfl
end
section
set_option maxRecDepth 100000
def ren_atoi:Go.Shelf.Ren:=⟨fun x => match x with | 172 => 34 | 244 => 53 | 245 => 54 | 247 => 69 | 279 => 70 | 280 => 71 | 281 => 72 | 282 => 73 | 287 => 101 | 316 => 102 | 171 => 27 | 205 => 103 | 321 => 126 | 322 => 127 | 243 => 45 | 246 => 60 | 283 => 85 | 284 => 86 | 285 => 87 | 286 => 88 | 129 => 115 | 317 => 114 | 318 => 116 | 319 => 117 | 320 => 118 | 337 => 131 | 338 => 132 | n => n,fun x => match x with | 9 => 9 | 3 => 3 | 75 => 64 | 76 => 65 | 4 => 4 | 5 => 5 | 167 => 99 | 37 => 60 | 0 => 0 | 85 => 100 | 2 => 2 | 168 => 102 | 53 => 110 | 175 => 129 | 46 => 98 | 210 => 132 | 127 => 82 | 145 => 153 | 143 => 151 | 21 => 21 | 171 => 109 | 173 => 113 | 212 => 144 | 51 => 126 | 20 => 20 | 213 => 145 | 232 => 161 | 233 => 162 | 80 => 69 | n => n,fun x => match x with | 15 => 1 | 16 => 2 | 17 => 3 | 18 => 6 | 19 => 7 | n => n⟩
theorem lays_atoi:LaysC.n172 Tryz.prog ren_atoi where
  mixed:=by kernel_rfl
  f129:=Tryz.func115.trans (congrArg some (by kernel_rfl))
  f171:=Tryz.func27.trans (congrArg some (by kernel_rfl))
  f172:=Tryz.func34.trans (congrArg some (by kernel_rfl))
  f205:=Tryz.func103.trans (congrArg some (by kernel_rfl))
  f243:=Tryz.func45.trans (congrArg some (by kernel_rfl))
  f244:=Tryz.func53.trans (congrArg some (by kernel_rfl))
  f245:=Tryz.func54.trans (congrArg some (by kernel_rfl))
  f246:=Tryz.func60.trans (congrArg some (by kernel_rfl))
  f247:=Tryz.func69.trans (congrArg some (by kernel_rfl))
  f279:=Tryz.func70.trans (congrArg some (by kernel_rfl))
  f280:=Tryz.func71.trans (congrArg some (by kernel_rfl))
  f281:=Tryz.func72.trans (congrArg some (by kernel_rfl))
  f282:=Tryz.func73.trans (congrArg some (by kernel_rfl))
  f283:=Tryz.func85.trans (congrArg some (by kernel_rfl))
  f284:=Tryz.func86.trans (congrArg some (by kernel_rfl))
  f285:=Tryz.func87.trans (congrArg some (by kernel_rfl))
  f286:=Tryz.func88.trans (congrArg some (by kernel_rfl))
  f287:=Tryz.func101.trans (congrArg some (by kernel_rfl))
  f316:=Tryz.func102.trans (congrArg some (by kernel_rfl))
  f317:=Tryz.func114.trans (congrArg some (by kernel_rfl))
  f318:=Tryz.func116.trans (congrArg some (by kernel_rfl))
  f319:=Tryz.func117.trans (congrArg some (by kernel_rfl))
  f320:=Tryz.func118.trans (congrArg some (by kernel_rfl))
  f321:=Tryz.func126.trans (congrArg some (by kernel_rfl))
  f322:=Tryz.func127.trans (congrArg some (by kernel_rfl))
  f337:=Tryz.func131.trans (congrArg some (by kernel_rfl))
  f338:=Tryz.func132.trans (congrArg some (by kernel_rfl))
  t0:=Tryz.underlying0
  a0:=Tryz.isAgg0
  z0:=Tryz.sizeOf0
  v0:=Tryz.zeroValue0
  t2:=Tryz.underlying2
  a2:=Tryz.isAgg2
  z2:=Tryz.sizeOf2
  v2:=Tryz.zeroValue2
  t3:=Tryz.underlying3
  a3:=Tryz.isAgg3
  z3:=Tryz.sizeOf3
  v3:=Tryz.zeroValue3
  t4:=Tryz.underlying4
  a4:=Tryz.isAgg4
  z4:=Tryz.sizeOf4
  v4:=Tryz.zeroValue4
  t5:=Tryz.underlying5
  a5:=Tryz.isAgg5
  z5:=Tryz.sizeOf5
  v5:=Tryz.zeroValue5
  t9:=Tryz.underlying9
  a9:=Tryz.isAgg9
  z9:=Tryz.sizeOf9
  v9:=Tryz.zeroValue9
  t20:=Tryz.underlying20
  a20:=Tryz.isAgg20
  z20:=Tryz.sizeOf20
  v20:=Tryz.zeroValue20
  t21:=Tryz.underlying21
  a21:=Tryz.isAgg21
  z21:=Tryz.sizeOf21
  v21:=Tryz.zeroValue21
  t37:=Tryz.underlying60
  a37:=Tryz.isAgg60
  z37:=Tryz.sizeOf60
  v37:=Tryz.zeroValue60
  t46:=Tryz.underlying98
  a46:=Tryz.isAgg98
  z46:=Tryz.sizeOf98
  v46:=Tryz.zeroValue98
  t51:=Tryz.underlying126
  a51:=Tryz.isAgg126
  z51:=Tryz.sizeOf126
  v51:=Tryz.zeroValue126
  t53:=Tryz.underlying110
  a53:=Tryz.isAgg110
  z53:=Tryz.sizeOf110
  v53:=Tryz.zeroValue110
  t75:=Tryz.underlying64
  a75:=Tryz.isAgg64
  z75:=Tryz.sizeOf64
  v75:=Tryz.zeroValue64
  t76:=Tryz.underlying65
  a76:=Tryz.isAgg65
  z76:=Tryz.sizeOf65
  v76:=Tryz.zeroValue65
  t85:=Tryz.underlying100
  a85:=Tryz.isAgg100
  z85:=Tryz.sizeOf100
  v85:=Tryz.zeroValue100
  t127:=Tryz.underlying82
  a127:=Tryz.isAgg82
  z127:=Tryz.sizeOf82
  v127:=Tryz.zeroValue82
  t143:=Tryz.underlying151
  a143:=Tryz.isAgg151
  z143:=Tryz.sizeOf151
  v143:=Tryz.zeroValue151
  t145:=Tryz.underlying153
  a145:=Tryz.isAgg153
  z145:=Tryz.sizeOf153
  v145:=Tryz.zeroValue153
  t167:=Tryz.underlying99
  a167:=Tryz.isAgg99
  z167:=Tryz.sizeOf99
  v167:=Tryz.zeroValue99
  t168:=Tryz.underlying102
  a168:=Tryz.isAgg102
  z168:=Tryz.sizeOf102
  v168:=Tryz.zeroValue102
  t171:=Tryz.underlying109
  a171:=Tryz.isAgg109
  z171:=Tryz.sizeOf109
  v171:=Tryz.zeroValue109
  t173:=Tryz.underlying113
  a173:=Tryz.isAgg113
  z173:=Tryz.sizeOf113
  v173:=Tryz.zeroValue113
  t175:=Tryz.underlying129
  a175:=Tryz.isAgg129
  z175:=Tryz.sizeOf129
  v175:=Tryz.zeroValue129
  t210:=Tryz.underlying132
  a210:=Tryz.isAgg132
  z210:=Tryz.sizeOf132
  v210:=Tryz.zeroValue132
  t212:=Tryz.underlying144
  a212:=Tryz.isAgg144
  z212:=Tryz.sizeOf144
  v212:=Tryz.zeroValue144
  t213:=Tryz.underlying145
  a213:=Tryz.isAgg145
  z213:=Tryz.sizeOf145
  t232:=Tryz.underlying161
  a232:=Tryz.isAgg161
  z232:=Tryz.sizeOf161
  v232:=Tryz.zeroValue161
  t233:=Tryz.underlying162
  a233:=Tryz.isAgg162
  z233:=Tryz.sizeOf162
  v233:=Tryz.zeroValue162
  g15:=by kernel_rfl
  g16:=by kernel_rfl
  g17:=by kernel_rfl
  g18:=by kernel_rfl
  g19:=by kernel_rfl
  t80:=Tryz.underlying69
  a80:=Tryz.isAgg69
  z80:=Tryz.sizeOf69
  v80:=Tryz.zeroValue69
  i0:=by kernel_rfl
  i2:=by kernel_rfl
  i3:=by kernel_rfl
  i4:=by kernel_rfl
  i5:=by kernel_rfl
  i9:=by kernel_rfl
  i20:=by kernel_rfl
  i21:=by kernel_rfl
  i37:=by kernel_rfl
  i46:=by kernel_rfl
  i51:=by kernel_rfl
  i53:=by kernel_rfl
  i75:=by kernel_rfl
  i76:=by kernel_rfl
  i80:=by kernel_rfl
  i85:=by kernel_rfl
  i127:=by kernel_rfl
  i143:=by kernel_rfl
  i145:=by kernel_rfl
  i167:=by kernel_rfl
  i168:=by kernel_rfl
  i171:=by kernel_rfl
  i173:=by kernel_rfl
  i175:=by kernel_rfl
  i210:=by kernel_rfl
  i212:=by kernel_rfl
  i232:=by kernel_rfl
  i233:=by kernel_rfl
  m15:=by kernel_rfl
  m16:=by kernel_rfl
  m17:=by kernel_rfl
  m18:=by kernel_rfl
  m19:=by kernel_rfl
  c0:=by kernel_rfl
  c2:=by kernel_rfl
  c3:=by kernel_rfl
  c4:=by kernel_rfl
  c5:=by kernel_rfl
  c9:=by kernel_rfl
  c20:=by kernel_rfl
  c21:=by kernel_rfl
  c37:=by kernel_rfl
  c46:=by kernel_rfl
  c51:=by kernel_rfl
  c53:=by kernel_rfl
  c75:=by kernel_rfl
  c76:=by kernel_rfl
  c80:=by kernel_rfl
  c85:=by kernel_rfl
  c127:=by kernel_rfl
  c143:=by kernel_rfl
  c145:=by kernel_rfl
  c167:=by kernel_rfl
  c168:=by kernel_rfl
  c171:=by kernel_rfl
  c173:=by kernel_rfl
  c175:=by kernel_rfl
  c210:=by kernel_rfl
  c212:=by kernel_rfl
  c213:=by kernel_rfl
  c232:=by kernel_rfl
  c233:=by kernel_rfl
end
section
open Go Go.RowKit
def maxT (cs:List Value):Prop:=∃ m,cs=[Value.int .i64 m]
def errT (cs:List Value):Prop:=∃ ev,cs=[ev]∧(ev=Value.nilIface∨∃ te pe,ev=Value.iface te pe)
theorem tab_cell {g:G} {m:Hm} {w:World} (hs:RS g m w) {gi:Nat} {p:List Value→Prop} (hin:(gi,p)∈theTabs):∃ cs,p cs∧∀ j v,cs[j]?=some v→w.cell? ⟨gi,j,none⟩=some v:=by
  obtain ⟨cs,hF,hp⟩:=hs.tab _ hin
  obtain ⟨e,fr,hh⟩:=hs.fro _ _ hF
  exact ⟨cs,hp,fun j v hj => by simp [World.cell?,hh,hj]⟩
theorem cut_p {P:Program} {ρ:Shelf.Ren} (L:Lays.n145 P ρ) (hb:HasBody P (ρ.f 145)) (hin:(ρ.g 1,maxT)∈theTabs) (s:Str) (c:UInt8) (hl:s.length < 4294967281) :
    PCall P (ρ.f 145) [.str s,.str [c]] (.tup [.str (cutC c s).1,.str (cutC c s).2.1,.bool (cutC c s).2.2]):=by
  refine .of_below hb fun g m w xs hs hx => ?_
  simp only [RC,R] at hx
  obtain ⟨y,ys,e1,rfl,z,zs,rfl,rfl,rfl⟩:=hx
  obtain rfl:xs=#[.string ⟨s.toArray⟩,.string ⟨[c].toArray⟩]:=by apply Array.ext'; simpa using e1
  obtain ⟨cs,⟨m0,rfl⟩,hc⟩:=tab_cell hs hin
  refine (Any.strings_Cut L ⟨s.toArray⟩ ⟨[c].toArray⟩ m0 w (by simpa [ByteArray.size] using hl) (hc 0 _ rfl)).mono ?_
  rintro e w' ⟨rfl,n,rfl⟩
  refine ⟨_,rfl, ?_,⟨rfl,rfl,rfl,Nat.le_refl _,fun _ _ => rfl⟩⟩
  have hcut:Lib.cut s [c]=cutC c s:=cut_c c s
  simp only [hcut,R,RC]
  exact ⟨_,rfl,_,_,rfl,rfl,_,_,rfl,rfl,_,_,rfl,rfl,rfl⟩
theorem bytes_list (l:List ByteArray):(l.map (·.data.toList)).map (fun s:Str => (⟨s.toArray⟩:ByteArray))=l:=by
  induction l with
  | nil => rfl
  | cons a l ih => simp only [List.map_cons,ih]
theorem split_p {P:Program} {ρ:Shelf.Ren} (L:Lays.n146 P ρ) (hb:HasBody P (ρ.f 146)) (hin:(ρ.g 1,maxT)∈theTabs) (hi9:(P.info? (ρ.t 9)).map (fun i => (i.zero,i.size,i.bytes))=some (some (.string ByteArray.empty),1,16)) (s:Str) (c:UInt8) (hl:s.length < 4294967281) :
    PCall P (ρ.f 146) [.str s,.str [c]] (.fsl .full 1 (vS (splitC c s))):=by
  refine ⟨hb,fun m g w xs hs hx => ?_⟩
  simp only [RC,R] at hx
  obtain ⟨y,ys,e1,rfl,z,zs,rfl,rfl,rfl⟩:=hx
  obtain rfl:xs=#[.string ⟨s.toArray⟩,.string ⟨[c].toArray⟩]:=by apply Array.ext'; simpa using e1
  obtain ⟨cs,⟨m0,rfl⟩,hc⟩:=tab_cell hs hin
  refine (Any.strings_Split L hi9 ⟨s.toArray⟩ ⟨[c].toArray⟩ m0 w (by simpa [ByteArray.size] using hl) (hc 0 _ rfl) (by simp [ByteArray.size])).mono ?_
  rintro e w' ⟨rfl,rfl⟩
  have hlen:=Lib.splitB_all ⟨[c].toArray⟩ (by simp [ByteArray.size]) 0 _ ⟨s.toArray⟩ rfl
  have hk:(Lib.splitB ⟨[c].toArray⟩ 0 (Lib.countB ⟨s.toArray⟩ ⟨[c].toArray⟩) ⟨s.toArray⟩).map (·.data.toList)=splitC c s:=by
    rw [Lib.splitB_data]
    exact count_c c (s.length+1) s (by omega) _ (Nat.le_refl _)
  have hv:(Lib.splitB ⟨[c].toArray⟩ 0 (Lib.countB ⟨s.toArray⟩ ⟨[c].toArray⟩) ⟨s.toArray⟩).map Value.string=(splitC c s).map fun s:Str => Value.string ⟨s.toArray⟩:=by
    rw [← hk,List.map_map]
    conv => lhs; rw [← bytes_list (Lib.splitB ⟨[c].toArray⟩ 0 (Lib.countB ⟨s.toArray⟩ ⟨[c].toArray⟩) ⟨s.toArray⟩)]
    simp [List.map_map,Function.comp_def]
  have hn:(splitC c s).length=Lib.countB ⟨s.toArray⟩ ⟨[c].toArray⟩+1:=by rw [← hk,List.length_map]; exact hlen
  rw [hv,← hn]
  obtain ⟨h1,h2⟩:=hs.new_froze (w':=w.alloc (.cells ((splitC c s).map fun s:Str => Value.string ⟨s.toArray⟩).toArray (ρ.t 9))) ⟨rfl,rfl,rfl⟩ rfl
  refine ⟨_,(g.froze w.heap.size ((splitC c s).map fun s:Str => Value.string ⟨s.toArray⟩).toArray.toList).F,rfl, ?_,h1,h2⟩
  simp only [R]
  refine ⟨some ⟨w.heap.size,0,none⟩,(splitC c s).length,(splitC c s).map fun s:Str => Value.string ⟨s.toArray⟩,by rw [vS_len'], ?_, ?_,by rw [vS_len']; exact Nat.le_refl _,by simp,by simp,by rw [vS_len']; simp,.inr ⟨_,_,rfl,[],[],by simp [G.froze],rfl⟩⟩
  · have:∀ l:List Str,RL (⟨g.ι,(g.froze w.heap.size ((splitC c s).map fun s:Str => Value.string ⟨s.toArray⟩).toArray.toList).F⟩:G) (vS l) (l.map fun s:Str => Value.string ⟨s.toArray⟩):=by
      intro l
      induction l with
      | nil => simp [vS,mv,RL]
      | cons a l ih => simp only [vS,mv,List.map_cons,RL] at ih ⊢; exact ⟨.string ⟨a.toArray⟩,_,rfl,⟨rfl,by simp [R]⟩,ih⟩
    exact this _
  · intro v hv; obtain ⟨a,_,rfl⟩:=mv_mem hv; rfl
def atoiV (T:Nat) (s:Str):V:=match Lib.atoiAll s with
  | .ok v => .tup [.int .i64 v,.nili]
  | Lib.NumEnd.syntax => .tup [.int .i64 0,.ifc T .jk]
  | Lib.NumEnd.range => .tup [.int .i64 (Lib.atoiSat s),.ifc T .jk]
theorem atoi_p {P:Program} {ρ:Shelf.Ren} (L:LaysC.n172 P ρ) (hb:HasBody P (ρ.f 172)) (h15:(ρ.g 15,errT)∈theTabs) (h16:(ρ.g 16,errT)∈theTabs) (s:Str) (hl:s.length≤281474976710656) :
    PCall P (ρ.f 172) [.str s] (atoiV (ρ.t 168) s):=by
  refine .of_below hb fun g m w xs hs hx => ?_
  simp only [RC,R] at hx
  obtain ⟨y,ys,e1,rfl,rfl⟩:=hx
  obtain rfl:xs=#[.string ⟨s.toArray⟩]:=by apply Array.ext'; simpa using e1
  have hsz:(⟨s.toArray⟩:ByteArray).size=s.length:=by simp [ByteArray.size]
  obtain ⟨cs1,⟨ev1,rfl,he1⟩,hc1⟩:=tab_cell hs h15
  obtain ⟨cs2,⟨ev2,rfl,he2⟩,hc2⟩:=tab_cell hs h16
  unfold atoiV
  rcases ha:Lib.atoiAll s with v | _ | _
  ·
    refine (Any.strconv_Atoi_ok L ⟨s.toArray⟩ (by rw [hsz]; omega) v ha w).mono ?_
    rintro e w' ⟨rfl,hw⟩
    refine ⟨_,rfl, ?_, ?_⟩
    · simp only [R,RC]; exact ⟨_,rfl,_,_,rfl,rfl,_,_,rfl,rfl,rfl⟩
    · rcases hw with rfl | ⟨t,rfl⟩
      · exact .refl _ _
      · exact Lib.bytesWorld_below _ _ _
  ·
    refine (Any.strconv_Atoi_syntax L ⟨s.toArray⟩ (by rw [hsz]; omega) ha ev1 w (hc1 0 _ rfl) he1).mono ?_
    rintro e w' ⟨N,rfl,_,_,hw⟩
    refine ⟨_,rfl, ?_,hw⟩
    simp only [R,RC]; exact ⟨_,rfl,_,_,rfl,rfl,_,_,rfl,⟨_,rfl,rfl⟩,rfl⟩
  ·
    refine (Any.strconv_Atoi_range L ⟨s.toArray⟩ (by rw [hsz]; omega) ha ev2 w (hc2 0 _ rfl) he2).mono ?_
    rintro e w' ⟨N,rfl,_,_,hw⟩
    refine ⟨_,rfl, ?_,hw⟩
    simp only [R,RC]; exact ⟨_,rfl,_,_,rfl,rfl,_,_,rfl,⟨_,rfl,rfl⟩,rfl⟩
theorem p_cut (s:Str) (c:UInt8) (hl:s.length < 4294967281):PCall Tryz.prog 12 [.str s,.str [c]] (.tup [.str (cutC c s).1,.str (cutC c s).2.1,.bool (cutC c s).2.2]) :=
  cut_p (ρ:=ren_cut) lays_cut ⟨Tryz.f12,Tryz.func12,rfl,by kernel_rfl⟩ (by repeat (first | exact List.mem_cons_self | apply List.mem_cons_of_mem)) s c hl
theorem p_split (s:Str) (c:UInt8) (hl:s.length < 4294967281):PCall Tryz.prog 35 [.str s,.str [c]] (.fsl .full 1 (vS (splitC c s))) :=
  split_p (ρ:=ren_split) lays_split ⟨Tryz.f35,Tryz.func35,rfl,by kernel_rfl⟩ (by repeat (first | exact List.mem_cons_self | apply List.mem_cons_of_mem)) (by kernel_rfl) s c hl
theorem p_atoi (s:Str) (hl:s.length≤281474976710656):PCall Tryz.prog 34 [.str s] (atoiV (ren_atoi.t 168) s) :=
  atoi_p (ρ:=ren_atoi) lays_atoi ⟨Tryz.f34,Tryz.func34,rfl,by kernel_rfl⟩ (by repeat (first | exact List.mem_cons_self | apply List.mem_cons_of_mem)) (by repeat (first | exact List.mem_cons_self | apply List.mem_cons_of_mem)) s hl
end
def c14:C :=
  (.seq
 (.reg false [p (.mov (.k (.int .i64 0)))] [(0,.v 0)])
 (.seq
 (.reg false [p (.mov (.v 0)),
 p (.call true (.k (.fn 34 [] [])) [.r 0]),
 p (.mov (.r 0)),
 p (.ext (.r 0) 0),
 p (.ext (.r 1) 1),
 p (.mov (.r 1)),
 p (.mov (.r 1))] [(0,.v 0),(3,.r 1),(4,.r 0)])
 (.seq
 (.seq
 (.reg false [p (.mov (.v 4)),
 p (.eqn true .i (.r 0)),
 p (.mov (.r 0)),
 ⟨.mov (.v 3),some (0,false),[]⟩,
 ⟨.bin .lss (.r 0) (.k (.int .i64 0)),some (1,false),[]⟩,
 p (.pick (.r 2) (.k (.bool true)) (.r 0)),
 p (.mov (.r 0)),
 ⟨.mov (.v 3),some (0,false),[]⟩,
 ⟨.call true (.k (.fn 27 [] [])) [.r 0],some (1,false),[]⟩,
 ⟨.mov (.v 0),some (2,false),[]⟩,
 ⟨.bin .neq (.r 1) (.r 0),some (3,false),[]⟩,
 p (.pick (.r 4) (.k (.bool true)) (.r 0))] [(3,.v 3),(21,.r 0)])
 (.cond (.v 21)
 (.seq
 (.reg false [p (.mov (.k (.int .i64 (-1))))] [(2,.r 0)])
 .ret)
 .skip))
 (.seq
 (.reg false [p (.mov (.v 3)),
 p (.mov (.r 0))] [(2,.r 0)])
 .ret))))
def r14:List RV:=[.t 2]
theorem en14:EnP Tryz.prog 14 23 c14 r14:=mkEnP (by kernel_rfl) Tryz.func14 (by kernel_rfl) ⟨_,rfl,by kernel_rfl,by kernel_rfl⟩
def c37:C :=
  (.seq
 (.reg false [p (.alloc 4 (.agg [.fsl .nil 1 [],.int .i64 0,.int .i64 0,.int .i64 0])),
 p (.mov (.k (.bool false)))] [(0,.v 0),(2,.r 1)])
 (.seq
 (.reg false [p (.mov (.k (.fsl .nil 1 [])))] [(0,.v 0),(2,.v 2),(4,.r 0)])
 (.seq
 (.seq
 (.reg false [p (.mov (.v 0)),
 p (.call true (.k (.fn 35 [] [])) [.r 0,.k (.str [44])]),
 p (.len false (.r 0)),
 p (.mov (.k (.int .i64 0)))] [(2,.v 2),(4,.v 4),(10,.r 2),(11,.r 1),(12,.r 0)])
 (.block 0
 (.loop
 (.seq
 (.reg false [p (.bin .lss (.v 12) (.v 11))] [(2,.v 2),(4,.v 4),(10,.v 10),(11,.v 11),(12,.v 12),(13,.r 0)])
 (.seq
 (.cond (.v 13)
 .skip
 (.exit 0))
 (.seq
 (.block 1
 (.seq
 (.reg false [p (.iad 1 (.v 10) (.v 12)),
 p (.load (none) (.r 0)),
 p (.mov (.r 0))] [(2,.v 2),(4,.v 4),(6,.r 0),(10,.v 10),(11,.v 11),(12,.v 12)])
 (.seq
 (.reg false [p (.mov (.v 6)),
 p (.call true (.k (.fn 14 [] [])) [.r 0]),
 p (.mov (.r 0))] [(2,.v 2),(4,.v 4),(7,.r 0),(10,.v 10),(11,.v 11),(12,.v 12)])
 (.seq
 (.seq
 (.reg false [p (.mov (.v 7)),
 p (.bin .lss (.r 0) (.k (.int .i64 0)))] [(2,.v 2),(4,.v 4),(7,.v 7),(10,.v 10),(11,.v 11),(12,.v 12),(19,.r 0)])
 (.cond (.v 19)
 (.seq
 (.reg false [p (.build [.fsl .nil 1 [],.int .i64 0,.int .i64 0,.int .i64 0] []),
 p (.store (some 4) (.v 2) (.r 0)),
 p (.mov (.k (.bool false)))] [(2,.v 2),(3,.r 0)])
 .ret)
 .skip))
 (.reg false [p (.mov (.v 4)),
 p (.mov (.v 7)),
 p (.bsl 1 [.r 0]),
 p (.app 1 8 (.r 2) (.r 0)),
 p (.mov (.r 0))] [(2,.v 2),(4,.r 0),(10,.v 10),(11,.v 11),(12,.v 12)])))))
 (.reg false [p (.bin .add (.v 12) (.k (.int .i64 1))),
 p (.mov (.r 0))] [(2,.v 2),(4,.v 4),(10,.v 10),(11,.v 11),(12,.r 0)])))))))
 (.frz
 (.seq
 (.seq
 (.reg false [p (.mov (.v 4)),
 p (.len false (.r 0)),
 p (.bin .lss (.r 0) (.k (.int .i64 3)))] [(2,.v 2),(4,.v 4),(28,.r 0)])
 (.cond (.v 28)
 (.seq
 (.reg false [p (.build [.fsl .nil 1 [],.int .i64 0,.int .i64 0,.int .i64 0] []),
 p (.store (some 4) (.v 2) (.r 0)),
 p (.mov (.k (.bool false)))] [(2,.v 2),(3,.r 0)])
 .ret)
 .skip))
 (.seq
 (.reg true [p (.mov (.v 4)),
 p (.iad 1 (.r 0) (.k (.int .i64 0))),
 p (.load (none) (.r 0)),
 p (.mov (.v 4)),
 p (.iad 1 (.r 0) (.k (.int .i64 1))),
 p (.load (none) (.r 0)),
 p (.mov (.v 4)),
 p (.iad 1 (.r 0) (.k (.int .i64 2))),
 p (.load (none) (.r 0)),
 p (.build [.fsl .nil 1 [],.int .i64 0,.int .i64 0,.int .i64 0] [(1,1,.r 6),(2,1,.r 3),(3,1,.r 0)]),
 ⟨.alloc 4 (.agg [.fsl .nil 1 [],.int .i64 0,.int .i64 0,.int .i64 0]),none,[8,7,5,4,2,1]⟩,
 p (.store (some 4) (.r 0) (.r 1))] [(2,.v 2),(4,.v 4),(8,.r 1)])
 (.seq
 (.seq
 (.reg false [p (.mov (.v 4)),
 p (.len false (.r 0)),
 p (.bin .gtr (.r 0) (.k (.int .i64 3)))] [(2,.v 2),(4,.v 4),(8,.v 8),(42,.r 0)])
 (.cond (.v 42)
 (.reg false [p (.mov (.v 4)),
 p (.slc 1 (.r 0) (some (.k (.int .i64 3))) none none),
 p (.fad 0 (.v 8)),
 p (.store (none) (.r 0) (.r 1))] [(2,.v 2),(8,.v 8)])
 .skip))
 (.seq
 (.reg false [p (.load (some 4) (.v 8)),
 p (.store (some 4) (.v 2) (.r 0)),
 p (.mov (.k (.bool true)))] [(2,.v 2),(3,.r 0)])
 .ret))))))))
def r37:List RV:=[.c 2 (some 4),.t 3]
theorem en37:EnP Tryz.prog 37 47 c37 r37:=mkEnP (by kernel_rfl) Tryz.func37 (by kernel_rfl) ⟨_,rfl,by kernel_rfl,by kernel_rfl⟩
def c36:C :=
  (.seq
 (.reg false [p (.mov (.k (.str [])))] [(0,.v 0)])
 (.seq
 (.seq
 (.reg false [p (.load (none) (.v 0)),
 p (.len false (.r 0)),
 p (.bin .eql (.r 0) (.k (.int .i64 0)))] [(0,.v 0),(5,.r 0)])
 (.cond (.v 5)
 (.seq
 (.reg false [p (.mov (.k (.str [])))] [(1,.r 0)])
 .ret)
 .skip))
 (.seq
 (.reg false [p (.load (none) (.v 0)),
 p (.iad 1 (.r 0) (.k (.int .i64 0))),
 p (.load (none) (.r 0)),
 p (.mov (.r 0))] [(0,.v 0),(2,.r 0)])
 (.seq
 (.reg false [p (.load (none) (.v 0)),
 p (.slc 1 (.r 0) (some (.k (.int .i64 1))) none none),
 p (.store (none) (.v 0) (.r 0))] [(2,.v 2)])
 (.seq
 (.reg false [p (.mov (.v 2)),
 p (.mov (.r 0))] [(1,.r 0)])
 .ret)))))
def r36:List RV:=[.t 1]
theorem chk36:Chk Tryz.prog Tryz.f36 c36 r36:=⟨_,rfl,by kernel_rfl,by kernel_rfl⟩
theorem ena36:EnA Tryz.prog 36 12 c36 r36:=mkEnA (by kernel_rfl) Tryz.func36 (by kernel_rfl) chk36
def c15:C :=
  (.seq
 (.reg false [p (.alloc 11 (.agg [.int .i64 0,.str [],.str [],.int .i64 0,.int .i64 0,.str [],.str [],.fsl .nil 4 [],.bool false,.bool false,.fsl .nil 1 []])),
 p (.mov (.k (.bool false)))] [(0,.v 0),(2,.r 1)])
 (.seq
 (.reg false [p (.mov (.v 0)),
 p (.call true (.k (.fn 35 [] [])) [.r 0,.k (.str [32])]),
 p (.mov (.r 0))] [(2,.v 2),(4,.r 0)])
 (.seq
 (.reg true [p (.mov (.v 4)),
 p (.iad 1 (.r 0) (.k (.int .i64 0))),
 p (.load (none) (.r 0)),
 p (.mov (.v 4)),
 p (.slc 1 (.r 0) (some (.k (.int .i64 1))) none none),
 ⟨.alloc 1 (.fsl .nil 1 []),none,[3,2,0]⟩,
 p (.mov (.r 3)),
 p (.store (none) (.r 1) (.r 2))] [(2,.v 2),(5,.r 1),(6,.r 2)])
 (.seq
 (.reg false [p (.mkf 36 [] [.v 6]),
 p (.mov (.r 0))] [(2,.v 2),(5,.v 5),(6,.v 6),(7,.r 0)])
 (.seq
 (.reg false [p (.alloc 11 (.agg [.int .i64 0,.str [],.str [],.int .i64 0,.int .i64 0,.str [],.str [],.fsl .nil 4 [],.bool false,.bool false,.fsl .nil 1 []]))] [(2,.v 2),(5,.v 5),(6,.v 6),(7,.v 7),(8,.r 0)])
 (.seq
 (.reg false [p (.fad 0 (.v 8)),
 p (.mov (.r 0))] [(2,.v 2),(5,.v 5),(6,.v 6),(7,.v 7),(8,.v 8),(9,.r 0)])
 (.seq
 (.seq
 (.reg false [p (.mov (.v 5))] [(2,.v 2),(6,.v 6),(7,.v 7),(8,.v 8),(9,.v 9),(21,.r 0)])
 (.block 0
 (.seq
 (.reg false [p (.bin .eql (.v 21) (.k (.str [99,114,97,115,104]))),
 p (.mov (.r 0))] [(2,.v 2),(6,.v 6),(7,.v 7),(8,.v 8),(9,.v 9),(21,.v 21),(23,.r 0)])
 (.cond (.v 23)
 (.seq
 (.reg false [p (.fad 9 (.v 8)),
 p (.store (none) (.r 0) (.k (.bool true)))] [(2,.v 2),(6,.v 6),(7,.v 7),(8,.v 8)])
 (.block 1
 (.loop
 (.seq
 (.seq
 (.reg false [p (.load (none) (.v 6)),
 p (.len false (.r 0)),
 p (.bin .gtr (.r 0) (.k (.int .i64 0)))] [(2,.v 2),(6,.v 6),(7,.v 7),(8,.v 8),(28,.r 0)])
 (.cond (.v 28)
 .skip
 (.exit 1)))
 (.block 2
 (.reg true [p (.fad 10 (.v 8)),
 p (.load (none) (.r 0)),
 p (.mov (.v 7)),
 ⟨.call false (.r 0) [],none,[1]⟩,
 p (.call true (.k (.fn 14 [] [])) [.r 0]),
 p (.bsl 1 [.r 0]),
 p (.app 1 8 (.r 4) (.r 0)),
 p (.fad 10 (.v 8)),
 p (.store (none) (.r 0) (.r 1))] [(2,.v 2),(6,.v 6),(7,.v 7),(8,.v 8)]))))))
 (.seq
 (.reg false [p (.bin .eql (.v 21) (.k (.str [99,104,101,99,107]))),
 p (.mov (.r 0))] [(2,.v 2),(6,.v 6),(7,.v 7),(8,.v 8),(9,.v 9),(21,.v 21),(37,.r 0)])
 (.cond (.v 37)
 (.reg false [p (.fad 8 (.v 8)),
 p (.store (none) (.r 0) (.k (.bool true)))] [(2,.v 2),(6,.v 6),(8,.v 8)])
 (.seq
 (.reg false [p (.bin .eql (.v 21) (.k (.str [103,114,97,112,104]))),
 p (.mov (.r 0))] [(2,.v 2),(6,.v 6),(7,.v 7),(8,.v 8),(9,.v 9),(21,.v 21),(40,.r 0)])
 (.cond (.v 40)
 (.seq
 (.reg false [p (.mov (.v 9)),
 p (.mov (.v 9)),
 p (.mov (.v 7)),
 p (.call false (.r 0) []),
 p (.nck (.r 3)),
 p (.fad 0 (.r 0)),
 p (.store (none) (.r 0) (.k (.int .i64 1))),
 p (.nck (.r 5)),
 p (.fad 6 (.r 0)),
 p (.fad 0 (.r 0)),
 p (.store (none) (.r 0) (.r 6))] [(2,.v 2),(6,.v 6),(7,.v 7),(8,.v 8),(9,.v 9)])
 (.block 3
 (.loop
 (.seq
 (.seq
 (.reg false [p (.load (none) (.v 6)),
 p (.len false (.r 0)),
 p (.bin .gtr (.r 0) (.k (.int .i64 0)))] [(2,.v 2),(6,.v 6),(7,.v 7),(8,.v 8),(9,.v 9),(53,.r 0)])
 (.cond (.v 53)
 .skip
 (.exit 3)))
 (.block 4
 (.seq
 (.reg false [p (.mov (.v 7)),
 p (.call false (.r 0) []),
 p (.call true (.k (.fn 37 [] [])) [.r 0]),
 p (.mov (.r 0)),
 p (.ext (.r 0) 0),
 p (.ext (.r 1) 1),
 p (.alloc 4 (.agg [.fsl .nil 1 [],.int .i64 0,.int .i64 0,.int .i64 0])),
 p (.store (some 4) (.r 0) (.r 2)),
 p (.mov (.r 2))] [(2,.v 2),(6,.v 6),(7,.v 7),(8,.v 8),(9,.v 9),(10,.r 2),(11,.r 0)])
 (.seq
 (.seq
 (.reg false [p (.mov (.v 11)),
 p (.un .not (.r 0))] [(2,.v 2),(6,.v 6),(7,.v 7),(8,.v 8),(9,.v 9),(10,.v 10),(61,.r 0)])
 (.cond (.v 61)
 (.seq
 (.reg false [p (.build [.int .i64 0,.str [],.str [],.int .i64 0,.int .i64 0,.str [],.str [],.fsl .nil 4 [],.bool false,.bool false,.fsl .nil 1 []] []),
 p (.store (some 11) (.v 2) (.r 0)),
 p (.mov (.k (.bool false)))] [(2,.v 2),(3,.r 0)])
 .ret)
 .skip))
 (.reg true [p (.mov (.v 9)),
 p (.mov (.v 9)),
 p (.nck (.r 0)),
 p (.fad 6 (.r 0)),
 p (.fad 1 (.r 0)),
 p (.load (none) (.r 0)),
 p (.load (some 4) (.v 10)),
 p (.bsl 4 [.r 0]),
 p (.app 4 48 (.r 2) (.r 0)),
 p (.nck (.r 8)),
 p (.fad 6 (.r 0)),
 p (.fad 1 (.r 0)),
 p (.store (none) (.r 0) (.r 3))] [(2,.v 2),(6,.v 6),(7,.v 7),(8,.v 8),(9,.v 9)]))))))))
 (.seq
 (.reg false [p (.bin .eql (.v 21) (.k (.str [115,116,97,114,116]))),
 p (.mov (.r 0))] [(2,.v 2),(6,.v 6),(7,.v 7),(8,.v 8),(9,.v 9),(21,.v 21),(75,.r 0)])
 (.cond (.v 75)
 (.seq
 (.reg false [p (.mov (.v 9)),
 p (.mov (.v 9)),
 p (.mov (.v 7)),
 p (.call false (.r 0) []),
 p (.nck (.r 3)),
 p (.fad 0 (.r 0)),
 p (.store (none) (.r 0) (.k (.int .i64 2))),
 p (.nck (.r 5)),
 p (.fad 1 (.r 0)),
 p (.store (none) (.r 0) (.r 5))] [(2,.v 2),(6,.v 6),(7,.v 7),(8,.v 8),(9,.v 9)])
 (.reg false [p (.mov (.v 9)),
 p (.mov (.v 7)),
 p (.call false (.r 0) []),
 p (.nck (.r 2)),
 p (.fad 2 (.r 0)),
 p (.store (none) (.r 0) (.r 2))] [(2,.v 2),(6,.v 6),(8,.v 8)]))
 (.seq
 (.reg false [p (.bin .eql (.v 21) (.k (.str [112,111,108,108]))),
 p (.mov (.r 0))] [(2,.v 2),(6,.v 6),(7,.v 7),(8,.v 8),(9,.v 9),(21,.v 21),(90,.r 0)])
 (.cond (.v 90)
 (.reg false [p (.mov (.v 9)),
 p (.nck (.r 0)),
 p (.fad 0 (.r 0)),
 p (.store (none) (.r 0) (.k (.int .i64 3)))] [(2,.v 2),(6,.v 6),(8,.v 8)])
 (.seq
 (.reg false [p (.bin .eql (.v 21) (.k (.str [98,101,97,116]))),
 p (.mov (.r 0))] [(2,.v 2),(6,.v 6),(7,.v 7),(8,.v 8),(9,.v 9),(21,.v 21),(95,.r 0)])
 (.cond (.v 95)
 (.reg false [p (.mov (.v 9)),
 p (.mov (.v 9)),
 p (.mov (.v 7)),
 p (.call false (.r 0) []),
 p (.call true (.k (.fn 14 [] [])) [.r 0]),
 p (.nck (.r 4)),
 p (.fad 0 (.r 0)),
 p (.store (none) (.r 0) (.k (.int .i64 4))),
 p (.nck (.r 6)),
 p (.fad 3 (.r 0)),
 p (.store (none) (.r 0) (.r 5))] [(2,.v 2),(6,.v 6),(8,.v 8)])
 (.seq
 (.reg false [p (.bin .eql (.v 21) (.k (.str [100,111,110,101]))),
 p (.mov (.r 0))] [(2,.v 2),(6,.v 6),(7,.v 7),(8,.v 8),(9,.v 9),(21,.v 21),(106,.r 0)])
 (.cond (.v 106)
 (.seq
 (.reg false [p (.mov (.v 9)),
 p (.mov (.v 9)),
 p (.mov (.v 7)),
 p (.call false (.r 0) []),
 p (.call true (.k (.fn 14 [] [])) [.r 0]),
 p (.nck (.r 4)),
 p (.fad 0 (.r 0)),
 p (.store (none) (.r 0) (.k (.int .i64 5))),
 p (.nck (.r 6)),
 p (.fad 3 (.r 0)),
 p (.store (none) (.r 0) (.r 5))] [(2,.v 2),(6,.v 6),(7,.v 7),(8,.v 8),(9,.v 9)])
 (.seq
 (.reg false [p (.load (none) (.v 6)),
 p (.len false (.r 0)),
 p (.bin .gtr (.r 0) (.k (.int .i64 0)))] [(2,.v 2),(6,.v 6),(7,.v 7),(8,.v 8),(9,.v 9),(119,.r 0)])
 (.cond (.v 119)
 (.seq
 (.reg false [p (.mov (.v 9)),
 p (.mov (.v 7)),
 p (.call false (.r 0) []),
 p (.nck (.r 2)),
 p (.fad 5 (.r 0)),
 p (.store (none) (.r 0) (.r 2))] [(2,.v 2),(6,.v 6),(8,.v 8),(9,.v 9)])
 (.seq
 (.reg false [p (.mov (.v 9)),
 p (.nck (.r 0)),
 p (.fad 5 (.r 0)),
 p (.load (none) (.r 0)),
 p (.bin .eql (.r 0) (.k (.str [])))] [(2,.v 2),(6,.v 6),(8,.v 8),(129,.r 0)])
 (.cond (.v 129)
 (.seq
 (.reg false [p (.build [.int .i64 0,.str [],.str [],.int .i64 0,.int .i64 0,.str [],.str [],.fsl .nil 4 [],.bool false,.bool false,.fsl .nil 1 []] []),
 p (.store (some 11) (.v 2) (.r 0)),
 p (.mov (.k (.bool false)))] [(2,.v 2),(3,.r 0)])
 .ret)
 .skip)))
 .skip)))
 (.seq
 (.reg false [p (.bin .eql (.v 21) (.k (.str [102,97,105,108]))),
 p (.mov (.r 0))] [(2,.v 2),(6,.v 6),(7,.v 7),(8,.v 8),(9,.v 9),(21,.v 21),(131,.r 0)])
 (.cond (.v 131)
 (.reg false [p (.mov (.v 9)),
 p (.mov (.v 9)),
 p (.mov (.v 7)),
 p (.call false (.r 0) []),
 p (.call true (.k (.fn 14 [] [])) [.r 0]),
 p (.nck (.r 4)),
 p (.fad 0 (.r 0)),
 p (.store (none) (.r 0) (.k (.int .i64 6))),
 p (.nck (.r 6)),
 p (.fad 3 (.r 0)),
 p (.store (none) (.r 0) (.r 5))] [(2,.v 2),(6,.v 6),(8,.v 8)])
 (.seq
 (.reg false [p (.bin .eql (.v 21) (.k (.str [99,97,110,99,101,108]))),
 p (.mov (.r 0))] [(2,.v 2),(6,.v 6),(7,.v 7),(8,.v 8),(9,.v 9),(21,.v 21),(142,.r 0)])
 (.cond (.v 142)
 (.reg false [p (.mov (.v 9)),
 p (.mov (.v 9)),
 p (.mov (.v 7)),
 p (.call false (.r 0) []),
 p (.nck (.r 3)),
 p (.fad 0 (.r 0)),
 p (.store (none) (.r 0) (.k (.int .i64 7))),
 p (.nck (.r 5)),
 p (.fad 1 (.r 0)),
 p (.store (none) (.r 0) (.r 5))] [(2,.v 2),(6,.v 6),(8,.v 8)])
 (.seq
 (.reg false [p (.bin .eql (.v 21) (.k (.str [116,105,99,107]))),
 p (.mov (.r 0))] [(2,.v 2),(6,.v 6),(7,.v 7),(8,.v 8),(9,.v 9),(21,.v 21),(152,.r 0)])
 (.cond (.v 152)
 (.reg false [p (.mov (.v 9)),
 p (.mov (.v 9)),
 p (.mov (.v 7)),
 p (.call false (.r 0) []),
 p (.call true (.k (.fn 14 [] [])) [.r 0]),
 p (.nck (.r 4)),
 p (.fad 0 (.r 0)),
 p (.store (none) (.r 0) (.k (.int .i64 8))),
 p (.nck (.r 6)),
 p (.fad 4 (.r 0)),
 p (.store (none) (.r 0) (.r 5))] [(2,.v 2),(6,.v 6),(8,.v 8)])
 (.seq
 (.reg false [p (.bin .eql (.v 21) (.k (.str [115,116,97,116,101]))),
 p (.mov (.r 0))] [(2,.v 2),(6,.v 6),(7,.v 7),(8,.v 8),(9,.v 9),(21,.v 21),(163,.r 0)])
 (.cond (.v 163)
 (.reg false [p (.mov (.v 9)),
 p (.mov (.v 9)),
 p (.mov (.v 7)),
 p (.call false (.r 0) []),
 p (.nck (.r 3)),
 p (.fad 0 (.r 0)),
 p (.store (none) (.r 0) (.k (.int .i64 9))),
 p (.nck (.r 5)),
 p (.fad 1 (.r 0)),
 p (.store (none) (.r 0) (.r 5))] [(2,.v 2),(6,.v 6),(8,.v 8)])
 (.seq
 (.reg false [p (.bin .eql (.v 21) (.k (.str [115,121,110,99]))),
 p (.mov (.r 0))] [(2,.v 2),(6,.v 6),(8,.v 8),(9,.v 9),(173,.r 0)])
 (.cond (.v 173)
 (.reg false [p (.mov (.v 9)),
 p (.nck (.r 0)),
 p (.fad 0 (.r 0)),
 p (.store (none) (.r 0) (.k (.int .i64 10)))] [(2,.v 2),(6,.v 6),(8,.v 8)])
 (.seq
 (.reg false [p (.build [.int .i64 0,.str [],.str [],.int .i64 0,.int .i64 0,.str [],.str [],.fsl .nil 4 [],.bool false,.bool false,.fsl .nil 1 []] []),
 p (.store (some 11) (.v 2) (.r 0)),
 p (.mov (.k (.bool false)))] [(2,.v 2),(3,.r 0)])
 .ret)))))))))))))))))))))))))))
 (.frz
 (.seq
 (.frz
 (.reg true [p (.load (some 11) (.v 8)),
 p (.load (none) (.v 6)),
 p (.len false (.r 0)),
 p (.bin .eql (.r 0) (.k (.int .i64 0))),
 p (.mov (.r 0)),
 ⟨.load (some 11) (.v 8),some (0,true),[]⟩,
 ⟨.call true (.k (.fn 32 [] [])) [.r 0],some (1,true),[]⟩,
 p (.pick (.r 2) (.r 0) (.k (.bool false))),
 p (.store (some 11) (.v 2) (.r 7)),
 p (.mov (.r 1))] [(2,.v 2),(3,.r 0)]))
 .ret)))))))))
def r15:List RV:=[.c 2 (some 11),.t 3]
theorem en15:EnP Tryz.prog 15 186 c15 r15:=mkEnP (by kernel_rfl) Tryz.func15 (by kernel_rfl) ⟨_,rfl,by kernel_rfl,by kernel_rfl⟩
def c11:C :=
  (.seq
 (.reg false [p (.mov (.k (.str []))),
 p (.mov (.k (.bool false)))] [(0,.v 0),(1,.v 1)])
 (.seq
 (.reg false [p (.load (none) (.v 0)),
 p (.bin .add (.r 0) (.k (.int .i64 1))),
 p (.store (none) (.v 0) (.r 0))] [(1,.v 1)])
 (.seq
 (.reg false [p (.load (none) (.v 1)),
 p (.call true (.k (.fn 12 [] [])) [.r 0,.k (.str [10])]),
 p (.mov (.r 0)),
 p (.ext (.r 0) 0),
 p (.ext (.r 1) 1),
 p (.ext (.r 2) 2),
 p (.mov (.r 2)),
 p (.mov (.r 2)),
 p (.mov (.r 2))] [(1,.v 1),(4,.r 2),(5,.r 1),(6,.r 0)])
 (.seq
 (.reg false [p (.mov (.v 5)),
 p (.store (none) (.v 1) (.r 0))] [(4,.v 4),(6,.v 6)])
 (.seq
 (.reg false [p (.mov (.v 4)),
 p (.mov (.v 6)),
 p (.mov (.r 1)),
 p (.mov (.r 1))] [(2,.r 1),(3,.r 0)])
 .ret)))))
def r11:List RV:=[.t 2,.t 3]
theorem chk11:Chk Tryz.prog Tryz.f11 c11 r11:=⟨_,rfl,by kernel_rfl,by kernel_rfl⟩
theorem ena11:EnA Tryz.prog 11 18 c11 r11:=mkEnA (by kernel_rfl) Tryz.func11 (by kernel_rfl) chk11
def c13:C :=
  (.seq
 (.reg false [p (.alloc 2 (.agg [.int .i64 0,.fsl .nil 11 []])),
 p (.mov (.k (.int .i64 0))),
 p (.mov (.k (.int .i64 0)))] [(0,.v 0),(1,.r 2)])
 (.seq
 (.reg true [p (.build [.int .i64 0,.fsl .nil 11 []] []),
 p (.load (none) (.v 0)),
 ⟨.store (some 2) (.v 1) (.r 1),none,[0]⟩,
 p (.mov (.k (.int .i64 250))),
 p (.mov (.r 2))] [(1,.v 1),(2,.r 1),(3,.r 0)])
 .ret))
def r13:List RV:=[.c 1 (some 2),.t 2,.t 3]
theorem chk13:Chk Tryz.prog Tryz.f13 c13 r13:=⟨_,rfl,by kernel_rfl,by kernel_rfl⟩
theorem ena13:EnA Tryz.prog 13 6 c13 r13:=mkEnA (by kernel_rfl) Tryz.func13 (by kernel_rfl) chk13
def c5:C :=
  (.seq
 (.reg false [p (.box 1 (.v 0)),
 p (.alloc 2 (.agg [.int .i64 0,.fsl .nil 11 []])),
 p (.mov (.k (.int .i64 0))),
 p (.mov (.k (.int .i64 0)))] [(1,.r 3),(2,.r 2)])
 (.seq
 (.reg false [p (.alloc 1 (.int .i64 0)),
 p (.store (none) (.r 0) (.k (.int .i64 0)))] [(1,.v 1),(2,.v 2),(5,.r 1)])
 (.seq
 (.reg false [p (.mkf 11 [] [.v 5,.v 1]),
 p (.mov (.r 0))] [(1,.v 1),(2,.v 2),(5,.v 5),(6,.r 0)])
 (.seq
 (.reg false [p (.mkf 13 [] [.v 5]),
 p (.mov (.r 0))] [(1,.v 1),(2,.v 2),(6,.v 6),(7,.r 0)])
 (.seq
 (.reg false [p (.mov (.v 6)),
 p (.call false (.r 0) []),
 p (.mov (.r 0)),
 p (.ext (.r 0) 0),
 p (.ext (.r 1) 1),
 p (.mov (.r 1)),
 p (.mov (.r 1))] [(1,.v 1),(2,.v 2),(6,.v 6),(7,.v 7),(8,.r 1),(9,.r 0)])
 (.seq
 (.reg false [p (.mov (.v 8)),
 p (.call true (.k (.fn 12 [] [])) [.r 0,.k (.str [32])]),
 p (.mov (.r 0)),
 p (.ext (.r 0) 0),
 p (.ext (.r 1) 1),
 p (.ext (.r 2) 2),
 p (.mov (.r 2)),
 p (.mov (.r 2)),
 p (.mov (.r 2))] [(1,.v 1),(2,.v 2),(6,.v 6),(7,.v 7),(9,.v 9),(10,.r 2),(11,.r 1)])
 (.seq
 (.reg false [p (.mov (.v 11)),
 p (.call true (.k (.fn 14 [] [])) [.r 0]),
 p (.build [.int .i64 0,.fsl .nil 11 []] [(0,1,.r 0)]),
 p (.alloc 2 (.agg [.int .i64 0,.fsl .nil 11 []])),
 p (.store (some 2) (.r 0) (.r 1))] [(1,.v 1),(2,.v 2),(6,.v 6),(7,.v 7),(9,.v 9),(10,.v 10),(13,.r 1)])
 (.seq
 (.seq
 (.frz
 (.reg false [p (.mov (.v 9)),
 p (.un .not (.r 0)),
 p (.mov (.r 0)),
 ⟨.mov (.v 10),some (0,false),[]⟩,
 ⟨.bin .neq (.r 0) (.k (.str [115,105,122,101])),some (1,false),[]⟩,
 p (.pick (.r 2) (.k (.bool true)) (.r 0)),
 p (.mov (.r 0)),
 ⟨.load (some 2) (.v 13),some (0,false),[]⟩,
 ⟨.call true (.k (.fn 10 [] [])) [.r 0],some (1,false),[]⟩,
 ⟨.un .not (.r 0),some (2,false),[]⟩,
 p (.pick (.r 3) (.k (.bool true)) (.r 0))] [(1,.v 1),(2,.v 2),(6,.v 6),(7,.v 7),(13,.v 13),(44,.r 0)]))
 (.cond (.v 44)
 (.seq
 (.reg false [p (.mov (.v 7)),
 p (.call false (.r 0) []),
 p (.ext (.r 0) 0),
 p (.ext (.r 1) 1),
 p (.ext (.r 2) 2),
 p (.store (some 2) (.v 2) (.r 2)),
 p (.mov (.r 2)),
 p (.mov (.r 2))] [(2,.v 2),(3,.r 1),(4,.r 0)])
 (.frz .ret))
 .skip))
 (.seq
 (.block 0
 (.loop
 (.seq
 (.seq
 (.reg false [p (.load (none) (.v 1)),
 p (.bin .neq (.r 0) (.k (.str [])))] [(1,.v 1),(2,.v 2),(6,.v 6),(7,.v 7),(13,.v 13),(51,.r 0)])
 (.cond (.v 51)
 .skip
 (.exit 0)))
 (.block 1
 (.seq
 (.reg false [p (.mov (.v 6)),
 p (.call false (.r 0) []),
 p (.mov (.r 0)),
 p (.ext (.r 0) 0),
 p (.ext (.r 1) 1),
 p (.mov (.r 1)),
 p (.mov (.r 1))] [(1,.v 1),(2,.v 2),(6,.v 6),(7,.v 7),(13,.v 13),(14,.r 1),(15,.r 0)])
 (.seq
 (.reg false [p (.mov (.v 14)),
 p (.call true (.k (.fn 15 [] [])) [.r 0]),
 p (.mov (.r 0)),
 p (.ext (.r 0) 0),
 p (.ext (.r 1) 1),
 p (.alloc 11 (.agg [.int .i64 0,.str [],.str [],.int .i64 0,.int .i64 0,.str [],.str [],.fsl .nil 4 [],.bool false,.bool false,.fsl .nil 1 []])),
 p (.store (some 11) (.r 0) (.r 2)),
 p (.mov (.r 2))] [(1,.v 1),(2,.v 2),(6,.v 6),(7,.v 7),(13,.v 13),(15,.v 15),(16,.r 2),(17,.r 0)])
 (.seq
 (.seq
 (.reg false [p (.mov (.v 15)),
 p (.un .not (.r 0)),
 p (.mov (.r 0)),
 ⟨.mov (.v 17),some (0,false),[]⟩,
 ⟨.un .not (.r 0),some (1,false),[]⟩,
 p (.pick (.r 2) (.k (.bool true)) (.r 0)),
 p (.mov (.r 0)),
 ⟨.fad 1 (.v 13),some (0,false),[]⟩,
 ⟨.load (none) (.r 0),some (1,false),[]⟩,
 ⟨.len false (.r 0),some (2,false),[]⟩,
 ⟨.bin .geq (.r 0) (.k (.int .i64 200)),some (3,false),[]⟩,
 p (.pick (.r 4) (.k (.bool true)) (.r 0))] [(1,.v 1),(2,.v 2),(6,.v 6),(7,.v 7),(13,.v 13),(16,.v 16),(73,.r 0)])
 (.cond (.v 73)
 (.seq
 (.reg false [p (.mov (.v 7)),
 p (.call false (.r 0) []),
 p (.ext (.r 0) 0),
 p (.ext (.r 1) 1),
 p (.ext (.r 2) 2),
 p (.store (some 2) (.v 2) (.r 2)),
 p (.mov (.r 2)),
 p (.mov (.r 2))] [(2,.v 2),(3,.r 1),(4,.r 0)])
 (.frz .ret))
 .skip))
 (.reg false [p (.fad 1 (.v 13)),
 p (.load (none) (.r 0)),
 p (.load (some 11) (.v 16)),
 p (.bsl 11 [.r 0]),
 p (.app 11 144 (.r 2) (.r 0)),
 p (.fad 1 (.v 13)),
 p (.store (none) (.r 0) (.r 1))] [(1,.v 1),(2,.v 2),(6,.v 6),(7,.v 7),(13,.v 13)]))))))))
 (.frz
 (.seq
 (.reg false [p (.load (some 2) (.v 13)),
 p (.store (some 2) (.v 2) (.r 0)),
 p (.mov (.k (.int .i64 0))),
 p (.mov (.k (.int .i64 0)))] [(2,.v 2),(3,.r 1),(4,.r 0)])
 (.frz .ret))))))))))))
def r5:List RV:=[.c 2 (some 2),.t 3,.t 4]
theorem en5:EnP Tryz.prog 5 86 c5 r5:=mkEnP (by kernel_rfl) Tryz.func5 (by kernel_rfl) ⟨_,rfl,by kernel_rfl,by kernel_rfl⟩
def c16:C :=
  (.seq
 (.reg false [p (.mov (.k (.str []))),
 p (.mov (.k (.str []))),
 p (.mov (.k (.bool false)))] [(0,.v 0),(1,.v 1)])
 (.seq
 (.seq
 (.reg false [p (.mov (.k (.int .i64 0)))] [(0,.v 0),(1,.v 1),(7,.r 0)])
 (.block 0
 (.loop
 (.seq
 (.seq
 (.reg false [p (.mov (.v 7)),
 p (.mov (.v 0)),
 p (.len true (.r 0)),
 p (.bin .lss (.r 2) (.r 0))] [(0,.v 0),(1,.v 1),(7,.v 7),(11,.r 0)])
 (.cond (.v 11)
 .skip
 (.exit 0)))
 (.seq
 (.block 1
 (.seq
 (.reg false [p (.mov (.v 0)),
 p (.mov (.v 7)),
 p (.ixs (.r 1) (.r 0)),
 p (.mov (.v 1)),
 p (.bin .eql (.r 1) (.r 0))] [(0,.v 0),(1,.v 1),(7,.v 7),(18,.r 0)])
 (.cond (.v 18)
 (.seq
 (.reg true [p (.mov (.v 0)),
 p (.mov (.v 7)),
 p (.sls (.r 1) none (some (.r 0))),
 p (.mov (.v 0)),
 p (.mov (.v 7)),
 p (.bin .add (.r 0) (.k (.int .i64 1))),
 p (.sls (.r 2) (some (.r 0)) none),
 p (.mov (.r 4)),
 p (.mov (.r 1)),
 p (.mov (.k (.bool true)))] [(4,.r 2),(5,.r 1),(6,.r 0)])
 .ret)
 .skip)))
 (.reg false [p (.mov (.v 7)),
 p (.bin .add (.r 0) (.k (.int .i64 1))),
 p (.mov (.r 0))] [(0,.v 0),(1,.v 1),(7,.r 0)]))))))
 (.frz
 (.seq
 (.reg false [p (.mov (.v 0)),
 p (.mov (.r 0)),
 p (.mov (.k (.str []))),
 p (.mov (.k (.bool false)))] [(4,.r 2),(5,.r 1),(6,.r 0)])
 .ret))))
def r16:List RV:=[.t 4,.t 5,.t 6]
theorem en16:EnP Tryz.prog 16 27 c16 r16:=mkEnP (by kernel_rfl) Tryz.func16 (by kernel_rfl) ⟨_,rfl,by kernel_rfl,by kernel_rfl⟩
def c17:C :=
  (.seq
 (.reg false [p (.mov (.k (.fsl .nil 1 [])))] [(0,.v 0),(1,.v 1)])
 (.seq
 (.reg false [p (.bsl 1 []),
 p (.mov (.r 0))] [(0,.v 0),(1,.v 1),(5,.r 0)])
 (.block 0
 (.loop
 (.block 1
 (.seq
 (.reg false [p (.mov (.v 0)),
 p (.mov (.v 1)),
 p (.call true (.k (.fn 16 [] [])) [.r 1,.r 0]),
 p (.mov (.r 0)),
 p (.ext (.r 0) 0),
 p (.ext (.r 1) 1),
 p (.ext (.r 2) 2),
 p (.mov (.r 2)),
 p (.mov (.r 2)),
 p (.mov (.r 2))] [(1,.v 1),(5,.v 5),(6,.r 2),(7,.r 1),(8,.r 0)])
 (.seq
 (.reg false [p (.mov (.v 5)),
 p (.mov (.v 6)),
 p (.bsl 1 [.r 0]),
 p (.app 1 16 (.r 2) (.r 0)),
 p (.mov (.r 0))] [(1,.v 1),(5,.r 0),(7,.v 7),(8,.v 8)])
 (.seq
 (.seq
 (.reg false [p (.mov (.v 8)),
 p (.un .not (.r 0))] [(1,.v 1),(5,.v 5),(7,.v 7),(22,.r 0)])
 (.cond (.v 22)
 (.seq
 (.reg false [p (.mov (.v 5)),
 p (.mov (.r 0))] [(4,.r 0)])
 .ret)
 .skip))
 (.reg false [p (.mov (.v 7)),
 p (.mov (.r 0))] [(0,.r 0),(1,.v 1),(5,.v 5)])))))))))
def r17:List RV:=[.t 4]
theorem en17:EnP Tryz.prog 17 25 c17 r17:=mkEnP (by kernel_rfl) Tryz.func17 (by kernel_rfl) ⟨_,rfl,by kernel_rfl,by kernel_rfl⟩
def c18:C :=
  (.seq
 (.reg false [p (.mov (.k (.int .i64 0)))] [(0,.v 0)])
 (.seq
 (.seq
 (.reg false [p (.mov (.v 0)),
 p (.len true (.r 0)),
 p (.bin .lss (.r 0) (.k (.int .i64 1))),
 p (.mov (.r 0)),
 ⟨.mov (.v 0),some (0,false),[]⟩,
 ⟨.len true (.r 0),some (1,false),[]⟩,
 ⟨.bin .gtr (.r 0) (.k (.int .i64 13)),some (2,false),[]⟩,
 p (.pick (.r 3) (.k (.bool true)) (.r 0))] [(0,.v 0),(12,.r 0)])
 (.cond (.v 12)
 (.seq
 (.reg false [p (.mov (.k (.int .i64 (-1))))] [(2,.r 0)])
 .ret)
 .skip))
 (.seq
 (.reg false [p (.mov (.k (.int .i64 0)))] [(0,.v 0),(3,.r 0)])
 (.seq
 (.seq
 (.reg false [p (.mov (.k (.int .i64 0)))] [(0,.v 0),(3,.v 3),(4,.r 0)])
 (.block 0
 (.loop
 (.seq
 (.seq
 (.reg false [p (.mov (.v 4)),
 p (.mov (.v 0)),
 p (.len true (.r 0)),
 p (.bin .lss (.r 2) (.r 0))] [(0,.v 0),(3,.v 3),(4,.v 4),(16,.r 0)])
 (.cond (.v 16)
 .skip
 (.exit 0)))
 (.seq
 (.block 1
 (.seq
 (.seq
 (.reg false [p (.mov (.v 0)),
 p (.mov (.v 4)),
 p (.ixs (.r 1) (.r 0)),
 p (.bin .lss (.r 0) (.k (.int .u8 48))),
 p (.mov (.r 0)),
 ⟨.mov (.v 0),some (0,false),[]⟩,
 ⟨.mov (.v 4),some (1,false),[]⟩,
 ⟨.ixs (.r 1) (.r 0),some (2,false),[]⟩,
 ⟨.bin .gtr (.r 0) (.k (.int .u8 57)),some (3,false),[]⟩,
 p (.pick (.r 4) (.k (.bool true)) (.r 0))] [(0,.v 0),(3,.v 3),(4,.v 4),(28,.r 0)])
 (.cond (.v 28)
 (.seq
 (.reg false [p (.mov (.k (.int .i64 (-1))))] [(2,.r 0)])
 .ret)
 .skip))
 (.reg false [p (.mov (.v 3)),
 p (.bin .mul (.k (.int .i64 10)) (.r 0)),
 p (.mov (.v 0)),
 p (.mov (.v 4)),
 p (.ixs (.r 1) (.r 0)),
 p (.bin .sub (.r 0) (.k (.int .u8 48))),
 p (.cvt .i64 (.r 0)),
 p (.bin .add (.r 5) (.r 0)),
 p (.mov (.r 0))] [(0,.v 0),(3,.r 0),(4,.v 4)])))
 (.reg false [p (.mov (.v 4)),
 p (.bin .add (.r 0) (.k (.int .i64 1))),
 p (.mov (.r 0))] [(0,.v 0),(3,.v 3),(4,.r 0)]))))))
 (.frz
 (.seq
 (.seq
 (.reg false [p (.mov (.v 3)),
 p (.call true (.k (.fn 27 [] [])) [.r 0]),
 p (.mov (.v 0)),
 p (.bin .neq (.r 1) (.r 0))] [(3,.v 3),(40,.r 0)])
 (.cond (.v 40)
 (.seq
 (.reg false [p (.mov (.k (.int .i64 (-1))))] [(2,.r 0)])
 .ret)
 .skip))
 (.seq
 (.reg false [p (.mov (.v 3)),
 p (.mov (.r 0))] [(2,.r 0)])
 .ret)))))))
def r18:List RV:=[.t 2]
theorem en18:EnP Tryz.prog 18 42 c18 r18:=mkEnP (by kernel_rfl) Tryz.func18 (by kernel_rfl) ⟨_,rfl,by kernel_rfl,by kernel_rfl⟩
def c38:C :=
  (.seq
 (.reg false [p (.alloc 4 (.agg [.fsl .nil 1 [],.int .i64 0,.int .i64 0,.int .i64 0])),
 p (.mov (.k (.bool false)))] [(0,.v 0),(2,.r 1)])
 (.seq
 (.reg false [p (.mov (.v 0)),
 p (.call true (.k (.fn 17 [] [])) [.r 0,.k (.int .u8 44)]),
 p (.mov (.r 0))] [(2,.v 2),(4,.r 0)])
 (.seq
 (.seq
 (.reg false [p (.mov (.v 4)),
 p (.len false (.r 0)),
 p (.bin .lss (.r 0) (.k (.int .i64 3)))] [(2,.v 2),(4,.v 4),(12,.r 0)])
 (.cond (.v 12)
 (.seq
 (.reg false [p (.build [.fsl .nil 1 [],.int .i64 0,.int .i64 0,.int .i64 0] []),
 p (.store (some 4) (.v 2) (.r 0)),
 p (.mov (.k (.bool false)))] [(2,.v 2),(3,.r 0)])
 (.frz .ret))
 .skip))
 (.seq
 (.reg true [p (.mov (.v 4)),
 p (.iad 1 (.r 0) (.k (.int .i64 0))),
 p (.load (none) (.r 0)),
 p (.call true (.k (.fn 18 [] [])) [.r 0]),
 p (.mov (.v 4)),
 p (.iad 1 (.r 0) (.k (.int .i64 1))),
 p (.load (none) (.r 0)),
 p (.call true (.k (.fn 18 [] [])) [.r 0]),
 p (.mov (.v 4)),
 p (.iad 1 (.r 0) (.k (.int .i64 2))),
 p (.load (none) (.r 0)),
 p (.call true (.k (.fn 18 [] [])) [.r 0]),
 p (.build [.fsl .nil 1 [],.int .i64 0,.int .i64 0,.int .i64 0] [(1,1,.r 8),(2,1,.r 4),(3,1,.r 0)]),
 ⟨.alloc 4 (.agg [.fsl .nil 1 [],.int .i64 0,.int .i64 0,.int .i64 0]),none,[11,10,7,6,3,2]⟩,
 p (.store (some 4) (.r 0) (.r 1))] [(2,.v 2),(4,.v 4),(5,.r 1)])
 (.seq
 (.seq
 (.reg false [p (.mov (.v 4)),
 p (.slc 1 (.r 0) (some (.k (.int .i64 3))) none none),
 p (.len false (.r 0)),
 p (.mov (.k (.int .i64 0)))] [(2,.v 2),(5,.v 5),(28,.r 2),(29,.r 1),(30,.r 0)])
 (.block 0
 (.loop
 (.seq
 (.reg false [p (.bin .lss (.v 30) (.v 29))] [(2,.v 2),(5,.v 5),(28,.v 28),(29,.v 29),(30,.v 30),(31,.r 0)])
 (.seq
 (.cond (.v 31)
 .skip
 (.exit 0))
 (.seq
 (.block 1
 (.seq
 (.reg false [p (.iad 1 (.v 28) (.v 30)),
 p (.load (none) (.r 0)),
 p (.mov (.r 0))] [(2,.v 2),(5,.v 5),(7,.r 0),(28,.v 28),(29,.v 29),(30,.v 30)])
 (.reg true [p (.fad 0 (.v 5)),
 p (.load (none) (.r 0)),
 p (.mov (.v 7)),
 p (.call true (.k (.fn 18 [] [])) [.r 0]),
 p (.bsl 1 [.r 0]),
 p (.app 1 8 (.r 3) (.r 0)),
 p (.fad 0 (.v 5)),
 p (.store (none) (.r 0) (.r 1))] [(2,.v 2),(5,.v 5),(28,.v 28),(29,.v 29),(30,.v 30)])))
 (.reg false [p (.bin .add (.v 30) (.k (.int .i64 1))),
 p (.mov (.r 0))] [(2,.v 2),(5,.v 5),(28,.v 28),(29,.v 29),(30,.r 0)])))))))
 (.frz
 (.seq
 (.reg false [p (.load (some 4) (.v 5)),
 p (.store (some 4) (.v 2) (.r 0)),
 p (.mov (.k (.bool true)))] [(2,.v 2),(3,.r 0)])
 (.frz .ret))))))))
def r38:List RV:=[.c 2 (some 4),.t 3]
theorem en38:EnP Tryz.prog 38 43 c38 r38:=mkEnP (by kernel_rfl) Tryz.func38 (by kernel_rfl) ⟨_,rfl,by kernel_rfl,by kernel_rfl⟩
def c20:C :=
  (.seq
 (.reg false [p (.alloc 11 (.agg [.int .i64 0,.str [],.str [],.int .i64 0,.int .i64 0,.str [],.str [],.fsl .nil 4 [],.bool false,.bool false,.fsl .nil 1 []])),
 p (.mov (.k (.bool false)))] [(0,.v 0),(2,.r 1)])
 (.seq
 (.reg false [p (.build [.int .i64 0,.str [],.str [],.int .i64 0,.int .i64 0,.str [],.str [],.fsl .nil 4 [],.bool false,.bool false,.fsl .nil 1 []] []),
 p (.alloc 11 (.agg [.int .i64 0,.str [],.str [],.int .i64 0,.int .i64 0,.str [],.str [],.fsl .nil 4 [],.bool false,.bool false,.fsl .nil 1 []])),
 p (.store (some 11) (.r 0) (.r 1))] [(0,.v 0),(2,.v 2),(4,.r 1)])
 (.seq
 (.reg false [p (.mov (.k (.str [])))] [(0,.v 0),(2,.v 2),(4,.v 4),(5,.r 0)])
 (.seq
 (.reg false [p (.mov (.k (.str [])))] [(0,.v 0),(2,.v 2),(4,.v 4),(5,.v 5),(6,.r 0)])
 (.cut
 (.seq
 (.reg false [p (.mov (.v 0)),
 p (.len false (.r 0)),
 p (.bin .gtr (.r 0) (.k (.int .i64 1)))] [(0,.v 0),(2,.v 2),(4,.v 4),(5,.v 5),(6,.v 6),(15,.r 0)])
 (.cond (.v 15)
 (.reg false [p (.mov (.v 0)),
 p (.iad 1 (.r 0) (.k (.int .i64 1))),
 p (.load (none) (.r 0)),
 p (.mov (.r 0))] [(0,.v 0),(2,.v 2),(4,.v 4),(5,.r 0),(6,.v 6)])
 .skip))
 (.cut
 (.seq
 (.reg false [p (.mov (.v 0)),
 p (.len false (.r 0)),
 p (.bin .gtr (.r 0) (.k (.int .i64 2)))] [(0,.v 0),(2,.v 2),(4,.v 4),(5,.v 5),(6,.v 6),(21,.r 0)])
 (.cond (.v 21)
 (.reg false [p (.mov (.v 0)),
 p (.iad 1 (.r 0) (.k (.int .i64 2))),
 p (.load (none) (.r 0)),
 p (.mov (.r 0))] [(0,.v 0),(2,.v 2),(4,.v 4),(5,.v 5),(6,.r 0)])
 .skip))
 (.cut
 (.seq
 (.reg false [p (.mov (.v 0)),
 p (.iad 1 (.r 0) (.k (.int .i64 0))),
 p (.load (none) (.r 0))] [(0,.v 0),(2,.v 2),(4,.v 4),(5,.v 5),(6,.v 6),(27,.r 0)])
 (.block 0
 (.seq
 (.reg false [p (.bin .eql (.v 27) (.k (.str [99,114,97,115,104]))),
 p (.mov (.r 0))] [(0,.v 0),(2,.v 2),(4,.v 4),(5,.v 5),(6,.v 6),(27,.v 27),(29,.r 0)])
 (.cond (.v 29)
 (.seq
 (.reg false [p (.fad 9 (.v 4)),
 p (.store (none) (.r 0) (.k (.bool true)))] [(0,.v 0),(2,.v 2),(4,.v 4)])
 (.seq
 (.reg false [p (.mov (.v 0)),
 p (.slc 1 (.r 0) (some (.k (.int .i64 1))) none none),
 p (.len false (.r 0)),
 p (.mov (.k (.int .i64 0)))] [(2,.v 2),(4,.v 4),(33,.r 2),(34,.r 1),(35,.r 0)])
 (.block 1
 (.loop
 (.seq
 (.reg false [p (.bin .lss (.v 35) (.v 34))] [(2,.v 2),(4,.v 4),(33,.v 33),(34,.v 34),(35,.v 35),(36,.r 0)])
 (.seq
 (.cond (.v 36)
 .skip
 (.exit 1))
 (.seq
 (.block 2
 (.seq
 (.reg false [p (.iad 1 (.v 33) (.v 35)),
 p (.load (none) (.r 0)),
 p (.mov (.r 0))] [(2,.v 2),(4,.v 4),(8,.r 0),(33,.v 33),(34,.v 34),(35,.v 35)])
 (.reg true [p (.fad 10 (.v 4)),
 p (.load (none) (.r 0)),
 p (.mov (.v 8)),
 p (.call true (.k (.fn 18 [] [])) [.r 0]),
 p (.bsl 1 [.r 0]),
 p (.app 1 8 (.r 3) (.r 0)),
 p (.fad 10 (.v 4)),
 p (.store (none) (.r 0) (.r 1))] [(2,.v 2),(4,.v 4),(33,.v 33),(34,.v 34),(35,.v 35)])))
 (.reg false [p (.bin .add (.v 35) (.k (.int .i64 1))),
 p (.mov (.r 0))] [(2,.v 2),(4,.v 4),(33,.v 33),(34,.v 34),(35,.r 0)]))))))))
 (.seq
 (.reg false [p (.bin .eql (.v 27) (.k (.str [99,104,101,99,107]))),
 p (.mov (.r 0))] [(0,.v 0),(2,.v 2),(4,.v 4),(5,.v 5),(6,.v 6),(27,.v 27),(47,.r 0)])
 (.cond (.v 47)
 (.reg false [p (.fad 8 (.v 4)),
 p (.store (none) (.r 0) (.k (.bool true)))] [(2,.v 2),(4,.v 4)])
 (.seq
 (.reg false [p (.bin .eql (.v 27) (.k (.str [103,114,97,112,104]))),
 p (.mov (.r 0))] [(0,.v 0),(2,.v 2),(4,.v 4),(5,.v 5),(6,.v 6),(27,.v 27),(50,.r 0)])
 (.cond (.v 50)
 (.seq
 (.reg false [p (.mov (.v 5)),
 p (.build [.str [],.fsl .nil 4 []] [(0,1,.r 0)]),
 p (.build [.int .i64 0,.str [],.str [],.int .i64 0,.int .i64 0,.str [],.str [],.fsl .nil 4 []] [(0,1,.k (.int .i64 1)),(6,2,.r 0)]),
 p (.fad 0 (.v 4)),
 p (.store (some 8) (.r 0) (.r 1))] [(0,.v 0),(2,.v 2),(4,.v 4)])
 (.seq
 (.reg false [p (.mov (.k (.int .i64 2)))] [(0,.v 0),(2,.v 2),(4,.v 4),(9,.r 0)])
 (.block 3
 (.loop
 (.seq
 (.seq
 (.reg false [p (.mov (.v 9)),
 p (.mov (.v 0)),
 p (.len false (.r 0)),
 p (.bin .lss (.r 2) (.r 0))] [(0,.v 0),(2,.v 2),(4,.v 4),(9,.v 9),(59,.r 0)])
 (.cond (.v 59)
 .skip
 (.exit 3)))
 (.seq
 (.block 4
 (.seq
 (.reg false [p (.mov (.v 0)),
 p (.mov (.v 9)),
 p (.iad 1 (.r 1) (.r 0)),
 p (.load (none) (.r 0)),
 p (.call true (.k (.fn 38 [] [])) [.r 0]),
 p (.mov (.r 0)),
 p (.ext (.r 0) 0),
 p (.ext (.r 1) 1),
 p (.alloc 4 (.agg [.fsl .nil 1 [],.int .i64 0,.int .i64 0,.int .i64 0])),
 p (.store (some 4) (.r 0) (.r 2)),
 p (.mov (.r 2))] [(0,.v 0),(2,.v 2),(4,.v 4),(9,.v 9),(10,.r 2),(11,.r 0)])
 (.seq
 (.seq
 (.reg false [p (.mov (.v 11)),
 p (.un .not (.r 0))] [(0,.v 0),(2,.v 2),(4,.v 4),(9,.v 9),(10,.v 10),(71,.r 0)])
 (.cond (.v 71)
 (.seq
 (.reg false [p (.load (some 11) (.v 4)),
 p (.store (some 11) (.v 2) (.r 0)),
 p (.mov (.k (.bool false)))] [(2,.v 2),(3,.r 0)])
 (.frz .ret))
 .skip))
 (.reg false [p (.fad 0 (.v 4)),
 p (.fad 6 (.r 0)),
 p (.fad 1 (.r 0)),
 p (.load (none) (.r 0)),
 p (.load (some 4) (.v 10)),
 p (.bsl 4 [.r 0]),
 p (.app 4 48 (.r 2) (.r 0)),
 p (.fad 0 (.v 4)),
 p (.fad 6 (.r 0)),
 p (.fad 1 (.r 0)),
 p (.store (none) (.r 0) (.r 3))] [(0,.v 0),(2,.v 2),(4,.v 4),(9,.v 9)]))))
 (.reg false [p (.mov (.v 9)),
 p (.bin .add (.r 0) (.k (.int .i64 1))),
 p (.mov (.r 0))] [(0,.v 0),(2,.v 2),(4,.v 4),(9,.r 0)])))))))
 (.seq
 (.reg false [p (.bin .eql (.v 27) (.k (.str [115,116,97,114,116]))),
 p (.mov (.r 0))] [(2,.v 2),(4,.v 4),(5,.v 5),(6,.v 6),(27,.v 27),(83,.r 0)])
 (.cond (.v 83)
 (.reg false [p (.mov (.v 5)),
 p (.mov (.v 6)),
 p (.build [.int .i64 0,.str [],.str [],.int .i64 0,.int .i64 0,.str [],.str [],.fsl .nil 4 []] [(0,1,.k (.int .i64 2)),(1,1,.r 1),(2,1,.r 0)]),
 p (.fad 0 (.v 4)),
 p (.store (some 8) (.r 0) (.r 1))] [(2,.v 2),(4,.v 4)])
 (.seq
 (.reg false [p (.bin .eql (.v 27) (.k (.str [112,111,108,108]))),
 p (.mov (.r 0))] [(2,.v 2),(4,.v 4),(5,.v 5),(6,.v 6),(27,.v 27),(89,.r 0)])
 (.cond (.v 89)
 (.reg false [p (.build [.int .i64 0,.str [],.str [],.int .i64 0,.int .i64 0,.str [],.str [],.fsl .nil 4 []] [(0,1,.k (.int .i64 3))]),
 p (.fad 0 (.v 4)),
 p (.store (some 8) (.r 0) (.r 1))] [(2,.v 2),(4,.v 4)])
 (.seq
 (.reg false [p (.bin .eql (.v 27) (.k (.str [98,101,97,116]))),
 p (.mov (.r 0))] [(2,.v 2),(4,.v 4),(5,.v 5),(6,.v 6),(27,.v 27),(93,.r 0)])
 (.cond (.v 93)
 (.reg false [p (.mov (.v 5)),
 p (.call true (.k (.fn 18 [] [])) [.r 0]),
 p (.build [.int .i64 0,.str [],.str [],.int .i64 0,.int .i64 0,.str [],.str [],.fsl .nil 4 []] [(0,1,.k (.int .i64 4)),(3,1,.r 0)]),
 p (.fad 0 (.v 4)),
 p (.store (some 8) (.r 0) (.r 1))] [(2,.v 2),(4,.v 4)])
 (.seq
 (.reg false [p (.bin .eql (.v 27) (.k (.str [100,111,110,101]))),
 p (.mov (.r 0))] [(2,.v 2),(4,.v 4),(5,.v 5),(6,.v 6),(27,.v 27),(99,.r 0)])
 (.cond (.v 99)
 (.reg false [p (.mov (.v 5)),
 p (.call true (.k (.fn 18 [] [])) [.r 0]),
 p (.mov (.v 6)),
 p (.build [.int .i64 0,.str [],.str [],.int .i64 0,.int .i64 0,.str [],.str [],.fsl .nil 4 []] [(0,1,.k (.int .i64 5)),(3,1,.r 1),(5,1,.r 0)]),
 p (.fad 0 (.v 4)),
 p (.store (some 8) (.r 0) (.r 1))] [(2,.v 2),(4,.v 4)])
 (.seq
 (.reg false [p (.bin .eql (.v 27) (.k (.str [102,97,105,108]))),
 p (.mov (.r 0))] [(2,.v 2),(4,.v 4),(5,.v 5),(27,.v 27),(106,.r 0)])
 (.cond (.v 106)
 (.reg false [p (.mov (.v 5)),
 p (.call true (.k (.fn 18 [] [])) [.r 0]),
 p (.build [.int .i64 0,.str [],.str [],.int .i64 0,.int .i64 0,.str [],.str [],.fsl .nil 4 []] [(0,1,.k (.int .i64 6)),(3,1,.r 0)]),
 p (.fad 0 (.v 4)),
 p (.store (some 8) (.r 0) (.r 1))] [(2,.v 2),(4,.v 4)])
 (.seq
 (.reg false [p (.bin .eql (.v 27) (.k (.str [99,97,110,99,101,108]))),
 p (.mov (.r 0))] [(2,.v 2),(4,.v 4),(5,.v 5),(27,.v 27),(112,.r 0)])
 (.cond (.v 112)
 (.reg false [p (.mov (.v 5)),
 p (.build [.int .i64 0,.str [],.str [],.int .i64 0,.int .i64 0,.str [],.str [],.fsl .nil 4 []] [(0,1,.k (.int .i64 7)),(1,1,.r 0)]),
 p (.fad 0 (.v 4)),
 p (.store (some 8) (.r 0) (.r 1))] [(2,.v 2),(4,.v 4)])
 (.seq
 (.reg false [p (.bin .eql (.v 27) (.k (.str [116,105,99,107]))),
 p (.mov (.r 0))] [(2,.v 2),(4,.v 4),(5,.v 5),(27,.v 27),(117,.r 0)])
 (.cond (.v 117)
 (.reg false [p (.mov (.v 5)),
 p (.call true (.k (.fn 18 [] [])) [.r 0]),
 p (.build [.int .i64 0,.str [],.str [],.int .i64 0,.int .i64 0,.str [],.str [],.fsl .nil 4 []] [(0,1,.k (.int .i64 8)),(4,1,.r 0)]),
 p (.fad 0 (.v 4)),
 p (.store (some 8) (.r 0) (.r 1))] [(2,.v 2),(4,.v 4)])
 (.seq
 (.reg false [p (.bin .eql (.v 27) (.k (.str [115,116,97,116,101]))),
 p (.mov (.r 0))] [(2,.v 2),(4,.v 4),(5,.v 5),(27,.v 27),(123,.r 0)])
 (.cond (.v 123)
 (.reg false [p (.mov (.v 5)),
 p (.build [.int .i64 0,.str [],.str [],.int .i64 0,.int .i64 0,.str [],.str [],.fsl .nil 4 []] [(0,1,.k (.int .i64 9)),(1,1,.r 0)]),
 p (.fad 0 (.v 4)),
 p (.store (some 8) (.r 0) (.r 1))] [(2,.v 2),(4,.v 4)])
 (.seq
 (.reg false [p (.bin .eql (.v 27) (.k (.str [115,121,110,99]))),
 p (.mov (.r 0))] [(2,.v 2),(4,.v 4),(128,.r 0)])
 (.cond (.v 128)
 (.reg false [p (.build [.int .i64 0,.str [],.str [],.int .i64 0,.int .i64 0,.str [],.str [],.fsl .nil 4 []] [(0,1,.k (.int .i64 10))]),
 p (.fad 0 (.v 4)),
 p (.store (some 8) (.r 0) (.r 1))] [(2,.v 2),(4,.v 4)])
 (.seq
 (.reg false [p (.load (some 11) (.v 4)),
 p (.store (some 11) (.v 2) (.r 0)),
 p (.mov (.k (.bool false)))] [(2,.v 2),(3,.r 0)])
 (.frz .ret))))))))))))))))))))))))))))
 (.frz
 (.seq
 (.reg false [p (.load (some 11) (.v 4)),
 p (.store (some 11) (.v 2) (.r 0)),
 p (.mov (.k (.bool true)))] [(2,.v 2),(3,.r 0)])
 (.frz .ret))))))))))
def r20:List RV:=[.c 2 (some 11),.t 3]
theorem en20:EnP Tryz.prog 20 133 c20 r20:=mkEnP (by kernel_rfl) Tryz.func20 (by kernel_rfl) ⟨_,rfl,by kernel_rfl,by kernel_rfl⟩
def c6:C :=
  (.seq
 (.reg false [p (.alloc 2 (.agg [.int .i64 0,.fsl .nil 11 []])),
 p (.mov (.k (.int .i64 0))),
 p (.mov (.k (.int .i64 0)))] [(0,.v 0),(2,.r 2)])
 (.seq
 (.reg false [p (.mov (.v 0)),
 p (.call true (.k (.fn 16 [] [])) [.r 0,.k (.int .u8 10)]),
 p (.mov (.r 0)),
 p (.ext (.r 0) 0),
 p (.ext (.r 1) 1),
 p (.ext (.r 2) 2),
 p (.mov (.r 2)),
 p (.mov (.r 2)),
 p (.mov (.r 2))] [(2,.v 2),(5,.r 2),(6,.r 1),(7,.r 0)])
 (.seq
 (.reg false [p (.mov (.v 5)),
 p (.call true (.k (.fn 17 [] [])) [.r 0,.k (.int .u8 32)]),
 p (.mov (.r 0))] [(2,.v 2),(6,.v 6),(7,.v 7),(8,.r 0)])
 (.seq
 (.reg false [p (.build [.int .i64 0,.fsl .nil 11 []] []),
 p (.alloc 2 (.agg [.int .i64 0,.fsl .nil 11 []])),
 p (.store (some 2) (.r 0) (.r 1))] [(2,.v 2),(6,.v 6),(7,.v 7),(8,.v 8),(9,.r 1)])
 (.cut
 (.seq
 (.reg false [p (.mov (.v 8)),
 p (.len false (.r 0)),
 p (.bin .eql (.r 0) (.k (.int .i64 2))),
 p (.mov (.r 0)),
 ⟨.mov (.v 8),some (0,true),[]⟩,
 ⟨.iad 1 (.r 0) (.k (.int .i64 0)),some (1,true),[]⟩,
 ⟨.load (none) (.r 0),some (2,true),[]⟩,
 ⟨.bin .eql (.r 0) (.k (.str [115,105,122,101])),some (3,true),[]⟩,
 p (.pick (.r 4) (.r 0) (.k (.bool false)))] [(2,.v 2),(6,.v 6),(7,.v 7),(8,.v 8),(9,.v 9),(33,.r 0)])
 (.cond (.v 33)
 (.reg false [p (.mov (.v 8)),
 p (.iad 1 (.r 0) (.k (.int .i64 1))),
 p (.load (none) (.r 0)),
 p (.call true (.k (.fn 18 [] [])) [.r 0]),
 p (.fad 0 (.v 9)),
 p (.store (none) (.r 0) (.r 1))] [(2,.v 2),(6,.v 6),(7,.v 7),(9,.v 9)])
 .skip))
 (.seq
 (.seq
 (.frz
 (.reg false [p (.mov (.v 7)),
 p (.un .not (.r 0)),
 p (.mov (.r 0)),
 ⟨.load (some 2) (.v 9),some (0,false),[]⟩,
 ⟨.call true (.k (.fn 19 [] [])) [.r 0],some (1,false),[]⟩,
 ⟨.un .not (.r 0),some (2,false),[]⟩,
 p (.pick (.r 3) (.k (.bool true)) (.r 0))] [(2,.v 2),(6,.v 6),(9,.v 9),(45,.r 0)]))
 (.cond (.v 45)
 (.seq
 (.reg false [p (.build [.int .i64 0,.fsl .nil 11 []] []),
 p (.store (some 2) (.v 2) (.r 0)),
 p (.mov (.k (.int .i64 250))),
 p (.mov (.k (.int .i64 1)))] [(2,.v 2),(3,.r 1),(4,.r 0)])
 (.frz .ret))
 .skip))
 (.seq
 (.seq
 (.reg false [p (.mov (.k (.int .i64 2)))] [(2,.v 2),(6,.v 6),(9,.v 9),(10,.r 0)])
 (.block 0
 (.loop
 (.seq
 (.seq
 (.reg false [p (.mov (.v 6)),
 p (.bin .neq (.r 0) (.k (.str [])))] [(2,.v 2),(6,.v 6),(9,.v 9),(10,.v 10),(48,.r 0)])
 (.cond (.v 48)
 .skip
 (.exit 0)))
 (.seq
 (.block 1
 (.seq
 (.reg false [p (.mov (.v 6)),
 p (.call true (.k (.fn 16 [] [])) [.r 0,.k (.int .u8 10)]),
 p (.mov (.r 0)),
 p (.ext (.r 0) 0),
 p (.ext (.r 1) 1),
 p (.ext (.r 2) 2),
 p (.mov (.r 2)),
 p (.mov (.r 2)),
 p (.mov (.r 2))] [(2,.v 2),(9,.v 9),(10,.v 10),(11,.r 2),(12,.r 1),(13,.r 0)])
 (.seq
 (.reg false [p (.mov (.v 11)),
 p (.call true (.k (.fn 17 [] [])) [.r 0,.k (.int .u8 32)]),
 p (.call true (.k (.fn 20 [] [])) [.r 0]),
 p (.mov (.r 0)),
 p (.ext (.r 0) 0),
 p (.ext (.r 1) 1),
 p (.alloc 11 (.agg [.int .i64 0,.str [],.str [],.int .i64 0,.int .i64 0,.str [],.str [],.fsl .nil 4 [],.bool false,.bool false,.fsl .nil 1 []])),
 p (.store (some 11) (.r 0) (.r 2)),
 p (.mov (.r 2))] [(2,.v 2),(9,.v 9),(10,.v 10),(11,.v 11),(12,.v 12),(13,.v 13),(14,.r 2),(15,.r 0)])
 (.seq
 (.seq
 (.reg false [p (.mov (.v 13)),
 p (.un .not (.r 0)),
 p (.mov (.r 0)),
 ⟨.mov (.v 15),some (0,false),[]⟩,
 ⟨.un .not (.r 0),some (1,false),[]⟩,
 p (.pick (.r 2) (.k (.bool true)) (.r 0)),
 p (.mov (.r 0)),
 ⟨.fad 1 (.v 9),some (0,false),[]⟩,
 ⟨.load (none) (.r 0),some (1,false),[]⟩,
 ⟨.len false (.r 0),some (2,false),[]⟩,
 ⟨.bin .geq (.r 0) (.k (.int .i64 200)),some (3,false),[]⟩,
 p (.pick (.r 4) (.k (.bool true)) (.r 0)),
 p (.mov (.r 0)),
 ⟨.load (some 11) (.v 14),some (0,false),[]⟩,
 ⟨.call true (.k (.fn 21 [] [])) [.r 0],some (1,false),[]⟩,
 ⟨.un .not (.r 0),some (2,false),[]⟩,
 p (.pick (.r 3) (.k (.bool true)) (.r 0)),
 p (.mov (.r 0)),
 ⟨.load (some 11) (.v 14),some (0,false),[]⟩,
 ⟨.call true (.k (.fn 22 [] [])) [.r 0],some (1,false),[]⟩,
 ⟨.mov (.v 11),some (2,false),[]⟩,
 ⟨.bin .neq (.r 1) (.r 0),some (3,false),[]⟩,
 p (.pick (.r 4) (.k (.bool true)) (.r 0))] [(2,.v 2),(9,.v 9),(10,.v 10),(12,.v 12),(14,.v 14),(85,.r 0)])
 (.cond (.v 85)
 (.seq
 (.reg false [p (.build [.int .i64 0,.fsl .nil 11 []] []),
 p (.mov (.v 10)),
 p (.store (some 2) (.v 2) (.r 1)),
 p (.mov (.k (.int .i64 250))),
 p (.mov (.r 2))] [(2,.v 2),(3,.r 1),(4,.r 0)])
 (.frz .ret))
 .skip))
 (.seq
 (.reg false [p (.fad 1 (.v 9)),
 p (.load (none) (.r 0)),
 p (.load (some 11) (.v 14)),
 p (.bsl 11 [.r 0]),
 p (.app 11 144 (.r 2) (.r 0)),
 p (.fad 1 (.v 9)),
 p (.store (none) (.r 0) (.r 1))] [(2,.v 2),(9,.v 9),(10,.v 10),(12,.v 12)])
 (.reg false [p (.mov (.v 12)),
 p (.mov (.r 0))] [(2,.v 2),(6,.r 0),(9,.v 9),(10,.v 10)]))))))
 (.reg false [p (.mov (.v 10)),
 p (.bin .add (.r 0) (.k (.int .i64 1))),
 p (.mov (.r 0))] [(2,.v 2),(6,.v 6),(9,.v 9),(10,.r 0)]))))))
 (.frz
 (.seq
 (.reg false [p (.load (some 2) (.v 9)),
 p (.store (some 2) (.v 2) (.r 0)),
 p (.mov (.k (.int .i64 0))),
 p (.mov (.k (.int .i64 0)))] [(2,.v 2),(3,.r 1),(4,.r 0)])
 (.frz .ret))))))))))
def r6:List RV:=[.c 2 (some 2),.t 3,.t 4]
theorem en6:EnP Tryz.prog 6 96 c6 r6:=mkEnP (by kernel_rfl) Tryz.func6 (by kernel_rfl) ⟨_,rfl,by kernel_rfl,by kernel_rfl⟩
def c8:C :=
  (.seq
 (.reg false [p (.box 2 (.v 0)),
 p (.box 2 (.v 1)),
 p (.mov (.k (.bool false)))] [(2,.r 2),(3,.r 1)])
 (.seq
 (.seq
 (.reg false [p (.fad 0 (.v 2)),
 p (.load (none) (.r 0)),
 p (.fad 0 (.v 3)),
 p (.load (none) (.r 0)),
 p (.bin .neq (.r 2) (.r 0)),
 p (.mov (.r 0)),
 ⟨.fad 1 (.v 2),some (0,false),[]⟩,
 ⟨.load (none) (.r 0),some (1,false),[]⟩,
 ⟨.len false (.r 0),some (2,false),[]⟩,
 ⟨.fad 1 (.v 3),some (3,false),[]⟩,
 ⟨.load (none) (.r 0),some (4,false),[]⟩,
 ⟨.len false (.r 0),some (5,false),[]⟩,
 ⟨.bin .neq (.r 3) (.r 0),some (6,false),[]⟩,
 p (.pick (.r 7) (.k (.bool true)) (.r 0))] [(2,.v 2),(3,.v 3),(21,.r 0)])
 (.cond (.v 21)
 (.seq
 (.reg false [p (.mov (.k (.bool false)))] [(4,.r 0)])
 .ret)
 .skip))
 (.seq
 (.seq
 (.reg false [p (.fad 1 (.v 2)),
 p (.load (none) (.r 0)),
 p (.len false (.r 0)),
 p (.mov (.k (.int .i64 0)))] [(3,.v 3),(23,.r 2),(24,.r 1),(25,.r 0)])
 (.block 0
 (.loop
 (.seq
 (.reg false [p (.bin .lss (.v 25) (.v 24))] [(3,.v 3),(23,.v 23),(24,.v 24),(25,.v 25),(26,.r 0)])
 (.seq
 (.cond (.v 26)
 .skip
 (.exit 0))
 (.seq
 (.block 1
 (.seq
 (.reg false [p (.mov (.v 25)),
 p (.iad 11 (.v 23) (.v 25)),
 p (.load (some 11) (.r 0)),
 p (.alloc 11 (.agg [.int .i64 0,.str [],.str [],.int .i64 0,.int .i64 0,.str [],.str [],.fsl .nil 4 [],.bool false,.bool false,.fsl .nil 1 []])),
 p (.mov (.r 3)),
 p (.store (some 11) (.r 1) (.r 2))] [(3,.v 3),(5,.r 1),(6,.r 2),(23,.v 23),(24,.v 24),(25,.v 25)])
 (.seq
 (.reg false [p (.fad 1 (.v 3)),
 p (.load (none) (.r 0)),
 p (.mov (.v 5)),
 p (.iad 11 (.r 1) (.r 0)),
 p (.load (some 11) (.r 0)),
 p (.alloc 11 (.agg [.int .i64 0,.str [],.str [],.int .i64 0,.int .i64 0,.str [],.str [],.fsl .nil 4 [],.bool false,.bool false,.fsl .nil 1 []])),
 p (.store (some 11) (.r 0) (.r 1))] [(3,.v 3),(6,.v 6),(7,.r 1),(23,.v 23),(24,.v 24),(25,.v 25)])
 (.seq
 (.reg false [p (.fad 8 (.v 6)),
 p (.load (none) (.r 0)),
 p (.fad 8 (.v 7)),
 p (.load (none) (.r 0)),
 p (.eqb true (.r 2) (.r 0)),
 p (.mov (.r 0)),
 ⟨.fad 9 (.v 6),some (0,false),[]⟩,
 ⟨.load (none) (.r 0),some (1,false),[]⟩,
 ⟨.fad 9 (.v 7),some (2,false),[]⟩,
 ⟨.load (none) (.r 0),some (3,false),[]⟩,
 ⟨.eqb true (.r 2) (.r 0),some (4,false),[]⟩,
 p (.pick (.r 5) (.k (.bool true)) (.r 0)),
 p (.mov (.r 0)),
 ⟨.fad 10 (.v 6),some (0,false),[]⟩,
 ⟨.load (none) (.r 0),some (1,false),[]⟩,
 ⟨.fad 10 (.v 7),some (2,false),[]⟩,
 ⟨.load (none) (.r 0),some (3,false),[]⟩,
 ⟨.call true (.k (.fn 23 [] [])) [.r 2,.r 0],some (4,false),[]⟩,
 ⟨.un .not (.r 0),some (5,false),[]⟩,
 p (.pick (.r 6) (.k (.bool true)) (.r 0)),
 p (.mov (.r 0)),
 ⟨.fad 0 (.v 6),some (0,false),[]⟩,
 ⟨.load (some 8) (.r 0),some (1,false),[]⟩,
 ⟨.fad 0 (.v 7),some (2,false),[]⟩,
 ⟨.load (some 8) (.r 0),some (3,false),[]⟩,
 ⟨.call true (.k (.fn 24 [] [])) [.r 2,.r 0],some (4,false),[]⟩,
 ⟨.un .not (.r 0),some (5,false),[]⟩,
 p (.pick (.r 6) (.k (.bool true)) (.r 0))] [(3,.v 3),(23,.v 23),(24,.v 24),(25,.v 25),(62,.r 0)])
 (.cond (.v 62)
 (.seq
 (.reg false [p (.mov (.k (.bool false)))] [(4,.r 0)])
 .ret)
 .skip)))))
 (.reg false [p (.bin .add (.v 25) (.k (.int .i64 1))),
 p (.mov (.r 0))] [(3,.v 3),(23,.v 23),(24,.v 24),(25,.r 0)])))))))
 (.frz
 (.seq
 (.reg false [p (.mov (.k (.bool true)))] [(4,.r 0)])
 .ret)))))
def r8:List RV:=[.t 4]
theorem en8:EnP Tryz.prog 8 64 c8 r8:=mkEnP (by kernel_rfl) Tryz.func8 (by kernel_rfl) ⟨_,rfl,by kernel_rfl,by kernel_rfl⟩
def c3:C :=
  (.seq
 (.reg false [p (.mov (.k (.bool false)))] [(0,.v 0)])
 (.seq
 (.reg false [p (.mov (.v 0)),
 p (.call true (.k (.fn 5 [] [])) [.r 0]),
 p (.mov (.r 0)),
 p (.ext (.r 0) 0),
 p (.ext (.r 1) 1),
 p (.ext (.r 2) 2),
 p (.alloc 2 (.agg [.int .i64 0,.fsl .nil 11 []])),
 p (.store (some 2) (.r 0) (.r 3)),
 p (.mov (.r 3)),
 p (.mov (.r 3))] [(0,.v 0),(3,.r 3),(4,.r 1),(5,.r 0)])
 (.seq
 (.reg false [p (.mov (.v 0)),
 p (.call true (.k (.fn 6 [] [])) [.r 0]),
 p (.mov (.r 0)),
 p (.ext (.r 0) 0),
 p (.ext (.r 1) 1),
 p (.ext (.r 2) 2),
 p (.alloc 2 (.agg [.int .i64 0,.fsl .nil 11 []])),
 p (.store (some 2) (.r 0) (.r 3)),
 p (.mov (.r 3)),
 p (.mov (.r 3))] [(3,.v 3),(4,.v 4),(5,.v 5),(6,.r 3),(7,.r 1),(8,.r 0)])
 (.seq
 (.reg false [p (.call true (.k (.fn 7 [] [])) []),
 p (.mov (.r 0)),
 ⟨.mov (.v 4),some (0,true),[]⟩,
 ⟨.mov (.v 7),some (1,true),[]⟩,
 ⟨.bin .eql (.r 1) (.r 0),some (2,true),[]⟩,
 p (.pick (.r 3) (.r 0) (.k (.bool false))),
 p (.mov (.r 0)),
 ⟨.mov (.v 5),some (0,true),[]⟩,
 ⟨.mov (.v 8),some (1,true),[]⟩,
 ⟨.bin .eql (.r 1) (.r 0),some (2,true),[]⟩,
 p (.pick (.r 3) (.r 0) (.k (.bool false))),
 p (.mov (.r 0)),
 ⟨.load (some 2) (.v 3),some (0,true),[]⟩,
 ⟨.load (some 2) (.v 6),some (1,true),[]⟩,
 ⟨.call true (.k (.fn 8 [] [])) [.r 1,.r 0],some (2,true),[]⟩,
 p (.pick (.r 3) (.r 0) (.k (.bool false))),
 p (.mov (.r 0))] [(2,.r 0)])
 .ret))))
def r3:List RV:=[.t 2]
theorem en3:EnP Tryz.prog 3 37 c3 r3:=mkEnP (by kernel_rfl) Tryz.func3 (by kernel_rfl) ⟨_,rfl,by kernel_rfl,by kernel_rfl⟩
def c4:C :=
  (.seq
 (.reg false [p (.box 2 (.v 0)),
 p (.mov (.k (.bool false)))] [(1,.v 1),(2,.r 1)])
 (.seq
 (.seq
 (.reg false [p (.load (some 2) (.v 2)),
 p (.call true (.k (.fn 9 [] [])) [.r 0]),
 p (.mov (.r 0)),
 p (.ext (.r 0) 0),
 p (.ext (.r 1) 1),
 p (.mov (.r 1)),
 p (.mov (.r 1))] [(1,.v 1),(2,.v 2),(5,.r 1),(6,.r 0)])
 (.seq
 (.reg false [p (.mov (.v 6)),
 p (.bin .eql (.r 0) (.k (.int .i64 0)))] [(1,.v 1),(2,.v 2),(5,.v 5),(21,.r 0)])
 (.cond (.v 21)
 (.seq
 (.reg false [p (.mov (.v 5)),
 p (.call true (.k (.fn 5 [] [])) [.r 0]),
 p (.mov (.r 0)),
 p (.ext (.r 0) 0),
 p (.ext (.r 1) 1),
 p (.ext (.r 2) 2),
 p (.alloc 2 (.agg [.int .i64 0,.fsl .nil 11 []])),
 p (.store (some 2) (.r 0) (.r 3)),
 p (.mov (.r 3)),
 p (.mov (.r 3))] [(1,.v 1),(2,.v 2),(7,.r 3),(8,.r 1),(9,.r 0)])
 (.seq
 (.reg false [p (.mov (.v 8)),
 p (.bin .neq (.r 0) (.k (.int .i64 0))),
 p (.mov (.r 0)),
 ⟨.mov (.v 9),some (0,false),[]⟩,
 ⟨.bin .neq (.r 0) (.k (.int .i64 0)),some (1,false),[]⟩,
 p (.pick (.r 2) (.k (.bool true)) (.r 0)),
 p (.mov (.r 0)),
 ⟨.load (some 2) (.v 2),some (0,false),[]⟩,
 ⟨.load (some 2) (.v 7),some (1,false),[]⟩,
 ⟨.call true (.k (.fn 8 [] [])) [.r 1,.r 0],some (2,false),[]⟩,
 ⟨.un .not (.r 0),some (3,false),[]⟩,
 p (.pick (.r 4) (.k (.bool true)) (.r 0))] [(1,.v 1),(39,.r 0)])
 (.cond (.v 39)
 (.seq
 (.reg false [p (.mov (.k (.bool false)))] [(4,.r 0)])
 .ret)
 .skip)))
 .skip)))
 (.seq
 (.reg false [p (.mov (.v 1)),
 p (.call true (.k (.fn 5 [] [])) [.r 0]),
 p (.mov (.r 0)),
 p (.ext (.r 0) 0),
 p (.ext (.r 1) 1),
 p (.ext (.r 2) 2),
 p (.alloc 2 (.agg [.int .i64 0,.fsl .nil 11 []])),
 p (.store (some 2) (.r 0) (.r 3)),
 p (.mov (.r 3)),
 p (.mov (.r 3))] [(1,.v 1),(10,.r 3),(11,.r 1)])
 (.seq
 (.seq
 (.reg false [p (.mov (.v 11)),
 p (.bin .neq (.r 0) (.k (.int .i64 0)))] [(1,.v 1),(10,.v 10),(47,.r 0)])
 (.cond (.v 47)
 (.seq
 (.reg false [p (.call true (.k (.fn 7 [] [])) []),
 p (.mov (.r 0)),
 ⟨.load (some 2) (.v 10),some (0,true),[]⟩,
 ⟨.build [.int .i64 0,.fsl .nil 11 []] [],some (1,true),[]⟩,
 ⟨.call true (.k (.fn 8 [] [])) [.r 1,.r 0],some (2,true),[]⟩,
 p (.pick (.r 3) (.r 0) (.k (.bool false))),
 p (.mov (.r 0))] [(4,.r 0)])
 .ret)
 .skip))
 (.seq
 (.reg false [p (.load (some 2) (.v 10)),
 p (.call true (.k (.fn 9 [] [])) [.r 0]),
 p (.mov (.r 0)),
 p (.ext (.r 0) 0),
 p (.ext (.r 1) 1),
 p (.mov (.r 1)),
 p (.mov (.r 1))] [(1,.v 1),(10,.v 10),(13,.r 1),(14,.r 0)])
 (.seq
 (.reg false [p (.call true (.k (.fn 7 [] [])) []),
 p (.mov (.r 0)),
 ⟨.mov (.v 14),some (0,true),[]⟩,
 ⟨.bin .eql (.r 0) (.k (.int .i64 0)),some (1,true),[]⟩,
 p (.pick (.r 2) (.r 0) (.k (.bool false))),
 p (.mov (.r 0)),
 ⟨.mov (.v 13),some (0,true),[]⟩,
 ⟨.mov (.v 1),some (1,true),[]⟩,
 ⟨.bin .eql (.r 1) (.r 0),some (2,true),[]⟩,
 p (.pick (.r 3) (.r 0) (.k (.bool false))),
 p (.mov (.r 0)),
 ⟨.load (some 2) (.v 10),some (0,true),[]⟩,
 ⟨.call true (.k (.fn 10 [] [])) [.r 0],some (1,true),[]⟩,
 p (.pick (.r 2) (.r 0) (.k (.bool false))),
 p (.mov (.r 0))] [(4,.r 0)])
 .ret))))))
def r4:List RV:=[.t 4]
theorem atoi_range {s:Str} {v:Int} (h:Lib.atoiAll s=.ok v):-9223372036854775808≤v∧v≤9223372036854775807:=by
  unfold Lib.atoiAll at h
  split at h
  · cases h
  · simp only at h
    split at h
    · cases h
    · cases h
    · rename_i u hu
      split at h
      · cases h
      · split at h
        · cases h
        · simp only [Lib.NumEnd.ok.injEq] at h; subst h
          split<;>omega
theorem p_number (s:Str) (hl:s.length≤281474976710656):PCall Tryz.prog 14 [.str s] (.int .i64 (numS s)):=by
  refine en14 (by simp) (by simp [closedL,V.closed]) ?_
  have ka:=p_atoi s hl
  generalize ren_atoi.t 168=T at ka
  unfold atoiV at ka
  simp (maxSteps:=1000000) (disch:=omega) only [rg,gD,simprocAttr,c14]
  rcases ha:Lib.atoiAll s with v | _ | _
  · rw [ha] at ka
    have hv:=atoi_range ha
    refine ⟨_,ka, ?_⟩
    by_cases h0:v < 0
    · have e:numS s=-1:=by unfold numS; rw [ha]; simp only; rw [if_pos (.inl h0)]
      simp (maxSteps:=1000000) (disch:=omega) only [rg,gD,simprocAttr,h0]
      (refine fin_x rfl ?_ ?_<;>simp [pack,lo,loL,V.closed,closedL,mv_closed,e])
    · simp (maxSteps:=1000000) (disch:=omega) only [rg,gD,simprocAttr,h0]
      refine ⟨_,p_itoa v hv, ?_⟩
      by_cases h1:Lib.itoa v=s
      · have e:numS s=v:=by unfold numS; rw [ha]; simp only; rw [if_neg (by rw [not_or]; exact ⟨h0,fun h => h h1⟩)]
        simp (maxSteps:=1000000) (disch:=omega) only [rg,gD,simprocAttr,h1]
        (refine fin_x rfl ?_ ?_<;>simp [pack,lo,loL,V.closed,closedL,mv_closed,e])
      · have e:numS s=-1:=by unfold numS; rw [ha]; simp only; rw [if_pos (.inr h1)]
        simp (maxSteps:=1000000) (disch:=omega) only [rg,gD,simprocAttr,h1]
        (refine fin_x rfl ?_ ?_<;>simp [pack,lo,loL,V.closed,closedL,mv_closed,e])
  · rw [ha] at ka
    have e:numS s=-1:=by unfold numS; rw [ha]
    refine ⟨_,ka, ?_⟩
    simp (maxSteps:=1000000) (disch:=omega) only [rg,gD,simprocAttr]
    (refine fin_x rfl ?_ ?_<;>simp [pack,lo,loL,V.closed,closedL,mv_closed,e])
  · rw [ha] at ka
    have e:numS s=-1:=by unfold numS; rw [ha]
    refine ⟨_,ka, ?_⟩
    simp (maxSteps:=1000000) (disch:=omega) only [rg,gD,simprocAttr]
    (refine fin_x rfl ?_ ?_<;>simp [pack,lo,loL,V.closed,closedL,mv_closed,e])
theorem piece_len (c:UInt8):∀ s:Str,∀ x∈splitC c s,x.length≤s.length
  | [],x,h => by simp [splitC] at h; subst h; simp
  | b::s,x,h => by
    have ih:=piece_len c s
    obtain ⟨w,ws,e⟩:∃ w ws,splitC c s=w::ws:=by cases h:splitC c s with | nil => exact absurd h (splitC_ne c s) | cons w ws => exact ⟨w,ws,rfl⟩
    rw [e] at ih
    simp only [splitC] at h
    split at h
    · rcases List.mem_cons.1 h with rfl | h
      · simp
      · rw [e] at h; have:=ih x h; simp; omega
    · rw [e] at h
      simp only [List.headD_cons,List.tail_cons] at h
      rcases List.mem_cons.1 h with rfl | h
      · have:=ih w (by simp); simp; omega
      · have:=ih x (by simp [h]); simp; omega
def tkO (o:Option Task):V:=match o with
  | some t => .tup [taskV t,.bool true]
  | none => .tup [taskV ⟨[],0,0,0⟩,.bool false]
theorem vS_get {l:List Str} {i:Nat} (h:i < l.length):(vS l)[i]?=some (.str l[i]):=mv_get h
theorem mkTask_none {l:List Int} (h:l.length < 3):mkTask l=none:=by
  match l,h with
  | [],_ => rfl
  | [_],_ => rfl
  | [_,_],_ => rfl
theorem p_task (w:Str) (hl:w.length≤4000000000):PCall Tryz.prog 37 [.str w] (tkO (taskP w)):=by
  refine en37 (by simp) (by simp [closedL,V.closed]) ?_
  simp (maxSteps:=1000000) (disch:=omega) only [rg,gD,simprocAttr,c37]
  refine ⟨_,p_split w 44 (by omega), ?_⟩
  have hsl:=splitC_len 44 w
  simp (maxSteps:=1000000) (disch:=omega) only [rg,gD,simprocAttr,vS_len']
  refine x_it (splitC 44 w).length (fun i σ H => ∃ v,1≤H.n∧H.m 0=some (.arr 4 [.agg [.fsl .nil 1 [],.int .i64 0,.int .i64 0,.int .i64 0]])∧Gro 1 H.n H.m 1 v (vI (((splitC 44 w).take i).map numS))∧(((splitC 44 w).take i).map numS).all (fun n => decide (0≤n))=true∧σ=[(2,.ptr 0 0 0),(4,v),(10,.fsl .full 1 (vS (splitC 44 w))),(11,.int .i64 (splitC 44 w).length),(12,.int .i64 i)]) ⟨_,by simp,(by simp (disch:=omega) only [upd_eq,upd_ne,wo_0,wo_1,wo_2]),Gro.nil,rfl,rfl⟩ ?_
  rintro T i σ ⟨n,m⟩ hi ⟨v,hn1,e0,hG,ha,rfl⟩ hN hX hR
  simp only at hn1 e0 hG
  simp (maxSteps:=1000000) (disch:=omega) only [rg,gD,simprocAttr]
  refine ⟨fun hlt => ?_,fun hlt => ?_⟩
  · have i1:i < (splitC 44 w).length:=by omega
    have hpl:=piece_len 44 w (splitC 44 w)[i] (List.getElem_mem i1)
    simp (maxSteps:=1000000) (disch:=omega) only [rg,gD,simprocAttr,vS_get]
    refine ⟨_,p_number _ (by omega), ?_⟩
    by_cases h0:numS (splitC 44 w)[i] < 0
    · have e:taskP w=none:=by
        rw [taskP,if_neg]
        rw [List.all_eq_true]; intro hh
        have:=hh (numS (splitC 44 w)[i]) (List.mem_map_of_mem (List.getElem_mem i1))
        simp at this; omega
      simp (maxSteps:=1000000) (disch:=omega) only [rg,gD,simprocAttr,h0,e0]
      refine hR _ _ ?_
      simp (maxSteps:=1000000) (disch:=omega) only [rg,gD,simprocAttr]
      (refine fin_x rfl ?_ ?_<;>simp [pack,lo,loL,V.closed,closedL,mv_closed,e,tkO,taskV,vI,mv])
    · have e1:vI (((splitC 44 w).take i).map numS)++[.int .i64 (numS (splitC 44 w)[i])]=vI (((splitC 44 w).take (i+1)).map numS):=by
        rw [List.take_succ_eq_append_getElem i1,List.map_append]; exact mv_app1
      simp (maxSteps:=1000000) (disch:=omega) only [rg,gD,simprocAttr,h0]
      refine app_gro hG (by omega) (ys:=[.int .i64 (numS (splitC 44 w)[i])]) rfl (by simp) (by rw [vI_len,List.length_map,List.length_take]; simp; omega) fun v' fp ds hG' hk1 _ => ?_
      rw [e1] at hG'
      simp (maxSteps:=1000000) (disch:=omega) only [rg,gD,simprocAttr]
      refine hN _ _ i1 ⟨v',by simp only []; omega,(hk1 0 (by omega)).trans e0,hG', ?_,rfl⟩
      rw [List.take_succ_eq_append_getElem i1,List.map_append,List.all_append,ha]
      simp; omega
  · obtain rfl:i=(splitC 44 w).length:=by omega
    rw [List.take_length] at hG ha
    refine hX _ _ _ ?_
    simp (maxSteps:=1000000) (disch:=omega) only [rg,gD,simprocAttr]
    obtain ⟨fz,st,f1,f2,f3⟩:=hG.frz vI_closed
    have d0:without fz m 0=some (.arr 4 [.agg [.fsl .nil 1 [],.int .i64 0,.int .i64 0,.int .i64 0]]):=by
      simp only [without]; rw [if_neg (fun h => by have:=f1 _ h; omega)]; exact e0
    refine x_frz fz ?_
    simp only at d0 ⊢
    generalize without fz m=m' at d0
    have hall:((splitC 44 w).map numS).all (fun n => decide (0≤n))=true:=ha
    have hll:((splitC 44 w).map numS).length=(splitC 44 w).length:=by simp
    by_cases h3:(splitC 44 w).length < 3
    · have e:taskP w=none:=by rw [taskP,if_pos hall,mkTask_none (by rw [hll]; exact h3)]
      simp (maxSteps:=1000000) (disch:=omega) only [rg,gD,simprocAttr,f3,frz_p,vI_len,hll,d0,show ((splitC 44 w).length:Int) < 3 by omega]
      (refine fin_x rfl ?_ ?_<;>simp [pack,lo,loL,V.closed,closedL,mv_closed,e,tkO,taskV,vI,mv])
    · have e:taskP w=mkTask ((splitC 44 w).map numS):=by rw [taskP,if_pos hall]
      rw [e]
      generalize (splitC 44 w).map numS=l at hll f3
      match l,hll with
      | [],hll => simp at hll; omega
      | [_],hll => simp at hll; omega
      | [_,_],hll => simp at hll; omega
      | a::b::c::r,hll =>
        have hrl:(splitC 44 w).length=r.length+3:=by simp at hll; omega
        have hv3:vI (a::b::c::r)=.int .i64 a::.int .i64 b::.int .i64 c::vI r:=rfl
        rw [hv3] at f3
        simp (maxSteps:=1000000) (disch:=omega) only [rg,gD,simprocAttr,f3,frz_p,d0]
        refine ⟨fun h => absurd h (by omega),fun _ => ⟨by simp [compat,disj,nthL],fun h4 => ⟨by omega, ?_⟩,fun h4 => ?_⟩⟩
        · (refine fin_x rfl ?_ ?_<;>simp [pack,lo,loL,V.closed,closedL,mv_closed,mkTask,tkO,taskV,List.take_length,vI_lo,vI_closed])
        · have hr0:(vI r).length=0:=by omega
          rw [vI_len] at hr0
          obtain rfl:=List.eq_nil_of_length_eq_zero hr0
          (refine fin_x rfl ?_ ?_<;>simp [pack,lo,loL,V.closed,closedL,mv_closed,mkTask,tkO,taskV,vI,mv])
section
theorem vS_cons (a:Str) (l:List Str):vS (a::l)=.str a::vS l:=rfl
theorem vS_nil:vS []=[]:=rfl
theorem p_next (H:Hp) (b:Nat) (rest:List Str) (hb:b < H.n) (hm:H.m b=some (.arr 1 [.fsl .full 1 (vS rest)])) :
    ACall Tryz.prog 36 [.ptr b 0 0] H [b] (.str (rest.headD [])) [(b,some (.arr 1 [.fsl .full 1 (vS rest.tail)]))] 0:=by
  refine ena36 (by simp) (by simp [lowL,V.low,hb]) (fun id hid => ?_) (by simp) ?_
  · simp at hid; subst hid
    exact ⟨hb,fun o ho => by rw [hm] at ho; simp at ho; subst ho; exact lowL_closed _ (by simp [closedL,V.closed,vS_closed])⟩
  have q1:only [b] H.m b=some (.arr 1 [.fsl .full 1 (vS rest)]):=by simp [only,hm]
  cases rest with
  | nil =>
    rw [vS_nil] at q1
    simp (maxSteps:=1000000) (disch:=omega) only [rg,gD,simprocAttr,c36,q1]
    exact fin_A (l:=[.str []]) rfl (.inl rfl) (by simp) (fun id => .inr (by by_cases h:id=b<;>simp [appd,upd,h,q1,vS_nil]))
  | cons a r =>
    rw [vS_cons] at q1
    simp (maxSteps:=1000000) (disch:=omega) only [rg,gD,simprocAttr,c36,q1]
    refine ⟨fun h => absurd h (by omega),fun _ => ⟨by omega,fin_A (l:=[.str a]) rfl (.inl rfl) (by simp) (fun id => .inr (by by_cases h:id=b<;>simp [appd,upd,h,slSt]))⟩⟩
/-! Bounds of what is read. -/
theorem numS_le (s:Str):numS s≤9223372036854775807:=by
  unfold numS
  split
  · rename_i v hv
    have:=atoi_range hv
    split<;>omega
  · omega
theorem taskP_ok {w:Str} {t:Task} (h:taskP w=some t):t.needs.length≤w.length+1∧(∀ x∈t.needs,x≤9223372036854775807)∧t.tries≤9223372036854775807∧t.wait≤9223372036854775807∧t.lease≤9223372036854775807:=by
  unfold taskP at h
  split at h
  · have hb:∀ x∈(splitC 44 w).map numS,x≤9223372036854775807:=fun x hx => by obtain ⟨y,_,rfl⟩:=List.mem_map.1 hx; exact numS_le y
    have hn:((splitC 44 w).map numS).length≤w.length+1:=by rw [List.length_map]; exact splitC_len 44 w
    generalize (splitC 44 w).map numS=l at *
    match l with
    | [] => simp [mkTask] at h
    | [_] => simp [mkTask] at h
    | [_,_] => simp [mkTask] at h
    | a::b::c::r =>
      simp only [mkTask,Option.some.injEq] at h; subst h
      refine ⟨by simp at hn ⊢; omega,fun x hx => hb x (by simp [hx]),hb a (by simp),hb b (by simp),hb c (by simp)⟩
  · cases h
theorem takeT_ok {f:Str→Option Task} {q:Task→Prop}:∀ {l:List Str},(∀ w∈l,∀ t,f w=some t→q t)→∀ t∈(takeT f l).1,q t
  | [],_,t,ht => by simp [takeT] at ht
  | w::l,h,t,ht => by
    simp only [takeT] at ht
    cases hw:f w with
    | none => rw [hw] at ht; simp at ht
    | some u =>
      rw [hw] at ht
      rcases List.mem_cons.1 ht with rfl | ht
      · exact h w (by simp) _ hw
      · exact takeT_ok (fun x hx => h x (by simp [hx])) t ht
theorem takeT_len (f:Str→Option Task):∀ l:List Str,(takeT f l).1.length≤l.length
  | [] => by simp [takeT]
  | w::l => by
    have:=takeT_len f l
    simp only [takeT]; split
    · simp
    · simp only [List.length_cons]; omega
theorem okC {k:Int} {key nm txt:Str} {tok tm:Int} {d:Dag} (h1:key.length≤1000000000) (h2:nm.length≤1000000000) (h3:txt.length≤1000000000) (h4:tok≤9223372036854775807) (h5:tm≤9223372036854775807)
    (hd:d.tasks.length≤1000000002∧(∀ t∈d.tasks,t.needs.length≤1000000001∧(∀ x∈t.needs,x≤9223372036854775807)∧t.tries≤9223372036854775807∧t.wait≤9223372036854775807∧t.lease≤9223372036854775807)):okCmd ⟨k,key,nm,tok,tm,txt,d⟩:=by
  refine ⟨by simp only; omega,by simp only; omega,by simp only; omega,by simp only; omega,fun t ht => ?_,fun t ht => ?_,h4,h5⟩
  · have:=(hd.2 t ht).1; omega
  · exact (hd.2 t ht).2
theorem zeroD_ok:zeroD.tasks.length≤1000000002∧(∀ t∈zeroD.tasks,t.needs.length≤1000000001∧(∀ x∈t.needs,x≤9223372036854775807)∧t.tries≤9223372036854775807∧t.wait≤9223372036854775807∧t.lease≤9223372036854775807) :=
  ⟨by simp [zeroD],fun t ht => by simp [zeroD] at ht⟩
theorem head_len {l:List Str} {N:Nat} (h:∀ w∈l,w.length≤N):(l.headD []).length≤N:=by
  cases l with
  | nil => simp
  | cons a r => exact h a (by simp)
theorem tail_len {l:List Str} {N:Nat} (h:∀ w∈l,w.length≤N):∀ w∈l.tail,w.length≤N:=fun w hw => h w (List.mem_of_mem_tail hw)
theorem stpV_lo (s:Stp):lo (stpV s)=stpV s:=by simp [stpV,lo,loL,tasksV_lo,vI_lo]
set_option maxHeartbeats 2000000 in
theorem p_parse (text:Str) (hl:text.length≤1000000000):PCall Tryz.prog 15 [.str text] (.tup [stpV (parseS text).1,.bool (parseS text).2]):=by
  refine en15 (by simp) (by simp [closedL,V.closed]) ?_
  simp (maxSteps:=1000000) (disch:=omega) only [rg,gD,simprocAttr,c15]
  refine ⟨_,p_split text 32 (by omega), ?_⟩
  have hpl:=piece_len 32 text
  have hsl:=splitC_len 32 text
  obtain ⟨first,rest,hsp⟩:∃ w ws,splitC 32 text=w::ws:=by cases h:splitC 32 text with | nil => exact absurd h (splitC_ne 32 text) | cons w ws => exact ⟨w,ws,rfl⟩
  rw [hsp] at hpl hsl ⊢
  have hr:∀ w∈rest,w.length≤1000000000:=fun w hw => Nat.le_trans (hpl w (by simp [hw])) hl
  have hrl:rest.length≤1000000000:=by simp at hsl; omega
  simp (maxSteps:=1000000) (disch:=omega) only [rg,gD,simprocAttr,vS_cons]
  refine ⟨by omega,by simp [compat,disj,nthL],fun c0 => ?_,fun c0 => ⟨fun c1 => ?_,fun c1 => ⟨fun c2 => ?_,fun c2 => ⟨fun c3 => ?_,fun c3 => ⟨fun c4 => ?_,fun c4 => ⟨fun c5 => ?_,fun c5 => ⟨fun c6 => ?_,fun c6 => ⟨fun c7 => ?_,fun c7 => ⟨fun c8 => ?_,fun c8 => ⟨fun c9 => ?_,fun c9 => ⟨fun c10 => ?_,fun c10 => ⟨fun c11 => ?_,fun c11 => ?_⟩⟩⟩⟩⟩⟩⟩⟩⟩⟩⟩⟩
  · -- crash
    have e:parseS text=(⟨zeroC,false,true,rest.map numS⟩,stpB ⟨zeroC,false,true,rest.map numS⟩):=by rw [parseS,hsp,rawP,if_pos (show first=wCrash from c0)]; simp
    refine x_it rest.length (fun i σ H => ∃ v,3≤H.n∧H.m 0=some (.arr 11 [.agg [.int .i64 0,.str [],.str [],.int .i64 0,.int .i64 0,.str [],.str [],.fsl .nil 4 [],.bool false,.bool false,.fsl .nil 1 []]])∧H.m 1=some (.arr 1 [.fsl .full 1 (vS (rest.drop i))])∧H.m 2=some (.arr 11 [.agg [.int .i64 0,.str [],.str [],.int .i64 0,.int .i64 0,.str [],.str [],.fsl .nil 4 [],.bool false,.bool true,v]])∧Gro 3 H.n H.m 1 v (vI ((rest.take i).map numS))∧σ=[(2,.ptr 0 0 0),(6,.ptr 1 0 0),(7,.fn 36 [] [.ptr 1 0 0]),(8,.ptr 2 0 0)]) ⟨_,by simp,(by simp (disch:=omega) only [upd_eq,upd_ne,wo_0,wo_1,wo_2]),by simp (disch:=omega) only [upd_eq,upd_ne,slSt,if_true,List.take_length,List.drop_zero],(by simp (disch:=omega) only [upd_eq,upd_ne,wo_0,wo_1,wo_2]),Gro.nil,rfl⟩ ?_
    rintro T i σ ⟨n,m⟩ hi ⟨v,hn3,e0,e1,e2,hG,rfl⟩ hN hX hR
    simp only at hn3 e0 e1 e2 hG
    simp (maxSteps:=1000000) (disch:=omega) only [rg,gD,simprocAttr,e1]
    refine ⟨fun hlt => ?_,fun hlt => ?_⟩
    · have i1:i < rest.length:=by rw [vS_len',List.length_drop] at hlt; omega
      have hd:rest.drop i=rest[i]::rest.drop (i+1):=by rw [List.drop_eq_getElem_cons i1]
      have e3:vI ((rest.take i).map numS)++[.int .i64 (numS rest[i])]=vI ((rest.take (i+1)).map numS):=by
        rw [List.take_succ_eq_append_getElem i1,List.map_append]; exact mv_app1
      simp (maxSteps:=1000000) (disch:=omega) only [rg,gD,simprocAttr,e1,e2]
      refine ⟨_,_,_,_,p_next _ 1 (rest.drop i) (by show 1 < n; omega) (by simp (disch:=omega) only [upd_eq,upd_ne,wo_0,wo_1,wo_2,e1]), ?_⟩
      rw [hd,List.headD_cons,List.tail_cons]
      simp (maxSteps:=1000000) (disch:=omega) only [rg,gD,simprocAttr]
      refine ⟨by simp [compat,disj,nthL], ?_⟩
      refine ⟨_,p_number _ (Nat.le_trans (hr _ (List.getElem_mem i1)) (by omega)), ?_⟩
      simp (maxSteps:=1000000) (disch:=omega) only [rg,gD,simprocAttr]
      refine app_gro (hG.keep (Nat.le_refl _) (fun id h1 h2 => by simp (disch:=omega) only [upd_ne])) (by show 3≤n; omega) (ys:=[.int .i64 (numS rest[i])]) rfl (by simp) (by rw [vI_len,List.length_map,List.length_take]; simp; omega) fun v' fp ds hG' hk1 _ => ?_
      rw [e3] at hG'
      have k0:=hk1 0 (by omega)
      have k1:=hk1 1 (by omega)
      have k2:=hk1 2 (by omega)
      simp (disch:=omega) only [upd_eq,upd_ne] at k0 k1 k2
      rw [e0] at k0
      rw [e2] at k2
      have hc:=hG'.cell
      simp only at hG'
      simp (maxSteps:=1000000) (disch:=omega) only [rg,gD,simprocAttr,k2,hc]
      refine hN _ _ i1 ?_
      exact ⟨v',by show 3≤n+1; omega,(by simp (disch:=omega) only [upd_eq,upd_ne,wo_0,wo_1,wo_2,k0]),(by simp (disch:=omega) only [upd_eq,upd_ne,wo_0,wo_1,wo_2,k1]),(by simp (disch:=omega) only [upd_eq,upd_ne,wo_0,wo_1,wo_2]),by exact hG'.keep (Nat.le_refl _) (fun id h1 h2 => by simp (disch:=omega) only [upd_ne]),rfl⟩
    · have hie:i=rest.length:=by rw [vS_len',List.length_drop] at hlt; omega
      subst hie
      rw [List.take_length] at hG
      refine hX _ _ _ ?_
      simp (maxSteps:=1000000) (disch:=omega) only [rg,gD,simprocAttr]
      rw [e]
      have hl0:((vS (rest.drop rest.length)).length:Int)=0:=by rw [List.drop_length]; rfl
      obtain ⟨fz,st,f1,f2,f3⟩:=hG.frz vI_closed
      have d0:=frl_cl (fz:=fz) (ids:=[]) e0 (by simp [closedL,V.closed]) (fun h => by have:=f1 _ h; omega) (by simp)
      have d1:=frl_cl (fz:=fz) (ids:=[]) e1 (by simp [closedL,V.closed,vS_closed]) (fun h => by have:=f1 _ h; omega) (by simp)
      have d2:=frl_get (fz:=fz) (ids:=[]) e2 (fun h => by have:=f1 _ h; omega) (by simp)
      have k2:frzV fz m (.agg [.int .i64 0,.str [],.str [],.int .i64 0,.int .i64 0,.str [],.str [],.fsl .nil 4 [],.bool false,.bool true,v])=.agg [.int .i64 0,.str [],.str [],.int .i64 0,.int .i64 0,.str [],.str [],.fsl .nil 4 [],.bool false,.bool true,.fsl st 1 (vI (rest.map numS))]:=frzV_mid (pre:=[.int .i64 0,.str [],.str [],.int .i64 0,.int .i64 0,.str [],.str [],.fsl .nil 4 [],.bool false,.bool true]) (post:=[]) f2 rfl rfl
      rw [List.map_cons,List.map_nil,k2] at d2
      refine x_frzL fz [] ?_
      simp only at d0 d1 d2 ⊢
      generalize loH [] (frzH fz m)=m' at d0 d1 d2
      simp (maxSteps:=1000000) (disch:=omega) only [rg,gD,simprocAttr]
      refine x_frz0 ?_
      simp (maxSteps:=1000000) (disch:=omega) only [rg,gD,simprocAttr,frz_p,d0,d1,d2,hl0]
      refine ⟨_,PCall.of_eq (p_step ⟨zeroC,false,true,rest.map numS⟩ (okC (by simp) (by simp) (by simp) (by omega) (by omega) zeroD_ok) (by simp; omega)) (by simp [loL,lo,stpV,zeroD,zeroC,tasksV,mv,vI_lo]), ?_⟩
      simp (maxSteps:=1000000) (disch:=omega) only [rg,gD,simprocAttr,d0]
      (refine fin_x rfl ?_ ?_<;>simp [pack,lo,loL,V.closed,closedL,mv_closed,stpV,zeroD,zeroC,tasksV,mv,vI_lo,vI_closed])
  · -- check
    rw [show parseS text=((⟨zeroC,true,false,[]⟩:Stp),decide ((rest:List Str)=[]) && stpB ((⟨zeroC,true,false,[]⟩:Stp))) from by rw [parseS,hsp,rawP,if_neg (show ¬ first=wCrash from c0),if_pos (show first=wCheck from c1)]]
    simp (maxSteps:=1000000) (disch:=omega) only [rg,gD,simprocAttr]
    refine x_frz0 ?_
    refine x_frz0 ?_
    by_cases hlf:(rest:List Str)=[]
    · have hll:((vS (rest)).length:Int)=0:=by rw [hlf]; rfl
      simp (maxSteps:=1000000) (disch:=omega) only [rg,gD,simprocAttr,List.take_length,hll]
      refine ⟨_,PCall.of_eq (p_step ((⟨zeroC,true,false,[]⟩:Stp)) (okC (by simp) (by simp) (by simp) (by omega) (by omega) zeroD_ok) (by simp [mkS])) (by simp [loL,lo,stpV,mkS,zeroD,zeroC,tasksV,vI,mv]), ?_⟩
      simp (maxSteps:=1000000) (disch:=omega) only [rg,gD,simprocAttr]
      (refine fin_x rfl ?_ ?_<;>simp [pack,lo,loL,V.closed,closedL,mv_closed,hlf,stpV,mkS,zeroD,zeroC,tasksV,vI,mv])
    · have hll:¬ ((vS (rest)).length:Int)=0:=by rw [vS_len']; intro h; exact hlf (List.eq_nil_of_length_eq_zero (by omega))
      simp (maxSteps:=1000000) (disch:=omega) only [rg,gD,simprocAttr,List.take_length,hll]
      (refine fin_x rfl ?_ ?_<;>simp [pack,lo,loL,V.closed,closedL,mv_closed,hlf,stpV,mkS,zeroD,zeroC,tasksV,vI,mv])
  · -- graph
    refine ⟨_,_,_,_,p_next _ 1 rest (by simp) (by simp (disch:=omega) only [upd_eq,upd_ne,slSt,if_true,List.take_length]), ?_⟩
    simp (maxSteps:=1000000) (disch:=omega) only [rg,gD,simprocAttr]
    refine x_it rest.tail.length (fun i σ H => ∃ v ts,3≤H.n∧H.m 0=some (.arr 11 [.agg [.int .i64 0,.str [],.str [],.int .i64 0,.int .i64 0,.str [],.str [],.fsl .nil 4 [],.bool false,.bool false,.fsl .nil 1 []]])∧H.m 1=some (.arr 1 [.fsl .full 1 (vS (rest.tail.drop i))])∧H.m 2=some (.arr 11 [.agg [.int .i64 1,.str [],.str [],.int .i64 0,.int .i64 0,.str [],.str (rest.headD []),v,.bool false,.bool false,.fsl .nil 1 []]])∧Gro 3 H.n H.m 4 v (mv taskV ts)∧ts.length≤i∧takeT taskP rest.tail=(ts++(takeT taskP (rest.tail.drop i)).1,(takeT taskP (rest.tail.drop i)).2)∧σ=[(2,.ptr 0 0 0),(6,.ptr 1 0 0),(7,.fn 36 [] [.ptr 1 0 0]),(8,.ptr 2 0 0),(9,.ptr 2 0 0)]) ⟨_,[],by simp,(by simp (disch:=omega) only [upd_eq,upd_ne,wo_0,wo_1,wo_2]),by simp (disch:=omega) only [upd_eq,upd_ne,List.drop_zero],(by simp (disch:=omega) only [upd_eq,upd_ne,wo_0,wo_1,wo_2]),Gro.nil,by simp,by simp,rfl⟩ ?_
    rintro T i σ ⟨n,m⟩ hi ⟨v,ts,hn3,e0,e1,e2,hG,htl,htk,rfl⟩ hN hX hR
    simp only at hn3 e0 e1 e2 hG
    simp (maxSteps:=1000000) (disch:=omega) only [rg,gD,simprocAttr,e1]
    refine ⟨fun hlt => ?_,fun hlt => ?_⟩
    · have i1:i < rest.tail.length:=by rw [vS_len',List.length_drop] at hlt; omega
      have hd:rest.tail.drop i=rest.tail[i]::rest.tail.drop (i+1):=by rw [List.drop_eq_getElem_cons i1]
      have hwl:=tail_len hr rest.tail[i] (List.getElem_mem i1)
      have hne:n≠0∧n≠1∧n≠2:=by omega
      rw [hd,takeT] at htk
      refine ⟨_,_,_,_,p_next _ 1 (rest.tail.drop i) (by show 1 < n; omega) (by simp (disch:=omega) only [upd_eq,upd_ne,wo_0,wo_1,wo_2,e1]), ?_⟩
      rw [hd,List.headD_cons,List.tail_cons]
      simp (maxSteps:=1000000) (disch:=omega) only [rg,gD,simprocAttr]
      refine ⟨_,p_task _ (Nat.le_trans hwl (by omega)), ?_⟩
      cases hw:taskP rest.tail[i] with
      | none =>
        rw [hw] at htk
        have e:parseS text=(zeroS,false):=by rw [parseS,hsp,rawP,if_neg (show ¬ first=wCrash from c0),if_neg (show ¬ first=wCheck from c1),if_pos (show first=wGraph from c2),htk]; rfl
        simp (maxSteps:=1000000) (disch:=omega) only [rg,gD,simprocAttr,tkO,taskV,e0]
        refine hR _ _ ?_
        rw [e]
        simp (maxSteps:=1000000) (disch:=omega) only [rg,gD,simprocAttr]
        (refine fin_x rfl ?_ ?_<;>simp [pack,lo,loL,V.closed,closedL,mv_closed,zeroS,stpV,zeroD,zeroC,tasksV,vI,mv])
      | some t =>
        rw [hw] at htk
        have e3:mv taskV ts++[taskV t]=mv taskV (ts++[t]):=mv_app1
        simp (maxSteps:=1000000) (disch:=omega) only [rg,gD,simprocAttr,tkO,taskV,e2]
        refine app_gro (hG.keep (by simp only []; omega) (fun id h1 h2 => by simp (disch:=omega) only [upd_ne])) (by show 3≤n+1; omega) (ys:=[taskV t]) rfl (by simp) (by rw [mv_len]; have:=rest.length_tail; simp; omega) fun v' fp ds hG' hk1 _ => ?_
        rw [e3] at hG'
        have k0:=hk1 0 (by omega)
        have k1:=hk1 1 (by omega)
        have k2:=hk1 2 (by omega)
        simp (disch:=omega) only [upd_eq,upd_ne] at k0 k1 k2
        rw [e0] at k0
        rw [e2] at k2
        have hc:=hG'.cell
        simp only at hG'
        simp (maxSteps:=1000000) (disch:=omega) only [rg,gD,simprocAttr,k2,hc]
        refine hN _ _ i1 ?_
        exact ⟨v',ts++[t],by show 3≤n+1+1; omega,(by simp (disch:=omega) only [upd_eq,upd_ne,wo_0,wo_1,wo_2,k0]),(by simp (disch:=omega) only [upd_eq,upd_ne,wo_0,wo_1,wo_2,k1]),(by simp (disch:=omega) only [upd_eq,upd_ne,wo_0,wo_1,wo_2]),by exact hG'.keep (Nat.le_refl _) (fun id h1 h2 => by simp (disch:=omega) only [upd_ne]),by simp; omega,by rw [htk]; simp,rfl⟩
    · have hie:i=rest.tail.length:=by rw [vS_len',List.length_drop] at hlt; omega
      subst hie
      rw [List.drop_length] at htk
      simp only [takeT,List.append_nil] at htk
      have e:parseS text=(mkS ⟨1,[],[],0,0,[],⟨rest.headD [],ts⟩⟩,stpB (mkS ⟨1,[],[],0,0,[],⟨rest.headD [],ts⟩⟩)):=by rw [parseS,hsp,rawP,if_neg (show ¬ first=wCrash from c0),if_neg (show ¬ first=wCheck from c1),if_pos (show first=wGraph from c2),htk]; simp
      have hts:ts=(takeT taskP rest.tail).1:=by rw [htk]
      refine hX _ _ _ ?_
      simp (maxSteps:=1000000) (disch:=omega) only [rg,gD,simprocAttr]
      rw [e]
      have hl0:((vS (rest.tail.drop rest.tail.length)).length:Int)=0:=by rw [List.drop_length]; rfl
      obtain ⟨fz,st,f1,f2,f3⟩:=hG.frz (mv_closed taskV_closed)
      have d0:=frl_cl (fz:=fz) (ids:=[]) e0 (by simp [closedL,V.closed]) (fun h => by have:=f1 _ h; omega) (by simp)
      have d1:=frl_cl (fz:=fz) (ids:=[]) e1 (by simp [closedL,V.closed,vS_closed]) (fun h => by have:=f1 _ h; omega) (by simp)
      have d2:=frl_get (fz:=fz) (ids:=[]) e2 (fun h => by have:=f1 _ h; omega) (by simp)
      have k2:frzV fz m (.agg [.int .i64 1,.str [],.str [],.int .i64 0,.int .i64 0,.str [],.str (rest.headD []),v,.bool false,.bool false,.fsl .nil 1 []])=.agg [.int .i64 1,.str [],.str [],.int .i64 0,.int .i64 0,.str [],.str (rest.headD []),.fsl st 4 (mv taskV ts),.bool false,.bool false,.fsl .nil 1 []]:=frzV_mid (pre:=[.int .i64 1,.str [],.str [],.int .i64 0,.int .i64 0,.str [],.str (rest.headD [])]) (post:=[.bool false,.bool false,.fsl .nil 1 []]) f2 rfl rfl
      rw [List.map_cons,List.map_nil,k2] at d2
      refine x_frzL fz [] ?_
      simp only at d0 d1 d2 ⊢
      generalize loH [] (frzH fz m)=m' at d0 d1 d2
      simp (maxSteps:=1000000) (disch:=omega) only [rg,gD,simprocAttr]
      refine x_frz0 ?_
      simp (maxSteps:=1000000) (disch:=omega) only [rg,gD,simprocAttr,frz_p,d0,d1,d2,hl0]
      refine ⟨_,PCall.of_eq (p_step (mkS ⟨1,[],[],0,0,[],⟨rest.headD [],ts⟩⟩) (okC (by simp) (by simp) (by simp) (by omega) (by omega) ⟨by simp only; have:=rest.length_tail; omega,fun t ht => ?_⟩) (by simp [mkS])) (by simp [loL,lo,stpV,mkS,tasksV,mv_lo taskV_lo,show vI []=[] from rfl]), ?_⟩
      · simp only [hts] at ht
        refine takeT_ok (q:=fun t => t.needs.length≤1000000001∧(∀ x∈t.needs,x≤9223372036854775807)∧t.tries≤9223372036854775807∧t.wait≤9223372036854775807∧t.lease≤9223372036854775807) (fun w hw t ht => ?_) t ht
        obtain ⟨q1,q2⟩:=taskP_ok ht
        have:=tail_len hr w hw
        exact ⟨by omega,q2⟩
      simp (maxSteps:=1000000) (disch:=omega) only [rg,gD,simprocAttr,d0]
      (refine fin_x rfl ?_ ?_<;>simp [pack,lo,loL,V.closed,closedL,mv_closed,stpV,mkS,tasksV,mv_lo taskV_lo,mv_closed taskV_closed,show vI []=[] from rfl])
  · -- start
    rw [show parseS text=(mkS ⟨2,rest.headD [],rest.tail.headD [],0,0,[],zeroD⟩,decide ((rest.tail.tail:List Str)=[]) && stpB (mkS ⟨2,rest.headD [],rest.tail.headD [],0,0,[],zeroD⟩)) from by rw [parseS,hsp,rawP,if_neg (show ¬ first=wCrash from c0),if_neg (show ¬ first=wCheck from c1),if_neg (show ¬ first=wGraph from c2),if_pos (show first=wStart from c3)]]
    refine ⟨_,_,_,_,p_next _ 1 (rest) (by simp) (by simp (disch:=omega) only [upd_eq,upd_ne,slSt,if_true,List.take_length]), ?_⟩
    simp (maxSteps:=1000000) (disch:=omega) only [rg,gD,simprocAttr]
    refine ⟨_,_,_,_,p_next _ 1 (rest.tail) (by simp) (by simp (disch:=omega) only [upd_eq,upd_ne,slSt,if_true,List.take_length]), ?_⟩
    simp (maxSteps:=1000000) (disch:=omega) only [rg,gD,simprocAttr]
    refine x_frz0 ?_
    simp (maxSteps:=1000000) (disch:=omega) only [rg,gD,simprocAttr]
    refine x_frz0 ?_
    by_cases hlf:(rest.tail.tail:List Str)=[]
    · have hll:((vS (rest.tail.tail)).length:Int)=0:=by rw [hlf]; rfl
      simp (maxSteps:=1000000) (disch:=omega) only [rg,gD,simprocAttr,List.take_length,hll]
      refine ⟨_,PCall.of_eq (p_step (mkS ⟨2,rest.headD [],rest.tail.headD [],0,0,[],zeroD⟩) (okC (head_len hr) (head_len (tail_len hr)) (by simp) (by omega) (by omega) zeroD_ok) (by simp [mkS])) (by simp [loL,lo,stpV,mkS,zeroD,zeroC,tasksV,vI,mv]), ?_⟩
      simp (maxSteps:=1000000) (disch:=omega) only [rg,gD,simprocAttr]
      (refine fin_x rfl ?_ ?_<;>simp [pack,lo,loL,V.closed,closedL,mv_closed,hlf,stpV,mkS,zeroD,zeroC,tasksV,vI,mv])
    · have hll:¬ ((vS (rest.tail.tail)).length:Int)=0:=by rw [vS_len']; intro h; exact hlf (List.eq_nil_of_length_eq_zero (by omega))
      simp (maxSteps:=1000000) (disch:=omega) only [rg,gD,simprocAttr,List.take_length,hll]
      (refine fin_x rfl ?_ ?_<;>simp [pack,lo,loL,V.closed,closedL,mv_closed,hlf,stpV,mkS,zeroD,zeroC,tasksV,vI,mv])
  · -- poll
    rw [show parseS text=(mkS ⟨3,[],[],0,0,[],zeroD⟩,decide ((rest:List Str)=[]) && stpB (mkS ⟨3,[],[],0,0,[],zeroD⟩)) from by rw [parseS,hsp,rawP,if_neg (show ¬ first=wCrash from c0),if_neg (show ¬ first=wCheck from c1),if_neg (show ¬ first=wGraph from c2),if_neg (show ¬ first=wStart from c3),if_pos (show first=wPoll from c4)]]
    refine x_frz0 ?_
    simp (maxSteps:=1000000) (disch:=omega) only [rg,gD,simprocAttr]
    refine x_frz0 ?_
    by_cases hlf:(rest:List Str)=[]
    · have hll:((vS (rest)).length:Int)=0:=by rw [hlf]; rfl
      simp (maxSteps:=1000000) (disch:=omega) only [rg,gD,simprocAttr,List.take_length,hll]
      refine ⟨_,PCall.of_eq (p_step (mkS ⟨3,[],[],0,0,[],zeroD⟩) (okC (by simp) (by simp) (by simp) (by omega) (by omega) zeroD_ok) (by simp [mkS])) (by simp [loL,lo,stpV,mkS,zeroD,zeroC,tasksV,vI,mv]), ?_⟩
      simp (maxSteps:=1000000) (disch:=omega) only [rg,gD,simprocAttr]
      (refine fin_x rfl ?_ ?_<;>simp [pack,lo,loL,V.closed,closedL,mv_closed,hlf,stpV,mkS,zeroD,zeroC,tasksV,vI,mv])
    · have hll:¬ ((vS (rest)).length:Int)=0:=by rw [vS_len']; intro h; exact hlf (List.eq_nil_of_length_eq_zero (by omega))
      simp (maxSteps:=1000000) (disch:=omega) only [rg,gD,simprocAttr,List.take_length,hll]
      (refine fin_x rfl ?_ ?_<;>simp [pack,lo,loL,V.closed,closedL,mv_closed,hlf,stpV,mkS,zeroD,zeroC,tasksV,vI,mv])
  · -- wBeat
    rw [show parseS text=(mkS ⟨4,[],[],numS (rest.headD []),0,[],zeroD⟩,decide ((rest.tail:List Str)=[]) && stpB (mkS ⟨4,[],[],numS (rest.headD []),0,[],zeroD⟩)) from by rw [parseS,hsp,rawP,if_neg (show ¬ first=wCrash from c0),if_neg (show ¬ first=wCheck from c1),if_neg (show ¬ first=wGraph from c2),if_neg (show ¬ first=wStart from c3),if_neg (show ¬ first=wPoll from c4),if_pos (show first=wBeat from c5)]]
    refine ⟨_,_,_,_,p_next _ 1 (rest) (by simp) (by simp (disch:=omega) only [upd_eq,upd_ne,slSt,if_true,List.take_length]), ?_⟩
    simp (maxSteps:=1000000) (disch:=omega) only [rg,gD,simprocAttr]
    refine ⟨_,p_number _ (Nat.le_trans (head_len hr) (by omega)), ?_⟩
    simp (maxSteps:=1000000) (disch:=omega) only [rg,gD,simprocAttr]
    refine x_frz0 ?_
    simp (maxSteps:=1000000) (disch:=omega) only [rg,gD,simprocAttr]
    refine x_frz0 ?_
    by_cases hlf:(rest.tail:List Str)=[]
    · have hll:((vS (rest.tail)).length:Int)=0:=by rw [hlf]; rfl
      simp (maxSteps:=1000000) (disch:=omega) only [rg,gD,simprocAttr,List.take_length,hll]
      refine ⟨_,PCall.of_eq (p_step (mkS ⟨4,[],[],numS (rest.headD []),0,[],zeroD⟩) (okC (by simp) (by simp) (by simp) (numS_le _) (by omega) zeroD_ok) (by simp [mkS])) (by simp [loL,lo,stpV,mkS,zeroD,zeroC,tasksV,vI,mv]), ?_⟩
      simp (maxSteps:=1000000) (disch:=omega) only [rg,gD,simprocAttr]
      (refine fin_x rfl ?_ ?_<;>simp [pack,lo,loL,V.closed,closedL,mv_closed,hlf,stpV,mkS,zeroD,zeroC,tasksV,vI,mv])
    · have hll:¬ ((vS (rest.tail)).length:Int)=0:=by rw [vS_len']; intro h; exact hlf (List.eq_nil_of_length_eq_zero (by omega))
      simp (maxSteps:=1000000) (disch:=omega) only [rg,gD,simprocAttr,List.take_length,hll]
      (refine fin_x rfl ?_ ?_<;>simp [pack,lo,loL,V.closed,closedL,mv_closed,hlf,stpV,mkS,zeroD,zeroC,tasksV,vI,mv])
  · -- done
    refine ⟨_,_,_,_,p_next _ 1 rest (by simp) (by simp (disch:=omega) only [upd_eq,upd_ne,slSt,if_true,List.take_length]), ?_⟩
    simp (maxSteps:=1000000) (disch:=omega) only [rg,gD,simprocAttr]
    refine ⟨_,p_number _ (Nat.le_trans (head_len hr) (by omega)), ?_⟩
    simp (maxSteps:=1000000) (disch:=omega) only [rg,gD,simprocAttr]
    by_cases ht:rest.tail=[]
    · have hl0:((vS rest.tail).length:Int)=0:=by rw [ht]; rfl
      rw [show parseS text=(mkS ⟨5,[],[],numS (rest.headD []),0,[],zeroD⟩,decide (([]:List Str)=[]) && stpB (mkS ⟨5,[],[],numS (rest.headD []),0,[],zeroD⟩)) from by rw [parseS,hsp,rawP,if_neg (show ¬ first=wCrash from c0),if_neg (show ¬ first=wCheck from c1),if_neg (show ¬ first=wGraph from c2),if_neg (show ¬ first=wStart from c3),if_neg (show ¬ first=wPoll from c4),if_neg (show ¬ first=wBeat from c5),if_pos (show first=wDone from c6),if_pos ht]]
      simp (maxSteps:=1000000) (disch:=omega) only [rg,gD,simprocAttr,hl0,show ¬ (0:Int) < 0 by omega]
      refine x_frz0 ?_
      simp (maxSteps:=1000000) (disch:=omega) only [rg,gD,simprocAttr]
      refine x_frz0 ?_
      simp (maxSteps:=1000000) (disch:=omega) only [rg,gD,simprocAttr,List.take_length,hl0]
      refine ⟨_,PCall.of_eq (p_step (mkS ⟨5,[],[],numS (rest.headD []),0,[],zeroD⟩) (okC (by simp) (by simp) (by simp) (numS_le _) (by omega) zeroD_ok) (by simp [mkS])) (by simp [loL,lo,stpV,mkS,zeroD,zeroC,tasksV,vI,mv]), ?_⟩
      simp (maxSteps:=1000000) (disch:=omega) only [rg,gD,simprocAttr]
      (refine fin_x rfl ?_ ?_<;>simp [pack,lo,loL,V.closed,closedL,mv_closed,stpV,mkS,zeroD,zeroC,tasksV,vI,mv])
    · have hl0:(0:Int) < (vS rest.tail).length:=by rw [vS_len']; have:=List.length_pos_iff.2 ht; omega
      simp (maxSteps:=1000000) (disch:=omega) only [rg,gD,simprocAttr,hl0]
      refine ⟨_,_,_,_,p_next _ 1 rest.tail (by simp) (by simp (disch:=omega) only [upd_eq,upd_ne,slSt,if_true,List.take_length]), ?_⟩
      simp (maxSteps:=1000000) (disch:=omega) only [rg,gD,simprocAttr]
      by_cases hx:rest.tail.headD []=[]
      · rw [show parseS text=(zeroS,false) from by rw [parseS,hsp,rawP,if_neg (show ¬ first=wCrash from c0),if_neg (show ¬ first=wCheck from c1),if_neg (show ¬ first=wGraph from c2),if_neg (show ¬ first=wStart from c3),if_neg (show ¬ first=wPoll from c4),if_neg (show ¬ first=wBeat from c5),if_pos (show first=wDone from c6),if_neg ht,if_pos hx]]
        simp (maxSteps:=1000000) (disch:=omega) only [rg,gD,simprocAttr,hx]
        (refine fin_x rfl ?_ ?_<;>simp [pack,lo,loL,V.closed,closedL,mv_closed,zeroS,stpV,zeroD,zeroC,tasksV,vI,mv])
      · rw [show parseS text=(mkS ⟨5,[],[],numS (rest.headD []),0,rest.tail.headD [],zeroD⟩,decide ((rest.tail.tail:List Str)=[]) && stpB (mkS ⟨5,[],[],numS (rest.headD []),0,rest.tail.headD [],zeroD⟩)) from by rw [parseS,hsp,rawP,if_neg (show ¬ first=wCrash from c0),if_neg (show ¬ first=wCheck from c1),if_neg (show ¬ first=wGraph from c2),if_neg (show ¬ first=wStart from c3),if_neg (show ¬ first=wPoll from c4),if_neg (show ¬ first=wBeat from c5),if_pos (show first=wDone from c6),if_neg ht,if_neg hx]]
        simp (maxSteps:=1000000) (disch:=omega) only [rg,gD,simprocAttr,hx]
        refine x_frz0 ?_
        simp (maxSteps:=1000000) (disch:=omega) only [rg,gD,simprocAttr]
        refine x_frz0 ?_
        by_cases hlf:(rest.tail.tail:List Str)=[]
        · have hll:((vS (rest.tail.tail)).length:Int)=0:=by rw [hlf]; rfl
          simp (maxSteps:=1000000) (disch:=omega) only [rg,gD,simprocAttr,List.take_length,hll]
          refine ⟨_,PCall.of_eq (p_step (mkS ⟨5,[],[],numS (rest.headD []),0,rest.tail.headD [],zeroD⟩) (okC (by simp) (by simp) (head_len (tail_len hr)) (numS_le _) (by omega) zeroD_ok) (by simp [mkS])) (by simp [loL,lo,stpV,mkS,zeroD,zeroC,tasksV,vI,mv]), ?_⟩
          simp (maxSteps:=1000000) (disch:=omega) only [rg,gD,simprocAttr]
          (refine fin_x rfl ?_ ?_<;>simp [pack,lo,loL,V.closed,closedL,mv_closed,hlf,stpV,mkS,zeroD,zeroC,tasksV,vI,mv])
        · have hll:¬ ((vS (rest.tail.tail)).length:Int)=0:=by rw [vS_len']; intro h; exact hlf (List.eq_nil_of_length_eq_zero (by omega))
          simp (maxSteps:=1000000) (disch:=omega) only [rg,gD,simprocAttr,List.take_length,hll]
          (refine fin_x rfl ?_ ?_<;>simp [pack,lo,loL,V.closed,closedL,mv_closed,hlf,stpV,mkS,zeroD,zeroC,tasksV,vI,mv])
  · -- wFail
    rw [show parseS text=(mkS ⟨6,[],[],numS (rest.headD []),0,[],zeroD⟩,decide ((rest.tail:List Str)=[]) && stpB (mkS ⟨6,[],[],numS (rest.headD []),0,[],zeroD⟩)) from by rw [parseS,hsp,rawP,if_neg (show ¬ first=wCrash from c0),if_neg (show ¬ first=wCheck from c1),if_neg (show ¬ first=wGraph from c2),if_neg (show ¬ first=wStart from c3),if_neg (show ¬ first=wPoll from c4),if_neg (show ¬ first=wBeat from c5),if_neg (show ¬ first=wDone from c6),if_pos (show first=wFail from c7)]]
    refine ⟨_,_,_,_,p_next _ 1 (rest) (by simp) (by simp (disch:=omega) only [upd_eq,upd_ne,slSt,if_true,List.take_length]), ?_⟩
    simp (maxSteps:=1000000) (disch:=omega) only [rg,gD,simprocAttr]
    refine ⟨_,p_number _ (Nat.le_trans (head_len hr) (by omega)), ?_⟩
    simp (maxSteps:=1000000) (disch:=omega) only [rg,gD,simprocAttr]
    refine x_frz0 ?_
    simp (maxSteps:=1000000) (disch:=omega) only [rg,gD,simprocAttr]
    refine x_frz0 ?_
    by_cases hlf:(rest.tail:List Str)=[]
    · have hll:((vS (rest.tail)).length:Int)=0:=by rw [hlf]; rfl
      simp (maxSteps:=1000000) (disch:=omega) only [rg,gD,simprocAttr,List.take_length,hll]
      refine ⟨_,PCall.of_eq (p_step (mkS ⟨6,[],[],numS (rest.headD []),0,[],zeroD⟩) (okC (by simp) (by simp) (by simp) (numS_le _) (by omega) zeroD_ok) (by simp [mkS])) (by simp [loL,lo,stpV,mkS,zeroD,zeroC,tasksV,vI,mv]), ?_⟩
      simp (maxSteps:=1000000) (disch:=omega) only [rg,gD,simprocAttr]
      (refine fin_x rfl ?_ ?_<;>simp [pack,lo,loL,V.closed,closedL,mv_closed,hlf,stpV,mkS,zeroD,zeroC,tasksV,vI,mv])
    · have hll:¬ ((vS (rest.tail)).length:Int)=0:=by rw [vS_len']; intro h; exact hlf (List.eq_nil_of_length_eq_zero (by omega))
      simp (maxSteps:=1000000) (disch:=omega) only [rg,gD,simprocAttr,List.take_length,hll]
      (refine fin_x rfl ?_ ?_<;>simp [pack,lo,loL,V.closed,closedL,mv_closed,hlf,stpV,mkS,zeroD,zeroC,tasksV,vI,mv])
  · -- wCancel
    rw [show parseS text=(mkS ⟨7,rest.headD [],[],0,0,[],zeroD⟩,decide ((rest.tail:List Str)=[]) && stpB (mkS ⟨7,rest.headD [],[],0,0,[],zeroD⟩)) from by rw [parseS,hsp,rawP,if_neg (show ¬ first=wCrash from c0),if_neg (show ¬ first=wCheck from c1),if_neg (show ¬ first=wGraph from c2),if_neg (show ¬ first=wStart from c3),if_neg (show ¬ first=wPoll from c4),if_neg (show ¬ first=wBeat from c5),if_neg (show ¬ first=wDone from c6),if_neg (show ¬ first=wFail from c7),if_pos (show first=wCancel from c8)]]
    refine ⟨_,_,_,_,p_next _ 1 (rest) (by simp) (by simp (disch:=omega) only [upd_eq,upd_ne,slSt,if_true,List.take_length]), ?_⟩
    simp (maxSteps:=1000000) (disch:=omega) only [rg,gD,simprocAttr]
    refine x_frz0 ?_
    simp (maxSteps:=1000000) (disch:=omega) only [rg,gD,simprocAttr]
    refine x_frz0 ?_
    by_cases hlf:(rest.tail:List Str)=[]
    · have hll:((vS (rest.tail)).length:Int)=0:=by rw [hlf]; rfl
      simp (maxSteps:=1000000) (disch:=omega) only [rg,gD,simprocAttr,List.take_length,hll]
      refine ⟨_,PCall.of_eq (p_step (mkS ⟨7,rest.headD [],[],0,0,[],zeroD⟩) (okC (head_len hr) (by simp) (by simp) (by omega) (by omega) zeroD_ok) (by simp [mkS])) (by simp [loL,lo,stpV,mkS,zeroD,zeroC,tasksV,vI,mv]), ?_⟩
      simp (maxSteps:=1000000) (disch:=omega) only [rg,gD,simprocAttr]
      (refine fin_x rfl ?_ ?_<;>simp [pack,lo,loL,V.closed,closedL,mv_closed,hlf,stpV,mkS,zeroD,zeroC,tasksV,vI,mv])
    · have hll:¬ ((vS (rest.tail)).length:Int)=0:=by rw [vS_len']; intro h; exact hlf (List.eq_nil_of_length_eq_zero (by omega))
      simp (maxSteps:=1000000) (disch:=omega) only [rg,gD,simprocAttr,List.take_length,hll]
      (refine fin_x rfl ?_ ?_<;>simp [pack,lo,loL,V.closed,closedL,mv_closed,hlf,stpV,mkS,zeroD,zeroC,tasksV,vI,mv])
  · -- wTick
    rw [show parseS text=(mkS ⟨8,[],[],0,numS (rest.headD []),[],zeroD⟩,decide ((rest.tail:List Str)=[]) && stpB (mkS ⟨8,[],[],0,numS (rest.headD []),[],zeroD⟩)) from by rw [parseS,hsp,rawP,if_neg (show ¬ first=wCrash from c0),if_neg (show ¬ first=wCheck from c1),if_neg (show ¬ first=wGraph from c2),if_neg (show ¬ first=wStart from c3),if_neg (show ¬ first=wPoll from c4),if_neg (show ¬ first=wBeat from c5),if_neg (show ¬ first=wDone from c6),if_neg (show ¬ first=wFail from c7),if_neg (show ¬ first=wCancel from c8),if_pos (show first=wTick from c9)]]
    refine ⟨_,_,_,_,p_next _ 1 (rest) (by simp) (by simp (disch:=omega) only [upd_eq,upd_ne,slSt,if_true,List.take_length]), ?_⟩
    simp (maxSteps:=1000000) (disch:=omega) only [rg,gD,simprocAttr]
    refine ⟨_,p_number _ (Nat.le_trans (head_len hr) (by omega)), ?_⟩
    simp (maxSteps:=1000000) (disch:=omega) only [rg,gD,simprocAttr]
    refine x_frz0 ?_
    simp (maxSteps:=1000000) (disch:=omega) only [rg,gD,simprocAttr]
    refine x_frz0 ?_
    by_cases hlf:(rest.tail:List Str)=[]
    · have hll:((vS (rest.tail)).length:Int)=0:=by rw [hlf]; rfl
      simp (maxSteps:=1000000) (disch:=omega) only [rg,gD,simprocAttr,List.take_length,hll]
      refine ⟨_,PCall.of_eq (p_step (mkS ⟨8,[],[],0,numS (rest.headD []),[],zeroD⟩) (okC (by simp) (by simp) (by simp) (by omega) (numS_le _) zeroD_ok) (by simp [mkS])) (by simp [loL,lo,stpV,mkS,zeroD,zeroC,tasksV,vI,mv]), ?_⟩
      simp (maxSteps:=1000000) (disch:=omega) only [rg,gD,simprocAttr]
      (refine fin_x rfl ?_ ?_<;>simp [pack,lo,loL,V.closed,closedL,mv_closed,hlf,stpV,mkS,zeroD,zeroC,tasksV,vI,mv])
    · have hll:¬ ((vS (rest.tail)).length:Int)=0:=by rw [vS_len']; intro h; exact hlf (List.eq_nil_of_length_eq_zero (by omega))
      simp (maxSteps:=1000000) (disch:=omega) only [rg,gD,simprocAttr,List.take_length,hll]
      (refine fin_x rfl ?_ ?_<;>simp [pack,lo,loL,V.closed,closedL,mv_closed,hlf,stpV,mkS,zeroD,zeroC,tasksV,vI,mv])
  · -- wState
    rw [show parseS text=(mkS ⟨9,rest.headD [],[],0,0,[],zeroD⟩,decide ((rest.tail:List Str)=[]) && stpB (mkS ⟨9,rest.headD [],[],0,0,[],zeroD⟩)) from by rw [parseS,hsp,rawP,if_neg (show ¬ first=wCrash from c0),if_neg (show ¬ first=wCheck from c1),if_neg (show ¬ first=wGraph from c2),if_neg (show ¬ first=wStart from c3),if_neg (show ¬ first=wPoll from c4),if_neg (show ¬ first=wBeat from c5),if_neg (show ¬ first=wDone from c6),if_neg (show ¬ first=wFail from c7),if_neg (show ¬ first=wCancel from c8),if_neg (show ¬ first=wTick from c9),if_pos (show first=wState from c10)]]
    refine ⟨_,_,_,_,p_next _ 1 (rest) (by simp) (by simp (disch:=omega) only [upd_eq,upd_ne,slSt,if_true,List.take_length]), ?_⟩
    simp (maxSteps:=1000000) (disch:=omega) only [rg,gD,simprocAttr]
    refine x_frz0 ?_
    simp (maxSteps:=1000000) (disch:=omega) only [rg,gD,simprocAttr]
    refine x_frz0 ?_
    by_cases hlf:(rest.tail:List Str)=[]
    · have hll:((vS (rest.tail)).length:Int)=0:=by rw [hlf]; rfl
      simp (maxSteps:=1000000) (disch:=omega) only [rg,gD,simprocAttr,List.take_length,hll]
      refine ⟨_,PCall.of_eq (p_step (mkS ⟨9,rest.headD [],[],0,0,[],zeroD⟩) (okC (head_len hr) (by simp) (by simp) (by omega) (by omega) zeroD_ok) (by simp [mkS])) (by simp [loL,lo,stpV,mkS,zeroD,zeroC,tasksV,vI,mv]), ?_⟩
      simp (maxSteps:=1000000) (disch:=omega) only [rg,gD,simprocAttr]
      (refine fin_x rfl ?_ ?_<;>simp [pack,lo,loL,V.closed,closedL,mv_closed,hlf,stpV,mkS,zeroD,zeroC,tasksV,vI,mv])
    · have hll:¬ ((vS (rest.tail)).length:Int)=0:=by rw [vS_len']; intro h; exact hlf (List.eq_nil_of_length_eq_zero (by omega))
      simp (maxSteps:=1000000) (disch:=omega) only [rg,gD,simprocAttr,List.take_length,hll]
      (refine fin_x rfl ?_ ?_<;>simp [pack,lo,loL,V.closed,closedL,mv_closed,hlf,stpV,mkS,zeroD,zeroC,tasksV,vI,mv])
  · -- sync
    rw [show parseS text=(mkS ⟨10,[],[],0,0,[],zeroD⟩,decide ((rest:List Str)=[]) && stpB (mkS ⟨10,[],[],0,0,[],zeroD⟩)) from by rw [parseS,hsp,rawP,if_neg (show ¬ first=wCrash from c0),if_neg (show ¬ first=wCheck from c1),if_neg (show ¬ first=wGraph from c2),if_neg (show ¬ first=wStart from c3),if_neg (show ¬ first=wPoll from c4),if_neg (show ¬ first=wBeat from c5),if_neg (show ¬ first=wDone from c6),if_neg (show ¬ first=wFail from c7),if_neg (show ¬ first=wCancel from c8),if_neg (show ¬ first=wTick from c9),if_neg (show ¬ first=wState from c10),if_pos (show first=wSync from c11)]]
    refine x_frz0 ?_
    simp (maxSteps:=1000000) (disch:=omega) only [rg,gD,simprocAttr]
    refine x_frz0 ?_
    by_cases hlf:(rest:List Str)=[]
    · have hll:((vS (rest)).length:Int)=0:=by rw [hlf]; rfl
      simp (maxSteps:=1000000) (disch:=omega) only [rg,gD,simprocAttr,List.take_length,hll]
      refine ⟨_,PCall.of_eq (p_step (mkS ⟨10,[],[],0,0,[],zeroD⟩) (okC (by simp) (by simp) (by simp) (by omega) (by omega) zeroD_ok) (by simp [mkS])) (by simp [loL,lo,stpV,mkS,zeroD,zeroC,tasksV,vI,mv]), ?_⟩
      simp (maxSteps:=1000000) (disch:=omega) only [rg,gD,simprocAttr]
      (refine fin_x rfl ?_ ?_<;>simp [pack,lo,loL,V.closed,closedL,mv_closed,hlf,stpV,mkS,zeroD,zeroC,tasksV,vI,mv])
    · have hll:¬ ((vS (rest)).length:Int)=0:=by rw [vS_len']; intro h; exact hlf (List.eq_nil_of_length_eq_zero (by omega))
      simp (maxSteps:=1000000) (disch:=omega) only [rg,gD,simprocAttr,List.take_length,hll]
      (refine fin_x rfl ?_ ?_<;>simp [pack,lo,loL,V.closed,closedL,mv_closed,hlf,stpV,mkS,zeroD,zeroC,tasksV,vI,mv])
  · -- none
    rw [show parseS text=(zeroS,false) from by rw [parseS,hsp,rawP,if_neg (show ¬ first=wCrash from c0),if_neg (show ¬ first=wCheck from c1),if_neg (show ¬ first=wGraph from c2),if_neg (show ¬ first=wStart from c3),if_neg (show ¬ first=wPoll from c4),if_neg (show ¬ first=wBeat from c5),if_neg (show ¬ first=wDone from c6),if_neg (show ¬ first=wFail from c7),if_neg (show ¬ first=wCancel from c8),if_neg (show ¬ first=wTick from c9),if_neg (show ¬ first=wState from c10),if_neg (show ¬ first=wSync from c11)]]
    (refine fin_x rfl ?_ ?_<;>simp [pack,lo,loL,V.closed,closedL,mv_closed,zeroS,stpV,zeroD,zeroC,tasksV,vI,mv])
end
def okTk (t:Task):Prop:=(∀ x∈t.needs,i64 x)∧i64 t.tries∧i64 t.wait∧i64 t.lease
def okLn (s:Stp):Prop:=stpB s=true∧i64 s.cmd.token∧i64 s.cmd.time∧(∀ t∈s.cmd.dag.tasks,okTk t)∧∀ x∈s.masks,i64 x
theorem r_name (s:Str) (hs:s.length≤4611686018427387904):PCall Tryz.prog 57 [.str s] (.bool (nameB s)):=by
  refine en57 (by simp) (by simp [closedL,V.closed]) ?_
  simp (maxSteps:=1000000) (disch:=omega) only [rg,gD,simprocAttr,c57]
  refine x_it s.length (fun i σ H => (s.take i).all lowB=true∧σ=[(0,.str s),(3,.int .i64 i)]) ⟨rfl,rfl⟩ ?_
  rintro T i σ ⟨n,m⟩ hi ⟨ha,rfl⟩ hN hX hR
  simp (maxSteps:=1000000) (disch:=omega) only [rg,gD,simprocAttr]
  refine ⟨fun h => ?_,fun h => ?_⟩
  · have i1:i < s.length:=by omega
    have hget:s[i]?=some s[i]:=by simp [i1]
    have no:lowB s[i]=false→nameB s=false:=fun hb => by
      rw [nameB,Bool.and_eq_false_iff]; right
      rw [List.all_eq_false]; exact ⟨s[i],List.getElem_mem i1,by rw [hb]; simp⟩
    by_cases c1:((s[i].toNat:Nat):Int) < 97
    · simp (maxSteps:=1000000) (disch:=omega) only [rg,gD,simprocAttr,hget,c1]
      refine hR _ _ ?_
      simp (maxSteps:=1000000) (disch:=omega) only [rg,gD,simprocAttr]
      (refine fin_x rfl ?_ ?_<;>simp [pack,lo,loL,V.closed,closedL,mv_closed,no (by simp only [lowB,decide_eq_false_iff_not]; omega)])
    by_cases c2:(122:Int) < ((s[i].toNat:Nat):Int)
    · simp (maxSteps:=1000000) (disch:=omega) only [rg,gD,simprocAttr,hget,c1,c2]
      refine hR _ _ ?_
      simp (maxSteps:=1000000) (disch:=omega) only [rg,gD,simprocAttr]
      (refine fin_x rfl ?_ ?_<;>simp [pack,lo,loL,V.closed,closedL,mv_closed,no (by simp only [lowB,decide_eq_false_iff_not]; omega)])
    simp (maxSteps:=1000000) (disch:=omega) only [rg,gD,simprocAttr,hget,c1,c2]
    refine hN _ _ i1 ⟨?_,rfl⟩
    rw [List.take_succ_eq_append_getElem i1,List.all_append,ha]
    simp only [List.all_cons,List.all_nil,Bool.and_true,Bool.true_and,lowB,decide_eq_true_eq]; omega
  · obtain rfl:i=s.length:=by omega
    rw [List.take_length] at ha
    refine hX _ _ _ ?_
    simp (maxSteps:=1000000) (disch:=omega) only [rg,gD,simprocAttr]
    refine x_frz0 ?_
    by_cases d1:(1:Int)≤s.length
    · by_cases d2:(s.length:Int)≤16
      · simp (maxSteps:=1000000) (disch:=omega) only [rg,gD,simprocAttr,d1,d2]
        (refine fin_x rfl ?_ ?_<;>simp [pack,lo,loL,V.closed,closedL,mv_closed,nameB,ha,show 1≤s.length∧s.length≤16 by omega])
      · simp (maxSteps:=1000000) (disch:=omega) only [rg,gD,simprocAttr,d1,d2]
        (refine fin_x rfl ?_ ?_<;>simp [pack,lo,loL,V.closed,closedL,mv_closed,nameB,show ¬ (1≤s.length∧s.length≤16) by omega])
    · simp (maxSteps:=1000000) (disch:=omega) only [rg,gD,simprocAttr,d1]
      (refine fin_x rfl ?_ ?_<;>simp [pack,lo,loL,V.closed,closedL,mv_closed,nameB,show ¬ (1≤s.length∧s.length≤16) by omega])
theorem noneC_iff (c:Cmd):noneC c=decide (c=zeroC):=by
  obtain ⟨a,b,d,e,f,g,⟨n,l⟩⟩:=c
  simp only [noneC,zeroC,noDag,zeroD,decide_eq_decide,Cmd.mk.injEq,Dag.mk.injEq,List.length_eq_zero_iff]
theorem r_none (c:Cmd) (hc:fOkDagL c.dag):PCall Tryz.prog 39 [cmdV c] (.bool (noneC c)):=by
  refine en39 (by simp) (by simp [closedL,cmdV_closed]) ?_
  have k:=like_cmd c zeroC hc ⟨by simp [zeroC,zeroD],fun t ht => by simp [zeroC,zeroD] at ht⟩
  rw [← noneC_iff] at k
  unfold cmdV tasksV at k
  simp (maxSteps:=1000000) (disch:=omega) only [rg,gD,simprocAttr,c39,cmdV,tasksV]
  refine ⟨_,PCall.of_eq k (by simp only [loL,lo,mv_lo taskV_lo]; rfl), ?_⟩
  simp (maxSteps:=1000000) (disch:=omega) only [rg,gD,simprocAttr]
  (refine fin_x rfl ?_ ?_<;>simp [pack,lo,loL,V.closed,closedL,mv_closed])
theorem r_command (c:Cmd) (hc:okCmd c):PCall Tryz.prog 40 [cmdV c] (.bool (lineCmd c)):=by
  refine en40 (by simp) (by simp [closedL,cmdV_closed]) ?_
  have kp:=ref23_put c hc
  unfold cmdV tasksV at kp
  by_cases hP:cmdP c
  case neg =>
    have e:cmdPutS c=([],1):=by rw [cmdPutS,if_neg hP]
    have el:lineCmd c=false:=by rw [lineCmd,decide_eq_false hP]; rfl
    rw [e] at kp
    simp (maxSteps:=1000000) (disch:=omega) only [rg,gD,simprocAttr,c40,cmdV,tasksV]
    refine ⟨_,kp, ?_⟩
    simp (maxSteps:=1000000) (disch:=omega) only [rg,gD,simprocAttr,sV]
    (refine fin_x rfl ?_ ?_<;>simp [pack,lo,loL,V.closed,closedL,mv_closed,el])
  have e:cmdPutS c=(sealS (cmdB c),0):=by rw [cmdPutS,if_pos hP]
  rw [e] at kp
  by_cases t1:(1099511627776:Int) < c.token
  · have el:lineCmd c=false:=by rw [lineCmd,timeOk,decide_eq_true hP,decide_eq_false (by omega)]; rfl
    simp (maxSteps:=1000000) (disch:=omega) only [rg,gD,simprocAttr,c40,cmdV,tasksV]
    refine ⟨_,kp, ?_⟩
    simp (maxSteps:=1000000) (disch:=omega) only [rg,gD,simprocAttr,sV,t1]
    (refine fin_x rfl ?_ ?_<;>simp [pack,lo,loL,V.closed,closedL,mv_closed,el])
  by_cases t2:(1099511627776:Int) < c.time
  · have el:lineCmd c=false:=by rw [lineCmd,timeOk,decide_eq_true hP,decide_eq_false (by omega)]; rfl
    simp (maxSteps:=1000000) (disch:=omega) only [rg,gD,simprocAttr,c40,cmdV,tasksV]
    refine ⟨_,kp, ?_⟩
    simp (maxSteps:=1000000) (disch:=omega) only [rg,gD,simprocAttr,sV,t1,t2]
    (refine fin_x rfl ?_ ?_<;>simp [pack,lo,loL,V.closed,closedL,mv_closed,el])
  have el:lineCmd c=wordsOk c:=by rw [lineCmd,timeOk,decide_eq_true hP,decide_eq_true (by omega)]; rfl
  simp (maxSteps:=1000000) (disch:=omega) only [rg,gD,simprocAttr,c40,cmdV,tasksV]
  refine ⟨_,kp, ?_⟩
  simp (maxSteps:=1000000) (disch:=omega) only [rg,gD,simprocAttr,sV,t1,t2]
  by_cases k1:c.kind=1
  · have e2:lineCmd c=nameB c.dag.name:=by rw [el,wordsOk,if_pos k1]
    have hd:=right_fit (hP.2.2.2.2 k1)
    simp (maxSteps:=1000000) (disch:=omega) only [rg,gD,simprocAttr,k1]
    refine ⟨_,r_name _ (by omega), ?_⟩
    simp (maxSteps:=1000000) (disch:=omega) only [rg,gD,simprocAttr]
    (refine fin_x rfl ?_ ?_<;>simp [pack,lo,loL,V.closed,closedL,mv_closed,e2])
  by_cases k2:c.kind=2
  · have e2:lineCmd c=(nameB c.key && nameB c.name):=by rw [el,wordsOk,if_neg k1,if_pos k2]
    simp (maxSteps:=1000000) (disch:=omega) only [rg,gD,simprocAttr,k1,k2]
    refine ⟨_,r_name _ (by have:=hP.2.2.2.1; unfold fitP at this; omega), ?_⟩
    cases hn:nameB c.key with
    | false =>
      rw [hn,Bool.false_and] at e2
      simp (maxSteps:=1000000) (disch:=omega) only [rg,gD,simprocAttr]
      (refine fin_x rfl ?_ ?_<;>simp [pack,lo,loL,V.closed,closedL,mv_closed,e2])
    | true =>
      rw [hn,Bool.true_and] at e2
      simp (maxSteps:=1000000) (disch:=omega) only [rg,gD,simprocAttr]
      refine ⟨_,r_name _ (by have:=hP.2.2.2.1; unfold fitP at this; omega), ?_⟩
      simp (maxSteps:=1000000) (disch:=omega) only [rg,gD,simprocAttr]
      (refine fin_x rfl ?_ ?_<;>simp [pack,lo,loL,V.closed,closedL,mv_closed,e2])
  by_cases k5:c.kind=5
  · by_cases x:c.text=[]
    · have e2:lineCmd c=true:=by rw [el,wordsOk,if_neg k1,if_neg k2,if_pos k5,decide_eq_true x]; rfl
      simp (maxSteps:=1000000) (disch:=omega) only [rg,gD,simprocAttr,k1,k2,k5,x]
      (refine fin_x rfl ?_ ?_<;>simp [pack,lo,loL,V.closed,closedL,mv_closed,e2])
    · have e2:lineCmd c=nameB c.text:=by rw [el,wordsOk,if_neg k1,if_neg k2,if_pos k5,decide_eq_false x]; rfl
      simp (maxSteps:=1000000) (disch:=omega) only [rg,gD,simprocAttr,k1,k2,k5,x]
      refine ⟨_,r_name _ (by have:=hP.2.2.2.1; unfold fitP at this; omega), ?_⟩
      simp (maxSteps:=1000000) (disch:=omega) only [rg,gD,simprocAttr]
      (refine fin_x rfl ?_ ?_<;>simp [pack,lo,loL,V.closed,closedL,mv_closed,e2])
  by_cases k7:c.kind=7
  · have e2:lineCmd c=nameB c.key:=by rw [el,wordsOk,if_neg k1,if_neg k2,if_neg k5,if_pos (.inl k7)]
    simp (maxSteps:=1000000) (disch:=omega) only [rg,gD,simprocAttr,k1,k2,k5,k7]
    refine ⟨_,r_name _ (by have:=hP.2.2.2.1; unfold fitP at this; omega), ?_⟩
    simp (maxSteps:=1000000) (disch:=omega) only [rg,gD,simprocAttr]
    (refine fin_x rfl ?_ ?_<;>simp [pack,lo,loL,V.closed,closedL,mv_closed,e2])
  by_cases k9:c.kind=9
  · have e2:lineCmd c=nameB c.key:=by rw [el,wordsOk,if_neg k1,if_neg k2,if_neg k5,if_pos (.inr k9)]
    simp (maxSteps:=1000000) (disch:=omega) only [rg,gD,simprocAttr,k1,k2,k5,k7,k9]
    refine ⟨_,r_name _ (by have:=hP.2.2.2.1; unfold fitP at this; omega), ?_⟩
    simp (maxSteps:=1000000) (disch:=omega) only [rg,gD,simprocAttr]
    (refine fin_x rfl ?_ ?_<;>simp [pack,lo,loL,V.closed,closedL,mv_closed,e2])
  have e2:lineCmd c=true:=by rw [el,wordsOk,if_neg k1,if_neg k2,if_neg k5,if_neg (by omega)]
  simp (maxSteps:=1000000) (disch:=omega) only [rg,gD,simprocAttr,k1,k2,k5,k7,k9]
  (refine fin_x rfl ?_ ?_<;>simp [pack,lo,loL,V.closed,closedL,mv_closed,e2])
theorem r_step (s:Stp) (h:okStp s):PCall Tryz.prog 21 [stpV s] (.bool (stpB s)):=by
  refine en21 (by simp) (by simp [closedL,stpV_closed]) ?_
  obtain ⟨c,chk,cr,ms⟩:=s
  obtain ⟨hc,hm⟩:=h
  simp only at hc hm
  have kn:=r_none c ⟨hc.2.2.2.1,hc.2.2.2.2.1⟩
  have kc:=r_command c hc
  unfold cmdV tasksV at kn kc
  simp (maxSteps:=1000000) (disch:=omega) only [rg,gD,simprocAttr,c21,stpV,tasksV,vI_len]
  refine x_it ms.length (fun i σ H => 1≤H.n∧H.m 0=some (.arr 11 [.agg [.int .i64 c.kind,.str c.key,.str c.name,.int .i64 c.token,.int .i64 c.time,.str c.text,.str c.dag.name,.fsl .loose 4 (mv taskV c.dag.tasks),.bool chk,.bool cr,.fsl .loose 1 (vI ms)]])∧((ms.take i).all maskB=true∧(0 < i→cr=true))∧σ=[(1,.ptr 0 0 0),(6,.fsl .loose 1 (vI ms)),(7,.int .i64 ms.length),(8,.int .i64 i)]) ⟨by simp,(by simp (disch:=omega) only [upd_eq,upd_ne,wo_0,wo_1,wo_2]),⟨rfl,by omega⟩,rfl⟩ ?_
  rintro T i σ ⟨n,m⟩ hi ⟨hn1,e0,⟨ha,hcr⟩,rfl⟩ hN hX hR
  simp only at hn1 e0
  simp (maxSteps:=1000000) (disch:=omega) only [rg,gD,simprocAttr]
  refine ⟨fun hlt => ?_,fun hlt => ?_⟩
  · have i1:i < ms.length:=by omega
    have no:maskB ms[i]=false→stpB ⟨c,chk,cr,ms⟩=false:=fun hb => by
      have hal:ms.all maskB=false:=by rw [List.all_eq_false]; exact ⟨ms[i],List.getElem_mem i1,by rw [hb]; simp⟩
      have hl0:¬ ms.length=0:=by omega
      cases cr<;>cases chk<;>simp [stpB,hal,hl0]
    by_cases c1:ms[i] < 0
    · simp (maxSteps:=1000000) (disch:=omega) only [rg,gD,simprocAttr,vI_get,c1]
      refine hR _ _ ?_
      simp (maxSteps:=1000000) (disch:=omega) only [rg,gD,simprocAttr]
      (refine fin_x rfl ?_ ?_<;>simp [pack,lo,loL,V.closed,closedL,mv_closed,no (by simp only [maskB,decide_eq_false_iff_not]; omega)])
    by_cases c2:(255:Int) < ms[i]
    · simp (maxSteps:=1000000) (disch:=omega) only [rg,gD,simprocAttr,vI_get,c1,c2]
      refine hR _ _ ?_
      simp (maxSteps:=1000000) (disch:=omega) only [rg,gD,simprocAttr]
      (refine fin_x rfl ?_ ?_<;>simp [pack,lo,loL,V.closed,closedL,mv_closed,no (by simp only [maskB,decide_eq_false_iff_not]; omega)])
    cases cr with
    | false =>
      have e:stpB ⟨c,chk,false,ms⟩=false:=by
        have hl0:¬ ms.length=0:=by omega
        cases chk<;>simp [stpB,hl0]
      simp (maxSteps:=1000000) (disch:=omega) only [rg,gD,simprocAttr,vI_get,c1,c2,e0]
      refine hR _ _ ?_
      simp (maxSteps:=1000000) (disch:=omega) only [rg,gD,simprocAttr]
      (refine fin_x rfl ?_ ?_<;>simp [pack,lo,loL,V.closed,closedL,mv_closed,e])
    | true =>
      simp (maxSteps:=1000000) (disch:=omega) only [rg,gD,simprocAttr,vI_get,c1,c2,e0]
      refine hN _ _ i1 ⟨hn1,(by simp (disch:=omega) only [upd_eq,upd_ne,wo_0,wo_1,wo_2,e0]),⟨?_,fun _ => rfl⟩,rfl⟩
      rw [List.take_succ_eq_append_getElem i1,List.all_append,ha]
      simp only [List.all_cons,List.all_nil,Bool.and_true,Bool.true_and,maskB,decide_eq_true_eq]; omega
  · obtain rfl:i=ms.length:=by omega
    rw [List.take_length] at ha
    refine hX _ _ _ ?_
    simp (maxSteps:=1000000) (disch:=omega) only [rg,gD,simprocAttr]
    refine x_frz0 ?_
    cases cr with
    | true =>
      cases chk with
      | true =>
        simp (maxSteps:=1000000) (disch:=omega) only [rg,gD,simprocAttr,e0]
        (refine fin_x rfl ?_ ?_<;>simp [pack,lo,loL,V.closed,closedL,mv_closed,stpB])
      | false =>
        simp (maxSteps:=1000000) (disch:=omega) only [rg,gD,simprocAttr,e0]
        refine ⟨_,kn, ?_⟩
        cases hq:noneC c with
        | false =>
          simp (maxSteps:=1000000) (disch:=omega) only [rg,gD,simprocAttr,e0]
          (refine fin_x rfl ?_ ?_<;>simp [pack,lo,loL,V.closed,closedL,mv_closed,stpB,hq])
        | true =>
          by_cases h64:(ms.length:Int)≤64
          · simp (maxSteps:=1000000) (disch:=omega) only [rg,gD,simprocAttr,e0,vI_len,h64]
            (refine fin_x rfl ?_ ?_<;>simp [pack,lo,loL,V.closed,closedL,mv_closed,stpB,hq,ha,show ms.length≤64 by omega])
          · simp (maxSteps:=1000000) (disch:=omega) only [rg,gD,simprocAttr,e0,vI_len,h64]
            (refine fin_x rfl ?_ ?_<;>simp [pack,lo,loL,V.closed,closedL,mv_closed,stpB,hq,ha,show ¬ ms.length≤64 by omega])
    | false =>
      have hl0:ms.length=0:=by
        rcases Nat.eq_zero_or_pos ms.length with h | h
        · exact h
        · exact absurd (hcr h) (by simp)
      cases chk with
      | true =>
        simp (maxSteps:=1000000) (disch:=omega) only [rg,gD,simprocAttr,e0]
        refine ⟨_,kn, ?_⟩
        simp (maxSteps:=1000000) (disch:=omega) only [rg,gD,simprocAttr]
        (refine fin_x rfl ?_ ?_<;>simp [pack,lo,loL,V.closed,closedL,mv_closed,stpB,hl0])
      | false =>
        simp (maxSteps:=1000000) (disch:=omega) only [rg,gD,simprocAttr,e0]
        refine ⟨_,kc, ?_⟩
        simp (maxSteps:=1000000) (disch:=omega) only [rg,gD,simprocAttr]
        (refine fin_x rfl ?_ ?_<;>simp [pack,lo,loL,V.closed,closedL,mv_closed,stpB,hl0])
theorem r_right (p:Pln) (h:∀ s∈p.steps,okStp s) (hl:p.steps.length≤4611686018427387904):PCall Tryz.prog 19 [plnV p] (.bool (planB p)):=by
  refine en19 (by simp) (by simp [closedL,plnV_closed]) ?_
  simp (maxSteps:=1000000) (disch:=omega) only [rg,gD,simprocAttr,c19,plnV,mv_len]
  refine x_it p.steps.length (fun i σ H => 1≤H.n∧H.m 0=some (.arr 2 [.agg [.int .i64 p.size,.fsl .loose 11 (mv stpV p.steps)]])∧(p.steps.take i).all stpB=true∧σ=[(1,.ptr 0 0 0),(6,.fsl .loose 11 (mv stpV p.steps)),(7,.int .i64 p.steps.length),(8,.int .i64 i)]) ⟨by simp,(by simp (disch:=omega) only [upd_eq,upd_ne,wo_0,wo_1,wo_2]),rfl,rfl⟩ ?_
  rintro T i σ ⟨n,m⟩ hi ⟨hn1,e0,ha,rfl⟩ hN hX hR
  simp only at hn1 e0
  simp (maxSteps:=1000000) (disch:=omega) only [rg,gD,simprocAttr]
  refine ⟨fun hlt => ?_,fun hlt => ?_⟩
  · have i1:i < p.steps.length:=by omega
    have k:=r_step p.steps[i] (h _ (List.getElem_mem i1))
    have hne:(0:Nat)≠n:=by omega
    have no:stpB p.steps[i]=false→planB p=false:=fun hb => by
      have hal:p.steps.all stpB=false:=by rw [List.all_eq_false]; exact ⟨p.steps[i],List.getElem_mem i1,by rw [hb]; simp⟩
      simp [planB,hal]
    simp (maxSteps:=1000000) (disch:=omega) only [rg,gD,simprocAttr,mv_get,stpV,tasksV]
    refine ⟨_,k, ?_⟩
    cases hq:stpB p.steps[i] with
    | false =>
      simp (maxSteps:=1000000) (disch:=omega) only [rg,gD,simprocAttr]
      refine hR _ _ ?_
      simp (maxSteps:=1000000) (disch:=omega) only [rg,gD,simprocAttr]
      (refine fin_x rfl ?_ ?_<;>simp [pack,lo,loL,V.closed,closedL,mv_closed,no hq])
    | true =>
      simp (maxSteps:=1000000) (disch:=omega) only [rg,gD,simprocAttr]
      refine hN _ _ i1 ⟨by simp only []; omega,(by simp (disch:=omega) only [upd_eq,upd_ne,wo_0,wo_1,wo_2,e0]), ?_,rfl⟩
      rw [List.take_succ_eq_append_getElem i1,List.all_append,ha]
      simp [hq]
  · obtain rfl:i=p.steps.length:=by omega
    rw [List.take_length] at ha
    refine hX _ _ _ ?_
    simp (maxSteps:=1000000) (disch:=omega) only [rg,gD,simprocAttr]
    refine x_frz0 ?_
    by_cases a:(24:Int)≤p.size
    case neg =>
      simp (maxSteps:=1000000) (disch:=omega) only [rg,gD,simprocAttr,e0,a]
      (refine fin_x rfl ?_ ?_<;>simp [pack,lo,loL,V.closed,closedL,mv_closed,planB,show ¬ (24≤p.size∧p.size≤200) by omega])
    by_cases b:p.size≤(200:Int)
    case neg =>
      simp (maxSteps:=1000000) (disch:=omega) only [rg,gD,simprocAttr,e0,a,b]
      (refine fin_x rfl ?_ ?_<;>simp [pack,lo,loL,V.closed,closedL,mv_closed,planB,show ¬ (24≤p.size∧p.size≤200) by omega])
    by_cases d:(p.steps.length:Int)≤200
    · simp (maxSteps:=1000000) (disch:=omega) only [rg,gD,simprocAttr,e0,a,b,mv_len,d]
      (refine fin_x rfl ?_ ?_<;>simp [pack,lo,loL,V.closed,closedL,mv_closed,planB,ha,show (24≤p.size∧p.size≤200) by omega,show p.steps.length≤200 by omega])
    · simp (maxSteps:=1000000) (disch:=omega) only [rg,gD,simprocAttr,e0,a,b,mv_len,d]
      (refine fin_x rfl ?_ ?_<;>simp [pack,lo,loL,V.closed,closedL,mv_closed,planB,show ¬ p.steps.length≤200 by omega])
section
theorem tail_snoc (sep:Str) (l:List Str) (w:Str):Lib.joinTail sep (l++[w])=Lib.joinTail sep l++sep++w:=by simp [Lib.joinTail]
theorem tail_nil (sep:Str):Lib.joinTail sep []=[]:=rfl
def tkH (t:Task):Str:=((((Lib.itoa t.tries++[44])++Lib.itoa t.wait)++[44])++Lib.itoa t.lease)
theorem taskW_eq (t:Task):taskW t=tkH t++Lib.joinTail [44] (numW t.needs):=by
  simp [taskW,tkH,numW,Lib.join_cons,Lib.joinTail]
def grT (d:Dag) (i:Nat):Str:=((wGraph++[32])++d.name)++Lib.joinTail [32] ((d.tasks.take i).map taskW)
theorem r_graph (d:Dag) (hn:d.name.length≤16) (ht:d.tasks.length≤10) (htk:∀ t∈d.tasks,okTk t∧t.needs.length≤10):PCall Tryz.prog 41 [dagV d] (.str (Lib.join ([wGraph,d.name]++d.tasks.map taskW) [32])):=by
  refine en41 (by simp) (by simp [closedL,dagV_closed]) ?_
  simp (maxSteps:=1000000) (disch:=omega) only [rg,gD,simprocAttr,c41,dagV,tasksV,mv_len]
  refine ⟨by first | omega | (simp; omega), ?_⟩
  refine x_it d.tasks.length (fun i σ H => ∃ v,v=grT d i∧v.length≤100+1000*i∧σ=[(3,.str v),(12,.fsl .loose 4 (mv taskV d.tasks)),(13,.int .i64 d.tasks.length),(14,.int .i64 i)]) ⟨_,rfl,by simp [grT,wGraph,tail_nil]; omega,by simp [grT,wGraph,tail_nil]⟩ ?_
  rintro T i σ ⟨n,m⟩ hi ⟨v,hv,hvl,rfl⟩ hN hX hR
  simp (maxSteps:=1000000) (disch:=omega) only [rg,gD,simprocAttr]
  refine ⟨fun hlt => ?_,fun hlt => ?_⟩
  · have i1:i < d.tasks.length:=by omega
    obtain ⟨hk,hnl⟩:=htk d.tasks[i] (List.getElem_mem i1)
    have hvs:grT d (i+1)=grT d i++[32]++taskW d.tasks[i]:=by
      rw [grT,grT,List.take_succ_eq_append_getElem i1,List.map_append,List.map_cons,List.map_nil,tail_snoc]; simp only [List.append_assoc]
    simp (maxSteps:=1000000) (disch:=omega) only [rg,gD,simprocAttr,mv_get,taskV]
    generalize d.tasks[i]=t at hk hnl hvs
    have b1:=itoa_len hk.2.1
    have b2:=itoa_len hk.2.2.1
    have b3:=itoa_len hk.2.2.2
    refine ⟨by omega,_,p_itoa _ hk.2.1, ?_⟩
    simp (maxSteps:=1000000) (disch:=omega) only [rg,gD,simprocAttr]
    refine ⟨by first | omega | (simp; omega),by first | omega | (simp; omega),_,p_itoa _ hk.2.2.1, ?_⟩
    simp (maxSteps:=1000000) (disch:=omega) only [rg,gD,simprocAttr]
    refine ⟨by first | omega | (simp; omega),by first | omega | (simp; omega),_,p_itoa _ hk.2.2.2, ?_⟩
    simp (maxSteps:=1000000) (disch:=omega) only [rg,gD,simprocAttr]
    refine ⟨by first | omega | (simp; omega), ?_⟩
    rw [vI_len]
    have hv1:(v++[32]++Lib.itoa t.tries++[44]++Lib.itoa t.wait++[44]++Lib.itoa t.lease)=(v++[32])++tkH t:=by simp only [tkH,List.append_assoc]
    rw [hv1]
    have hvl1:((v++[32])++tkH t).length≤170+1000*i:=by simp [tkH]; omega
    generalize hu0:(v++[32])++tkH t=u0 at hvl1
    refine x_it t.needs.length (fun j σ H => ∃ u,u=u0++Lib.joinTail [44] (numW (t.needs.take j))∧u.length≤170+1000*i+21*j∧σ=[(3,.str u),(12,.fsl .loose 4 (mv taskV d.tasks)),(13,.int .i64 d.tasks.length),(14,.int .i64 i),(35,.fsl .loose 1 (vI t.needs)),(36,.int .i64 t.needs.length),(37,.int .i64 j)]) ⟨_,by simp [numW,tail_nil],by omega,rfl⟩ ?_
    rintro T2 j σ ⟨n2,m2⟩ hj ⟨u,hu,hul,rfl⟩ hN2 hX2 hR2
    simp (maxSteps:=1000000) (disch:=omega) only [rg,gD,simprocAttr]
    refine ⟨fun hlt2 => ?_,fun hlt2 => ?_⟩
    · have j1:j < t.needs.length:=by omega
      have hx:=hk.1 t.needs[j] (List.getElem_mem j1)
      have b4:=itoa_len hx
      have hus:u0++Lib.joinTail [44] (numW (t.needs.take (j+1)))=u++[44]++Lib.itoa t.needs[j]:=by
        rw [hu,List.take_succ_eq_append_getElem j1,numW,List.map_append,List.map_cons,List.map_nil,tail_snoc,numW]; simp only [List.append_assoc]
      simp (maxSteps:=1000000) (disch:=omega) only [rg,gD,simprocAttr,vI_get]
      refine ⟨by omega,_,p_itoa _ hx, ?_⟩
      simp (maxSteps:=1000000) (disch:=omega) only [rg,gD,simprocAttr]
      refine ⟨by first | omega | (simp; omega), ?_⟩
      exact hN2 _ _ j1 ⟨_,hus.symm,by simp; omega,rfl⟩
    · obtain rfl:j=t.needs.length:=by omega
      refine hX2 _ _ _ ?_
      simp (maxSteps:=1000000) (disch:=omega) only [rg,gD,simprocAttr]
      refine x_frz0 ?_
      simp (maxSteps:=1000000) (disch:=omega) only [rg,gD,simprocAttr]
      refine hN _ _ i1 ⟨u, ?_,by omega,rfl⟩
      rw [hvs,taskW_eq,← hv,hu,List.take_length,← hu0]; simp only [List.append_assoc]
  · obtain rfl:i=d.tasks.length:=by omega
    refine hX _ _ _ ?_
    simp (maxSteps:=1000000) (disch:=omega) only [rg,gD,simprocAttr]
    refine x_frz0 ?_
    have e:v=Lib.join ([wGraph,d.name]++d.tasks.map taskW) [32]:=by
      rw [hv,grT,List.take_length]; simp [Lib.join_cons,Lib.joinTail]
    rw [e]
    simp (maxSteps:=1000000) (disch:=omega) only [rg,gD,simprocAttr]
    (refine fin_x rfl ?_ ?_<;>simp [pack,lo,loL,V.closed,closedL,mv_closed])
/-! Words. -/
set_option maxHeartbeats 1000000 in
theorem r_words (s:Stp) (h:okLn s):PCall Tryz.prog 22 [stpV s] (.str (Lib.join (wordsS s) [32])):=by
  refine en22 (by simp) (by simp [closedL,stpV_closed]) ?_
  obtain ⟨hb,hi1,hi2,hts,hms⟩:=h
  obtain ⟨c,chk,cr,ms⟩:=s
  simp only at hi1 hi2 hts hms
  have a20:=itoa_len hi1
  have b20:=itoa_len hi2
  simp (maxSteps:=1000000) (disch:=omega) only [rg,gD,simprocAttr,c22,stpV,tasksV]
  refine ⟨_,p_itoa _ hi1, ?_⟩
  simp (maxSteps:=1000000) (disch:=omega) only [rg,gD,simprocAttr]
  cases cr with
  | true =>
    have h64:ms.length≤64:=by simp [stpB] at hb; exact hb.1.2
    simp (maxSteps:=1000000) (disch:=omega) only [rg,gD,simprocAttr,vI_len]
    refine x_it ms.length (fun i σ H => ∃ v,v=wCrash++Lib.joinTail [32] (numW (ms.take i))∧v.length≤5+21*i∧σ=[(5,.str v),(16,.fsl .loose 1 (vI ms)),(17,.int .i64 ms.length),(18,.int .i64 i)]) ⟨_,by simp [numW,tail_nil,wCrash],by simp,rfl⟩ ?_
    rintro T i σ ⟨n,m⟩ hi ⟨v,hv,hvl,rfl⟩ hN hX hR
    simp (maxSteps:=1000000) (disch:=omega) only [rg,gD,simprocAttr]
    refine ⟨fun hlt => ?_,fun hlt => ?_⟩
    · have i1:i < ms.length:=by omega
      have hx:=hms ms[i] (List.getElem_mem i1)
      have b4:=itoa_len hx
      have hus:wCrash++Lib.joinTail [32] (numW (ms.take (i+1)))=v++[32]++Lib.itoa ms[i]:=by
        rw [hv,List.take_succ_eq_append_getElem i1,numW,List.map_append,List.map_cons,List.map_nil,tail_snoc,numW]; simp only [List.append_assoc]
      simp (maxSteps:=1000000) (disch:=omega) only [rg,gD,simprocAttr,vI_get]
      refine ⟨by omega,_,p_itoa _ hx, ?_⟩
      simp (maxSteps:=1000000) (disch:=omega) only [rg,gD,simprocAttr]
      refine ⟨by first | omega | (simp; omega), ?_⟩
      exact hN _ _ i1 ⟨_,hus.symm,by simp; omega,rfl⟩
    · obtain rfl:i=ms.length:=by omega
      refine hX _ _ _ ?_
      simp (maxSteps:=1000000) (disch:=omega) only [rg,gD,simprocAttr]
      refine x_frz0 ?_
      have e:Lib.join (wordsS ⟨c,chk,true,ms⟩) [32]=v:=by
        rw [hv,List.take_length]; simp [wordsS,Lib.join_cons]
      simp (maxSteps:=1000000) (disch:=omega) only [rg,gD,simprocAttr]
      (refine fin_x rfl ?_ ?_<;>simp [pack,lo,loL,V.closed,closedL,mv_closed,e])
  | false =>
  simp (maxSteps:=1000000) (disch:=omega) only [rg,gD,simprocAttr]
  refine x_frz0 ?_
  cases chk with
  | true =>
    have e:Lib.join (wordsS ⟨c,true,false,ms⟩) [32]=[99,104,101,99,107]:=by simp [wordsS,Lib.join_one,wCheck]
    simp (maxSteps:=1000000) (disch:=omega) only [rg,gD,simprocAttr]
    (refine fin_x rfl ?_ ?_<;>simp [pack,lo,loL,V.closed,closedL,mv_closed,e])
  | false =>
  have hcm:lineCmd c=true:=by simp [stpB] at hb; exact hb.1
  have hP:cmdP c:=by simp [lineCmd] at hcm; exact hcm.1.1
  have hfit:fitP c:=hP.2.2.2.1
  unfold fitP at hfit
  simp (maxSteps:=1000000) (disch:=omega) only [rg,gD,simprocAttr]
  by_cases k1:c.kind=1
  · have hd:=right_fit (hP.2.2.2.2 k1)
    have e:Lib.join (wordsS ⟨c,false,false,ms⟩) [32]=Lib.join ([wGraph,c.dag.name]++c.dag.tasks.map taskW) [32]:=by simp [wordsS,wordsL,k1]
    have kg:=r_graph c.dag hd.2.2.1 hd.2.1 (fun t ht => ⟨hts t ht,hd.2.2.2.2 t ht⟩)
    unfold dagV tasksV at kg
    simp (maxSteps:=1000000) (disch:=omega) only [rg,gD,simprocAttr,k1]
    refine ⟨_,kg, ?_⟩
    simp (maxSteps:=1000000) (disch:=omega) only [rg,gD,simprocAttr]
    (refine fin_x rfl ?_ ?_<;>simp [pack,lo,loL,V.closed,closedL,mv_closed,e])
  by_cases k2:c.kind=2
  · have e:Lib.join (wordsS ⟨c,false,false,ms⟩) [32]=(([115,116,97,114,116,32]++c.key)++[32])++c.name:=by simp [wordsS,wordsL,k1,k2,Lib.join_cons,Lib.joinTail,wStart]
    simp (maxSteps:=1000000) (disch:=omega) only [rg,gD,simprocAttr,k1,k2]
    refine ⟨by first | omega | (simp; omega),by first | omega | (simp; omega),by first | omega | (simp; omega), ?_⟩
    (refine fin_x rfl ?_ ?_<;>simp [pack,lo,loL,V.closed,closedL,mv_closed,e])
  by_cases k3:c.kind=3
  · have e:Lib.join (wordsS ⟨c,false,false,ms⟩) [32]=[112,111,108,108]:=by simp [wordsS,wordsL,k1,k2,k3,Lib.join_cons,Lib.joinTail,wPoll]
    simp (maxSteps:=1000000) (disch:=omega) only [rg,gD,simprocAttr,k1,k2,k3]
    (refine fin_x rfl ?_ ?_<;>simp [pack,lo,loL,V.closed,closedL,mv_closed,e])
  by_cases k4:c.kind=4
  · have e:Lib.join (wordsS ⟨c,false,false,ms⟩) [32]=[98,101,97,116,32]++Lib.itoa c.token:=by simp [wordsS,wordsL,k1,k2,k3,k4,Lib.join_cons,Lib.joinTail,wBeat]
    simp (maxSteps:=1000000) (disch:=omega) only [rg,gD,simprocAttr,k1,k2,k3,k4]
    refine ⟨by first | omega | (simp; omega), ?_⟩
    (refine fin_x rfl ?_ ?_<;>simp [pack,lo,loL,V.closed,closedL,mv_closed,e])
  by_cases k5:c.kind=5
  · by_cases x:c.text=[]
    · have e:Lib.join (wordsS ⟨c,false,false,ms⟩) [32]=[100,111,110,101,32]++Lib.itoa c.token:=by simp [wordsS,wordsL,k1,k2,k3,k4,k5,x,Lib.join_cons,Lib.joinTail,wDone]
      simp (maxSteps:=1000000) (disch:=omega) only [rg,gD,simprocAttr,k1,k2,k3,k4,k5,x]
      refine ⟨by first | omega | (simp; omega), ?_⟩
      (refine fin_x rfl ?_ ?_<;>simp [pack,lo,loL,V.closed,closedL,mv_closed,e])
    · have e:Lib.join (wordsS ⟨c,false,false,ms⟩) [32]=(([100,111,110,101,32]++Lib.itoa c.token)++[32])++c.text:=by simp [wordsS,wordsL,k1,k2,k3,k4,k5,x,Lib.join_cons,Lib.joinTail,wDone]
      simp (maxSteps:=1000000) (disch:=omega) only [rg,gD,simprocAttr,k1,k2,k3,k4,k5,x]
      refine ⟨by first | omega | (simp; omega),by first | omega | (simp; omega),by first | omega | (simp; omega), ?_⟩
      (refine fin_x rfl ?_ ?_<;>simp [pack,lo,loL,V.closed,closedL,mv_closed,e])
  by_cases k6:c.kind=6
  · have e:Lib.join (wordsS ⟨c,false,false,ms⟩) [32]=[102,97,105,108,32]++Lib.itoa c.token:=by simp [wordsS,wordsL,k1,k2,k3,k4,k5,k6,Lib.join_cons,Lib.joinTail,wFail]
    simp (maxSteps:=1000000) (disch:=omega) only [rg,gD,simprocAttr,k1,k2,k3,k4,k5,k6]
    refine ⟨by first | omega | (simp; omega), ?_⟩
    (refine fin_x rfl ?_ ?_<;>simp [pack,lo,loL,V.closed,closedL,mv_closed,e])
  by_cases k7:c.kind=7
  · have e:Lib.join (wordsS ⟨c,false,false,ms⟩) [32]=[99,97,110,99,101,108,32]++c.key:=by simp [wordsS,wordsL,k1,k2,k3,k4,k5,k6,k7,Lib.join_cons,Lib.joinTail,wCancel]
    simp (maxSteps:=1000000) (disch:=omega) only [rg,gD,simprocAttr,k1,k2,k3,k4,k5,k6,k7]
    refine ⟨by first | omega | (simp; omega), ?_⟩
    (refine fin_x rfl ?_ ?_<;>simp [pack,lo,loL,V.closed,closedL,mv_closed,e])
  by_cases k8:c.kind=8
  · have e:Lib.join (wordsS ⟨c,false,false,ms⟩) [32]=[116,105,99,107,32]++Lib.itoa c.time:=by simp [wordsS,wordsL,k1,k2,k3,k4,k5,k6,k7,k8,Lib.join_cons,Lib.joinTail,wTick]
    simp (maxSteps:=1000000) (disch:=omega) only [rg,gD,simprocAttr,k1,k2,k3,k4,k5,k6,k7,k8]
    refine ⟨_,p_itoa _ hi2, ?_⟩
    simp (maxSteps:=1000000) (disch:=omega) only [rg,gD,simprocAttr]
    refine ⟨by first | omega | (simp; omega), ?_⟩
    (refine fin_x rfl ?_ ?_<;>simp [pack,lo,loL,V.closed,closedL,mv_closed,e])
  by_cases k9:c.kind=9
  · have e:Lib.join (wordsS ⟨c,false,false,ms⟩) [32]=[115,116,97,116,101,32]++c.key:=by simp [wordsS,wordsL,k1,k2,k3,k4,k5,k6,k7,k8,k9,Lib.join_cons,Lib.joinTail,wState]
    simp (maxSteps:=1000000) (disch:=omega) only [rg,gD,simprocAttr,k1,k2,k3,k4,k5,k6,k7,k8,k9]
    refine ⟨by first | omega | (simp; omega), ?_⟩
    (refine fin_x rfl ?_ ?_<;>simp [pack,lo,loL,V.closed,closedL,mv_closed,e])
  have e:Lib.join (wordsS ⟨c,false,false,ms⟩) [32]=[115,121,110,99]:=by simp [wordsS,wordsL,k1,k2,k3,k4,k5,k6,k7,k8,k9,Lib.join_one,wSync]
  simp (maxSteps:=1000000) (disch:=omega) only [rg,gD,simprocAttr,k1,k2,k3,k4,k5,k6,k7,k8,k9]
  (refine fin_x rfl ?_ ?_<;>simp [pack,lo,loL,V.closed,closedL,mv_closed,e])
end
def zeroP:Pln:=⟨0,[]⟩
def planF:Nat→Str→List Stp→Int→Pln×Int×Int
  | 0,_,acc,size => (⟨size,acc⟩,0,0)
  | f+1,s,acc,size =>
    if s=[] then (⟨size,acc⟩,0,0)
    else if (cutC 10 s).2.2=true∧(parseS (cutC 10 s).1).2=true∧acc.length < 200 then planF f (cutC 10 s).2.1 (acc++[(parseS (cutC 10 s).1).1]) size
    else (zeroP,250,acc.length+2)
def parsePl (s:Str):Pln×Int×Int :=
  if (cutC 10 s).2.2=true∧(cutC 32 (cutC 10 s).1).1=wSize∧planB ⟨numS (cutC 32 (cutC 10 s).1).2.1,[]⟩=true then planF s.length (cutC 10 s).2.1 [] (numS (cutC 32 (cutC 10 s).1).2.1)
  else (zeroP,250,1)
noncomputable def lineR (line:Str):Stp×Bool:=((readR (splitC 32 line)).1,(readR (splitC 32 line)).2 && (stpB (readR (splitC 32 line)).1 && decide (Lib.join (wordsS (readR (splitC 32 line)).1) [32]=line)))
noncomputable def planG:Nat→Str→List Stp→Int→Pln×Int×Int
  | 0,_,acc,size => (⟨size,acc⟩,0,0)
  | f+1,s,acc,size =>
    if s=[] then (⟨size,acc⟩,0,0)
    else if (cutC 10 s).2.2=true∧acc.length < 200∧(lineR (cutC 10 s).1).2=true then planG f (cutC 10 s).2.1 (acc++[(lineR (cutC 10 s).1).1]) size
    else (zeroP,250,acc.length+2)
def sizeR (w:List Str):Int:=if w.length=2∧w.headD []=wSize then refN (w.tail.headD []) else 0
noncomputable def refPl (s:Str):Pln×Int×Int :=
  if (cutC 10 s).2.2=true∧planB ⟨sizeR (splitC 32 (cutC 10 s).1),[]⟩=true then planG s.length (cutC 10 s).2.1 [] (sizeR (splitC 32 (cutC 10 s).1))
  else (zeroP,250,1)
theorem line_same (line:Str):(parseS line).2=(lineR line).2∧((parseS line).2=true→(parseS line).1=(lineR line).1):=by
  have h1:∀ y,parseS line=(y,true)↔lineC y line:=parse_iff line
  have h2:∀ y,(lineR line=(y,true))↔lineC y line:=fun y => by
    rw [← ref_iff]
    simp only [lineR,Prod.mk.injEq,Bool.and_eq_true,decide_eq_true_eq]
    constructor
    · rintro ⟨rfl,a,b,c⟩; exact ⟨by rw [← a],b,c⟩
    · rintro ⟨a,b,c⟩; rw [a]; exact ⟨rfl,rfl,b,c⟩
  cases hp:(parseS line).2 with
  | true =>
    have e1:parseS line=((parseS line).1,true):=by rw [← hp]
    have e2:=(h2 _).2 ((h1 _).1 e1)
    rw [e2]; exact ⟨rfl,fun _ => rfl⟩
  | false =>
    refine ⟨?_,fun h => by cases h⟩
    cases hl:(lineR line).2 with
    | false => rfl
    | true =>
      have e1:lineR line=((lineR line).1,true):=by rw [← hl]
      have e2:=(h1 _).2 ((h2 _).1 e1)
      rw [e2] at hp; cases hp
theorem planF_G:∀ (f:Nat) (s:Str) (acc:List Stp) (size:Int),planF f s acc size=planG f s acc size
  | 0,_,_,_ => rfl
  | f+1,s,acc,size => by
    obtain ⟨h1,h2⟩:=line_same (cutC 10 s).1
    rw [planF,planG,planF_G f]
    by_cases c0:s=[]
    · rw [if_pos c0,if_pos c0]
    rw [if_neg c0,if_neg c0]
    by_cases c:(cutC 10 s).2.2=true∧(parseS (cutC 10 s).1).2=true∧acc.length < 200
    · rw [if_pos c,if_pos ⟨c.1,c.2.2,h1 ▸ c.2.1⟩,h2 c.2.1]
    · rw [if_neg c,if_neg]
      rintro ⟨a,b,d⟩; exact c ⟨a,h1 ▸ d,b⟩
theorem num_none {s:Str} (h:s=[]∨(32:UInt8)∈s):¬ (0≤numS s):=by
  intro h0
  have hb:=numS_back h0
  rcases h with rfl | h
  · have:=digits_pos (numS []).toNat
    have e:numS []=-1:=by decide
    omega
  · rw [← hb] at h; exact itoa_no (.inl rfl) h
theorem planB_size {n:Int}:planB ⟨n,[]⟩=decide (24≤n∧n≤200):=by simp [planB]
theorem ref_num {s:Str} {n:Int} (h:0≤n∧n < 10000000000000):numS s=n↔refN s=n:=by
  constructor
  · intro e
    have hb:=numS_back (s:=s) (by omega)
    rw [e] at hb
    have:=refN_of n.toNat (by omega)
    rw [Int.toNat_of_nonneg h.1,hb] at this; exact this
  · intro e
    have hb:=refN_back (s:=s) (by omega)
    rw [e] at hb
    have:=numS_of n.toNat (by omega)
    rw [Int.toNat_of_nonneg h.1,hb] at this; exact this
theorem first_same (t:Str) (n:Int) (hn:24≤n∧n≤200):((cutC 32 t).1=wSize∧numS (cutC 32 t).2.1=n)↔sizeR (splitC 32 t)=n:=by
  rw [split_cut]
  cases hc:(cutC 32 t).2.2 with
  | false =>
    obtain ⟨h1,h2⟩:=cut_none 32 t hc
    rw [h2]
    constructor
    · rintro ⟨_,e⟩; have:numS []=-1:=by decide
      omega
    · intro e; simp [sizeR] at e; omega
  | true =>
    rw [if_pos rfl]
    by_cases hw:(cutC 32 t).1=wSize
    · by_cases hs:(32:UInt8)∈(cutC 32 t).2.1
      · have hl:¬ (splitC 32 (cutC 32 t).2.1).length=1:=by
          intro hl
          obtain ⟨w,hw⟩:=List.length_eq_one_iff.1 hl
          have hj:=join_split 32 (cutC 32 t).2.1
          have hf:∀ s:Str,(32:UInt8)∈s→(splitC 32 s).length≠1:=fun s hs hl => by
            rw [split_cut] at hl
            cases hc:(cutC 32 s).2.2 with
            | true => rw [hc,if_pos rfl] at hl; have:=splitC_ne 32 (cutC 32 s).2.1; simp only [List.length_cons] at hl; exact this (List.eq_nil_of_length_eq_zero (by omega))
            | false =>
              have:∀ s:Str,(cutC 32 s).2.2=false→(32:UInt8)∉s:=by
                intro s
                induction s with
                | nil => simp
                | cons b s ih =>
                  intro h
                  by_cases e:b=32
                  · simp [cutC,e] at h
                  · simp only [cutC,if_neg e] at h
                    rw [List.mem_cons,not_or]; exact ⟨Ne.symm e,ih h⟩
              exact this s hc hs
          exact hf _ hs hl
        constructor
        · rintro ⟨_,e⟩; exact absurd (by omega:(0:Int)≤numS (cutC 32 t).2.1) (num_none (.inr hs))
        · intro e
          rw [sizeR,if_neg (by rintro ⟨h,_⟩; simp only [List.length_cons] at h; omega)] at e; omega
      · have hsp:=split_free 32 _ hs
        rw [hsp]
        have e1:sizeR [(cutC 32 t).1,(cutC 32 t).2.1]=refN (cutC 32 t).2.1:=by rw [sizeR,if_pos ⟨rfl,hw⟩]; rfl
        rw [e1,← ref_num (by omega)]
        exact ⟨fun h => h.2,fun h => ⟨hw,h⟩⟩
    · constructor
      · rintro ⟨h,_⟩; exact absurd h hw
      · intro e
        rw [sizeR,if_neg (by rintro ⟨_,h⟩; exact hw h)] at e; omega
theorem parse_ref (s:Str):parsePl s=refPl s:=by
  unfold parsePl refPl
  have hf:=first_same (cutC 10 s).1
  by_cases c:(cutC 10 s).2.2=true∧(cutC 32 (cutC 10 s).1).1=wSize∧planB ⟨numS (cutC 32 (cutC 10 s).1).2.1,[]⟩=true
  · obtain ⟨c1,c2,c3⟩:=c
    rw [if_pos ⟨c1,c2,c3⟩]
    rw [planB_size,decide_eq_true_eq] at c3
    have e:=(hf _ c3).1 ⟨c2,rfl⟩
    rw [e,if_pos ⟨c1,by rw [planB_size]; exact decide_eq_true c3⟩,planF_G]
  · rw [if_neg c,if_neg]
    rintro ⟨a,b⟩
    rw [planB_size,decide_eq_true_eq] at b
    have:=(hf _ b).2 rfl
    refine c ⟨a,this.1, ?_⟩
    rw [planB_size,this.2]; exact decide_eq_true b
/-! No line has a line's end in it. -/
/-! Back. -/
section
theorem cutC_le (c:UInt8) (s:Str):(cutC c s).1.length≤s.length∧(cutC c s).2.1.length≤s.length:=by
  rcases index_c c s with ⟨h1,h2,h3,h4⟩ | ⟨i,h1,h2,h3,h4,h5⟩
  · rw [h3,h4]; simp
  · rw [h4,h5]; simp; omega
theorem p_cutline (H:Hp) (bn bt:Nat) (k:Int) (s:Str) (h1:bn < H.n) (h2:bt < H.n) (hne:bn≠bt) (e1:H.m bn=some (.arr 1 [.int .i64 k])) (e2:H.m bt=some (.arr 1 [.str s])) (hl:s.length≤1000000000) (hk:0≤k∧k≤4611686018427387904) :
    ACall Tryz.prog 11 [.ptr bn 0 0,.ptr bt 0 0] H [bn,bt] (.tup [.str (cutC 10 s).1,.bool (cutC 10 s).2.2]) [(bn,some (.arr 1 [.int .i64 (k+1)])),(bt,some (.arr 1 [.str (cutC 10 s).2.1]))] 0:=by
  refine ena11 (by simp) (by simp [lowL,V.low,h1,h2]) (fun id hid => ?_) (by simp) ?_
  · simp at hid
    rcases hid with rfl | rfl
    · exact ⟨h1,fun o ho => by rw [e1] at ho; simp at ho; subst ho; exact lowL_closed _ (by simp [closedL,V.closed])⟩
    · exact ⟨h2,fun o ho => by rw [e2] at ho; simp at ho; subst ho; exact lowL_closed _ (by simp [closedL,V.closed])⟩
  have q1:only [bn,bt] H.m bn=some (.arr 1 [.int .i64 k]):=by simp [only,e1]
  have q2:only [bn,bt] H.m bt=some (.arr 1 [.str s]):=by simp [only,e2]
  have hne':bt≠bn:=fun h => hne h.symm
  simp (maxSteps:=1000000) (disch:=omega) only [rg,gD,simprocAttr,c11,q1,q2]
  refine ⟨_,p_cut s 10 (by omega), ?_⟩
  simp (maxSteps:=1000000) (disch:=omega) only [rg,gD,simprocAttr,q2]
  exact fin_A (l:=[.str (cutC 10 s).1,.bool (cutC 10 s).2.2]) rfl (.inl rfl) (by simp) (fun id => .inr (by by_cases h:id=bn<;>by_cases h':id=bt<;>simp [appd,upd,h,h',q1,q2]))
theorem p_refuse (H:Hp) (bn:Nat) (k:Int) (h1:bn < H.n) (e1:H.m bn=some (.arr 1 [.int .i64 k])) :
    ACall Tryz.prog 13 [.ptr bn 0 0] H [bn] (.tup [plnV zeroP,.int .i64 250,.int .i64 k]) [] 1:=by
  refine ena13 (by simp) (by simp [lowL,V.low,h1]) (fun id hid => ?_) (by simp) ?_
  · simp at hid; subst hid
    exact ⟨h1,fun o ho => by rw [e1] at ho; simp at ho; subst ho; exact lowL_closed _ (by simp [closedL,V.closed])⟩
  have q1:only [bn] H.m bn=some (.arr 1 [.int .i64 k]):=by simp [only,e1]
  have hne:¬ H.n=bn:=by omega
  simp (maxSteps:=1000000) (disch:=omega) only [rg,gD,simprocAttr,c13,q1]
  refine ⟨by simp [compat,disj,nthL,hne], ?_⟩
  refine fin_A (l:=[.agg [.int .i64 0,.fsl .nil 11 []],.int .i64 250,.int .i64 k]) (by simp [resE,find,upd,loadO,getC,r13]) (.inr (.inr rfl)) (by simp) (fun j => ?_)
  by_cases h:j=H.n
  · left; simp [appd,upd,h,only,hne]
  · right; simp [appd,upd,h]
theorem planF_fuel:∀ (n f f':Nat) (s:Str) (acc:List Stp) (z:Int),s.length≤n→s.length≤f→s.length≤f'→planF f s acc z=planF f' s acc z:=by
  intro n
  induction n with
  | zero =>
    intro f f' s acc z h _ _
    have:s=[]:=List.eq_nil_of_length_eq_zero (by omega)
    subst this
    cases f<;>cases f'<;>simp [planF]
  | succ n ih =>
    intro f f' s acc z h h1 h2
    by_cases c0:s=[]
    · subst c0; cases f<;>cases f'<;>simp [planF]
    have hp:=List.length_pos_iff.2 c0
    obtain ⟨f,rfl⟩:∃ g,f=g+1:=⟨f - 1,by omega⟩
    obtain ⟨f',rfl⟩:∃ g,f'=g+1:=⟨f' - 1,by omega⟩
    rw [planF,planF,if_neg c0,if_neg c0]
    split
    · rename_i c
      have:=cut_len 10 s c.1
      exact ih _ _ _ _ _ (by omega) (by omega) (by omega)
    · rfl
theorem planF_step {s:Str} {acc:List Stp} {z:Int} (h:¬ s=[]):planF s.length s acc z=if (cutC 10 s).2.2=true∧(parseS (cutC 10 s).1).2=true∧acc.length < 200 then planF (cutC 10 s).2.1.length (cutC 10 s).2.1 (acc++[(parseS (cutC 10 s).1).1]) z else (zeroP,250,acc.length+2):=by
  have hp:=List.length_pos_iff.2 h
  obtain ⟨f,hf⟩:∃ g,s.length=g+1:=⟨s.length - 1,by omega⟩
  conv => lhs; rw [hf,planF,if_neg h]
  split
  · rename_i c
    have:=cut_len 10 s c.1
    exact planF_fuel f _ _ _ _ _ (by omega) (by omega) (by omega)
  · rfl
theorem Gro.len0 {lo n:Nat} {m:Hm} {sz:Nat} {v:V} {l:List V} (h:Gro lo n m sz v l):lenO false (some v)=okc True (.int .i64 (l.length:Int)):=by
  rcases h with ⟨st,_,rfl,rfl⟩ | ⟨id,_,_,rfl,_⟩<;>rfl
set_option maxHeartbeats 2000000 in
theorem p_plan (s:Str) (hl:s.length≤1000000000):PCall Tryz.prog 5 [.str s] (.tup [plnV (parsePl s).1,.int .i64 (parsePl s).2.1,.int .i64 (parsePl s).2.2]):=by
  refine en5 (by simp) (by simp [closedL,V.closed]) ?_
  obtain ⟨b1,b2⟩:=cutC_le 10 s
  obtain ⟨b3,b4⟩:=cutC_le 32 (cutC 10 s).1
  simp (maxSteps:=1000000) (disch:=omega) only [rg,gD,simprocAttr,c5]
  refine ⟨_,_,_,_,p_cutline _ 2 0 0 s (by simp) (by simp) (by omega) (by simp (disch:=omega) only [upd_eq,upd_ne,wo_0,wo_1,wo_2]) (by simp (disch:=omega) only [upd_eq,upd_ne,wo_0,wo_1,wo_2]) hl (by omega), ?_⟩
  simp (maxSteps:=1000000) (disch:=omega) only [rg,gD,simprocAttr]
  refine ⟨_,p_cut _ 32 (by omega), ?_⟩
  simp (maxSteps:=1000000) (disch:=omega) only [rg,gD,simprocAttr]
  refine ⟨_,p_number _ (by omega), ?_⟩
  simp (maxSteps:=1000000) (disch:=omega) only [rg,gD,simprocAttr]
  have hpl:parsePl s=if (cutC 10 s).2.2=true∧(cutC 32 (cutC 10 s).1).1=wSize∧planB ⟨numS (cutC 32 (cutC 10 s).1).2.1,[]⟩=true then planF s.length (cutC 10 s).2.1 [] (numS (cutC 32 (cutC 10 s).1).2.1) else (zeroP,250,1):=rfl
  have hp0:=p_right ⟨numS (cutC 32 (cutC 10 s).1).2.1,[]⟩ (by simp)
  unfold plnV at hp0
  generalize numS (cutC 32 (cutC 10 s).1).2.1=sz at hpl hp0
  generalize (cutC 32 (cutC 10 s).1).1=w0 at hpl
  generalize (cutC 10 s).2.2=ok at hpl
  have hpl2:(cutC 10 s).2.1.length≤s.length:=b2
  refine x_frz0 ?_
  cases ok with
  | false =>
    rw [if_neg (by simp)] at hpl
    simp (maxSteps:=1000000) (disch:=omega) only [rg,gD,simprocAttr]
    refine ⟨_,_,_,_,p_refuse _ 2 1 (by simp) (by simp (disch:=omega) only [upd_eq,upd_ne,wo_0,wo_1,wo_2]), ?_⟩
    simp (maxSteps:=1000000) (disch:=omega) only [rg,gD,simprocAttr,plnV,zeroP]
    refine x_frz0 ?_
    simp (maxSteps:=1000000) (disch:=omega) only [rg,gD,simprocAttr]
    (refine fin_x rfl ?_ ?_<;>simp [pack,lo,loL,V.closed,closedL,mv_closed,hpl,plnV,zeroP,mv])
  | true =>
  by_cases hw:w0=wSize
  case neg =>
    rw [if_neg (by simp [hw])] at hpl
    simp (maxSteps:=1000000) (disch:=omega) only [rg,gD,simprocAttr,show ¬ w0=[115,105,122,101] from hw]
    refine ⟨_,_,_,_,p_refuse _ 2 1 (by simp) (by simp (disch:=omega) only [upd_eq,upd_ne,wo_0,wo_1,wo_2]), ?_⟩
    simp (maxSteps:=1000000) (disch:=omega) only [rg,gD,simprocAttr,plnV,zeroP]
    refine x_frz0 ?_
    simp (maxSteps:=1000000) (disch:=omega) only [rg,gD,simprocAttr]
    (refine fin_x rfl ?_ ?_<;>simp [pack,lo,loL,V.closed,closedL,mv_closed,hpl,plnV,zeroP,mv])
  subst hw
  simp (maxSteps:=1000000) (disch:=omega) only [rg,gD,simprocAttr,wSize]
  refine ⟨_,PCall.of_eq hp0 (by simp [loL,lo,mv]), ?_⟩
  cases hz:planB ⟨sz,[]⟩ with
  | false =>
    rw [if_neg (by simp [hz])] at hpl
    simp (maxSteps:=1000000) (disch:=omega) only [rg,gD,simprocAttr]
    refine ⟨_,_,_,_,p_refuse _ 2 1 (by simp) (by simp (disch:=omega) only [upd_eq,upd_ne,wo_0,wo_1,wo_2]), ?_⟩
    simp (maxSteps:=1000000) (disch:=omega) only [rg,gD,simprocAttr,plnV,zeroP]
    refine x_frz0 ?_
    simp (maxSteps:=1000000) (disch:=omega) only [rg,gD,simprocAttr]
    (refine fin_x rfl ?_ ?_<;>simp [pack,lo,loL,V.closed,closedL,mv_closed,hpl,plnV,zeroP,mv])
  | true =>
  rw [if_pos ⟨rfl,rfl,hz⟩,planF_fuel s.length _ (cutC 10 s).2.1.length _ _ _ b2 b2 (Nat.le_refl _)] at hpl
  simp (maxSteps:=1000000) (disch:=omega) only [rg,gD,simprocAttr]
  generalize (cutC 10 s).2.1=rem0 at hpl hpl2
  refine x_it rem0.length (fun i σ H => ∃ rem acc v k tl,4≤H.n∧H.m 0=some (.arr 1 [.str rem])∧H.m 1=some (.arr 2 [.agg [.int .i64 0,.fsl .nil 11 []]])∧H.m 2=some (.arr 1 [.int .i64 k])∧H.m 3=some (.arr 2 [.agg [.int .i64 sz,v]])∧Gro 4 H.n H.m 11 v (mv stpV acc)∧k=i+1∧acc.length=i∧i≤200∧rem.length+i≤rem0.length∧parsePl s=planF rem.length rem acc sz∧σ=[(1,.ptr 0 0 0),(2,.ptr 1 0 0),(6,.fn 11 [] [.ptr 2 0 0,.ptr 0 0 0]),(7,.fn 13 [] [.ptr 2 0 0]),(13,.ptr 3 0 0)]++tl) ⟨rem0,[],_,1,_,by simp,(by simp (disch:=omega) only [upd_eq,upd_ne,wo_0,wo_1,wo_2]),(by simp (disch:=omega) only [upd_eq,upd_ne,wo_0,wo_1,wo_2]),(by simp (disch:=omega) only [upd_eq,upd_ne,wo_0,wo_1,wo_2]),(by simp (disch:=omega) only [upd_eq,upd_ne,wo_0,wo_1,wo_2]),Gro.nil,by simp,rfl,by omega,by omega,hpl,rfl⟩ ?_
  clear hpl
  rintro T i σ ⟨n,m⟩ hi ⟨rem,acc,v,k,tl,hn4,e0,e1,e2,e3,hG,hk,hal,hi2,hrl,hpl,rfl⟩ hN hX hR
  simp only [List.cons_append,List.nil_append] at hn4 e0 e1 e2 e3 hG ⊢
  simp (maxSteps:=1000000) (disch:=omega) only [rg,gD,simprocAttr,e0]
  refine ⟨fun hlt => ?_,fun hlt => ?_⟩
  · have hrp:=List.length_pos_iff.2 (show ¬ rem=[] from hlt)
    rw [planF_step hlt] at hpl
    obtain ⟨d1,d2⟩:=cutC_le 10 rem
    refine ⟨_,_,_,_,p_cutline _ 2 0 k rem (by show 2 < n; omega) (by show 0 < n; omega) (by omega) (by simp (disch:=omega) only [upd_eq,upd_ne,wo_0,wo_1,wo_2,e2]) (by simp (disch:=omega) only [upd_eq,upd_ne,wo_0,wo_1,wo_2,e0]) (by omega) (by omega), ?_⟩
    simp (maxSteps:=1000000) (disch:=omega) only [rg,gD,simprocAttr]
    refine ⟨_,p_parse _ (by omega), ?_⟩
    have e5:m 3=some (.arr 2 [.agg [.int .i64 sz,v]]):=e3
    have hc:=hG.cell
    have hll:=hG.len0
    have hn3:n≠0∧n≠1∧n≠2∧n≠3:=by omega
    rcases hps:parseS (cutC 10 rem).1 with ⟨y,par⟩
    simp only [hps] at hpl
    have hst:(cutC 10 rem).2.2=true→(cutC 10 rem).2.1.length < rem.length:=fun h => (cut_len 10 rem h).1
    generalize (cutC 10 rem).2.2=okl at hpl hst
    cases okl with
    | false =>
      rw [if_neg (by simp)] at hpl
      simp (maxSteps:=1000000) (disch:=omega) only [rg,gD,simprocAttr,stpV,tasksV,hps]
      refine ⟨_,_,_,_,p_refuse _ 2 (k+1) (by show 2 < n+1; omega) (by simp (disch:=omega) only [upd_eq,upd_ne,wo_0,wo_1,wo_2,e2]), ?_⟩
      simp (maxSteps:=1000000) (disch:=omega) only [rg,gD,simprocAttr,plnV,zeroP,e1]
      refine x_frz0 ?_
      simp (maxSteps:=1000000) (disch:=omega) only [rg,gD,simprocAttr]
      refine hR _ _ ?_
      simp (maxSteps:=1000000) (disch:=omega) only [rg,gD,simprocAttr]
      (refine fin_x rfl ?_ ?_<;>simp [pack,lo,loL,V.closed,closedL,mv_closed,hpl,plnV,zeroP,mv,show (acc.length:Int)+2=k+1 by omega])
    | true =>
    cases par with
    | false =>
      rw [if_neg (by simp)] at hpl
      simp (maxSteps:=1000000) (disch:=omega) only [rg,gD,simprocAttr,stpV,tasksV,hps]
      refine ⟨_,_,_,_,p_refuse _ 2 (k+1) (by show 2 < n+1; omega) (by simp (disch:=omega) only [upd_eq,upd_ne,wo_0,wo_1,wo_2,e2]), ?_⟩
      simp (maxSteps:=1000000) (disch:=omega) only [rg,gD,simprocAttr,plnV,zeroP,e1]
      refine x_frz0 ?_
      simp (maxSteps:=1000000) (disch:=omega) only [rg,gD,simprocAttr]
      refine hR _ _ ?_
      simp (maxSteps:=1000000) (disch:=omega) only [rg,gD,simprocAttr]
      (refine fin_x rfl ?_ ?_<;>simp [pack,lo,loL,V.closed,closedL,mv_closed,hpl,plnV,zeroP,mv,show (acc.length:Int)+2=k+1 by omega])
    | true =>
    by_cases h200:acc.length < 200
    case neg =>
      rw [if_neg (by simp [h200])] at hpl
      have h2':(200:Int)≤acc.length:=by omega
      simp (maxSteps:=1000000) (disch:=omega) only [rg,gD,simprocAttr,stpV,tasksV,hps,e3,hc,hll,mv_len,h2']
      refine ⟨_,_,_,_,p_refuse _ 2 (k+1) (by show 2 < n+1; omega) (by simp (disch:=omega) only [upd_eq,upd_ne,wo_0,wo_1,wo_2,e2]), ?_⟩
      simp (maxSteps:=1000000) (disch:=omega) only [rg,gD,simprocAttr,plnV,zeroP,e1]
      refine x_frz0 ?_
      simp (maxSteps:=1000000) (disch:=omega) only [rg,gD,simprocAttr]
      refine hR _ _ ?_
      simp (maxSteps:=1000000) (disch:=omega) only [rg,gD,simprocAttr]
      (refine fin_x rfl ?_ ?_<;>simp [pack,lo,loL,V.closed,closedL,mv_closed,hpl,plnV,zeroP,mv,show (acc.length:Int)+2=k+1 by omega])
    rw [if_pos ⟨rfl,rfl,h200⟩] at hpl
    have h2':¬ (200:Int)≤acc.length:=by omega
    simp (maxSteps:=1000000) (disch:=omega) only [rg,gD,simprocAttr,stpV,tasksV,hps,e3,hc,hll,mv_len,h2']
    refine app_gro (hG.keep (by simp only []; omega) (fun id h1 h2 => by simp (disch:=omega) only [upd_ne])) (by show 4≤n+1; omega) (ys:=[stpV y]) rfl (by simp) (by rw [mv_len]; simp; omega) fun v' fp ds hG' hk1 _ => ?_
    have k0:=hk1 0 (by omega)
    have k1:=hk1 1 (by omega)
    have k2:=hk1 2 (by omega)
    have k3:=hk1 3 (by omega)
    simp (disch:=omega) only [upd_eq,upd_ne] at k0 k1 k2 k3
    rw [e1] at k1
    rw [e3] at k3
    rw [show mv stpV acc++[stpV y]=mv stpV (acc++[y]) from mv_app1] at hG'
    have hc':=hG'.cell
    simp only at hG'
    simp (maxSteps:=1000000) (disch:=omega) only [rg,gD,simprocAttr,k3,hc']
    refine hN _ _ (by omega) ?_
    have:=hst rfl
    exact ⟨(cutC 10 rem).2.1,acc++[y],v',k+1,[],by show 4≤n+1+1; omega,(by simp (disch:=omega) only [upd_eq,upd_ne,wo_0,wo_1,wo_2,k0]),(by simp (disch:=omega) only [upd_eq,upd_ne,wo_0,wo_1,wo_2,k1]),(by simp (disch:=omega) only [upd_eq,upd_ne,wo_0,wo_1,wo_2,k2]),(by simp (disch:=omega) only [upd_eq,upd_ne,wo_0,wo_1,wo_2]),by exact hG'.keep (Nat.le_refl _) (fun id h1 h2 => by simp (disch:=omega) only [upd_ne]),by omega,by simp; omega,by omega,by omega,hpl,rfl⟩
  · have hr0:rem=[]:=by simpa using hlt
    subst hr0
    rw [show planF ([]:Str).length [] acc sz=(⟨sz,acc⟩,0,0) from rfl] at hpl
    refine hX _ _ _ ?_
    simp (maxSteps:=1000000) (disch:=omega) only [rg,gD,simprocAttr]
    obtain ⟨fz,st,f1,f2,f3⟩:=hG.frz (mv_closed stpV_closed)
    have d1:=frl_cl (fz:=fz) (ids:=[]) e1 (by simp [closedL,V.closed]) (fun h => by have:=f1 _ h; omega) (by simp)
    have d3:=frl_get (fz:=fz) (ids:=[]) e3 (fun h => by have:=f1 _ h; omega) (by simp)
    have k3:frzV fz m (.agg [.int .i64 sz,v])=.agg [.int .i64 sz,.fsl st 11 (mv stpV acc)]:=frzV_mid (pre:=[.int .i64 sz]) (post:=[]) f2 rfl rfl
    rw [List.map_cons,List.map_nil,k3] at d3
    refine x_frzL fz [] ?_
    simp only at d1 d3 ⊢
    generalize loH [] (frzH fz m)=m' at d1 d3
    simp (maxSteps:=1000000) (disch:=omega) only [rg,gD,simprocAttr,d1,d3]
    refine x_frz0 ?_
    simp (maxSteps:=1000000) (disch:=omega) only [rg,gD,simprocAttr]
    (refine fin_x rfl ?_ ?_<;>simp [pack,lo,loL,V.closed,closedL,mv_closed,hpl,plnV,mv_lo stpV_lo,mv_closed stpV_closed])
end
end Go.Proofs.YtnglmdheiabdcaaGreatDoor.Ev
