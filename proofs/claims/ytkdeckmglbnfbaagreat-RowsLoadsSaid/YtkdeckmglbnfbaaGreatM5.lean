/-
  Part 5 of what the proof of the statement RowsLoads leans on: the evaluator, the functions in compact form, and what they answer.
-/
import Derived.Test.YtkdeckmglbnfbaaGreatM4
import Derived.Shelf.SlSortCmp.NoneTotal
import Derived.Shelf.Small.Strs
import Derived.Test.YtkdeckmglbnfbaaGreatProg
import Derived.KernelRfl
import Derived.WalkKit
import Derived.ProofKit
set_option linter.unusedSimpArgs false
set_option linter.unusedVariables false
set_option maxRecDepth 10000
namespace Go.Proofs.YtkdeckmglbnfbaaGreat.Ev
open Go
theorem x_cutE {P:Program} {a b:C} {σ:Sg} {H:Hp} {Q:QA} (h:evX P (.seq a b) σ H Q):evX P (.cut a b) σ H Q:=⟨fun σ' H' => evX P b σ' H' Q,h,fun _ _ h => h⟩
theorem add_call {H:Hp} {b lo:Nat} {v:V} {l:List Pr} (k x:Str) (hb:b < lo) (hlo:lo≤H.n) (hm:H.m b=some (.arr 1 [v])) (hg:Gro lo H.n H.m 2 v (mv prV l)) (hl:l.length≤1000000) :
    ∃ v' fp ds,ACall Tryz.prog 65 [.str k,.str x,.ptr b 0 0] H fp (.tup []) ds 1∧Gro H.n (H.n+1) (appd ds H.m) 2 v' (mv prV (l++[(k,x)]))∧appd ds H.m b=some (.arr 1 [v']) ∧
      ∀ id,id < H.n→id≠b→(∀ q,v≠.sl id 0 q)→appd ds H.m id=H.m id:=by
  rcases hg with ⟨st,h0,rfl,hst⟩ | ⟨id,h1,h2,rfl,h3⟩
  · have hl0:l=[]:=by cases l<;>simp [mv] at hst ⊢
    subst hl0
    refine ⟨.sl H.n 0 1,[b],[(b,some (.arr 1 [.sl H.n 0 1])),(H.n,some (.arr 2 [prV (k,x)]))], ?_,  .inr ⟨H.n,Nat.le_refl _,by simp,by simp [mv],by simp [appd,upd,mv]⟩, ?_,fun id hid hne hnr => ?_⟩
    · refine ena65 (by simp) (by simp [lowL,V.low]; omega) (fun id hid => ?_) (by simp) ?_
      · simp at hid; subst hid
        exact ⟨by omega,fun o ho => by rw [hm] at ho; simp at ho; subst ho; rfl⟩
      have q1:only [b] H.m b=some (.arr 1 [.fsl st 2 []]):=by simp [only,hm]
      simp (maxSteps:=1000000) (disch:=omega) only [rg,gD,simprocAttr,c65,q1]
      unfold appO
      refine ⟨⟨rfl,rfl,h0,by simp⟩, ?_⟩
      rw [x_nx]
      refine ⟨by simp only [compat_nil], ?_⟩
      simp (maxSteps:=1000000) (disch:=omega) only [rg,gD,simprocAttr,q1]
      refine fin_An (l:=[]) rfl (.inl rfl) (by simp) (fun i => .inr ?_)
      by_cases e1:i=b
      · subst e1; have:i≠H.n:=by omega
        simp [appd,upd,this,mv]
      · by_cases e2:i=H.n
        · subst e2; simp [appd,upd,e1,prV,mv]
        · simp [appd,upd,e1,e2]
    · have:b≠H.n:=by omega
      simp [appd,upd,this]
    · have:id≠H.n:=by omega
      simp [appd,upd,this,hne]
  · rw [mv_len] at *
    have hne1:b≠id:=by omega
    refine ⟨.sl H.n 0 (l.length+1),[b,id],[(b,some (.arr 1 [.sl H.n 0 (l.length+1)])),(id,none),(H.n,some (.arr 2 (mv prV (l++[(k,x)]))))], ?_,  .inr ⟨H.n,Nat.le_refl _,by simp,by simp [mv],by simp [appd,upd]⟩, ?_,fun i hid hne hnr => ?_⟩
    · refine ena65 (by simp) (by simp [lowL,V.low]; omega) (fun i hid => ?_) (by simp) ?_
      · simp at hid
        rcases hid with rfl | rfl
        · exact ⟨by omega,fun o ho => by rw [hm] at ho; simp at ho; subst ho; simp [Ob.low,lowL,V.low,h2]⟩
        · exact ⟨h2,fun o ho => by rw [h3] at ho; simp at ho; subst ho; exact lowL_closed _ (mv_closed prV_closed)⟩
      have q1:only [b,id] H.m b=some (.arr 1 [.sl id 0 l.length]):=by simp [only,hm]
      have q2:only [b,id] H.m id=some (.arr 2 (mv prV l)):=by simp [only,h3]
      simp (maxSteps:=1000000) (disch:=omega) only [rg,gD,simprocAttr,c65,q1]
      unfold appO
      simp only [q2]
      refine ⟨⟨rfl,trivial,trivial,by rw [mv_len]; exact Nat.le_refl _,by simp; omega⟩, ?_⟩
      rw [x_nx]
      refine ⟨by simp only [compat_nil], ?_⟩
      have e0:List.take l.length (mv prV l)++[V.agg [V.str k,V.str x]]=mv prV (l++[(k,x)]):=by
        rw [List.take_of_length_le (by rw [mv_len]; exact Nat.le_refl _)]; simp [mv,prV]
      rw [e0]
      simp (maxSteps:=1000000) (disch:=omega) only [rg,gD,simprocAttr,q1]
      refine fin_An (l:=[]) rfl (.inl rfl) (by simp) (fun i => ?_)
      by_cases e1:i=b
      · subst e1
        have n1:i≠H.n:=by omega
        exact .inr (by simp [appd,upd,hne1,n1,Ne.symm n1,Ne.symm hne1])
      · by_cases e2:i=id
        · subst e2
          have n1:i≠H.n:=by omega
          exact .inl (by simp [appd,upd,n1])
        · by_cases e3:i=H.n
          · subst e3; exact .inr (by simp [appd,upd,e1])
          · exact .inr (by simp [appd,upd,e1,e2,e3])
    · have:b≠H.n:=by omega
      simp [appd,upd,this,hne1,Ne.symm hne1]
    · have e1:i≠H.n:=by omega
      have e2:i≠id:=fun e => hnr _ (by rw [e])
      simp [appd,upd,e1,e2,hne]
theorem Gro.low {lo lo' n:Nat} {m:Hm} {sz:Nat} {v:V} {l:List V} (h:Gro lo' n m sz v l) (hl:lo≤lo'):Gro lo n m sz v l :=
  h.imp (fun h => h) fun ⟨i,a,b,c,d⟩ => ⟨i,Nat.le_trans hl a,b,c,d⟩
theorem Gro.not {lo n:Nat} {m:Hm} {sz:Nat} {v:V} {l:List V} (h:Gro lo n m sz v l) {i:Nat} (hi:i < lo∨n≤i) (q:Nat):v≠.sl i 0 q:=by
  rintro rfl; have:=h.id; omega
theorem add_step {H:Hp} {b lo:Nat} {v:V} {l:List Pr} {k x:Str} {Q:V→List Nat→List (Nat×Option Ob)→Nat→Prop} (hb:b < lo) (hlo:lo≤H.n) (hm:H.m b=some (.arr 1 [v])) (hg:Gro lo H.n H.m 2 v (mv prV l)) (hl:l.length≤1000000)
    (h:∀ v' fp ds,Gro H.n (H.n+1) (appd ds H.m) 2 v' (mv prV (l++[(k,x)]))→appd ds H.m b=some (.arr 1 [v'])→(∀ id,id < H.n→id≠b→(∀ q,v≠.sl id 0 q)→appd ds H.m id=H.m id)→Q (.tup []) fp ds 1) :
    ∃ fp r ds k',ACall Tryz.prog 65 [.str k,.str x,.ptr b 0 0] H fp r ds k'∧Q r fp ds k':=by
  obtain ⟨v',fp,ds,hA,h1,h2,h3⟩:=add_call k x hb hlo hm hg hl
  exact ⟨fp,_,ds,1,hA,h v' fp ds h1 h2 h3⟩
theorem rows_number (n k:Int) (hn:n≤9223372036854775807):PCall Tryz.prog 68 [.int .i64 n,.int .i64 k] (.str (putS n k).1):=by
  refine en68 (by simp) (by simp [closedL,V.closed]) ?_
  simp (maxSteps:=1000000) (disch:=omega) only [rg,gD,simprocAttr,c68]
  refine ⟨_,code_put n k hn, ?_⟩
  simp (maxSteps:=1000000) (disch:=omega) only [rg,gD,simprocAttr,sV]
  (refine fin_x rfl ?_ ?_<;>simp [pack,lo,loL,V.closed,closedL,mv_closed])
section
set_option maxRecDepth 100000
def ren_sort:Go.Shelf.Ren:=⟨fun x => match x with | 6 => 71 | 15 => 139 | 14 => 138 | 28 => 191 | 29 => 192 | 20 => 183 | 21 => 184 | 22 => 185 | 23 => 186 | 24 => 187 | 25 => 188 | 26 => 189 | 27 => 190 | 46 => 227 | 47 => 228 | 48 => 229 | 49 => 230 | 50 => 231 | 57 => 240 | n => n,fun x => match x with | 22 => 65 | 24 => 118 | 25 => 127 | 3 => 3 | 39 => 184 | 0 => 0 | 53 => 228 | 55 => 230 | 4 => 4 | 46 => 222 | 45 => 221 | 50 => 110 | 5 => 5 | 9 => 9 | 66 => 251 | 70 => 231 | 76 => 261 | 77 => 262 | n => n,fun x => match x with | n => n⟩
theorem lays_sort:SlLaysF0.n6 Tryz.prog ren_sort where
  mixed:=by kernel_rfl
  f6:=⟨"slices.SortFunc[[]penelope/api.Pair,penelope/api.Pair]",by decide,Tryz.func71.trans (congrArg some (by kernel_rfl))⟩
  f14:=⟨"slices.pdqsortCmpFunc[penelope/api.Pair]",by decide,Tryz.func138.trans (congrArg some (by kernel_rfl))⟩
  f15:=Tryz.func139.trans (congrArg some (by kernel_rfl))
  f20:=⟨"slices.insertionSortCmpFunc[penelope/api.Pair]",by decide,Tryz.func183.trans (congrArg some (by kernel_rfl))⟩
  f21:=⟨"slices.heapSortCmpFunc[penelope/api.Pair]",by decide,Tryz.func184.trans (congrArg some (by kernel_rfl))⟩
  f22:=⟨"slices.breakPatternsCmpFunc[penelope/api.Pair]",by decide,Tryz.func185.trans (congrArg some (by kernel_rfl))⟩
  f23:=⟨"slices.choosePivotCmpFunc[penelope/api.Pair]",by decide,Tryz.func186.trans (congrArg some (by kernel_rfl))⟩
  f24:=⟨"slices.reverseRangeCmpFunc[penelope/api.Pair]",by decide,Tryz.func187.trans (congrArg some (by kernel_rfl))⟩
  f25:=⟨"slices.partialInsertionSortCmpFunc[penelope/api.Pair]",by decide,Tryz.func188.trans (congrArg some (by kernel_rfl))⟩
  f26:=⟨"slices.partitionEqualCmpFunc[penelope/api.Pair]",by decide,Tryz.func189.trans (congrArg some (by kernel_rfl))⟩
  f27:=⟨"slices.partitionCmpFunc[penelope/api.Pair]",by decide,Tryz.func190.trans (congrArg some (by kernel_rfl))⟩
  f28:=Tryz.func191.trans (congrArg some (by kernel_rfl))
  f29:=Tryz.func192.trans (congrArg some (by kernel_rfl))
  f46:=⟨"slices.siftDownCmpFunc[penelope/api.Pair]",by decide,Tryz.func227.trans (congrArg some (by kernel_rfl))⟩
  f47:=Tryz.func228.trans (congrArg some (by kernel_rfl))
  f48:=Tryz.func229.trans (congrArg some (by kernel_rfl))
  f49:=⟨"slices.medianAdjacentCmpFunc[penelope/api.Pair]",by decide,Tryz.func230.trans (congrArg some (by kernel_rfl))⟩
  f50:=⟨"slices.medianCmpFunc[penelope/api.Pair]",by decide,Tryz.func231.trans (congrArg some (by kernel_rfl))⟩
  f57:=⟨"slices.order2CmpFunc[penelope/api.Pair]",by decide,Tryz.func240.trans (congrArg some (by kernel_rfl))⟩
  t0:=Tryz.underlying0
  a0:=Tryz.isAgg0
  z0:=Tryz.sizeOf0
  v0:=Tryz.zeroValue0
  t3:=Tryz.underlying3
  a3:=Tryz.isAgg3
  z3:=Tryz.sizeOf3
  v3:=Tryz.zeroValue3
  t4:=Tryz.underlying4
  a4:=Tryz.isAgg4
  z4:=Tryz.sizeOf4
  v4:=Tryz.zeroValue4
  t5:=Tryz.underlying5
  a5:=Tryz.isAgg5
  z5:=Tryz.sizeOf5
  v5:=Tryz.zeroValue5
  t9:=Tryz.underlying9
  a9:=Tryz.isAgg9
  z9:=Tryz.sizeOf9
  v9:=Tryz.zeroValue9
  t22:=Tryz.underlying65
  a22:=Tryz.isAgg65
  z22:=Tryz.sizeOf65
  v22:=Tryz.zeroValue65
  t25:=Tryz.underlying127
  a25:=Tryz.isAgg127
  z25:=Tryz.sizeOf127
  v25:=Tryz.zeroValue127
  t39:=Tryz.underlying184
  a39:=Tryz.isAgg184
  z39:=Tryz.sizeOf184
  v39:=Tryz.zeroValue184
  t45:=Tryz.underlying221
  a45:=Tryz.isAgg221
  z45:=Tryz.sizeOf221
  v45:=Tryz.zeroValue221
  t46:=Tryz.underlying222
  a46:=Tryz.isAgg222
  z46:=Tryz.sizeOf222
  v46:=Tryz.zeroValue222
  t50:=Tryz.underlying110
  a50:=Tryz.isAgg110
  z50:=Tryz.sizeOf110
  v50:=Tryz.zeroValue110
  t53:=Tryz.underlying228
  a53:=Tryz.isAgg228
  z53:=Tryz.sizeOf228
  v53:=Tryz.zeroValue228
  t55:=Tryz.underlying230
  a55:=Tryz.isAgg230
  z55:=Tryz.sizeOf230
  v55:=Tryz.zeroValue230
  t66:=Tryz.underlying251
  a66:=Tryz.isAgg251
  z66:=Tryz.sizeOf251
  v66:=Tryz.zeroValue251
  t70:=Tryz.underlying231
  a70:=Tryz.isAgg231
  z70:=Tryz.sizeOf231
  v70:=Tryz.zeroValue231
  t76:=Tryz.underlying261
  a76:=Tryz.isAgg261
  z76:=Tryz.sizeOf261
  v76:=Tryz.zeroValue261
  t77:=Tryz.underlying262
  a77:=Tryz.isAgg262
  z77:=Tryz.sizeOf262
  v77:=Tryz.zeroValue262
def ren_cmp:Go.Shelf.Ren:=⟨fun x => match x with | 106 => 73 | 213 => 140 | 265 => 193 | n => n,fun x => match x with | 9 => 9 | 3 => 3 | n => n,fun x => match x with | n => n⟩
theorem lays_cmp:Lays.n106 Tryz.prog ren_cmp where
  mixed:=by kernel_rfl
  f106:=Tryz.func73.trans (congrArg some (by kernel_rfl))
  f213:=Tryz.func140.trans (congrArg some (by kernel_rfl))
  f265:=Tryz.func193.trans (congrArg some (by kernel_rfl))
  t3:=Tryz.underlying3
  a3:=Tryz.isAgg3
  z3:=Tryz.sizeOf3
  v3:=Tryz.zeroValue3
  t9:=Tryz.underlying9
  a9:=Tryz.isAgg9
  z9:=Tryz.sizeOf9
  v9:=Tryz.zeroValue9
end
section
open Go Go.Sort Go.Shelf Go.RowKit
set_option maxHeartbeats 1000000 in
theorem cmp_clo (x y:Pr) (W:World):Calls Tryz.prog 72 #[.agg (encP x).toArray,.agg (encP y).toArray] W fun e w' => e=.returned (.int .i64 (cmpP x y))∧∃ q os',w'=grow (W.drewN q) os':=by
  obtain ⟨x1,x2⟩:=x
  obtain ⟨y1,y2⟩:=y
  have hcon:=fun W' => Any.strings_Compare lays_cmp ⟨x1.toArray⟩ ⟨y1.toArray⟩ W'
  change ∀ W',Calls Tryz.prog 73 _ _ _ at hcon
  have e:cmpP (x1,x2) (y1,y2)=Lib.compareBytes x1 y1:=rfl
  simp only [] at hcon
  rw [e]
  generalize Lib.compareBytes x1 y1=r at hcon ⊢
  simp only [encP]
  go_enter Tryz.func72,Tryz.ntmps72
  go_wp2_with (go_at_call 73; refine (hcon _).mono ?_; rintro e w' ⟨rfl,rfl⟩)
  go_ret
  exact ⟨rfl,0,_,by rw [alloc_eq_grow,alloc_eq_grow,grow_grow]; rfl⟩
theorem sort_has:HasBody Tryz.prog 71:=⟨_,Tryz.func71,by kernel_rfl,by kernel_rfl⟩
theorem cmp_enters:∀ args w,(callFunc 72 args).run Tryz.prog w=.ok (.enter 72 args) w:=enters_of Tryz.func72 (by kernel_rfl) rfl
theorem rows_sort {H:Hp} {id:Nat} {l:List Pr} (hm:H.m id=some (.arr 2 (mv prV l))) (hne:l≠[]) (hl:l.length < 4611686018427387904) :
    ACall Tryz.prog 71 [.sl id 0 l.length,.fn 72 [] []] H [id] (.tup []) [(id,some (.arr 2 (mv prV (sortP cmpP l))))] 0 :=
  sort_acall lays_sort (Tryz.isAgg118) (Tryz.sizeOf118) sort_has cmpP_swo cmp_enters cmp_clo hm hne hl
theorem rows_sort0 (st:St) (H:Hp) (f:V):ACall Tryz.prog 71 [.fsl st 2 [],f] H [] (.tup []) [] 0:=(sort_none lays_sort sort_has f st).toA H []
theorem rows_sort1 (ii:Nat) (H:Hp) (f:V):ACall Tryz.prog 71 [.sl ii 0 0,f] H [] (.tup []) [] 0:=sort_none_sl lays_sort sort_has f ii H
end
theorem rise_nodup {l:List Str} (h:Rise l):l.Nodup:=by
  refine List.pairwise_iff_getElem.2 fun i j hi hj hij => ?_
  exact lt_ne (rise_lt h j i hj hij)
theorem keysP_app (a b:List Pr):keysP (a++b)=keysP a++keysP b:=by simp [keysP]
theorem runs_disj {r r':Rn} (hs:r.states.length≤200) (hs':r'.states.length≤200) {k:Str} (h:k∈keysP (runPrs r)) (h':k∈keysP (runPrs r')):r.key=r'.key:=by
  rcases (runPrs_keys hs).2 k h with rfl | ⟨i,hi,rfl⟩<;>rcases (runPrs_keys hs').2 _ h' with e | ⟨j,hj,e⟩
  · simpa using e
  · simp at e
  · simp at e
  · have hl:=congrArg List.length e
    simp only [List.length_append,put1_len (show i < 256 by omega),put1_len (show j < 256 by omega),List.length_singleton] at hl
    rw [List.append_assoc,List.append_assoc] at e
    have e2:=List.append_cancel_left e
    exact (List.append_inj e2 (by omega)).1
theorem runs_keys:∀ {l:List Rn},(runsN l).Nodup→(∀ r∈l,r.states.length≤200)→(keysP (runsPr l)).Nodup∧∀ k∈keysP (runsPr l),∃ r∈l,k∈keysP (runPrs r)
  | [],_,_ => by simp [runsPr,keysP]
  | r::l,hn,hs => by
    simp only [runsN,List.map_cons,List.nodup_cons] at hn
    obtain ⟨i1,i2⟩:=runs_keys (l:=l) hn.2 (fun x hx => hs x (by simp [hx]))
    have e:runsPr (r::l)=runPrs r++runsPr l:=by simp [runsPr]
    rw [e,keysP_app]
    refine ⟨List.nodup_append.2 ⟨(runPrs_keys (hs r (by simp))).1,i1,fun k hk k' hk' e => ?_⟩,fun k hk => ?_⟩
    · subst e
      obtain ⟨r',hr',hk2⟩:=i2 k hk'
      have:=runs_disj (hs r (by simp)) (hs r' (by simp [hr'])) hk hk2
      exact hn.1 (List.mem_map.2 ⟨r',hr',this.symm⟩)
    · rcases List.mem_append.1 hk with hk | hk
      · exact ⟨r,by simp,hk⟩
      · obtain ⟨r',hr',h⟩:=i2 k hk; exact ⟨r',by simp [hr'],h⟩
theorem runs_first {l:List Rn} {k:Str} (hs:∀ r∈l,r.states.length≤200) (hn:(runsN l).Nodup) (h:k∈keysP (runsPr l)):∃ t,k=114::t∨k=116::t:=by
  obtain ⟨r,hr,hk⟩:=(runs_keys hn hs).2 k h
  rcases (runPrs_keys (hs r hr)).2 k hk with rfl | ⟨i,_,rfl⟩
  · exact ⟨_,.inl rfl⟩
  · exact ⟨r.key++(putS (i:Int) 1).1,.inr (by simp)⟩
theorem WR.few {w:Wd} (h:WR w):∀ r∈w.runs,r.states.length≤10:=fun r hr => by
  have h2:=(h.runs r hr).2
  rw [h2.len]; exact (dag_okn h2.dag).1
theorem rows_nodup {w:Wd} (h:WR w):(keysP (rowsL w)).Nodup:=by
  have hs:∀ r∈w.runs,r.states.length≤200:=fun r hr => by have:=h.few r hr; omega
  have hn:=rise_nodup h.rruns
  have hd:(keysP (w.dags.map dagPr)).Nodup:=by
    have:=rise_nodup h.rdags
    simp only [dagsN] at this
    simp only [keysP,List.map_map,List.Nodup,List.pairwise_map] at this ⊢
    exact this.imp fun {a b} h e => h (by simpa [Function.comp,dagPr] using e)
  have hd1:∀ k∈keysP (w.dags.map dagPr),∃ t,k=100::t:=fun k hk => by
    simp only [keysP,List.map_map,List.mem_map,Function.comp] at hk
    obtain ⟨d,_,rfl⟩:=hk
    exact ⟨d.name,by simp [dagPr]⟩
  have hm:(keysP (metaPr w)).Nodup∧∀ k∈keysP (metaPr w),k=[109]:=by
    unfold metaPr; split<;>simp [keysP]
  unfold rowsL
  rw [keysP_app,keysP_app]
  refine List.nodup_append.2 ⟨hd,List.nodup_append.2 ⟨hm.1,(runs_keys hn hs).1,fun k hk k' hk' e => ?_⟩,fun k hk k' hk' e => ?_⟩
  · subst e
    obtain ⟨t,h1 | h1⟩:=runs_first hs hn hk'<;>rw [hm.2 k hk] at h1<;>simp at h1
  · subst e
    obtain ⟨t,rfl⟩:=hd1 k hk
    rcases List.mem_append.1 hk' with h1 | h1
    · have:=hm.2 _ h1; simp at this
    · obtain ⟨u,h2 | h2⟩:=runs_first hs hn h1<;>simp at h2
theorem rows_ok {w:Wd} (h:WR w):Srt (rowsS w)∧(rowsS w).Perm (rowsL w):=by
  have hp:=rowsL_perm w
  obtain ⟨h1,h2⟩:=puts_ok (l0:=[]) (l:=metaPr w++(w.dags.map dagPr++runsPr w.runs)) List.Pairwise.nil (by
    rw [List.nil_append]; exact ((hp.map _).nodup_iff).2 (rows_nodup h))
  exact ⟨h1,h2.trans (by rw [List.nil_append]; exact hp)⟩
def noDag (d:Dag):Prop:=d.name=[]∧d.tasks.length=0
instance (d:Dag):Decidable (noDag d):=by unfold noDag; infer_instance
def bareP (c:Cmd):Prop :=
  if c.kind=1 then c.key=[]∧c.name=[]∧c.token=0∧c.time=0∧c.text=[]
  else if c.kind=2 then c.token=0∧c.time=0∧c.text=[]∧noDag c.dag
  else if c.kind=4∨c.kind=6 then c.key=[]∧c.name=[]∧c.time=0∧c.text=[]∧noDag c.dag
  else if c.kind=5 then c.key=[]∧c.name=[]∧c.time=0∧noDag c.dag
  else if c.kind=7∨c.kind=9 then c.name=[]∧c.token=0∧c.time=0∧c.text=[]∧noDag c.dag
  else if c.kind=8 then c.key=[]∧c.name=[]∧c.token=0∧c.text=[]∧noDag c.dag
  else c.key=[]∧c.name=[]∧c.token=0∧c.time=0∧c.text=[]∧noDag c.dag
instance (c:Cmd):Decidable (bareP c):=by unfold bareP; infer_instance
def fitP (c:Cmd):Prop:=c.key.length≤255∧c.name.length≤255∧c.text.length≤255∧0≤c.token∧c.token < 281474976710656∧0≤c.time∧c.time < 281474976710656
instance (c:Cmd):Decidable (fitP c):=by unfold fitP; infer_instance
def cmdP (c:Cmd):Prop:=1≤c.kind∧c.kind≤10∧bareP c∧fitP c∧(c.kind=1→refRightS c.dag=0)
instance (c:Cmd):Decidable (cmdP c):=by unfold cmdP; infer_instance
theorem dag_put1 (H:Hp) (b:Nat) (out:Str) (n k:Int) (hr:out.length≤1000000000) (hn:n≤9223372036854775807) (hb:b < H.n) (hm:H.m b=some (.arr 1 [.str out])) :
    ACall Tryz.prog 135 [.int .i64 n,.int .i64 k,.ptr b 0 0] H [b] (.tup []) [(b,some (.arr 1 [.str (out++(putS n k).1)]))] 0:=by
  refine ena135 (by simp) (by simp [lowL,V.low,hb]) (fun id hid => ?_) (by simp) ?_
  · simp at hid; subst hid
    exact ⟨hb,fun o ho => by rw [hm] at ho; simp at ho; subst ho; rfl⟩
  have q1:only [b] H.m b=some (.arr 1 [.str out]):=by simp [only,hm]
  have hpl:=putS_len n k
  simp (maxSteps:=1000000) (disch:=omega) only [rg,gD,simprocAttr,c135]
  refine ⟨_,code_put n k hn, ?_⟩
  simp (maxSteps:=1000000) (disch:=omega) only [rg,gD,simprocAttr,sV,q1]
  refine ⟨_,code_all .full [out,(putS n k).1] (by simp) (by simp at hr ⊢; omega), ?_⟩
  rw [two_flat]
  simp (maxSteps:=1000000) (disch:=omega) only [rg,gD,simprocAttr,q1]
  exact fin_An (l:=[]) rfl (.inl rfl) (by simp) (fun id => .inr (by by_cases h:id=b<;>simp [appd,upd,h]))
def okInt (n:Int):Prop:=n≤9223372036854775807
def okDagN (d:Dag):Prop:=∀ t∈d.tasks,(∀ x∈t.needs,okInt x)∧okInt t.tries∧okInt t.wait∧okInt t.lease
theorem dag_put (d:Dag) (hd:∀ t∈d.tasks,t.needs.length≤4611686018427387904) (hn:d.tasks.length≤4611686018427387904) (hi:okDagN d):PCall Tryz.prog 66 [dagV d] (sV (dagPutS d)):=by
  refine en66 (by simp) (by simp [closedL,V.closed,dagV_closed]) ?_
  have kr:=dag_right d hd hn
  rw [← right_same] at kr
  unfold dagV tasksV at kr
  simp (maxSteps:=1000000) (disch:=omega) only [rg,gD,simprocAttr,c66,dagV,tasksV]
  refine ⟨_,kr, ?_⟩
  by_cases c0:refRightS d=0
  case neg =>
    simp (maxSteps:=1000000) (disch:=omega) only [rg,gD,simprocAttr,c0]
    (refine fin_x rfl ?_ ?_<;>simp [pack,lo,loL,V.closed,closedL,mv_closed,sV,dagPutS,c0])
  obtain ⟨hfit,h10,h16,h1,hneeds⟩:=right_fit c0
  simp (maxSteps:=1000000) (disch:=omega) only [rg,gD,simprocAttr,c0]
  refine ⟨_,code_text d.name (by omega), ?_⟩
  have tl:=textS_len d.name
  have n1:=putS_len1 d.tasks.length
  simp (maxSteps:=1000000) (disch:=omega) only [rg,gD,simprocAttr,sV]
  refine ⟨_,_,_,_,dag_put1 _ 1 (textS d.name).1 d.tasks.length 1 (by omega) (by omega) (by simp) (by simp (disch:=omega) only [upd_eq,upd_ne,wo_0,wo_1,wo_2]), ?_⟩
  simp (maxSteps:=1000000) (disch:=omega) only [rg,gD,simprocAttr]
  have hD:dagPutS d=(((textS d.name).1++(putS d.tasks.length 1).1)++tsksB d.tasks,0):=by simp [dagPutS,c0,dagB]
  rw [hD]
  generalize hB:(textS d.name).1++(putS d.tasks.length 1).1=B
  have hBl:B.length≤100:=by rw [← hB]; simp; omega
  refine x_it d.tasks.length (fun i σ H => 2≤H.n∧H.m 1=some (.arr 1 [.str (B++tsksB (d.tasks.take i))])∧σ=[(5,.ptr 1 0 0),(7,.fn 135 [] [.ptr 1 0 0]),(30,tasksV d.tasks),(31,.int .i64 d.tasks.length),(32,.int .i64 i)]) ⟨Nat.le_refl 2,(by simp (disch:=omega) only [upd_eq,upd_ne,wo_0,wo_1,wo_2,tsksB,List.take_zero,List.map_nil,List.flatten_nil,List.append_nil]),rfl⟩ ?_
  rintro T i σ ⟨q,m⟩ hi' ⟨hq,e1,rfl⟩ hN hX hR
  simp only at hq e1
  simp (maxSteps:=1000000) (disch:=omega) only [rg,gD,simprocAttr,tasksV]
  refine ⟨fun h => ?_,fun h => ?_⟩
  · have i1:i < d.tasks.length:=by omega
    obtain ⟨g1,g2,g3,g4⟩:=hi _ (List.getElem_mem i1)
    have hnl:=hneeds _ (List.getElem_mem i1)
    have hq1:1≠q:=by omega
    have hsl:=tsksB_len (l:=d.tasks.take i) (N:=10) (fun t ht => hneeds t (List.mem_of_mem_take ht))
    rw [List.length_take] at hsl
    rw [tsksB_succ i1] at hN
    generalize tsksB (d.tasks.take i)=out at *
    have hol:(B++out).length≤1000:=by simp; omega
    simp (maxSteps:=1000000) (disch:=omega) only [rg,gD,simprocAttr,taskV,vI_len]
    generalize d.tasks[i]=t at *
    refine ⟨_,_,_,_,dag_put1 _ 1 (B++out) t.needs.length 1 (by omega) (by omega) (by show 1 < q+1; omega) (by simp (disch:=omega) only [upd_eq,upd_ne,wo_0,wo_1,wo_2,e1]), ?_⟩
    have m1:=putS_len1 t.needs.length
    simp (maxSteps:=1000000) (disch:=omega) only [rg,gD,simprocAttr,vI_len]
    refine x_it t.needs.length (fun j σ H => q+1≤H.n∧H.m q=some (.arr 4 [taskV t])∧H.m 1=some (.arr 1 [.str (((B++out)++(putS t.needs.length 1).1)++intsB (t.needs.take j))])∧σ=[(5,.ptr 1 0 0),(7,.fn 135 [] [.ptr 1 0 0]),(9,.ptr q 0 0),(30,tasksV d.tasks),(31,.int .i64 d.tasks.length),(32,.int .i64 i),(42,.fsl .loose 1 (vI t.needs)),(43,.int .i64 t.needs.length),(44,.int .i64 j)]) ⟨Nat.le_refl _,(by simp (disch:=omega) only [upd_eq,upd_ne,wo_0,wo_1,wo_2,taskV]),(by simp (disch:=omega) only [upd_eq,upd_ne,wo_0,wo_1,wo_2,intsB,List.take_zero,List.map_nil,List.flatten_nil,List.append_nil]),rfl⟩ ?_
    rintro T2 j σ ⟨q2,m2⟩ hj ⟨hq2,f0,f1,rfl⟩ hN2 hX2 hR2
    simp only at hq2 f0 f1
    unfold taskV at f0
    have hil:=intsB_len (t.needs.take j)
    rw [List.length_take] at hil
    have hol2:(((B++out)++(putS t.needs.length 1).1)++intsB (t.needs.take j)).length≤1020:=by rw [List.length_append,List.length_append]; omega
    simp (maxSteps:=1000000) (disch:=omega) only [rg,gD,simprocAttr]
    refine ⟨fun h => ?_,fun h => ?_⟩
    · have j1:j < t.needs.length:=by omega
      rw [intsB_succ j1] at hN2
      generalize intsB (t.needs.take j)=o2 at *
      simp (maxSteps:=1000000) (disch:=omega) only [rg,gD,simprocAttr,vI_get]
      refine ⟨_,_,_,_,dag_put1 _ 1 (((B++out)++(putS t.needs.length 1).1)++o2) t.needs[j] 1 (by omega) (g1 _ (List.getElem_mem j1)) (by show 1 < q2; omega) (by simp (disch:=omega) only [upd_eq,upd_ne,wo_0,wo_1,wo_2,f1]), ?_⟩
      simp (maxSteps:=1000000) (disch:=omega) only [rg,gD,simprocAttr]
      refine hN2 _ _ j1 ?_
      refine ⟨hq2,(by simp (disch:=omega) only [upd_eq,upd_ne,wo_0,wo_1,wo_2,f0,taskV]),(by simp (disch:=omega) only [upd_eq,upd_ne,wo_0,wo_1,wo_2,List.append_assoc]),rfl⟩
    · obtain rfl:j=t.needs.length:=by omega
      rw [List.take_length] at f1 hol2
      refine hX2 _ _ _ ?_
      simp (maxSteps:=1000000) (disch:=omega) only [rg,gD,simprocAttr]
      refine x_frz0 ?_
      have k3:=putS_len1 t.tries
      have k4:=putS_len3 t.wait
      generalize hO:((B++out)++(putS t.needs.length 1).1)++intsB t.needs=O at f1 hol2
      simp (maxSteps:=1000000) (disch:=omega) only [rg,gD,simprocAttr,f0]
      refine ⟨_,_,_,_,dag_put1 _ 1 O t.tries 1 (by omega) g2 (by show 1 < q2; omega) (by simp (disch:=omega) only [upd_eq,upd_ne,wo_0,wo_1,wo_2,f1]), ?_⟩
      simp (maxSteps:=1000000) (disch:=omega) only [rg,gD,simprocAttr,f0]
      refine ⟨_,_,_,_,dag_put1 _ 1 (O++(putS t.tries 1).1) t.wait 3 (by rw [List.length_append]; omega) g3 (by show 1 < q2; omega) (by simp (disch:=omega) only [upd_eq,upd_ne,wo_0,wo_1,wo_2]), ?_⟩
      simp (maxSteps:=1000000) (disch:=omega) only [rg,gD,simprocAttr,f0]
      refine ⟨_,_,_,_,dag_put1 _ 1 ((O++(putS t.tries 1).1)++(putS t.wait 3).1) t.lease 3 (by rw [List.length_append,List.length_append]; omega) g4 (by show 1 < q2; omega) (by simp (disch:=omega) only [upd_eq,upd_ne,wo_0,wo_1,wo_2]), ?_⟩
      simp (maxSteps:=1000000) (disch:=omega) only [rg,gD,simprocAttr]
      refine x_frz0 ?_
      simp (maxSteps:=1000000) (disch:=omega) only [rg,gD,simprocAttr]
      refine hN _ _ i1 ?_
      refine ⟨by show 2≤q2; omega, ?_,rfl⟩
      simp only [upd_eq]
      rw [← hO]
      simp only [tskB,List.append_assoc]
  · obtain rfl:i=d.tasks.length:=by omega
    rw [List.take_length] at e1
    refine hX _ _ _ ?_
    simp (maxSteps:=1000000) (disch:=omega) only [rg,gD,simprocAttr]
    refine x_frz0 ?_
    simp (maxSteps:=1000000) (disch:=omega) only [rg,gD,simprocAttr,e1]
    (refine fin_x rfl ?_ ?_<;>simp [pack,lo,loL,V.closed,closedL,mv_closed,sV])
theorem ref16_number (n k:Int) (hn:n≤9223372036854775807):PCall Tryz.prog 142 [.int .i64 n,.int .i64 k] (.str (putS n k).1):=by
  refine en142 (by simp) (by simp [closedL,V.closed]) ?_
  simp (maxSteps:=1000000) (disch:=omega) only [rg,gD,simprocAttr,c142]
  refine ⟨_,ref_put n k hn, ?_⟩
  simp (maxSteps:=1000000) (disch:=omega) only [rg,gD,simprocAttr,sV]
  (refine fin_x rfl ?_ ?_<;>simp [pack,lo,loL,V.closed,closedL,mv_closed])
theorem ref16_put (d:Dag) (hN:d.name.length≤1000000) (hd:∀ t∈d.tasks,t.needs.length≤100) (hn:d.tasks.length≤100) (hi:okDagN d):PCall Tryz.prog 76 [dagV d] (.str (dagB d)):=by
  refine en76 (by simp) (by simp [closedL,V.closed,dagV_closed]) ?_
  have tl:=textS_len d.name
  have n1:=putS_len1 d.tasks.length
  simp (maxSteps:=1000000) (disch:=omega) only [rg,gD,simprocAttr,c76,dagV,tasksV]
  refine ⟨_,ref_text d.name (by omega), ?_⟩
  simp (maxSteps:=1000000) (disch:=omega) only [rg,gD,simprocAttr,sV]
  refine ⟨_,ref16_number d.tasks.length 1 (by omega), ?_⟩
  simp (maxSteps:=1000000) (disch:=omega) only [rg,gD,simprocAttr]
  refine ⟨by omega, ?_⟩
  have hD:dagB d=((textS d.name).1++(putS d.tasks.length 1).1)++tsksB d.tasks:=rfl
  rw [hD]
  generalize hB:(textS d.name).1++(putS d.tasks.length 1).1=B
  have hBl:B.length≤1000100:=by rw [← hB]; simp; omega
  refine x_it d.tasks.length (fun i σ H => σ=[(5,.str (B++tsksB (d.tasks.take i))),(23,tasksV d.tasks),(24,.int .i64 d.tasks.length),(25,.int .i64 i)]) (by simp [tsksB,tasksV]) ?_
  rintro T i σ ⟨q,m⟩ hi' rfl hN hX hR
  simp (maxSteps:=1000000) (disch:=omega) only [rg,gD,simprocAttr,tasksV]
  refine ⟨fun h => ?_,fun h => ?_⟩
  · have i1:i < d.tasks.length:=by omega
    obtain ⟨g1,g2,g3,g4⟩:=hi _ (List.getElem_mem i1)
    have hnl:=hd _ (List.getElem_mem i1)
    have hsl:=tsksB_len (l:=d.tasks.take i) (N:=100) (fun t ht => hd t (List.mem_of_mem_take ht))
    rw [List.length_take] at hsl
    rw [tsksB_succ i1] at hN
    generalize tsksB (d.tasks.take i)=out at *
    have hol:(B++out).length≤1020000:=by simp; omega
    simp (maxSteps:=1000000) (disch:=omega) only [rg,gD,simprocAttr,taskV,vI_len]
    generalize d.tasks[i]=t at *
    have m1:=putS_len1 t.needs.length
    refine ⟨_,ref16_number t.needs.length 1 (by omega), ?_⟩
    simp (maxSteps:=1000000) (disch:=omega) only [rg,gD,simprocAttr,vI_len]
    refine ⟨by omega, ?_⟩
    refine x_it t.needs.length (fun j σ H => H.m q=some (.arr 4 [taskV t])∧σ=[(5,.str (((B++out)++(putS t.needs.length 1).1)++intsB (t.needs.take j))),(7,.ptr q 0 0),(23,tasksV d.tasks),(24,.int .i64 d.tasks.length),(25,.int .i64 i),(36,.fsl .loose 1 (vI t.needs)),(37,.int .i64 t.needs.length),(38,.int .i64 j)]) ⟨(by simp (disch:=omega) only [upd_eq,upd_ne,wo_0,wo_1,wo_2,taskV]),by simp [intsB,tasksV]⟩ ?_
    rintro T2 j σ ⟨q2,m2⟩ hj ⟨f0,rfl⟩ hN2 hX2 hR2
    simp only at f0
    unfold taskV at f0
    have hil:=intsB_len (t.needs.take j)
    rw [List.length_take] at hil
    have hol2:(((B++out)++(putS t.needs.length 1).1)++intsB (t.needs.take j)).length≤1030000:=by rw [List.length_append,List.length_append]; omega
    simp (maxSteps:=1000000) (disch:=omega) only [rg,gD,simprocAttr]
    refine ⟨fun h => ?_,fun h => ?_⟩
    · have j1:j < t.needs.length:=by omega
      have p1:=putS_len1 t.needs[j]
      rw [intsB_succ j1] at hN2
      generalize intsB (t.needs.take j)=o2 at *
      simp (maxSteps:=1000000) (disch:=omega) only [rg,gD,simprocAttr,vI_get]
      refine ⟨_,ref16_number t.needs[j] 1 (g1 _ (List.getElem_mem j1)), ?_⟩
      simp (maxSteps:=1000000) (disch:=omega) only [rg,gD,simprocAttr]
      refine ⟨by omega, ?_⟩
      refine hN2 _ _ j1 ?_
      refine ⟨(by simp (disch:=omega) only [upd_eq,upd_ne,wo_0,wo_1,wo_2,f0,taskV]), ?_⟩
      rw [List.append_assoc]; rfl
    · obtain rfl:j=t.needs.length:=by omega
      rw [List.take_length] at hol2 ⊢
      refine hX2 _ _ _ ?_
      simp (maxSteps:=1000000) (disch:=omega) only [rg,gD,simprocAttr]
      refine x_frz0 ?_
      have k3:=putS_len1 t.tries
      have k4:=putS_len3 t.wait
      have k5:=putS_len3 t.lease
      generalize hO:((B++out)++(putS t.needs.length 1).1)++intsB t.needs=O at hol2
      simp (maxSteps:=1000000) (disch:=omega) only [rg,gD,simprocAttr,f0]
      refine ⟨_,ref16_number t.tries 1 g2, ?_⟩
      simp (maxSteps:=1000000) (disch:=omega) only [rg,gD,simprocAttr,f0]
      refine ⟨by omega,_,ref16_number t.wait 3 g3, ?_⟩
      simp (maxSteps:=1000000) (disch:=omega) only [rg,gD,simprocAttr,f0,List.length_append]
      refine ⟨by omega,_,ref16_number t.lease 3 g4, ?_⟩
      simp (maxSteps:=1000000) (disch:=omega) only [rg,gD,simprocAttr,f0,List.length_append]
      refine ⟨by omega, ?_⟩
      refine x_frz0 ?_
      simp (maxSteps:=1000000) (disch:=omega) only [rg,gD,simprocAttr]
      refine hN _ _ i1 ?_
      rw [← hO]
      simp only [tskB,List.append_assoc,tasksV]
      rfl
  · obtain rfl:i=d.tasks.length:=by omega
    rw [List.take_length]
    refine hX _ _ _ ?_
    simp (maxSteps:=1000000) (disch:=omega) only [rg,gD,simprocAttr]
    refine x_frz0 ?_
    simp (maxSteps:=1000000) (disch:=omega) only [rg,gD,simprocAttr]
    (refine fin_x rfl ?_ ?_<;>simp [pack,lo,loL,V.closed,closedL,mv_closed])
section
theorem sttsPr_succ (r:Rn) (i:Nat) (hi:i < r.states.length):sttsPr r (i+1)=sttsPr r i++[sttPr r i r.states[i]]:=by
  simp [sttsPr,List.range_succ,List.map_append,hi]
theorem sttsPr_len (r:Rn) (i:Nat):(sttsPr r i).length=i:=by simp [sttsPr]
theorem runsPr_take {l:List Rn} {j:Nat} (h:j < l.length):runsPr (l.take (j+1))=runsPr (l.take j)++runPrs l[j]:=by
  rw [List.take_succ_eq_append_getElem h,runsPr,List.flatMap_append,List.flatMap_singleton]; rfl
theorem runsPr_len:∀ {l:List Rn},(∀ r∈l,r.states.length≤10)→(runsPr l).length≤l.length*11
  | [],_ => by simp [runsPr]
  | r::l,h => by
    have:=runsPr_len (l:=l) fun x hx => h x (by simp [hx])
    have h0:=h r (by simp)
    have e:runsPr (r::l)=runPrs r++runsPr l:=by simp [runsPr]
    rw [e,List.length_append,runPrs,List.length_cons,sttsPr_len,List.length_cons]; omega
theorem dags_take {l:List Dag} {j:Nat} (h:j < l.length):(l.take (j+1)).map dagPr=(l.take j).map dagPr++[dagPr l[j]]:=by
  rw [List.take_succ_eq_append_getElem h,List.map_append]; rfl
theorem i64_of (s:Stt) (h:standsS s=true):i64S s:=by
  have:=(standsS_iff _).1 h
  unfold i64S; unfold MT at this; omega
theorem setC_dag0 (d:Dag):setC (some 2) 0 (V.agg [V.str [],V.fsl .nil 4 []]) (dagV d)=some (dagV d):=rfl
theorem getC_wnow (w:Wd):getC none 0 (wdV w)=some (.int .i64 w.now):=rfl
theorem getC_wtok (w:Wd):getC none 1 (wdV w)=some (.int .i64 w.token):=rfl
theorem getC_wrs2 (w:Wd):getC none 3 (wdV w)=some (.fsl .loose 5 (mv rnV w.runs)):=rfl
theorem getC_wd2 (w:Wd):getC none 2 (wdV w)=some (.fsl .loose 2 (mv dagV w.dags)):=rfl
theorem put_fits {n k:Int} (h:(putS n k).2=0):n≤9223372036854775807:=by
  unfold putS at h
  split at h
  · cases h
  · rename_i c
    have hk:k.toNat≤6:=by omega
    have h1:(256:Int) ^ k.toNat≤256 ^ 6:=by
      have:=Nat.pow_le_pow_right (n:=256) (by decide) hk
      exact_mod_cast this
    have h2:(256:Int) ^ 6=281474976710656:=by decide
    omega
theorem dag_N {d:Dag} (h:dagRightS d=0):okDagN d:=by
  rw [← right_same] at h
  obtain ⟨⟨_,_,hf⟩,_⟩:=right_fit h
  intro t ht
  obtain ⟨_,f2,f3,f4,f5⟩:=hf t ht
  exact ⟨fun x hx => put_fits (f2 x hx),put_fits f3,put_fits f4,put_fits f5⟩
theorem dag_pr {d:Dag} (h:dagRightS d=0):dagPutS d=(dagB d,0):=by
  unfold dagPutS; rw [right_same,if_pos h]
theorem dag_nl {d:Dag} (h:dagRightS d=0):d.name.length≤16:=by
  rw [← right_same] at h
  exact (right_fit h).2.2.1
open Classical in
set_option maxHeartbeats 2000000 in
theorem rows_rows (w:Wd) (ok:WdM w):PCall Tryz.prog 26 [wdV w] (.tup [prsV (if WR w then rowsS w else []),.int .i64 (if WR w then 0 else 1)]):=by
  refine en26 (by simp) (by simp [closedL,wdV_closed]) ?_
  have hwr:=world_right w ok.ok
  by_cases hw:WR w
  case neg =>
    rw [decide_eq_false hw] at hwr
    simp (maxSteps:=1000000) (disch:=omega) only [rg,gD,simprocAttr,c26,getC_wd]
    refine ⟨⟨rfl,rfl⟩,_,hwr, ?_⟩
    simp (maxSteps:=1000000) (disch:=omega) only [rg,gD,simprocAttr]
    refine x_frz0 ?_
    simp (maxSteps:=1000000) (disch:=omega) only [rg,gD,simprocAttr]
    (refine fin_x rfl ?_ ?_<;>simp [pack,lo,loL,V.closed,closedL,mv_closed,hw,prsV,mv_nil])
  rw [decide_eq_true hw] at hwr
  have hnd:=hw.ndags
  have hnr:=hw.nruns
  have hfew:=hw.few
  have hL:rowsL w=w.dags.map dagPr++(metaPr w++runsPr w.runs):=rfl
  have hML:(metaPr w).length≤1:=by unfold metaPr; split<;>simp
  have hRL:=runsPr_len hfew
  simp (maxSteps:=1000000) (disch:=omega) only [rg,gD,simprocAttr,c26,getC_wd]
  refine ⟨⟨rfl,rfl⟩,_,hwr, ?_⟩
  simp (maxSteps:=1000000) (disch:=omega) only [rg,gD,simprocAttr,getC_wd2,mv_len]
  refine x_it w.dags.length (fun i σ H => 2≤H.n∧H.m 0=some (.arr 4 [wdV w])∧(∃ v,H.m 1=some (.arr 1 [v])∧Gro 2 H.n H.m 2 v (mv prV ((w.dags.take i).map dagPr))) ∧
    σ=[(1,.ptr 0 0 0),(4,.ptr 1 0 0),(5,.fn 65 [] [.ptr 1 0 0]),(23,.fsl .loose 2 (mv dagV w.dags)),(24,.int .i64 (w.dags.length:Int)),(25,.int .i64 (i:Int))]) ⟨Nat.le_refl 2,(by simp (disch:=omega) only [upd_eq,upd_ne,wo_0,wo_1,wo_2]),⟨_,(by simp (disch:=omega) only [upd_eq,upd_ne,wo_0,wo_1,wo_2]),.nil⟩,rfl⟩ ?_
  rintro T i σ ⟨n,m⟩ hii ⟨hn,e0,⟨v,e1,hg⟩,rfl⟩ hN hX hR
  simp only at hn e0 e1 hg
  by_cases hi:i < w.dags.length
  · have hdm:=hw.dags _ (List.getElem_mem hi)
    have okd:=ok.ok.dag _ (List.getElem_mem hi)
    have hpd:=dag_put w.dags[i] okd.2 okd.1 (dag_N hdm)
    rw [dag_pr hdm] at hpd
    have hnl:=dag_nl hdm
    simp only [sV] at hpd
    obtain ⟨d,hd⟩:∃ d,d=w.dags[i]:=⟨_,rfl⟩
    have htk:=dags_take hi
    rw [← hd] at hpd htk hdm hnl
    have n0:(0:Nat)≠n:=by omega
    have n1:(1:Nat)≠n:=by omega
    simp (maxSteps:=1000000) (disch:=omega) only [rg,gD,simprocAttr,show (i:Int) < w.dags.length by omega,mv_get hi,← hd,Int.toNat_natCast,getC_dags,setC_dag0]
    refine ⟨_,hpd, ?_⟩
    simp (maxSteps:=1000000) (disch:=omega) only [rg,gD,simprocAttr,dagV]
    refine ⟨_,code_all .full [[100],d.name] (by simp) (by simp<;>omega), ?_⟩
    rw [two_flat]
    simp (maxSteps:=1000000) (disch:=omega) only [rg,gD,simprocAttr]
    refine add_step (lo:=2) (v:=v) (l:=(w.dags.take i).map dagPr) (by decide) (by simp only []; omega) (by simp (disch:=omega) only [upd_eq,upd_ne,wo_0,wo_1,wo_2,e1]) (hg.keep (by simp only []; omega) (fun id h1 h2 => by simp (disch:=omega) only [upd_ne])) (by simp; omega) fun v' fp ds hG hB hO => ?_
    have o0:=hO 0 (by simp only []; omega) (by omega) (hg.not (by omega))
    simp (disch:=omega) only [upd_ne,upd_eq,e0] at o0
    simp (maxSteps:=1000000) (disch:=omega) only [rg,gD,simprocAttr]
    have hG2:Gro 2 (n+1+1) _ 2 v' (mv prV ((w.dags.take (i+1)).map dagPr)):=htk ▸ hG.low (by simp only []; omega)
    exact hN _ _ hi ⟨by show 2≤n+2; omega,o0,⟨v',hB,hG2⟩,rfl⟩
  · obtain rfl:i=w.dags.length:=by omega
    rw [List.take_length] at hg
    simp (maxSteps:=1000000) (disch:=omega) only [rg,gD,simprocAttr,show ¬ (w.dags.length:Int) < w.dags.length by omega]
    refine hX _ _ _ ?_
    simp (maxSteps:=1000000) (disch:=omega) only [rg,gD,simprocAttr]
    refine x_frz0 ?_
    clear hN hX hR
    obtain ⟨M,hMd⟩:∃ M:Sg→Hp→Prop,∀ σ' H',M σ' H'↔(2≤H'.n∧H'.m 0=some (.arr 4 [wdV w])∧(∃ v,H'.m 1=some (.arr 1 [v])∧Gro 2 H'.n H'.m 2 v (mv prV (w.dags.map dagPr++metaPr w))) ∧
      find 1 σ'=some (.ptr 0 0 0)∧find 4 σ'=some (.ptr 1 0 0)∧find 5 σ'=some (.fn 65 [] [.ptr 1 0 0])):=⟨_,fun _ _ => Iff.rfl⟩
    refine ⟨M, ?_, ?_⟩
    · by_cases c:0 < w.now∨0 < w.token
      · have hmeta:metaPr w=[([109],(putS w.now 6).1++(putS w.token 6).1)]:=by unfold metaPr; rw [if_pos c]
        have t1:=hw.now.2
        have t2:=hw.token.2
        unfold MT at t1 t2
        have p1:=putS_len w.now 6
        have p2:=putS_len w.token 6
        by_cases c1:0 < w.now
        · simp (maxSteps:=1000000) (disch:=omega) only [rg,gD,simprocAttr,e0,getC_wnow,getC_wtok,c1]
          refine ⟨_,rows_number w.now 6 (by omega), ?_⟩
          simp (maxSteps:=1000000) (disch:=omega) only [rg,gD,simprocAttr,e0,getC_wtok]
          refine ⟨_,rows_number w.token 6 (by omega), ?_⟩
          simp (maxSteps:=1000000) (disch:=omega) only [rg,gD,simprocAttr]
          refine ⟨_,code_all .full [(putS w.now 6).1,(putS w.token 6).1] (by simp) (by simp<;>omega), ?_⟩
          rw [two_flat]
          simp (maxSteps:=1000000) (disch:=omega) only [rg,gD,simprocAttr]
          refine add_step (lo:=2) (v:=v) (l:=w.dags.map dagPr) (by decide) hn e1 hg (by simp; omega) fun v' fp ds hG hB hO => ?_
          have o0:=(hO 0 (by show 0 < n; omega) (by omega) (hg.not (by omega))).trans e0
          simp (maxSteps:=1000000) (disch:=omega) only [rg,gD,simprocAttr]
          exact (hMd _ _).2 ⟨by show 2≤n+1; omega,o0,⟨v',hB,by rw [hmeta]; exact hG.low hn⟩,rfl,rfl,rfl⟩
        · have c2:0 < w.token:=c.resolve_left c1
          simp (maxSteps:=1000000) (disch:=omega) only [rg,gD,simprocAttr,e0,getC_wnow,getC_wtok,c1,c2]
          refine ⟨_,rows_number w.now 6 (by omega), ?_⟩
          simp (maxSteps:=1000000) (disch:=omega) only [rg,gD,simprocAttr,e0,getC_wtok]
          refine ⟨_,rows_number w.token 6 (by omega), ?_⟩
          simp (maxSteps:=1000000) (disch:=omega) only [rg,gD,simprocAttr]
          refine ⟨_,code_all .full [(putS w.now 6).1,(putS w.token 6).1] (by simp) (by simp<;>omega), ?_⟩
          rw [two_flat]
          simp (maxSteps:=1000000) (disch:=omega) only [rg,gD,simprocAttr]
          refine add_step (lo:=2) (v:=v) (l:=w.dags.map dagPr) (by decide) hn e1 hg (by simp; omega) fun v' fp ds hG hB hO => ?_
          have o0:=(hO 0 (by show 0 < n; omega) (by omega) (hg.not (by omega))).trans e0
          simp (maxSteps:=1000000) (disch:=omega) only [rg,gD,simprocAttr]
          exact (hMd _ _).2 ⟨by show 2≤n+1; omega,o0,⟨v',hB,by rw [hmeta]; exact hG.low hn⟩,rfl,rfl,rfl⟩
      · have hmeta:metaPr w=[]:=by unfold metaPr; rw [if_neg c]
        have c1:¬ 0 < w.now:=fun h => c (.inl h)
        have c2:¬ 0 < w.token:=fun h => c (.inr h)
        simp (maxSteps:=1000000) (disch:=omega) only [rg,gD,simprocAttr,e0,getC_wnow,getC_wtok,c1,c2]
        exact (hMd _ _).2 ⟨hn,e0,⟨v,e1,by rw [hmeta,List.append_nil]; exact hg⟩,rfl,rfl,rfl⟩
    · rintro σ' ⟨n',m'⟩ hm
      obtain ⟨hn',f0,⟨v',f1,hg'⟩,s1,s4,s5⟩:=(hMd _ _).1 hm
      simp only at hn' f0 f1 hg'
      clear hm hMd M e0 e1 hg
      simp (maxSteps:=1000000) (disch:=omega) only [rg,gD,simprocAttr,s1,s4,s5,f0,getC_wrs2,mv_len]
      have hB0:(w.dags.map dagPr++metaPr w).length≤17:=by simp; omega
      generalize hbase:w.dags.map dagPr++metaPr w=base at hg' hB0
      have hLb:rowsL w=base++runsPr w.runs:=by rw [hL,← hbase,List.append_assoc]
      refine x_it w.runs.length (fun j σ H => 2≤H.n∧(∃ v,H.m 1=some (.arr 1 [v])∧Gro 2 H.n H.m 2 v (mv prV (base++runsPr (w.runs.take j)))) ∧
        σ=[(4,.ptr 1 0 0),(5,.fn 65 [] [.ptr 1 0 0]),(61,.fsl .loose 5 (mv rnV w.runs)),(62,.int .i64 (w.runs.length:Int)),(63,.int .i64 (j:Int))]) ⟨hn',⟨v',f1,by simpa [runsPr] using hg'⟩,rfl⟩ ?_
      clear s1 s4 s5 hg' f0 f1 hn' hi hii hn hwr
      clear v v' m n
      rintro T j σ ⟨n,m⟩ hjj ⟨hn,⟨v,e1,hg⟩,rfl⟩ hN hX hR
      simp only at hn e1 hg
      by_cases hj:j < w.runs.length
      · obtain ⟨r,hr⟩:∃ r,r=w.runs[j]:=⟨_,rfl⟩
        have hmem:r∈w.runs:=hr ▸ List.getElem_mem hj
        have hrr:=(hw.runs r hmem).2
        have hst:=hfew r hmem
        have htk:=runsPr_take hj
        have hpl:=runsPr_len (l:=w.runs.take j) (fun x hx => hfew x (List.mem_of_mem_take hx))
        rw [List.length_take] at hpl
        rw [← hr] at htk
        have hkl:=hrr.name.2
        have hnl:=dag_nl hrr.dag
        have tl:=textS_len r.dag.name
        have his:r.is≤9223372036854775807:=by have:=hrr.kind; unfold kindS at this; (repeat' split at this)<;>omega
        have p1:=putS_len r.is 1
        have n1:(1:Nat)≠n:=by omega
        simp (maxSteps:=1000000) (disch:=omega) only [rg,gD,simprocAttr,show (j:Int) < w.runs.length by omega,mv_get hj,← hr,Int.toNat_natCast,getC_runs,setC_rn0,rnV]
        refine ⟨_,code_text r.dag.name (by omega), ?_⟩
        simp (maxSteps:=1000000) (disch:=omega) only [rg,gD,simprocAttr,sV]
        refine ⟨_,code_all .full [[114],r.key] (by simp) (by simp<;>omega), ?_⟩
        rw [two_flat]
        simp (maxSteps:=1000000) (disch:=omega) only [rg,gD,simprocAttr]
        refine ⟨_,rows_number r.is 1 his, ?_⟩
        simp (maxSteps:=1000000) (disch:=omega) only [rg,gD,simprocAttr]
        refine ⟨_,code_all .full [(putS r.is 1).1,(textS r.dag.name).1] (by simp) (by simp<;>omega), ?_⟩
        rw [two_flat]
        simp (maxSteps:=1000000) (disch:=omega) only [rg,gD,simprocAttr]
        refine add_step (lo:=2) (v:=v) (l:=base++runsPr (w.runs.take j)) (by decide) (by simp only []; omega) (by simp (disch:=omega) only [upd_eq,upd_ne,wo_0,wo_1,wo_2,e1]) (hg.keep (by simp only []; omega) (fun id h1 h2 => by simp (disch:=omega) only [upd_ne])) (by simp; omega) fun v' fp ds hG hB hO => ?_
        simp only [sttsV] at hG hB hO ⊢
        have b0:=hO n (Nat.lt_succ_self n) (by omega) (hg.not (by omega))
        simp (disch:=omega) only [upd_ne,upd_eq] at b0
        simp (maxSteps:=1000000) (disch:=omega) only [rg,gD,simprocAttr,b0,mv_len]
        have hG2:Gro (n+1) (n+1+1) _ 2 v' (mv prV ((base++runsPr (w.runs.take j))++runPr r::sttsPr r 0)):=hG
        refine x_it r.states.length (fun i σ H => n+1≤H.n∧H.m n=some (.arr 5 [.agg [.str r.key,.str r.dag.name,tasksV r.dag.tasks,.int .i64 r.is,.fsl .loose 5 (mv sttV r.states)]]) ∧
          (∃ v,H.m 1=some (.arr 1 [v])∧Gro (n+1) H.n H.m 2 v (mv prV ((base++runsPr (w.runs.take j))++runPr r::sttsPr r i))) ∧
          σ=[(4,.ptr 1 0 0),(5,.fn 65 [] [.ptr 1 0 0]),(11,.ptr n 0 0),(61,.fsl .loose 5 (mv rnV w.runs)),(62,.int .i64 (w.runs.length:Int)),(63,.int .i64 (j:Int)),(87,.fsl .loose 5 (mv sttV r.states)),(88,.int .i64 (r.states.length:Int)),(89,.int .i64 (i:Int))])
          ⟨Nat.le_succ _,b0,⟨v',hB,hG2⟩,rfl⟩ ?_
        clear hG2 hG hB hO b0 hg e1
        clear v v' fp ds m
        rintro T2 i σ ⟨n2,m⟩ hii ⟨hn2,b0,⟨v,e1,hg⟩,rfl⟩ hN2 hX2 hR2
        simp only at hn2 b0 e1 hg
        by_cases hi:i < r.states.length
        · obtain ⟨s,hs⟩:∃ s,s=r.states[i]:=⟨_,rfl⟩
          have hsm:s∈r.states:=hs ▸ List.getElem_mem hi
          have hstd:=hrr.stands s hsm
          have hsk:=sttsPr_succ r i hi
          rw [← hs] at hsk
          have htp:=task_put s (by have:=(standsS_iff s).1 hstd; omega) (i64_of s hstd)
          rw [show stPutS s=(stBytes s,0) by unfold stPutS; rw [if_pos hstd]] at htp
          simp only [sV] at htp
          have p2:=putS_len i 1
          have m1:(1:Nat)≠n2:=by omega
          have m2:n≠n2:=by omega
          simp (maxSteps:=1000000) (disch:=omega) only [rg,gD,simprocAttr,show (i:Int) < r.states.length by omega,mv_get hi,← hs,Int.toNat_natCast,sttV]
          refine ⟨_,htp, ?_⟩
          simp (maxSteps:=1000000) (disch:=omega) only [rg,gD,simprocAttr,b0]
          refine ⟨_,rows_number i 1 (by omega), ?_⟩
          simp (maxSteps:=1000000) (disch:=omega) only [rg,gD,simprocAttr]
          refine ⟨_,code_all .full [[116],r.key,(putS i 1).1] (by simp) (by simp<;>omega), ?_⟩
          rw [show ([[116],r.key,(putS i 1).1]:List Str).flatten=([116]++r.key)++(putS i 1).1 by simp]
          simp (maxSteps:=1000000) (disch:=omega) only [rg,gD,simprocAttr]
          refine add_step (lo:=n+1) (v:=v) (l:=(base++runsPr (w.runs.take j))++runPr r::sttsPr r i) (by omega) (by simp only []; omega) (by simp (disch:=omega) only [upd_eq,upd_ne,wo_0,wo_1,wo_2,e1]) (hg.keep (by simp only []; omega) (fun id h1 h2 => by simp (disch:=omega) only [upd_ne])) (by simp [sttsPr_len]; omega) fun v' fp ds hG hB hO => ?_
          have b1:=hO n (by simp only []; omega) (by omega) (hg.not (by omega))
          simp (disch:=omega) only [upd_ne,upd_eq,b0] at b1
          simp (maxSteps:=1000000) (disch:=omega) only [rg,gD,simprocAttr]
          have e5:((base++runsPr (w.runs.take j))++runPr r::sttsPr r i)++[(116::(r.key++(putS i 1).1),stBytes s)]=(base++runsPr (w.runs.take j))++runPr r::sttsPr r (i+1):=by
            rw [hsk]; simp [sttPr]
          rw [e5] at hG
          exact hN2 _ _ hi ⟨by show n+1≤n2+2; omega,b1,⟨v',hB,hG.low (by simp only []; omega)⟩,rfl⟩
        · obtain rfl:i=r.states.length:=by omega
          simp (maxSteps:=1000000) (disch:=omega) only [rg,gD,simprocAttr,Int.lt_irrefl]
          refine hX2 _ _ _ ?_
          simp (maxSteps:=1000000) (disch:=omega) only [rg,gD,simprocAttr]
          refine x_frz0 ?_
          simp (maxSteps:=1000000) (disch:=omega) only [rg,gD,simprocAttr]
          refine hN _ _ hj ⟨by show 2≤n2; omega,⟨v,e1, ?_⟩,rfl⟩
          rw [htk]
          have:base++(runsPr (w.runs.take j)++runPrs r)=(base++runsPr (w.runs.take j))++runPr r::sttsPr r r.states.length:=by simp [runPrs]
          rw [this]; exact hg.low (by omega)
      · simp (maxSteps:=1000000) (disch:=omega) only [rg,gD,simprocAttr,show ¬ (j:Int) < w.runs.length by omega]
        refine hX _ _ _ ?_
        simp (maxSteps:=1000000) (disch:=omega) only [rg,gD,simprocAttr]
        obtain rfl:j=w.runs.length:=by omega
        rw [List.take_length,← hLb] at hg
        clear hN hX hR
        refine x_frz0 ?_
        obtain ⟨s1,s2⟩:=rows_ok hw
        rw [eq_true hw]
        simp only [if_true]
        have hlen:(rowsL w).length≤1000:=by rw [hLb]; simp; omega
        rcases hg with ⟨st,h0,rfl,hnil⟩ | ⟨id,h1,h2,rfl,h3⟩
        · have hz:rowsL w=[]:=by cases hh:rowsL w<;>simp [hh,mv] at hnil ⊢
          rw [hz] at s2
          have hS:rowsS w=[]:=s2.eq_nil
          rw [hS]
          simp (maxSteps:=1000000) (disch:=omega) only [rg,gD,simprocAttr,e1]
          refine ⟨_,_,_,_,rows_sort0 st _ _, ?_⟩
          simp (maxSteps:=1000000) (disch:=omega) only [rg,gD,simprocAttr,e1]
          refine x_frz0 ?_
          simp (maxSteps:=1000000) (disch:=omega) only [rg,gD,simprocAttr]
          (refine fin_x rfl ?_ ?_<;>simp [pack,lo,loL,V.closed,closedL,mv_closed,prsV,mv_nil])
        · rw [mv_len] at *
          have hsort:sortP cmpP (rowsL w)=rowsS w:=sort_is (rows_nodup hw) s1 s2
          have hd1:(1:Nat)≠id:=by omega
          by_cases hne:rowsL w=[]
          · rw [hne] at s2 h3 e1
            have hS:rowsS w=[]:=s2.eq_nil
            rw [hS]
            simp (maxSteps:=1000000) (disch:=omega) only [rg,gD,simprocAttr,e1,List.length_nil]
            refine ⟨_,_,_,_,rows_sort1 id _ _, ?_⟩
            simp (maxSteps:=1000000) (disch:=omega) only [rg,gD,simprocAttr,e1,List.length_nil]
            refine x_frz [id] ?_; simp only [vr,frz_p]; rw [frz_row (id:=id) (sz:=2) (l:=[]) (by first | assumption | (simp [upd]; done) | (simp [upd, *]; done)) (by simp) (by first | rfl | (simp [mv_len,s2.length_eq,closedL]<;>omega)) (by simp [mv_closed,V.closed,s2.length_eq,closedL])]
            simp (maxSteps:=1000000) (disch:=omega) only [rg,gD,simprocAttr]
            (refine fin_x rfl ?_ ?_<;>simp [pack,lo,loL,V.closed,closedL,mv_closed,prsV,mv_nil])
          simp (maxSteps:=1000000) (disch:=omega) only [rg,gD,simprocAttr,e1]
          refine ⟨_,_,_,_,rows_sort (l:=rowsL w) h3 hne (by omega), ?_⟩
          rw [hsort]
          simp (maxSteps:=1000000) (disch:=omega) only [rg,gD,simprocAttr,e1]
          refine x_frz [id] ?_; simp only [vr,frz_p]; rw [frz_row (id:=id) (sz:=2) (l:=mv prV (rowsS w)) (by first | assumption | (simp [upd]; done) | (simp [upd, *]; done)) (by simp) (by first | rfl | (simp [mv_len,s2.length_eq,prV_closed]<;>omega)) (by simp [mv_closed,V.closed,s2.length_eq,prV_closed])]
          simp (maxSteps:=1000000) (disch:=omega) only [rg,gD,simprocAttr]
          (refine fin_x rfl ?_ ?_<;>simp [pack,lo,loL,V.closed,closedL,mv_closed,prsV,prV_closed,mv_lo prV_lo])
end
section
theorem app_one {H:Hp} {v:V} {l:List V} {a:V} {K:KI} (h:Gro 0 H.n H.m 2 v l) (hl:l.length≤1000000)
    (k:∀ v' fp ds,Gro H.n (H.n+1) (appd ds H.m) 2 v' (l++[a])→(∀ id,id < H.n→(∀ q,v≠.sl id 0 q)→appd ds H.m id=H.m id)→K v' fp ds 1):fin (appO H 2 32 v (.fsl .full 2 [a])) K:=by
  have e:(l++[a]).length=l.length+1:=List.length_append
  unfold appO
  rcases h with ⟨st,h0,rfl,rfl⟩ | ⟨id,h1,h1',rfl,h2⟩
  · refine ⟨⟨rfl,rfl,h0,by simp⟩,k _ _ _ (.inr ⟨H.n,Nat.le_refl _,by simp,by simp,by simp [appd,upd]⟩) (fun id hid _ => ?_)⟩
    have:id≠H.n:=by omega
    simp [appd,upd,this]
  · simp only [h2]
    refine ⟨⟨rfl,trivial,trivial,Nat.le_refl _,by simp; omega⟩,k _ _ _ (.inr ⟨H.n,Nat.le_refl _,by simp,by simp,by simp [appd,upd]⟩) (fun i hid hn => ?_)⟩
    have h3:i≠H.n:=by omega
    have h4:i≠id:=fun e => hn _ (by rw [e])
    simp [appd,upd,h3,h4]
theorem getC_pr0 (p:Pr):getC none 0 (prV p)=some (.str p.1):=rfl
theorem getC_pr (p:Pr):getC (some 2) 0 (prV p)=some (prV p):=rfl
theorem setC_pr0 (p:Pr):setC (some 2) 0 (V.agg [.str [],.str []]) (prV p)=some (prV p):=rfl
theorem withP_cons (k v:Str) (put:Bool) (p:Pr) (l:List Pr):withP k v put (p::l)=((if put=false∧ltS p.1 k=false then [(k,v)] else [])++if p.1≠k then [p] else [])++withP k v (put || !ltS p.1 k) l:=rfl
set_option maxHeartbeats 1000000 in
theorem ref_with8 (l:List Pr) (k v:Str) (hl:l.length≤100000):PCall Tryz.prog 74 [prsV l,.str k,.str v] (prsV (withP k v false l)):=by
  refine en74 (by simp) (by simp [closedL,prsV_closed,V.closed]) ?_
  simp (maxSteps:=1000000) (disch:=omega) only [rg,gD,simprocAttr,c74,prsV,mv_len]
  refine x_it l.length (fun j σ H => ∃ acc put vv,withP k v false l=acc++withP k v put (l.drop j)∧acc.length≤2*j∧Gro 0 H.n H.m 2 vv (mv prV acc) ∧
    σ=[(1,.str k),(2,.str v),(7,vv),(8,.bool put),(12,.fsl .loose 2 (mv prV l)),(13,.int .i64 (l.length:Int)),(14,.int .i64 (j:Int))]) ⟨[],false,.fsl .full 2 [],rfl,by simp,.full,rfl⟩ ?_
  rintro T j σ ⟨n,m⟩ hjj ⟨acc,put,vv,hw,ha,hg,rfl⟩ hN hX hR
  simp only at hg
  by_cases hj:j < l.length
  · obtain ⟨p,hp⟩:∃ p,p=l[j]:=⟨_,rfl⟩
    rw [List.drop_eq_getElem_cons hj,← hp,withP_cons] at hw
    simp (maxSteps:=1000000) (disch:=omega) only [rg,gD,simprocAttr,show (j:Int) < l.length by omega]
    refine x_cutE ?_
    simp (maxSteps:=1000000) (disch:=omega) only [rg,gD,simprocAttr,mv_get hj,← hp,Int.toNat_natCast,getC_pr,setC_pr0]
    obtain ⟨M,hMd⟩:∃ M:Sg→Hp→Prop,∀ σ' H',M σ' H'↔(∃ vv',Gro 0 H'.n H'.m 2 vv' (mv prV (acc++if put=false∧ltS p.1 k=false then [(k,v)] else []))∧H'.m n=some (.arr 2 [prV p])∧(∀ q,vv'≠.sl n 0 q)∧n < H'.n∧find 7 σ'=some vv'∧find 8 σ'=some (.bool (put || !ltS p.1 k)) ∧
      find 1 σ'=some (.str k)∧find 2 σ'=some (.str v)∧find 10 σ'=some (.ptr n 0 0)∧find 12 σ'=some (.fsl .loose 2 (mv prV l))∧find 13 σ'=some (.int .i64 (l.length:Int))∧find 14 σ'=some (.int .i64 (j:Int))):=⟨_,fun _ _ => Iff.rfl⟩
    refine ⟨M, ?_, ?_⟩
    · have hg1:∀ o,Gro 0 (n+1) (upd (upd m n o) n (some (.arr 2 [prV p]))) 2 vv (mv prV acc):=fun o => hg.keep (Nat.le_succ _) (fun id h1 h2 => by simp (disch:=omega) only [upd_ne])
      have hnv:∀ q,vv≠.sl n 0 q:=hg.not (by omega)
      cases put with
      | true =>
        simp (maxSteps:=1000000) (disch:=omega) only [rg,gD,simprocAttr]
        refine (hMd _ _).2 ⟨vv,by simpa using hg1 _,(by simp (disch:=omega) only [upd_eq,upd_ne,wo_0,wo_1,wo_2]),hnv,by show n < n+1; omega,rfl,by simp [find],rfl,rfl,rfl,rfl,rfl,rfl⟩
      | false =>
        cases hlt:ltS p.1 k with
        | true =>
          have hlt':Op.bytesLess p.1 k=true:=hlt
          simp (maxSteps:=1000000) (disch:=omega) only [rg,gD,simprocAttr,getC_pr0,hlt']
          refine (hMd _ _).2 ⟨vv,by simpa [hlt] using hg1 _,(by simp (disch:=omega) only [upd_eq,upd_ne,wo_0,wo_1,wo_2]),hnv,by show n < n+1; omega,rfl,by simp [find,hlt],rfl,rfl,rfl,rfl,rfl,rfl⟩
        | false =>
          have hlt':Op.bytesLess p.1 k=false:=hlt
          simp (maxSteps:=1000000) (disch:=omega) only [rg,gD,simprocAttr,getC_pr0,hlt']
          refine app_one (hg1 _) (by rw [mv_len]; omega) fun v' fp ds hG hO => ?_
          rw [x_nx]
          refine ⟨by simp only [compat_nil], ?_⟩
          simp (maxSteps:=1000000) (disch:=omega) only [rg,gD,simprocAttr]
          refine (hMd _ _).2 ⟨v',by simpa [hlt,mv,prV] using hG.low (Nat.zero_le _),(hO n (Nat.lt_succ_self n) hnv).trans (by simp (disch:=omega) only [upd_eq,upd_ne,wo_0,wo_1,wo_2]),hG.not (by simp only []; omega),by show n < n+2; omega,rfl,by simp [find,hlt],rfl,rfl,rfl,rfl,rfl,rfl⟩
    · rintro σ' ⟨n',m'⟩ hm
      obtain ⟨vv',hg',hbox,hnv,hn',s7,s8,s1,s2,s10,s12,s13,s14⟩:=(hMd _ _).1 hm
      simp only at hg' hbox hn'
      clear hm hMd M
      have hacc:(acc++if put=false∧ltS p.1 k=false then [(k,v)] else []).length≤2*j+1:=by rw [List.length_append]; split<;>simp<;>omega
      have hw2:withP k v false l=((acc++if put=false∧ltS p.1 k=false then [(k,v)] else [])++if p.1≠k then [p] else [])++withP k v (put || !ltS p.1 k) (l.drop (j+1)):=by rw [hw]; simp only [List.append_assoc]
      generalize (acc++if put=false∧ltS p.1 k=false then [(k,v)] else [])=acc1 at hg' hacc hw2
      by_cases c:p.1=k
      · rw [if_neg (fun h => h c),List.append_nil] at hw2
        simp (maxSteps:=1000000) (disch:=omega) only [rg,gD,simprocAttr,s1,s2,s7,s8,s10,s12,s13,s14,hbox,getC_pr0,eq_true c]
        exact hN _ _ hj ⟨acc1,_,vv',hw2,by omega,hg',rfl⟩
      · rw [if_pos c] at hw2
        simp (maxSteps:=1000000) (disch:=omega) only [rg,gD,simprocAttr,s1,s2,s7,s8,s10,s12,s13,s14,hbox,getC_pr0,eq_false c,getC_pr]
        refine ⟨⟨rfl,rfl⟩, ?_⟩
        refine app_one (l:=mv prV acc1) hg' (by rw [mv_len]; omega) fun v'' fp ds hG hO => ?_
        rw [x_nx]
        refine ⟨by simp only [compat_nil], ?_⟩
        simp (maxSteps:=1000000) (disch:=omega) only [rg,gD,simprocAttr,s1,s2,s7,s8,s10,s12,s13,s14]
        exact hN _ _ hj ⟨acc1++[p],_,v'',hw2,by simp; omega,by simpa [mv] using hG.low (Nat.zero_le _),rfl⟩
  · obtain rfl:j=l.length:=by omega
    simp (maxSteps:=1000000) (disch:=omega) only [rg,gD,simprocAttr,Int.lt_irrefl]
    refine hX _ _ _ ?_
    simp (maxSteps:=1000000) (disch:=omega) only [rg,gD,simprocAttr]
    rw [List.drop_length] at hw
    refine x_frz0 ?_
    refine x_cutE ?_
    cases put with
    | true =>
      have hw3:withP k v false l=acc:=by rw [hw]; simp [withP]
      rw [hw3]
      simp (maxSteps:=1000000) (disch:=omega) only [rg,gD,simprocAttr]
      obtain ⟨fz,st,f1,f2,f3⟩:=hg.frz (mv_closed prV_closed)
      refine x_frz fz ?_
      simp only [frzS,f3]
      simp (maxSteps:=1000000) (disch:=omega) only [rg,gD,simprocAttr]
      (refine fin_x rfl ?_ ?_<;>simp [pack,lo,loL,V.closed,closedL,mv_closed,prsV,prV_closed,mv_lo prV_lo])
    | false =>
      have hw3:withP k v false l=acc++[(k,v)]:=by rw [hw]; simp [withP]
      rw [hw3]
      simp (maxSteps:=1000000) (disch:=omega) only [rg,gD,simprocAttr]
      refine app_one hg (by rw [mv_len]; omega) fun v'' fp ds hG hO => ?_
      rw [x_nx]
      refine ⟨by simp only [compat_nil], ?_⟩
      simp (maxSteps:=1000000) (disch:=omega) only [rg,gD,simprocAttr]
      have hG2:Gro 0 (n+1) (appd ds m) 2 v'' (mv prV (acc++[(k,v)])):=by simpa [mv,prV] using hG.low (Nat.zero_le _)
      obtain ⟨fz,st,f1,f2,f3⟩:=hG2.frz (mv_closed prV_closed)
      refine x_frz fz ?_
      simp only [frzS,f3]
      simp (maxSteps:=1000000) (disch:=omega) only [rg,gD,simprocAttr]
      (refine fin_x rfl ?_ ?_<;>simp [pack,lo,loL,V.closed,closedL,mv_closed,prsV,prV_closed,mv_lo prV_lo])
end
section
theorem ref21_number (n k:Int) (hn:n≤9223372036854775807):PCall Tryz.prog 75 [.int .i64 n,.int .i64 k] (.str (putS n k).1):=by
  refine en75 (by simp) (by simp [closedL,V.closed]) ?_
  simp (maxSteps:=1000000) (disch:=omega) only [rg,gD,simprocAttr,c75]
  refine ⟨_,ref_put n k hn, ?_⟩
  simp (maxSteps:=1000000) (disch:=omega) only [rg,gD,simprocAttr,sV]
  (refine fin_x rfl ?_ ?_<;>simp [pack,lo,loL,V.closed,closedL,mv_closed])
theorem withP_len (k v:Str):∀ (put:Bool) (l:List Pr),(withP k v put l).length≤l.length+1
  | put,[] => by simp only [withP]; split<;>simp
  | true,p::l => by
    rw [withP_true]; exact Nat.le_trans (List.length_filter_le _ _) (Nat.le_succ _)
  | false,p::l => by
    simp only [withP,true_and,Bool.false_or]
    cases h:ltS p.1 k with
    | true =>
      have:=withP_len k v false l
      simp only [Bool.true_eq_false,if_false,Bool.not_true,List.nil_append,List.length_append,List.length_cons]
      have:(if p.1≠k then [p] else []).length≤1:=by split<;>simp
      omega
    | false =>
      have:=List.length_filter_le (fun q:Pr => decide (q.1≠k)) l
      simp only [if_true,Bool.not_false,withP_true,List.length_append,List.length_cons,List.length_nil]
      have:(if p.1≠k then [p] else []).length≤1:=by split<;>simp
      omega
theorem putsP_len:∀ (l l0:List Pr),(putsP l0 l).length≤l0.length+l.length
  | [],l0 => by simp [putsP]
  | p::l,l0 => by
    have h1:=putsP_len l (withP p.1 p.2 false l0)
    have h2:=withP_len p.1 p.2 false l0
    simp only [putsP,List.foldl_cons,List.length_cons] at h1 ⊢; omega
theorem with_st (st:St) (l:List Pr) (k v:Str) (hl:l.length≤100000):PCall Tryz.prog 74 [.fsl st 2 (mv prV l),.str k,.str v] (.fsl .loose 2 (mv prV (withP k v false l))) :=
  (ref_with8 l k v hl).of_eq (by simp [loL,lo,prsV,mv_lo prV_lo])
theorem dagB_len {d:Dag} (h:dagRightS d=0):(dagB d).length≤1000:=by
  rw [← right_same] at h
  obtain ⟨_,h10,h16,_,hn⟩:=right_fit h
  have p1:=putS_len1 d.tasks.length; have p2:=textS_len d.name; have p3:=tsksB_len hn
  have:d.tasks.length*(10+8)≤10*18:=Nat.mul_le_mul h10 (Nat.le_refl _)
  unfold dagB; simp; omega
set_option maxHeartbeats 2000000 in
theorem ref_rows (w:Wd) (ok:WdM w) (hw:WR w):PCall Tryz.prog 29 [wdV w] (prsV (rowsS w)):=by
  refine en29 (by simp) (by simp [closedL,wdV_closed]) ?_
  have hnd:=hw.ndags
  have hnr:=hw.nruns
  have hfew:=hw.few
  have hML:(metaPr w).length≤1:=by unfold metaPr; split<;>simp
  simp (maxSteps:=1000000) (disch:=omega) only [rg,gD,simprocAttr,c29,getC_wnow,getC_wtok]
  refine ⟨⟨rfl,rfl⟩, ?_⟩
  obtain ⟨M,hMd⟩:∃ M:Sg→Hp→Prop,∀ σ' H',M σ' H'↔(H'.m 0=some (.arr 4 [wdV w])∧1≤H'.n∧(∃ st,find 3 σ'=some (.fsl st 2 (mv prV (putsP [] (metaPr w)))))∧find 1 σ'=some (.ptr 0 0 0)):=⟨_,fun _ _ => Iff.rfl⟩
  refine ⟨M, ?_, ?_⟩
  · by_cases c:0 < w.now∨0 < w.token
    · have hmeta:metaPr w=[([109],(putS w.now 6).1++(putS w.token 6).1)]:=by unfold metaPr; rw [if_pos c]
      have t1:=hw.now.2
      have t2:=hw.token.2
      unfold MT at t1 t2
      have p1:=putS_len w.now 6
      have p2:=putS_len w.token 6
      have hwt:=with_st .full [] [109] ((putS w.now 6).1++(putS w.token 6).1) (by simp)
      by_cases c1:0 < w.now
      · simp (maxSteps:=1000000) (disch:=omega) only [rg,gD,simprocAttr,getC_wnow,getC_wtok,c1]
        refine ⟨_,ref21_number w.now 6 (by omega), ?_⟩
        simp (maxSteps:=1000000) (disch:=omega) only [rg,gD,simprocAttr,getC_wtok]
        refine ⟨_,ref21_number w.token 6 (by omega), ?_⟩
        simp (maxSteps:=1000000) (disch:=omega) only [rg,gD,simprocAttr]
        refine ⟨by omega,_,hwt, ?_⟩
        simp (maxSteps:=1000000) (disch:=omega) only [rg,gD,simprocAttr]
        exact (hMd _ _).2 ⟨(by simp (disch:=omega) only [upd_eq,upd_ne,wo_0,wo_1,wo_2]),by show 1≤1; omega,⟨.loose,by rw [hmeta]; rfl⟩,rfl⟩
      · have c2:0 < w.token:=c.resolve_left c1
        simp (maxSteps:=1000000) (disch:=omega) only [rg,gD,simprocAttr,getC_wnow,getC_wtok,c1,c2]
        refine ⟨_,ref21_number w.now 6 (by omega), ?_⟩
        simp (maxSteps:=1000000) (disch:=omega) only [rg,gD,simprocAttr,getC_wtok]
        refine ⟨_,ref21_number w.token 6 (by omega), ?_⟩
        simp (maxSteps:=1000000) (disch:=omega) only [rg,gD,simprocAttr]
        refine ⟨by omega,_,hwt, ?_⟩
        simp (maxSteps:=1000000) (disch:=omega) only [rg,gD,simprocAttr]
        exact (hMd _ _).2 ⟨(by simp (disch:=omega) only [upd_eq,upd_ne,wo_0,wo_1,wo_2]),by show 1≤1; omega,⟨.loose,by rw [hmeta]; rfl⟩,rfl⟩
    · have hmeta:metaPr w=[]:=by unfold metaPr; rw [if_neg c]
      have c1:¬ 0 < w.now:=fun h => c (.inl h)
      have c2:¬ 0 < w.token:=fun h => c (.inr h)
      simp (maxSteps:=1000000) (disch:=omega) only [rg,gD,simprocAttr,getC_wnow,getC_wtok,c1,c2]
      exact (hMd _ _).2 ⟨(by simp (disch:=omega) only [upd_eq,upd_ne,wo_0,wo_1,wo_2]),by show 1≤1; omega,⟨.full,by rw [hmeta]; rfl⟩,rfl⟩
  · rintro σ' ⟨n,m⟩ hm
    obtain ⟨e0,hn,⟨st,s3⟩,s1⟩:=(hMd _ _).1 hm
    simp only at e0 hn
    clear hm hMd M
    simp (maxSteps:=1000000) (disch:=omega) only [rg,gD,simprocAttr,s1,s3,e0,getC_wd2,mv_len]
    refine x_it w.dags.length (fun i σ H => 1≤H.n∧H.m 0=some (.arr 4 [wdV w])∧(∃ st,σ=[(1,.ptr 0 0 0),(3,.fsl st 2 (mv prV (putsP [] (metaPr w++(w.dags.take i).map dagPr)))),(31,.fsl .loose 2 (mv dagV w.dags)),(32,.int .i64 (w.dags.length:Int)),(33,.int .i64 (i:Int))])) ⟨hn,e0,st,by simp⟩ ?_
    clear s1 s3 e0 hn
    clear n m st
    rintro T i σ ⟨n,m⟩ hii ⟨hn,e0,st,rfl⟩ hN hX hR
    simp only at hn e0
    by_cases hi:i < w.dags.length
    · obtain ⟨d,hd⟩:∃ d,d=w.dags[i]:=⟨_,rfl⟩
      have hdm:dagRightS d=0:=hw.dags _ (hd ▸ List.getElem_mem hi)
      have htk:=dags_take hi
      rw [← hd] at htk
      have hnl:=dag_nl hdm
      have hbl:=dagB_len hdm
      have hr:=right_same d
      rw [hdm] at hr
      obtain ⟨_,h10,h16,_,hneeds⟩:=right_fit hr
      have hpd:=ref16_put d (by omega) (fun t ht => by have:=hneeds t ht; omega) (by omega) (dag_N hdm)
      have hpl:=putsP_len (metaPr w++(w.dags.take i).map dagPr) []
      simp only [List.length_append,List.length_map,List.length_take,List.length_nil] at hpl
      have hwt:=with_st st (putsP [] (metaPr w++(w.dags.take i).map dagPr)) ([100]++d.name) (dagB d) (by omega)
      have e5:withP ([100]++d.name) (dagB d) false (putsP [] (metaPr w++(w.dags.take i).map dagPr))=putsP [] (metaPr w++(w.dags.take (i+1)).map dagPr):=by
        rw [htk,← List.append_assoc,putsP_snoc]; rfl
      rw [e5] at hwt
      have n0:(0:Nat)≠n:=by omega
      simp (maxSteps:=1000000) (disch:=omega) only [rg,gD,simprocAttr,show (i:Int) < w.dags.length by omega,mv_get hi,← hd,Int.toNat_natCast,getC_dags,setC_dag0,dagV]
      refine ⟨by omega, ?_⟩
      unfold dagV at hpd
      refine ⟨_,hpd, ?_⟩
      simp (maxSteps:=1000000) (disch:=omega) only [rg,gD,simprocAttr]
      refine ⟨_,hwt, ?_⟩
      simp (maxSteps:=1000000) (disch:=omega) only [rg,gD,simprocAttr]
      exact hN _ _ hi ⟨by show 1≤n+1; omega,(by simp (disch:=omega) only [upd_eq,upd_ne,wo_0,wo_1,wo_2,e0]),.loose,rfl⟩
    · simp (maxSteps:=1000000) (disch:=omega) only [rg,gD,simprocAttr,show ¬ (i:Int) < w.dags.length by omega]
      refine hX _ _ _ ?_
      simp (maxSteps:=1000000) (disch:=omega) only [rg,gD,simprocAttr]
      obtain rfl:i=w.dags.length:=by omega
      rw [List.take_length]
      clear hN hX hR
      refine x_frz0 ?_
      simp (maxSteps:=1000000) (disch:=omega) only [rg,gD,simprocAttr,e0,getC_wrs2,mv_len]
      have hbl:(putsP [] (metaPr w++w.dags.map dagPr)).length≤17:=by
        have:=putsP_len (metaPr w++w.dags.map dagPr) []
        simp only [List.length_append,List.length_map,List.length_nil] at this; omega
      have hS:rowsS w=putsP (putsP [] (metaPr w++w.dags.map dagPr)) (runsPr w.runs):=by
        unfold rowsS; rw [← List.append_assoc,putsP_app]
      rw [hS]
      generalize putsP [] (metaPr w++w.dags.map dagPr)=base at hbl ⊢
      refine x_it w.runs.length (fun j σ H => ∃ st,σ=[(3,.fsl st 2 (mv prV (putsP base (runsPr (w.runs.take j))))),(46,.fsl .loose 5 (mv rnV w.runs)),(47,.int .i64 (w.runs.length:Int)),(48,.int .i64 (j:Int))]) ⟨st,by simp [runsPr,putsP]⟩ ?_
      clear e0 hn hi hii hS
      clear n m st
      rintro T j σ ⟨n,m⟩ hjj ⟨st,rfl⟩ hN hX hR
      by_cases hj:j < w.runs.length
      · obtain ⟨r,hr⟩:∃ r,r=w.runs[j]:=⟨_,rfl⟩
        have hmem:r∈w.runs:=hr ▸ List.getElem_mem hj
        have hrr:=(hw.runs r hmem).2
        have hst:=hfew r hmem
        have htk:=runsPr_take hj
        have hpl:=runsPr_len (l:=w.runs.take j) (fun x hx => hfew x (List.mem_of_mem_take hx))
        rw [List.length_take] at hpl
        have hpl2:=putsP_len (runsPr (w.runs.take j)) base
        rw [← hr] at htk
        have hkl:=hrr.name.2
        have hnl:=dag_nl hrr.dag
        have tl:=textS_len r.dag.name
        have his:r.is≤9223372036854775807:=by have:=hrr.kind; unfold kindS at this; (repeat' split at this)<;>omega
        have p1:=putS_len r.is 1
        have hwt:=with_st st (putsP base (runsPr (w.runs.take j))) ([114]++r.key) ((putS r.is 1).1++(textS r.dag.name).1) (by omega)
        have e5:withP ([114]++r.key) ((putS r.is 1).1++(textS r.dag.name).1) false (putsP base (runsPr (w.runs.take j)))=putsP base (runsPr (w.runs.take j)++(runPr r::sttsPr r 0)):=by
          rw [show runsPr (w.runs.take j)++(runPr r::sttsPr r 0)=runsPr (w.runs.take j)++[runPr r] by simp [sttsPr],putsP_snoc]; rfl
        rw [e5] at hwt
        simp (maxSteps:=1000000) (disch:=omega) only [rg,gD,simprocAttr,show (j:Int) < w.runs.length by omega,mv_get hj,← hr,Int.toNat_natCast,getC_runs,setC_rn0,rnV]
        refine ⟨_,ref_text r.dag.name (by omega), ?_⟩
        simp (maxSteps:=1000000) (disch:=omega) only [rg,gD,simprocAttr,sV]
        refine ⟨by omega, ?_⟩
        refine ⟨_,ref21_number r.is 1 his, ?_⟩
        simp (maxSteps:=1000000) (disch:=omega) only [rg,gD,simprocAttr]
        refine ⟨by omega, ?_⟩
        refine ⟨_,hwt, ?_⟩
        simp (maxSteps:=1000000) (disch:=omega) only [rg,gD,simprocAttr,sttsV,mv_len]
        refine x_it r.states.length (fun i σ H => n+1≤H.n∧H.m n=some (.arr 5 [.agg [.str r.key,.str r.dag.name,tasksV r.dag.tasks,.int .i64 r.is,.fsl .loose 5 (mv sttV r.states)]]) ∧
          (∃ st,σ=[(3,.fsl st 2 (mv prV (putsP base (runsPr (w.runs.take j)++(runPr r::sttsPr r i))))),(7,.ptr n 0 0),(46,.fsl .loose 5 (mv rnV w.runs)),(47,.int .i64 (w.runs.length:Int)),(48,.int .i64 (j:Int)),(70,.fsl .loose 5 (mv sttV r.states)),(71,.int .i64 (r.states.length:Int)),(72,.int .i64 (i:Int))]))
          ⟨Nat.le_refl _,(by simp (disch:=omega) only [upd_eq,upd_ne,wo_0,wo_1,wo_2]),.loose,rfl⟩ ?_
        clear hwt e5
        clear st m
        rintro T2 i σ ⟨n2,m⟩ hii ⟨hn2,b0,st,rfl⟩ hN2 hX2 hR2
        simp only at hn2 b0
        by_cases hi:i < r.states.length
        · obtain ⟨s,hs⟩:∃ s,s=r.states[i]:=⟨_,rfl⟩
          have hsm:s∈r.states:=hs ▸ List.getElem_mem hi
          have hstd:=hrr.stands s hsm
          have hsk:=sttsPr_succ r i hi
          rw [← hs] at hsk
          have htp:=ref_stput s (by have:=(standsS_iff s).1 hstd; omega) (i64_of s hstd)
          have p2:=putS_len i 1
          have hpl3:=putsP_len (runsPr (w.runs.take j)++(runPr r::sttsPr r i)) base
          simp only [List.length_append,List.length_cons,sttsPr_len] at hpl3
          have hwt:=with_st st (putsP base (runsPr (w.runs.take j)++(runPr r::sttsPr r i))) (([116]++r.key)++(putS i 1).1) (stBytes s) (by omega)
          have e5:withP (([116]++r.key)++(putS i 1).1) (stBytes s) false (putsP base (runsPr (w.runs.take j)++(runPr r::sttsPr r i)))=putsP base (runsPr (w.runs.take j)++(runPr r::sttsPr r (i+1))):=by
            rw [hsk,show runsPr (w.runs.take j)++(runPr r::(sttsPr r i++[sttPr r i s]))=(runsPr (w.runs.take j)++(runPr r::sttsPr r i))++[sttPr r i s] by simp,putsP_snoc]; rfl
          rw [e5] at hwt
          have m2:n≠n2:=by omega
          simp (maxSteps:=1000000) (disch:=omega) only [rg,gD,simprocAttr,show (i:Int) < r.states.length by omega,mv_get hi,← hs,Int.toNat_natCast,sttV,b0]
          refine ⟨by omega, ?_⟩
          refine ⟨_,ref21_number i 1 (by omega), ?_⟩
          simp (maxSteps:=1000000) (disch:=omega) only [rg,gD,simprocAttr]
          refine ⟨by omega, ?_⟩
          unfold sttV at htp
          refine ⟨_,htp, ?_⟩
          simp (maxSteps:=1000000) (disch:=omega) only [rg,gD,simprocAttr]
          simp only [List.append_assoc,List.singleton_append,List.cons_append,List.nil_append] at hwt
          refine ⟨_,hwt, ?_⟩
          simp (maxSteps:=1000000) (disch:=omega) only [rg,gD,simprocAttr]
          exact hN2 _ _ hi ⟨by show n+1≤n2+1; omega,(by simp (disch:=omega) only [upd_eq,upd_ne,wo_0,wo_1,wo_2,b0]),.loose,rfl⟩
        · obtain rfl:i=r.states.length:=by omega
          simp (maxSteps:=1000000) (disch:=omega) only [rg,gD,simprocAttr,Int.lt_irrefl]
          refine hX2 _ _ _ ?_
          simp (maxSteps:=1000000) (disch:=omega) only [rg,gD,simprocAttr]
          refine x_frz0 ?_
          simp (maxSteps:=1000000) (disch:=omega) only [rg,gD,simprocAttr]
          refine hN _ _ hj ⟨st, ?_⟩
          rw [htk]; rfl
      · simp (maxSteps:=1000000) (disch:=omega) only [rg,gD,simprocAttr,show ¬ (j:Int) < w.runs.length by omega]
        refine hX _ _ _ ?_
        simp (maxSteps:=1000000) (disch:=omega) only [rg,gD,simprocAttr]
        obtain rfl:j=w.runs.length:=by omega
        rw [List.take_length]
        refine x_frz0 ?_
        simp (maxSteps:=1000000) (disch:=omega) only [rg,gD,simprocAttr]
        (refine fin_x rfl ?_ ?_<;>simp [pack,lo,loL,V.closed,closedL,mv_closed,prsV,prV_closed,mv_lo prV_lo])
end
def c25:C :=
  (.seq
 (.reg false [p (.box 4 (.v 0)),
 p (.alloc 4 (.agg [.int .i64 0,.int .i64 0,.fsl .nil 2 [],.fsl .nil 5 []]))] [(1,.r 1),(2,.r 0)])
 (.seq
 (.reg true [p (.fad 2 (.v 1)),
 p (.load (none) (.r 0)),
 p (.fad 2 (.v 1)),
 p (.load (none) (.r 0)),
 p (.len false (.r 0)),
 p (.mnx false (.r 0) [.k (.int .i64 20)]),
 p (.slc 2 (.r 4) none (some (.r 0)) none),
 p (.fad 3 (.v 1)),
 p (.load (none) (.r 0)),
 p (.fad 3 (.v 1)),
 p (.load (none) (.r 0)),
 p (.len false (.r 0)),
 p (.mnx false (.r 0) [.k (.int .i64 70)]),
 p (.slc 5 (.r 4) none (some (.r 0)) none),
 p (.fad 2 (.v 1)),
 ⟨.store (none) (.r 0) (.r 8),none,[1]⟩,
 p (.fad 3 (.v 1)),
 p (.store (none) (.r 0) (.r 3))] [(1,.v 1),(2,.v 2)])
 (.seq
 (.seq
 (.reg false [p (.fad 2 (.v 1)),
 p (.load (none) (.r 0)),
 p (.len false (.r 0)),
 p (.mov (.k (.int .i64 0)))] [(1,.v 1),(2,.v 2),(24,.r 2),(25,.r 1),(26,.r 0)])
 (.block 0
 (.loop
 (.seq
 (.reg false [p (.bin .lss (.v 26) (.v 25))] [(1,.v 1),(2,.v 2),(24,.v 24),(25,.v 25),(26,.v 26),(27,.r 0)])
 (.seq
 (.cond (.v 27)
 .skip
 (.exit 0))
 (.seq
 (.block 1
 (.seq
 (.reg false [p (.iad 2 (.v 24) (.v 26)),
 p (.load (some 2) (.r 0)),
 p (.alloc 2 (.agg [.str [],.fsl .nil 4 []])),
 p (.store (some 2) (.r 0) (.r 1))] [(1,.v 1),(2,.v 2),(4,.r 1),(24,.v 24),(25,.v 25),(26,.v 26)])
 (.seq
 (.reg false [p (.fad 1 (.v 4)),
 p (.load (none) (.r 0)),
 p (.len false (.r 0)),
 p (.bin .gtr (.r 0) (.k (.int .i64 20)))] [(1,.v 1),(2,.v 2),(24,.v 24),(25,.v 25),(26,.v 26),(33,.r 0)])
 (.cond (.v 33)
 (.seq
 (.reg false [p (.build [.int .i64 0,.int .i64 0,.fsl .nil 2 [],.fsl .nil 5 []] []),
 p (.store (some 4) (.v 2) (.r 0))] [(2,.v 2)])
 .ret)
 .skip))))
 (.reg false [p (.bin .add (.v 26) (.k (.int .i64 1))),
 p (.mov (.r 0))] [(1,.v 1),(2,.v 2),(24,.v 24),(25,.v 25),(26,.r 0)])))))))
 (.frz
 (.seq
 (.seq
 (.reg false [p (.fad 3 (.v 1)),
 p (.load (none) (.r 0)),
 p (.len false (.r 0)),
 p (.mov (.k (.int .i64 0)))] [(1,.v 1),(2,.v 2),(37,.r 2),(38,.r 1),(39,.r 0)])
 (.block 2
 (.loop
 (.seq
 (.reg false [p (.bin .lss (.v 39) (.v 38))] [(1,.v 1),(2,.v 2),(37,.v 37),(38,.v 38),(39,.v 39),(40,.r 0)])
 (.seq
 (.cond (.v 40)
 .skip
 (.exit 2))
 (.seq
 (.block 3
 (.seq
 (.reg false [p (.iad 5 (.v 37) (.v 39)),
 p (.load (some 5) (.r 0)),
 p (.alloc 5 (.agg [.str [],.str [],.fsl .nil 4 [],.int .i64 0,.fsl .nil 5 []])),
 p (.store (some 5) (.r 0) (.r 1))] [(1,.v 1),(2,.v 2),(6,.r 1),(37,.v 37),(38,.v 38),(39,.v 39)])
 (.seq
 (.reg false [p (.fad 4 (.v 6)),
 p (.load (none) (.r 0)),
 p (.len false (.r 0)),
 p (.bin .gtr (.r 0) (.k (.int .i64 20))),
 p (.mov (.r 0)),
 ⟨.fad 1 (.v 6),some (0,false),[]⟩,
 ⟨.fad 1 (.r 0),some (1,false),[]⟩,
 ⟨.load (none) (.r 0),some (2,false),[]⟩,
 ⟨.len false (.r 0),some (3,false),[]⟩,
 ⟨.bin .gtr (.r 0) (.k (.int .i64 20)),some (4,false),[]⟩,
 p (.pick (.r 5) (.k (.bool true)) (.r 0))] [(1,.v 1),(2,.v 2),(37,.v 37),(38,.v 38),(39,.v 39),(53,.r 0)])
 (.cond (.v 53)
 (.seq
 (.reg false [p (.build [.int .i64 0,.int .i64 0,.fsl .nil 2 [],.fsl .nil 5 []] []),
 p (.store (some 4) (.v 2) (.r 0))] [(2,.v 2)])
 .ret)
 .skip))))
 (.reg false [p (.bin .add (.v 39) (.k (.int .i64 1))),
 p (.mov (.r 0))] [(1,.v 1),(2,.v 2),(37,.v 37),(38,.v 38),(39,.r 0)])))))))
 (.frz
 (.seq
 (.reg false [p (.load (some 4) (.v 1)),
 p (.store (some 4) (.v 2) (.r 0))] [(2,.v 2)])
 .ret)))))))
def r25:List RV:=[.c 2 (some 4)]
theorem en25:EnP Tryz.prog 25 57 c25 r25:=mkEnP (by kernel_rfl) Tryz.func25 (by kernel_rfl) ⟨_,rfl,by kernel_rfl,by kernel_rfl⟩
def c27:C :=
  (.seq
 (.reg false [p (.mov (.k (.bool false)))] [])
 (.seq
 (.reg false [p (.build [.int .i64 0,.int .i64 0,.fsl .nil 2 [],.fsl .nil 5 []] [(0,1,.k (.int .i64 5))]),
 p (.call true (.k (.fn 26 [] [])) [.r 0]),
 p (.mov (.r 0)),
 p (.ext (.r 0) 0),
 p (.ext (.r 1) 1),
 p (.mov (.r 1)),
 p (.mov (.r 1))] [(1,.r 1),(2,.r 0)])
 (.seq
 (.reg false [p (.mov (.v 2)),
 p (.bin .eql (.r 0) (.k (.int .i64 0))),
 p (.mov (.r 0)),
 ⟨.mov (.v 1),some (0,true),[]⟩,
 ⟨.len false (.r 0),some (1,true),[]⟩,
 ⟨.bin .eql (.r 0) (.k (.int .i64 1)),some (2,true),[]⟩,
 p (.pick (.r 3) (.r 0) (.k (.bool false))),
 p (.mov (.r 0)),
 ⟨.mov (.v 1),some (0,true),[]⟩,
 ⟨.iad 2 (.r 0) (.k (.int .i64 0)),some (1,true),[]⟩,
 ⟨.fad 0 (.r 0),some (2,true),[]⟩,
 ⟨.load (none) (.r 0),some (3,true),[]⟩,
 ⟨.bin .eql (.r 0) (.k (.str [109])),some (4,true),[]⟩,
 p (.pick (.r 5) (.r 0) (.k (.bool false))),
 p (.mov (.r 0))] [(0,.r 0)])
 .ret)))
def r27:List RV:=[.t 0]
theorem en27:EnP Tryz.prog 27 22 c27 r27:=mkEnP (by kernel_rfl) Tryz.func27 (by kernel_rfl) ⟨_,rfl,by kernel_rfl,by kernel_rfl⟩
def c9:C :=
  (.seq
 (.reg false [p (.box 4 (.v 0)),
 p (.mov (.k (.bool false)))] [(1,.r 1)])
 (.seq
 (.reg false [p (.load (some 4) (.v 1)),
 p (.call true (.k (.fn 25 [] [])) [.r 0]),
 p (.store (some 4) (.v 1) (.r 0))] [(1,.v 1)])
 (.seq
 (.reg false [p (.load (some 4) (.v 1)),
 p (.call true (.k (.fn 26 [] [])) [.r 0]),
 p (.mov (.r 0)),
 p (.ext (.r 0) 0),
 p (.ext (.r 1) 1),
 p (.mov (.r 1)),
 p (.mov (.r 1))] [(1,.v 1),(3,.r 1),(4,.r 0)])
 (.seq
 (.seq
 (.reg false [p (.load (some 4) (.v 1)),
 p (.call true (.k (.fn 18 [] [])) [.r 0]),
 p (.un .not (.r 0))] [(1,.v 1),(3,.v 3),(4,.v 4),(14,.r 0)])
 (.cond (.v 14)
 (.seq
 (.reg false [p (.call true (.k (.fn 27 [] [])) []),
 p (.mov (.r 0)),
 ⟨.mov (.v 4),some (0,true),[]⟩,
 ⟨.bin .eql (.r 0) (.k (.int .i64 1)),some (1,true),[]⟩,
 p (.pick (.r 2) (.r 0) (.k (.bool false))),
 p (.mov (.r 0)),
 ⟨.mov (.v 3),some (0,true),[]⟩,
 ⟨.len false (.r 0),some (1,true),[]⟩,
 ⟨.bin .eql (.r 0) (.k (.int .i64 0)),some (2,true),[]⟩,
 p (.pick (.r 3) (.r 0) (.k (.bool false))),
 p (.mov (.r 0))] [(2,.r 0)])
 .ret)
 .skip))
 (.seq
 (.reg false [p (.call true (.k (.fn 27 [] [])) []),
 p (.mov (.r 0)),
 ⟨.mov (.v 4),some (0,true),[]⟩,
 ⟨.bin .eql (.r 0) (.k (.int .i64 0)),some (1,true),[]⟩,
 p (.pick (.r 2) (.r 0) (.k (.bool false))),
 p (.mov (.r 0)),
 ⟨.mov (.v 3),some (0,true),[]⟩,
 ⟨.load (some 4) (.v 1),some (1,true),[]⟩,
 ⟨.call true (.k (.fn 29 [] [])) [.r 0],some (2,true),[]⟩,
 ⟨.call true (.k (.fn 28 [] [])) [.r 2,.r 0],some (3,true),[]⟩,
 p (.pick (.r 4) (.r 0) (.k (.bool false))),
 p (.mov (.r 0))] [(2,.r 0)])
 .ret)))))
theorem law_few21 (w:Wd) (h:WdA w):PCall Tryz.prog 25 [wdV w] (wdV (fewS w)):=by
  refine en25 (by simp) (by simp [closedL,wdV_closed]) ?_
  have h1:=h.dags
  have h2:=h.runs
  have e1:(cutW w).dags=w.dags.take 20:=rfl
  have e2:(cutW w).runs=w.runs.take 70:=rfl
  have d1:List.take (min (w.dags.length:Int) 20).toNat (mv dagV w.dags)=mv dagV (cutW w).dags:=by
    rw [mv_take,e1]; congr 1
    by_cases c:w.dags.length≤20
    · rw [List.take_of_length_le (by omega),List.take_of_length_le c]
    · rw [show (min (w.dags.length:Int) 20).toNat=20 by omega]
  have r1:List.take (min (w.runs.length:Int) 70).toNat (mv rnV w.runs)=mv rnV (cutW w).runs:=by
    rw [mv_take,e2]; congr 1
    by_cases c:w.runs.length≤70
    · rw [List.take_of_length_le (by omega),List.take_of_length_le c]
    · rw [show (min (w.runs.length:Int) 70).toNat=70 by omega]
  have sl:∀ a b,slSt .loose a b none=.loose:=fun _ _ => rfl
  have hD:(cutW w).dags.length≤20:=by rw [e1]; simp; omega
  have hR:(cutW w).runs.length≤70:=by rw [e2]; simp; omega
  have hfew:fewS w=if (cutW w).dags.any bigD=true then zW else if (cutW w).runs.any bigR=true then zW else cutW w:=rfl
  have hcut:wdV (cutW w)=V.agg [V.int .i64 w.now,V.int .i64 w.token,V.fsl .loose 2 (mv dagV (cutW w).dags),V.fsl .loose 5 (mv rnV (cutW w).runs)]:=rfl
  generalize (cutW w).dags=D at d1 hD hfew hcut
  generalize (cutW w).runs=U at r1 hR hfew hcut
  simp (maxSteps:=1000000) (disch:=omega) only [rg,gD,simprocAttr,c25,wdV,mv_len,d1,r1,sl]
  refine ⟨⟨by omega,by omega,by omega⟩,⟨by omega,by omega,by omega⟩,by simp [compat,disj,nthL], ?_⟩
  refine x_it D.length (fun k σ H => 2≤H.n∧H.m 0=some (.arr 4 [wdV (cutW w)])∧H.m 1=some (.arr 4 [V.agg [V.int .i64 0,V.int .i64 0,V.fsl .nil 2 [],V.fsl .nil 5 []]])∧(D.any bigD=(D.drop k).any bigD) ∧
    σ=[(1,.ptr 0 0 0),(2,.ptr 1 0 0),(24,.fsl .loose 2 (mv dagV D)),(25,.int .i64 (D.length:Int)),(26,.int .i64 (k:Int))]) ⟨Nat.le_refl 2,by rw [hcut]; exact (by simp (disch:=omega) only [upd_eq,upd_ne,wo_0,wo_1,wo_2]),(by simp (disch:=omega) only [upd_eq,upd_ne,wo_0,wo_1,wo_2]),rfl,by rfl⟩ ?_
  rintro T k σ ⟨n,m⟩ hkk ⟨hn,e0,f1,hs,rfl⟩ hN hX hR'
  simp only at hn e0 f1
  rw [hcut] at e0
  by_cases hk:k < D.length
  · rw [any_drop hk] at hs
    by_cases c:20 < D[k].tasks.length
    · have hb:bigD D[k]=true:=by simp [bigD,c]
      rw [hb,Bool.true_or] at hs
      have hres:fewS w=zW:=by rw [hfew,if_pos hs]
      simp (maxSteps:=1000000) (disch:=omega) only [rg,gD,simprocAttr,show (k:Int) < D.length by omega,mv_get hk,getC_dags,Int.toNat_natCast,dagV,tasksV,mv_len,show (20:Int) < D[k].tasks.length by omega,f1]
      refine hR' _ _ ?_
      refine fin_x (by simp (disch:=omega) only [r25,resE,find,loadO,upd_eq,upd_ne,reduceIte,Nat.reduceEqDiff]; rfl) ?_ ?_<;>simp [pack,lo,loL,V.closed,closedL,mv_closed,wdV,zW,mv_nil,mv_lo dagV_lo,mv_lo rnV_lo,mv_closed dagV_closed,rnV_closed,hres]
    · have hb:bigD D[k]=false:=by simp [bigD]; omega
      rw [hb,Bool.false_or] at hs
      simp (maxSteps:=1000000) (disch:=omega) only [rg,gD,simprocAttr,show (k:Int) < D.length by omega,mv_get hk,getC_dags,Int.toNat_natCast,dagV,tasksV,mv_len,show ¬ (20:Int) < D[k].tasks.length by omega,f1]
      exact hN _ _ hk ⟨by simp only []; omega,(by simp (disch:=omega) only [upd_eq,upd_ne,wo_0,wo_1,wo_2,e0,hcut]),(by simp (disch:=omega) only [upd_eq,upd_ne,wo_0,wo_1,wo_2,f1]),hs,rfl⟩
  · obtain rfl:k=D.length:=by omega
    rw [List.drop_length] at hs
    have hs':¬ D.any bigD=true:=by rw [hs]; simp
    rw [if_neg hs'] at hfew
    simp (maxSteps:=1000000) (disch:=omega) only [rg,gD,simprocAttr,Int.lt_irrefl]
    refine hX _ _ _ ?_
    simp (maxSteps:=1000000) (disch:=omega) only [rg,gD,simprocAttr]
    refine x_frz0 ?_
    simp (maxSteps:=1000000) (disch:=omega) only [rg,gD,simprocAttr,e0,mv_len]
    refine x_it U.length (fun k σ H => 2≤H.n∧H.m 0=some (.arr 4 [wdV (cutW w)])∧H.m 1=some (.arr 4 [V.agg [V.int .i64 0,V.int .i64 0,V.fsl .nil 2 [],V.fsl .nil 5 []]])∧(U.any bigR=(U.drop k).any bigR) ∧
      σ=[(1,.ptr 0 0 0),(2,.ptr 1 0 0),(37,.fsl .loose 5 (mv rnV U)),(38,.int .i64 (U.length:Int)),(39,.int .i64 (k:Int))]) ⟨hn,by rw [hcut]; exact e0,f1,rfl,by rfl⟩ ?_
    clear hN hX hR' hs T
    rintro T k σ ⟨n,m⟩ hkk ⟨hn,e0,f1,hs,rfl⟩ hN hX hR'
    simp only at hn e0 f1
    rw [hcut] at e0
    by_cases hk:k < U.length
    · rw [any_drop hk] at hs
      by_cases c1:20 < U[k].states.length
      · have hb:bigR U[k]=true:=by simp [bigR,c1]
        rw [hb,Bool.true_or] at hs
        have hres:fewS w=zW:=by rw [hfew,if_pos hs]
        simp (maxSteps:=1000000) (disch:=omega) only [rg,gD,simprocAttr,show (k:Int) < U.length by omega,mv_get hk,getC_runs,Int.toNat_natCast,rnV,sttsV,tasksV,mv_len,show (20:Int) < U[k].states.length by omega,f1]
        refine hR' _ _ ?_
        refine fin_x (by simp (disch:=omega) only [r25,resE,find,loadO,upd_eq,upd_ne,reduceIte,Nat.reduceEqDiff]; rfl) ?_ ?_<;>simp [pack,lo,loL,V.closed,closedL,mv_closed,wdV,zW,mv_nil,mv_lo dagV_lo,mv_lo rnV_lo,mv_closed dagV_closed,rnV_closed,hres]
      by_cases c2:20 < U[k].dag.tasks.length
      · have hb:bigR U[k]=true:=by simp [bigR,c2]
        rw [hb,Bool.true_or] at hs
        have hres:fewS w=zW:=by rw [hfew,if_pos hs]
        simp (maxSteps:=1000000) (disch:=omega) only [rg,gD,simprocAttr,show (k:Int) < U.length by omega,mv_get hk,getC_runs,Int.toNat_natCast,rnV,sttsV,tasksV,mv_len,show ¬ (20:Int) < U[k].states.length by omega,show (20:Int) < U[k].dag.tasks.length by omega,f1]
        refine hR' _ _ ?_
        refine fin_x (by simp (disch:=omega) only [r25,resE,find,loadO,upd_eq,upd_ne,reduceIte,Nat.reduceEqDiff]; rfl) ?_ ?_<;>simp [pack,lo,loL,V.closed,closedL,mv_closed,wdV,zW,mv_nil,mv_lo dagV_lo,mv_lo rnV_lo,mv_closed dagV_closed,rnV_closed,hres]
      have hb:bigR U[k]=false:=by simp [bigR]; omega
      rw [hb,Bool.false_or] at hs
      simp (maxSteps:=1000000) (disch:=omega) only [rg,gD,simprocAttr,show (k:Int) < U.length by omega,mv_get hk,getC_runs,Int.toNat_natCast,rnV,sttsV,tasksV,mv_len,show ¬ (20:Int) < U[k].states.length by omega,show ¬ (20:Int) < U[k].dag.tasks.length by omega,f1]
      exact hN _ _ hk ⟨by simp only []; omega,(by simp (disch:=omega) only [upd_eq,upd_ne,wo_0,wo_1,wo_2,e0,hcut]),(by simp (disch:=omega) only [upd_eq,upd_ne,wo_0,wo_1,wo_2,f1]),hs,rfl⟩
    · obtain rfl:k=U.length:=by omega
      rw [List.drop_length] at hs
      have hs':¬ U.any bigR=true:=by rw [hs]; simp
      rw [if_neg hs'] at hfew
      simp (maxSteps:=1000000) (disch:=omega) only [rg,gD,simprocAttr,Int.lt_irrefl]
      refine hX _ _ _ ?_
      simp (maxSteps:=1000000) (disch:=omega) only [rg,gD,simprocAttr]
      refine x_frz0 ?_
      simp (maxSteps:=1000000) (disch:=omega) only [rg,gD,simprocAttr,e0,f1]
      have hfw:V.agg [V.int .i64 (fewS w).now,V.int .i64 (fewS w).token,V.fsl .loose 2 (mv dagV (fewS w).dags),V.fsl .loose 5 (mv rnV (fewS w).runs)]=wdV (fewS w):=rfl
      rw [hfw,hfew,hcut]
      refine fin_x (by simp (disch:=omega) only [r25,resE,find,loadO,upd_eq,upd_ne,reduceIte,Nat.reduceEqDiff]; rfl) ?_ ?_<;>simp [pack,lo,loL,V.closed,closedL,mv_closed,wdV,zW,mv_nil,mv_lo dagV_lo,mv_lo rnV_lo,mv_closed dagV_closed,rnV_closed]
theorem eqF_pr (p q:Pr):eqF [1,1] [.str p.1,.str p.2] [.str q.1,.str q.2]=some (decide (p=q)):=by
  obtain ⟨a,b⟩:=p; obtain ⟨c,d⟩:=q
  simp [eqF,Prod.mk.injEq]
theorem like8 (st st':St) (a b:List Pr) (ha:a.length≤100000) (hb:b.length≤100000):PCall Tryz.prog 28 [.fsl st 2 (mv prV a),.fsl st' 2 (mv prV b)] (.bool (decide (a=b))):=by
  refine en28 (by simp) (by simp [closedL,V.closed,mv_closed prV_closed]) ?_
  simp (maxSteps:=1000000) (disch:=omega) only [rg,gD,simprocAttr,c28,mv_len]
  by_cases c:a.length=b.length
  case neg =>
    have hne:a≠b:=fun e => c (by rw [e])
    simp (maxSteps:=1000000) (disch:=omega) only [rg,gD,simprocAttr,show ¬ (a.length:Int)=b.length by omega]
    (refine fin_x rfl ?_ ?_<;>simp [pack,lo,loL,V.closed,closedL,mv_closed,hne])
  simp (maxSteps:=1000000) (disch:=omega) only [rg,gD,simprocAttr,show (a.length:Int)=b.length by omega]
  refine x_it a.length (fun k σ H => a.take k=b.take k∧σ=[(0,.fsl st 2 (mv prV a)),(1,.fsl st' 2 (mv prV b)),(12,.int .i64 (a.length:Int)),(13,.int .i64 (k:Int))]) ⟨rfl,by simp [c]⟩ ?_
  rintro T k σ ⟨n,m⟩ hkk ⟨ht,rfl⟩ hN hX hR
  by_cases hk:k < a.length
  · have hk2:k < b.length:=by omega
    have e:(a.take (k+1)=b.take (k+1))↔a[k]=b[k]:=by
      rw [List.take_succ_eq_append_getElem hk,List.take_succ_eq_append_getElem hk2,ht]
      exact ⟨fun h => by simpa using List.append_cancel_left h,fun h => by rw [h]⟩
    by_cases h:a[k]=b[k]
    · simp (maxSteps:=1000000) (disch:=omega) only [rg,gD,simprocAttr,show (k:Int) < a.length by omega,mv_get hk,mv_get hk2,Int.toNat_natCast,getC_pr,prV,eqF_pr,decide_eq_true h]
      exact hN _ _ hk ⟨e.2 h,rfl⟩
    · have hne:a≠b:=fun e => h (by simp [e])
      simp (maxSteps:=1000000) (disch:=omega) only [rg,gD,simprocAttr,show (k:Int) < a.length by omega,mv_get hk,mv_get hk2,Int.toNat_natCast,getC_pr,prV,eqF_pr,decide_eq_false h]
      refine hR _ _ ?_
      simp (maxSteps:=1000000) (disch:=omega) only [rg,gD,simprocAttr]
      (refine fin_x rfl ?_ ?_<;>simp [pack,lo,loL,V.closed,closedL,mv_closed,hne])
  · obtain rfl:k=a.length:=by omega
    have hab:a=b:=by rw [List.take_length,c,List.take_length] at ht; exact ht
    simp (maxSteps:=1000000) (disch:=omega) only [rg,gD,simprocAttr,Int.lt_irrefl]
    refine hX _ _ _ ?_
    simp (maxSteps:=1000000) (disch:=omega) only [rg,gD,simprocAttr]
    refine x_frz0 ?_
    simp (maxSteps:=1000000) (disch:=omega) only [rg,gD,simprocAttr]
    (refine fin_x rfl ?_ ?_<;>simp [pack,lo,loL,V.closed,closedL,mv_closed,hab])
section
def w5W:Wd:=⟨5,0,[],[]⟩
theorem w5_WR:WR w5W:=by
  refine ⟨by simp [w5W,MT],by simp [w5W,MT],by simp [w5W],by simp [w5W], ?_, ?_,by simp [w5W],by simp [w5W],by simpa [w5W,toksR] using Tk.nil _⟩
  all_goals (intro i hi; simp [w5W,dagsN,runsN] at hi)
theorem w5_M:WdM w5W:=⟨⟨by simp [w5W],by simp [w5W],by simp [w5W],by simp [w5W]⟩,by simp [w5W]⟩
theorem w5_rows:rowsS w5W=[([109],(putS 5 6).1++(putS 0 6).1)]:=by simp [rowsS,w5W,metaPr,putsP,withP,runsPr]
open Classical in
theorem law_alive21:PCall Tryz.prog 27 [] (.bool true):=by
  refine en27 (by simp) (by simp [closedL]) ?_
  have h1:PCall Tryz.prog 26 [V.agg [.int .i64 5,.int .i64 0,.fsl .nil 2 [],.fsl .nil 5 []]] (.tup [.fsl .loose 2 [prV ([109],(putS 5 6).1++(putS 0 6).1)],.int .i64 0]):=by
    have:=rows_rows w5W w5_M
    rw [if_pos w5_WR,if_pos w5_WR,w5_rows] at this
    exact this.of_eq (by simp [wdV,w5W,loL,lo,mv_nil])
  simp (maxSteps:=1000000) (disch:=omega) only [rg,gD,simprocAttr,c27]
  refine ⟨_,h1, ?_⟩
  simp (maxSteps:=1000000) (disch:=omega) only [rg,gD,simprocAttr,prV]
  (refine fin_x rfl ?_ ?_<;>simp [pack,lo,loL,V.closed,closedL,mv_closed])
end
theorem put6_inj {n m:Int} (hn:0≤n∧n≤MT) (hm:0≤m∧m≤MT) (h:(putS n 6).1=(putS m 6).1):n=m:=by
  have e6:(6:Int).toNat=6:=rfl
  have p6:(256:Int) ^ 6=281474976710656:=by decide
  have q6:(256:Nat) ^ 6=281474976710656:=by decide
  unfold MT at hn hm
  rw [putS_in ⟨by omega,by omega,hn.1,by rw [e6,p6]; omega⟩,putS_in ⟨by omega,by omega,hm.1,by rw [e6,p6]; omega⟩,e6] at h
  have h1:=beN_beS 6 n.toNat (by rw [q6]; omega)
  have h2:=beN_beS 6 m.toNat (by rw [q6]; omega)
  simp only at h
  rw [h,h2] at h1; omega
theorem put6_len {n:Int} (hn:0≤n∧n≤MT):(putS n 6).1.length=6:=by
  have e6:(6:Int).toNat=6:=rfl
  have p6:(256:Int) ^ 6=281474976710656:=by decide
  unfold MT at hn
  rw [putS_in ⟨by omega,by omega,hn.1,by rw [e6,p6]; omega⟩,e6]; simp [beS_len]
theorem text_inj {s t:Str} (hs:s.length≤65535) (ht:t.length≤65535) (h:(textS s).1=(textS t).1):s=t:=by
  rw [textS_in hs,textS_in ht] at h
  simp only at h
  exact (List.append_inj h (by rw [beS_len,beS_len])).2
theorem key_one {l:List Pr} (h:(keysP l).Nodup) {k v v':Str} (h1:(k,v)∈l) (h2:(k,v')∈l):v=v':=by
  obtain ⟨i,hi,e1⟩:=List.mem_iff_getElem.1 h1
  obtain ⟨j,hj,e2⟩:=List.mem_iff_getElem.1 h2
  have hn:=List.pairwise_iff_getElem.1 h
  have hij:i=j:=by
    rcases Nat.lt_trichotomy i j with c | c | c
    · exact absurd (by simp [keysP,e1,e2]) (hn i j (by simpa [keysP] using hi) (by simpa [keysP] using hj) c)
    · exact c
    · exact absurd (by simp [keysP,e1,e2]) (hn j i (by simpa [keysP] using hj) (by simpa [keysP] using hi) c)
  subst hij
  rw [e1] at e2
  exact congrArg Prod.snd e2
theorem sttsPr_mem {r:Rn} {k:Nat} {p:Pr}:p∈sttsPr r k↔∃ i,i < k∧p=sttPr r i (r.states.getD i zS):=by
  simp only [sttsPr,List.mem_map,List.mem_range]
  exact ⟨fun ⟨i,h,e⟩ => ⟨i,h,e.symm⟩,fun ⟨i,h,e⟩ => ⟨i,h,e.symm⟩⟩
theorem rowsL_mem {w:Wd} {p:Pr}:p∈rowsL w↔(∃ d∈w.dags,p=dagPr d)∨p∈metaPr w∨∃ r∈w.runs,p=runPr r∨∃ i,i < r.states.length∧p=sttPr r i (r.states.getD i zS):=by
  simp only [rowsL,runsPr,runPrs,List.mem_append,List.mem_map,List.mem_flatMap,List.mem_cons,sttsPr_mem]
  constructor
  · rintro (⟨d,h,e⟩ | h | h)
    · exact .inl ⟨d,h,e.symm⟩
    · exact .inr (.inl h)
    · exact .inr (.inr h)
  · rintro (⟨d,h,e⟩ | h | h)
    · exact .inl ⟨d,h,e.symm⟩
    · exact .inr (.inl h)
    · exact .inr (.inr h)
theorem meta_first {w:Wd} {p:Pr} (h:p∈metaPr w):p.1=[109]∧p.2=(putS w.now 6).1++(putS w.token 6).1∧(0 < w.now∨0 < w.token):=by
  unfold metaPr at h
  split at h
  · rename_i c; simp at h; subst h; exact ⟨rfl,rfl,c⟩
  · cases h
theorem mem_100 {w:Wd} {n v:Str} (h:(100::n,v)∈rowsL w):∃ d∈w.dags,d.name=n∧dagB d=v:=by
  rcases rowsL_mem.1 h with ⟨d,hd,e⟩ | h | ⟨r,hr,e | ⟨i,hi,e⟩⟩
  · simp only [dagPr,Prod.mk.injEq,List.singleton_append,List.cons.injEq,true_and] at e
    exact ⟨d,hd,e.1.symm,e.2.symm⟩
  · have:=(meta_first h).1; simp at this
  · simp [runPr] at e
  · simp [sttPr] at e
theorem mem_114 {w:Wd} {n v:Str} (h:(114::n,v)∈rowsL w):∃ r∈w.runs,r.key=n∧(putS r.is 1).1++(textS r.dag.name).1=v:=by
  rcases rowsL_mem.1 h with ⟨d,hd,e⟩ | h | ⟨r,hr,e | ⟨i,hi,e⟩⟩
  · simp [dagPr] at e
  · have:=(meta_first h).1; simp at this
  · simp only [runPr,Prod.mk.injEq,List.singleton_append,List.cons.injEq,true_and] at e
    exact ⟨r,hr,e.1.symm,e.2.symm⟩
  · simp [sttPr] at e
theorem mem_109 {w:Wd} {v:Str} (h:([109],v)∈rowsL w):v=(putS w.now 6).1++(putS w.token 6).1∧(0 < w.now∨0 < w.token):=by
  rcases rowsL_mem.1 h with ⟨d,hd,e⟩ | h | ⟨r,hr,e | ⟨i,hi,e⟩⟩
  · simp [dagPr] at e
  · exact ⟨(meta_first h).2.1,(meta_first h).2.2⟩
  · simp [runPr] at e
  · simp [sttPr] at e
theorem is_bounds {r:Rn} (h:RnR r):0≤r.is∧r.is < 256:=by have:=h.kind; unfold kindS at this; (repeat' split at this)<;>omega
theorem put1_inj {a b:Int} (ha:0≤a∧a < 256) (hb:0≤b∧b < 256) (h:(putS a 1).1=(putS b 1).1):a=b:=by
  have:=beS_inj1 (a:=a.toNat) (b:=b.toNat) (by omega) (by omega) (by rw [Int.toNat_of_nonneg ha.1,Int.toNat_of_nonneg hb.1]; exact h)
  omega
theorem put1_len' {a:Int} (ha:0≤a∧a < 256):(putS a 1).1.length=1:=by
  have:=put1_len (a:=a.toNat) (by omega); rwa [Int.toNat_of_nonneg ha.1] at this
theorem dags_sub {a b:Wd} (ha:WR a) (hb:WR b) (h:∀ p,p∈rowsL a→p∈rowsL b):∀ d∈a.dags,d∈b.dags:=fun d hd => by
  obtain ⟨d',hd',e1,e2⟩:=mem_100 (h (dagPr d) (rowsL_mem.2 (.inl ⟨d,hd,rfl⟩)))
  have h1:=dagPut_back (show refRightS d=0 by rw [right_same]; exact ha.dags d hd)
  have h2:=dagPut_back (show refRightS d'=0 by rw [right_same]; exact hb.dags d' hd')
  rw [e2,h1] at h2
  have:=congrArg Prod.fst h2
  simp only at this; rw [this]; exact hd'
theorem runs_sub {a b:Wd} (ha:WR a) (hb:WR b) (hd:∀ d∈a.dags,d∈b.dags) (h:∀ p,p∈rowsL a→p∈rowsL b):∀ r∈a.runs,r∈b.runs:=fun r hr => by
  obtain ⟨r',hr',e1,e2⟩:=mem_114 (h (runPr r) (rowsL_mem.2 (.inr (.inr ⟨r,hr,.inl rfl⟩))))
  obtain ⟨q1,q2⟩:=ha.runs r hr
  obtain ⟨g1,g2⟩:=hb.runs r' hr'
  have b1:=is_bounds q2
  have b2:=is_bounds g2
  have e2':(putS r'.is 1).1++(textS r'.dag.name).1=(putS r.is 1).1++(textS r.dag.name).1:=e2
  obtain ⟨e3,e4⟩:=List.append_inj e2' (by rw [put1_len' b1,put1_len' b2])
  have his:=put1_inj b2 b1 e3
  have hnm:=text_inj (by have:=dag_nl g2.dag; omega) (by have:=dag_nl q2.dag; omega) e4
  have hdag:r'.dag=r.dag:=by
    have m1:=hd _ q1
    obtain ⟨i,hi,ei⟩:=List.mem_iff_getElem.1 m1
    obtain ⟨j,hj,ej⟩:=List.mem_iff_getElem.1 g1
    have l1:=(lbD_at hb.rdags hi).1
    have l2:=(lbD_at hb.rdags hj).1
    rw [ei] at l1; rw [ej,hnm] at l2
    have:i=j:=l1.symm.trans l2
    subst this; exact ej.symm.trans ei
  have hlen:r'.states.length=r.states.length:=by rw [g2.len,q2.len,hdag]
  have hst:r'.states=r.states:=by
    refine List.ext_getElem hlen fun i h1 h2 => ?_
    have m1:sttPr r i (r.states.getD i zS)∈rowsL b:=h _ (rowsL_mem.2 (.inr (.inr ⟨r,hr,.inr ⟨i,h2,rfl⟩⟩)))
    have m2:sttPr r' i (r'.states.getD i zS)∈rowsL b:=rowsL_mem.2 (.inr (.inr ⟨r',hr',.inr ⟨i,h1,rfl⟩⟩))
    unfold sttPr at m1 m2
    rw [e1] at m2
    have hv:=key_one (rows_nodup hb) m1 m2
    simp only [List.getD_eq_getElem?_getD,List.getElem?_eq_getElem h1,List.getElem?_eq_getElem h2,Option.getD_some] at hv
    have k1:=stPut_back (g2.stands _ (List.getElem_mem h1))
    have k2:=stPut_back (q2.stands _ (List.getElem_mem h2))
    rw [← hv,k2] at k1
    exact (congrArg Prod.fst k1).symm
  have:r'=r:=by
    cases r; cases r'
    simp only [Rn.mk.injEq] at *
    exact ⟨e1,hdag,his,hst⟩
  rw [← this]; exact hr'
theorem rises_eq {α:Type} {f:α→Str} {l l':List α} (h:Rise (l.map f)) (h':Rise (l'.map f)) (hm:∀ x,x∈l↔x∈l'):l=l':=by
  have pw:∀ {l:List α},Rise (l.map f)→l.Pairwise fun a b => ltS (f a) (f b)=true:=fun {l} h => by
    refine List.pairwise_iff_getElem.2 fun i j hi hj hij => ?_
    have:=rise_lt h j i (by simpa using hj) hij
    simpa using this
  have nd:∀ {l:List α},Rise (l.map f)→l.Nodup:=fun h => (pw h).imp fun h e => by rw [e,lt_irr] at h; cases h
  refine List.Perm.eq_of_pairwise (le:=fun a b => ltS (f a) (f b)=true) (fun a b _ _ h1 h2 => ?_) (pw h) (pw h') ((List.perm_ext_iff_of_nodup (nd h) (nd h')).2 hm)
  rw [lt_asy h1] at h2; cases h2
theorem rows_inj {a b:Wd} (ha:WR a) (hb:WR b) (h:rowsS a=rowsS b):a=b:=by
  have hm:∀ p,p∈rowsL a↔p∈rowsL b:=fun p => by
    rw [← (rows_ok ha).2.mem_iff,← (rows_ok hb).2.mem_iff,h]
  have d1:=dags_sub ha hb fun p => (hm p).1
  have d2:=dags_sub hb ha fun p => (hm p).2
  have hd:a.dags=b.dags:=rises_eq (f:=Dag.name) ha.rdags hb.rdags fun d => ⟨d1 d,d2 d⟩
  have hr:a.runs=b.runs:=rises_eq (f:=Rn.key) ha.rruns hb.rruns fun r => ⟨runs_sub ha hb d1 (fun p => (hm p).1) r,runs_sub hb ha d2 (fun p => (hm p).2) r⟩
  have hmeta:a.now=b.now∧a.token=b.token:=by
    have one:∀ {x y:Wd},WR x→WR y→(∀ p,p∈rowsL x→p∈rowsL y)→(0 < x.now∨0 < x.token)→x.now=y.now∧x.token=y.token:=fun {x y} hx hy hp c => by
      have m1:([109],(putS x.now 6).1++(putS x.token 6).1)∈rowsL x:=rowsL_mem.2 (.inr (.inl (by unfold metaPr; rw [if_pos c]; simp)))
      obtain ⟨e,_⟩:=mem_109 (hp _ m1)
      obtain ⟨e1,e2⟩:=List.append_inj e (by rw [put6_len hx.now,put6_len hy.now])
      exact ⟨put6_inj hx.now hy.now e1,put6_inj hx.token hy.token e2⟩
    by_cases c:0 < a.now∨0 < a.token
    · exact one ha hb (fun p => (hm p).1) c
    · by_cases c':0 < b.now∨0 < b.token
      · obtain ⟨e1,e2⟩:=one hb ha (fun p => (hm p).2) c'; exact ⟨e1.symm,e2.symm⟩
      · have:=ha.now; have:=ha.token; have:=hb.now; have:=hb.token
        omega
  cases a; cases b
  simp only [Wd.mk.injEq] at *
  exact ⟨hmeta.1,hmeta.2,hd,hr⟩
theorem rdInts_stop {s:Str} {k:Nat} {r:Int×Int} (h:¬ r.2=0):rdInts s k r=([],r):=by
  cases k with
  | zero => rfl
  | succ k => rw [rdInts,if_neg h]
theorem rdTasks_stop {s:Str} {k:Nat} {r:Int×Int} (h:¬ r.2=0):rdTasks s k r=([],r):=by
  cases k with
  | zero => rfl
  | succ k => rw [rdTasks,if_neg h]
theorem rdInts_len (s:Str):∀ (k:Nat) (r:Int×Int),(rdInts s k r).1.length≤k
  | 0,r => by simp [rdInts]
  | k+1,r => by
    rw [rdInts]; split
    · have:=rdInts_len s k (nextS s r 1).2; simp; omega
    · simp
theorem dag_next (H:Hp) (b1 b2 b3:Nat) (s:Str) (r:Int×Int) (k:Int) (hs:s.length≤140737488355328) (h1:b1 < H.n) (h2:b2 < H.n) (h3:b3 < H.n) (h12:b1≠b2) (h13:b1≠b3) (h23:b2≠b3)
    (m1:H.m b1=some (.arr 1 [.int .i64 r.2])) (m2:H.m b2=some (.arr 1 [.str s])) (m3:H.m b3=some (.arr 1 [.int .i64 r.1])) :
    ACall Tryz.prog 195 [.int .i64 k,.ptr b1 0 0,.ptr b2 0 0,.ptr b3 0 0] H [b1,b2,b3] (.int .i64 (nextS s r k).1) [(b3,some (.arr 1 [.int .i64 (nextS s r k).2.1])),(b1,some (.arr 1 [.int .i64 (nextS s r k).2.2]))] 0:=by
  refine ena195 (by simp) (by simp [lowL,V.low,h1,h2,h3]) (fun id hid => ?_) (by simp) ?_
  · simp at hid
    rcases hid with rfl | rfl | rfl
    · exact ⟨h1,fun o ho => by rw [m1] at ho; simp at ho; subst ho; rfl⟩
    · exact ⟨h2,fun o ho => by rw [m2] at ho; simp at ho; subst ho; rfl⟩
    · exact ⟨h3,fun o ho => by rw [m3] at ho; simp at ho; subst ho; rfl⟩
  have q1:only [b1,b2,b3] H.m b1=some (.arr 1 [.int .i64 r.2]):=by simp [only,m1]
  have q2:only [b1,b2,b3] H.m b2=some (.arr 1 [.str s]):=by simp [only,m2]
  have q3:only [b1,b2,b3] H.m b3=some (.arr 1 [.int .i64 r.1]):=by simp [only,m3]
  generalize only [b1,b2,b3] H.m=m0 at q1 q2 q3
  by_cases c:r.2=0
  · have hS:nextS s r k=getS s r.1 k:=by rw [nextS,if_pos c]
    rw [hS]
    simp (maxSteps:=1000000) (disch:=omega) only [rg,gD,simprocAttr,c195,q1,q2,q3,c]
    refine ⟨_,code_get s r.1 k hs, ?_⟩
    simp (maxSteps:=1000000) (disch:=omega) only [rg,gD,simprocAttr,gV,q1,q3]
    exact fin_A (l:=[.int .i64 (getS s r.1 k).1]) rfl (.inl rfl) (by simp) (fun id => .inr (by
      by_cases e1:id=b1
      · subst e1; simp [appd,upd]
      · by_cases e3:id=b3
        · subst e3; simp [appd,upd,e1]
        · simp [appd,upd,e1,e3]))
  · have hS:nextS s r k=(0,r):=by rw [nextS,if_neg c]
    rw [hS]
    simp (maxSteps:=1000000) (disch:=omega) only [rg,gD,simprocAttr,c195,q1,c]
    exact fin_A (l:=[.int .i64 0]) rfl (.inl rfl) (by simp) (fun id => .inr (by
      by_cases e1:id=b1
      · subst e1; simp [appd,upd,q1]
      · by_cases e3:id=b3
        · subst e3; simp [appd,upd,e1,q3]
        · simp [appd,upd,e1,e3]))
theorem rdTasks_len (s:Str):∀ (k:Nat) (r:Int×Int),(rdTasks s k r).1.length≤k∧∀ t∈(rdTasks s k r).1,t.needs.length≤255
  | 0,r => by simp [rdTasks]
  | k+1,r => by
    rw [rdTasks]; split
    · have:=rdTasks_len s k (rdTask s r).2
      refine ⟨by simp; omega,fun t ht => ?_⟩
      rcases List.mem_cons.1 ht with rfl | ht
      · simp only [rdTask]
        have h1:=rdInts_len s (nextS s r 1).1.toNat (nextS s r 1).2
        have h2:=nextS_lt s r
        omega
      · exact this.2 t ht
    · simp
theorem rdDag_len (s:Str) (r:Int×Int):(rdDag s r).1.tasks.length≤255∧(∀ t∈(rdDag s r).1.tasks,t.needs.length≤255)∧(rdDag s r).1.name.length≤s.length:=by
  have h1:=rdTasks_len s (nextS s (txtS s r).2 1).1.toNat (nextS s (txtS s r).2 1).2
  have h2:=nextS_lt s (txtS s r).2
  refine ⟨by simp only [rdDag]; omega,h1.2, ?_⟩
  simp only [rdDag,txtS]; split
  · exact cutS_len _ _
  · simp
def dagP (p:Dag×Int):V:=.tup [dagV p.1,.int .i64 p.2]
theorem dag_get (s:Str) (hs:s.length≤140737488355328):PCall Tryz.prog 144 [.str s] (dagP (dagGetS s)):=by
  refine en144 (by simp) (by simp [closedL,V.closed]) ?_
  simp (maxSteps:=1000000) (disch:=omega) only [rg,gD,simprocAttr,c144]
  refine ⟨_,code_cut s 0 (by omega), ?_⟩
  have ha:txtS s (0,0)=cutS s 0:=by simp [txtS]
  rw [← ha]
  generalize ha':txtS s (0,0)=a
  simp (maxSteps:=1000000) (disch:=omega) only [rg,gD,simprocAttr,cV]
  refine ⟨_,_,_,_,dag_next _ 3 0 2 s a.2 1 (by omega) (by simp) (by simp) (by simp) (by simp) (by simp) (by simp) (by simp (disch:=omega) only [upd_eq,upd_ne,wo_0,wo_1,wo_2]) (by simp (disch:=omega) only [upd_eq,upd_ne,wo_0,wo_1,wo_2]) (by simp (disch:=omega) only [upd_eq,upd_ne,wo_0,wo_1,wo_2]), ?_⟩
  have hn1:=nextS_lt s a.2
  simp (maxSteps:=1000000) (disch:=omega) only [rg,gD,simprocAttr]
  generalize hn:nextS s a.2 1=n at hn1
  have hD:rdDag s (0,0)=(⟨a.1,(rdTasks s n.1.toNat n.2).1⟩,(rdTasks s n.1.toNat n.2).2):=by simp only [rdDag,ha',hn]
  have hDl:=rdDag_len s (0,0)
  obtain ⟨N,hN⟩:∃ N:Nat,n.1=N:=⟨n.1.toNat,by omega⟩
  rw [hN] at hn1 hD ⊢
  rw [Int.toNat_natCast] at hD
  refine x_it N (fun i σ H => 5≤H.n∧∃ out r' v,H.m 0=some (.arr 1 [.str s])∧H.m 1=some (.arr 2 [.agg [.str [],.fsl .nil 4 []]])∧H.m 2=some (.arr 1 [.int .i64 r'.1])∧H.m 3=some (.arr 1 [.int .i64 r'.2])∧H.m 4=some (.arr 2 [.agg [.str a.1,v]])∧Gro 5 H.n H.m 4 v (mv taskV out) ∧
    out.length=i∧rdTasks s N n.2=(out++(rdTasks s (N - i) r').1,(rdTasks s (N - i) r').2)∧σ=[(1,.ptr 0 0 0),(2,.ptr 1 0 0),(5,.ptr 2 0 0),(6,.ptr 3 0 0),(7,.fn 195 [] [.ptr 3 0 0,.ptr 0 0 0,.ptr 2 0 0]),(8,.ptr 4 0 0),(9,.int .i64 (N - i:Nat))]) ?_ ?_
  · exact ⟨Nat.le_refl _,[],n.2,_,(by simp (disch:=omega) only [upd_eq,upd_ne,wo_0,wo_1,wo_2]),(by simp (disch:=omega) only [upd_eq,upd_ne,wo_0,wo_1,wo_2]),(by simp (disch:=omega) only [upd_eq,upd_ne,wo_0,wo_1,wo_2]),(by simp (disch:=omega) only [upd_eq,upd_ne,wo_0,wo_1,wo_2]),(by simp (disch:=omega) only [upd_eq,upd_ne,wo_0,wo_1,wo_2]),Gro.nil,rfl,by simp,rfl⟩
  rintro T i σ ⟨q,m⟩ hi ⟨hq,out,r',v,x0,x1,x2,x3,x4,hG,hol,hrs,rfl⟩ hN2 hX hR
  simp only at hq x0 x1 x2 x3 x4 hG
  -- the end,once no task is read any more
  have stop:rdTasks s (N - i) r'=([],r')→T (.exit 0) [(1,.ptr 0 0 0),(2,.ptr 1 0 0),(5,.ptr 2 0 0),(6,.ptr 3 0 0),(7,.fn 195 [] [.ptr 3 0 0,.ptr 0 0 0,.ptr 2 0 0]),(8,.ptr 4 0 0),(9,.int .i64 (N - i:Nat)),(29,.bool false)] ⟨q,m⟩:=fun hz => by
    rw [hz,List.append_nil] at hrs
    rw [hrs] at hD
    rw [hD] at hDl
    refine hX _ _ _ ?_
    simp (maxSteps:=1000000) (disch:=omega) only [rg,gD,simprocAttr]
    obtain ⟨fz,st,f1,f2,f3⟩:=hG.frz (mv_closed taskV_closed)
    have d0:=frl_cl (fz:=fz) (ids:=[4]) x0 rfl (fun h => by have:=f1 _ h; omega) (by simp)
    have d1:=frl_cl (fz:=fz) (ids:=[4]) x1 rfl (fun h => by have:=f1 _ h; omega) (by simp)
    have d2:=frl_cl (fz:=fz) (ids:=[4]) x2 rfl (fun h => by have:=f1 _ h; omega) (by simp)
    have d3:=frl_cl (fz:=fz) (ids:=[4]) x3 rfl (fun h => by have:=f1 _ h; omega) (by simp)
    have k4:frzV fz m (.agg [.str a.1,v])=.agg [.str a.1,.fsl st 4 (mv taskV out)]:=frzV_mid (pre:=[.str a.1]) (post:=[]) f2 rfl rfl
    have d4:=frl_lo (fz:=fz) (ids:=[4]) x4 (fun h => by have:=f1 _ h; omega) (by simp)
    rw [List.map_cons,List.map_nil,k4] at d4
    simp only [loL,lo,mv_lo taskV_lo] at d4
    refine x_frzL fz [4] ?_
    simp only at d0 d1 d2 d3 d4 ⊢
    generalize loH [4] (frzH fz m)=m' at d0 d1 d2 d3 d4
    have kr:=dag_right ⟨a.1,out⟩ (fun t ht => Nat.le_trans (hDl.2.1 t ht) (by omega)) (Nat.le_trans hDl.1 (by omega))
    rw [← right_same] at kr
    unfold dagV tasksV at kr
    simp only at kr
    by_cases c1:r'.2=0
    case neg =>
      simp (maxSteps:=1000000) (disch:=omega) only [rg,gD,simprocAttr,d3,c1,d1]
      refine ⟨by simp [compat,disj,nthL], ?_⟩
      (refine fin_x rfl ?_ ?_<;>simp [pack,lo,loL,V.closed,closedL,mv_closed,dagP,dagGetS,hD,c1,zeroD,dagV,tasksV,mv])
    by_cases c2:r'.1=s.length
    case neg =>
      simp (maxSteps:=1000000) (disch:=omega) only [rg,gD,simprocAttr,d0,d1,d2,d3,c1,c2]
      (refine fin_x rfl ?_ ?_<;>simp [pack,lo,loL,V.closed,closedL,mv_closed,dagP,dagGetS,hD,c1,c2,zeroD,dagV,tasksV,mv])
    simp (maxSteps:=1000000) (disch:=omega) only [rg,gD,simprocAttr,d0,d1,d2,d3,d4,c1,c2]
    refine ⟨_,kr, ?_⟩
    by_cases c3:refRightS ⟨a.1,out⟩=0
    case neg =>
      simp (maxSteps:=1000000) (disch:=omega) only [rg,gD,simprocAttr,d1,c3]
      (refine fin_x rfl ?_ ?_<;>simp [pack,lo,loL,V.closed,closedL,mv_closed,dagP,dagGetS,hD,c1,c2,c3,zeroD,dagV,tasksV,mv])
    simp (maxSteps:=1000000) (disch:=omega) only [rg,gD,simprocAttr,d1,d4,c3]
    (refine fin_x rfl ?_ ?_<;>simp [pack,lo,loL,V.closed,closedL,mv_closed,dagP,dagGetS,hD,c1,c2,c3,dagV,tasksV,mv_closed taskV_closed,mv_lo taskV_lo])
  by_cases c1:i < N
  case neg =>
    have hs0:=stop (by rw [show N - i=0 by omega]; rfl)
    simp (maxSteps:=1000000) (disch:=omega) only [rg,gD,simprocAttr,show ¬ (0:Int) < (N - i:Nat) by omega]
    exact hs0
  by_cases c2:r'.2=0
  case neg =>
    have hs0:=stop (rdTasks_stop c2)
    simp (maxSteps:=1000000) (disch:=omega) only [rg,gD,simprocAttr,show (0:Int) < (N - i:Nat) by omega,x3,c2]
    exact hs0
  clear stop
  have hNi:N - i=(N - (i+1))+1:=by omega
  have hdec:((N - i:Nat):Int) - 1=(N - (i+1):Nat):=by omega
  have hpos:(0:Int) < (N - i:Nat):=by omega
  rw [hNi,rdTasks,if_pos c2] at hrs
  simp only at hrs
  simp (maxSteps:=1000000) (disch:=omega) only [rg,gD,simprocAttr,hpos,x3,c2]
  refine ⟨_,_,_,_,dag_next _ 3 0 2 s r' 1 (by omega) (by show 3 < q+1; omega) (by show 0 < q+1; omega) (by show 2 < q+1; omega) (by simp) (by simp) (by simp) (by simp (disch:=omega) only [upd_eq,upd_ne,wo_0,wo_1,wo_2,x3]) (by simp (disch:=omega) only [upd_eq,upd_ne,wo_0,wo_1,wo_2,x0]) (by simp (disch:=omega) only [upd_eq,upd_ne,wo_0,wo_1,wo_2,x2]), ?_⟩
  have hk1:=nextS_lt s r'
  simp (maxSteps:=1000000) (disch:=omega) only [rg,gD,simprocAttr]
  generalize hk:nextS s r' 1=k at hk1
  obtain ⟨K,hK⟩:∃ K:Nat,k.1=K:=⟨k.1.toNat,by omega⟩
  have hT:rdTask s r'=(⟨(rdInts s K k.2).1,(nextS s (rdInts s K k.2).2 1).1,(nextS s (nextS s (rdInts s K k.2).2 1).2 3).1,(nextS s (nextS s (nextS s (rdInts s K k.2).2 1).2 3).2 3).1⟩,(nextS s (nextS s (nextS s (rdInts s K k.2).2 1).2 3).2 3).2):=by
    simp only [rdTask,hk,hK,Int.toNat_natCast]
  rw [hT] at hrs
  rw [hK] at hk1 ⊢
  refine x_it K (fun j σ H => q+1≤H.n∧∃ xs r2 w,H.m 0=some (.arr 1 [.str s])∧H.m 1=some (.arr 2 [.agg [.str [],.fsl .nil 4 []]])∧H.m 2=some (.arr 1 [.int .i64 r2.1])∧H.m 3=some (.arr 1 [.int .i64 r2.2])∧H.m 4=some (.arr 2 [.agg [.str a.1,v]])∧Gro 5 q H.m 4 v (mv taskV out) ∧
    H.m q=some (.arr 4 [.agg [w,.int .i64 0,.int .i64 0,.int .i64 0]])∧Gro (q+1) H.n H.m 1 w (vI xs)∧xs.length=j∧rdInts s K k.2=(xs++(rdInts s (K - j) r2).1,(rdInts s (K - j) r2).2) ∧
    σ=[(1,.ptr 0 0 0),(2,.ptr 1 0 0),(5,.ptr 2 0 0),(6,.ptr 3 0 0),(7,.fn 195 [] [.ptr 3 0 0,.ptr 0 0 0,.ptr 2 0 0]),(8,.ptr 4 0 0),(9,.int .i64 (N - i:Nat)),(10,.ptr q 0 0),(11,.int .i64 (K - j:Nat))]) ?_ ?_
  · exact ⟨Nat.le_refl _,[],k.2,_,(by simp (disch:=omega) only [upd_eq,upd_ne,wo_0,wo_1,wo_2,x0]),(by simp (disch:=omega) only [upd_eq,upd_ne,wo_0,wo_1,wo_2,x1]),(by simp (disch:=omega) only [upd_eq,upd_ne,wo_0,wo_1,wo_2]),(by simp (disch:=omega) only [upd_eq,upd_ne,wo_0,wo_1,wo_2]),(by simp (disch:=omega) only [upd_eq,upd_ne,wo_0,wo_1,wo_2,x4]),hG.keep (Nat.le_refl _) (fun id h1 h2 => by simp (disch:=omega) only [upd_ne]),(by simp (disch:=omega) only [upd_eq,upd_ne,wo_0,wo_1,wo_2]),Gro.nil,rfl,by simp,rfl⟩
  rintro T2 j σ ⟨p,m2⟩ hj ⟨hp,xs,r2,w,y0,y1,y2,y3,y4,hGv,yq,hGw,hxl,hrx,rfl⟩ hN3 hX3 hR3
  simp only at hp y0 y1 y2 y3 y4 hGv yq hGw
  have stop2:rdInts s (K - j) r2=([],r2)→T2 (.exit 2) [(1,.ptr 0 0 0),(2,.ptr 1 0 0),(5,.ptr 2 0 0),(6,.ptr 3 0 0),(7,.fn 195 [] [.ptr 3 0 0,.ptr 0 0 0,.ptr 2 0 0]),(8,.ptr 4 0 0),(9,.int .i64 (N - i:Nat)),(10,.ptr q 0 0),(11,.int .i64 (K - j:Nat)),(39,.bool false)] ⟨p,m2⟩:=fun hz => by
    rw [hz,List.append_nil] at hrx
    rw [hrx] at hrs
    simp only at hrs
    refine hX3 _ _ _ ?_
    simp (maxSteps:=1000000) (disch:=omega) only [rg,gD,simprocAttr]
    obtain ⟨fz,st,f1,f2,f3⟩:=hGw.frz vI_closed
    have d0:=frl_cl (fz:=fz) (ids:=[q]) y0 rfl (fun h => by have:=f1 _ h; omega) (by simp; omega)
    have d1:=frl_cl (fz:=fz) (ids:=[q]) y1 rfl (fun h => by have:=f1 _ h; omega) (by simp; omega)
    have d2:=frl_cl (fz:=fz) (ids:=[q]) y2 rfl (fun h => by have:=f1 _ h; omega) (by simp; omega)
    have d3:=frl_cl (fz:=fz) (ids:=[q]) y3 rfl (fun h => by have:=f1 _ h; omega) (by simp; omega)
    have k4:frzV fz m2 (.agg [.str a.1,v])=.agg [.str a.1,v]:=hGv.frz_keep (pre:=[.str a.1]) (post:=[]) (fun id h => by have:=f1 _ h; omega) rfl rfl
    have d4:=frl_get (fz:=fz) (ids:=[q]) y4 (fun h => by have:=f1 _ h; omega) (by simp; omega)
    rw [List.map_cons,List.map_nil,k4] at d4
    have kq:frzV fz m2 (.agg [w,.int .i64 0,.int .i64 0,.int .i64 0])=.agg [.fsl st 1 (vI xs),.int .i64 0,.int .i64 0,.int .i64 0]:=frzV_mid (pre:=[]) (post:=[.int .i64 0,.int .i64 0,.int .i64 0]) f2 rfl rfl
    have dq:=frl_lo (fz:=fz) (ids:=[q]) yq (fun h => by have:=f1 _ h; omega) (by simp)
    rw [List.map_cons,List.map_nil,kq] at dq
    simp only [loL,lo,vI_lo] at dq
    have dG:=hGv.frl (n':=q) (fz:=fz) (ids:=[q]) (mv_closed taskV_closed) (by omega) (fun id h => by have:=f1 _ h; omega) (by simp)
    refine x_frzL fz [q] ?_
    simp only at d0 d1 d2 d3 d4 dq dG ⊢
    generalize loH [q] (frzH fz m2)=m3 at d0 d1 d2 d3 d4 dq dG
    simp (maxSteps:=1000000) (disch:=omega) only [rg,gD,simprocAttr]
    refine ⟨_,_,_,_,dag_next _ 3 0 2 s r2 1 (by omega) (by show 3 < p; omega) (by show 0 < p; omega) (by show 2 < p; omega) (by simp) (by simp) (by simp) (by simp (disch:=omega) only [upd_eq,upd_ne,wo_0,wo_1,wo_2,d3]) (by simp (disch:=omega) only [upd_eq,upd_ne,wo_0,wo_1,wo_2,d0]) (by simp (disch:=omega) only [upd_eq,upd_ne,wo_0,wo_1,wo_2,d2]), ?_⟩
    simp (maxSteps:=1000000) (disch:=omega) only [rg,gD,simprocAttr,dq]
    generalize nextS s r2 1=t1 at hrs
    refine ⟨_,_,_,_,dag_next _ 3 0 2 s t1.2 3 (by omega) (by show 3 < p; omega) (by show 0 < p; omega) (by show 2 < p; omega) (by simp) (by simp) (by simp) (by simp (disch:=omega) only [upd_eq,upd_ne,wo_0,wo_1,wo_2]) (by simp (disch:=omega) only [upd_eq,upd_ne,wo_0,wo_1,wo_2,d0]) (by simp (disch:=omega) only [upd_eq,upd_ne,wo_0,wo_1,wo_2]), ?_⟩
    simp (maxSteps:=1000000) (disch:=omega) only [rg,gD,simprocAttr]
    generalize nextS s t1.2 3=t2 at hrs
    refine ⟨_,_,_,_,dag_next _ 3 0 2 s t2.2 3 (by omega) (by show 3 < p; omega) (by show 0 < p; omega) (by show 2 < p; omega) (by simp) (by simp) (by simp) (by simp (disch:=omega) only [upd_eq,upd_ne,wo_0,wo_1,wo_2]) (by simp (disch:=omega) only [upd_eq,upd_ne,wo_0,wo_1,wo_2,d0]) (by simp (disch:=omega) only [upd_eq,upd_ne,wo_0,wo_1,wo_2]), ?_⟩
    simp (maxSteps:=1000000) (disch:=omega) only [rg,gD,simprocAttr,d4]
    generalize nextS s t2.2 3=t3 at hrs
    generalize hrow:Task.mk xs t1.1 t2.1 t3.1=tk at hrs
    have htv:V.agg [.fsl .loose 1 (vI xs),.int .i64 t1.1,.int .i64 t2.1,.int .i64 t3.1]=taskV tk:=by rw [← hrow]; rfl
    refine app_gro (l:=mv taskV out) (ys:=[taskV tk]) (dG.keep (by show q≤p; omega) (fun id h1 h2 => by simp (disch:=omega) only [upd_ne])) (by show 5≤p; omega) (by rw [← htv]; rfl) (by simp) (by simp [mv_len]; omega) ?_
    intro v' fp ds hG' h1' h2'
    simp only at hG' h1' h2'
    have z0:=h1' 0 (by omega)
    have z1:=h1' 1 (by omega)
    have z2:=h1' 2 (by omega)
    have z3:=h1' 3 (by omega)
    have z4:=h1' 4 (by omega)
    simp (disch:=omega) only [upd_eq,upd_ne,d0,d1,d4] at z0 z1 z2 z3 z4
    rw [x_nx]
    refine ⟨by simp only [compat_nil], ?_⟩
    simp only []
    generalize appd ds _=m5 at hG' z0 z1 z2 z3 z4 ⊢
    rw [mv_app1] at hG'
    simp (maxSteps:=1000000) (disch:=omega) only [rg,gD,simprocAttr,z4,hG'.cell,hdec]
    refine x_frz0 ?_
    simp (maxSteps:=1000000) (disch:=omega) only [rg,gD,simprocAttr,hdec]
    refine hN2 _ _ c1 ?_
    refine ⟨by show 5≤p+1; omega,out++[tk],t3.2,v',(by simp (disch:=omega) only [upd_eq,upd_ne,wo_0,wo_1,wo_2,z0]),(by simp (disch:=omega) only [upd_eq,upd_ne,wo_0,wo_1,wo_2,z1]),(by simp (disch:=omega) only [upd_eq,upd_ne,wo_0,wo_1,wo_2,z2]),(by simp (disch:=omega) only [upd_eq,upd_ne,wo_0,wo_1,wo_2,z3]),(by simp (disch:=omega) only [upd_eq,upd_ne,wo_0,wo_1,wo_2]),hG'.keep (Nat.le_refl _) (fun id h1 h2 => by simp (disch:=omega) only [upd_ne]),by simp [hol],by rw [hrs]; simp,rfl⟩
  by_cases c3:j < K
  case neg =>
    have hs0:=stop2 (by rw [show K - j=0 by omega]; rfl)
    simp (maxSteps:=1000000) (disch:=omega) only [rg,gD,simprocAttr,show ¬ (0:Int) < (K - j:Nat) by omega]
    exact hs0
  by_cases c4:r2.2=0
  case neg =>
    have hs0:=stop2 (rdInts_stop c4)
    simp (maxSteps:=1000000) (disch:=omega) only [rg,gD,simprocAttr,show (0:Int) < (K - j:Nat) by omega,y3,c4]
    exact hs0
  clear stop2
  have hKj:K - j=(K - (j+1))+1:=by omega
  have hdec2:((K - j:Nat):Int) - 1=(K - (j+1):Nat):=by omega
  have hpos2:(0:Int) < (K - j:Nat):=by omega
  rw [hKj,rdInts,if_pos c4] at hrx
  simp only at hrx
  simp (maxSteps:=1000000) (disch:=omega) only [rg,gD,simprocAttr,hpos2,y3,c4,yq]
  refine ⟨_,_,_,_,dag_next _ 3 0 2 s r2 1 (by omega) (by show 3 < p; omega) (by show 0 < p; omega) (by show 2 < p; omega) (by simp) (by simp) (by simp) (by simp (disch:=omega) only [upd_eq,upd_ne,wo_0,wo_1,wo_2,y3]) (by simp (disch:=omega) only [upd_eq,upd_ne,wo_0,wo_1,wo_2,y0]) (by simp (disch:=omega) only [upd_eq,upd_ne,wo_0,wo_1,wo_2,y2]), ?_⟩
  simp (maxSteps:=1000000) (disch:=omega) only [rg,gD,simprocAttr]
  try refine ⟨by simp [compat,disj,nthL]; omega, ?_⟩
  generalize nextS s r2 1=t1 at hrx
  refine app_gro (l:=vI xs) (ys:=[.int .i64 t1.1]) (hGw.keep (Nat.le_refl _) (fun id h1 h2 => by simp (disch:=omega) only [upd_ne])) hp rfl (by simp) (by simp [vI_len]; omega) ?_
  intro w' fp ds hG' h1' h2'
  simp only at hG' h1' h2'
  have z0:=h1' 0 (by omega)
  have z1:=h1' 1 (by omega)
  have z2:=h1' 2 (by omega)
  have z3:=h1' 3 (by omega)
  have z4:=h1' 4 (by omega)
  have zq:=h1' q (by omega)
  have zG:=hGv.keep (n':=q) (m':=appd ds _) (Nat.le_refl _) (fun id h1 h2 => (h1' id (by omega)).trans (by simp (disch:=omega) only [upd_ne]))
  simp (disch:=omega) only [upd_eq,upd_ne,y0,y1,y4,yq] at z0 z1 z2 z3 z4 zq
  rw [x_nx]
  refine ⟨by simp only [compat_nil], ?_⟩
  simp only []
  generalize appd ds _=m5 at hG' z0 z1 z2 z3 z4 zq zG ⊢
  rw [show vI xs++[.int .i64 t1.1]=vI (xs++[t1.1]) from mv_app1] at hG'
  simp (maxSteps:=1000000) (disch:=omega) only [rg,gD,simprocAttr,zq,hG'.cell,hdec2]
  refine hN3 _ _ (by omega) ?_
  refine ⟨by show q+1≤p+1; omega,xs++[t1.1],t1.2,w',(by simp (disch:=omega) only [upd_eq,upd_ne,wo_0,wo_1,wo_2,z0]),(by simp (disch:=omega) only [upd_eq,upd_ne,wo_0,wo_1,wo_2,z1]),(by simp (disch:=omega) only [upd_eq,upd_ne,wo_0,wo_1,wo_2,z2]),(by simp (disch:=omega) only [upd_eq,upd_ne,wo_0,wo_1,wo_2,z3]),(by simp (disch:=omega) only [upd_eq,upd_ne,wo_0,wo_1,wo_2,z4]),zG.keep (Nat.le_refl _) (fun id h1 h2 => by simp (disch:=omega) only [upd_ne]),(by simp (disch:=omega) only [upd_eq,upd_ne,wo_0,wo_1,wo_2]),hG'.keep (Nat.le_refl _) (fun id h1 h2 => by simp (disch:=omega) only [upd_ne]),by simp [hxl],by rw [hrx]; simp,rfl⟩
/-! Maps of which the keys are texts. -/
def smV {β:Type} (f:β→V) (l:List (Str×β)):List (V×V):=l.map fun p => (V.str p.1,f p.2)
def sget {β:Type}:List (Str×β)→Str→Option β
  | [],_ => none
  | (q,b)::r,p => if p=q then some b else sget r p
def sset {β:Type}:List (Str×β)→Str→β→List (Str×β)
  | [],p,b => [(p,b)]
  | (q,c)::r,p,b => if p=q then (p,b)::r else (q,c)::sset r p b
theorem sm_get {β:Type} (f:β→V) (p:Str):∀ l:List (Str×β),mget (smV f l) (.str p)=(sget l p).map f
  | [] => rfl
  | (q,b)::l => by
    simp only [smV,List.map_cons,mget,sget,keq,beq_iff_eq]
    split
    · rfl
    · exact sm_get f p l
theorem sm_set {β:Type} (f:β→V) (p:Str) (b:β):∀ l:List (Str×β),mset (smV f l) (.str p) (f b)=smV f (sset l p b)
  | [] => rfl
  | (q,c)::l => by
    simp only [smV,List.map_cons,mset,sset,keq,beq_iff_eq]
    split
    · rfl
    · simp only [List.map_cons,List.cons.injEq,true_and]; exact sm_set f p b l
theorem sm_ok {β:Type} (f:β→V) (p:Str) (l:List (Str×β)):keysOk [8] (.str p) (smV f l):=by
  refine ⟨rfl,fun q hq => ?_⟩
  obtain ⟨r,_,rfl⟩:=List.mem_map.1 hq
  rfl
theorem sget_sset {β:Type} (p q:Str) (b:β):∀ l:List (Str×β),sget (sset l p b) q=if q=p then some b else sget l q
  | [] => by simp [sset,sget]
  | (r,c)::l => by
    simp only [sset]
    split
    · rename_i e; subst e
      simp only [sget]
      split<;>rfl
    · rename_i e
      simp only [sget]
      split
      · rename_i e2; subst e2; rw [if_neg (fun h => e h.symm)]
      · exact sget_sset p q b l
structure Ld where
  now:Int
  token:Int
  dags:List Dag
  runs:List Rn
  dm:List (Str×Dag)
  am:List (Str×Nat)
  bad:Bool
def ld0:Ld:=⟨0,0,[],[],[],[],false⟩
def pushS (l:List Rn) (i:Nat) (s:Stt):List Rn:=match l[i]? with | some r => l.set i { r with states:=r.states++[s] } | none => l
def pairS (s:Ld) (p:Pr):Ld :=
  match p.1 with
  | [] => { s with bad:=true }
  | c::rest =>
    if c=100 then { s with bad:=s.bad || decide ((dagGetS p.2).2≠0) || decide ((dagGetS p.2).1.name≠rest),dags:=s.dags++[(dagGetS p.2).1],dm:=sset s.dm rest (dagGetS p.2).1 }
    else if c=109 then { s with bad:=s.bad || decide ((getS p.2 0 6).2.2≠0) || decide ((getS p.2 (min (getS p.2 0 6).2.1 p.2.length) 6).2.2≠0),now:=(getS p.2 0 6).1,token:=(getS p.2 (min (getS p.2 0 6).2.1 p.2.length) 6).1 }
    else if c=114 then { s with bad:=s.bad || decide ((getS p.2 0 1).2.2≠0) || decide ((cutS p.2 (min (getS p.2 0 1).2.1 p.2.length)).2.2≠0) || !(sget s.dm (cutS p.2 (min (getS p.2 0 1).2.1 p.2.length)).1).isSome,am:=sset s.am rest s.runs.length,runs:=s.runs++[⟨rest,(sget s.dm (cutS p.2 (min (getS p.2 0 1).2.1 p.2.length)).1).getD ⟨[],[]⟩,(getS p.2 0 1).1,[]⟩] }
    else if c=116 then
      if rest=[] then { s with bad:=true }
      else if (s.bad || decide ((stGetS p.2).2≠0) || !(sget s.am (rest.take (rest.length - 1))).isSome)=true then { s with bad:=true }
      else { s with bad:=false,runs:=pushS s.runs ((sget s.am (rest.take (rest.length - 1))).getD 0) (stGetS p.2).1 }
    else { s with bad:=true }
structure LdOk (s:Ld) (N:Nat):Prop where
  am:∀ k i,sget s.am k=some i→i < s.runs.length
  runs:s.runs.length≤N
  dags:s.dags.length≤N
  states:∀ r∈s.runs,r.states.length≤N
theorem pushS_len (l:List Rn) (i:Nat) (s:Stt):(pushS l i s).length=l.length:=by unfold pushS; split<;>simp
theorem pushS_mem {l:List Rn} {i:Nat} {s:Stt} {r:Rn} (h:r∈pushS l i s):r∈l∨∃ q∈l,r={ q with states:=q.states++[s] }:=by
  unfold pushS at h
  split at h
  · rename_i q hq
    rcases List.mem_or_eq_of_mem_set h with h | h
    · exact .inl h
    · exact .inr ⟨q,List.mem_of_getElem? hq,h⟩
  · exact .inl h
theorem ld0_ok:LdOk ld0 0:=⟨by simp [ld0,sget],by simp [ld0],by simp [ld0],by simp [ld0]⟩
theorem pair_ok {s:Ld} {N:Nat} (h:LdOk s N) (p:Pr):LdOk (pairS s p) (N+1):=by
  have base:∀ b,LdOk { s with bad:=b } (N+1):=fun b => ⟨h.am,Nat.le_succ_of_le h.runs,Nat.le_succ_of_le h.dags,fun r hr => Nat.le_succ_of_le (h.states r hr)⟩
  unfold pairS
  split
  · exact base true
  rename_i c rest _
  by_cases c1:c=100
  · rw [if_pos c1]
    exact ⟨h.am,Nat.le_succ_of_le h.runs,by have:=h.dags; show (s.dags++[_]).length≤_; simp; omega,fun r hr => Nat.le_succ_of_le (h.states r hr)⟩
  rw [if_neg c1]
  by_cases c2:c=109
  · rw [if_pos c2]
    exact ⟨h.am,Nat.le_succ_of_le h.runs,Nat.le_succ_of_le h.dags,fun r hr => Nat.le_succ_of_le (h.states r hr)⟩
  rw [if_neg c2]
  by_cases c3:c=114
  · rw [if_pos c3]
    refine ⟨fun k i hk => ?_,by have:=h.runs; show (s.runs++[_]).length≤_; simp; omega,Nat.le_succ_of_le h.dags,fun r hr => ?_⟩
    · have hk':sget (sset s.am rest s.runs.length) k=some i:=hk
      rw [sget_sset] at hk'
      show i < (s.runs++[_]).length
      rw [List.length_append,List.length_singleton]
      split at hk'
      · simp at hk'; omega
      · have:=h.am k i hk'; omega
    · have hr':r∈s.runs++[_]:=hr
      rcases List.mem_append.1 hr' with hr | hr
      · exact Nat.le_succ_of_le (h.states r hr)
      · simp at hr; subst hr; simp
  rw [if_neg c3]
  by_cases c4:c=116
  · rw [if_pos c4]
    split
    · exact base true
    split
    · exact base true
    · refine ⟨fun k i hk => ?_, ?_,Nat.le_succ_of_le h.dags,fun r hr => ?_⟩
      · show i < (pushS s.runs _ _).length; rw [pushS_len]; exact h.am k i hk
      · show (pushS s.runs _ _).length≤_; rw [pushS_len]; exact Nat.le_succ_of_le h.runs
      · rcases pushS_mem hr with hr | ⟨q,hq,rfl⟩
        · exact Nat.le_succ_of_le (h.states r hr)
        · have:=h.states q hq; simp; omega
  · rw [if_neg c4]; exact base true
def c80:C :=
  (.seq
 (.reg false [p (.box 2 (.v 1))] [(0,.v 0),(3,.r 0)])
 (.seq
 (.seq
 (.reg false [p (.fad 0 (.v 3)),
 p (.load (none) (.r 0)),
 p (.bin .eql (.r 0) (.k (.str [])))] [(0,.v 0),(3,.v 3),(27,.r 0)])
 (.cond (.v 27)
 (.seq
 (.reg false [p (.mov (.v 0)),
 p (.nck (.r 0)),
 p (.fad 6 (.r 0)),
 p (.store (none) (.r 0) (.k (.bool true)))] [])
 .ret)
 .skip))
 (.seq
 (.reg false [p (.fad 0 (.v 3)),
 p (.load (none) (.r 0)),
 p (.sls (.r 0) (some (.k (.int .i64 1))) none),
 p (.mov (.r 0))] [(0,.v 0),(3,.v 3),(4,.r 0)])
 (.seq
 (.reg false [p (.fad 0 (.v 3)),
 p (.load (none) (.r 0)),
 p (.sls (.r 0) none (some (.k (.int .i64 1))))] [(0,.v 0),(3,.v 3),(4,.v 4),(36,.r 0)])
 (.block 0
 (.seq
 (.reg false [p (.bin .eql (.v 36) (.k (.str [100]))),
 p (.mov (.r 0))] [(0,.v 0),(3,.v 3),(4,.v 4),(36,.v 36),(40,.r 0)])
 (.cond (.v 40)
 (.seq
 (.reg false [p (.fad 1 (.v 3)),
 p (.load (none) (.r 0)),
 p (.call true (.k (.fn 144 [] [])) [.r 0]),
 p (.mov (.r 0)),
 p (.ext (.r 0) 0),
 p (.ext (.r 1) 1),
 p (.alloc 2 (.agg [.str [],.fsl .nil 4 []])),
 p (.store (some 2) (.r 0) (.r 2)),
 p (.mov (.r 2))] [(0,.v 0),(4,.v 4),(5,.r 2),(6,.r 0)])
 (.seq
 (.reg false [p (.mov (.v 0)),
 p (.mov (.v 0)),
 p (.nck (.r 0)),
 p (.fad 6 (.r 0)),
 p (.load (none) (.r 0)),
 p (.mov (.r 0)),
 ⟨.mov (.v 6),some (0,false),[]⟩,
 ⟨.bin .neq (.r 0) (.k (.int .i64 0)),some (1,false),[]⟩,
 p (.pick (.r 2) (.k (.bool true)) (.r 0)),
 p (.mov (.r 0)),
 ⟨.fad 0 (.v 5),some (0,false),[]⟩,
 ⟨.load (none) (.r 0),some (1,false),[]⟩,
 ⟨.mov (.v 4),some (2,false),[]⟩,
 ⟨.bin .neq (.r 1) (.r 0),some (3,false),[]⟩,
 p (.pick (.r 4) (.k (.bool true)) (.r 0)),
 p (.nck (.r 14)),
 p (.fad 6 (.r 0)),
 p (.store (none) (.r 0) (.r 2))] [(0,.v 0),(4,.v 4),(5,.v 5)])
 (.seq
 (.reg true [p (.mov (.v 0)),
 p (.mov (.v 0)),
 p (.nck (.r 0)),
 p (.fad 0 (.r 0)),
 p (.fad 2 (.r 0)),
 p (.load (none) (.r 0)),
 p (.load (some 2) (.v 5)),
 p (.bsl 2 [.r 0]),
 p (.app 2 40 (.r 2) (.r 0)),
 p (.nck (.r 8)),
 p (.fad 0 (.r 0)),
 p (.fad 2 (.r 0)),
 p (.store (none) (.r 0) (.r 3))] [(0,.v 0),(4,.v 4),(5,.v 5)])
 (.reg true [p (.mov (.v 0)),
 p (.nck (.r 0)),
 p (.fad 4 (.r 0)),
 p (.load (none) (.r 0)),
 p (.mov (.v 4)),
 p (.load (some 2) (.v 5)),
 p (.mup [8] (.r 2) (.r 1) (.r 0))] []))))
 (.seq
 (.reg false [p (.bin .eql (.v 36) (.k (.str [109]))),
 p (.mov (.r 0))] [(0,.v 0),(3,.v 3),(4,.v 4),(36,.v 36),(83,.r 0)])
 (.cond (.v 83)
 (.seq
 (.reg false [p (.fad 1 (.v 3)),
 p (.load (none) (.r 0)),
 p (.call true (.k (.fn 87 [] [])) [.r 0,.k (.int .i64 0),.k (.int .i64 6)]),
 p (.mov (.r 0)),
 p (.ext (.r 0) 0),
 p (.ext (.r 1) 1),
 p (.ext (.r 2) 2),
 p (.mov (.r 2)),
 p (.mov (.r 2)),
 p (.mov (.r 2))] [(0,.v 0),(3,.v 3),(7,.r 2),(8,.r 1),(9,.r 0)])
 (.seq
 (.reg false [p (.fad 1 (.v 3)),
 p (.load (none) (.r 0)),
 p (.mov (.v 8)),
 p (.fad 1 (.v 3)),
 p (.load (none) (.r 0)),
 p (.len true (.r 0)),
 p (.mnx false (.r 3) [.r 0]),
 p (.call true (.k (.fn 87 [] [])) [.r 5,.r 0,.k (.int .i64 6)]),
 p (.mov (.r 0)),
 p (.ext (.r 0) 0),
 p (.ext (.r 1) 1),
 p (.ext (.r 2) 2),
 p (.mov (.r 2)),
 p (.mov (.r 2)),
 p (.mov (.r 2))] [(0,.v 0),(7,.v 7),(9,.v 9),(10,.r 2),(12,.r 0)])
 (.seq
 (.reg false [p (.mov (.v 0)),
 p (.mov (.v 0)),
 p (.nck (.r 0)),
 p (.fad 6 (.r 0)),
 p (.load (none) (.r 0)),
 p (.mov (.r 0)),
 ⟨.mov (.v 9),some (0,false),[]⟩,
 ⟨.bin .neq (.r 0) (.k (.int .i64 0)),some (1,false),[]⟩,
 p (.pick (.r 2) (.k (.bool true)) (.r 0)),
 p (.mov (.r 0)),
 ⟨.mov (.v 12),some (0,false),[]⟩,
 ⟨.bin .neq (.r 0) (.k (.int .i64 0)),some (1,false),[]⟩,
 p (.pick (.r 2) (.k (.bool true)) (.r 0)),
 p (.nck (.r 12)),
 p (.fad 6 (.r 0)),
 p (.store (none) (.r 0) (.r 2))] [(0,.v 0),(7,.v 7),(10,.v 10)])
 (.reg false [p (.mov (.v 0)),
 p (.mov (.v 0)),
 p (.mov (.v 7)),
 p (.mov (.v 10)),
 p (.nck (.r 3)),
 p (.fad 0 (.r 0)),
 p (.fad 0 (.r 0)),
 p (.store (none) (.r 0) (.r 4)),
 p (.nck (.r 6)),
 p (.fad 0 (.r 0)),
 p (.fad 1 (.r 0)),
 p (.store (none) (.r 0) (.r 7))] []))))
 (.seq
 (.reg false [p (.bin .eql (.v 36) (.k (.str [114]))),
 p (.mov (.r 0))] [(0,.v 0),(3,.v 3),(4,.v 4),(36,.v 36),(129,.r 0)])
 (.cond (.v 129)
 (.seq
 (.reg false [p (.fad 1 (.v 3)),
 p (.load (none) (.r 0)),
 p (.call true (.k (.fn 87 [] [])) [.r 0,.k (.int .i64 0),.k (.int .i64 1)]),
 p (.mov (.r 0)),
 p (.ext (.r 0) 0),
 p (.ext (.r 1) 1),
 p (.ext (.r 2) 2),
 p (.mov (.r 2)),
 p (.mov (.r 2)),
 p (.mov (.r 2))] [(0,.v 0),(3,.v 3),(4,.v 4),(13,.r 2),(14,.r 1),(15,.r 0)])
 (.seq
 (.reg false [p (.fad 1 (.v 3)),
 p (.load (none) (.r 0)),
 p (.mov (.v 14)),
 p (.fad 1 (.v 3)),
 p (.load (none) (.r 0)),
 p (.len true (.r 0)),
 p (.mnx false (.r 3) [.r 0]),
 p (.call true (.k (.fn 89 [] [])) [.r 5,.r 0]),
 p (.mov (.r 0)),
 p (.ext (.r 0) 0),
 p (.ext (.r 1) 1),
 p (.ext (.r 2) 2),
 p (.mov (.r 2)),
 p (.mov (.r 2)),
 p (.mov (.r 2))] [(0,.v 0),(4,.v 4),(13,.v 13),(15,.v 15),(16,.r 2),(18,.r 0)])
 (.seq
 (.reg false [p (.mov (.v 0)),
 p (.nck (.r 0)),
 p (.fad 4 (.r 0)),
 p (.load (none) (.r 0)),
 p (.mov (.v 16)),
 p (.mlk true [8] (.agg [.str [],.fsl .nil 4 []]) (.r 1) (.r 0)),
 p (.mov (.r 0)),
 p (.ext (.r 0) 0),
 p (.ext (.r 1) 1),
 p (.alloc 2 (.agg [.str [],.fsl .nil 4 []])),
 p (.store (some 2) (.r 0) (.r 2)),
 p (.mov (.r 2))] [(0,.v 0),(4,.v 4),(13,.v 13),(15,.v 15),(18,.v 18),(19,.r 2),(20,.r 0)])
 (.seq
 (.reg false [p (.mov (.v 0)),
 p (.mov (.v 0)),
 p (.nck (.r 0)),
 p (.fad 6 (.r 0)),
 p (.load (none) (.r 0)),
 p (.mov (.r 0)),
 ⟨.mov (.v 15),some (0,false),[]⟩,
 ⟨.bin .neq (.r 0) (.k (.int .i64 0)),some (1,false),[]⟩,
 p (.pick (.r 2) (.k (.bool true)) (.r 0)),
 p (.mov (.r 0)),
 ⟨.mov (.v 18),some (0,false),[]⟩,
 ⟨.bin .neq (.r 0) (.k (.int .i64 0)),some (1,false),[]⟩,
 p (.pick (.r 2) (.k (.bool true)) (.r 0)),
 p (.mov (.r 0)),
 ⟨.mov (.v 20),some (0,false),[]⟩,
 ⟨.un .not (.r 0),some (1,false),[]⟩,
 p (.pick (.r 2) (.k (.bool true)) (.r 0)),
 p (.nck (.r 16)),
 p (.fad 6 (.r 0)),
 p (.store (none) (.r 0) (.r 2))] [(0,.v 0),(4,.v 4),(13,.v 13),(19,.v 19)])
 (.seq
 (.reg true [p (.mov (.v 0)),
 p (.nck (.r 0)),
 p (.fad 5 (.r 0)),
 p (.load (none) (.r 0)),
 p (.mov (.v 4)),
 p (.mov (.v 0)),
 p (.nck (.r 0)),
 p (.fad 0 (.r 0)),
 p (.fad 3 (.r 0)),
 p (.load (none) (.r 0)),
 p (.len false (.r 0)),
 p (.mup [8] (.r 7) (.r 6) (.r 0))] [(0,.v 0),(4,.v 4),(13,.v 13),(19,.v 19)])
 (.reg true [p (.mov (.v 0)),
 p (.mov (.v 0)),
 p (.nck (.r 0)),
 p (.fad 0 (.r 0)),
 p (.fad 3 (.r 0)),
 p (.load (none) (.r 0)),
 p (.mov (.v 4)),
 p (.load (some 2) (.v 19)),
 p (.mov (.v 13)),
 p (.build [.str [],.str [],.fsl .nil 4 [],.int .i64 0,.fsl .nil 5 []] [(0,1,.r 2),(1,2,.r 1),(3,1,.r 0)]),
 p (.bsl 5 [.r 0]),
 p (.app 5 88 (.r 5) (.r 0)),
 p (.nck (.r 11)),
 p (.fad 0 (.r 0)),
 p (.fad 3 (.r 0)),
 p (.store (none) (.r 0) (.r 3))] []))))))
 (.seq
 (.reg false [p (.bin .eql (.v 36) (.k (.str [116]))),
 p (.mov (.r 0))] [(0,.v 0),(3,.v 3),(4,.v 4),(204,.r 0)])
 (.cond (.v 204)
 (.seq
 (.seq
 (.reg false [p (.mov (.v 4)),
 p (.bin .eql (.r 0) (.k (.str [])))] [(0,.v 0),(3,.v 3),(4,.v 4),(207,.r 0)])
 (.cond (.v 207)
 (.seq
 (.reg false [p (.mov (.v 0)),
 p (.nck (.r 0)),
 p (.fad 6 (.r 0)),
 p (.store (none) (.r 0) (.k (.bool true)))] [])
 .ret)
 .skip))
 (.seq
 (.reg true [p (.mov (.v 0)),
 p (.nck (.r 0)),
 p (.fad 5 (.r 0)),
 p (.load (none) (.r 0)),
 p (.mov (.v 4)),
 p (.mov (.v 4)),
 p (.len true (.r 0)),
 p (.bin .sub (.r 0) (.k (.int .i64 1))),
 p (.sls (.r 3) none (some (.r 0))),
 p (.mlk true [8] (.int .i64 0) (.r 5) (.r 0)),
 p (.mov (.r 0)),
 p (.ext (.r 0) 0),
 p (.ext (.r 1) 1),
 p (.mov (.r 1)),
 p (.mov (.r 1))] [(0,.v 0),(3,.v 3),(21,.r 1),(22,.r 0)])
 (.seq
 (.reg false [p (.fad 1 (.v 3)),
 p (.load (none) (.r 0)),
 p (.call true (.k (.fn 145 [] [])) [.r 0]),
 p (.mov (.r 0)),
 p (.ext (.r 0) 0),
 p (.ext (.r 1) 1),
 p (.alloc 5 (.agg [.int .i64 0,.int .i64 0,.int .i64 0,.int .i64 0,.str []])),
 p (.store (some 5) (.r 0) (.r 2)),
 p (.mov (.r 2))] [(0,.v 0),(21,.v 21),(22,.v 22),(23,.r 2),(24,.r 0)])
 (.seq
 (.seq
 (.reg false [p (.mov (.v 0)),
 p (.mov (.v 0)),
 p (.nck (.r 0)),
 p (.fad 6 (.r 0)),
 p (.load (none) (.r 0)),
 p (.mov (.r 0)),
 ⟨.mov (.v 24),some (0,false),[]⟩,
 ⟨.bin .neq (.r 0) (.k (.int .i64 0)),some (1,false),[]⟩,
 p (.pick (.r 2) (.k (.bool true)) (.r 0)),
 p (.mov (.r 0)),
 ⟨.mov (.v 22),some (0,false),[]⟩,
 ⟨.un .not (.r 0),some (1,false),[]⟩,
 p (.pick (.r 2) (.k (.bool true)) (.r 0)),
 p (.nck (.r 12)),
 p (.fad 6 (.r 0)),
 p (.store (none) (.r 0) (.r 2))] [(0,.v 0),(21,.v 21),(23,.v 23)])
 (.seq
 (.reg false [p (.mov (.v 0)),
 p (.nck (.r 0)),
 p (.fad 6 (.r 0)),
 p (.load (none) (.r 0))] [(0,.v 0),(21,.v 21),(23,.v 23),(248,.r 0)])
 (.cond (.v 248)
 .ret
 .skip)))
 (.reg true [p (.mov (.v 0)),
 p (.nck (.r 0)),
 p (.fad 0 (.r 0)),
 p (.fad 3 (.r 0)),
 p (.load (none) (.r 0)),
 p (.mov (.v 21)),
 p (.mov (.v 0)),
 p (.nck (.r 0)),
 p (.fad 0 (.r 0)),
 p (.fad 3 (.r 0)),
 p (.load (none) (.r 0)),
 p (.mov (.v 21)),
 p (.iad 5 (.r 1) (.r 0)),
 p (.fad 4 (.r 0)),
 p (.load (none) (.r 0)),
 p (.load (some 5) (.v 23)),
 p (.bsl 5 [.r 0]),
 ⟨.app 5 48 (.r 2) (.r 0),none,[12]⟩,
 p (.iad 5 (.r 13) (.r 12)),
 p (.fad 4 (.r 0)),
 p (.store (none) (.r 0) (.r 2))] [])))))
 (.reg false [p (.mov (.v 0)),
 p (.nck (.r 0)),
 p (.fad 6 (.r 0)),
 p (.store (none) (.r 0) (.k (.bool true)))] []))))))))))))))
def r80:List RV:=[]
theorem chk80:Chk Tryz.prog Tryz.f80 c80 r80:=⟨_,rfl,by kernel_rfl,by kernel_rfl⟩
theorem ena80:EnA Tryz.prog 80 269 c80 r80:=mkEnA (by kernel_rfl) Tryz.func80 (by kernel_rfl) chk80
def c81:C :=
  (.seq
 (.reg false [p (.mov (.k (.bool false)))] [(0,.v 0),(1,.v 1)])
 (.seq
 (.seq
 (.reg false [p (.mov (.v 0)),
 p (.len false (.r 0)),
 p (.mov (.v 1)),
 p (.len false (.r 0)),
 p (.bin .neq (.r 2) (.r 0))] [(0,.v 0),(1,.v 1),(10,.r 0)])
 (.cond (.v 10)
 (.seq
 (.reg false [p (.mov (.k (.bool false)))] [(4,.r 0)])
 .ret)
 .skip))
 (.seq
 (.seq
 (.reg false [p (.mov (.v 0)),
 p (.len false (.r 0)),
 p (.mov (.k (.int .i64 0)))] [(0,.v 0),(1,.v 1),(12,.r 1),(13,.r 0)])
 (.block 0
 (.loop
 (.seq
 (.reg false [p (.bin .lss (.v 13) (.v 12))] [(0,.v 0),(1,.v 1),(12,.v 12),(13,.v 13),(14,.r 0)])
 (.seq
 (.cond (.v 14)
 .skip
 (.exit 0))
 (.seq
 (.block 1
 (.seq
 (.reg false [p (.mov (.v 13)),
 p (.mov (.r 0))] [(0,.v 0),(1,.v 1),(5,.r 0),(12,.v 12),(13,.v 13)])
 (.seq
 (.reg true [p (.mov (.v 0)),
 p (.mov (.v 5)),
 p (.iad 2 (.r 1) (.r 0)),
 p (.load (some 2) (.r 0)),
 p (.mov (.v 1)),
 p (.mov (.v 5)),
 p (.iad 2 (.r 1) (.r 0)),
 p (.load (some 2) (.r 0)),
 p (.eqs true [1,1] (.r 4) (.r 0))] [(0,.v 0),(1,.v 1),(12,.v 12),(13,.v 13),(24,.r 0)])
 (.cond (.v 24)
 (.seq
 (.reg false [p (.mov (.k (.bool false)))] [(4,.r 0)])
 .ret)
 .skip))))
 (.reg false [p (.bin .add (.v 13) (.k (.int .i64 1))),
 p (.mov (.r 0))] [(0,.v 0),(1,.v 1),(12,.v 12),(13,.r 0)])))))))
 (.frz
 (.seq
 (.reg false [p (.mov (.k (.bool true)))] [(4,.r 0)])
 .ret)))))
def r81:List RV:=[.t 4]
theorem en81:EnP Tryz.prog 81 26 c81 r81:=mkEnP (by kernel_rfl) Tryz.func81 (by kernel_rfl) ⟨_,rfl,by kernel_rfl,by kernel_rfl⟩
def c34:C :=
  (.seq
 (.reg false [p (.alloc 4 (.agg [.int .i64 0,.int .i64 0,.fsl .nil 2 [],.fsl .nil 5 []])),
 p (.mov (.k (.int .i64 0)))] [(0,.v 0),(2,.r 1)])
 (.seq
 (.reg false [p (.mkm),
 p (.mkm),
 p (.build [.int .i64 0,.int .i64 0,.fsl .nil 2 [],.fsl .nil 5 [],.nilm,.nilm,.bool false] [(4,1,.r 1),(5,1,.r 0)]),
 p (.box 7 (.r 0)),
 p (.mov (.r 0))] [(0,.v 0),(2,.v 2),(4,.r 0)])
 (.seq
 (.seq
 (.reg false [p (.mov (.v 0)),
 p (.len false (.r 0)),
 p (.mov (.k (.int .i64 0)))] [(0,.v 0),(2,.v 2),(4,.v 4),(13,.r 2),(14,.r 1),(15,.r 0)])
 (.block 0
 (.loop
 (.seq
 (.reg false [p (.bin .lss (.v 15) (.v 14))] [(0,.v 0),(2,.v 2),(4,.v 4),(13,.v 13),(14,.v 14),(15,.v 15),(16,.r 0)])
 (.seq
 (.cond (.v 16)
 .skip
 (.exit 0))
 (.seq
 (.block 1
 (.seq
 (.reg false [p (.iad 2 (.v 13) (.v 15)),
 p (.load (some 2) (.r 0)),
 p (.alloc 2 (.agg [.str [],.str []])),
 p (.store (some 2) (.r 0) (.r 1))] [(0,.v 0),(2,.v 2),(4,.v 4),(6,.r 1),(13,.v 13),(14,.v 14),(15,.v 15)])
 (.seq
 (.reg false [p (.mov (.v 4)),
 p (.load (some 2) (.v 6)),
 p (.call false (.k (.fn 80 [] [])) [.r 1,.r 0])] [(0,.v 0),(2,.v 2),(4,.v 4),(13,.v 13),(14,.v 14),(15,.v 15)])
 (.seq
 (.reg false [p (.mov (.v 4)),
 p (.nck (.r 0)),
 p (.fad 6 (.r 0)),
 p (.load (none) (.r 0))] [(0,.v 0),(2,.v 2),(4,.v 4),(13,.v 13),(14,.v 14),(15,.v 15),(25,.r 0)])
 (.cond (.v 25)
 (.seq
 (.reg false [p (.build [.int .i64 0,.int .i64 0,.fsl .nil 2 [],.fsl .nil 5 []] []),
 p (.store (some 4) (.v 2) (.r 0)),
 p (.mov (.k (.int .i64 4)))] [(2,.v 2),(3,.r 0)])
 .ret)
 .skip)))))
 (.reg false [p (.bin .add (.v 15) (.k (.int .i64 1))),
 p (.mov (.r 0))] [(0,.v 0),(2,.v 2),(4,.v 4),(13,.v 13),(14,.v 14),(15,.r 0)])))))))
 (.frz
 (.seq
 (.reg false [p (.mov (.v 4)),
 p (.nck (.r 0)),
 p (.fad 0 (.r 0)),
 p (.load (some 4) (.r 0)),
 p (.call true (.k (.fn 26 [] [])) [.r 0]),
 p (.mov (.r 0)),
 p (.ext (.r 0) 0),
 p (.ext (.r 1) 1),
 p (.mov (.r 1)),
 p (.mov (.r 1))] [(0,.v 0),(2,.v 2),(4,.v 4),(7,.r 1),(8,.r 0)])
 (.seq
 (.seq
 (.reg false [p (.mov (.v 8)),
 p (.bin .neq (.r 0) (.k (.int .i64 0))),
 p (.mov (.r 0)),
 ⟨.mov (.v 7),some (0,false),[]⟩,
 ⟨.mov (.v 0),some (1,false),[]⟩,
 ⟨.call true (.k (.fn 81 [] [])) [.r 1,.r 0],some (2,false),[]⟩,
 ⟨.un .not (.r 0),some (3,false),[]⟩,
 p (.pick (.r 4) (.k (.bool true)) (.r 0))] [(2,.v 2),(4,.v 4),(43,.r 0)])
 (.cond (.v 43)
 (.seq
 (.reg false [p (.build [.int .i64 0,.int .i64 0,.fsl .nil 2 [],.fsl .nil 5 []] []),
 p (.store (some 4) (.v 2) (.r 0)),
 p (.mov (.k (.int .i64 4)))] [(2,.v 2),(3,.r 0)])
 .ret)
 .skip))
 (.seq
 (.reg false [p (.mov (.v 4)),
 p (.nck (.r 0)),
 p (.fad 0 (.r 0)),
 p (.load (some 4) (.r 0)),
 p (.store (some 4) (.v 2) (.r 0)),
 p (.mov (.k (.int .i64 0)))] [(2,.v 2),(3,.r 0)])
 .ret)))))))
def r34:List RV:=[.c 2 (some 4),.t 3]
theorem en34:EnP Tryz.prog 34 49 c34 r34:=mkEnP (by kernel_rfl) Tryz.func34 (by kernel_rfl) ⟨_,rfl,by kernel_rfl,by kernel_rfl⟩
def natV (n:Nat):V:=.int .i64 (n:Int)
def rowV (sz:Nat):Option Nat→Nat→V
  | none,_ => .fsl .nil sz []
  | some i,n => .sl i 0 n
def RowOk (lo n:Nat) (m:Hm) (sz:Nat):Option Nat→List V→Prop
  | none,l => l=[]
  | some i,l => lo≤i∧i < n∧m i=some (.arr sz l)
theorem RowOk.keep {lo n n':Nat} {m m':Hm} {sz:Nat} {o:Option Nat} {l:List V} (h:RowOk lo n m sz o l) (hn:n≤n') (hm:∀ i,o=some i→m' i=m i):RowOk lo n' m' sz o l:=by
  cases o with
  | none => exact h
  | some i => exact ⟨h.1,Nat.lt_of_lt_of_le h.2.1 hn,(hm i rfl).trans h.2.2⟩
theorem RowOk.lt {lo n:Nat} {m:Hm} {sz:Nat} {o:Option Nat} {l:List V} (h:RowOk lo n m sz o l) {i:Nat} (e:o=some i):lo≤i∧i < n:=by subst e; exact ⟨h.1,h.2.1⟩
theorem RowOk.len0 {lo n:Nat} {m:Hm} {sz:Nat} {o:Option Nat} {l:List V} {k:Nat} (h:RowOk lo n m sz o l) (hk:k=l.length):lenO false (some (rowV sz o k))=okc True (.int .i64 (k:Int)):=by
  subst hk
  cases o with
  | none => have h':l=[]:=h; subst h'; rfl
  | some i => rfl
theorem app_ow {lo:Nat} {H:Hp} {sz bt:Nat} {o:Option Nat} {l:List V} {a:V} {len:Nat} {K:KI} (h:RowOk lo H.n H.m sz o l) (hlen:len=l.length) (hl:l.length≤1000000) (hb:bt≤1000)
    (k:∀ fp ds,(∀ id,appd ds H.m id=if id=H.n then some (.arr sz (l++[a])) else if o=some id then none else H.m id)→(∀ p∈ds.map (·.1),p=H.n∨o=some p)→(∀ i∈fp,o=some i)→K (.sl H.n 0 (len+1)) fp ds 1) :
    fin (appO H sz bt (rowV sz o len) (.fsl .full sz [a])) K:=by
  subst hlen
  have hm:(l.length+1)*bt≤140737488355328:=Nat.le_trans (Nat.mul_le_mul (show l.length+1≤1000001 by omega) hb) (by decide)
  unfold appO
  cases o with
  | none =>
    have h':l=[]:=h
    subst h'
    refine ⟨⟨rfl,rfl,⟨by decide,by decide⟩,by simpa using hm⟩,k _ _ (fun id => ?_) (by simp) (by simp [fpS])⟩
    by_cases e:id=H.n<;>simp [appd,upd,e]
  | some i =>
    obtain ⟨h1,h2,h3⟩:=h
    simp only [rowV,h3]
    refine ⟨⟨rfl,trivial,trivial,Nat.le_refl _,by simpa using hm⟩,k _ _ (fun id => ?_) (by simp) (by simp [fpS])⟩
    by_cases e:id=H.n
    · subst e; simp [appd,upd]
    · by_cases e2:id=i
      · subst e2; simp [appd,upd,e]
      · have e3:¬ i=id:=fun x => e2 x.symm
        simp [appd,upd,e,e2,e3]
def dsOf (ids:List Nat) (m:Hm):List (Nat×Option Ob):=ids.map fun i => (i,m i)
theorem dsOf_at {m' m:Hm} {id:Nat}:∀ {ids:List Nat},appd (dsOf ids m') m id=if id∈ids then m' id else m id
  | [] => by simp [dsOf,appd]
  | i::ids => by
    show appd (dsOf ids m') (upd m i (m' i)) id=_
    rw [dsOf_at]
    by_cases h:id∈ids
    · simp [h]
    · by_cases e:id=i
      · subst e; simp [h,upd]
      · simp [h,upd,e]
theorem fin_T {rvs:List RV} {r:V} {σ:Sg} {H':Hp} {l:List V} {fp new:List Nat} {m m':Hm} {n k:Nat} (hl:resE σ H'.m rvs=some l) (hr:pack l=r∨loosen (pack l)=r∨lo (pack l)=r) (hk:H'.n≤n+k)
    (e:∀ id∈fp++new,m' id=H'.m id) {x:AEx} (hx:x=.norm∨x=.ret):FinA rvs (only fp m) n r (dsOf (fp++new) m') k x σ H':=by
  refine ⟨hx,⟨l,hl,hr⟩,hk,fun id => ?_⟩
  rw [dsOf_at]
  by_cases h:id∈fp++new
  · rw [if_pos h]; exact .inr (e id h)
  · rw [if_neg h]; left
    have:id∉fp:=fun hh => h (List.mem_append_left _ hh)
    simp [only,this]
def runC (r:Rn) (o:Option Nat):V:=.agg [.str r.key,.str r.dag.name,tasksV r.dag.tasks,.int .i64 r.is,rowV 5 o r.states.length]
def runsC (rs:List Rn) (os:List (Option Nat)):List V:=List.zipWith runC rs os
def ldV (s:Ld) (oD oR:Option Nat) (md ma:Nat):V:=.agg [.int .i64 s.now,.int .i64 s.token,rowV 2 oD s.dags.length,rowV 5 oR s.runs.length,.map md,.map ma,.bool s.bad]
structure Dis (oD oR:Option Nat) (os:List (Option Nat)):Prop where
  dr:∀ a,oD=some a→oR≠some a
  dl:∀ a (j:Nat),oD=some a→os[j]?≠some (some a)
  rl:∀ a (j:Nat),oR=some a→os[j]?≠some (some a)
  inj:∀ (i j:Nat) a,os[i]?=some (some a)→os[j]?=some (some a)→i=j
theorem Dis.nil:Dis none none []:=⟨by simp,by simp,by simp,by simp⟩
def idsL (oD oR:Option Nat) (os:List (Option Nat)):List Nat:=(oD::oR::os).filterMap id
structure LdR (lo n:Nat) (m:Hm) (L md ma:Nat) (s:Ld) (oD oR:Option Nat) (os:List (Option Nat)):Prop where
  box:m L=some (.arr 7 [ldV s oD oR md ma])
  md:m md=some (.mp (smV dagV s.dm))
  ma:m ma=some (.mp (smV natV s.am))
  dags:RowOk lo n m 2 oD (mv dagV s.dags)
  runs:RowOk lo n m 5 oR (runsC s.runs os)
  len:os.length=s.runs.length
  sts:∀ j (h:j < s.runs.length) (h2:j < os.length),RowOk lo n m 5 os[j] (mv sttV s.runs[j].states)
  nd:Dis oD oR os
  ids:∀ i∈idsL oD oR os,lo≤i∧i < n
theorem mem_ids {oD oR:Option Nat} {os:List (Option Nat)} {i:Nat}:i∈idsL oD oR os↔oD=some i∨oR=some i∨some i∈os:=by
  unfold idsL
  simp only [List.mem_filterMap,List.mem_cons]
  constructor
  · rintro ⟨o,h | h | h,e⟩
    · subst h; exact .inl e
    · subst h; exact .inr (.inl e)
    · cases e; exact .inr (.inr h)
  · rintro (h | h | h)
    · exact ⟨oD,.inl rfl,h⟩
    · exact ⟨oR,.inr (.inl rfl),h⟩
    · exact ⟨some i,.inr (.inr h),rfl⟩
theorem LdR.congr {lo n n':Nat} {m m':Hm} {L md ma:Nat} {s:Ld} {oD oR:Option Nat} {os:List (Option Nat)} (h:LdR lo n m L md ma s oD oR os) (hn:n≤n') (hL:m' L=m L) (hd:m' md=m md) (ha:m' ma=m ma) (hi:∀ i∈idsL oD oR os,m' i=m i):LdR lo n' m' L md ma s oD oR os:=by
  refine ⟨hL.trans h.box,hd.trans h.md,ha.trans h.ma,h.dags.keep hn fun i e => hi i (mem_ids.2 (.inl e)),h.runs.keep hn fun i e => hi i (mem_ids.2 (.inr (.inl e))),h.len,fun j h1 h2 => (h.sts j h1 h2).keep hn fun i e => hi i (mem_ids.2 (.inr (.inr (e ▸ List.getElem_mem h2)))),h.nd,fun i hh => ?_⟩
  have:=h.ids i hh; omega
theorem rowV_low {sz:Nat} {o:Option Nat} {k n:Nat} (h:∀ i,o=some i→i < n):(rowV sz o k).low n=true:=by
  cases o with
  | none => rfl
  | some i => simp [rowV,V.low,h i rfl]
theorem lowL_of {n:Nat}:∀ {l:List V},(∀ v∈l,v.low n=true)→lowL n l=true
  | [],_ => rfl
  | v::l,h => by
    have h2:lowL n l=true:=lowL_of (fun w hw => h w (List.mem_cons_of_mem v hw))
    simp only [lowL,h v (List.mem_cons_self ..),h2,Bool.and_self]
theorem smV_low {β:Type} {f:β→V} {l:List (Str×β)} {n:Nat} (h:∀ b,(f b).closed=true):(Ob.mp (smV f l)).low n=true:=by
  simp only [Ob.low,smV,List.map_map,Bool.and_eq_true]
  refine ⟨lowL_of fun v hv => ?_,lowL_of fun v hv => ?_⟩
  · obtain ⟨p,_,rfl⟩:=List.mem_map.1 hv; rfl
  · obtain ⟨p,_,rfl⟩:=List.mem_map.1 hv; exact V.low_closed _ (h _)
def fpL (L md ma:Nat) (oD oR:Option Nat) (os:List (Option Nat)):List Nat:=L::md::ma::idsL oD oR os
theorem LdR.low {lo n:Nat} {m:Hm} {L md ma:Nat} {s:Ld} {oD oR:Option Nat} {os:List (Option Nat)} (h:LdR lo n m L md ma s oD oR os) (h1:L < n) (h2:md < n) (h3:ma < n) :
    ∀ id∈fpL L md ma oD oR os,id < n∧∀ o,m id=some o→o.low n=true:=by
  have hD:∀ i,oD=some i→i < n:=fun i e => (h.ids i (mem_ids.2 (.inl e))).2
  have hR:∀ i,oR=some i→i < n:=fun i e => (h.ids i (mem_ids.2 (.inr (.inl e)))).2
  have hS:∀ i,some i∈os→i < n:=fun i e => (h.ids i (mem_ids.2 (.inr (.inr e)))).2
  intro id hid
  simp only [fpL,List.mem_cons] at hid
  rcases hid with rfl | rfl | rfl | hid
  · refine ⟨h1,fun o e => ?_⟩
    rw [h.box] at e; simp at e; subst e
    simp only [Ob.low,lowL,ldV,V.low,rowV_low hD,rowV_low hR,h2,h3,decide_true,Bool.and_self]
  · refine ⟨h2,fun o e => ?_⟩
    rw [h.md] at e; simp at e; subst e; exact smV_low dagV_closed
  · refine ⟨h3,fun o e => ?_⟩
    rw [h.ma] at e; simp at e; subst e; exact smV_low fun _ => rfl
  · refine ⟨(h.ids id hid).2,fun o e => ?_⟩
    rcases mem_ids.1 hid with rfl | rfl | hm
    · have:=h.dags.2.2; rw [this] at e; simp at e; subst e
      exact lowL_closed _ (mv_closed dagV_closed)
    · have:=h.runs.2.2; rw [this] at e; simp at e; subst e
      refine lowL_of fun v hv => ?_
      unfold runsC at hv
      obtain ⟨r,o,hr,ho,rfl⟩:∃ r o,r∈s.runs∧o∈os∧v=runC r o:=by
        obtain ⟨j,hj,rfl⟩:=List.mem_iff_getElem.1 hv
        rw [List.length_zipWith] at hj
        exact ⟨s.runs[j],os[j],List.getElem_mem _,List.getElem_mem _,by simp⟩
      simp only [runC,V.low,lowL,rowV_low (o:=o) (fun i e => hS i (e ▸ ho)),V.low_closed _ (tasksV_closed _),Bool.and_self]
    · obtain ⟨j,hj,ej⟩:=List.mem_iff_getElem.1 hm
      have hj2:j < s.runs.length:=by rw [← h.len]; exact hj
      have:=h.sts j hj2 hj
      rw [ej] at this
      rw [this.2.2] at e; simp at e; subst e
      exact lowL_closed _ (mv_closed sttV_closed)
section
theorem only_mem {fz:List Nat} {m:Hm} {i:Nat} (h:i∈fz):only fz m i=m i:=if_pos h
theorem LdR.only {lo:Nat} {H:Hp} {L md ma:Nat} {s:Ld} {oD oR:Option Nat} {os:List (Option Nat)} (h:LdR lo H.n H.m L md ma s oD oR os):LdR lo H.n (only (fpL L md ma oD oR os) H.m) L md ma s oD oR os :=
  h.congr (Nat.le_refl _) (only_mem (by simp [fpL])) (only_mem (by simp [fpL])) (only_mem (by simp [fpL])) fun i hi => only_mem (by simp [fpL,hi])
theorem LdR.ds {lo n n':Nat} {m m':Hm} {L md ma:Nat} {s:Ld} {oD oR:Option Nat} {os:List (Option Nat)} {ids:List Nat} (h:LdR lo n m' L md ma s oD oR os) (hn:n≤n') (h1:L∈ids) (h2:md∈ids) (h3:ma∈ids) (hi:∀ i∈idsL oD oR os,i∈ids):LdR lo n' (appd (dsOf ids m') m) L md ma s oD oR os :=
  h.congr hn (by rw [dsOf_at,if_pos h1]) (by rw [dsOf_at,if_pos h2]) (by rw [dsOf_at,if_pos h3]) fun i k => by rw [dsOf_at,if_pos (hi i k)]
theorem fin_T0 {rvs:List RV} {r:V} {σ:Sg} {H':Hp} {l:List V} {fp:List Nat} {m m':Hm} {n k:Nat} (hl:resE σ H'.m rvs=some l) (hr:pack l=r∨loosen (pack l)=r∨lo (pack l)=r) (hk:H'.n≤n+k)
    (e:∀ id∈fp,m' id=H'.m id) {x:AEx} (hx:x=.norm∨x=.ret):FinA rvs (only fp m) n r (dsOf fp m') k x σ H':=by
  have:=fin_T (new:=[]) (fp:=fp) (m:=m) (m':=m') (n:=n) (k:=k) hl hr hk (by simpa using e) hx
  rwa [List.append_nil] at this
theorem LdR.box' {lo n n':Nat} {m m':Hm} {L md ma:Nat} {s s':Ld} {oD oR:Option Nat} {os:List (Option Nat)} (h:LdR lo n m L md ma s oD oR os) (hn:n≤n') (hb:m' L=some (.arr 7 [ldV s' oD oR md ma])) (ho:∀ i,i≠L→m' i=m i) (h1:L < lo) (d1:L≠md) (d2:L≠ma)
    (e1:s'.dags=s.dags:=by rfl) (e2:s'.runs=s.runs:=by rfl) (e3:s'.dm=s.dm:=by rfl) (e4:s'.am=s.am:=by rfl):LdR lo n' m' L md ma s' oD oR os:=by
  have q:∀ i∈idsL oD oR os,m' i=m i:=fun i hi => ho i (by have:=h.ids i hi; omega)
  refine ⟨hb,by rw [e3,ho md d1.symm]; exact h.md,by rw [e4,ho ma d2.symm]; exact h.ma,by rw [e1]; exact h.dags.keep hn fun i e => q i (mem_ids.2 (.inl e)),by rw [e2]; exact h.runs.keep hn fun i e => q i (mem_ids.2 (.inr (.inl e))),by rw [e2]; exact h.len, ?_,h.nd,fun i hi => by have:=h.ids i hi; omega⟩
  obtain ⟨_,_,_,runs,_,_,_⟩:=s'
  simp only at e2
  subst e2
  exact fun j h1 h2 => (h.sts j h1 h2).keep hn fun i e => q i (mem_ids.2 (.inr (.inr (e ▸ List.getElem_mem h2))))
def kill (o:Option Nat) (m:Hm):Hm:=fun id => if o=some id then none else m id
set_option maxHeartbeats 2000000 in
theorem pair_call {lo:Nat} {H:Hp} {L md ma:Nat} {s:Ld} {p:Pr} {oD oR:Option Nat} {os:List (Option Nat)} (h:LdR lo H.n H.m L md ma s oD oR os) (ok:LdOk s 1000) (hb:s.bad=false) (h1:L < lo) (h2:md < lo) (h3:ma < lo) (d1:L≠md) (d2:L≠ma) (d3:md≠ma) (hlo:lo≤H.n) (hp1:p.1.length≤140737488355328) (hp2:p.2.length≤140737488355328) :
    ∃ ds k oD' oR' os',ACall Tryz.prog 80 [.ptr L 0 0,prV p] H (fpL L md ma oD oR os) (.tup []) ds k∧((pairS s p).bad=false→LdR lo (H.n+k) (appd ds H.m) L md ma (pairS s p) oD' oR' os')∧appd ds H.m L=some (.arr 7 [ldV (pairS s p) oD' oR' md ma])∧∀ id,id < lo→id≠L→id≠md→id≠ma→appd ds H.m id=H.m id:=by
  have hlow:=h.low (by omega) (by omega) (by omega)
  have q:=h.only
  have bx:=q.box
  have e1:L≠H.n:=by omega
  have e2:md≠H.n:=by omega
  have e3:ma≠H.n:=by omega
  unfold ldV at bx
  have hg:lowL H.n [.ptr L 0 0,prV p]=true:=by simp only [lowL,V.low,V.low_closed _ (prV_closed _),Bool.and_true,decide_eq_true_eq]; omega
  have hds:∀ (new:List Nat) (m':Hm) (k:Nat),(∀ i∈new,H.n≤i∧i < H.n+k)→∀ p∈dsOf (fpL L md ma oD oR os++new) m',p.1∈fpL L md ma oD oR os∨(H.n≤p.1∧p.1 < H.n+k):=by
    intro new m' k hk p hp
    obtain ⟨i,hi,rfl⟩:=List.mem_map.1 hp
    rcases List.mem_append.1 hi with hi | hi
    · exact .inl hi
    · exact .inr (hk i hi)
  have hds0:∀ (m':Hm) (k:Nat),∀ p∈dsOf (fpL L md ma oD oR os) m',p.1∈fpL L md ma oD oR os∨(H.n≤p.1∧p.1 < H.n+k):=by
    intro m' k p hp
    obtain ⟨i,hi,rfl⟩:=List.mem_map.1 hp
    exact .inl hi
  have nD1:∀ x,x < lo→¬ oD=some x:=fun x hx e => by have:=q.dags.lt e; omega
  have nD2:∀ x,H.n≤x→¬ oD=some x:=fun x hx e => by have:=q.dags.lt e; omega
  have nR1:∀ x,x < lo→¬ oR=some x:=fun x hx e => by have:=q.runs.lt e; omega
  have nR2:∀ x,H.n≤x→¬ oR=some x:=fun x hx e => by have:=q.runs.lt e; omega
  obtain ⟨key,val⟩:=p
  simp only at hp1 hp2
  cases key with
  | nil =>
    refine ⟨dsOf (fpL L md ma oD oR os++[]) (upd H.m L (some (.arr 7 [ldV { s with bad:=true } oD oR md ma]))),1,oD,oR,os,ena80 (by simp) hg hlow (hds _ _ _ (by simp)) ?_,fun _ => ?_, ?_, ?_⟩
    · simp (maxSteps:=1000000) (disch:=omega) only [rg,gD,simprocAttr,c80,prV,bx]
      refine fin_T0 (l:=[]) ?_ (.inl rfl) ?_ (fun id hid => ?_) (.inr rfl)
      · rfl
      · exact Nat.le_refl _
      have:=(hlow id hid).1
      by_cases e:id=L
      · subst e; simp [upd,ldV]
      · simp (disch:=omega) only [upd_ne,e,only_mem hid,ne_eq,not_false_eq_true]
    · refine LdR.ds (n:=H.n+1) ?_ (Nat.le_refl _) (by simp [fpL]) (by simp [fpL]) (by simp [fpL]) (fun i hi => by simp [fpL,hi])
      exact LdR.box' h (by omega) (upd_eq ..) (fun i hi => upd_ne (by simpa using hi)) h1 d1 d2
    · rw [dsOf_at,if_pos (by simp [fpL])]; exact upd_eq ..
    · intro id i1 i2 i3 i4
      rw [dsOf_at]
      split
      · simp [upd,i2]
      · rfl
  | cons c key =>
    by_cases c1:c=100
    · subst c1
      have hP:pairS s (100::key,val)={ s with bad:=s.bad || decide ((dagGetS val).2≠0) || decide ((dagGetS val).1.name≠key),dags:=s.dags++[(dagGetS val).1],dm:=sset s.dm key (dagGetS val).1 }:=rfl
      obtain ⟨d,er,hr⟩:∃ d er,dagGetS val=(d,er):=⟨_,_,rfl⟩
      have hc:=dag_get val hp2
      rw [hr] at hc hP
      refine ⟨dsOf (fpL L md ma oD oR os++[H.n+2]) (upd (upd (upd (kill oD H.m) (H.n+2) (some (.arr 2 (mv dagV (s.dags++[d]))))) L (some (.arr 7 [ldV (pairS s (100::key,val)) (some (H.n+2)) oR md ma]))) md (some (.mp (smV dagV (sset s.dm key d))))),3,some (H.n+2),oR,os,ena80 (by simp) hg hlow (hds _ _ _ (by simp)) ?_,fun hbad => ?_, ?_, ?_⟩
      · rw [hP]
        simp (maxSteps:=1000000) (disch:=omega) only [rg,gD,simprocAttr,c80,prV,bx]
        refine ⟨⟨by omega,by omega⟩,by omega,_,hc, ?_⟩
        have hcc:(er=0∧key=d.name)∨(er=0∧¬ d.name=key)∨¬ er=0:=by
          by_cases y:er=0
          · by_cases x:d.name=key
            · exact .inl ⟨y,x.symm⟩
            · exact .inr (.inl ⟨y,x⟩)
          · exact .inr (.inr y)
        rcases hcc with ⟨ce,rfl⟩ | ⟨ce,cn⟩ | ce
        all_goals
          simp (maxSteps:=1000000) (disch:=omega) only [rg,gD,simprocAttr,dagP,dagV,bx,ce,hb,List.take_length]
          refine app_ow (lo:=lo) (o:=oD) (l:=mv dagV s.dags) (q.dags.keep (by simp only []; omega) fun i e => ?_) (by rw [mv_len]) (by rw [mv_len]; exact Nat.le_trans ok.dags (by decide)) (by decide) fun fp ds hD hB hF => ?_
          · have:=q.dags.lt e
            simp (disch:=omega) only [upd_ne]
          rw [x_nx]
          refine ⟨by simp only [compat_nil], ?_⟩
          simp only [] at hD ⊢
          generalize appd ds _=m5 at hD ⊢
          have a1:=hD L
          have a2:=hD md
          have a3:=hD (H.n+1)
          have a4:=hD (H.n+2)
          simp (disch:=omega) only [nD1,nD2,upd_ne,upd_eq,if_neg,if_true,if_false,h1,h2,Nat.le_add_right,ne_eq,not_false_eq_true,q.md] at a1 a2 a3 a4
          simp (maxSteps:=1000000) (disch:=omega) only [rg,gD,simprocAttr,a1,a2,a3,dagV]
          refine ⟨sm_ok dagV _ s.dm, ?_⟩
          refine fin_T (l:=[]) ?_ (.inl rfl) ?_ (fun id hid => ?_) (.inl rfl)
          · rfl
          · exact Nat.le_refl _
          by_cases i1:id=md
          · subst i1
            simp only [upd_eq]
            exact congrArg (fun x => some (Ob.mp x)) (sm_set dagV _ d s.dm).symm
          by_cases i2:id=L
          · subst i2
            first
              | simp (disch:=first | exact i1 | omega) only [upd_eq,upd_ne,ldV,List.length_append,List.length_singleton,rowV,Bool.or_false,Bool.or_true,Bool.false_or,Bool.true_or,ce,cn,hb,ne_eq,not_true_eq_false,not_false_eq_true,decide_true,decide_false,Bool.not_false,Bool.not_true,decide_not]
              | simp (disch:=first | exact i1 | omega) only [upd_eq,upd_ne,ldV,List.length_append,List.length_singleton,rowV,Bool.or_false,Bool.or_true,Bool.false_or,Bool.true_or,ce,hb,ne_eq,not_true_eq_false,not_false_eq_true,decide_true,decide_false,Bool.not_false,Bool.not_true,decide_not]
          by_cases i3:id=H.n+2
          · subst i3
            simp (disch:=first | exact i1 | exact i2 | omega) only [upd_eq,upd_ne,a4,mv,List.map_append,List.map_cons,List.map_nil,dagV]
          have i4:id∈fpL L md ma oD oR os:=by simpa [i3] using hid
          have i5:=(hlow id i4).1
          simp (disch:=first | exact i1 | exact i2 | exact i3 | omega) only [upd_ne,hD,if_neg,if_false,kill,only_mem i4]
      · refine LdR.ds (n:=H.n+3) ?_ (Nat.le_refl _) (by simp [fpL]) (by simp [fpL]) (by simp [fpL]) (fun i hi => ?_)
        · rw [hP]
          refine ⟨?_, ?_, ?_,⟨by omega,by omega, ?_⟩,h.runs.keep (by omega) fun i e => ?_,h.len,fun j j1 j2 => (h.sts j j1 j2).keep (by omega) fun i e => ?_,⟨?_, ?_,h.nd.rl,h.nd.inj⟩,fun i hi => ?_⟩
          · simp (disch:=omega) only [upd_ne,upd_eq]
          · simp (disch:=omega) only [upd_ne,upd_eq]
          · simp (disch:=omega) only [upd_ne,upd_eq,kill,nD1 ma h3,if_neg,if_false,not_false_eq_true]
            exact h.ma
          · simp (disch:=omega) only [upd_ne,upd_eq]
          · have k0:=h.runs.lt e
            have k1:¬ oD=some i:=fun x => h.nd.dr i x e
            simp (disch:=omega) only [upd_ne,kill,k1,if_neg,if_false,not_false_eq_true]
          · have k0:=(h.sts j j1 j2).lt e
            have k1:¬ oD=some i:=fun x => h.nd.dl i j x (by rw [List.getElem?_eq_getElem j2,e])
            simp (disch:=omega) only [upd_ne,kill,k1,if_neg,if_false,not_false_eq_true]
          · intro a x y; cases x; exact nR2 _ (by omega) y
          · intro a j x y; cases x; have:=h.ids _ (mem_ids.2 (.inr (.inr (List.mem_of_getElem? y)))); omega
          · rcases mem_ids.1 hi with e | e | e
            · cases e; omega
            · have:=h.ids i (mem_ids.2 (.inr (.inl e))); omega
            · have:=h.ids i (mem_ids.2 (.inr (.inr e))); omega
        · rcases mem_ids.1 hi with e | e | e
          · cases e; simp
          · simp [fpL,mem_ids,e]
          · simp [fpL,mem_ids,e]
      · rw [dsOf_at,if_pos (by simp [fpL])]; simp (disch:=omega) only [upd_ne,upd_eq]
      · intro id i1 i2 i3 i4
        rw [dsOf_at]
        split
        · simp (disch:=first | exact i2 | exact i3 | omega) only [upd_ne,kill,nD1 id i1,if_neg,if_false,not_false_eq_true]
        · rfl
    by_cases c2:c=109
    · subst c2
      have x1:¬ ([109]:List UInt8)=[100]:=by decide
      obtain ⟨n1,q1,r1,hr1⟩:∃ a b c,getS val 0 6=(a,b,c):=⟨_,_,_,rfl⟩
      obtain ⟨n2,q2,r2,hr2⟩:∃ a b c,getS val (min q1 val.length) 6=(a,b,c):=⟨_,_,_,rfl⟩
      have hc:=code_get val 0 6 (by omega)
      have hc2:=code_get val (min q1 val.length) 6 (by omega)
      have hP:pairS s (109::key,val)={ s with bad:=s.bad || decide (r1≠0) || decide (r2≠0),now:=n1,token:=n2 }:=by
        show { s with bad:=s.bad || decide ((getS val 0 6).2.2≠0) || decide ((getS val (min (getS val 0 6).2.1 val.length) 6).2.2≠0),now:=(getS val 0 6).1,token:=(getS val (min (getS val 0 6).2.1 val.length) 6).1 }=_
        rw [hr1]; simp only []; rw [hr2]
      rw [hr1] at hc
      rw [hr2] at hc2
      refine ⟨dsOf (fpL L md ma oD oR os) (upd H.m L (some (.arr 7 [ldV (pairS s (109::key,val)) oD oR md ma]))),1,oD,oR,os,ena80 (by simp) hg hlow (hds0 _ _) ?_,fun hbad => ?_, ?_, ?_⟩
      · rw [hP]
        simp (maxSteps:=1000000) (disch:=omega) only [rg,gD,simprocAttr,c80,prV,bx,x1]
        refine ⟨⟨by omega,by omega⟩,by omega,_,hc, ?_⟩
        simp (maxSteps:=1000000) (disch:=omega) only [rg,gD,simprocAttr,gV]
        refine ⟨_,hc2, ?_⟩
        have hcc:(r1=0∧r2=0)∨(r1=0∧¬ r2=0)∨¬ r1=0:=by omega
        rcases hcc with ⟨ce,cn⟩ | ⟨ce,cn⟩ | ce
        all_goals
          simp (maxSteps:=1000000) (disch:=omega) only [rg,gD,simprocAttr,gV,bx,hb,ce]
          refine fin_T0 (l:=[]) ?_ (.inl rfl) ?_ (fun id hid => ?_) (.inl rfl)
          · rfl
          · exact Nat.le_refl _
          have:=(hlow id hid).1
          by_cases i1:id=L
          · subst i1
            first
              | simp only [upd_eq,ldV,rowV,Bool.or_false,Bool.or_true,Bool.false_or,Bool.true_or,ce,cn,hb,ne_eq,not_true_eq_false,not_false_eq_true,decide_true,decide_false,Bool.not_false,Bool.not_true,decide_not]
              | simp only [upd_eq,ldV,rowV,Bool.or_false,Bool.or_true,Bool.false_or,Bool.true_or,ce,hb,ne_eq,not_true_eq_false,not_false_eq_true,decide_true,decide_false,Bool.not_false,Bool.not_true,decide_not]
          · simp (disch:=first | exact i1 | omega) only [upd_ne,only_mem hid]

      · refine LdR.ds (n:=H.n+1) ?_ (Nat.le_refl _) (by simp [fpL]) (by simp [fpL]) (by simp [fpL]) (fun i hi => by simp [fpL,hi])
        exact LdR.box' h (by omega) (upd_eq ..) (fun i hi => upd_ne (by simpa using hi)) h1 d1 d2 (by rw [hP]) (by rw [hP]) (by rw [hP]) (by rw [hP])
      · rw [dsOf_at,if_pos (by simp [fpL])]; simp (disch:=omega) only [upd_ne,upd_eq]
      · intro id i1 i2 i3 i4
        rw [dsOf_at]
        split
        · simp [upd,i2]
        · rfl
    by_cases c3:c=114
    · subst c3
      have x1:¬ ([114]:List UInt8)=[100]:=by decide
      have x2:¬ ([114]:List UInt8)=[109]:=by decide
      obtain ⟨n1,q1,r1,hr1⟩:∃ a b c,getS val 0 1=(a,b,c):=⟨_,_,_,rfl⟩
      obtain ⟨n2,q2,r2,hr2⟩:∃ a b c,cutS val (min q1 val.length)=(a,b,c):=⟨_,_,_,rfl⟩
      obtain ⟨g,hgd⟩:∃ g,sget s.dm n2=g:=⟨_,rfl⟩
      obtain ⟨dg,hdg⟩:∃ dg,g.getD ⟨[],[]⟩=dg:=⟨_,rfl⟩
      obtain ⟨tv,htv⟩:∃ tv,(g.map fun d => tasksV d.tasks).getD (.fsl .nil 4 [])=tv:=⟨_,rfl⟩
      have htc:tv.cell=true:=by rw [← htv]; cases g<;>rfl
      obtain ⟨gb,hgb⟩:∃ gb,g.isSome=gb:=⟨_,rfl⟩
      have hc:=code_get val 0 1 (by omega)
      have hc2:=code_cut val (min q1 val.length) (by omega)
      have hP:pairS s (114::key,val)={ s with bad:=s.bad || decide (r1≠0) || decide (r2≠0) || !gb,am:=sset s.am key s.runs.length,runs:=s.runs++[⟨key,dg,n1,[]⟩] }:=by
        show ({ s with bad:=s.bad || decide ((getS val 0 1).2.2≠0) || decide ((cutS val (min (getS val 0 1).2.1 val.length)).2.2≠0) || !(sget s.dm (cutS val (min (getS val 0 1).2.1 val.length)).1).isSome,am:=sset s.am key s.runs.length,runs:=s.runs++[⟨key,(sget s.dm (cutS val (min (getS val 0 1).2.1 val.length)).1).getD ⟨[],[]⟩,(getS val 0 1).1,[]⟩] }:Ld)=_
        rw [hr1]; simp only []; rw [hr2]; simp only []; rw [hgd,hdg,hgb]
      rw [hr1] at hc
      rw [hr2] at hc2
      have hrl:s.runs.length=(runsC s.runs os).length:=by simp [runsC,h.len]
      have hm1:=q.md
      have hm2:=q.ma
      have hlk:mget (smV dagV s.dm) (.str n2)=g.map dagV:=by rw [sm_get,hgd]
      have hmr:mres true (g.map dagV) (V.agg [V.str [],V.fsl .nil 4 []])=.tup [.agg [.str dg.name,tv],.bool gb]:=by
        rw [← hdg,← hgb,← htv]; cases g<;>rfl
      refine ⟨dsOf (fpL L md ma oD oR os++[H.n+2]) (upd (upd (upd (kill oR H.m) (H.n+2) (some (.arr 5 (runsC s.runs os++[.agg [.str key,.str dg.name,tv,.int .i64 n1,.fsl .nil 5 []]])))) L (some (.arr 7 [ldV (pairS s (114::key,val)) oD (some (H.n+2)) md ma]))) ma (some (.mp (smV natV (sset s.am key s.runs.length))))),3,oD,some (H.n+2),os++[none],ena80 (by simp) hg hlow (hds _ _ _ (by simp)) ?_,fun hbad => ?_, ?_, ?_⟩
      · rw [hP]
        simp (maxSteps:=1000000) (disch:=omega) only [rg,gD,simprocAttr,c80,prV,bx,x1,x2]
        refine ⟨⟨by omega,by omega⟩,by omega,_,hc, ?_⟩
        simp (maxSteps:=1000000) (disch:=omega) only [rg,gD,simprocAttr,gV]
        refine ⟨_,hc2, ?_⟩
        simp (maxSteps:=1000000) (disch:=omega) only [rg,gD,simprocAttr,gV,cV,bx,hm1]
        refine ⟨sm_ok dagV n2 s.dm, ?_⟩
        rw [hlk,hmr]
        simp (maxSteps:=1000000) (disch:=omega) only [rg,gD,simprocAttr]
        have hcc:(r1=0∧r2=0∧gb=true)∨(r1=0∧r2=0∧gb=false)∨(r1=0∧¬ r2=0)∨¬ r1=0:=by
          cases gb<;>simp<;>omega
        rcases hcc with ⟨ce,cn,rfl⟩ | ⟨ce,cn,rfl⟩ | ⟨ce,cn⟩ | ce
        all_goals
          first
            | simp (maxSteps:=1000000) (disch:=omega) only [rg,gD,simprocAttr,bx,hb,ce,cn,List.take_length,hm2]
            | simp (maxSteps:=1000000) (disch:=omega) only [rg,gD,simprocAttr,bx,hb,ce,List.take_length,hm2]
          rw [q.runs.len0 hrl]
          simp (maxSteps:=1000000) (disch:=omega) only [rg,gD,simprocAttr,hm2]
          refine ⟨sm_ok natV _ s.am, ?_⟩
          refine ⟨htc, ?_⟩
          refine app_ow (lo:=lo) (o:=oR) (l:=runsC s.runs os) (q.runs.keep (by simp only []; omega) fun i e => ?_) hrl (by rw [← hrl]; exact Nat.le_trans ok.runs (by decide)) (by decide) fun fp ds hD hB hF => ?_
          · have:=q.runs.lt e
            simp (disch:=omega) only [upd_ne]
          rw [x_nx]
          refine ⟨by simp only [compat_nil], ?_⟩
          simp only [] at hD ⊢
          generalize appd ds _=m5 at hD ⊢
          have a1:=hD L
          have a2:=hD ma
          have a4:=hD (H.n+2)
          simp (disch:=omega) only [nR1,nR2,upd_ne,upd_eq,if_neg,if_true,if_false,h1,h3,Nat.le_add_right,ne_eq,not_false_eq_true] at a1 a2 a4
          simp (maxSteps:=1000000) (disch:=omega) only [rg,gD,simprocAttr,a1]
          refine fin_T (l:=[]) ?_ (.inl rfl) ?_ (fun id hid => ?_) (.inl rfl)
          · rfl
          · exact Nat.le_refl _
          by_cases i1:id=ma
          · subst i1
            simp (disch:=omega) only [upd_eq,upd_ne,a2]
            exact congrArg (fun x => some (Ob.mp x)) (sm_set natV _ _ s.am).symm
          by_cases i2:id=L
          · subst i2
            first
              | simp (disch:=first | exact i1 | omega) only [upd_eq,upd_ne,ldV,List.length_append,List.length_singleton,rowV,Bool.or_false,Bool.or_true,Bool.false_or,Bool.true_or,ce,cn,hb,ne_eq,not_true_eq_false,not_false_eq_true,decide_true,decide_false,Bool.not_false,Bool.not_true,decide_not]
              | simp (disch:=first | exact i1 | omega) only [upd_eq,upd_ne,ldV,List.length_append,List.length_singleton,rowV,Bool.or_false,Bool.or_true,Bool.false_or,Bool.true_or,ce,hb,ne_eq,not_true_eq_false,not_false_eq_true,decide_true,decide_false,Bool.not_false,Bool.not_true,decide_not]
          by_cases i3:id=H.n+2
          · subst i3
            simp (disch:=first | exact i1 | exact i2 | omega) only [upd_eq,upd_ne,a4]
          have i4:id∈fpL L md ma oD oR os:=by simpa [i3] using hid
          have i5:=(hlow id i4).1
          simp (disch:=first | exact i1 | exact i2 | exact i3 | omega) only [upd_ne,hD,if_neg,if_false,kill,only_mem i4]
      · have hgt:gb=true:=by
          rw [hP] at hbad
          cases gb
          · simp at hbad
          · rfl
        subst hgt
        have hgs:g=some dg:=by
          cases g with
          | none => simp at hgb
          | some d => simp at hdg; rw [hdg]
        have hmt:runsC (s.runs++[⟨key,dg,n1,[]⟩]) (os++[none])=runsC s.runs os++[.agg [.str key,.str dg.name,tv,.int .i64 n1,.fsl .nil 5 []]]:=by
          rw [← htv,hgs]
          unfold runsC
          rw [List.zipWith_append (by rw [h.len])]
          rfl
        refine LdR.ds (n:=H.n+3) ?_ (Nat.le_refl _) (by simp [fpL]) (by simp [fpL]) (by simp [fpL]) (fun i hi => ?_)
        · rw [hP]
          refine ⟨?_, ?_, ?_,h.dags.keep (by omega) fun i e => ?_,⟨by omega,by omega, ?_⟩,by simp [h.len],fun j j1 j2 => ?_,⟨?_, ?_, ?_, ?_⟩,fun i hi => ?_⟩
          · simp (disch:=omega) only [upd_ne,upd_eq]
          · simp (disch:=omega) only [upd_ne,upd_eq,kill,nR1 md h2,if_neg,if_false,not_false_eq_true]
            exact h.md
          · simp (disch:=omega) only [upd_ne,upd_eq]
          · have k0:=h.dags.lt e
            have k1:¬ oR=some i:=fun x => h.nd.dr i e x
            simp (disch:=omega) only [upd_ne,kill,k1,if_neg,if_false,not_false_eq_true]
          · rw [hmt]; simp (disch:=omega) only [upd_ne,upd_eq]
          · simp only [List.length_append,List.length_singleton] at j1 j2
            rcases Nat.lt_or_ge j s.runs.length with j3 | j3
            · have j4:j < os.length:=by rw [h.len]; exact j3
              rw [List.getElem_append_left j4,List.getElem_append_left j3]
              refine (h.sts j j3 j4).keep (by omega) fun i e => ?_
              have k0:=(h.sts j j3 j4).lt e
              have k1:¬ oR=some i:=fun x => h.nd.rl i j x (by rw [List.getElem?_eq_getElem j4,e])
              simp (disch:=omega) only [upd_ne,kill,k1,if_neg,if_false,not_false_eq_true]
            · have:j=s.runs.length:=by omega
              subst this
              rw [List.getElem_append_right (by rw [h.len]; exact Nat.le_refl _),List.getElem_append_right (Nat.le_refl _)]
              simp [h.len]
              exact rfl
          · intro a x y; cases y; exact nD2 _ (by omega) x
          · intro a j x y
            rcases Nat.lt_or_ge j os.length with j3 | j3
            · rw [List.getElem?_append_left j3] at y; exact h.nd.dl a j x y
            · rw [List.getElem?_append_right j3] at y
              rcases h9:j - os.length with _ | _<;>rw [h9] at y<;>simp at y
          · intro a j x y
            cases x
            rcases Nat.lt_or_ge j os.length with j3 | j3
            · rw [List.getElem?_append_left j3] at y
              have:=h.ids _ (mem_ids.2 (.inr (.inr (List.mem_of_getElem? y)))); omega
            · rw [List.getElem?_append_right j3] at y
              rcases h9:j - os.length with _ | _<;>rw [h9] at y<;>simp at y
          · intro i j a x y
            have lt:∀ {i:Nat},(os++[none])[i]?=some (some a)→os[i]?=some (some a):=by
              intro i y
              rcases Nat.lt_or_ge i os.length with j3 | j3
              · rwa [List.getElem?_append_left j3] at y
              · rw [List.getElem?_append_right j3] at y
                rcases h9:i - os.length with _ | _<;>rw [h9] at y<;>simp at y
            exact h.nd.inj i j a (lt x) (lt y)
          · rcases mem_ids.1 hi with e | e | e
            · have:=h.ids i (mem_ids.2 (.inl e)); omega
            · cases e; omega
            · have:=h.ids i (mem_ids.2 (.inr (.inr (by simpa using e)))); omega
        · rcases mem_ids.1 hi with e | e | e
          · simp [fpL,mem_ids,e]
          · cases e; simp
          · have e':some i∈os:=by simpa using e
            simp [fpL,mem_ids,e']
      · rw [dsOf_at,if_pos (by simp [fpL])]; simp (disch:=omega) only [upd_ne,upd_eq]
      · intro id i1 i2 i3 i4
        rw [dsOf_at]
        split
        · simp (disch:=first | exact i2 | exact i4 | omega) only [upd_ne,kill,nR1 id i1,if_neg,if_false,not_false_eq_true]
        · rfl
    by_cases c4:c=116
    · subst c4
      have x1:¬ ([116]:List UInt8)=[100]:=by decide
      have x2:¬ ([116]:List UInt8)=[109]:=by decide
      have x3:¬ ([116]:List UInt8)=[114]:=by decide
      by_cases ck:key=[]
      · subst ck
        have hP:pairS s ([116],val)={ s with bad:=true }:=rfl
        refine ⟨dsOf (fpL L md ma oD oR os) (upd H.m L (some (.arr 7 [ldV { s with bad:=true } oD oR md ma]))),1,oD,oR,os,ena80 (by simp) hg hlow (hds0 _ _) ?_,fun hbad => ?_, ?_, ?_⟩
        · simp (maxSteps:=1000000) (disch:=omega) only [rg,gD,simprocAttr,c80,prV,bx,x1,x2,x3,List.take_length]
          refine fin_T0 (l:=[]) ?_ (.inl rfl) ?_ (fun id hid => ?_) (.inr rfl)
          · rfl
          · exact Nat.le_refl _
          have:=(hlow id hid).1
          by_cases e:id=L
          · subst e; simp [upd,ldV]
          · simp (disch:=omega) only [upd_ne,e,only_mem hid,ne_eq,not_false_eq_true]
        · rw [hP] at hbad; cases hbad
        · rw [dsOf_at,if_pos (by simp [fpL])]; exact upd_eq ..
        · intro id i1 i2 i3 i4
          rw [dsOf_at]
          split
          · simp [upd,i2]
          · rfl
      obtain ⟨st,er,hr⟩:∃ a b,stGetS val=(a,b):=⟨_,_,rfl⟩
      have hc:=task_get val (by omega)
      rw [hr] at hc
      obtain ⟨g,hgd⟩:∃ g,sget s.am (key.take (key.length - 1))=g:=⟨_,rfl⟩
      have hlk:mget (smV natV s.am) (.str (key.take (key.length - 1)))=g.map natV:=by rw [sm_get,hgd]
      have hm2:=q.ma
      obtain ⟨gi,hgi⟩:∃ gi,g.getD 0=gi:=⟨_,rfl⟩
      obtain ⟨gb,hgb⟩:∃ gb,g.isSome=gb:=⟨_,rfl⟩
      have hmr:mres true (g.map natV) (.int .i64 0)=.tup [.int .i64 (gi:Int),.bool gb]:=by
        rw [← hgi,← hgb]; cases g<;>rfl
      have hkl:1≤key.length:=by cases key with | nil => exact absurd rfl ck | cons _ _ => simp
      have hP:pairS s (116::key,val)=if (s.bad || decide (er≠0) || !g.isSome)=true then { s with bad:=true } else { s with bad:=false,runs:=pushS s.runs (g.getD 0) st }:=by
        show (if key=[] then _ else if (s.bad || decide ((stGetS val).2≠0) || !(sget s.am (key.take (key.length - 1))).isSome)=true then ({ s with bad:=true }:Ld) else { s with bad:=false,runs:=pushS s.runs ((sget s.am (key.take (key.length - 1))).getD 0) (stGetS val).1 })=_
        rw [if_neg ck,hr,hgd]
      have hw:IntKind.i64.wrap ((key.length:Int) - 1)=((key.length - 1:Nat):Int):=by
        simp only [List.length_cons] at hp1
        rw [show ((key.length:Int) - 1)=((key.length - 1:Nat):Int) by omega]
        exact wrap_i64 (by omega) (by omega)
      by_cases cb:er=0∧g.isSome=true
      · obtain ⟨ce,cg⟩:=cb
        have hge:g=some gi:=by cases g with | none => simp at cg | some x => simp at hgi; rw [hgi]
        have hgt:gb=true:=hgb.symm.trans cg
        subst hgt
        have hgl:gi < s.runs.length:=ok.am _ gi (by rw [hgd,hge])
        have hgo:gi < os.length:=by rw [h.len]; exact hgl
        have hP2:pairS s (116::key,val)={ s with bad:=false,runs:=pushS s.runs gi st }:=by
          rw [hP,if_neg,hgi]
          simp [hb,ce,cg]
        have hps:pushS s.runs gi st=s.runs.set gi { s.runs[gi] with states:=s.runs[gi].states++[st] }:=by
          unfold pushS; rw [List.getElem?_eq_getElem hgl]
        obtain ⟨r,hrd⟩:∃ r,s.runs[gi]=r:=⟨_,rfl⟩
        obtain ⟨o,hod⟩:∃ o,os[gi]=o:=⟨_,rfl⟩
        have hst:=q.sts gi hgl hgo
        have hst':=h.sts gi hgl hgo
        rw [hod,hrd] at hst hst'
        rw [hrd] at hps
        have hrm:=List.getElem_mem hgl
        rw [hrd] at hrm
        have hrs:=ok.states r hrm
        have hru:=q.runs
        have hru':=h.runs
        have hnd:=h.nd
        have hlen:=h.len
        cases oR with
        | none =>
          have h9:runsC s.runs os=[]:=hru
          have:=congrArg List.length h9
          rw [runsC,List.length_zipWith,List.length_nil] at this
          omega
        | some iR =>
        have hrr:=hru.2.2
        have hr0:(runsC s.runs os)[gi]?=some (runC r o):=by
          unfold runsC
          rw [List.getElem?_zipWith]
          rw [List.getElem?_eq_getElem hgl,List.getElem?_eq_getElem hgo,hrd,hod]
        have nS1:∀ x,x < lo→¬ o=some x:=fun x hx e => by have:=hst.lt e; omega
        have nS2:∀ x,H.n≤x→¬ o=some x:=fun x hx e => by have:=hst.lt e; omega
        have iR1:lo≤iR∧iR < H.n:=⟨hru.1,hru.2.1⟩
        have nSR:¬ o=some iR:=fun e => hnd.rl iR gi rfl (by rw [List.getElem?_eq_getElem hgo,hod,e])
        have hrs2:runsC (pushS s.runs gi st) (os.set gi (some (H.n+2)))=(runsC s.runs os).set gi (.agg [.str r.key,.str r.dag.name,tasksV r.dag.tasks,.int .i64 r.is,.sl (H.n+2) 0 (r.states.length+1)]):=by
          rw [hps]
          unfold runsC
          apply List.ext_getElem?
          intro j
          simp only [List.getElem?_zipWith,List.getElem?_set,List.length_set,List.length_zipWith]
          by_cases jg:gi=j
          · subst jg
            simp [hgl,hgo,runC,rowV]
            omega
          · simp [jg]
        refine ⟨dsOf (fpL L md ma oD (some iR) os++[H.n+2]) (upd (upd (upd (kill o H.m) (H.n+2) (some (.arr 5 (mv sttV (r.states++[st]))))) iR (some (.arr 5 (runsC (pushS s.runs gi st) (os.set gi (some (H.n+2))))))) L (some (.arr 7 [ldV (pairS s (116::key,val)) oD (some iR) md ma]))),3,oD,some iR,os.set gi (some (H.n+2)),ena80 (by simp) hg hlow (hds _ _ _ (by simp)) ?_,fun hbad => ?_, ?_, ?_⟩
        · rw [hP2]
          simp (maxSteps:=1000000) (disch:=omega) only [rg,gD,simprocAttr,c80,prV,bx,x1,x2,x3,List.take_length,ck,hm2,hw]
          refine ⟨⟨by omega,by omega⟩,by omega,by omega,sm_ok natV _ s.am, ?_⟩
          rw [hlk,hmr]
          simp (maxSteps:=1000000) (disch:=omega) only [rg,gD,simprocAttr]
          refine ⟨_,hc, ?_⟩
          have hrv:∀ n,rowV 5 (some iR) n=.sl iR 0 n:=fun _ => rfl
          simp (maxSteps:=1000000) (disch:=omega) only [rg,gD,simprocAttr,stV,sttV,bx,hb,ce,hrv,hrr,hr0,runC]
          refine ⟨by omega, ?_⟩
          refine app_ow (lo:=lo) (o:=o) (l:=mv sttV r.states) (hst.keep (show H.n≤H.n+2 by omega) fun i e => ?_) (by rw [mv_len]) (by rw [mv_len]; exact Nat.le_trans hrs (by decide)) (by decide) fun fp ds hD hB hF => ?_
          · have:=hst.lt e
            simp (disch:=omega) only [upd_ne]
          rw [x_nx]
          refine ⟨?_, ?_⟩
          · have hcp:∀ (a:Nat) (b:Option Ob),(a,b)∈ds→¬ a=L:=fun a b hab e => by
              rcases hB a (List.mem_map.2 ⟨(a,b),hab,rfl⟩) with k | k
              · simp only [] at k; omega
              · exact nS1 a (by omega) k
            simpa [compat,disj,nthL] using hcp
          simp only [] at hD ⊢
          generalize appd ds _=m5 at hD ⊢
          have a1:=hD L
          have a2:=hD iR
          have a4:=hD (H.n+2)
          simp (disch:=omega) only [nS1,nS2,nSR,upd_ne,upd_eq,if_neg,if_true,if_false,h1,h3,Nat.le_add_right,ne_eq,not_false_eq_true,hrr] at a1 a2 a4
          simp (maxSteps:=1000000) (disch:=omega) only [rg,gD,simprocAttr,a1,a2,hr0,runC]
          refine ⟨by omega, ?_⟩
          refine fin_T (l:=[]) ?_ (.inl rfl) ?_ (fun id hid => ?_) (.inl rfl)
          · rfl
          · exact Nat.le_refl _
          by_cases i2:id=L
          · subst i2
            simp (disch:=omega) only [upd_eq,upd_ne,ldV,rowV,pushS_len,a1]
          by_cases i1:id=iR
          · subst i1
            simp (disch:=omega) only [upd_eq,upd_ne,hrs2]
          by_cases i3:id=H.n+2
          · subst i3
            simp (disch:=first | exact i1 | exact i2 | omega) only [upd_eq,upd_ne,a4,mv,List.map_append,List.map_cons,List.map_nil,sttV]
          have i4:id∈fpL L md ma oD (some iR) os:=by simpa [i3] using hid
          have i5:=(hlow id i4).1
          simp (disch:=first | exact i1 | exact i2 | exact i3 | omega) only [upd_ne,hD,if_neg,if_false,kill,only_mem i4]
        · refine LdR.ds (n:=H.n+3) ?_ (Nat.le_refl _) (by simp [fpL]) (by simp [fpL]) (by simp [fpL]) (fun i hi => ?_)
          · rw [hP2]
            refine ⟨?_, ?_, ?_,h.dags.keep (by omega) fun i e => ?_,⟨iR1.1,by omega, ?_⟩, ?_,fun j j1 j2 => ?_,⟨hnd.dr, ?_, ?_, ?_⟩,fun i hi => ?_⟩
            · exact upd_eq ..
            · simp (disch:=omega) only [upd_ne,upd_eq,kill,nS1 md h2,if_neg,if_false,not_false_eq_true]
              exact h.md
            · simp (disch:=omega) only [upd_ne,upd_eq,kill,nS1 ma h3,if_neg,if_false,not_false_eq_true]
              exact h.ma
            · have k0:=h.dags.lt e
              have k1:¬ o=some i:=fun x => hnd.dl i gi e (by rw [List.getElem?_eq_getElem hgo,hod,x])
              have k2:iR≠i:=fun x => hnd.dr i e (by rw [x])
              simp (disch:=omega) only [upd_ne,kill,k1,if_neg,if_false,not_false_eq_true]
            · simp (disch:=omega) only [upd_ne,upd_eq]
            · show (os.set _ _).length=(pushS _ _ _).length
              rw [pushS_len,List.length_set,h.len]
            · have j3:j < s.runs.length:=by have:j < (pushS s.runs gi st).length:=j1; rwa [pushS_len] at this
              have j4:j < os.length:=by rwa [List.length_set] at j2
              by_cases jg:j=gi
              · subst jg
                have e5:(pushS s.runs j st)[j]'j1={ r with states:=r.states++[st] }:=by simp [hps]
                have e6:(os.set j (some (H.n+2)))[j]'j2=some (H.n+2):=by simp
                show RowOk lo _ _ 5 ((os.set j (some (H.n+2)))[j]'j2) (mv sttV ((pushS s.runs j st)[j]'j1).states)
                rw [e5,e6]
                refine ⟨by omega,by omega, ?_⟩
                simp (disch:=omega) only [upd_ne,upd_eq]
              · have e5:(pushS s.runs gi st)[j]'j1=s.runs[j]:=by simp only [hps]; rw [List.getElem_set_ne (fun x => jg x.symm)]
                have e6:(os.set gi (some (H.n+2)))[j]'j2=os[j]:=by rw [List.getElem_set_ne (fun x => jg x.symm)]
                show RowOk lo _ _ 5 ((os.set gi (some (H.n+2)))[j]'j2) (mv sttV ((pushS s.runs gi st)[j]'j1).states)
                rw [e5,e6]
                refine (h.sts j j3 j4).keep (by omega) fun i e => ?_
                have k0:=(h.sts j j3 j4).lt e
                have k1:¬ o=some i:=fun x => jg (hnd.inj j gi i (by rw [List.getElem?_eq_getElem j4,e]) (by rw [List.getElem?_eq_getElem hgo,hod,x]))
                have k2:iR≠i:=fun x => hnd.rl iR j rfl (by rw [List.getElem?_eq_getElem j4,e,x])
                simp (disch:=omega) only [upd_ne,kill,k1,if_neg,if_false,not_false_eq_true]
            · intro a j x y
              rw [List.getElem?_set] at y
              split at y
              · simp at y; have:=h.dags.lt x; omega
              · exact hnd.dl a j x y
            · intro a j x y
              cases x
              rw [List.getElem?_set] at y
              split at y
              · simp at y; omega
              · exact hnd.rl _ j rfl y
            · intro i j a x y
              have lt:∀ {i:Nat},(os.set gi (some (H.n+2)))[i]?=some (some a)→(i=gi∧a=H.n+2)∨(i≠gi∧os[i]?=some (some a)):=by
                intro i y
                rw [List.getElem?_set] at y
                split at y
                · simp at y; exact .inl ⟨by omega,y.symm⟩
                · exact .inr ⟨by omega,y⟩
              have fr:∀ {i:Nat},os[i]?=some (some a)→a < H.n:=fun y => (h.ids a (mem_ids.2 (.inr (.inr (List.mem_of_getElem? y))))).2
              rcases lt x with ⟨x1,x2⟩ | ⟨x1,x2⟩<;>rcases lt y with ⟨y1,y2⟩ | ⟨y1,y2⟩
              · omega
              · have:=fr y2; omega
              · have:=fr x2; omega
              · exact hnd.inj i j a x2 y2
            · rcases mem_ids.1 hi with e | e | e
              · have:=h.ids i (mem_ids.2 (.inl e)); omega
              · cases e; omega
              · rcases List.mem_or_eq_of_mem_set e with e | e
                · have:=h.ids i (mem_ids.2 (.inr (.inr e))); omega
                · cases e; omega
          · rcases mem_ids.1 hi with e | e | e
            · simp [fpL,mem_ids,e]
            · cases e; simp [fpL,mem_ids]
            · rcases List.mem_or_eq_of_mem_set e with e | e
              · simp [fpL,mem_ids,e]
              · cases e; simp
        · rw [dsOf_at,if_pos (by simp [fpL])]; exact upd_eq ..
        · intro id i1 i2 i3 i4
          rw [dsOf_at]
          split
          · simp (disch:=first | exact i2 | omega) only [upd_ne,kill,nS1 id i1,if_neg,if_false,not_false_eq_true]
          · rfl
      · have hP2:pairS s (116::key,val)={ s with bad:=true }:=by
          rw [hP,if_pos]
          rw [hb]
          by_cases y:er=0
          · have:g.isSome=false:=by cases h9:g.isSome with | true => exact absurd ⟨y,h9⟩ cb | false => rfl
            simp [this]
          · simp [y]
        rw [hP2]
        refine ⟨dsOf (fpL L md ma oD oR os) (upd H.m L (some (.arr 7 [ldV { s with bad:=true } oD oR md ma]))),2,oD,oR,os,ena80 (by simp) hg hlow (hds0 _ _) ?_,fun hbad => ?_, ?_, ?_⟩
        · simp (maxSteps:=1000000) (disch:=omega) only [rg,gD,simprocAttr,c80,prV,bx,x1,x2,x3,List.take_length,ck,hm2,hw]
          refine ⟨⟨by omega,by omega⟩,by omega,by omega,sm_ok natV _ s.am, ?_⟩
          rw [hlk,hmr]
          simp (maxSteps:=1000000) (disch:=omega) only [rg,gD,simprocAttr]
          refine ⟨_,hc, ?_⟩
          have hcc:er=0∧gb=false∨¬ er=0:=by
            by_cases y:er=0
            · exact .inl ⟨y,by cases h9:gb with | true => exact absurd ⟨y,hgb.trans h9⟩ cb | false => rfl⟩
            · exact .inr y
          rcases hcc with ⟨ce,rfl⟩ | ce
          all_goals
            simp (maxSteps:=1000000) (disch:=omega) only [rg,gD,simprocAttr,stV,sttV,bx,hb,ce]
            refine fin_T0 (l:=[]) ?_ (.inl rfl) ?_ (fun id hid => ?_) (.inr rfl)
            · rfl
            · exact Nat.le_refl _
            have:=(hlow id hid).1
            by_cases e:id=L
            · subst e; simp [upd,ldV]
            · simp (disch:=omega) only [upd_ne,e,only_mem hid,ne_eq,not_false_eq_true]
        · cases hbad
        · rw [dsOf_at,if_pos (by simp [fpL])]; exact upd_eq ..
        · intro id i1 i2 i3 i4
          rw [dsOf_at]
          split
          · simp [upd,i2]
          · rfl
    have x1:¬ ([c]:List UInt8)=[100]:=by simp [c1]
    have x2:¬ ([c]:List UInt8)=[109]:=by simp [c2]
    have x3:¬ ([c]:List UInt8)=[114]:=by simp [c3]
    have x4:¬ ([c]:List UInt8)=[116]:=by simp [c4]
    have hP:pairS s (c::key,val)={ s with bad:=true }:=by
      show (if c=100 then _ else if c=109 then _ else if c=114 then _ else if c=116 then _ else ({ s with bad:=true }:Ld))=_
      rw [if_neg c1,if_neg c2,if_neg c3,if_neg c4]
    rw [hP]
    refine ⟨dsOf (fpL L md ma oD oR os) (upd H.m L (some (.arr 7 [ldV { s with bad:=true } oD oR md ma]))),1,oD,oR,os,ena80 (by simp) hg hlow (hds0 _ _) ?_,fun hbad => ?_, ?_, ?_⟩
    · simp (maxSteps:=1000000) (disch:=omega) only [rg,gD,simprocAttr,c80,prV,bx,x1,x2,x3,x4]
      refine ⟨⟨by omega,by omega⟩,by omega, ?_⟩
      refine fin_T0 (l:=[]) ?_ (.inl rfl) ?_ (fun id hid => ?_) (.inl rfl)
      · rfl
      · exact Nat.le_refl _
      have:=(hlow id hid).1
      by_cases e:id=L
      · subst e; simp [upd,ldV]
      · simp (disch:=omega) only [upd_ne,e,only_mem hid,ne_eq,not_false_eq_true]
    · cases hbad
    · rw [dsOf_at,if_pos (by simp [fpL])]; exact upd_eq ..
    · intro id i1 i2 i3 i4
      rw [dsOf_at]
      split
      · simp [upd,i2]
      · rfl
end
theorem sl_equal8 (st st':St) (a b:List Pr) (ha:a.length≤100000) (hb:b.length≤100000):PCall Tryz.prog 81 [.fsl st 2 (mv prV a),.fsl st' 2 (mv prV b)] (.bool (decide (a=b))):=by
  refine en81 (by simp) (by simp [closedL,V.closed,mv_closed prV_closed]) ?_
  simp (maxSteps:=1000000) (disch:=omega) only [rg,gD,simprocAttr,c81,mv_len]
  by_cases c:a.length=b.length
  case neg =>
    have hne:a≠b:=fun e => c (by rw [e])
    simp (maxSteps:=1000000) (disch:=omega) only [rg,gD,simprocAttr,show ¬ (a.length:Int)=b.length by omega]
    (refine fin_x rfl ?_ ?_<;>simp [pack,lo,loL,V.closed,closedL,mv_closed,hne])
  simp (maxSteps:=1000000) (disch:=omega) only [rg,gD,simprocAttr,show (a.length:Int)=b.length by omega]
  refine x_it a.length (fun k σ H => a.take k=b.take k∧σ=[(0,.fsl st 2 (mv prV a)),(1,.fsl st' 2 (mv prV b)),(12,.int .i64 (a.length:Int)),(13,.int .i64 (k:Int))]) ⟨rfl,by simp [c]⟩ ?_
  rintro T k σ ⟨n,m⟩ hkk ⟨ht,rfl⟩ hN hX hR
  by_cases hk:k < a.length
  · have hk2:k < b.length:=by omega
    have e:(a.take (k+1)=b.take (k+1))↔a[k]=b[k]:=by
      rw [List.take_succ_eq_append_getElem hk,List.take_succ_eq_append_getElem hk2,ht]
      exact ⟨fun h => by simpa using List.append_cancel_left h,fun h => by rw [h]⟩
    by_cases h:a[k]=b[k]
    · simp (maxSteps:=1000000) (disch:=omega) only [rg,gD,simprocAttr,show (k:Int) < a.length by omega,mv_get hk,mv_get hk2,Int.toNat_natCast,getC_pr,prV,eqF_pr,decide_eq_true h]
      exact hN _ _ hk ⟨e.2 h,rfl⟩
    · have hne:a≠b:=fun e => h (by simp [e])
      simp (maxSteps:=1000000) (disch:=omega) only [rg,gD,simprocAttr,show (k:Int) < a.length by omega,mv_get hk,mv_get hk2,Int.toNat_natCast,getC_pr,prV,eqF_pr,decide_eq_false h]
      refine hR _ _ ?_
      simp (maxSteps:=1000000) (disch:=omega) only [rg,gD,simprocAttr]
      (refine fin_x rfl ?_ ?_<;>simp [pack,lo,loL,V.closed,closedL,mv_closed,hne])
  · obtain rfl:k=a.length:=by omega
    have hab:a=b:=by rw [List.take_length,c,List.take_length] at ht; exact ht
    simp (maxSteps:=1000000) (disch:=omega) only [rg,gD,simprocAttr,Int.lt_irrefl]
    refine hX _ _ _ ?_
    simp (maxSteps:=1000000) (disch:=omega) only [rg,gD,simprocAttr]
    refine x_frz0 ?_
    simp (maxSteps:=1000000) (disch:=omega) only [rg,gD,simprocAttr]
    (refine fin_x rfl ?_ ?_<;>simp [pack,lo,loL,V.closed,closedL,mv_closed,hab])
def loadR:Ld→List Pr→Option Ld
  | s,[] => some s
  | s,p::l => if (pairS s p).bad=true then none else loadR (pairS s p) l
theorem loadR_snoc {p:Pr}:∀ {l:List Pr} {s s':Ld},loadR s l=some s'→loadR s (l++[p])=if (pairS s' p).bad=true then none else some (pairS s' p)
  | [],s,s',h => by simp only [loadR,Option.some.injEq] at h; subst h; simp [loadR]
  | q::l,s,s',h => by
    simp only [loadR] at h
    split at h
    · cases h
    · rename_i c
      simp only [List.cons_append,loadR]
      rw [if_neg c,loadR_snoc h]
theorem loadR_none:∀ {l:List Pr} {s:Ld} (l':List Pr),loadR s l=none→loadR s (l++l')=none
  | [],s,_,h => by simp [loadR] at h
  | q::l,s,l',h => by
    simp only [loadR] at h
    simp only [List.cons_append,loadR]
    split
    · rfl
    · rename_i c
      rw [if_neg c] at h
      exact loadR_none l' h
def ldW (s:Ld):Wd:=⟨s.now,s.token,s.dags,s.runs⟩
structure LdB (s:Ld):Prop where
  dags:∀ d∈s.dags,okDagL d
  dm:∀ k d,sget s.dm k=some d→okDagL d
  runs:∀ r∈s.runs,RnOk r∧okDagL r.dag
theorem ld0_B:LdB ld0:=⟨by simp [ld0],by simp [ld0,sget],by simp [ld0]⟩
theorem dagGet_okL {v:Str} (h:(dagGetS v).2=0):okDagL (dagGetS v).1:=by
  have h1:=(dagGet_back h).1
  rw [right_same] at h1
  obtain ⟨a,b,c⟩:=dag_okn h1
  exact ⟨by omega,fun t ht => by have:=c t ht; omega⟩
theorem pair_B {s:Ld} {p:Pr} (h:LdB s) (ok:LdOk s 1000) (hk:p.1.length≤4611686018427387904) (hb:(pairS s p).bad=false):LdB (pairS s p):=by
  obtain ⟨key,val⟩:=p
  have hk:key.length≤4611686018427387904:=hk
  cases key with
  | nil => cases hb
  | cons c rest =>
  unfold pairS at hb ⊢
  simp only [] at hb ⊢
  by_cases c1:c=100
  · rw [if_pos c1] at hb ⊢
    simp only [Bool.or_eq_false_iff,decide_eq_false_iff_not,ne_eq,Decidable.not_not] at hb
    have hd:=dagGet_okL hb.1.2
    refine ⟨fun d hdm => ?_,fun k d hkd => ?_,h.runs⟩
    · rcases List.mem_append.1 hdm with x | x
      · exact h.dags d x
      · simp at x; subst x; exact hd
    · have hkd':sget (sset s.dm rest (dagGetS val).1) k=some d:=hkd
      rw [sget_sset] at hkd'
      split at hkd'
      · cases hkd'; exact hd
      · exact h.dm k d hkd'
  rw [if_neg c1] at hb ⊢
  by_cases c2:c=109
  · rw [if_pos c2] at hb ⊢
    exact ⟨h.dags,h.dm,h.runs⟩
  rw [if_neg c2] at hb ⊢
  by_cases c3:c=114
  · rw [if_pos c3] at hb ⊢
    simp only [Bool.or_eq_false_iff,decide_eq_false_iff_not,ne_eq,Decidable.not_not,Bool.not_eq_false'] at hb
    refine ⟨h.dags,h.dm,fun r hr => ?_⟩
    rcases List.mem_append.1 hr with x | x
    · exact h.runs r x
    · simp at x; subst x
      obtain ⟨d,hd⟩:=Option.isSome_iff_exists.1 hb.2
      have:=h.dm _ d hd
      rw [hd]
      simp only [List.length_cons] at hk
      exact ⟨⟨by simp only []; omega,this.2,this.1,by simp,by simp⟩,this⟩
  rw [if_neg c3] at hb ⊢
  by_cases c4:c=116
  · rw [if_pos c4] at hb ⊢
    split at hb
    · cases hb
    rename_i ck
    rw [if_neg ck]
    split at hb
    · cases hb
    rename_i cb
    rw [if_neg cb]
    simp only [Bool.or_eq_true,decide_eq_true_eq,not_or,ne_eq,Decidable.not_not] at cb
    have hst:=(standsS_iff _).1 (stGet_ok cb.1.2)
    refine ⟨h.dags,h.dm,fun r hr => ?_⟩
    rcases pushS_mem hr with x | ⟨q,hq,rfl⟩
    · exact h.runs r x
    · obtain ⟨a,b⟩:=h.runs q hq
      refine ⟨⟨a.key,a.needs,a.tasks, ?_,fun x hx => ?_⟩,b⟩
      · have:=ok.states q hq; simp; omega
      · rcases List.mem_append.1 hx with y | y
        · exact a.results x y
        · simp at y; subst y; have:=hst; omega
  · rw [if_neg c4] at hb; cases hb
theorem ld_M {s:Ld} (h:LdB s) (ok:LdOk s 1000):WdM (ldW s) :=
  ⟨⟨ok.dags,ok.runs,h.dags,fun r hr => (h.runs r hr).1⟩,fun r hr => ⟨(h.runs r hr).2,by have:=ok.states r hr; omega⟩⟩
theorem snap_slO {n id sz len:Nat} {m:Hm} {l l':List V} (h:m id=some (.arr sz l)) (hl:len=l.length) (hm:mapO (snap n m) l=some l'):snap (n+1) m (.sl id 0 len)=some (.fsl .loose sz l'):=by
  subst hl
  simp [snap,V.closed,h,hm]
theorem snap_aggN {n:Nat} {m:Hm} {l:List V} (hc:closedL l=false) (hm:mapO (snap n m) l=none):snap (n+1) m (.agg l)=none:=by simp [snap,V.closed,hc,hm]
def stO:Option Nat→St
  | none => .nil
  | some _ => .loose
theorem row_snap {k lo n:Nat} {m:Hm} {sz len:Nat} {o:Option Nat} {l:List V} {fz:List Nat} (h:RowOk lo n m sz o l) (hc:closedL l=true) (hf:∀ i,o=some i→i∈fz) (hl:len=l.length):snap (k+1) (only fz m) (rowV sz o len)=some (.fsl (stO o) sz l):=by
  cases o with
  | none =>
    have h':l=[]:=h
    subst h'
    exact snap_cl rfl
  | some i =>
    exact snap_sl (by rw [only_mem (hf i rfl)]; exact h.2.2) hc hl
def runD (r:Rn) (o:Option Nat):V:=.agg [.str r.key,.str r.dag.name,tasksV r.dag.tasks,.int .i64 r.is,.fsl (stO o) 5 (mv sttV r.states)]
theorem run_snap {k lo n:Nat} {m:Hm} {r:Rn} {o:Option Nat} {fz:List Nat} (h:RowOk lo n m 5 o (mv sttV r.states)) (hf:∀ i,o=some i→i∈fz):snap (k+2) (only fz m) (runC r o)=some (runD r o) :=
  snap_agg (mapO_c (snap_cl rfl) (mapO_c (snap_cl rfl) (mapO_c (snap_cl (tasksV_closed _)) (mapO_c (snap_cl rfl) (mapO_c (row_snap h (mv_closed sttV_closed) hf mv_len.symm) rfl)))))
theorem runs_snap {k lo n:Nat} {m:Hm} {fz:List Nat}:∀ {rs:List Rn} {os:List (Option Nat)},os.length=rs.length→(∀ j (h:j < rs.length) (h2:j < os.length),RowOk lo n m 5 os[j] (mv sttV rs[j].states))→(∀ i,some i∈os→i∈fz)→mapO (snap (k+2) (only fz m)) (runsC rs os)=some (List.zipWith runD rs os)
  | [],[],_,_,_ => rfl
  | r::rs,o::os,hl,hs,hf => by
    refine mapO_c (run_snap (hs 0 (by simp) (by simp)) fun i e => hf i (by simp [e])) ?_
    exact runs_snap (by simpa using hl) (fun j h h2 => hs (j+1) (by simp; omega) (by simp; omega)) fun i hi => hf i (by simp [hi])
  | [],_::_,hl,_,_ => by simp at hl
  | _::_,[],hl,_,_ => by simp at hl
theorem runD_lo (r:Rn) (o:Option Nat):lo (runD r o)=rnV r:=by simp [runD,rnV,lo,loL,tasksV_lo,mv_lo sttV_lo,sttsV]
theorem runsD_lo:∀ {rs:List Rn} {os:List (Option Nat)},os.length=rs.length→loL (List.zipWith runD rs os)=mv rnV rs
  | [],[],_ => rfl
  | r::rs,o::os,hl => by
    have:=runsD_lo (rs:=rs) (os:=os) (by simpa using hl)
    simp only [List.zipWith_cons_cons,loL,runD_lo,this]; rfl
  | [],_::_,hl => by simp at hl
  | _::_,[],hl => by simp at hl
theorem runsRow_snap {lo n:Nat} {m:Hm} {L md ma:Nat} {s:Ld} {oD oR:Option Nat} {os:List (Option Nat)} {fz:List Nat} (h:LdR lo n m L md ma s oD oR os) (hf:∀ i∈idsL oD oR os,i∈fz):snap 3 (only fz m) (rowV 5 oR s.runs.length)=some (.fsl (stO oR) 5 (List.zipWith runD s.runs os)):=by
  have hm:=runs_snap (k:=0) h.len h.sts fun i hi => hf i (mem_ids.2 (.inr (.inr hi)))
  have hl:s.runs.length=(runsC s.runs os).length:=by simp [runsC,h.len]
  have h0:=h.runs
  cases oR with
  | none =>
    have e:runsC s.runs os=[]:=h0
    have e2:s.runs.length=0:=by rw [hl,e]; rfl
    have e3:s.runs=[]:=List.length_eq_zero_iff.1 e2
    rw [e3]
    exact snap_cl rfl
  | some i =>
    have e:=h0.2.2
    have hi:=hf i (mem_ids.2 (.inr (.inl rfl)))
    exact snap_slO (by rw [only_mem hi]; exact e) hl hm
theorem ld_frz {lo n:Nat} {m:Hm} {L md ma:Nat} {s:Ld} {oD oR:Option Nat} {os:List (Option Nat)} {fz:List Nat} (h:LdR lo n m L md ma s oD oR os) (hf:∀ i∈idsL oD oR os,i∈fz) :
    frzV fz m (ldV s oD oR md ma)=.agg [.int .i64 s.now,.int .i64 s.token,.fsl (stO oD) 2 (mv dagV s.dags),.fsl (stO oR) 5 (List.zipWith runD s.runs os),.map md,.map ma,.bool s.bad]:=by
  have h1:=row_snap (k:=2) h.dags (mv_closed dagV_closed) (fun i e => hf i (mem_ids.2 (.inl e))) mv_len.symm
  have h2:=runsRow_snap h hf
  have hb:snap 4 (only fz m) (ldV s oD oR md ma)=none:=by
    have:=mapO_bad (f:=snap 3 (only fz m)) (a:=[.int .i64 s.now,.int .i64 s.token,rowV 2 oD s.dags.length,rowV 5 oR s.runs.length]) (b:=[.map ma,.bool s.bad]) (v:=.map md) (by simp [snap,V.closed])
    simp only [List.cons_append,List.nil_append] at this
    exact snap_aggN (by simp [closedL,V.closed]) this
  have c:∀ v:V,v.closed=true→frz1 fz m v=v:=fun v hv => by simp only [frz1,snap_cl hv]
  have hmp:∀ i,frz1 fz m (.map i)=.map i:=fun i => by simp [frz1,snap,V.closed]
  unfold frzV
  rw [hb]
  simp only [ldV,List.map_cons,List.map_nil,hmp,c (.int .i64 _) rfl,c (.bool _) rfl]
  have f1:frz1 fz m (rowV 2 oD s.dags.length)=.fsl (stO oD) 2 (mv dagV s.dags):=by simp only [frz1,h1]
  have f2:frz1 fz m (rowV 5 oR s.runs.length)=.fsl (stO oR) 5 (List.zipWith runD s.runs os):=by simp only [frz1,h2]
  rw [f1,f2]
theorem ld_lo {s:Ld} {os:List (Option Nat)} {oD oR:Option Nat} {md ma:Nat} (h:os.length=s.runs.length) :
    lo (.agg [.int .i64 s.now,.int .i64 s.token,.fsl (stO oD) 2 (mv dagV s.dags),.fsl (stO oR) 5 (List.zipWith runD s.runs os),.map md,.map ma,.bool s.bad])=.agg [.int .i64 s.now,.int .i64 s.token,.fsl .loose 2 (mv dagV s.dags),.fsl .loose 5 (mv rnV s.runs),.map md,.map ma,.bool s.bad]:=by
  simp only [lo,loL,mv_lo dagV_lo,runsD_lo h]
section
open Classical in
noncomputable def loadS (l:List Pr):Wd×Int:=match loadR ld0 l with
  | some s => if WR (ldW s)∧rowsS (ldW s)=l then (ldW s,0) else (zW,4)
  | none => (zW,4)
theorem ld0_R {m:Hm} (h1:m 1=some (.mp [])) (h2:m 2=some (.mp [])) (h3:m 3=some (.arr 7 [.agg [.int .i64 0,.int .i64 0,.fsl .nil 2 [],.fsl .nil 5 [],.map 1,.map 2,.bool false]])):LdR 4 4 m 3 1 2 ld0 none none [] :=
  ⟨h3,h1,h2,rfl,rfl,rfl,fun j h => by simp [ld0] at h,.nil,fun i hi => by simp [idsL] at hi⟩
theorem rows_len1 {w:Wd} (h:WR w):(rowsS w).length≤1000:=by
  have:=(rows_ok h).2.length_eq
  have h4:=runsPr_len h.few
  have hML:(metaPr w).length≤1:=by unfold metaPr; split<;>simp
  have:=h.ndags; have:=h.nruns
  simp only [rowsL,List.length_append,List.length_map] at *; omega
open Classical in
set_option maxHeartbeats 2000000 in
theorem rows_load (st:St) (l:List Pr) (hl:l.length≤1000) (hp:∀ p∈l,p.1.length≤140737488355328∧p.2.length≤140737488355328):PCall Tryz.prog 34 [.fsl st 2 (mv prV l)] (.tup [wdV (loadS l).1,.int .i64 (loadS l).2]):=by
  refine en34 (by simp) (by simp [closedL,V.closed,mv_closed prV_closed]) ?_
  simp (maxSteps:=1000000) (disch:=omega) only [rg,gD,simprocAttr,c34,mv_len]
  refine x_it l.length (fun k σ H => 4≤H.n∧H.m 0=some (.arr 4 [.agg [.int .i64 0,.int .i64 0,.fsl .nil 2 [],.fsl .nil 5 []]])∧(∃ s oD oR os,loadR ld0 (l.take k)=some s∧LdR 4 H.n H.m 3 1 2 s oD oR os∧LdOk s k∧LdB s∧s.bad=false) ∧
    σ=[(0,.fsl st 2 (mv prV l)),(2,.ptr 0 0 0),(4,.ptr 3 0 0),(13,.fsl st 2 (mv prV l)),(14,.int .i64 (l.length:Int)),(15,.int .i64 (k:Int))]) ⟨Nat.le_refl 4,(by simp (disch:=omega) only [upd_eq,upd_ne,wo_0,wo_1,wo_2]),⟨ld0,none,none,[],rfl,ld0_R (by simp (disch:=omega) only [upd_eq,upd_ne,wo_0,wo_1,wo_2]) (by simp (disch:=omega) only [upd_eq,upd_ne,wo_0,wo_1,wo_2]) (by simp (disch:=omega) only [upd_eq,upd_ne,wo_0,wo_1,wo_2]),ld0_ok,ld0_B,rfl⟩,rfl⟩ ?_
  rintro T i σ ⟨n,m⟩ hii ⟨hn,e0,⟨s,oD,oR,os,hs,hR,hO,hB,hbf⟩,rfl⟩ hN hX hRt
  simp only at hn e0 hR
  by_cases hi:i < l.length
  · have hpi:=hp _ (List.getElem_mem hi)
    obtain ⟨p,hpd⟩:∃ p,l[i]=p:=⟨_,rfl⟩
    have htk:l.take (i+1)=l.take i++[p]:=by rw [List.take_succ_eq_append_getElem hi,hpd]
    rw [hpd] at hpi
    simp (maxSteps:=1000000) (disch:=omega) only [rg,gD,simprocAttr,show (i:Int) < l.length by omega,mv_get hi,hpd,Int.toNat_natCast,getC_pr,prV]
    have n0:(0:Nat)≠n:=by omega
    have n3:(3:Nat)≠n:=by omega
    obtain ⟨m1,hm1⟩:∃ m1,upd (upd m n (some (.arr 2 [.agg [.str [],.str []]]))) n (some (.arr 2 [prV p]))=m1:=⟨_,rfl⟩
    have ho:∀ id,id≠n→m1 id=m id:=fun id h => by rw [← hm1]; simp (disch:=exact h) only [upd_ne]
    have hR1:LdR 4 (n+1) m1 3 1 2 s oD oR os:=hR.congr (by omega) (ho 3 n3) (ho 1 (by omega)) (ho 2 (by omega)) fun i hi => ho i (by have:=hR.ids i hi; omega)
    obtain ⟨ds,kk,oD',oR',os',hcall,hR2,hL,hoth⟩:=pair_call (H:=⟨n+1,m1⟩) (p:=p) hR1 ⟨hO.am,by have:=hO.runs; omega,by have:=hO.dags; omega,fun r hr => by have:=hO.states r hr; omega⟩ hbf (by omega) (by omega) (by omega) (by omega) (by omega) (by omega) (by show 4≤n+1; omega) hpi.1 hpi.2
    rw [show (V.agg [V.str p.1,V.str p.2])=prV p from rfl,hm1]
    refine ⟨_,_,ds,kk,hcall, ?_⟩
    rw [x_nx]
    refine ⟨by simp only [compat_nil], ?_⟩
    simp only [] at hR2 hL hoth ⊢
    generalize appd ds m1=m2 at hR2 hL hoth ⊢
    have z2:m2 0=some (.arr 4 [.agg [.int .i64 0,.int .i64 0,.fsl .nil 2 [],.fsl .nil 5 []]]):=(hoth 0 (by omega) (by omega) (by omega) (by omega)).trans ((ho 0 n0).trans e0)
    have hL6:∃ a b c d,m2 3=some (.arr 7 [.agg [a,b,c,d,.map 1,.map 2,.bool (pairS s p).bad]]):=⟨_,_,_,_,hL⟩
    obtain ⟨a',b',c',d',hL7⟩:=hL6
    have hsn:=loadR_snoc (p:=p) hs
    rw [← htk] at hsn
    by_cases hbd:(pairS s p).bad=true
    · rw [hbd] at hL7
      rw [if_pos hbd] at hsn
      have hno:loadR ld0 l=none:=by
        have:=loadR_none (l.drop (i+1)) hsn
        rwa [List.take_append_drop] at this
      have hS:loadS l=(zW,4):=by unfold loadS; rw [hno]
      simp (maxSteps:=1000000) (disch:=omega) only [rg,gD,simprocAttr,hL7,z2]
      refine hRt _ _ ?_
      simp (maxSteps:=1000000) (disch:=omega) only [rg,gD,simprocAttr]
      (refine fin_x rfl ?_ ?_<;>simp [pack,lo,loL,V.closed,closedL,mv_closed,hS,wdV,zW,mv_nil])
    · rw [eq_false_of_ne_true hbd] at hL7
      rw [if_neg hbd] at hsn
      simp (maxSteps:=1000000) (disch:=omega) only [rg,gD,simprocAttr,hL7]
      have hb':=eq_false_of_ne_true hbd
      exact hN _ _ hi ⟨by show 4≤n+1+kk; omega,z2,⟨_,oD',oR',os',hsn,hR2 hb',pair_ok hO p,pair_B hB ⟨hO.am,by have:=hO.runs; omega,by have:=hO.dags; omega,fun r hr => by have:=hO.states r hr; omega⟩ (by have:=hpi.1; omega) hb',hb'⟩,rfl⟩
  · obtain rfl:i=l.length:=by omega
    simp (maxSteps:=1000000) (disch:=omega) only [rg,gD,simprocAttr,show ¬ (l.length:Int) < l.length by omega]
    refine hX _ _ _ ?_
    simp (maxSteps:=1000000) (disch:=omega) only [rg,gD,simprocAttr]
    refine x_frzL (idsL oD oR os) [3] ?_
    rw [List.take_length] at hs
    have hM:=ld_M hB ⟨hO.am,by have:=hO.runs; omega,by have:=hO.dags; omega,fun r hr => by have:=hO.states r hr; omega⟩
    have hrr:=rows_rows (ldW s) hM
    have i0:(0:Nat)∉idsL oD oR os:=fun h => by have:=hR.ids 0 h; omega
    have i3:(3:Nat)∉idsL oD oR os:=fun h => by have:=hR.ids 3 h; omega
    have cl:∀ v:V,v.closed=true→frzV (idsL oD oR os) m v=v:=fun v hv => by simp only [frzV,snap_cl hv]
    have pt:∀ a b c,frzV (idsL oD oR os) m (.ptr a b c)=.ptr a b c:=fun a b c => by simp [frzV,snap,V.closed]
    have d0:loH [3] (frzH (idsL oD oR os) m) 0=some (.arr 4 [.agg [.int .i64 0,.int .i64 0,.fsl .nil 2 [],.fsl .nil 5 []]]):=by
      simp [loH,frzH,i0,e0,frzO,cl (.agg [.int .i64 0,.int .i64 0,.fsl .nil 2 [],.fsl .nil 5 []]) rfl]
    have d3:loH [3] (frzH (idsL oD oR os) m) 3=some (.arr 7 [.agg [.int .i64 s.now,.int .i64 s.token,.fsl .loose 2 (mv dagV s.dags),.fsl .loose 5 (mv rnV s.runs),.map 1,.map 2,.bool s.bad]]):=by
      simp only [loH,frzH,i3,hR.box,frzO,List.map_cons,List.map_nil,ld_frz hR (fun i h => h),List.mem_singleton,if_true,if_false,loO,loL,ld_lo hR.len]
    simp only [frzS,pt,cl (.fsl st 2 (mv prV l)) (by simp [V.closed,mv_closed prV_closed]),cl (.int _ _) rfl,cl (.bool _) rfl]
    generalize loH [3] (frzH (idsL oD oR os) m)=m' at d0 d3 ⊢
    by_cases hw:WR (ldW s)
    case neg =>
      rw [if_neg hw,if_neg hw] at hrr
      have hS:loadS l=(zW,4):=by unfold loadS; rw [hs]; simp only []; rw [if_neg fun h => hw h.1]
      simp (maxSteps:=1000000) (disch:=omega) only [rg,gD,simprocAttr,d3]
      refine ⟨_,hrr, ?_⟩
      simp (maxSteps:=1000000) (disch:=omega) only [rg,gD,simprocAttr,d0]
      (refine fin_x rfl ?_ ?_<;>simp [pack,lo,loL,V.closed,closedL,mv_closed,hS,wdV,zW,mv_nil])
    rw [if_pos hw,if_pos hw] at hrr
    have hln:=rows_len1 hw
    have heq:=sl_equal8 .loose st (rowsS (ldW s)) l (by omega) (by omega)
    simp (maxSteps:=1000000) (disch:=omega) only [rg,gD,simprocAttr,d3]
    refine ⟨_,hrr, ?_⟩
    simp (maxSteps:=1000000) (disch:=omega) only [rg,gD,simprocAttr,prsV]
    refine ⟨_,heq, ?_⟩
    by_cases he:rowsS (ldW s)=l
    · have hS:loadS l=(ldW s,0):=by unfold loadS; rw [hs]; simp only []; rw [if_pos ⟨hw,he⟩]
      simp (maxSteps:=1000000) (disch:=omega) only [rg,gD,simprocAttr,he,d0,d3]
      (refine fin_x rfl ?_ ?_<;>simp [pack,lo,loL,V.closed,closedL,mv_closed,hS,wdV,ldW,mv_closed dagV_closed,mv_closed rnV_closed,mv_lo dagV_lo,mv_lo rnV_lo])
    · have hS:loadS l=(zW,4):=by unfold loadS; rw [hs]; simp only []; rw [if_neg fun h => he h.2]
      simp (maxSteps:=1000000) (disch:=omega) only [rg,gD,simprocAttr,he,d0]
      (refine fin_x rfl ?_ ?_<;>simp [pack,lo,loL,V.closed,closedL,mv_closed,hS,wdV,zW,mv_nil])
end
theorem loadR_app {b:List Pr}:∀ {a:List Pr} {s s1:Ld},loadR s a=some s1→loadR s (a++b)=loadR s1 b
  | [],s,s1,h => by simp only [loadR,Option.some.injEq] at h; subst h; rfl
  | p::a,s,s1,h => by
    simp only [loadR] at h
    split at h
    · cases h
    · rename_i c
      simp only [List.cons_append,loadR]
      rw [if_neg c,loadR_app h]
def dmF (m:List (Str×Dag)) (ds:List Dag):List (Str×Dag):=ds.foldl (fun m d => sset m d.name d) m
theorem dmF_not {k:Str}:∀ {ds:List Dag} {m:List (Str×Dag)},(∀ d∈ds,d.name≠k)→sget (dmF m ds) k=sget m k
  | [],m,_ => rfl
  | d::ds,m,h => by
    show sget (dmF (sset m d.name d) ds) k=_
    rw [dmF_not fun x hx => h x (by simp [hx]),sget_sset,if_neg fun e => h d (by simp) e.symm]
theorem dmF_get {d:Dag}:∀ {ds:List Dag} {m:List (Str×Dag)},(ds.map Dag.name).Nodup→d∈ds→sget (dmF m ds) d.name=some d
  | e::ds,m,hn,h => by
    simp only [List.map_cons,List.nodup_cons] at hn
    show sget (dmF (sset m e.name e) ds) d.name=_
    rcases List.mem_cons.1 h with rfl | h
    · rw [dmF_not fun x hx e => hn.1 (List.mem_map.2 ⟨x,hx,e⟩),sget_sset,if_pos rfl]
    · exact dmF_get hn.2 h
theorem pair_d {s:Ld} {d:Dag} (hb:s.bad=false) (h:dagRightS d=0):pairS s (dagPr d)={ s with dags:=s.dags++[d],dm:=sset s.dm d.name d }:=by
  have e:=dagPut_back (show refRightS d=0 by rw [right_same]; exact h)
  show ({ s with bad:=s.bad || decide ((dagGetS (dagB d)).2≠0) || decide ((dagGetS (dagB d)).1.name≠d.name),dags:=s.dags++[(dagGetS (dagB d)).1],dm:=sset s.dm d.name (dagGetS (dagB d)).1 }:Ld)=_
  rw [e,hb]
  simp [hb]
theorem load_d:∀ {ds:List Dag} {s:Ld},s.bad=false→(∀ d∈ds,dagRightS d=0)→loadR s (ds.map dagPr)=some { s with dags:=s.dags++ds,dm:=dmF s.dm ds }
  | [],s,_,_ => by simp [loadR,dmF]
  | d::ds,s,hb,h => by
    simp only [List.map_cons,loadR]
    rw [pair_d hb (h d (by simp)),if_neg (by simp [hb]),load_d (by exact hb) fun x hx => h x (by simp [hx])]
    simp [dmF]
theorem put6_ok {n:Int} (hn:0≤n∧n≤MT):(putS n 6).2=0:=by
  have e6:(6:Int).toNat=6:=rfl
  have p6:(256:Int) ^ 6=281474976710656:=by decide
  unfold MT at hn
  rw [putS_in ⟨by omega,by omega,hn.1,by rw [e6,p6]; omega⟩]
theorem pair_m {s:Ld} {a b:Int} (hb:s.bad=false) (h1:0≤a∧a≤MT) (h2:0≤b∧b≤MT):pairS s ([109],(putS a 6).1++(putS b 6).1)={ s with now:=a,token:=b }:=by
  have l1:=put6_len h1
  have l2:=put6_len h2
  have g1:=getS_put (s:=(putS a 6).1++(putS b 6).1) (pre:=[]) (post:=(putS b 6).1) (by simp) (put6_ok h1)
  have g2:=getS_put (s:=(putS a 6).1++(putS b 6).1) (pre:=(putS a 6).1) (post:=[]) (by simp) (put6_ok h2)
  simp only [List.length_nil,Int.natCast_zero,Int.zero_add] at g1
  rw [l1] at g2
  have hl:((putS a 6).1++(putS b 6).1).length=12:=by simp [l1,l2]
  show ({ s with bad:=s.bad || decide ((getS ((putS a 6).1++(putS b 6).1) 0 6).2.2≠0) || decide ((getS ((putS a 6).1++(putS b 6).1) (min (getS ((putS a 6).1++(putS b 6).1) 0 6).2.1 ((putS a 6).1++(putS b 6).1).length) 6).2.2≠0),now:=(getS ((putS a 6).1++(putS b 6).1) 0 6).1,token:=(getS ((putS a 6).1++(putS b 6).1) (min (getS ((putS a 6).1++(putS b 6).1) 0 6).2.1 ((putS a 6).1++(putS b 6).1).length) 6).1 }:Ld)=_
  rw [g1,hl]
  simp only [show min (6:Int) ((12:Nat):Int)=((6:Nat):Int) by omega,g2,hb]
  simp [hb]
theorem load_m {w:Wd} {s:Ld} (hb:s.bad=false) (h1:0≤w.now∧w.now≤MT) (h2:0≤w.token∧w.token≤MT) (z1:s.now=0) (z2:s.token=0):loadR s (metaPr w)=some { s with now:=w.now,token:=w.token }:=by
  unfold metaPr
  split
  · simp only [loadR]
    rw [pair_m hb h1 h2,if_neg (by simp [hb])]
  · have e1:w.now=0:=by omega
    have e2:w.token=0:=by omega
    simp only [loadR,e1,e2,← z1]
    rw [z1]; cases s; simp only at z1 z2; subst z1; subst z2; rfl
def bare1 (r:Rn):Rn:={ r with states:=[] }
def amF:List (Str×Nat)→Nat→List Rn→List (Str×Nat)
  | m,_,[] => m
  | m,n,r::rs => amF (sset m r.key n) (n+1) rs
theorem amF_not {k:Str}:∀ {rs:List Rn} {m:List (Str×Nat)} {n:Nat},(∀ r∈rs,r.key≠k)→sget (amF m n rs) k=sget m k
  | [],m,_,_ => rfl
  | r::rs,m,n,h => by
    simp only [amF]
    rw [amF_not fun x hx => h x (by simp [hx]),sget_sset,if_neg fun e => h r (by simp) e.symm]
theorem amF_get:∀ {rs:List Rn} {m:List (Str×Nat)} {n j:Nat} (hj:j < rs.length),(rs.map Rn.key).Nodup→sget (amF m n rs) rs[j].key=some (n+j)
  | r::rs,m,n,0,hj,hn => by
    simp only [List.map_cons,List.nodup_cons] at hn
    simp only [amF,List.getElem_cons_zero]
    rw [amF_not fun x hx e => hn.1 (List.mem_map.2 ⟨x,hx,e⟩),sget_sset,if_pos rfl]; rfl
  | r::rs,m,n,j+1,hj,hn => by
    simp only [List.map_cons,List.nodup_cons] at hn
    simp only [amF,List.getElem_cons_succ]
    rw [amF_get (by simpa using hj) hn.2]
    congr 1; omega
theorem pair_r {s:Ld} {r:Rn} (hb:s.bad=false) (hr:RnR r) (hd:sget s.dm r.dag.name=some r.dag):pairS s (runPr r)={ s with am:=sset s.am r.key s.runs.length,runs:=s.runs++[bare1 r] }:=by
  have b1:=is_bounds hr
  have l1:=put1_len' b1
  have hnl:=dag_nl hr.dag
  have p1:(putS r.is 1).2=0:=by
    have e1:(1:Int).toNat=1:=rfl
    rw [putS_in ⟨by omega,by omega,b1.1,by rw [e1]; omega⟩]
  have g1:=getS_put (s:=(putS r.is 1).1++(textS r.dag.name).1) (pre:=[]) (post:=(textS r.dag.name).1) (by simp) p1
  have g2:=cutS_put (s:=(putS r.is 1).1++(textS r.dag.name).1) (pre:=(putS r.is 1).1) (post:=[]) (t:=r.dag.name) (by simp) (by omega)
  simp only [List.length_nil,Int.natCast_zero,Int.zero_add] at g1
  rw [l1] at g2
  have hm:min (1:Int) ((((putS r.is 1).1++(textS r.dag.name).1).length:Nat):Int)=((1:Nat):Int):=by
    rw [List.length_append,l1]; omega
  show ({ s with bad:=s.bad || decide ((getS ((putS r.is 1).1++(textS r.dag.name).1) 0 1).2.2≠0) || decide ((cutS ((putS r.is 1).1++(textS r.dag.name).1) (min (getS ((putS r.is 1).1++(textS r.dag.name).1) 0 1).2.1 ((putS r.is 1).1++(textS r.dag.name).1).length)).2.2≠0) || !(sget s.dm (cutS ((putS r.is 1).1++(textS r.dag.name).1) (min (getS ((putS r.is 1).1++(textS r.dag.name).1) 0 1).2.1 ((putS r.is 1).1++(textS r.dag.name).1).length)).1).isSome,am:=sset s.am r.key s.runs.length,runs:=s.runs++[⟨r.key,(sget s.dm (cutS ((putS r.is 1).1++(textS r.dag.name).1) (min (getS ((putS r.is 1).1++(textS r.dag.name).1) 0 1).2.1 ((putS r.is 1).1++(textS r.dag.name).1).length)).1).getD ⟨[],[]⟩,(getS ((putS r.is 1).1++(textS r.dag.name).1) 0 1).1,[]⟩] }:Ld)=_
  rw [g1]
  simp only [hm,g2,hd,hb]
  simp [hb,bare1]
theorem load_r:∀ {rs:List Rn} {s:Ld},s.bad=false→(∀ r∈rs,RnR r∧sget s.dm r.dag.name=some r.dag)→loadR s (rs.map runPr)=some { s with am:=amF s.am s.runs.length rs,runs:=s.runs++rs.map bare1 }
  | [],s,_,_ => by simp [loadR,amF]
  | r::rs,s,hb,h => by
    obtain ⟨h1,h2⟩:=h r (by simp)
    simp only [List.map_cons,loadR]
    have ih:=load_r (rs:=rs) (s:={ s with am:=sset s.am r.key s.runs.length,runs:=s.runs++[bare1 r] }) hb fun x hx => h x (by simp [hx])
    rw [pair_r hb h1 h2,if_neg (by simp [hb]),ih]
    simp [amF]
def ownK (p:Pr):Str:=p.1.tail.take (p.1.tail.length - 1)
theorem own_stt (r:Rn) (i:Nat) (s:Stt) (hi:i < 256):ownK (sttPr r i s)=r.key:=by
  have l:=put1_len hi
  show (r.key++(putS (i:Int) 1).1).take ((r.key++(putS (i:Int) 1).1).length - 1)=r.key
  simp [l]
def addS (p:Pr) (r:Rn):Rn:=if r.key=ownK p then { r with states:=r.states++[(stGetS p.2).1] } else r
theorem pushS_map {l:List Rn} {j:Nat} {p:Pr} (hj:j < l.length) (hk:l[j].key=ownK p) (hn:(l.map Rn.key).Nodup):pushS l j (stGetS p.2).1=l.map (addS p):=by
  unfold pushS
  rw [List.getElem?_eq_getElem hj]
  refine List.ext_getElem (by simp) fun i h1 h2 => ?_
  simp only [List.length_set] at h1
  rw [List.getElem_set,List.getElem_map]
  by_cases e:j=i
  · subst e
    rw [if_pos rfl,addS,if_pos hk]
  · rw [if_neg e,addS,if_neg]
    intro hk2
    have:=List.pairwise_iff_getElem.1 hn
    rcases Nat.lt_or_gt_of_ne e with c | c
    · exact this j i (by simpa using hj) (by simpa using h1) c (by simp [hk,hk2])
    · exact this i j (by simpa using h1) (by simpa using hj) c (by simp [hk,hk2])
theorem pair_t {s:Ld} {p:Pr} {r:Rn} {i:Nat} {st:Stt} {j:Nat} (hp:p=sttPr r i st) (hi:i < 256) (hb:s.bad=false) (hs:standsS st=true) (hj:j < s.runs.length) (ha:sget s.am r.key=some j) (hk:s.runs[j].key=r.key) (hn:(s.runs.map Rn.key).Nodup) :
    pairS s p={ s with runs:=s.runs.map (addS p) }:=by
  subst hp
  have l:=put1_len hi
  have ho:=own_stt r i st hi
  have hne:¬ (r.key++(putS (i:Int) 1).1)=[]:=by intro e; have:=congrArg List.length e; simp [l] at this
  have htk:(r.key++(putS (i:Int) 1).1).take ((r.key++(putS (i:Int) 1).1).length - 1)=r.key:=by simp [l]
  have hps:=pushS_map (p:=sttPr r i st) hj (hk.trans ho.symm) hn
  have hg:stGetS (stBytes st)=(st,0):=stPut_back hs
  have hps':pushS s.runs j st=s.runs.map (addS (sttPr r i st)):=by
    have e:(stGetS (sttPr r i st).2).1=st:=congrArg Prod.fst hg
    rw [e] at hps; exact hps
  show (if (r.key++(putS (i:Int) 1).1)=[] then _ else if (s.bad || decide ((stGetS (stBytes st)).2≠0) || !(sget s.am ((r.key++(putS (i:Int) 1).1).take ((r.key++(putS (i:Int) 1).1).length - 1))).isSome)=true then ({ s with bad:=true }:Ld) else { s with bad:=false,runs:=pushS s.runs ((sget s.am ((r.key++(putS (i:Int) 1).1).take ((r.key++(putS (i:Int) 1).1).length - 1))).getD 0) (stGetS (stBytes st)).1 })=_
  rw [if_neg hne,htk,ha,hg,hb]
  simp [hps',hb]
theorem addS_key (p:Pr) (r:Rn):(addS p r).key=r.key:=by unfold addS; split<;>rfl
theorem load_t:∀ {T:List Pr} {s:Ld},s.bad=false→(s.runs.map Rn.key).Nodup→(∀ p∈T,∃ r i st j,p=sttPr r i st∧i < 256∧standsS st=true∧sget s.am r.key=some j∧∃ hj:j < s.runs.length,s.runs[j].key=r.key) →
    loadR s T=some { s with runs:=s.runs.map fun r => { r with states:=r.states++(T.filter fun p => decide (r.key=ownK p)).map fun p => (stGetS p.2).1 } }
  | [],s,hb,hn,_ => by simp [loadR]
  | p::T,s,hb,hn,h => by
    obtain ⟨r,i,st,j,h1,h2,h3,h4,hj,h5⟩:=h p (by simp)
    have e:=pair_t h1 h2 hb h3 hj h4 h5 hn
    have hkk:(s.runs.map (addS p)).map Rn.key=s.runs.map Rn.key:=by simp [List.map_map,Function.comp_def,addS_key]
    have ih:=load_t (T:=T) (s:={ s with runs:=s.runs.map (addS p) }) hb (by rw [hkk]; exact hn) fun q hq => by
      obtain ⟨r,i,st,j,h1,h2,h3,h4,hj,h5⟩:=h q (by simp [hq])
      exact ⟨r,i,st,j,h1,h2,h3,h4,by simpa using hj,by simp [addS_key,h5]⟩
    simp only [loadR]
    rw [e,if_neg (by simp [hb]),ih]
    simp only [List.map_map,Option.some.injEq,Ld.mk.injEq,true_and,and_true]
    refine List.map_congr_left fun x hx => ?_
    simp only [Function.comp,addS_key,List.filter_cons]
    by_cases c:x.key=ownK p
    · simp [addS,c]
    · simp [addS,c]
theorem lt_pre (a b:Str):∀ p:Str,ltS (p++a) (p++b)=ltS a b
  | [] => rfl
  | c::p => by
    simp only [List.cons_append,ltS,Op.bytesLess]
    have:=lt_pre a b p
    simp only [ltS] at this
    simp [UInt8.lt_irrefl,this]
theorem lt_head {a b:UInt8} {l l':Str} (h:a < b):ltS (a::l) (b::l')=true:=by
  simp only [ltS,Op.bytesLess]; simp [h]
def is116 (p:Pr):Bool:=p.1.head? == some 116
theorem stts116 (r:Rn) (k:Nat):(sttsPr r k).filter is116=sttsPr r k:=List.filter_eq_self.2 fun p hp => by
  obtain ⟨i,_,rfl⟩:=sttsPr_mem.1 hp
  rfl
theorem runs_perm:∀ l:List Rn,(runsPr l).Perm (l.map runPr++(runsPr l).filter is116)
  | [] => .refl _
  | r::l => by
    have e:runsPr (r::l)=runPr r::(sttsPr r r.states.length++runsPr l):=rfl
    have e2:(runsPr (r::l)).filter is116=sttsPr r r.states.length++(runsPr l).filter is116:=by
      rw [e,List.filter_cons_of_neg (by simp [is116,runPr]),List.filter_append,stts116]
    rw [e2,e,List.map_cons,List.cons_append]
    refine List.Perm.cons _ ?_
    refine ((runs_perm l).append_left _).trans ?_
    rw [← List.append_assoc,← List.append_assoc]
    exact List.perm_append_comm.append_right _
theorem rows_split {w:Wd} (h:WR w):rowsS w=w.dags.map dagPr++(metaPr w++(w.runs.map runPr++(rowsS w).filter is116)):=by
  obtain ⟨h1,h2⟩:=rows_ok h
  have hT:∀ p∈(rowsS w).filter is116,∃ t,p.1=116::t:=fun p hp => by
    have:=(List.mem_filter.1 hp).2
    simp only [is116,beq_iff_eq] at this
    cases e:p.1 with
    | nil => rw [e] at this; cases this
    | cons c t => rw [e] at this; simp at this; exact ⟨t,by rw [this]⟩
  have hR:∀ p∈w.runs.map runPr,∃ t,p.1=114::t:=fun p hp => by
    obtain ⟨r,_,rfl⟩:=List.mem_map.1 hp; exact ⟨r.key,rfl⟩
  have hM:∀ p∈metaPr w,p.1=109::[]:=fun p hp => (meta_first hp).1
  have hD:∀ p∈w.dags.map dagPr,∃ t,p.1=100::t:=fun p hp => by
    obtain ⟨r,_,rfl⟩:=List.mem_map.1 hp; exact ⟨r.name,rfl⟩
  have pw:∀ {α:Type} {f:α→Str} {l:List α},Rise (l.map f)→l.Pairwise fun a b => ltS (f a) (f b)=true:=fun {α f l} h => by
    refine List.pairwise_iff_getElem.2 fun i j hi hj hij => ?_
    have:=rise_lt h j i (by simpa using hj) hij
    simpa using this
  refine srt_uniq h1 ?_ ?_
  · refine List.pairwise_append.2 ⟨?_,List.pairwise_append.2 ⟨?_,List.pairwise_append.2 ⟨?_,List.Pairwise.filter _ h1,fun a ha b hb => ?_⟩,fun a ha b hb => ?_⟩,fun a ha b hb => ?_⟩
    · refine List.pairwise_map.2 ((pw h.rdags).imp fun {a b} k => ?_)
      show ltS ([100]++a.name) ([100]++b.name)=true
      rw [lt_pre]; exact k
    · unfold metaPr; split<;>simp
    · refine List.pairwise_map.2 ((pw h.rruns).imp fun {a b} k => ?_)
      show ltS ([114]++a.key) ([114]++b.key)=true
      rw [lt_pre]; exact k
    · obtain ⟨t,e⟩:=hR a ha
      obtain ⟨t',e'⟩:=hT b hb
      rw [e,e']; exact lt_head (by decide)
    · rw [hM a ha]
      rcases List.mem_append.1 hb with hb | hb
      · obtain ⟨t',e'⟩:=hR b hb; rw [e']; exact lt_head (by decide)
      · obtain ⟨t',e'⟩:=hT b hb; rw [e']; exact lt_head (by decide)
    · obtain ⟨t,e⟩:=hD a ha
      rw [e]
      rcases List.mem_append.1 hb with hb | hb
      · rw [hM b hb]; exact lt_head (by decide)
      · rcases List.mem_append.1 hb with hb | hb
        · obtain ⟨t',e'⟩:=hR b hb; rw [e']; exact lt_head (by decide)
        · obtain ⟨t',e'⟩:=hT b hb; rw [e']; exact lt_head (by decide)
  · have hf:((rowsS w).filter is116).Perm ((runsPr w.runs).filter is116):=by
      refine (h2.filter _).trans ?_
      unfold rowsL
      rw [List.filter_append,List.filter_append]
      have e1:(w.dags.map dagPr).filter is116=[]:=List.filter_eq_nil_iff.2 fun p hp => by obtain ⟨t,e⟩:=hD p hp; simp [is116,e]
      have e2:(metaPr w).filter is116=[]:=List.filter_eq_nil_iff.2 fun p hp => by rw [is116,hM p hp]; simp
      rw [e1,e2]; exact .refl _
    refine h2.trans ?_
    unfold rowsL
    refine List.Perm.append_left _ (List.Perm.append_left _ ?_)
    exact (runs_perm w.runs).trans (List.Perm.append_left _ hf.symm)
theorem stts_srt (r:Rn) {k:Nat} (hk:k≤200):Srt (sttsPr r k):=by
  unfold Srt sttsPr
  refine List.pairwise_map.2 (List.pairwise_iff_getElem.2 fun i j hi hj hij => ?_)
  simp only [List.length_range] at hi hj
  simp only [List.getElem_range,sttPr]
  rw [lt_pre]
  have e:∀ n:Nat,n < 256→(putS (n:Int) 1).1=[UInt8.ofNat n]:=fun n hn => by
    rw [putS_in ⟨by omega,by omega,by omega,by rw [show (1:Int).toNat=1 from rfl]; omega⟩]
    show beS 1 n=_
    simp [beS,Nat.mod_eq_of_lt hn]
  rw [e i (by omega),e j (by omega)]
  refine lt_head ?_
  rw [UInt8.lt_iff_toNat_lt]
  simp [show i % 256=i by omega,show j % 256=j by omega]
  omega
theorem own_filter {w:Wd} (h:WR w) {r:Rn} (hr:r∈w.runs):((rowsS w).filter is116).filter (fun p => decide (r.key=ownK p))=sttsPr r r.states.length:=by
  obtain ⟨h1,h2⟩:=rows_ok h
  have hfew:=h.few
  have s1:Srt (((rowsS w).filter is116).filter (fun p => decide (r.key=ownK p))):=List.Pairwise.filter _ (List.Pairwise.filter _ h1)
  have s2:=stts_srt r (k:=r.states.length) (by have:=hfew r hr; omega)
  have nd:∀ {l:List Pr},Srt l→l.Nodup:=fun h => h.imp fun h e => by rw [e,lt_irr] at h; cases h
  refine srt_uniq s1 s2 ((List.perm_ext_iff_of_nodup (nd s1) (nd s2)).2 fun p => ?_)
  rw [List.mem_filter,List.mem_filter,h2.mem_iff,rowsL_mem,sttsPr_mem]
  simp only [decide_eq_true_eq]
  constructor
  · rintro ⟨⟨⟨d,hd,rfl⟩ | hm | ⟨r',hr',rfl | ⟨i,hi,rfl⟩⟩,h3⟩,h4⟩
    · simp [is116,dagPr] at h3
    · rw [is116,(meta_first hm).1] at h3; simp at h3
    · simp [is116,runPr] at h3
    · rw [own_stt r' i _ (by have:=hfew r' hr'; omega)] at h4
      have:r'=r:=by
        obtain ⟨a,ha,ea⟩:=List.mem_iff_getElem.1 hr
        obtain ⟨b,hb,eb⟩:=List.mem_iff_getElem.1 hr'
        have hn:=List.pairwise_iff_getElem.1 (rise_nodup h.rruns)
        have hab:a=b:=by
          rcases Nat.lt_trichotomy a b with c | c | c
          · exact absurd (by simp [runsN,ea,eb,h4]) (hn a b (by simpa [runsN] using ha) (by simpa [runsN] using hb) c)
          · exact c
          · exact absurd (by simp [runsN,ea,eb,h4]) (hn b a (by simpa [runsN] using hb) (by simpa [runsN] using ha) c)
        subst hab; exact eb.symm.trans ea
      subst this
      exact ⟨i,hi,rfl⟩
  · rintro ⟨i,hi,rfl⟩
    exact ⟨⟨.inr (.inr ⟨r,hr,.inr ⟨i,hi,rfl⟩⟩),rfl⟩,(own_stt r i _ (by have:=hfew r hr; omega)).symm⟩
theorem stts_back {r:Rn} (h:∀ s∈r.states,standsS s=true):(sttsPr r r.states.length).map (fun p => (stGetS p.2).1)=r.states:=by
  unfold sttsPr
  rw [List.map_map]
  refine List.ext_getElem (by simp) fun i h1 h2 => ?_
  rw [List.getElem_map,List.getElem_range]
  show (stGetS (stBytes (r.states.getD i zS))).1=_
  rw [List.getD_eq_getElem?_getD,List.getElem?_eq_getElem h2,Option.getD_some,stPut_back (h _ (List.getElem_mem h2))]
theorem load_rows {w:Wd} (h:WR w):loadS (rowsS w)=(w,0):=by
  have nR:=rise_nodup h.rruns
  have nD:=rise_nodup h.rdags
  have hfew:=h.few
  have a1:=load_d (ds:=w.dags) (s:=ld0) rfl h.dags
  have a2:=load_m (w:=w) (s:={ ld0 with dags:=ld0.dags++w.dags,dm:=dmF ld0.dm w.dags }) rfl h.now h.token rfl rfl
  have a3:=load_r (rs:=w.runs) (s:={ ld0 with now:=w.now,token:=w.token,dags:=ld0.dags++w.dags,dm:=dmF ld0.dm w.dags }) rfl fun r hr => ⟨(h.runs r hr).2,dmF_get nD (h.runs r hr).1⟩
  have hkeys:(w.runs.map bare1).map Rn.key=w.runs.map Rn.key:=by simp [List.map_map,Function.comp_def,bare1]
  have a4:=load_t (T:=(rowsS w).filter is116) (s:={ ld0 with now:=w.now,token:=w.token,dags:=ld0.dags++w.dags,dm:=dmF ld0.dm w.dags,am:=amF ld0.am ld0.runs.length w.runs,runs:=ld0.runs++w.runs.map bare1 }) rfl (by simp only [ld0,List.nil_append]; rw [hkeys]; exact nR) fun p hp => by
    obtain ⟨m1,m2⟩:=List.mem_filter.1 hp
    rw [(rows_ok h).2.mem_iff,rowsL_mem] at m1
    rcases m1 with ⟨d,hd,rfl⟩ | hm | ⟨r',hr',rfl | ⟨i,hi,rfl⟩⟩
    · simp [is116,dagPr] at m2
    · rw [is116,(meta_first hm).1] at m2; simp at m2
    · simp [is116,runPr] at m2
    · obtain ⟨j,hj,ej⟩:=List.mem_iff_getElem.1 hr'
      have h6:=amF_get (m:=ld0.am) (n:=ld0.runs.length) hj nR
      rw [ej] at h6
      refine ⟨r',i,_,j,rfl,by have:=hfew r' hr'; omega, ?_, ?_,by simpa [ld0] using hj,by simp [ld0,bare1,ej]⟩
      · rw [List.getD_eq_getElem?_getD,List.getElem?_eq_getElem hi,Option.getD_some]
        exact (h.runs r' hr').2.stands _ (List.getElem_mem hi)
      · rw [h6]; simp [ld0]
  have hL:loadR ld0 (rowsS w)=some { ld0 with now:=w.now,token:=w.token,dags:=w.dags,dm:=dmF ld0.dm w.dags,am:=amF ld0.am ld0.runs.length w.runs,runs:=w.runs }:=by
    rw [rows_split h,loadR_app a1,loadR_app a2,loadR_app a3,a4]
    simp only [ld0,List.nil_append,List.map_map,Option.some.injEq,Ld.mk.injEq,true_and,and_true]
    refine (List.map_congr_left fun r hr => ?_).trans (List.map_id _)
    have e2:(((rowsS w).filter is116).filter (fun p => decide (r.key=ownK p))).map (fun p => (stGetS p.2).1)=r.states:=by
      rw [own_filter h hr]; exact stts_back (h.runs r hr).2.stands
    simp only [Function.comp,bare1,List.nil_append,id]
    exact congrArg (fun x => ({ key:=r.key,dag:=r.dag,is:=r.is,states:=x }:Rn)) e2
  unfold loadS
  rw [hL]
  simp only []
  rw [if_pos ⟨h,rfl⟩]
  rfl
theorem dagB_len200 {d:Dag} (h:dagRightS d=0):(dagB d).length≤200:=by
  obtain ⟨a,_,c⟩:=dag_okn h
  have h16:=dag_nl h
  have p1:=putS_len1 d.tasks.length
  have p2:=textS_len d.name
  have hl:∀ l:List Task,(∀ t∈l,t.needs.length≤10)→(tsksB l).length≤l.length*18:=fun l => by
    induction l with
    | nil => simp [tsksB]
    | cons t l ih =>
      intro hl
      have h1:=ih fun x hx => hl x (by simp [hx])
      have h2:=tskB_len t
      have h3:=hl t (by simp)
      rw [tsksB_cons,List.length_append,List.length_cons]; omega
  have p3:=hl d.tasks c
  unfold dagB
  simp only [List.length_append]; omega
theorem pairs_small {w:Wd} (h:WR w) {p:Pr} (hp:p∈rowsS w):1≤p.1.length∧p.1.length≤18∧p.2.length≤200:=by
  rw [(rows_ok h).2.mem_iff,rowsL_mem] at hp
  rcases hp with ⟨d,hd,rfl⟩ | hm | ⟨r,hr,rfl | ⟨i,hi,rfl⟩⟩
  · have h1:=dagB_len200 (h.dags d hd)
    have h2:=dag_nl (h.dags d hd)
    simp only [dagPr,List.length_append,List.length_singleton]; omega
  · obtain ⟨e1,e2,_⟩:=meta_first hm
    have p1:=putS_len w.now 6
    have p2:=putS_len w.token 6
    rw [e1,e2,List.length_append,List.length_singleton]
    have e6:(6:Int).toNat=6:=rfl
    omega
  · have hR:=(h.runs r hr).2
    have h2:=dag_nl hR.dag
    have h3:=hR.name
    have p1:=putS_len1 r.is
    have p2:=textS_len r.dag.name
    simp only [runPr,List.length_append,List.length_singleton]; omega
  · have hR:=(h.runs r hr).2
    have h3:=hR.name
    have hs:=(standsS_iff _).1 (hR.stands _ (List.getElem_mem hi))
    have h4:=stBytes_len r.states[i]
    have h5:=put1_len (show i < 256 by have:=h.few r hr; omega)
    simp only [sttPr,List.length_append,List.length_singleton,List.getD_eq_getElem?_getD,List.getElem?_eq_getElem hi,Option.getD_some,h5]; omega
def c11:C :=
  (.seq
 (.reg false [p (.box 4 (.v 0)),
 p (.mov (.k (.bool false)))] [(1,.v 1),(2,.r 1)])
 (.seq
 (.reg false [p (.load (some 4) (.v 2)),
 p (.call true (.k (.fn 25 [] [])) [.r 0]),
 p (.store (some 4) (.v 2) (.r 0))] [(1,.v 1),(2,.v 2)])
 (.seq
 (.reg false [p (.mov (.v 1)),
 p (.mov (.v 1)),
 p (.len false (.r 0)),
 p (.mnx false (.r 0) [.k (.int .i64 300)]),
 p (.slc 2 (.r 3) none (some (.r 0)) none),
 p (.mov (.r 0))] [(1,.r 0),(2,.v 2)])
 (.seq
 (.reg false [p (.mov (.v 1)),
 p (.call true (.k (.fn 34 [] [])) [.r 0]),
 p (.mov (.r 0)),
 p (.ext (.r 0) 0),
 p (.ext (.r 1) 1),
 p (.alloc 4 (.agg [.int .i64 0,.int .i64 0,.fsl .nil 2 [],.fsl .nil 5 []])),
 p (.store (some 4) (.r 0) (.r 2)),
 p (.mov (.r 2))] [(1,.v 1),(2,.v 2),(5,.r 2),(6,.r 0)])
 (.seq
 (.seq
 (.reg false [p (.mov (.v 6)),
 p (.bin .eql (.r 0) (.k (.int .i64 0)))] [(1,.v 1),(2,.v 2),(5,.v 5),(6,.v 6),(23,.r 0)])
 (.cond (.v 23)
 (.seq
 (.reg false [p (.load (some 4) (.v 5)),
 p (.call true (.k (.fn 18 [] [])) [.r 0]),
 p (.un .not (.r 0)),
 p (.mov (.r 0)),
 ⟨.load (some 4) (.v 5),some (0,false),[]⟩,
 ⟨.call true (.k (.fn 29 [] [])) [.r 0],some (1,false),[]⟩,
 ⟨.mov (.v 1),some (2,false),[]⟩,
 ⟨.call true (.k (.fn 28 [] [])) [.r 1,.r 0],some (3,false),[]⟩,
 ⟨.un .not (.r 0),some (4,false),[]⟩,
 p (.pick (.r 5) (.k (.bool true)) (.r 0))] [(1,.v 1),(2,.v 2),(5,.v 5),(6,.v 6),(33,.r 0)])
 (.cond (.v 33)
 (.seq
 (.reg false [p (.mov (.k (.bool false)))] [(4,.r 0)])
 .ret)
 .skip))
 (.seq
 (.reg false [p (.mov (.v 6)),
 p (.bin .neq (.r 0) (.k (.int .i64 4))),
 p (.mov (.r 0)),
 ⟨.load (some 4) (.v 5),some (0,false),[]⟩,
 ⟨.build [.int .i64 0,.int .i64 0,.fsl .nil 2 [],.fsl .nil 5 []] [],some (1,false),[]⟩,
 ⟨.call true (.k (.fn 19 [] [])) [.r 1,.r 0],some (2,false),[]⟩,
 ⟨.un .not (.r 0),some (3,false),[]⟩,
 p (.pick (.r 4) (.k (.bool true)) (.r 0))] [(1,.v 1),(2,.v 2),(5,.v 5),(6,.v 6),(41,.r 0)])
 (.cond (.v 41)
 (.seq
 (.reg false [p (.mov (.k (.bool false)))] [(4,.r 0)])
 .ret)
 .skip))))
 (.seq
 (.seq
 (.reg false [p (.load (some 4) (.v 2)),
 p (.call true (.k (.fn 18 [] [])) [.r 0]),
 p (.un .not (.r 0))] [(1,.v 1),(2,.v 2),(5,.v 5),(6,.v 6),(44,.r 0)])
 (.cond (.v 44)
 (.seq
 (.reg false [p (.call true (.k (.fn 27 [] [])) []),
 p (.mov (.r 0))] [(4,.r 0)])
 .ret)
 .skip))
 (.seq
 (.reg false [p (.load (some 4) (.v 2)),
 p (.call true (.k (.fn 29 [] [])) [.r 0]),
 p (.mov (.r 0))] [(1,.v 1),(2,.v 2),(5,.v 5),(6,.v 6),(7,.r 0)])
 (.seq
 (.reg false [p (.mov (.v 7)),
 p (.call true (.k (.fn 34 [] [])) [.r 0]),
 p (.mov (.r 0)),
 p (.ext (.r 0) 0),
 p (.ext (.r 1) 1),
 p (.alloc 4 (.agg [.int .i64 0,.int .i64 0,.fsl .nil 2 [],.fsl .nil 5 []])),
 p (.store (some 4) (.r 0) (.r 2)),
 p (.mov (.r 2))] [(1,.v 1),(2,.v 2),(5,.v 5),(6,.v 6),(7,.v 7),(8,.r 2),(9,.r 0)])
 (.seq
 (.seq
 (.reg false [p (.mov (.v 9)),
 p (.bin .neq (.r 0) (.k (.int .i64 0))),
 p (.mov (.r 0)),
 ⟨.load (some 4) (.v 8),some (0,false),[]⟩,
 ⟨.load (some 4) (.v 2),some (1,false),[]⟩,
 ⟨.call true (.k (.fn 19 [] [])) [.r 1,.r 0],some (2,false),[]⟩,
 ⟨.un .not (.r 0),some (3,false),[]⟩,
 p (.pick (.r 4) (.k (.bool true)) (.r 0))] [(1,.v 1),(2,.v 2),(5,.v 5),(6,.v 6),(7,.v 7),(60,.r 0)])
 (.cond (.v 60)
 (.seq
 (.reg false [p (.mov (.k (.bool false)))] [(4,.r 0)])
 .ret)
 .skip))
 (.seq
 (.reg false [p (.call true (.k (.fn 27 [] [])) []),
 p (.mov (.r 0)),
 ⟨.mov (.v 7),some (0,true),[]⟩,
 ⟨.mov (.v 1),some (1,true),[]⟩,
 ⟨.call true (.k (.fn 28 [] [])) [.r 1,.r 0],some (2,true),[]⟩,
 ⟨.un .not (.r 0),some (3,true),[]⟩,
 ⟨.mov (.r 0),some (4,true),[]⟩,
 ⟨.mov (.v 6),some (0,false),[]⟩,
 ⟨.bin .eql (.r 0) (.k (.int .i64 0)),some (1,false),[]⟩,
 ⟨.mov (.r 0),some (2,false),[]⟩,
 ⟨.load (some 4) (.v 5),some (0,true),[]⟩,
 ⟨.load (some 4) (.v 2),some (1,true),[]⟩,
 ⟨.call true (.k (.fn 19 [] [])) [.r 1,.r 0],some (2,true),[]⟩,
 ⟨.pick (.r 3) (.r 0) (.k (.bool false)),some (6,false),[]⟩,
 ⟨.pick (.r 7) (.k (.bool true)) (.r 0),some (12,true),[]⟩,
 p (.pick (.r 13) (.r 0) (.k (.bool false))),
 p (.mov (.r 0))] [(4,.r 0)])
 .ret))))))))))
def r11:List RV:=[.t 4]
theorem en11:EnP Tryz.prog 11 77 c11 r11:=mkEnP (by kernel_rfl) Tryz.func11 (by kernel_rfl) ⟨_,rfl,by kernel_rfl,by kernel_rfl⟩
section
theorem loadR_inv:∀ {l:List Pr} {s s':Ld} {N:Nat},loadR s l=some s'→LdOk s N→LdB s→N+l.length≤1000→(∀ p∈l,p.1.length≤4611686018427387904)→LdOk s' (N+l.length)∧LdB s'
  | [],s,s',N,h,h1,h2,_,_ => by simp only [loadR,Option.some.injEq] at h; subst h; exact ⟨h1,h2⟩
  | p::l,s,s',N,h,h1,h2,h3,h4 => by
    simp only [loadR] at h
    simp only [List.length_cons] at h3 ⊢
    split at h
    · cases h
    · rename_i c
      have c':=eq_false_of_ne_true c
      have hO:LdOk s 1000:=⟨h1.am,by have:=h1.runs; omega,by have:=h1.dags; omega,fun r hr => by have:=h1.states r hr; omega⟩
      have:=loadR_inv (N:=N+1) h (pair_ok h1 p) (pair_B h2 hO (h4 p (by simp)) c') (by omega) fun q hq => h4 q (by simp [hq])
      rw [show N+(l.length+1)=N+1+l.length by omega]
      exact this
open Classical in
theorem load_cases (l:List Pr) (hl:l.length≤1000) (hp:∀ p∈l,p.1.length≤4611686018427387904):∃ x,WdM x∧((loadS l=(x,0)∧WR x∧rowsS x=l)∨(loadS l=(x,4)∧x=zW)):=by
  unfold loadS
  cases h:loadR ld0 l with
  | none => exact ⟨zW,zW_M,.inr ⟨rfl,rfl⟩⟩
  | some s =>
    obtain ⟨h1,h2⟩:=loadR_inv h ld0_ok ld0_B (by omega) hp
    have hO:LdOk s 1000:=⟨h1.am,by have:=h1.runs; omega,by have:=h1.dags; omega,fun r hr => by have:=h1.states r hr; omega⟩
    simp only []
    by_cases c:WR (ldW s)∧rowsS (ldW s)=l
    · exact ⟨ldW s,ld_M h2 hO,.inl ⟨if_pos c,c.1,c.2⟩⟩
    · exact ⟨zW,zW_M,.inr ⟨if_neg c,rfl⟩⟩
def tPrs:Ty:=.l 2 32 (.st (.cons .s (.cons .s .nil)))
theorem prs_of {vs:List V} (h:TyV tPrs vs):∃ l:List Pr,vs=[.fsl .loose 2 (mv prV l)]∧l.length≤4611686018427387904∧∀ p∈l,p.1.length≤140737488355328∧p.2.length≤140737488355328:=by
  have hr:reachBytes≤140737488355328:=by decide
  obtain ⟨l,rfl,h1,h2⟩:=list_of (e:=.st (.cons .s (.cons .s .nil))) (f:=prV) (q:=fun p:Pr => p.1.length≤140737488355328∧p.2.length≤140737488355328) (fun us hu => by
    obtain ⟨u1,w1,rfl,⟨a,rfl,ha⟩,u2,w2,rfl,⟨b,rfl,hb⟩,rfl⟩:=hu
    exact ⟨(a,b),rfl,Nat.le_trans ha hr,Nat.le_trans hb hr⟩) h
  exact ⟨l,rfl,by omega,h2⟩
open Classical in
set_option maxHeartbeats 1000000 in
theorem law_loads (a:Wd) (ha:WdA a) (l:List Pr) (hl:l.length≤4611686018427387904) (hp:∀ p∈l,p.1.length≤140737488355328∧p.2.length≤140737488355328):PCall Tryz.prog 11 [wdV a,.fsl .loose 2 (mv prV l)] (.bool true):=by
  refine en11 (by simp) (by simp [closedL,V.closed,mv_closed prV_closed,wdV_closed]) ?_
  have fa:=law_few21 a ha
  have ma:=few_M ha
  generalize fewS a=w at fa ma
  have hc:List.take (min (l.length:Int) 300).toNat (mv prV l)=mv prV (l.take 300):=by
    rw [mv_take]; congr 1
    by_cases c:l.length≤300
    · rw [List.take_of_length_le (by omega),List.take_of_length_le c]
    · rw [show (min (l.length:Int) 300).toNat=300 by omega]
  have sl:∀ a b,slSt .loose a b none=.loose:=fun _ _ => rfl
  have hPl:(l.take 300).length≤300:=by simp; omega
  have hPp:∀ p∈l.take 300,p.1.length≤140737488355328∧p.2.length≤140737488355328:=fun p h => hp p (List.mem_of_mem_take h)
  simp (maxSteps:=1000000) (disch:=omega) only [rg,gD,simprocAttr,c11,getC_wd,setC_wd]
  refine ⟨⟨rfl,rfl⟩,_,fa, ?_⟩
  simp (maxSteps:=1000000) (disch:=omega) only [rg,gD,simprocAttr,getC_wd,setC_wd,mv_len,hc,sl]
  refine ⟨⟨by omega,by omega,by omega⟩, ?_⟩
  generalize l.take 300=X at hc hPl hPp
  have hld:=rows_load .loose X (by omega) hPp
  obtain ⟨x,mx,hx⟩:=load_cases X (by omega) fun p h => by have:=(hPp p h).1; omega
  have rx:=ref_wright x mx.ok
  have rw':=ref_wright w ma.ok
  have lz:PCall Tryz.prog 19 [wdV zW,.agg [.int .i64 0,.int .i64 0,.fsl .nil 2 [],.fsl .nil 5 []]] (.bool true):=by
    have:=like_wd zW zW zW_M.L zW_M.L
    rw [decide_eq_true rfl] at this
    exact this.of_eq (by simp [loL,lo,wdV,zW,mv_nil])
  have lwx:=like_wd x w mx.L ma.L
  have lww:=like_wd w w ma.L ma.L
  rw [decide_eq_true rfl] at lww
  have sz:∀ y,setC (some 4) 0 (V.agg [V.int .i64 0,V.int .i64 0,V.fsl .nil 2 [],V.fsl .nil 5 []]) (wdV y)=some (wdV y):=fun _ => rfl
  refine ⟨_,hld, ?_⟩
  rcases hx with ⟨e1,hwx,e2⟩ | ⟨e1,e2⟩
  · rw [e1]
    rw [decide_eq_true hwx] at rx
    have rr:=ref_rows x mx hwx
    rw [e2] at rr
    have lk:=like8 .loose .loose X X (by omega) (by omega)
    rw [decide_eq_true rfl] at lk
    simp (maxSteps:=1000000) (disch:=omega) only [rg,gD,simprocAttr,sz,getC_wd]
    refine ⟨_,rx, ?_⟩
    simp (maxSteps:=1000000) (disch:=omega) only [rg,gD,simprocAttr,sz,getC_wd]
    refine ⟨_,rr, ?_⟩
    simp (maxSteps:=1000000) (disch:=omega) only [rg,gD,simprocAttr,prsV]
    refine ⟨_,lk, ?_⟩
    simp (maxSteps:=1000000) (disch:=omega) only [rg,gD,simprocAttr,getC_wd]
    refine ⟨_,rw', ?_⟩
    by_cases hw:WR w
    case neg =>
      rw [decide_eq_false hw]
      simp (maxSteps:=1000000) (disch:=omega) only [rg,gD,simprocAttr]
      refine ⟨_,law_alive21, ?_⟩
      simp (maxSteps:=1000000) (disch:=omega) only [rg,gD,simprocAttr]
      (refine fin_x rfl ?_ ?_<;>simp [pack,lo,loL,V.closed,closedL,mv_closed])
    rw [decide_eq_true hw]
    have rr2:=ref_rows w ma hw
    have hld2:=rows_load .loose (rowsS w) (rows_len1 hw) fun p hp => by have:=pairs_small hw hp; omega
    rw [load_rows hw] at hld2
    have ln:=rows_len1 hw
    have lk2:=like8 .loose .loose (rowsS w) X (by omega) (by omega)
    simp (maxSteps:=1000000) (disch:=omega) only [rg,gD,simprocAttr,getC_wd]
    refine ⟨_,rr2, ?_⟩
    simp (maxSteps:=1000000) (disch:=omega) only [rg,gD,simprocAttr,getC_wd,prsV]
    refine ⟨_,hld2, ?_⟩
    simp (maxSteps:=1000000) (disch:=omega) only [rg,gD,simprocAttr,getC_wd,sz]
    refine ⟨_,lww, ?_⟩
    simp (maxSteps:=1000000) (disch:=omega) only [rg,gD,simprocAttr,getC_wd,sz]
    refine ⟨_,law_alive21, ?_⟩
    simp (maxSteps:=1000000) (disch:=omega) only [rg,gD,simprocAttr,getC_wd,sz]
    refine ⟨_,lk2, ?_⟩
    by_cases he:rowsS w=X
    · have hxw:x=w:=rows_inj hwx hw (e2.trans he.symm)
      rw [decide_eq_true hxw] at lwx
      rw [decide_eq_true he]
      simp (maxSteps:=1000000) (disch:=omega) only [rg,gD,simprocAttr,getC_wd,sz]
      refine ⟨_,lwx, ?_⟩
      simp (maxSteps:=1000000) (disch:=omega) only [rg,gD,simprocAttr]
      (refine fin_x rfl ?_ ?_<;>simp [pack,lo,loL,V.closed,closedL,mv_closed])
    · rw [decide_eq_false he]
      simp (maxSteps:=1000000) (disch:=omega) only [rg,gD,simprocAttr]
      (refine fin_x rfl ?_ ?_<;>simp [pack,lo,loL,V.closed,closedL,mv_closed])
  · rw [e1]
    subst e2
    simp (maxSteps:=1000000) (disch:=omega) only [rg,gD,simprocAttr,sz,getC_wd]
    refine ⟨_,lz, ?_⟩
    simp (maxSteps:=1000000) (disch:=omega) only [rg,gD,simprocAttr,getC_wd]
    refine ⟨_,rw', ?_⟩
    by_cases hw:WR w
    case neg =>
      rw [decide_eq_false hw]
      simp (maxSteps:=1000000) (disch:=omega) only [rg,gD,simprocAttr]
      refine ⟨_,law_alive21, ?_⟩
      simp (maxSteps:=1000000) (disch:=omega) only [rg,gD,simprocAttr]
      (refine fin_x rfl ?_ ?_<;>simp [pack,lo,loL,V.closed,closedL,mv_closed])
    rw [decide_eq_true hw]
    have rr2:=ref_rows w ma hw
    have hld2:=rows_load .loose (rowsS w) (rows_len1 hw) fun p hp => by have:=pairs_small hw hp; omega
    rw [load_rows hw] at hld2
    have ln:=rows_len1 hw
    have lk2:=like8 .loose .loose (rowsS w) X (by omega) (by omega)
    have he:¬ rowsS w=X:=fun h => by
      rw [← h,load_rows hw] at e1
      have:=congrArg Prod.snd e1
      simp at this
    simp (maxSteps:=1000000) (disch:=omega) only [rg,gD,simprocAttr,getC_wd]
    refine ⟨_,rr2, ?_⟩
    simp (maxSteps:=1000000) (disch:=omega) only [rg,gD,simprocAttr,getC_wd,prsV]
    refine ⟨_,hld2, ?_⟩
    simp (maxSteps:=1000000) (disch:=omega) only [rg,gD,simprocAttr,getC_wd,sz]
    refine ⟨_,lww, ?_⟩
    simp (maxSteps:=1000000) (disch:=omega) only [rg,gD,simprocAttr,getC_wd,sz]
    refine ⟨_,law_alive21, ?_⟩
    simp (maxSteps:=1000000) (disch:=omega) only [rg,gD,simprocAttr,getC_wd,sz]
    refine ⟨_,lk2, ?_⟩
    rw [decide_eq_false he]
    simp (maxSteps:=1000000) (disch:=omega) only [rg,gD,simprocAttr]
    (refine fin_x rfl ?_ ?_<;>simp [pack,lo,loL,V.closed,closedL,mv_closed])
theorem row_loads (a:Wd) (ha:WdA a) (l:List Pr) (hl:l.length≤4611686018427387904) (hp:∀ p∈l,p.1.length≤140737488355328∧p.2.length≤140737488355328):PCall Tryz.prog 11 [.agg [.int .i64 a.now,.int .i64 a.token,.fsl .loose 2 (mv dagV a.dags),.fsl .loose 5 (mv rnV a.runs)],.fsl .loose 2 (mv prV l)] (.bool true) :=
  law_loads a ha l hl hp
end
end Go.Proofs.YtkdeckmglbnfbaaGreat.Ev
