/-
  Part 5 of what the proof of the statement FsckFree leans on: the evaluator, the functions in compact form, and what they answer.
-/
import Derived.Test.YtgdhbegaejmljaaGreatDoorM4
import Derived.Test.YtgdhbegaejmljaaGreatDoorProg
import Derived.KernelRfl
set_option linter.unusedSimpArgs false
set_option linter.unusedVariables false
set_option maxRecDepth 10000
namespace Go.Proofs.YtgdhbegaejmljaaGreatDoor.Ev
open Go
def natV (n:Nat):V:=.int .i64 (n:Int)
def rowV (sz:Nat):Option Nat→Nat→V
 | none,_ => .fsl .nil sz []
 | some i,n => .sl i 0 n
def RowOk (lo n:Nat) (m:Hm) (sz:Nat):Option Nat→List V→Prop
 | none,l => l=[]
 | some i,l => lo≤i∧i < n∧m i=some (.arr sz l)
theorem RowOk.keep {lo n n':Nat} {m m':Hm} {sz:Nat} {o:Option Nat} {l:List V} (h:RowOk lo n m sz o l) (hn:n≤n') (hm:∀ i,o=some i→m' i=m i):RowOk lo n' m' sz o l:=by
 cases o with
 | none => exact h
 | some i => exact ⟨h.1,Nat.lt_of_lt_of_le h.2.1 hn,(hm i rfl).trans h.2.2⟩
theorem RowOk.lt {lo n:Nat} {m:Hm} {sz:Nat} {o:Option Nat} {l:List V} (h:RowOk lo n m sz o l) {i:Nat} (e:o=some i):lo≤i∧i < n:=by subst e; exact ⟨h.1,h.2.1⟩
theorem RowOk.len0 {lo n:Nat} {m:Hm} {sz:Nat} {o:Option Nat} {l:List V} {k:Nat} (h:RowOk lo n m sz o l) (hk:k=l.length):lenO false (some (rowV sz o k))=okc True (.int .i64 (k:Int)):=by
 subst hk;cases o with
 | none => have h':l=[]:=h; subst h'; rfl
 | some i => rfl
theorem a9w {lo:Nat} {H:Hp} {sz bt:Nat} {o:Option Nat} {l:List V} {a:V} {len:Nat} {K:KI} (h:RowOk lo H.n H.m sz o l) (hlen:len=l.length) (hl:l.length≤1000000) (hb:bt≤1000)
  (k:∀ fp ds,(∀ id,appd ds H.m id=if id=H.n then some (.arr sz (l++[a])) else if o=some id then none else H.m id)→(∀ p∈ds.map (·.1),p=H.n∨o=some p)→(∀ i∈fp,o=some i)→K (.sl H.n 0 (len+1)) fp ds 1) :
  fin (appO H sz bt (rowV sz o len) (.fsl .full sz [a])) K:=by
 subst hlen;have hm:(l.length+1)*bt≤140737488355328:=Nat.le_trans (Nat.mul_le_mul (show l.length+1≤1000001 by omega) hb) (by decide);unfold appO;cases o with
 | none =>
  have h':l=[]:=h;subst h';refine ⟨⟨rfl,rfl,⟨by decide,by decide⟩,by simpa using hm⟩,k _ _ (fun id => ?_) (by simp) (by simp [fpS])⟩;by_cases e:id=H.n<;>simp [appd,upd,e]
 | some i =>
  obtain ⟨h1,h2,h3⟩:=h;simp only [rowV,h3];refine ⟨⟨rfl,trivial,trivial,Nat.le_refl _,by simpa using hm⟩,k _ _ (fun id => ?_) (by simp) (by simp [fpS])⟩;by_cases e:id=H.n
  ·subst e; simp [appd,upd]
  ·by_cases e2:id=i
   ·subst e2; simp [appd,upd,e]
   ·have e3:¬ i=id:=fun x => e2 x.symm;simp [appd,upd,e,e2,e3]
def dsOf (ids:List Nat) (m:Hm):List (Nat×Option Ob):=ids.map fun i => (i,m i)
theorem a1n {m' m:Hm} {id:Nat}:∀ {ids:List Nat},appd (dsOf ids m') m id=if id∈ids then m' id else m id
 | [] => by simp [dsOf,appd]
 | i::ids => by
  show appd (dsOf ids m') (upd m i (m' i)) id=_;rw [a1n];by_cases h:id∈ids
  ·simp [h]
  ·by_cases e:id=i
   ·subst e; simp [h,upd]
   ·simp [h,upd,e]
theorem c7f {rvs:List RV} {r:V} {σ:Sg} {H':Hp} {l:List V} {fp new:List Nat} {m m':Hm} {n k:Nat} (hl:resE σ H'.m rvs=some l) (hr:pack l=r∨a3n (pack l)=r∨lo (pack l)=r) (hk:H'.n≤n+k)
  (e:∀ id∈fp++new,m' id=H'.m id) {x:AEx} (hx:x=.norm∨x=.ret):FinA rvs (only fp m) n r (dsOf (fp++new) m') k x σ H':=by
 refine ⟨hx,⟨l,hl,hr⟩,hk,fun id => ?_⟩;rw [a1n];by_cases h:id∈fp++new
 ·rw [if_pos h]; exact .inr (e id h)
 ·rw [if_neg h]; left;have:id∉fp:=fun hh => h (List.mem_append_left _ hh);simp [only,this]
def runC (r:Rn) (o:Option Nat):V:=.agg [.str r.key,.str r.dag.name,a0n r.dag.tasks,.int .i64 r.is,rowV 5 o r.states.length]
def a4u (rs:List Rn) (os:List (Option Nat)):List V:=List.zipWith runC rs os
def ldV (s:Ld) (oD oR:Option Nat) (md ma:Nat):V:=.agg [.int .i64 s.now,.int .i64 s.token,rowV 2 oD s.dags.length,rowV 5 oR s.runs.length,.map md,.map ma,.bool s.bad]
structure Dis (oD oR:Option Nat) (os:List (Option Nat)):Prop where
 dr:∀ a,oD=some a→oR≠some a
 dl:∀ a (j:Nat),oD=some a→os[j]?≠some (some a)
 rl:∀ a (j:Nat),oR=some a→os[j]?≠some (some a)
 inj:∀ (i j:Nat) a,os[i]?=some (some a)→os[j]?=some (some a)→i=j
theorem Dis.nil:Dis none none []:=⟨by simp,by simp,by simp,by simp⟩
def idsL (oD oR:Option Nat) (os:List (Option Nat)):List Nat:=(oD::oR::os).filterMap id
structure LdR (lo n:Nat) (m:Hm) (L md ma:Nat) (s:Ld) (oD oR:Option Nat) (os:List (Option Nat)):Prop where
 box:m L=some (.arr 7 [ldV s oD oR md ma])
 md:m md=some (.mp (smV dagV s.dm))
 ma:m ma=some (.mp (smV natV s.am))
 dags:RowOk lo n m 2 oD (mv dagV s.dags)
 runs:RowOk lo n m 5 oR (a4u s.runs os)
 len:os.length=s.runs.length
 sts:∀ j (h:j < s.runs.length) (h2:j < os.length),RowOk lo n m 5 os[j] (mv sttV s.runs[j].states)
 nd:Dis oD oR os
 ids:∀ i∈idsL oD oR os,lo≤i∧i < n
theorem a0t {oD oR:Option Nat} {os:List (Option Nat)} {i:Nat}:i∈idsL oD oR os↔oD=some i∨oR=some i∨some i∈os:=by
 unfold idsL;simp only [List.mem_filterMap,List.mem_cons];constructor
 ·rintro ⟨o,h | h | h,e⟩
  ·subst h; exact .inl e
  ·subst h; exact .inr (.inl e)
  ·cases e; exact .inr (.inr h)
 ·rintro (h | h | h)
  ·exact ⟨oD,.inl rfl,h⟩
  ·exact ⟨oR,.inr (.inl rfl),h⟩
  ·exact ⟨some i,.inr (.inr h),rfl⟩
theorem LdR.congr {lo n n':Nat} {m m':Hm} {L md ma:Nat} {s:Ld} {oD oR:Option Nat} {os:List (Option Nat)} (h:LdR lo n m L md ma s oD oR os) (hn:n≤n') (hL:m' L=m L) (hd:m' md=m md) (ha:m' ma=m ma) (hi:∀ i∈idsL oD oR os,m' i=m i):LdR lo n' m' L md ma s oD oR os:=by
 refine ⟨hL.trans h.box,hd.trans h.md,ha.trans h.ma,h.dags.keep hn fun i e => hi i (a0t.2 (.inl e)),h.runs.keep hn fun i e => hi i (a0t.2 (.inr (.inl e))),h.len,fun j h1 h2 => (h.sts j h1 h2).keep hn fun i e => hi i (a0t.2 (.inr (.inr (e ▸ List.getElem_mem h2)))),h.nd,fun i hh => ?_⟩;have:=h.ids i hh; omega
theorem b0r {sz:Nat} {o:Option Nat} {k n:Nat} (h:∀ i,o=some i→i < n):(rowV sz o k).low n=true:=by
 cases o with
 | none => rfl
 | some i => simp [rowV,V.low,h i rfl]
theorem b6c {n:Nat}:∀ {l:List V},(∀ v∈l,v.low n=true)→lowL n l=true
 | [],_ => rfl
 | v::l,h => by
  have h2:lowL n l=true:=b6c (fun w hw => h w (List.mem_cons_of_mem v hw));simp only [lowL,h v (List.mem_cons_self ..),h2,Bool.and_self]
theorem d1f {β:Type} {f:β→V} {l:List (Str×β)} {n:Nat} (h:∀ b,(f b).closed=true):(Ob.mp (smV f l)).low n=true:=by
 simp only [Ob.low,smV,List.map_map,Bool.and_eq_true];refine ⟨b6c fun v hv => ?_,b6c fun v hv => ?_⟩
 ·obtain ⟨p,_,rfl⟩:=List.mem_map.1 hv; rfl
 ·obtain ⟨p,_,rfl⟩:=List.mem_map.1 hv; exact V.low_closed _ (h _)
def fpL (L md ma:Nat) (oD oR:Option Nat) (os:List (Option Nat)):List Nat:=L::md::ma::idsL oD oR os
theorem LdR.low {lo n:Nat} {m:Hm} {L md ma:Nat} {s:Ld} {oD oR:Option Nat} {os:List (Option Nat)} (h:LdR lo n m L md ma s oD oR os) (h1:L < n) (h2:md < n) (h3:ma < n) :
  ∀ id∈fpL L md ma oD oR os,id < n∧∀ o,m id=some o→o.low n=true:=by
 have hD:∀ i,oD=some i→i < n:=fun i e => (h.ids i (a0t.2 (.inl e))).2;have hR:∀ i,oR=some i→i < n:=fun i e => (h.ids i (a0t.2 (.inr (.inl e)))).2;have hS:∀ i,some i∈os→i < n:=fun i e => (h.ids i (a0t.2 (.inr (.inr e)))).2;intro id hid;simp only [fpL,List.mem_cons] at hid;rcases hid with rfl | rfl | rfl | hid
 ·refine ⟨h1,fun o e => ?_⟩;rw [h.box] at e; simp at e; subst e;simp only [Ob.low,lowL,ldV,V.low,b0r hD,b0r hR,h2,h3,decide_true,Bool.and_self]
 ·refine ⟨h2,fun o e => ?_⟩;rw [h.md] at e; simp at e; subst e; exact d1f a0s
 ·refine ⟨h3,fun o e => ?_⟩;rw [h.ma] at e; simp at e; subst e; exact d1f fun _ => rfl
 ·refine ⟨(h.ids id hid).2,fun o e => ?_⟩;rcases a0t.1 hid with rfl | rfl | hm
  ·have:=h.dags.2.2; rw [this] at e; simp at e; subst e;exact a0h _ (a0a a0s)
  ·have:=h.runs.2.2; rw [this] at e; simp at e; subst e;refine b6c fun v hv => ?_;unfold a4u at hv;obtain ⟨r,o,hr,ho,rfl⟩:∃ r o,r∈s.runs∧o∈os∧v=runC r o:=by
    obtain ⟨j,hj,rfl⟩:=List.mem_iff_getElem.1 hv;rw [List.length_zipWith] at hj;exact ⟨s.runs[j],os[j],List.getElem_mem _,List.getElem_mem _,by simp⟩
   simp only [runC,V.low,lowL,b0r (o:=o) (fun i e => hS i (e ▸ ho)),V.low_closed _ (a2k _),Bool.and_self]
  ·obtain ⟨j,hj,ej⟩:=List.mem_iff_getElem.1 hm;have hj2:j < s.runs.length:=by rw [← h.len]; exact hj
   have:=h.sts j hj2 hj;rw [ej] at this;rw [this.2.2] at e; simp at e; subst e;exact a0h _ (a0a a1z)
section
theorem a2d {fz:List Nat} {m:Hm} {i:Nat} (h:i∈fz):only fz m i=m i:=if_pos h
theorem LdR.only {lo:Nat} {H:Hp} {L md ma:Nat} {s:Ld} {oD oR:Option Nat} {os:List (Option Nat)} (h:LdR lo H.n H.m L md ma s oD oR os):LdR lo H.n (only (fpL L md ma oD oR os) H.m) L md ma s oD oR os :=
 h.congr (Nat.le_refl _) (a2d (by simp [fpL])) (a2d (by simp [fpL])) (a2d (by simp [fpL])) fun i hi => a2d (by simp [fpL,hi])
theorem LdR.ds {lo n n':Nat} {m m':Hm} {L md ma:Nat} {s:Ld} {oD oR:Option Nat} {os:List (Option Nat)} {ids:List Nat} (h:LdR lo n m' L md ma s oD oR os) (hn:n≤n') (h1:L∈ids) (h2:md∈ids) (h3:ma∈ids) (hi:∀ i∈idsL oD oR os,i∈ids):LdR lo n' (appd (dsOf ids m') m) L md ma s oD oR os :=
 h.congr hn (by rw [a1n,if_pos h1]) (by rw [a1n,if_pos h2]) (by rw [a1n,if_pos h3]) fun i k => by rw [a1n,if_pos (hi i k)]
theorem b8c {rvs:List RV} {r:V} {σ:Sg} {H':Hp} {l:List V} {fp:List Nat} {m m':Hm} {n k:Nat} (hl:resE σ H'.m rvs=some l) (hr:pack l=r∨a3n (pack l)=r∨lo (pack l)=r) (hk:H'.n≤n+k)
  (e:∀ id∈fp,m' id=H'.m id) {x:AEx} (hx:x=.norm∨x=.ret):FinA rvs (only fp m) n r (dsOf fp m') k x σ H':=by
 have:=c7f (new:=[]) (fp:=fp) (m:=m) (m':=m') (n:=n) (k:=k) hl hr hk (by simpa using e) hx;rwa [List.append_nil] at this
theorem LdR.box' {lo n n':Nat} {m m':Hm} {L md ma:Nat} {s s':Ld} {oD oR:Option Nat} {os:List (Option Nat)} (h:LdR lo n m L md ma s oD oR os) (hn:n≤n') (hb:m' L=some (.arr 7 [ldV s' oD oR md ma])) (ho:∀ i,i≠L→m' i=m i) (h1:L < lo) (d1:L≠md) (d2:L≠ma)
  (e1:s'.dags=s.dags:=by rfl) (e2:s'.runs=s.runs:=by rfl) (e3:s'.dm=s.dm:=by rfl) (e4:s'.am=s.am:=by rfl):LdR lo n' m' L md ma s' oD oR os:=by
 have q:∀ i∈idsL oD oR os,m' i=m i:=fun i hi => ho i (by have:=h.ids i hi; omega);refine ⟨hb,by rw [e3,ho md d1.symm]; exact h.md,by rw [e4,ho ma d2.symm]; exact h.ma,by rw [e1]; exact h.dags.keep hn fun i e => q i (a0t.2 (.inl e)),by rw [e2]; exact h.runs.keep hn fun i e => q i (a0t.2 (.inr (.inl e))),by rw [e2]; exact h.len, ?_,h.nd,fun i hi => by have:=h.ids i hi; omega⟩;obtain ⟨_,_,_,runs,_,_,_⟩:=s';simp only at e2;subst e2;exact fun j h1 h2 => (h.sts j h1 h2).keep hn fun i e => q i (a0t.2 (.inr (.inr (e ▸ List.getElem_mem h2))))
def kill (o:Option Nat) (m:Hm):Hm:=fun id => if o=some id then none else m id
set_option maxHeartbeats 2000000 in
theorem d0q {lo:Nat} {H:Hp} {L md ma:Nat} {s:Ld} {p:Pr} {oD oR:Option Nat} {os:List (Option Nat)} (h:LdR lo H.n H.m L md ma s oD oR os) (ok:LdOk s 100000) (hb:s.bad=false) (h1:L < lo) (h2:md < lo) (h3:ma < lo) (d1:L≠md) (d2:L≠ma) (d3:md≠ma) (hlo:lo≤H.n) (hp1:p.1.length≤140737488355328) (hp2:p.2.length≤140737488355328) :
  ∃ ds k oD' oR' os',ACall Tryz.prog 22 [.ptr L 0 0,prV p] H (fpL L md ma oD oR os) (.tup []) ds k∧((a3k s p).bad=false→LdR lo (H.n+k) (appd ds H.m) L md ma (a3k s p) oD' oR' os')∧appd ds H.m L=some (.arr 7 [ldV (a3k s p) oD' oR' md ma])∧∀ id,id < lo→id≠L→id≠md→id≠ma→appd ds H.m id=H.m id:=by
 have hlow:=h.low (by omega) (by omega) (by omega);have q:=h.only;have bx:=q.box;have e1:L≠H.n:=by omega
 have e2:md≠H.n:=by omega
 have e3:ma≠H.n:=by omega
 unfold ldV at bx;have hg:lowL H.n [.ptr L 0 0,prV p]=true:=by simp only [lowL,V.low,V.low_closed _ (a1m _),Bool.and_true,decide_eq_true_eq]; omega
 have hds:∀ (new:List Nat) (m':Hm) (k:Nat),(∀ i∈new,H.n≤i∧i < H.n+k)→∀ p∈dsOf (fpL L md ma oD oR os++new) m',p.1∈fpL L md ma oD oR os∨(H.n≤p.1∧p.1 < H.n+k):=by
  intro new m' k hk p hp;obtain ⟨i,hi,rfl⟩:=List.mem_map.1 hp;rcases List.mem_append.1 hi with hi | hi
  ·exact .inl hi
  ·exact .inr (hk i hi)
 have hds0:∀ (m':Hm) (k:Nat),∀ p∈dsOf (fpL L md ma oD oR os) m',p.1∈fpL L md ma oD oR os∨(H.n≤p.1∧p.1 < H.n+k):=by
  intro m' k p hp;obtain ⟨i,hi,rfl⟩:=List.mem_map.1 hp;exact .inl hi
 have nD1:∀ x,x < lo→¬ oD=some x:=fun x hx e => by have:=q.dags.lt e; omega
 have nD2:∀ x,H.n≤x→¬ oD=some x:=fun x hx e => by have:=q.dags.lt e; omega
 have nR1:∀ x,x < lo→¬ oR=some x:=fun x hx e => by have:=q.runs.lt e; omega
 have nR2:∀ x,H.n≤x→¬ oR=some x:=fun x hx e => by have:=q.runs.lt e; omega
 obtain ⟨key,val⟩:=p;simp only at hp1 hp2;cases key with
 | nil =>
  refine ⟨dsOf (fpL L md ma oD oR os++[]) (upd H.m L (some (.arr 7 [ldV { s with bad:=true } oD oR md ma]))),1,oD,oR,os,ena22 (by simp) hg hlow (hds _ _ _ (by simp)) ?_,fun _ => ?_, ?_, ?_⟩
  ·simp (disch:=omega) only [gG,simprocAttr,c22,prV,bx];refine b8c (l:=[]) ?_ (.inl rfl) ?_ (fun id hid => ?_) (.inr rfl)
   ·rfl
   ·exact Nat.le_refl _
   have:=(hlow id hid).1;by_cases e:id=L
   ·subst e; simp [upd,ldV]
   ·simp (disch:=omega) only [a0c,e,a2d hid,ne_eq,not_false_eq_true]
  ·refine LdR.ds (n:=H.n+1) ?_ (Nat.le_refl _) (by simp [fpL]) (by simp [fpL]) (by simp [fpL]) (fun i hi => by simp [fpL,hi]);exact LdR.box' h (by omega) (a0d ..) (fun i hi => a0c (by simpa using hi)) h1 d1 d2
  ·rw [a1n,if_pos (by simp [fpL])]; exact a0d ..
  ·intro id i1 i2 i3 i4;rw [a1n];split
   ·simp [upd,i2]
   ·rfl
 | cons c key =>
  by_cases c1:c=100
  ·subst c1;have hP:a3k s (100::key,val)={ s with bad:=s.bad || decide ((a1t val).2≠0) || decide ((a1t val).1.name≠key),dags:=s.dags++[(a1t val).1],dm:=sset s.dm key (a1t val).1 }:=rfl;obtain ⟨d,er,hr⟩:∃ d er,a1t val=(d,er):=⟨_,_,rfl⟩;have hc:=e1r val hp2;rw [hr] at hc hP;refine ⟨dsOf (fpL L md ma oD oR os++[H.n+2]) (upd (upd (upd (kill oD H.m) (H.n+2) (some (.arr 2 (mv dagV (s.dags++[d]))))) L (some (.arr 7 [ldV (a3k s (100::key,val)) (some (H.n+2)) oR md ma]))) md (some (.mp (smV dagV (sset s.dm key d))))),3,some (H.n+2),oR,os,ena22 (by simp) hg hlow (hds _ _ _ (by simp)) ?_,fun hbad => ?_, ?_, ?_⟩
   ·rw [hP];simp (disch:=omega) only [gG,simprocAttr,c22,prV,bx];refine ⟨⟨by omega,by omega⟩,by omega,_,hc, ?_⟩;have hcc:(er=0∧key=d.name)∨(er=0∧¬ d.name=key)∨¬ er=0:=by
     by_cases y:er=0
     ·by_cases x:d.name=key
      ·exact .inl ⟨y,x.symm⟩
      ·exact .inr (.inl ⟨y,x⟩)
     ·exact .inr (.inr y)
    rcases hcc with ⟨ce,rfl⟩ | ⟨ce,cn⟩ | ce
    all_goals
     simp (disch:=omega) only [gG,simprocAttr,dagP,dagV,bx,ce,hb,List.take_length];refine a9w (lo:=lo) (o:=oD) (l:=mv dagV s.dags) (q.dags.keep (by simp only []; omega) fun i e => ?_) (by rw [mv_len]) (by rw [mv_len]; exact Nat.le_trans ok.dags (by decide)) (by decide) fun fp ds hD hB hF => ?_
     ·have:=q.dags.lt e;simp (disch:=omega) only [a0c]
     rw [x_nx];refine ⟨by simp only [a0u], ?_⟩;simp only [] at hD ⊢;generalize appd ds _=m5 at hD ⊢;have a1:=hD L;have a2:=hD md;have a3:=hD (H.n+1);have a4:=hD (H.n+2);simp (disch:=omega) only [nD1,nD2,a0c,a0d,if_neg,if_true,if_false,h1,h2,Nat.le_add_right,ne_eq,not_false_eq_true,q.md] at a1 a2 a3 a4;simp (disch:=omega) only [gG,simprocAttr,a1,a2,a3,dagV];refine ⟨c9g dagV _ s.dm, ?_⟩;refine c7f (l:=[]) ?_ (.inl rfl) ?_ (fun id hid => ?_) (.inl rfl)
     ·rfl
     ·exact Nat.le_refl _
     by_cases i1:id=md
     ·subst i1;simp only [a0d];exact congrArg (fun x => some (Ob.mp x)) (d3h dagV _ d s.dm).symm
     by_cases i2:id=L
     ·subst i2
      first
       | simp (disch:=first | exact i1 | omega) only [a0d,a0c,ldV,List.length_append,List.length_singleton,rowV,Bool.or_false,Bool.or_true,Bool.false_or,Bool.true_or,ce,cn,hb,ne_eq,not_true_eq_false,not_false_eq_true,decide_true,decide_false,Bool.not_false,Bool.not_true,decide_not]
       | simp (disch:=first | exact i1 | omega) only [a0d,a0c,ldV,List.length_append,List.length_singleton,rowV,Bool.or_false,Bool.or_true,Bool.false_or,Bool.true_or,ce,hb,ne_eq,not_true_eq_false,not_false_eq_true,decide_true,decide_false,Bool.not_false,Bool.not_true,decide_not]
     by_cases i3:id=H.n+2
     ·subst i3;simp (disch:=first | exact i1 | exact i2 | omega) only [a0d,a0c,a4,mv,List.map_append,List.map_cons,List.map_nil,dagV]
     have i4:id∈fpL L md ma oD oR os:=by simpa [i3] using hid
     have i5:=(hlow id i4).1;simp (disch:=first | exact i1 | exact i2 | exact i3 | omega) only [a0c,hD,if_neg,if_false,kill,a2d i4]
   ·refine LdR.ds (n:=H.n+3) ?_ (Nat.le_refl _) (by simp [fpL]) (by simp [fpL]) (by simp [fpL]) (fun i hi => ?_)
    ·rw [hP];refine ⟨?_, ?_, ?_,⟨by omega,by omega, ?_⟩,h.runs.keep (by omega) fun i e => ?_,h.len,fun j j1 j2 => (h.sts j j1 j2).keep (by omega) fun i e => ?_,⟨?_, ?_,h.nd.rl,h.nd.inj⟩,fun i hi => ?_⟩
     ·simp (disch:=omega) only [a0c,a0d]
     ·simp (disch:=omega) only [a0c,a0d]
     ·simp (disch:=omega) only [a0c,a0d,kill,nD1 ma h3,if_neg,if_false,not_false_eq_true];exact h.ma
     ·simp (disch:=omega) only [a0c,a0d]
     ·have k0:=h.runs.lt e;have k1:¬ oD=some i:=fun x => h.nd.dr i x e;simp (disch:=omega) only [a0c,kill,k1,if_neg,if_false,not_false_eq_true]
     ·have k0:=(h.sts j j1 j2).lt e;have k1:¬ oD=some i:=fun x => h.nd.dl i j x (by rw [List.getElem?_eq_getElem j2,e]);simp (disch:=omega) only [a0c,kill,k1,if_neg,if_false,not_false_eq_true]
     ·intro a x y; cases x; exact nR2 _ (by omega) y
     ·intro a j x y; cases x; have:=h.ids _ (a0t.2 (.inr (.inr (List.mem_of_getElem? y)))); omega
     ·rcases a0t.1 hi with e | e | e
      ·cases e; omega
      ·have:=h.ids i (a0t.2 (.inr (.inl e))); omega
      ·have:=h.ids i (a0t.2 (.inr (.inr e))); omega
    ·rcases a0t.1 hi with e | e | e
     ·cases e; simp
     ·simp [fpL,a0t,e]
     ·simp [fpL,a0t,e]
   ·rw [a1n,if_pos (by simp [fpL])]; simp (disch:=omega) only [a0c,a0d]
   ·intro id i1 i2 i3 i4;rw [a1n];split
    ·simp (disch:=first | exact i2 | exact i3 | omega) only [a0c,kill,nD1 id i1,if_neg,if_false,not_false_eq_true]
    ·rfl
  by_cases c2:c=109
  ·subst c2;have x1:¬ ([109]:List UInt8)=[100]:=by decide
   obtain ⟨n1,q1,r1,hr1⟩:∃ a b c,getS val 0 6=(a,b,c):=⟨_,_,_,rfl⟩;obtain ⟨n2,q2,r2,hr2⟩:∃ a b c,getS val (min q1 val.length) 6=(a,b,c):=⟨_,_,_,rfl⟩;have hc:=a1v val 0 6 (by omega);have hc2:=a1v val (min q1 val.length) 6 (by omega);have hP:a3k s (109::key,val)={ s with bad:=s.bad || decide (r1≠0) || decide (r2≠0),now:=n1,token:=n2 }:=by
    show { s with bad:=s.bad || decide ((getS val 0 6).2.2≠0) || decide ((getS val (min (getS val 0 6).2.1 val.length) 6).2.2≠0),now:=(getS val 0 6).1,token:=(getS val (min (getS val 0 6).2.1 val.length) 6).1 }=_;rw [hr1]; simp only []; rw [hr2]
   rw [hr1] at hc;rw [hr2] at hc2;refine ⟨dsOf (fpL L md ma oD oR os) (upd H.m L (some (.arr 7 [ldV (a3k s (109::key,val)) oD oR md ma]))),1,oD,oR,os,ena22 (by simp) hg hlow (hds0 _ _) ?_,fun hbad => ?_, ?_, ?_⟩
   ·rw [hP];simp (disch:=omega) only [gG,simprocAttr,c22,prV,bx,x1];refine ⟨⟨by omega,by omega⟩,by omega,_,hc, ?_⟩;simp (disch:=omega) only [gG,simprocAttr,gV];refine ⟨_,hc2, ?_⟩;have hcc:(r1=0∧r2=0)∨(r1=0∧¬ r2=0)∨¬ r1=0:=by omega
    rcases hcc with ⟨ce,cn⟩ | ⟨ce,cn⟩ | ce
    all_goals
     simp (disch:=omega) only [gG,simprocAttr,gV,bx,hb,ce];refine b8c (l:=[]) ?_ (.inl rfl) ?_ (fun id hid => ?_) (.inl rfl)
     ·rfl
     ·exact Nat.le_refl _
     have:=(hlow id hid).1;by_cases i1:id=L
     ·subst i1
      first
       | simp only [a0d,ldV,rowV,Bool.or_false,Bool.or_true,Bool.false_or,Bool.true_or,ce,cn,hb,ne_eq,not_true_eq_false,not_false_eq_true,decide_true,decide_false,Bool.not_false,Bool.not_true,decide_not]
       | simp only [a0d,ldV,rowV,Bool.or_false,Bool.or_true,Bool.false_or,Bool.true_or,ce,hb,ne_eq,not_true_eq_false,not_false_eq_true,decide_true,decide_false,Bool.not_false,Bool.not_true,decide_not]
     ·simp (disch:=first | exact i1 | omega) only [a0c,a2d hid]
   ·refine LdR.ds (n:=H.n+1) ?_ (Nat.le_refl _) (by simp [fpL]) (by simp [fpL]) (by simp [fpL]) (fun i hi => by simp [fpL,hi]);exact LdR.box' h (by omega) (a0d ..) (fun i hi => a0c (by simpa using hi)) h1 d1 d2 (by rw [hP]) (by rw [hP]) (by rw [hP]) (by rw [hP])
   ·rw [a1n,if_pos (by simp [fpL])]; simp (disch:=omega) only [a0c,a0d]
   ·intro id i1 i2 i3 i4;rw [a1n];split
    ·simp [upd,i2]
    ·rfl
  by_cases c3:c=114
  ·subst c3;have x1:¬ ([114]:List UInt8)=[100]:=by decide
   have x2:¬ ([114]:List UInt8)=[109]:=by decide
   obtain ⟨n1,q1,r1,hr1⟩:∃ a b c,getS val 0 1=(a,b,c):=⟨_,_,_,rfl⟩;obtain ⟨n2,q2,r2,hr2⟩:∃ a b c,cutS val (min q1 val.length)=(a,b,c):=⟨_,_,_,rfl⟩;obtain ⟨g,hgd⟩:∃ g,sget s.dm n2=g:=⟨_,rfl⟩;obtain ⟨dg,hdg⟩:∃ dg,g.getD ⟨[],[]⟩=dg:=⟨_,rfl⟩;obtain ⟨tv,htv⟩:∃ tv,(g.map fun d => a0n d.tasks).getD (.fsl .nil 4 [])=tv:=⟨_,rfl⟩;have htc:tv.cell=true:=by rw [← htv]; cases g<;>rfl
   obtain ⟨gb,hgb⟩:∃ gb,g.isSome=gb:=⟨_,rfl⟩;have hc:=a1v val 0 1 (by omega);have hc2:=a8o val (min q1 val.length) (by omega);have hP:a3k s (114::key,val)={ s with bad:=s.bad || decide (r1≠0) || decide (r2≠0) || !gb,am:=sset s.am key s.runs.length,runs:=s.runs++[⟨key,dg,n1,[]⟩] }:=by
    show ({ s with bad:=s.bad || decide ((getS val 0 1).2.2≠0) || decide ((cutS val (min (getS val 0 1).2.1 val.length)).2.2≠0) || !(sget s.dm (cutS val (min (getS val 0 1).2.1 val.length)).1).isSome,am:=sset s.am key s.runs.length,runs:=s.runs++[⟨key,(sget s.dm (cutS val (min (getS val 0 1).2.1 val.length)).1).getD ⟨[],[]⟩,(getS val 0 1).1,[]⟩] }:Ld)=_;rw [hr1]; simp only []; rw [hr2]; simp only []; rw [hgd,hdg,hgb]
   rw [hr1] at hc;rw [hr2] at hc2;have hrl:s.runs.length=(a4u s.runs os).length:=by simp [a4u,h.len]
   have hm1:=q.md;have hm2:=q.ma;have hlk:mget (smV dagV s.dm) (.str n2)=g.map dagV:=by rw [c9j,hgd]
   have hmr:mres true (g.map dagV) (V.agg [V.str [],V.fsl .nil 4 []])=.tup [.agg [.str dg.name,tv],.bool gb]:=by
    rw [← hdg,← hgb,← htv]; cases g<;>rfl
   refine ⟨dsOf (fpL L md ma oD oR os++[H.n+2]) (upd (upd (upd (kill oR H.m) (H.n+2) (some (.arr 5 (a4u s.runs os++[.agg [.str key,.str dg.name,tv,.int .i64 n1,.fsl .nil 5 []]])))) L (some (.arr 7 [ldV (a3k s (114::key,val)) oD (some (H.n+2)) md ma]))) ma (some (.mp (smV natV (sset s.am key s.runs.length))))),3,oD,some (H.n+2),os++[none],ena22 (by simp) hg hlow (hds _ _ _ (by simp)) ?_,fun hbad => ?_, ?_, ?_⟩
   ·rw [hP];simp (disch:=omega) only [gG,simprocAttr,c22,prV,bx,x1,x2];refine ⟨⟨by omega,by omega⟩,by omega,_,hc, ?_⟩;simp (disch:=omega) only [gG,simprocAttr,gV];refine ⟨_,hc2, ?_⟩;simp (disch:=omega) only [gG,simprocAttr,gV,cV,bx,hm1];refine ⟨c9g dagV n2 s.dm, ?_⟩;rw [hlk,hmr];simp (disch:=omega) only [gG,simprocAttr];have hcc:(r1=0∧r2=0∧gb=true)∨(r1=0∧r2=0∧gb=false)∨(r1=0∧¬ r2=0)∨¬ r1=0:=by
     cases gb<;>simp<;>omega
    rcases hcc with ⟨ce,cn,rfl⟩ | ⟨ce,cn,rfl⟩ | ⟨ce,cn⟩ | ce
    all_goals
     first
      | simp (disch:=omega) only [gG,simprocAttr,bx,hb,ce,cn,List.take_length,hm2]
      | simp (disch:=omega) only [gG,simprocAttr,bx,hb,ce,List.take_length,hm2]
     rw [q.runs.len0 hrl];simp (disch:=omega) only [gG,simprocAttr,hm2];refine ⟨c9g natV _ s.am, ?_⟩;refine ⟨htc, ?_⟩;refine a9w (lo:=lo) (o:=oR) (l:=a4u s.runs os) (q.runs.keep (by simp only []; omega) fun i e => ?_) hrl (by rw [← hrl]; exact Nat.le_trans ok.runs (by decide)) (by decide) fun fp ds hD hB hF => ?_
     ·have:=q.runs.lt e;simp (disch:=omega) only [a0c]
     rw [x_nx];refine ⟨by simp only [a0u], ?_⟩;simp only [] at hD ⊢;generalize appd ds _=m5 at hD ⊢;have a1:=hD L;have a2:=hD ma;have a4:=hD (H.n+2);simp (disch:=omega) only [nR1,nR2,a0c,a0d,if_neg,if_true,if_false,h1,h3,Nat.le_add_right,ne_eq,not_false_eq_true] at a1 a2 a4;simp (disch:=omega) only [gG,simprocAttr,a1];refine c7f (l:=[]) ?_ (.inl rfl) ?_ (fun id hid => ?_) (.inl rfl)
     ·rfl
     ·exact Nat.le_refl _
     by_cases i1:id=ma
     ·subst i1;simp (disch:=omega) only [a0d,a0c,a2];exact congrArg (fun x => some (Ob.mp x)) (d3h natV _ _ s.am).symm
     by_cases i2:id=L
     ·subst i2
      first
       | simp (disch:=first | exact i1 | omega) only [a0d,a0c,ldV,List.length_append,List.length_singleton,rowV,Bool.or_false,Bool.or_true,Bool.false_or,Bool.true_or,ce,cn,hb,ne_eq,not_true_eq_false,not_false_eq_true,decide_true,decide_false,Bool.not_false,Bool.not_true,decide_not]
       | simp (disch:=first | exact i1 | omega) only [a0d,a0c,ldV,List.length_append,List.length_singleton,rowV,Bool.or_false,Bool.or_true,Bool.false_or,Bool.true_or,ce,hb,ne_eq,not_true_eq_false,not_false_eq_true,decide_true,decide_false,Bool.not_false,Bool.not_true,decide_not]
     by_cases i3:id=H.n+2
     ·subst i3;simp (disch:=first | exact i1 | exact i2 | omega) only [a0d,a0c,a4]
     have i4:id∈fpL L md ma oD oR os:=by simpa [i3] using hid
     have i5:=(hlow id i4).1;simp (disch:=first | exact i1 | exact i2 | exact i3 | omega) only [a0c,hD,if_neg,if_false,kill,a2d i4]
   ·have hgt:gb=true:=by
     rw [hP] at hbad;cases gb
     ·simp at hbad
     ·rfl
    subst hgt;have hgs:g=some dg:=by
     cases g with
     | none => simp at hgb
     | some d => simp at hdg; rw [hdg]
    have hmt:a4u (s.runs++[⟨key,dg,n1,[]⟩]) (os++[none])=a4u s.runs os++[.agg [.str key,.str dg.name,tv,.int .i64 n1,.fsl .nil 5 []]]:=by
     rw [← htv,hgs];unfold a4u;rw [List.zipWith_append (by rw [h.len])];rfl
    refine LdR.ds (n:=H.n+3) ?_ (Nat.le_refl _) (by simp [fpL]) (by simp [fpL]) (by simp [fpL]) (fun i hi => ?_)
    ·rw [hP];refine ⟨?_, ?_, ?_,h.dags.keep (by omega) fun i e => ?_,⟨by omega,by omega, ?_⟩,by simp [h.len],fun j j1 j2 => ?_,⟨?_, ?_, ?_, ?_⟩,fun i hi => ?_⟩
     ·simp (disch:=omega) only [a0c,a0d]
     ·simp (disch:=omega) only [a0c,a0d,kill,nR1 md h2,if_neg,if_false,not_false_eq_true];exact h.md
     ·simp (disch:=omega) only [a0c,a0d]
     ·have k0:=h.dags.lt e;have k1:¬ oR=some i:=fun x => h.nd.dr i e x;simp (disch:=omega) only [a0c,kill,k1,if_neg,if_false,not_false_eq_true]
     ·rw [hmt]; simp (disch:=omega) only [a0c,a0d]
     ·simp only [List.length_append,List.length_singleton] at j1 j2;rcases Nat.lt_or_ge j s.runs.length with j3 | j3
      ·have j4:j < os.length:=by rw [h.len]; exact j3
       rw [List.getElem_append_left j4,List.getElem_append_left j3];refine (h.sts j j3 j4).keep (by omega) fun i e => ?_;have k0:=(h.sts j j3 j4).lt e;have k1:¬ oR=some i:=fun x => h.nd.rl i j x (by rw [List.getElem?_eq_getElem j4,e]);simp (disch:=omega) only [a0c,kill,k1,if_neg,if_false,not_false_eq_true]
      ·have:j=s.runs.length:=by omega
       subst this;rw [List.getElem_append_right (by rw [h.len]; exact Nat.le_refl _),List.getElem_append_right (Nat.le_refl _)];simp [h.len];exact rfl
     ·intro a x y; cases y; exact nD2 _ (by omega) x
     ·intro a j x y;rcases Nat.lt_or_ge j os.length with j3 | j3
      ·rw [List.getElem?_append_left j3] at y; exact h.nd.dl a j x y
      ·rw [List.getElem?_append_right j3] at y;rcases h9:j - os.length with _ | _<;>rw [h9] at y<;>simp at y
     ·intro a j x y;cases x;rcases Nat.lt_or_ge j os.length with j3 | j3
      ·rw [List.getElem?_append_left j3] at y;have:=h.ids _ (a0t.2 (.inr (.inr (List.mem_of_getElem? y)))); omega
      ·rw [List.getElem?_append_right j3] at y;rcases h9:j - os.length with _ | _<;>rw [h9] at y<;>simp at y
     ·intro i j a x y;have lt:∀ {i:Nat},(os++[none])[i]?=some (some a)→os[i]?=some (some a):=by
       intro i y;rcases Nat.lt_or_ge i os.length with j3 | j3
       ·rwa [List.getElem?_append_left j3] at y
       ·rw [List.getElem?_append_right j3] at y;rcases h9:i - os.length with _ | _<;>rw [h9] at y<;>simp at y
      exact h.nd.inj i j a (lt x) (lt y)
     ·rcases a0t.1 hi with e | e | e
      ·have:=h.ids i (a0t.2 (.inl e)); omega
      ·cases e; omega
      ·have:=h.ids i (a0t.2 (.inr (.inr (by simpa using e)))); omega
    ·rcases a0t.1 hi with e | e | e
     ·simp [fpL,a0t,e]
     ·cases e; simp
     ·have e':some i∈os:=by simpa using e
      simp [fpL,a0t,e']
   ·rw [a1n,if_pos (by simp [fpL])]; simp (disch:=omega) only [a0c,a0d]
   ·intro id i1 i2 i3 i4;rw [a1n];split
    ·simp (disch:=first | exact i2 | exact i4 | omega) only [a0c,kill,nR1 id i1,if_neg,if_false,not_false_eq_true]
    ·rfl
  by_cases c4:c=116
  ·subst c4;have x1:¬ ([116]:List UInt8)=[100]:=by decide
   have x2:¬ ([116]:List UInt8)=[109]:=by decide
   have x3:¬ ([116]:List UInt8)=[114]:=by decide
   by_cases ck:key=[]
   ·subst ck;have hP:a3k s ([116],val)={ s with bad:=true }:=rfl;refine ⟨dsOf (fpL L md ma oD oR os) (upd H.m L (some (.arr 7 [ldV { s with bad:=true } oD oR md ma]))),1,oD,oR,os,ena22 (by simp) hg hlow (hds0 _ _) ?_,fun hbad => ?_, ?_, ?_⟩
    ·simp (disch:=omega) only [gG,simprocAttr,c22,prV,bx,x1,x2,x3,List.take_length];refine b8c (l:=[]) ?_ (.inl rfl) ?_ (fun id hid => ?_) (.inr rfl)
     ·rfl
     ·exact Nat.le_refl _
     have:=(hlow id hid).1;by_cases e:id=L
     ·subst e; simp [upd,ldV]
     ·simp (disch:=omega) only [a0c,e,a2d hid,ne_eq,not_false_eq_true]
    ·rw [hP] at hbad; cases hbad
    ·rw [a1n,if_pos (by simp [fpL])]; exact a0d ..
    ·intro id i1 i2 i3 i4;rw [a1n];split
     ·simp [upd,i2]
     ·rfl
   obtain ⟨st,er,hr⟩:∃ a b,a4d val=(a,b):=⟨_,_,rfl⟩;have hc:=d6w val (by omega);rw [hr] at hc;obtain ⟨g,hgd⟩:∃ g,sget s.am (key.take (key.length - 1))=g:=⟨_,rfl⟩;have hlk:mget (smV natV s.am) (.str (key.take (key.length - 1)))=g.map natV:=by rw [c9j,hgd]
   have hm2:=q.ma;obtain ⟨gi,hgi⟩:∃ gi,g.getD 0=gi:=⟨_,rfl⟩;obtain ⟨gb,hgb⟩:∃ gb,g.isSome=gb:=⟨_,rfl⟩;have hmr:mres true (g.map natV) (.int .i64 0)=.tup [.int .i64 (gi:Int),.bool gb]:=by
    rw [← hgi,← hgb]; cases g<;>rfl
   have hkl:1≤key.length:=by cases key with | nil => exact absurd rfl ck | cons _ _ => simp
   have hP:a3k s (116::key,val)=if (s.bad || decide (er≠0) || !g.isSome)=true then { s with bad:=true } else { s with bad:=false,runs:=a5h s.runs (g.getD 0) st }:=by
    show (if key=[] then _ else if (s.bad || decide ((a4d val).2≠0) || !(sget s.am (key.take (key.length - 1))).isSome)=true then ({ s with bad:=true }:Ld) else { s with bad:=false,runs:=a5h s.runs ((sget s.am (key.take (key.length - 1))).getD 0) (a4d val).1 })=_;rw [if_neg ck,hr,hgd]
   have hw:IntKind.i64.wrap ((key.length:Int) - 1)=((key.length - 1:Nat):Int):=by
    simp only [List.length_cons] at hp1;rw [show ((key.length:Int) - 1)=((key.length - 1:Nat):Int) by omega];exact a2w (by omega) (by omega)
   by_cases cb:er=0∧g.isSome=true
   ·obtain ⟨ce,cg⟩:=cb;have hge:g=some gi:=by cases g with | none => simp at cg | some x => simp at hgi; rw [hgi]
    have hgt:gb=true:=hgb.symm.trans cg;subst hgt;have hgl:gi < s.runs.length:=ok.am _ gi (by rw [hgd,hge]);have hgo:gi < os.length:=by rw [h.len]; exact hgl
    have hP2:a3k s (116::key,val)={ s with bad:=false,runs:=a5h s.runs gi st }:=by
     rw [hP,if_neg,hgi];simp [hb,ce,cg]
    have hps:a5h s.runs gi st=s.runs.set gi { s.runs[gi] with states:=s.runs[gi].states++[st] }:=by
     unfold a5h; rw [List.getElem?_eq_getElem hgl]
    obtain ⟨r,hrd⟩:∃ r,s.runs[gi]=r:=⟨_,rfl⟩;obtain ⟨o,hod⟩:∃ o,os[gi]=o:=⟨_,rfl⟩;have hst:=q.sts gi hgl hgo;have hst':=h.sts gi hgl hgo;rw [hod,hrd] at hst hst';rw [hrd] at hps;have hrm:=List.getElem_mem hgl;rw [hrd] at hrm;have hrs:=ok.states r hrm;have hru:=q.runs;have hru':=h.runs;have hnd:=h.nd;have hlen:=h.len;cases oR with
    | none =>
     have h9:a4u s.runs os=[]:=hru;have:=congrArg List.length h9;rw [a4u,List.length_zipWith,List.length_nil] at this;omega
    | some iR =>
    have hrr:=hru.2.2;have hr0:(a4u s.runs os)[gi]?=some (runC r o):=by
     unfold a4u;rw [List.getElem?_zipWith];rw [List.getElem?_eq_getElem hgl,List.getElem?_eq_getElem hgo,hrd,hod]
    have nS1:∀ x,x < lo→¬ o=some x:=fun x hx e => by have:=hst.lt e; omega
    have nS2:∀ x,H.n≤x→¬ o=some x:=fun x hx e => by have:=hst.lt e; omega
    have iR1:lo≤iR∧iR < H.n:=⟨hru.1,hru.2.1⟩;have nSR:¬ o=some iR:=fun e => hnd.rl iR gi rfl (by rw [List.getElem?_eq_getElem hgo,hod,e]);have hrs2:a4u (a5h s.runs gi st) (os.set gi (some (H.n+2)))=(a4u s.runs os).set gi (.agg [.str r.key,.str r.dag.name,a0n r.dag.tasks,.int .i64 r.is,.sl (H.n+2) 0 (r.states.length+1)]):=by
     rw [hps];unfold a4u;apply List.ext_getElem?;intro j;simp only [List.getElem?_zipWith,List.getElem?_set,List.length_set,List.length_zipWith];by_cases jg:gi=j
     ·subst jg;simp [hgl,hgo,runC,rowV];omega
     ·simp [jg]
    refine ⟨dsOf (fpL L md ma oD (some iR) os++[H.n+2]) (upd (upd (upd (kill o H.m) (H.n+2) (some (.arr 5 (mv sttV (r.states++[st]))))) iR (some (.arr 5 (a4u (a5h s.runs gi st) (os.set gi (some (H.n+2))))))) L (some (.arr 7 [ldV (a3k s (116::key,val)) oD (some iR) md ma]))),3,oD,some iR,os.set gi (some (H.n+2)),ena22 (by simp) hg hlow (hds _ _ _ (by simp)) ?_,fun hbad => ?_, ?_, ?_⟩
    ·rw [hP2];simp (disch:=omega) only [gG,simprocAttr,c22,prV,bx,x1,x2,x3,List.take_length,ck,hm2,hw];refine ⟨⟨by omega,by omega⟩,by omega,by omega,c9g natV _ s.am, ?_⟩;rw [hlk,hmr];simp (disch:=omega) only [gG,simprocAttr];refine ⟨_,hc, ?_⟩;have hrv:∀ n,rowV 5 (some iR) n=.sl iR 0 n:=fun _ => rfl;simp (disch:=omega) only [gG,simprocAttr,stV,sttV,bx,hb,ce,hrv,hrr,hr0,runC];refine ⟨by omega, ?_⟩;refine a9w (lo:=lo) (o:=o) (l:=mv sttV r.states) (hst.keep (show H.n≤H.n+2 by omega) fun i e => ?_) (by rw [mv_len]) (by rw [mv_len]; exact Nat.le_trans hrs (by decide)) (by decide) fun fp ds hD hB hF => ?_
     ·have:=hst.lt e;simp (disch:=omega) only [a0c]
     rw [x_nx];refine ⟨?_, ?_⟩
     ·have hcp:∀ (a:Nat) (b:Option Ob),(a,b)∈ds→¬ a=L:=fun a b hab e => by
       rcases hB a (List.mem_map.2 ⟨(a,b),hab,rfl⟩) with k | k
       ·simp only [] at k; omega
       ·exact nS1 a (by omega) k
      simpa [a1f,disj,nthL] using hcp
     simp only [] at hD ⊢;generalize appd ds _=m5 at hD ⊢;have a1:=hD L;have a2:=hD iR;have a4:=hD (H.n+2);simp (disch:=omega) only [nS1,nS2,nSR,a0c,a0d,if_neg,if_true,if_false,h1,h3,Nat.le_add_right,ne_eq,not_false_eq_true,hrr] at a1 a2 a4;simp (disch:=omega) only [gG,simprocAttr,a1,a2,hr0,runC];refine ⟨by omega, ?_⟩;refine c7f (l:=[]) ?_ (.inl rfl) ?_ (fun id hid => ?_) (.inl rfl)
     ·rfl
     ·exact Nat.le_refl _
     by_cases i2:id=L
     ·subst i2;simp (disch:=omega) only [a0d,a0c,ldV,rowV,a6f,a1]
     by_cases i1:id=iR
     ·subst i1;simp (disch:=omega) only [a0d,a0c,hrs2]
     by_cases i3:id=H.n+2
     ·subst i3;simp (disch:=first | exact i1 | exact i2 | omega) only [a0d,a0c,a4,mv,List.map_append,List.map_cons,List.map_nil,sttV]
     have i4:id∈fpL L md ma oD (some iR) os:=by simpa [i3] using hid
     have i5:=(hlow id i4).1;simp (disch:=first | exact i1 | exact i2 | exact i3 | omega) only [a0c,hD,if_neg,if_false,kill,a2d i4]
    ·refine LdR.ds (n:=H.n+3) ?_ (Nat.le_refl _) (by simp [fpL]) (by simp [fpL]) (by simp [fpL]) (fun i hi => ?_)
     ·rw [hP2];refine ⟨?_, ?_, ?_,h.dags.keep (by omega) fun i e => ?_,⟨iR1.1,by omega, ?_⟩, ?_,fun j j1 j2 => ?_,⟨hnd.dr, ?_, ?_, ?_⟩,fun i hi => ?_⟩
      ·exact a0d ..
      ·simp (disch:=omega) only [a0c,a0d,kill,nS1 md h2,if_neg,if_false,not_false_eq_true];exact h.md
      ·simp (disch:=omega) only [a0c,a0d,kill,nS1 ma h3,if_neg,if_false,not_false_eq_true];exact h.ma
      ·have k0:=h.dags.lt e;have k1:¬ o=some i:=fun x => hnd.dl i gi e (by rw [List.getElem?_eq_getElem hgo,hod,x]);have k2:iR≠i:=fun x => hnd.dr i e (by rw [x]);simp (disch:=omega) only [a0c,kill,k1,if_neg,if_false,not_false_eq_true]
      ·simp (disch:=omega) only [a0c,a0d]
      ·show (os.set _ _).length=(a5h _ _ _).length;rw [a6f,List.length_set,h.len]
      ·have j3:j < s.runs.length:=by have:j < (a5h s.runs gi st).length:=j1; rwa [a6f] at this
       have j4:j < os.length:=by rwa [List.length_set] at j2
       by_cases jg:j=gi
       ·subst jg;have e5:(a5h s.runs j st)[j]'j1={ r with states:=r.states++[st] }:=by simp [hps]
        have e6:(os.set j (some (H.n+2)))[j]'j2=some (H.n+2):=by simp
        show RowOk lo _ _ 5 ((os.set j (some (H.n+2)))[j]'j2) (mv sttV ((a5h s.runs j st)[j]'j1).states);rw [e5,e6];refine ⟨by omega,by omega, ?_⟩;simp (disch:=omega) only [a0c,a0d]
       ·have e5:(a5h s.runs gi st)[j]'j1=s.runs[j]:=by simp only [hps]; rw [List.getElem_set_ne (fun x => jg x.symm)]
        have e6:(os.set gi (some (H.n+2)))[j]'j2=os[j]:=by rw [List.getElem_set_ne (fun x => jg x.symm)]
        show RowOk lo _ _ 5 ((os.set gi (some (H.n+2)))[j]'j2) (mv sttV ((a5h s.runs gi st)[j]'j1).states);rw [e5,e6];refine (h.sts j j3 j4).keep (by omega) fun i e => ?_;have k0:=(h.sts j j3 j4).lt e;have k1:¬ o=some i:=fun x => jg (hnd.inj j gi i (by rw [List.getElem?_eq_getElem j4,e]) (by rw [List.getElem?_eq_getElem hgo,hod,x]));have k2:iR≠i:=fun x => hnd.rl iR j rfl (by rw [List.getElem?_eq_getElem j4,e,x]);simp (disch:=omega) only [a0c,kill,k1,if_neg,if_false,not_false_eq_true]
      ·intro a j x y;rw [List.getElem?_set] at y;split at y
       ·simp at y; have:=h.dags.lt x; omega
       ·exact hnd.dl a j x y
      ·intro a j x y;cases x;rw [List.getElem?_set] at y;split at y
       ·simp at y; omega
       ·exact hnd.rl _ j rfl y
      ·intro i j a x y;have lt:∀ {i:Nat},(os.set gi (some (H.n+2)))[i]?=some (some a)→(i=gi∧a=H.n+2)∨(i≠gi∧os[i]?=some (some a)):=by
        intro i y;rw [List.getElem?_set] at y;split at y
        ·simp at y; exact .inl ⟨by omega,y.symm⟩
        ·exact .inr ⟨by omega,y⟩
       have fr:∀ {i:Nat},os[i]?=some (some a)→a < H.n:=fun y => (h.ids a (a0t.2 (.inr (.inr (List.mem_of_getElem? y))))).2;rcases lt x with ⟨x1,x2⟩ | ⟨x1,x2⟩<;>rcases lt y with ⟨y1,y2⟩ | ⟨y1,y2⟩
       ·omega
       ·have:=fr y2; omega
       ·have:=fr x2; omega
       ·exact hnd.inj i j a x2 y2
      ·rcases a0t.1 hi with e | e | e
       ·have:=h.ids i (a0t.2 (.inl e)); omega
       ·cases e; omega
       ·rcases List.mem_or_eq_of_mem_set e with e | e
        ·have:=h.ids i (a0t.2 (.inr (.inr e))); omega
        ·cases e; omega
     ·rcases a0t.1 hi with e | e | e
      ·simp [fpL,a0t,e]
      ·cases e; simp [fpL,a0t]
      ·rcases List.mem_or_eq_of_mem_set e with e | e
       ·simp [fpL,a0t,e]
       ·cases e; simp
    ·rw [a1n,if_pos (by simp [fpL])]; exact a0d ..
    ·intro id i1 i2 i3 i4;rw [a1n];split
     ·simp (disch:=first | exact i2 | omega) only [a0c,kill,nS1 id i1,if_neg,if_false,not_false_eq_true]
     ·rfl
   ·have hP2:a3k s (116::key,val)={ s with bad:=true }:=by
     rw [hP,if_pos];rw [hb];by_cases y:er=0
     ·have:g.isSome=false:=by cases h9:g.isSome with | true => exact absurd ⟨y,h9⟩ cb | false => rfl
      simp [this]
     ·simp [y]
    rw [hP2];refine ⟨dsOf (fpL L md ma oD oR os) (upd H.m L (some (.arr 7 [ldV { s with bad:=true } oD oR md ma]))),2,oD,oR,os,ena22 (by simp) hg hlow (hds0 _ _) ?_,fun hbad => ?_, ?_, ?_⟩
    ·simp (disch:=omega) only [gG,simprocAttr,c22,prV,bx,x1,x2,x3,List.take_length,ck,hm2,hw];refine ⟨⟨by omega,by omega⟩,by omega,by omega,c9g natV _ s.am, ?_⟩;rw [hlk,hmr];simp (disch:=omega) only [gG,simprocAttr];refine ⟨_,hc, ?_⟩;have hcc:er=0∧gb=false∨¬ er=0:=by
      by_cases y:er=0
      ·exact .inl ⟨y,by cases h9:gb with | true => exact absurd ⟨y,hgb.trans h9⟩ cb | false => rfl⟩
      ·exact .inr y
     rcases hcc with ⟨ce,rfl⟩ | ce
     all_goals
      simp (disch:=omega) only [gG,simprocAttr,stV,sttV,bx,hb,ce];refine b8c (l:=[]) ?_ (.inl rfl) ?_ (fun id hid => ?_) (.inr rfl)
      ·rfl
      ·exact Nat.le_refl _
      have:=(hlow id hid).1;by_cases e:id=L
      ·subst e; simp [upd,ldV]
      ·simp (disch:=omega) only [a0c,e,a2d hid,ne_eq,not_false_eq_true]
    ·cases hbad
    ·rw [a1n,if_pos (by simp [fpL])]; exact a0d ..
    ·intro id i1 i2 i3 i4;rw [a1n];split
     ·simp [upd,i2]
     ·rfl
  have x1:¬ ([c]:List UInt8)=[100]:=by simp [c1]
  have x2:¬ ([c]:List UInt8)=[109]:=by simp [c2]
  have x3:¬ ([c]:List UInt8)=[114]:=by simp [c3]
  have x4:¬ ([c]:List UInt8)=[116]:=by simp [c4]
  have hP:a3k s (c::key,val)={ s with bad:=true }:=by
   show (if c=100 then _ else if c=109 then _ else if c=114 then _ else if c=116 then _ else ({ s with bad:=true }:Ld))=_;rw [if_neg c1,if_neg c2,if_neg c3,if_neg c4]
  rw [hP];refine ⟨dsOf (fpL L md ma oD oR os) (upd H.m L (some (.arr 7 [ldV { s with bad:=true } oD oR md ma]))),1,oD,oR,os,ena22 (by simp) hg hlow (hds0 _ _) ?_,fun hbad => ?_, ?_, ?_⟩
  ·simp (disch:=omega) only [gG,simprocAttr,c22,prV,bx,x1,x2,x3,x4];refine ⟨⟨by omega,by omega⟩,by omega, ?_⟩;refine b8c (l:=[]) ?_ (.inl rfl) ?_ (fun id hid => ?_) (.inl rfl)
   ·rfl
   ·exact Nat.le_refl _
   have:=(hlow id hid).1;by_cases e:id=L
   ·subst e; simp [upd,ldV]
   ·simp (disch:=omega) only [a0c,e,a2d hid,ne_eq,not_false_eq_true]
  ·cases hbad
  ·rw [a1n,if_pos (by simp [fpL])]; exact a0d ..
  ·intro id i1 i2 i3 i4;rw [a1n];split
   ·simp [upd,i2]
   ·rfl
end
theorem d3d (st st':St) (a b:List Pr) (ha:a.length≤100000) (hb:b.length≤100000):PCall Tryz.prog 24 [.fsl st 2 (mv prV a),.fsl st' 2 (mv prV b)] (.bool (decide (a=b))):=by
 refine en24 (by simp) (by simp [a0b,V.closed,a0a a1m]) ?_;simp (disch:=omega) only [gG,simprocAttr,c24,mv_len];by_cases c:a.length=b.length
 case neg =>
  have hne:a≠b:=fun e => c (by rw [e]);simp (disch:=omega) only [gG,simprocAttr,show ¬ (a.length:Int)=b.length by omega]
  (refine a0e rfl ?_ ?_<;>simp [pack,lo,loL,V.closed,a0b,a0a,hne])
 simp (disch:=omega) only [gG,simprocAttr,show (a.length:Int)=b.length by omega];refine x_it a.length (fun k σ H => a.take k=b.take k∧σ=[(0,.fsl st 2 (mv prV a)),(1,.fsl st' 2 (mv prV b)),(12,.int .i64 (a.length:Int)),(13,.int .i64 (k:Int))]) ⟨rfl,by simp [c]⟩ ?_;rintro T k σ ⟨n,m⟩ hkk ⟨ht,rfl⟩ hN hX hR;by_cases hk:k < a.length
 ·have hk2:k < b.length:=by omega
  have e:(a.take (k+1)=b.take (k+1))↔a[k]=b[k]:=by
   rw [List.take_succ_eq_append_getElem hk,List.take_succ_eq_append_getElem hk2,ht];exact ⟨fun h => by simpa using List.append_cancel_left h,fun h => by rw [h]⟩
  by_cases h:a[k]=b[k]
  ·simp (disch:=omega) only [gG,simprocAttr,show (k:Int) < a.length by omega,a0w hk,a0w hk2,Int.toNat_natCast,b9m,prV,d9k,decide_eq_true h];exact hN _ _ hk ⟨e.2 h,rfl⟩
  ·have hne:a≠b:=fun e => h (by simp [e]);simp (disch:=omega) only [gG,simprocAttr,show (k:Int) < a.length by omega,a0w hk,a0w hk2,Int.toNat_natCast,b9m,prV,d9k,decide_eq_false h];refine hR _ _ ?_;simp (disch:=omega) only [gG,simprocAttr]
   (refine a0e rfl ?_ ?_<;>simp [pack,lo,loL,V.closed,a0b,a0a,hne])
 ·obtain rfl:k=a.length:=by omega
  have hab:a=b:=by rw [List.take_length,c,List.take_length] at ht; exact ht
  simp (disch:=omega) only [gG,simprocAttr,Int.lt_irrefl];refine hX _ _ _ ?_;simp (disch:=omega) only [gG,simprocAttr];refine a0l ?_;simp (disch:=omega) only [gG,simprocAttr]
  (refine a0e rfl ?_ ?_<;>simp [pack,lo,loL,V.closed,a0b,a0a,hab])
def a5f:Ld→List Pr→Option Ld
 | s,[] => some s
 | s,p::l => if (a3k s p).bad=true then none else a5f (a3k s p) l
theorem b3u {p:Pr}:∀ {l:List Pr} {s s':Ld},a5f s l=some s'→a5f s (l++[p])=if (a3k s' p).bad=true then none else some (a3k s' p)
 | [],s,s',h => by simp only [a5f,Option.some.injEq] at h; subst h; simp [a5f]
 | q::l,s,s',h => by
  simp only [a5f] at h;split at h
  ·cases h
  ·rename_i c;simp only [List.cons_append,a5f];rw [if_neg c,b3u h]
theorem b5i:∀ {l:List Pr} {s:Ld} (l':List Pr),a5f s l=none→a5f s (l++l')=none
 | [],s,_,h => by simp [a5f] at h
 | q::l,s,l',h => by
  simp only [a5f] at h;simp only [List.cons_append,a5f];split
  ·rfl
  ·rename_i c;rw [if_neg c] at h;exact b5i l' h
def ldW (s:Ld):Wd:=⟨s.now,s.token,s.dags,s.runs⟩
structure LdB (s:Ld):Prop where
 dags:∀ d∈s.dags,a5v d
 dm:∀ k d,sget s.dm k=some d→a5v d
 runs:∀ r∈s.runs,RnOk r∧a5v r.dag
theorem e5a:LdB ld0:=⟨by simp [ld0],by simp [ld0,sget],by simp [ld0]⟩
theorem c4y {v:Str} (h:(a1t v).2=0):a5v (a1t v).1:=by
 have h1:=(c0i h).1;rw [a3x] at h1;obtain ⟨a,b,c⟩:=b5v h1;exact ⟨by omega,fun t ht => by have:=c t ht; omega⟩
theorem d8f {s:Ld} {p:Pr} (h:LdB s) (ok:LdOk s 100000) (hk:p.1.length≤4611686018427387904) (hb:(a3k s p).bad=false):LdB (a3k s p):=by
 obtain ⟨key,val⟩:=p;have hk:key.length≤4611686018427387904:=hk;cases key with
 | nil => cases hb
 | cons c rest =>
 unfold a3k at hb ⊢;simp only [] at hb ⊢;by_cases c1:c=100
 ·rw [if_pos c1] at hb ⊢;simp only [Bool.or_eq_false_iff,decide_eq_false_iff_not,ne_eq,Decidable.not_not] at hb;have hd:=c4y hb.1.2;refine ⟨fun d hdm => ?_,fun k d hkd => ?_,h.runs⟩
  ·rcases List.mem_append.1 hdm with x | x
   ·exact h.dags d x
   ·simp at x; subst x; exact hd
  ·have hkd':sget (sset s.dm rest (a1t val).1) k=some d:=hkd;rw [b1e] at hkd';split at hkd'
   ·cases hkd'; exact hd
   ·exact h.dm k d hkd'
 rw [if_neg c1] at hb ⊢;by_cases c2:c=109
 ·rw [if_pos c2] at hb ⊢;exact ⟨h.dags,h.dm,h.runs⟩
 rw [if_neg c2] at hb ⊢;by_cases c3:c=114
 ·rw [if_pos c3] at hb ⊢;simp only [Bool.or_eq_false_iff,decide_eq_false_iff_not,ne_eq,Decidable.not_not,Bool.not_eq_false'] at hb;refine ⟨h.dags,h.dm,fun r hr => ?_⟩;rcases List.mem_append.1 hr with x | x
  ·exact h.runs r x
  ·simp at x; subst x;obtain ⟨d,hd⟩:=Option.isSome_iff_exists.1 hb.2;have:=h.dm _ d hd;rw [hd];simp only [List.length_cons] at hk;exact ⟨⟨by simp only []; omega,this.2,this.1,by simp,by simp⟩,this⟩
 rw [if_neg c3] at hb ⊢;by_cases c4:c=116
 ·rw [if_pos c4] at hb ⊢;split at hb
  ·cases hb
  rename_i ck;rw [if_neg ck];split at hb
  ·cases hb
  rename_i cb;rw [if_neg cb];simp only [Bool.or_eq_true,decide_eq_true_eq,not_or,ne_eq,Decidable.not_not] at cb;have hst:=(a5s _).1 (d6s cb.1.2);refine ⟨h.dags,h.dm,fun r hr => ?_⟩;rcases b8e hr with x | ⟨q,hq,rfl⟩
  ·exact h.runs r x
  ·obtain ⟨a,b⟩:=h.runs q hq;refine ⟨⟨a.key,a.needs,a.tasks, ?_,fun x hx => ?_⟩,b⟩
   ·have:=ok.states q hq; simp; omega
   ·rcases List.mem_append.1 hx with y | y
    ·exact a.results x y
    ·simp at y; subst y; have:=hst; omega
 ·rw [if_neg c4] at hb; cases hb
theorem ld_M {s:Ld} (h:LdB s) (ok:LdOk s 100000):WdM (ldW s) :=
 ⟨⟨ok.dags,ok.runs,h.dags,fun r hr => (h.runs r hr).1⟩,fun r hr => ⟨(h.runs r hr).2,by have:=ok.states r hr; omega⟩⟩
theorem d6a {n id sz len:Nat} {m:Hm} {l l':List V} (h:m id=some (.arr sz l)) (hl:len=l.length) (hm:mapO (snap n m) l=some l'):snap (n+1) m (.sl id 0 len)=some (.fsl .loose sz l'):=by
 subst hl;simp [snap,V.closed,h,hm]
theorem c7k {n:Nat} {m:Hm} {l:List V} (hc:a0b l=false) (hm:mapO (snap n m) l=none):snap (n+1) m (.agg l)=none:=by simp [snap,V.closed,hc,hm]
def stO:Option Nat→St
 | none => .nil
 | some _ => .loose
theorem a6r {k lo n:Nat} {m:Hm} {sz len:Nat} {o:Option Nat} {l:List V} {fz:List Nat} (h:RowOk lo n m sz o l) (hc:a0b l=true) (hf:∀ i,o=some i→i∈fz) (hl:len=l.length):snap (k+1) (only fz m) (rowV sz o len)=some (.fsl (stO o) sz l):=by
 cases o with
 | none =>
  have h':l=[]:=h;subst h';exact a1k rfl
 | some i =>
  exact a6g (by rw [a2d (hf i rfl)]; exact h.2.2) hc hl
def runD (r:Rn) (o:Option Nat):V:=.agg [.str r.key,.str r.dag.name,a0n r.dag.tasks,.int .i64 r.is,.fsl (stO o) 5 (mv sttV r.states)]
theorem d7r {k lo n:Nat} {m:Hm} {r:Rn} {o:Option Nat} {fz:List Nat} (h:RowOk lo n m 5 o (mv sttV r.states)) (hf:∀ i,o=some i→i∈fz):snap (k+2) (only fz m) (runC r o)=some (runD r o) :=
 a8w (a3o (a1k rfl) (a3o (a1k rfl) (a3o (a1k (a2k _)) (a3o (a1k rfl) (a3o (a6r h (a0a a1z) hf mv_len.symm) rfl)))))
theorem b8v {k lo n:Nat} {m:Hm} {fz:List Nat}:∀ {rs:List Rn} {os:List (Option Nat)},os.length=rs.length→(∀ j (h:j < rs.length) (h2:j < os.length),RowOk lo n m 5 os[j] (mv sttV rs[j].states))→(∀ i,some i∈os→i∈fz)→mapO (snap (k+2) (only fz m)) (a4u rs os)=some (List.zipWith runD rs os)
 | [],[],_,_,_ => rfl
 | r::rs,o::os,hl,hs,hf => by
  refine a3o (d7r (hs 0 (by simp) (by simp)) fun i e => hf i (by simp [e])) ?_;exact b8v (by simpa using hl) (fun j h h2 => hs (j+1) (by simp; omega) (by simp; omega)) fun i hi => hf i (by simp [hi])
 | [],_::_,hl,_,_ => by simp at hl
 | _::_,[],hl,_,_ => by simp at hl
theorem e3j (r:Rn) (o:Option Nat):lo (runD r o)=rnV r:=by simp [runD,rnV,lo,loL,b3e,a3e c6w,a1q]
theorem c2d:∀ {rs:List Rn} {os:List (Option Nat)},os.length=rs.length→loL (List.zipWith runD rs os)=mv rnV rs
 | [],[],_ => rfl
 | r::rs,o::os,hl => by
  have:=c2d (rs:=rs) (os:=os) (by simpa using hl);simp only [List.zipWith_cons_cons,loL,e3j,this]; rfl
 | [],_::_,hl => by simp at hl
 | _::_,[],hl => by simp at hl
theorem b9h {lo n:Nat} {m:Hm} {L md ma:Nat} {s:Ld} {oD oR:Option Nat} {os:List (Option Nat)} {fz:List Nat} (h:LdR lo n m L md ma s oD oR os) (hf:∀ i∈idsL oD oR os,i∈fz):snap 3 (only fz m) (rowV 5 oR s.runs.length)=some (.fsl (stO oR) 5 (List.zipWith runD s.runs os)):=by
 have hm:=b8v (k:=0) h.len h.sts fun i hi => hf i (a0t.2 (.inr (.inr hi)));have hl:s.runs.length=(a4u s.runs os).length:=by simp [a4u,h.len]
 have h0:=h.runs;cases oR with
 | none =>
  have e:a4u s.runs os=[]:=h0;have e2:s.runs.length=0:=by rw [hl,e]; rfl
  have e3:s.runs=[]:=List.length_eq_zero_iff.1 e2;rw [e3];exact a1k rfl
 | some i =>
  have e:=h0.2.2;have hi:=hf i (a0t.2 (.inr (.inl rfl)));exact d6a (by rw [a2d hi]; exact e) hl hm
theorem e5u {lo n:Nat} {m:Hm} {L md ma:Nat} {s:Ld} {oD oR:Option Nat} {os:List (Option Nat)} {fz:List Nat} (h:LdR lo n m L md ma s oD oR os) (hf:∀ i∈idsL oD oR os,i∈fz) :
  frzV fz m (ldV s oD oR md ma)=.agg [.int .i64 s.now,.int .i64 s.token,.fsl (stO oD) 2 (mv dagV s.dags),.fsl (stO oR) 5 (List.zipWith runD s.runs os),.map md,.map ma,.bool s.bad]:=by
 have h1:=a6r (k:=2) h.dags (a0a a0s) (fun i e => hf i (a0t.2 (.inl e))) mv_len.symm;have h2:=b9h h hf;have hb:snap 4 (only fz m) (ldV s oD oR md ma)=none:=by
  have:=c0q (f:=snap 3 (only fz m)) (a:=[.int .i64 s.now,.int .i64 s.token,rowV 2 oD s.dags.length,rowV 5 oR s.runs.length]) (b:=[.map ma,.bool s.bad]) (v:=.map md) (by simp [snap,V.closed]);simp only [List.cons_append,List.nil_append] at this;exact c7k (by simp [a0b,V.closed]) this
 have c:∀ v:V,v.closed=true→frz1 fz m v=v:=fun v hv => by simp only [frz1,a1k hv]
 have hmp:∀ i,frz1 fz m (.map i)=.map i:=fun i => by simp [frz1,snap,V.closed]
 unfold frzV;rw [hb];simp only [ldV,List.map_cons,List.map_nil,hmp,c (.int .i64 _) rfl,c (.bool _) rfl];have f1:frz1 fz m (rowV 2 oD s.dags.length)=.fsl (stO oD) 2 (mv dagV s.dags):=by simp only [frz1,h1]
 have f2:frz1 fz m (rowV 5 oR s.runs.length)=.fsl (stO oR) 5 (List.zipWith runD s.runs os):=by simp only [frz1,h2]
 rw [f1,f2]
theorem e7r {s:Ld} {os:List (Option Nat)} {oD oR:Option Nat} {md ma:Nat} (h:os.length=s.runs.length) :
  lo (.agg [.int .i64 s.now,.int .i64 s.token,.fsl (stO oD) 2 (mv dagV s.dags),.fsl (stO oR) 5 (List.zipWith runD s.runs os),.map md,.map ma,.bool s.bad])=.agg [.int .i64 s.now,.int .i64 s.token,.fsl .loose 2 (mv dagV s.dags),.fsl .loose 5 (mv rnV s.runs),.map md,.map ma,.bool s.bad]:=by
 simp only [lo,loL,a3e b5j,c2d h]
section
open Go Go.RowKit
theorem d9x (s:Str):(numR s 0 0 1).1≤255:=by
 rw [numR,if_neg (by simp)];rcases a3v s 0 1 with (h | h) | ⟨_,_,_,_,h⟩
 ·rw [h]; decide
 ·rw [h]; decide
 ·rw [h];have:=a7t s 0 1;simp at this ⊢; omega
theorem c6a (s:Str) (a:Int):(cutS s a).1.length≤s.length:=by
 unfold cutS;simp only [];split
 ·simp
 ·split
  ·simp
  ·simp; omega
theorem c2o (s:Str) (a e:Int):(txtR s a e).1.length≤s.length:=by
 unfold txtR;split
 ·simp
 ·exact c6a s a
def ndO (lf:Bool) (oK oV oI:Option Nat) (nk nv ni:Nat):Ob:=.arr 4 [.agg [.bool lf,rowV 1 oK nk,rowV 1 oV nv,rowV 1 oI ni]]
structure NdSt (body:Str) (lf:Bool) (n:Nat) (m:Hm) (a e:Int) (ks vs:List Str) (kd:List Int) (oK oV oI:Option Nat):Prop where
 n3:3≤n
 m0:m 0=some (.arr 4 [.agg [.bool false,.fsl .nil 1 [],.fsl .nil 1 [],.fsl .nil 1 []]])
 m1:m 1=some (rdO body a e)
 m2:m 2=some (ndO lf oK oV oI ks.length vs.length kd.length)
 rk:RowOk 3 n m 1 oK (vS ks)
 rv:RowOk 3 n m 1 oV (vS vs)
 ri:RowOk 3 n m 1 oI (vI kd)
 dkv:∀ j,oK=some j→oV≠some j
 dki:∀ j,oK=some j→oI≠some j
 dvi:∀ j,oV=some j→oI≠some j
 bk:∀ s∈ks,s.length≤body.length
 bv':∀ s∈vs,s.length≤body.length
section
variable {body:Str} {lf:Bool} {n:Nat} {m m5:Hm} {a e a' e':Int} {ks vs:List Str} {kd:List Int} {oK oV oI:Option Nat}
theorem NdSt.read (h:NdSt body lf n m a e ks vs kd oK oV oI):NdSt body lf n (upd m 1 (some (rdO body a' e'))) a' e' ks vs kd oK oV oI:=by
 have k:∀ i,3≤i→upd m 1 (some (rdO body a' e')) i=m i:=fun i hi => a0c (by omega);exact ⟨h.n3,by simp [upd,h.m0],a0d,by simp [upd,h.m2],h.rk.keep (Nat.le_refl _) fun i e => k i (h.rk.lt e).1,h.rv.keep (Nat.le_refl _) fun i e => k i (h.rv.lt e).1,h.ri.keep (Nat.le_refl _) fun i e => k i (h.ri.lt e).1,h.dkv,h.dki,h.dvi,h.bk,h.bv'⟩
theorem NdSt.pushK {s:Str} (h:NdSt body lf n m a e ks vs kd oK oV oI) (hs:s.length≤body.length) (hD:∀ id,m5 id=if id=n then some (.arr 1 (vS ks++[.str s])) else if oK=some id then none else m id) :
  NdSt body lf (n+1) (upd m5 2 (some (.arr 4 [.agg [.bool lf,.sl n 0 (ks.length+1),rowV 1 oV vs.length,rowV 1 oI kd.length]]))) a e (ks++[s]) vs kd (some n) oV oI:=by
 have n3:=h.n3;have k:∀ i,i < n→i≠2→oK≠some i→upd m5 2 (some (.arr 4 [.agg [.bool lf,.sl n 0 (ks.length+1),rowV 1 oV vs.length,rowV 1 oI kd.length]])) i=m i:=fun i h1 h2 h3 => by
  rw [a0c h2,hD,if_neg (by omega),if_neg h3]
 have l3:∀ i,i < 3→oK≠some i:=fun i hi e => by have:=h.rk.lt e; omega
 refine ⟨by omega,by rw [k 0 (by omega) (by omega) (l3 0 (by omega)),h.m0],by rw [k 1 (by omega) (by omega) (l3 1 (by omega)),h.m1],by rw [a0d]; simp only [ndO,List.length_append,List.length_singleton]; rfl, ?_,h.rv.keep (by omega) fun i e => ?_,h.ri.keep (by omega) fun i e => ?_,fun j e e2 => ?_,fun j e e2 => ?_,h.dvi, ?_,h.bv'⟩
 ·refine ⟨n3,by omega, ?_⟩;rw [a0c (by omega),hD,if_pos rfl]; simp [vS,d1o,mv]
 ·have:=h.rv.lt e;exact k i this.2 (by omega) fun e2 => h.dkv i e2 e
 ·have:=h.ri.lt e;exact k i this.2 (by omega) fun e2 => h.dki i e2 e
 ·cases e; have:=h.rv.lt e2; omega
 ·cases e; have:=h.ri.lt e2; omega
 ·intro t ht;rcases List.mem_append.1 ht with ht | ht
  ·exact h.bk t ht
  ·simp at ht; subst ht; exact hs
theorem NdSt.pushV {s:Str} (h:NdSt body lf n m a e ks vs kd oK oV oI) (hs:s.length≤body.length) (hD:∀ id,m5 id=if id=n then some (.arr 1 (vS vs++[.str s])) else if oV=some id then none else m id) :
  NdSt body lf (n+1) (upd m5 2 (some (.arr 4 [.agg [.bool lf,rowV 1 oK ks.length,.sl n 0 (vs.length+1),rowV 1 oI kd.length]]))) a e ks (vs++[s]) kd oK (some n) oI:=by
 have n3:=h.n3;have k:∀ i,i < n→i≠2→oV≠some i→upd m5 2 (some (.arr 4 [.agg [.bool lf,rowV 1 oK ks.length,.sl n 0 (vs.length+1),rowV 1 oI kd.length]])) i=m i:=fun i h1 h2 h3 => by
  rw [a0c h2,hD,if_neg (by omega),if_neg h3]
 have l3:∀ i,i < 3→oV≠some i:=fun i hi e => by have:=h.rv.lt e; omega
 refine ⟨by omega,by rw [k 0 (by omega) (by omega) (l3 0 (by omega)),h.m0],by rw [k 1 (by omega) (by omega) (l3 1 (by omega)),h.m1],by rw [a0d]; simp only [ndO,List.length_append,List.length_singleton]; rfl,h.rk.keep (by omega) fun i e => ?_, ?_,h.ri.keep (by omega) fun i e => ?_,fun j e e2 => ?_,h.dki,fun j e e2 => ?_,h.bk, ?_⟩
 ·have:=h.rk.lt e;exact k i this.2 (by omega) fun e2 => h.dkv i e e2
 ·refine ⟨n3,by omega, ?_⟩;rw [a0c (by omega),hD,if_pos rfl]; simp [vS,d1o,mv]
 ·have:=h.ri.lt e;exact k i this.2 (by omega) fun e2 => h.dvi i e2 e
 ·cases e2; have:=h.rk.lt e; omega
 ·cases e; have:=h.ri.lt e2; omega
 ·intro t ht;rcases List.mem_append.1 ht with ht | ht
  ·exact h.bv' t ht
  ·simp at ht; subst ht; exact hs
theorem NdSt.pushI {s:Int} (h:NdSt body lf n m a e ks vs kd oK oV oI) (hD:∀ id,m5 id=if id=n then some (.arr 1 (vI kd++[.int .i64 s])) else if oI=some id then none else m id) :
  NdSt body lf (n+1) (upd m5 2 (some (.arr 4 [.agg [.bool lf,rowV 1 oK ks.length,rowV 1 oV vs.length,.sl n 0 (kd.length+1)]]))) a e ks vs (kd++[s]) oK oV (some n):=by
 have n3:=h.n3;have k:∀ i,i < n→i≠2→oI≠some i→upd m5 2 (some (.arr 4 [.agg [.bool lf,rowV 1 oK ks.length,rowV 1 oV vs.length,.sl n 0 (kd.length+1)]])) i=m i:=fun i h1 h2 h3 => by
  rw [a0c h2,hD,if_neg (by omega),if_neg h3]
 have l3:∀ i,i < 3→oI≠some i:=fun i hi e => by have:=h.ri.lt e; omega
 refine ⟨by omega,by rw [k 0 (by omega) (by omega) (l3 0 (by omega)),h.m0],by rw [k 1 (by omega) (by omega) (l3 1 (by omega)),h.m1],by rw [a0d]; simp only [ndO,List.length_append,List.length_singleton]; rfl,h.rk.keep (by omega) fun i e => ?_,h.rv.keep (by omega) fun i e => ?_, ?_,h.dkv,fun j e e2 => ?_,fun j e e2 => ?_,h.bk,h.bv'⟩
 ·have:=h.rk.lt e;exact k i this.2 (by omega) fun e2 => h.dki i e e2
 ·have:=h.rv.lt e;exact k i this.2 (by omega) fun e2 => h.dvi i e e2
 ·refine ⟨n3,by omega, ?_⟩;rw [a0c (by omega),hD,if_pos rfl]; simp [vI,d1o,mv]
 ·cases e2; have:=h.rk.lt e; omega
 ·cases e2; have:=h.rv.lt e; omega
end
section
variable {body:Str} {lf:Bool} {n:Nat} {m:Hm} {a e:Int} {ks vs:List Str} {kd:List Int} {oK oV oI:Option Nat}
theorem e0x {σ:Sg} {K:List V→Hp→Prop} (hl:body.length≤1000000) (h:NdSt body lf n m a e ks vs kd oK oV oI) (hk:ks.length≤100000) (hσ:find 7 σ=some (.ptr 2 0 0))
  (k:∀ env m' a' e' s,NdSt body lf (n+1) m' a' e' (ks++[s]) vs kd (some n) oV oI→K env ⟨n+1,m'⟩) :
  CallA Tryz.prog 234 [.ptr 1 0 0] ⟨n,m⟩ (Nx Tryz.prog σ [p (.bsl 1 [.r 0]),p (.app 1 16 (.r 3) (.r 0)),p (.fad 1 (.v 7)),p (.store none (.r 0) (.r 1))] [.ptr 1 0 0,rowV 1 oK ks.length,.ptr 2 0 1] [([],[]),([2],[]),([],[])] ⟨n,m⟩ [1] K):=by
 have n3:=h.n3;refine .of (c6n ⟨n,m⟩ 1 body a e (by simp only []; omega) h.m1 (by omega)) ?_;simp (disch:=omega) only [gG,simprocAttr];have hS1:=h.read (a':=(txtR body a e).2.1) (e':=(txtR body a e).2.2);have lt1:=c2o body a e;generalize (txtR body a e).1=s1 at lt1 ⊢;generalize (txtR body a e).2.1=a1 at hS1 ⊢;generalize (txtR body a e).2.2=e1 at hS1 ⊢;generalize upd m 1 (some (rdO body a1 e1))=mm at hS1 ⊢;have rk1:=hS1.rk;have mm2:=hS1.m2;refine ⟨by simp [a1f,disj,nthL],a9w (lo:=3) (o:=oK) (l:=vS ks) rk1 (by simp [vS,mv_len]) (by simp [vS,mv_len]; omega) (by decide) fun fp ds hD hB hF => ?_⟩;rw [x_nx];refine ⟨by simp only [a0u], ?_⟩;have l3:∀ i,i < 3→oK≠some i:=fun i hi e => by have:=rk1.lt e; omega
 simp only [] at hD ⊢;have hS2:=hS1.pushK lt1 hD;generalize appd ds mm=m5 at hD hS2 ⊢;have a2:=hD 2;rw [if_neg (by omega),if_neg (l3 2 (by omega)),mm2] at a2;simp (disch:=omega) only [gG,simprocAttr,a2,ndO,hσ];exact k _ _ _ _ _ hS2
theorem e6n {σ:Sg} {K:List V→Hp→Prop} (hl:body.length≤1000000) (h:NdSt body lf n m a e ks vs kd oK oV oI) (hk:vs.length≤100000) (hσ:find 7 σ=some (.ptr 2 0 0))
  (k:∀ env m' a' e' s,NdSt body lf (n+1) m' a' e' ks (vs++[s]) kd oK (some n) oI→K env ⟨n+1,m'⟩) :
  CallA Tryz.prog 234 [.ptr 1 0 0] ⟨n,m⟩ (Nx Tryz.prog σ [p (.bsl 1 [.r 0]),p (.app 1 16 (.r 3) (.r 0)),p (.fad 2 (.v 7)),p (.store none (.r 0) (.r 1))] [.ptr 1 0 0,rowV 1 oV vs.length,.ptr 2 0 2] [([],[]),([2],[]),([],[])] ⟨n,m⟩ [1] K):=by
 have n3:=h.n3;refine .of (c6n ⟨n,m⟩ 1 body a e (by simp only []; omega) h.m1 (by omega)) ?_;simp (disch:=omega) only [gG,simprocAttr];have hS1:=h.read (a':=(txtR body a e).2.1) (e':=(txtR body a e).2.2);have lt1:=c2o body a e;generalize (txtR body a e).1=s1 at lt1 ⊢;generalize (txtR body a e).2.1=a1 at hS1 ⊢;generalize (txtR body a e).2.2=e1 at hS1 ⊢;generalize upd m 1 (some (rdO body a1 e1))=mm at hS1 ⊢;have rk1:=hS1.rv;have mm2:=hS1.m2;refine ⟨by simp [a1f,disj,nthL],a9w (lo:=3) (o:=oV) (l:=vS vs) rk1 (by simp [vS,mv_len]) (by simp [vS,mv_len]; omega) (by decide) fun fp ds hD hB hF => ?_⟩;rw [x_nx];refine ⟨by simp only [a0u], ?_⟩;have l3:∀ i,i < 3→oV≠some i:=fun i hi e => by have:=rk1.lt e; omega
 simp only [] at hD ⊢;have hS2:=hS1.pushV lt1 hD;generalize appd ds mm=m5 at hD hS2 ⊢;have a2:=hD 2;rw [if_neg (by omega),if_neg (l3 2 (by omega)),mm2] at a2;simp (disch:=omega) only [gG,simprocAttr,a2,ndO,hσ];exact k _ _ _ _ _ hS2
theorem d8o {σ:Sg} {K:List V→Hp→Prop} (hl:body.length≤1000000) (h:NdSt body lf n m a e ks vs kd oK oV oI) (hk:kd.length≤100000) (hσ:find 7 σ=some (.ptr 2 0 0))
  (k:∀ env m' a' e' s,NdSt body lf (n+1) m' a' e' ks vs (kd++[s]) oK oV (some n)→K env ⟨n+1,m'⟩) :
  CallA Tryz.prog 233 [.ptr 1 0 0,.int .i64 2] ⟨n,m⟩ (Nx Tryz.prog σ [p (.bsl 1 [.r 0]),p (.app 1 8 (.r 3) (.r 0)),p (.fad 3 (.v 7)),p (.store none (.r 0) (.r 1))] [.ptr 1 0 0,rowV 1 oI kd.length,.ptr 2 0 3] [([],[]),([2],[]),([],[])] ⟨n,m⟩ [1] K):=by
 have n3:=h.n3;refine .of (b8b ⟨n,m⟩ 1 body a e 2 (by simp only []; omega) h.m1 (by omega)) ?_;simp (disch:=omega) only [gG,simprocAttr];have hS1:=h.read (a':=(numR body a e 2).2.1) (e':=(numR body a e 2).2.2);have lt1:=True.intro;generalize (numR body a e 2).1=s1 at lt1 ⊢;generalize (numR body a e 2).2.1=a1 at hS1 ⊢;generalize (numR body a e 2).2.2=e1 at hS1 ⊢;generalize upd m 1 (some (rdO body a1 e1))=mm at hS1 ⊢;have rk1:=hS1.ri;have mm2:=hS1.m2;refine ⟨by simp [a1f,disj,nthL],a9w (lo:=3) (o:=oI) (l:=vI kd) rk1 (by simp [vI,mv_len]) (by simp [vI,mv_len]; omega) (by decide) fun fp ds hD hB hF => ?_⟩;rw [x_nx];refine ⟨by simp only [a0u], ?_⟩;have l3:∀ i,i < 3→oI≠some i:=fun i hi e => by have:=rk1.lt e; omega
 simp only [] at hD ⊢;have hS2:=hS1.pushI hD;generalize appd ds mm=m5 at hD hS2 ⊢;have a2:=hD 2;rw [if_neg (by omega),if_neg (l3 2 (by omega)),mm2] at a2;simp (disch:=omega) only [gG,simprocAttr,a2,ndO,hσ];exact k _ _ _ _ _ hS2
end
theorem c2g {n:Nat} {m:Hm}:∀ {l:List V},a0b l=true→mapO (snap n m) l=some l
 | [],_ => rfl
 | v::l,h => by
  simp only [a0b,Bool.and_eq_true] at h;simp only [mapO,a1k h.1,c2g h.2]
theorem a8l {n:Nat} {m:Hm} {l l':List V} (h:mapO (snap n m) l=some l'):snap (n+1) m (.agg l)=some (.agg l'):=by
 by_cases c:a0b l=true
 ·rw [c2g c] at h; cases h;exact a1k c
 ·simp [snap,V.closed,c,h]
def C.snd:C→C
 | .seq _ b => b
 | c => c
def C.un:C→C
 | .frz a => a
 | c => c
def idsN (oK oV oI:Option Nat):List Nat:=[oK,oV,oI].filterMap id
def ndT:V→Prop:=fun r => ∃ n e,r=.tup [ndV n,.int .i64 e]∧(e=0→NdOk n∧NdB n)∧(e≠0→n=nd0)
theorem b6g (σ:Sg) (H:Hp) (e:Int) (h:e≠0) (hr:resE σ H.m r217=some [.agg [.bool false,.fsl .nil 1 [],.fsl .nil 1 [],.fsl .nil 1 []],.int .i64 e]):FinE r217 ndT .ret σ H :=
 ⟨.tup [ndV nd0,.int .i64 e],a0e hr rfl (by simp [pack,lo,loL,ndV,nd0,vS,vI,mv]),nd0,e,rfl,fun h' => absurd h' h,fun _ => rfl⟩
theorem d0e {body:Str} {lf:Bool} {n:Nat} {m:Hm} {a e:Int} {ks vs:List Str} {kd:List Int} {oK oV oI:Option Nat} {b:List (Nat×V)} (hl:body.length≤1000000) (h:NdSt body lf n m a e ks vs kd oK oV oI) (l1:ks.length≤1000) (l2:vs.length≤1000) (l3:kd.length≤1000) (hb:b=[]∨∃ x,b=[(69,.bool x)]) :
  evX Tryz.prog c217.snd.snd.snd.snd.snd.un.snd.un.snd ((1,.str body)::(4,.ptr 0 0 0)::(6,.ptr 1 0 0)::(7,.ptr 2 0 0)::b) ⟨n,m⟩ (FinE r217 ndT):=by
 have nb:NdB ⟨lf,ks,vs,kd⟩:=⟨l1,l2,l3,fun k hk => Nat.le_trans (h.bk k hk) hl,fun k hk => Nat.le_trans (h.bv' k hk) hl⟩;obtain ⟨_,hn,x,rfl,hx⟩:=c2r ⟨lf,ks,vs,kd⟩ true nb;have mem:∀ i,i∈idsN oK oV oI↔oK=some i∨oV=some i∨oI=some i:=fun i => by
  simp only [idsN,List.mem_filterMap,List.mem_cons,List.not_mem_nil,or_false,id];constructor
  ·rintro ⟨o,rfl | rfl | rfl,e⟩<;>simp [e]
  ·rintro (e | e | e)
   ·exact ⟨_,.inl rfl,e⟩
   ·exact ⟨_,.inr (.inl rfl),e⟩
   ·exact ⟨_,.inr (.inr rfl),e⟩
 have out:∀ i,i < 3→i∉idsN oK oV oI:=fun i hi hm => by
  rcases (mem i).1 hm with e | e | e
  ·have:=h.rk.lt e; omega
  ·have:=h.rv.lt e; omega
  ·have:=h.ri.lt e; omega
 show evX Tryz.prog (.frz _) _ _ _;refine c2c (idsN oK oV oI) [2] ?_;have cl:∀ v:V,v.closed=true→frzV (idsN oK oV oI) m v=v:=fun v hv => by simp only [frzV,a1k hv]
 have pt:∀ a b c,frzV (idsN oK oV oI) m (.ptr a b c)=.ptr a b c:=fun a b c => by simp [frzV,snap,V.closed]
 have z2:frzV (idsN oK oV oI) m (.agg [.bool lf,rowV 1 oK ks.length,rowV 1 oV vs.length,rowV 1 oI kd.length])=.agg [.bool lf,.fsl (stO oK) 1 (vS ks),.fsl (stO oV) 1 (vS vs),.fsl (stO oI) 1 (vI kd)]:=by
  unfold frzV;rw [a8l (n:=3) (l':=[.bool lf,.fsl (stO oK) 1 (vS ks),.fsl (stO oV) 1 (vS vs),.fsl (stO oI) 1 (vI kd)])];simp only [mapO,a6r (k:=2) h.rk a0i (fun i e => (mem i).2 (.inl e)) (a1a _).symm,a6r (k:=2) h.rv a0i (fun i e => (mem i).2 (.inr (.inl e))) (a1a _).symm,a6r (k:=2) h.ri a1o (fun i e => (mem i).2 (.inr (.inr e))) (show kd.length=(vI kd).length by simp [vI,mv_len]),a1k (show V.closed (.bool lf)=true from rfl)]
 have d0:loH [2] (frzH (idsN oK oV oI) m) 0=some (.arr 4 [.agg [.bool false,.fsl .nil 1 [],.fsl .nil 1 [],.fsl .nil 1 []]]):=by
  simp [loH,frzH,out 0,h.m0,frzO,cl (.agg [.bool false,.fsl .nil 1 [],.fsl .nil 1 [],.fsl .nil 1 []]) rfl]
 have d1:loH [2] (frzH (idsN oK oV oI) m) 1=some (.arr 3 [.agg [.str body,.int .i64 a,.int .i64 e]]):=by
  simp [loH,frzH,out 1,h.m1,frzO,rdO,cl (.agg [.str body,.int .i64 a,.int .i64 e]) rfl]
 have d2:loH [2] (frzH (idsN oK oV oI) m) 2=some (.arr 4 [ndV ⟨lf,ks,vs,kd⟩]):=by
  simp only [loH,frzH,out 2 (by omega),h.m2,ndO,frzO,List.map_cons,List.map_nil,z2,List.mem_singleton,if_true,if_false,loO,loL,lo,ndV];simp only [vS,vI,a3e (f:=V.str) (fun _ => rfl),a3e (f:=V.int .i64) (fun _ => rfl)]
 have hs:frzS (idsN oK oV oI) m ((1,.str body)::(4,.ptr 0 0 0)::(6,.ptr 1 0 0)::(7,.ptr 2 0 0)::b)=(1,.str body)::(4,.ptr 0 0 0)::(6,.ptr 1 0 0)::(7,.ptr 2 0 0)::b:=by
  rcases hb with rfl | ⟨x,rfl⟩<;>simp only [frzS,pt,cl (.str _) rfl,cl (.bool _) rfl]
 simp only [] at *;rw [hs];generalize loH [2] (frzH (idsN oK oV oI) m)=m' at d0 d1 d2 ⊢
 show evX Tryz.prog (.seq _ _) _ _ _;by_cases ce:e=0
 ·subst ce;by_cases ca:a=body.length
  ·have ht:∀ a b c d:V,List.take 4 (List.drop 0 [a,b,c,d])=[a,b,c,d]:=fun _ _ _ _ => rfl;simp only [ndV] at d2 hn;simp (disch:=omega) only [gG,simprocAttr,d1,ca,d2,ht];refine ⟨_,hn, ?_⟩;cases x with
   | true =>
    simp (disch:=omega) only [gG,simprocAttr,d2,d0,ht];exact ⟨.tup [ndV ⟨lf,ks,vs,kd⟩,.int .i64 0],a0e rfl (by simp [pack,V.closed,a0b,a0i,a1o]) (by simp [pack,lo,loL,ndV,vS,vI,a3e (f:=V.str) (fun _ => rfl),a3e (f:=V.int .i64) (fun _ => rfl)]),⟨lf,ks,vs,kd⟩,0,rfl,fun _ => ⟨hx rfl,nb⟩,fun h => absurd rfl h⟩
   | false =>
    simp (disch:=omega) only [gG,simprocAttr,d0];exact b6g _ _ 4 (by decide) rfl
  ·simp (disch:=omega) only [gG,simprocAttr,d1,ca,d0];exact b6g _ _ 4 (by decide) rfl
 ·simp (disch:=omega) only [gG,simprocAttr,d1,ce,d0];exact ⟨by simp [a1f,disj,nthL],b6g _ _ e ce rfl⟩
theorem e3z (k:Int) (body:Str) (hl:body.length≤1000000):PEx Tryz.prog 217 [.int .i64 k,.str body] ndT:=by
 refine exP (fun r => en217 (by simp) (by simp [a0b,V.closed])) rfl ?_;by_cases c1:k=1∨k=2
 ·obtain ⟨N,hN⟩:∃ N:Nat,(numR body 0 0 1).1=N:=⟨(numR body 0 0 1).1.toNat,by
   have:0≤(numR body 0 0 1).1:=by rw [numR,if_neg (by simp)]; exact b9x _ _ _
   omega⟩
  have hN1:N≤255:=by have:=d9x body; omega
  have hnum:=fun H h1 h2 => b8b H 1 body 0 0 1 h1 h2 (by omega);rw [hN] at hnum;rcases c1 with rfl | rfl
  ·simp (disch:=omega) only [gG,simprocAttr,c217];refine .of (hnum _ (by simp) (by simp (disch:=omega) only [a0d,a0c,wo_0,wo_1,wo_2,rdO])) ?_;simp (disch:=omega) only [gG,simprocAttr];refine a0l ?_;simp (disch:=omega) only [gG,simprocAttr];refine x_it N (fun i σ H => ∃ a e ks vs oK oV,NdSt body true H.n H.m a e ks vs [] oK oV none∧ks.length=i∧vs.length=i∧σ=[(1,.str body),(4,.ptr 0 0 0),(6,.ptr 1 0 0),(7,.ptr 2 0 0),(8,.int .i64 N),(9,.int .i64 i)])
    ⟨(numR body 0 0 1).2.1,(numR body 0 0 1).2.2,[],[],none,none,⟨?_, ?_, ?_, ?_,rfl,rfl,rfl,by simp,by simp,by simp,by simp,by simp⟩,rfl,rfl,rfl⟩ ?_
   iterate 4 first | (simp only []; omega) | simp [upd,rdO,ndO,rowV,RowOk,vS,vI,mv]
   rintro T i σ ⟨q,m⟩ hi ⟨a,e,ks,vs,oK,oV,hS,lk,lv,rfl⟩ hNx hX hR;have m1:=hS.m1;have m2:=hS.m2;have hO:∀ x,T (.exit 0) [(1,.str body),(4,.ptr 0 0 0),(6,.ptr 1 0 0),(7,.ptr 2 0 0),(8,.int .i64 N),(9,.int .i64 i),(34,.bool x)] ⟨q,m⟩:=fun x => by
    refine hX _ _ _ ?_;simp (disch:=omega) only [gG,simprocAttr];refine a0l ?_;simp only [ndO] at m2;simp (disch:=omega) only [gG,simprocAttr,m2];exact d0e hl hS (by omega) (by omega) (by simp) (.inr ⟨_,rfl⟩)
   simp only [rdO,ndO] at m1 m2;by_cases c2:i < N
   ·by_cases c3:e=0
    ·subst c3;simp (disch:=omega) only [gG,simprocAttr,show (i:Int) < N by omega,m1];simp (disch:=omega) only [gG,simprocAttr,m2];refine e0x hl hS (by omega) rfl fun env m' a' e' s hS' => ?_;have m2:=hS'.m2;simp only [ndO] at m2;simp (disch:=omega) only [gG,simprocAttr,m2];refine e6n hl hS' (by omega) rfl fun env m' a' e' s' hS'' => ?_;simp (disch:=omega) only [gG,simprocAttr];exact hNx _ _ c2 ⟨a',e',ks++[s],vs++[s'],_,_,hS'',by simp [lk],by simp [lv],rfl⟩
    ·simp (disch:=omega) only [gG,simprocAttr,show (i:Int) < N by omega,m1,c3];exact hO _
   ·simp (disch:=omega) only [gG,simprocAttr,show ¬ (i:Int) < N by omega];exact hO _
  ·simp (disch:=omega) only [gG,simprocAttr,c217];refine .of (hnum _ (by simp) (by simp (disch:=omega) only [a0d,a0c,wo_0,wo_1,wo_2,rdO])) ?_;simp (disch:=omega) only [gG,simprocAttr];refine a0l ?_;simp (disch:=omega) only [gG,simprocAttr];refine x_it N (fun i σ H => ∃ a e ks kd oK oI,NdSt body false H.n H.m a e ks [] kd oK none oI∧ks.length=i∧kd.length=i∧σ=[(1,.str body),(4,.ptr 0 0 0),(6,.ptr 1 0 0),(7,.ptr 2 0 0),(8,.int .i64 N),(9,.int .i64 i)])
    ⟨(numR body 0 0 1).2.1,(numR body 0 0 1).2.2,[],[],none,none,⟨?_, ?_, ?_, ?_,rfl,rfl,rfl,by simp,by simp,by simp,by simp,by simp⟩,rfl,rfl,rfl⟩ ?_
   iterate 4 first | (simp only []; omega) | simp [upd,rdO,ndO,rowV,RowOk,vS,vI,mv]
   rintro T i σ ⟨q,m⟩ hi ⟨a,e,ks,kd,oK,oI,hS,lk,lv,rfl⟩ hNx hX hR;have m1:=hS.m1;have m2:=hS.m2;have hO:∀ x,T (.exit 0) [(1,.str body),(4,.ptr 0 0 0),(6,.ptr 1 0 0),(7,.ptr 2 0 0),(8,.int .i64 N),(9,.int .i64 i),(34,.bool x)] ⟨q,m⟩:=fun x => by
    refine hX _ _ _ ?_;simp (disch:=omega) only [gG,simprocAttr];refine a0l ?_;simp only [ndO] at m2;simp (disch:=omega) only [gG,simprocAttr,m2];refine d8o hl hS (by omega) rfl fun env m' a' e' s hS' => ?_;simp (disch:=omega) only [gG,simprocAttr];exact d0e hl hS' (by omega) (by simp) (by simp; omega) (.inl rfl)
   simp only [rdO,ndO] at m1 m2;by_cases c2:i < N
   ·by_cases c3:e=0
    ·subst c3;simp (disch:=omega) only [gG,simprocAttr,show (i:Int) < N by omega,m1];simp (disch:=omega) only [gG,simprocAttr,m2];refine d8o hl hS (by omega) rfl fun env m' a' e' s hS' => ?_;have m2:=hS'.m2;simp only [ndO] at m2;simp (disch:=omega) only [gG,simprocAttr,m2];refine e0x hl hS' (by omega) rfl fun env m' a' e' s' hS'' => ?_;simp (disch:=omega) only [gG,simprocAttr];exact hNx _ _ c2 ⟨a',e',ks++[s'],kd++[s],_,_,hS'',by simp [lk],by simp [lv],rfl⟩
    ·simp (disch:=omega) only [gG,simprocAttr,show (i:Int) < N by omega,m1,c3];exact hO _
   ·simp (disch:=omega) only [gG,simprocAttr,show ¬ (i:Int) < N by omega];exact hO _
 ·simp (disch:=omega) only [gG,simprocAttr,c217,show ¬ k=1 by omega,show ¬ k=2 by omega];exact b6g _ _ 81 (by decide) rfl
end
section
open Go Go.RowKit
theorem d5z (H:Hp) (a b:Nat) (ks:List Str) (x:Str) (i:Nat) (st:St) (hi:i < ks.length) (ha:a < H.n) (hb:b < H.n) (hab:a≠b) (h1:H.m a=some (.arr 1 [.fsl st 1 (vS ks)])) (h2:H.m b=some (.arr 1 [.str x])) :
  CEx Tryz.prog 249 [.int .i64 i,.ptr a 0 0,.ptr b 0 0] H [a,b] (fun r ds k => ds=[]∧k=0∧∃ y,r=.bool y):=by
 refine exA (fun r ds k hd => ena249 (by simp) (by simp [lowL,V.low,ha,hb]) (fun id hid => ?_) (by simpa using hd)) rfl ?_
 ·simp at hid;rcases hid with rfl | rfl
  ·exact ⟨ha,fun o ho => by rw [h1] at ho; simp at ho; subst ho; simp [Ob.low,lowL,V.low_closed _ (show V.closed (.fsl st 1 (vS ks))=true by simp [V.closed,a0i])]⟩
  ·exact ⟨hb,fun o ho => by rw [h2] at ho; simp at ho; subst ho; rfl⟩
 have q1:only [a,b] H.m a=some (.arr 1 [.fsl st 1 (vS ks)]):=by simp [only,h1]
 have q2:only [a,b] H.m b=some (.arr 1 [.str x]):=by simp [only,h2]
 simp (disch:=omega) only [gG,simprocAttr,c249,q1,a2f hi,q2];exact ⟨_,[],0,a2o (l:=[.bool _]) rfl (.inl rfl) (by simp) (fun j => .inr rfl),by simp,rfl,rfl,_,rfl⟩
theorem e2a (H:Hp) (a b:Nat) (ks:List Str) (x:Str) (st:St) (hk:ks.length≤1000000) (ha:a < H.n) (hb:b < H.n) (hab:a≠b) (h1:H.m a=some (.arr 1 [.fsl st 1 (vS ks)])) (h2:H.m b=some (.arr 1 [.str x])) :
  CEx Tryz.prog 248 [.int .i64 ks.length,.fn 249 [] [.ptr a 0 0,.ptr b 0 0]] H [a,b] (fun r ds k => ds=[]∧k=0∧∃ y:Nat,y≤ks.length∧r=.int .i64 y):=by
 refine exA (fun r ds k hd => ena248 (by simp) (by simp [lowL,V.low,ha,hb]) (fun id hid => ?_) (by simpa using hd)) rfl ?_
 ·simp at hid;rcases hid with rfl | rfl
  ·exact ⟨ha,fun o ho => by rw [h1] at ho; simp at ho; subst ho; simp [Ob.low,lowL,V.low_closed _ (show V.closed (.fsl st 1 (vS ks))=true by simp [V.closed,a0i])]⟩
  ·exact ⟨hb,fun o ho => by rw [h2] at ho; simp at ho; subst ho; rfl⟩
 have q1:only [a,b] H.m a=some (.arr 1 [.fsl st 1 (vS ks)]):=by simp [only,h1]
 have q2:only [a,b] H.m b=some (.arr 1 [.str x]):=by simp [only,h2]
 simp (disch:=omega) only [gG,simprocAttr,c248];refine x_lp (fun σ H' => H'.n=H.n∧H'.m=only [a,b] H.m∧∃ i j:Nat,i≤j∧j≤ks.length∧σ=[(1,.fn 249 [] [.ptr a 0 0,.ptr b 0 0]),(5,.int .i64 i),(6,.int .i64 j)]) (fun σ _ => match find 5 σ,find 6 σ with | some (.int _ i),some (.int _ j) => (j - i).toNat | _,_ => 0)
  ⟨rfl,rfl,0,ks.length,by omega,by omega,rfl⟩ ?_
 rintro T σ ⟨q,m⟩ ⟨rfl,rfl,i,j,h3,h4,rfl⟩ hN hX hR;by_cases c:i < j
 ·simp (disch:=omega) only [gG,simprocAttr,show (i:Int) < j by omega];rw [c9x c (by omega)];obtain ⟨_,_,_,hc,rfl,rfl,y,rfl⟩:=d5z ⟨H.n,only [a,b] H.m⟩ a b ks x ((i+j) / 2) st (by omega) ha hb hab q1 q2;refine .of hc ?_;cases y with
  | true =>
   simp (disch:=omega) only [gG,simprocAttr];exact hN _ _ ⟨rfl,rfl,i,(i+j) / 2,by omega,by omega,rfl⟩ (by simp [find]; omega)
  | false =>
   simp (disch:=omega) only [gG,simprocAttr];exact hN _ _ ⟨rfl,rfl,(i+j) / 2+1,j,by omega,by omega,by simp⟩ (by simp [find]; omega)
 ·simp (disch:=omega) only [gG,simprocAttr,show ¬ (i:Int) < j by omega];refine hX _ _ _ ?_;simp (disch:=omega) only [gG,simprocAttr];refine a0l ?_;simp (disch:=omega) only [gG,simprocAttr];exact ⟨_,[],0,a2o (l:=[.int .i64 i]) rfl (.inl rfl) (by simp) (fun j => .inr rfl),by simp,rfl,rfl,i,by omega,rfl⟩
theorem c7z (st:St) (ks:List Str) (x:Str) (hk:ks.length≤1000000):PEx Tryz.prog 244 [.fsl st 1 (vS ks),.str x] (fun r => ∃ y:Nat,y≤ks.length∧r=.int .i64 y):=by
 refine exP (fun r => en244 (by simp) (by simp [a0b,V.closed,a0i])) rfl ?_;simp (disch:=omega) only [gG,simprocAttr,c244,a1a];obtain ⟨_,_,_,hc,rfl,rfl,y,hy,rfl⟩:=e2a ⟨2,upd (upd (fun _ => none) 0 (some (.arr 1 [.fsl st 1 (vS ks)]))) 1 (some (.arr 1 [.str x]))⟩ 0 1 ks x st hk (by simp) (by simp) (by simp) (by simp [upd]) (by simp [upd]);refine .of hc ?_;simp (disch:=omega) only [gG,simprocAttr];exact ⟨_,a0e rfl rfl rfl,y,hy,rfl⟩
theorem e1u (n:NdG) (x:Str) (hb:NdB n):PEx Tryz.prog 225 [ndV n,.str x] (fun r => ∃ (y:Nat) (b:Bool),y≤n.keys.length∧r=.tup [.int .i64 y,.bool b]):=by
 refine exP (fun r => en225 (by simp) (by simp [a0b,a6m,V.closed])) rfl ?_;obtain ⟨_,hs,z,rfl,hz⟩:=b7n n hb;have b1:=hb.keys;obtain ⟨lf,ks,vs,kd⟩:=n;obtain ⟨_,hf,y,hy,rfl⟩:=c7z .loose ks x (by simp at b1; omega);have ht:∀ a b c d:V,List.take 4 (List.drop 0 [a,b,c,d])=[a,b,c,d]:=fun _ _ _ _ => rfl;simp only [ndV] at hs b1;simp (disch:=omega) only [gG,simprocAttr,c225,ndV,ht];refine ⟨_,hs, ?_⟩;cases z with
 | false =>
  simp (disch:=omega) only [gG,simprocAttr];exact ⟨_,a0e rfl rfl rfl,0,false,by simp,rfl⟩
 | true =>
  simp (disch:=omega) only [gG,simprocAttr];refine ⟨_,hf, ?_⟩;by_cases c:y < ks.length
  ·simp (disch:=omega) only [gG,simprocAttr,a1a,show (y:Int) < ks.length by omega,a2f c];exact ⟨_,a0e rfl rfl rfl,y,_,hy,rfl⟩
  ·simp (disch:=omega) only [gG,simprocAttr,a1a,show ¬ (y:Int) < ks.length by omega];exact ⟨_,a0e rfl rfl rfl,y,_,hy,rfl⟩
theorem e4g (n:NdG) (x:Str) (hb:NdB n):PEx Tryz.prog 200 [ndV n,.str x] (fun r => ∃ y:Nat,y≤n.keys.length+1∧r=.int .i64 y):=by
 refine exP (fun r => en200 (by simp) (by simp [a0b,a6m,V.closed])) rfl ?_;obtain ⟨_,hs,y,z,hy,rfl⟩:=e1u n x hb;have b1:=hb.keys;obtain ⟨lf,ks,vs,kd⟩:=n;have ht:∀ a b c d:V,List.take 4 (List.drop 0 [a,b,c,d])=[a,b,c,d]:=fun _ _ _ _ => rfl;simp only [ndV] at hs b1 hy;cases lf with
 | true =>
  simp (disch:=omega) only [gG,simprocAttr,c200,ndV];exact ⟨_,a0e rfl rfl rfl,0,by simp,rfl⟩
 | false =>
  simp (disch:=omega) only [gG,simprocAttr,c200,ndV,ht];refine ⟨_,hs, ?_⟩;cases z with
  | true =>
   simp (disch:=omega) only [gG,simprocAttr];exact ⟨_,a0e rfl rfl rfl,y+1,Nat.succ_le_succ hy,by simp [pack,lo]⟩
  | false =>
   simp (disch:=omega) only [gG,simprocAttr];exact ⟨_,a0e rfl rfl rfl,y,Nat.le_succ_of_le hy,rfl⟩
end
def c124:C:=(.seq (rr [p (.mov (.k (.bool false)))] [vv 0]) (.seq (rr [mw 0,p (.len true (.r 0)),p (.bin .gtr (.r 0) (kn 4096)),mr 0] [(2,.r 0)]) .ret))
def r124:List RV:=[.t 2]
theorem en124:EnP Tryz.prog 124 6 c124 r124:=meP Tryz.func124
def c72:C:=(.seq (rr [p (.box 5 (.v 0)),p (.mov (.k (.bool false)))] [(1,.r 1)]) (.seq (.seq (rr [p (.fad 0 (.v 1)),p (.load (some 2) (.r 0)),p (.call true (.k (.fn 85 [] [])) [.r 0]),p (.un .not (.r 0)),mr 0,⟨.fad 2 (.v 1),some (0,false),[]⟩,⟨.load (none) (.r 0),some (1,false),[]⟩,⟨.len false (.r 0),some (2,false),[]⟩,⟨.fad 0 (.v 1),some (3,false),[]⟩,⟨.fad 1 (.r 0),some (4,false),[]⟩,⟨.load (none) (.r 0),some (5,false),[]⟩,⟨.len false (.r 0),some (6,false),[]⟩,⟨.bin .neq (.r 4) (.r 0),some (7,false),[]⟩,p (.pick (.r 8) (.k (.bool true)) (.r 0)),mr 0,⟨.fad 4 (.v 1),some (0,false),[]⟩,⟨.load (none) (.r 0),some (1,false),[]⟩,⟨.bin .lss (.r 0) (kn 1),some (2,false),[]⟩,p (.pick (.r 3) (.k (.bool true)) (.r 0)),mr 0,⟨.fad 4 (.v 1),some (0,false),[]⟩,⟨.load (none) (.r 0),some (1,false),[]⟩,⟨.bin .gtr (.r 0) (kn 1099511627776),some (2,false),[]⟩,p (.pick (.r 3) (.k (.bool true)) (.r 0))] [vv 1,(26,.r 0)]) (.cond (.v 26) (.seq (rr [p (.mov (.k (.bool false)))] [(2,.r 0)]) .ret) .skip)) (.seq (.seq (rr [p (.fad 3 (.v 1)),ld 0,p (.bin .neq (.r 0) (kn 0)),mr 0,⟨.fad 3 (.v 1),some (0,true),[]⟩,⟨.load (none) (.r 0),some (1,true),[]⟩,⟨.bin .lss (.r 0) (kn 10),some (2,true),[]⟩,⟨.mov (.r 0),some (3,true),[]⟩,⟨.fad 3 (.v 1),some (0,false),[]⟩,⟨.load (none) (.r 0),some (1,false),[]⟩,⟨.fad 0 (.v 1),some (2,false),[]⟩,⟨.fad 1 (.r 0),some (3,false),[]⟩,⟨.load (none) (.r 0),some (4,false),[]⟩,⟨.len false (.r 0),some (5,false),[]⟩,⟨.bin .geq (.r 4) (.r 0),some (6,false),[]⟩,⟨.pick (.r 7) (.k (.bool true)) (.r 0),some (11,true),[]⟩,p (.pick (.r 12) (.r 0) (.k (.bool false)))] [vv 1,(43,.r 0)]) (.cond (.v 43) (.seq (rr [p (.mov (.k (.bool false)))] [(2,.r 0)]) .ret) .skip)) (.seq (rr [p (.fad 2 (.v 1)),ld 0,p (.call false (.k (.fn 123 [] [])) [.r 0,.k (.fn 124 [] [])]),p (.un .not (.r 0)),mr 0] [(2,.r 0)]) .ret))))
def r72:List RV:=[.t 2]
theorem en72:EnP Tryz.prog 72 48 c72 r72:=meP Tryz.func72
def c188:C:=(.seq (rr [p (.alloc 4 (.agg [.bool false,.fsl .nil 1 [],.fsl .nil 1 [],.fsl .nil 1 []])),p (.mov (.k (.bool false)))] [vv 0,vv 1,vv 2,(6,.r 1)]) (.seq (.seq (rr [mw 1,p (.bin .lss (.r 0) (kn 10)),mr 0,⟨.mov (.v 1),some (0,false),[]⟩,⟨.mov (.v 0),some (1,false),[]⟩,⟨.nck (.r 0),some (2,false),[]⟩,⟨.fad 0 (.r 0),some (3,false),[]⟩,⟨.fad 0 (.r 0),some (4,false),[]⟩,⟨.fad 1 (.r 0),some (5,false),[]⟩,⟨.load (none) (.r 0),some (6,false),[]⟩,⟨.len false (.r 0),some (7,false),[]⟩,⟨.bin .geq (.r 7) (.r 0),some (8,false),[]⟩,p (.pick (.r 9) (.k (.bool true)) (.r 0)),mr 0,⟨.mov (.v 0),some (0,false),[]⟩,⟨.nck (.r 0),some (1,false),[]⟩,⟨.fad 0 (.r 0),some (2,false),[]⟩,⟨.fad 0 (.r 0),some (3,false),[]⟩,⟨.fad 1 (.r 0),some (4,false),[]⟩,⟨.load (none) (.r 0),some (5,false),[]⟩,⟨.mov (.v 1),some (6,false),[]⟩,⟨.iad 1 (.r 1) (.r 0),some (7,false),[]⟩,⟨.load (none) (.r 0),some (8,false),[]⟩,⟨.un .not (.r 0),some (9,false),[]⟩,p (.pick (.r 10) (.k (.bool true)) (.r 0))] [vv 0,vv 1,vv 2,vv 6,(35,.r 0)]) (.cond (.v 35) (.seq (rr [p (.build [.bool false,.fsl .nil 1 [],.fsl .nil 1 [],.fsl .nil 1 []] []),p (.store (some 4) (.v 6) (.r 0)),p (.mov (.k (.bool false)))] [vv 6,(7,.r 0)]) .ret) .skip)) (.seq (rr [mw 0,p (.nck (.r 0)),p (.fad 0 (.r 0)),p (.fad 2 (.r 0)),ld 0,mw 1,p (.iad 1 (.r 1) (.r 0)),ld 0,p (.bsl 1 [kn 1,kn 2]),p (.call true (.k (.fn 78 [] [])) [.r 1,.r 0]),mr 0,xt 0 0,xt 1 1,p (.alloc 3 (.agg [.int .i64 0,.int .i64 0,.str []])),p (.store (some 3) (.r 0) (.r 2)),mr 2] [vv 0,vv 2,vv 6,(8,.r 2),(9,.r 0)]) (.seq (.seq (.reg true [mw 9,p (.bin .neq (.r 0) (kn 0)),mr 0,⟨.fad 1 (.v 8),some (0,false),[]⟩,⟨.load (none) (.r 0),some (1,false),[]⟩,⟨.mov (.v 0),some (2,false),[]⟩,⟨.nck (.r 0),some (3,false),[]⟩,⟨.fad 0 (.r 0),some (4,false),[]⟩,⟨.fad 4 (.r 0),some (5,false),[]⟩,⟨.load (none) (.r 0),some (6,false),[]⟩,⟨.bin .gtr (.r 5) (.r 0),some (7,false),[]⟩,p (.pick (.r 8) (.k (.bool true)) (.r 0))] [vv 2,vv 6,vv 8,(61,.r 0)]) (.cond (.v 61) (.seq (rr [p (.build [.bool false,.fsl .nil 1 [],.fsl .nil 1 [],.fsl .nil 1 []] []),p (.store (some 4) (.v 6) (.r 0)),p (.mov (.k (.bool false)))] [vv 6,(7,.r 0)]) .ret) .skip)) (.seq (rr [p (.fad 0 (.v 8)),ld 0,p (.fad 2 (.v 8)),ld 0,p (.call true (.k (.fn 217 [] [])) [.r 2,.r 0]),mr 0,xt 0 0,xt 1 1,p (.alloc 4 (.agg [.bool false,.fsl .nil 1 [],.fsl .nil 1 [],.fsl .nil 1 []])),p (.store (some 4) (.r 0) (.r 2)),mr 2] [vv 2,vv 6,(9,.r 0),(10,.r 2)]) (.seq (.seq (rr [mw 9,p (.bin .neq (.r 0) (kn 0)),mr 0,⟨.load (some 4) (.v 10),some (0,false),[]⟩,⟨.mov (.v 2),some (1,false),[]⟩,⟨.call true (.k (.fn 218 [] [])) [.r 1,.r 0],some (2,false),[]⟩,⟨.un .not (.r 0),some (3,false),[]⟩,p (.pick (.r 4) (.k (.bool true)) (.r 0))] [vv 6,vv 10,(78,.r 0)]) (.cond (.v 78) (.seq (rr [p (.build [.bool false,.fsl .nil 1 [],.fsl .nil 1 [],.fsl .nil 1 []] []),p (.store (some 4) (.v 6) (.r 0)),p (.mov (.k (.bool false)))] [vv 6,(7,.r 0)]) .ret) .skip)) (.seq (rr [p (.load (some 4) (.v 10)),p (.store (some 4) (.v 6) (.r 0)),p (.mov (.k (.bool true)))] [vv 6,(7,.r 0)]) .ret)))))))
def r188:List RV:=[.c 6 (some 4),.t 7]
theorem ena188:EnA Tryz.prog 188 81 c188 r188:=meA Tryz.func188
def c125:C:=(.seq (rr [p (.box 5 (.v 0)),p (.alloc 4 (.agg [.bool false,.fsl .nil 1 [],.fsl .nil 1 [],.fsl .nil 1 []])),p (.mov (kn 0))] [vv 1,vv 2,(3,.r 2),(6,.r 1)]) (.seq (.seq (rr [p (.load (some 5) (.v 3)),p (.call true (.k (.fn 72 [] [])) [.r 0]),p (.un .not (.r 0))] [vv 1,vv 2,vv 3,vv 6,(13,.r 0)]) (.cond (.v 13) (.seq (rr [p (.build [.bool false,.fsl .nil 1 [],.fsl .nil 1 [],.fsl .nil 1 []] []),p (.store (some 4) (.v 6) (.r 0)),p (.mov (kn 1))] [vv 6,(7,.r 0)]) .ret) .skip)) (.seq (rr [p (.load (some 5) (.v 3)),p (.build [.fsl .nil 1 [],.fsl .nil 1 [],.fsl .nil 1 [],.int .i64 0,.int .i64 0,.str [],.int .i64 0,.int .i64 0,.fsl .nil 2 [],.str [],.bool false,.bool false] [(0,5,.r 0)]),p (.box 12 (.r 0)),mr 0] [vv 1,vv 2,vv 6,(8,.r 0)]) (.seq (rr [mw 8,mw 1,mw 2,p (.call false (.k (.fn 188 [] [])) [.r 2,.r 1,.r 0]),mr 0,xt 0 0,xt 1 1,p (.alloc 4 (.agg [.bool false,.fsl .nil 1 [],.fsl .nil 1 [],.fsl .nil 1 []])),p (.store (some 4) (.r 0) (.r 2)),mr 2] [vv 6,(9,.r 2),(10,.r 0)]) (.seq (.seq (rr [mw 10,p (.un .not (.r 0))] [vv 6,vv 9,(26,.r 0)]) (.cond (.v 26) (.seq (rr [p (.build [.bool false,.fsl .nil 1 [],.fsl .nil 1 [],.fsl .nil 1 []] []),p (.store (some 4) (.v 6) (.r 0)),p (.mov (kn 81))] [vv 6,(7,.r 0)]) .ret) .skip)) (.seq (rr [p (.load (some 4) (.v 9)),p (.store (some 4) (.v 6) (.r 0)),p (.mov (kn 0))] [vv 6,(7,.r 0)]) .ret))))))
def r125:List RV:=[.c 6 (some 4),.t 7]
theorem en125:EnP Tryz.prog 125 29 c125 r125:=meP Tryz.func125
def c199:C:=(.seq (.seq (rr [mw 0,p (.nck (.r 0)),p (.fad 10 (.r 0)),ld 0,mr 0,⟨.mov (.v 1),some (0,false),[]⟩,⟨.mov (.v 0),some (1,false),[]⟩,⟨.nck (.r 0),some (2,false),[]⟩,⟨.fad 5 (.r 0),some (3,false),[]⟩,⟨.load (none) (.r 0),some (4,false),[]⟩,⟨.bin .lss (.r 4) (.r 0),some (5,false),[]⟩,p (.pick (.r 6) (.k (.bool true)) (.r 0))] [vv 0,vv 1,vv 2,(18,.r 0)]) (.cond (.v 18) .ret .skip)) (.seq (.seq (rr [mw 0,p (.nck (.r 0)),p (.fad 8 (.r 0)),ld 0,p (.len false (.r 0)),mr 0] [vv 0,vv 1,vv 2,(6,.r 0)]) (.seq (rr [mw 6,p (.bin .gtr (.r 0) (kn 0)),mr 0,⟨.mov (.v 0),some (0,true),[]⟩,⟨.nck (.r 0),some (1,true),[]⟩,⟨.fad 8 (.r 0),some (2,true),[]⟩,⟨.load (none) (.r 0),some (3,true),[]⟩,⟨.mov (.v 6),some (4,true),[]⟩,⟨.bin .sub (.r 0) (kn 1),some (5,true),[]⟩,⟨.iad 2 (.r 2) (.r 0),some (6,true),[]⟩,⟨.fad 0 (.r 0),some (7,true),[]⟩,⟨.load (none) (.r 0),some (8,true),[]⟩,⟨.mov (.v 1),some (9,true),[]⟩,⟨.bin .geq (.r 1) (.r 0),some (10,true),[]⟩,p (.pick (.r 11) (.r 0) (.k (.bool false)))] [vv 0,vv 1,vv 2,(38,.r 0)]) (.cond (.v 38) (.seq (rr [mw 0,p (.nck (.r 0)),p (.fad 11 (.r 0)),p (.store (none) (.r 0) (.k (.bool true)))] []) .ret) .skip))) (.seq (.seq (.reg true [mw 0,p (.nck (.r 0)),p (.fad 8 (.r 0)),ld 0,p (.len false (.r 0)),mw 0,p (.nck (.r 0)),p (.fad 6 (.r 0)),ld 0,p (.bin .eql (.r 4) (.r 0))] [vv 0,vv 1,vv 2,(51,.r 0)]) (.cond (.v 51) (.seq (rr [mw 0,mw 0,mw 1,p (.nck (.r 2)),p (.fad 10 (.r 0)),p (.store (none) (.r 0) (.k (.bool true))),p (.nck (.r 4)),p (.fad 9 (.r 0)),p (.store (none) (.r 0) (.r 5))] []) .ret) .skip)) (rr [mw 0,mw 0,p (.nck (.r 0)),p (.fad 8 (.r 0)),ld 0,mw 1,mw 2,p (.build [.str [],.str []] [(0,1,.r 1),(1,1,.r 0)]),p (.bsl 2 [.r 0]),p (.app 2 32 (.r 4) (.r 0)),p (.nck (.r 9)),p (.fad 8 (.r 0)),p (.store (none) (.r 0) (.r 2))] []))))
def r199:List RV:=[]
theorem ena199:EnA Tryz.prog 199 71 c199 r199:=meA Tryz.func199
def c143:C:=(.seq (rr [mw 0,p (.nck (.r 0)),p (.fad 7 (.r 0)),ld 0,p (.bin .add (.r 0) (kn 1)),p (.nck (.r 4)),p (.fad 7 (.r 0)),p (.store (none) (.r 0) (.r 2))] [vv 0,vv 1,vv 2]) (.seq (rr [mw 0,mw 1,mw 2,p (.bin .eql (.r 0) (kn 1)),p (.call false (.k (.fn 188 [] [])) [.r 3,.r 2,.r 0]),mr 0,xt 0 0,xt 1 1,p (.alloc 4 (.agg [.bool false,.fsl .nil 1 [],.fsl .nil 1 [],.fsl .nil 1 []])),p (.store (some 4) (.r 0) (.r 2)),mr 2] [vv 0,vv 2,(6,.r 2),(7,.r 0)]) (.seq (.seq (.reg true [mw 7,p (.un .not (.r 0)),mr 0,⟨.mov (.v 2),some (0,false),[]⟩,⟨.bin .gtr (.r 0) (kn 8),some (1,false),[]⟩,p (.pick (.r 2) (.k (.bool true)) (.r 0)),mr 0,⟨.mov (.v 0),some (0,false),[]⟩,⟨.nck (.r 0),some (1,false),[]⟩,⟨.fad 7 (.r 0),some (2,false),[]⟩,⟨.load (none) (.r 0),some (3,false),[]⟩,⟨.mov (.v 0),some (4,false),[]⟩,⟨.nck (.r 0),some (5,false),[]⟩,⟨.fad 0 (.r 0),some (6,false),[]⟩,⟨.fad 0 (.r 0),some (7,false),[]⟩,⟨.fad 1 (.r 0),some (8,false),[]⟩,⟨.load (none) (.r 0),some (9,false),[]⟩,⟨.len false (.r 0),some (10,false),[]⟩,⟨.bin .gtr (.r 7) (.r 0),some (11,false),[]⟩,p (.pick (.r 12) (.k (.bool true)) (.r 0))] [vv 0,vv 2,vv 6,(45,.r 0)]) (.cond (.v 45) (.seq (rr [mw 0,p (.nck (.r 0)),p (.fad 11 (.r 0)),p (.store (none) (.r 0) (.k (.bool true)))] []) .ret) .skip)) (.seq (.seq (rr [p (.fad 0 (.v 6)),ld 0] [vv 0,vv 2,vv 6,(50,.r 0)]) (.cond (.v 50) (.seq (.seq (rr [p (.fad 1 (.v 6)),ld 0,p (.len false (.r 0)),p (.mov (kn 0))] [vv 0,vv 6,(52,.r 2),(53,.r 1),(54,.r 0)]) (.block 0 (.loop (.seq (rr [p (.bin .lss (.v 54) (.v 53))] [vv 0,vv 6,vv 52,vv 53,vv 54,(55,.r 0)]) (.seq (.cond (.v 55) .skip (.exit 0)) (.seq (.block 1 (.seq (rr [mw 54,p (.iad 1 (.v 52) (.v 54)),ld 0,mr 2,mr 1] [vv 0,vv 6,(8,.r 1),(9,.r 0),vv 52,vv 53,vv 54]) (rr [mw 0,mw 9,p (.fad 2 (.v 6)),ld 0,mw 8,p (.iad 1 (.r 1) (.r 0)),ld 0,p (.call false (.k (.fn 199 [] [])) [.r 6,.r 5,.r 0])] [vv 0,vv 6,vv 52,vv 53,vv 54]))) (rr [p (.bin .add (.v 54) (kn 1)),mr 0] [vv 0,vv 6,vv 52,vv 53,(54,.r 0)]))))))) (.frz .ret)) .skip)) (.frz (.seq (.reg true [p (.load (some 4) (.v 6)),mw 0,p (.nck (.r 0)),p (.fad 5 (.r 0)),ld 0,p (.call true (.k (.fn 200 [] [])) [.r 4,.r 0]),mr 0] [vv 0,vv 2,vv 6,(10,.r 0)]) (.block 2 (.loop (.seq (.seq (rr [mw 10,p (.fad 3 (.v 6)),ld 0,p (.len false (.r 0)),p (.bin .lss (.r 3) (.r 0)),mr 0,⟨.mov (.v 0),some (0,true),[]⟩,⟨.nck (.r 0),some (1,true),[]⟩,⟨.fad 10 (.r 0),some (2,true),[]⟩,⟨.load (none) (.r 0),some (3,true),[]⟩,⟨.un .not (.r 0),some (4,true),[]⟩,p (.pick (.r 5) (.r 0) (.k (.bool false))),mr 0,⟨.mov (.v 0),some (0,true),[]⟩,⟨.nck (.r 0),some (1,true),[]⟩,⟨.fad 11 (.r 0),some (2,true),[]⟩,⟨.load (none) (.r 0),some (3,true),[]⟩,⟨.un .not (.r 0),some (4,true),[]⟩,p (.pick (.r 5) (.r 0) (.k (.bool false)))] [vv 0,vv 2,vv 6,vv 10,(92,.r 0)]) (.cond (.v 92) .skip (.exit 2))) (.seq (.block 3 (rr [mw 0,p (.fad 3 (.v 6)),ld 0,mw 10,p (.iad 1 (.r 1) (.r 0)),ld 0,mw 2,p (.bin .add (.r 0) (kn 1)),p (.call false (.k (.fn 143 [] [])) [.r 7,.r 2,.r 0])] [vv 0,vv 2,vv 6,vv 10])) (rr [mw 10,p (.bin .add (.r 0) (kn 1)),mr 0] [vv 0,vv 2,vv 6,(10,.r 0)])))))))))))
def r143:List RV:=[]
theorem ena143:EnA Tryz.prog 143 104 c143 r143:=meA Tryz.func143
def c92:C:=(.seq (rr [p (.box 5 (.v 0)),p (.mov (.k (.fsl .nil 2 []))),p (.mov (.k (.str []))),p (.mov (kn 0))] [vv 1,vv 2,(3,.r 3)]) (.seq (.seq (rr [p (.load (some 5) (.v 3)),p (.call true (.k (.fn 72 [] [])) [.r 0]),p (.un .not (.r 0)),mr 0,⟨.mov (.v 1),some (0,false),[]⟩,⟨.len true (.r 0),some (1,false),[]⟩,⟨.bin .gtr (.r 0) (kn 32),some (2,false),[]⟩,p (.pick (.r 3) (.k (.bool true)) (.r 0)),mr 0,⟨.mov (.v 2),some (0,false),[]⟩,⟨.bin .lss (.r 0) (kn 0),some (1,false),[]⟩,p (.pick (.r 2) (.k (.bool true)) (.r 0)),mr 0,⟨.mov (.v 2),some (0,false),[]⟩,⟨.bin .gtr (.r 0) (kn 256),some (1,false),[]⟩,p (.pick (.r 2) (.k (.bool true)) (.r 0))] [vv 1,vv 2,vv 3,(25,.r 0)]) (.cond (.v 25) (.seq (rr [p (.mov (.k (.fsl .nil 2 []))),p (.mov (.k (.str []))),p (.mov (kn 1))] [(6,.r 2),(7,.r 1),(8,.r 0)]) .ret) .skip)) (.seq (rr [p (.load (some 5) (.v 3)),mw 1,mw 2,p (.build [.fsl .nil 1 [],.fsl .nil 1 [],.fsl .nil 1 [],.int .i64 0,.int .i64 0,.str [],.int .i64 0,.int .i64 0,.fsl .nil 2 [],.str [],.bool false,.bool false] [(0,5,.r 2),(5,1,.r 1),(6,1,.r 0)]),p (.box 12 (.r 0)),mr 0] [(9,.r 0)]) (.seq (.seq (rr [mw 9,p (.nck (.r 0)),p (.fad 0 (.r 0)),p (.fad 3 (.r 0)),ld 0,p (.bin .neq (.r 0) (kn 0))] [vv 9,(36,.r 0)]) (.cond (.v 36) (rr [mw 9,mw 9,p (.nck (.r 0)),p (.fad 0 (.r 0)),p (.fad 3 (.r 0)),ld 0,p (.call false (.k (.fn 143 [] [])) [.r 5,.r 0,kn 1])] [vv 9]) .skip)) (.frz (.seq (.seq (rr [mw 9,p (.nck (.r 0)),p (.fad 11 (.r 0)),ld 0] [vv 9,(47,.r 0)]) (.cond (.v 47) (.seq (rr [p (.mov (.k (.fsl .nil 2 []))),p (.mov (.k (.str []))),p (.mov (kn 81))] [(6,.r 2),(7,.r 1),(8,.r 0)]) .ret) .skip)) (.seq (.reg true [mw 9,p (.nck (.r 0)),p (.fad 8 (.r 0)),ld 0,mw 9,p (.nck (.r 0)),p (.fad 9 (.r 0)),ld 0,mr 4,mr 1,p (.mov (kn 0))] [(6,.r 2),(7,.r 1),(8,.r 0)]) .ret)))))))
def r92:List RV:=[.t 6,.t 7,.t 8]
theorem en92:EnP Tryz.prog 92 56 c92 r92:=meP Tryz.func92
section
open Go Go.RowKit
structure Wo where
 b:List Bool
 n:List Bool
 pages:List Str
 root:Int
 gen:Int
def woL (w:Wo):List V:=[.fsl .loose 1 (bv w.b),.fsl .loose 1 (bv w.n),.fsl .loose 1 (vS w.pages),.int .i64 w.root,.int .i64 w.gen]
def woV (w:Wo):V:=.agg (woL w)
theorem a2t (w:Wo):(woV w).closed=true:=by simp [woV,woL,V.closed,a0b,a0g,a0i]
def woOk (w:Wo):Bool:=a2y w.b w.n && (decide ((w.pages.length:Int)=w.n.length) && (decide (1≤w.gen) && (decide (w.gen≤1099511627776) && ((decide (w.root=0) || (decide (10≤w.root) && decide (w.root < w.n.length))) && w.pages.all fun s => decide ((s.length:Int)≤4096)))))
theorem d3w (s:Str):PCall Tryz.prog 124 [.str s] (.bool (decide (4096 < (s.length:Int)))):=by
 refine en124 (by simp) (by simp [a0b,V.closed]) ?_;simp (disch:=omega) only [gG,simprocAttr,c124]
 (refine a0e rfl ?_ ?_<;>simp [pack,lo,loL,V.closed,a0b,a0a,a0g,a0p])
theorem a9g (w:Wo) (hl:w.pages.length≤1000000):PCall Tryz.prog 72 [woV w] (.bool (woOk w)):=by
  refine en72 (by simp) (by simp [a0b,a2t]) ?_
  obtain ⟨b,n,pg,rt,gn⟩:=w
  have ha:=b3o .loose .loose b n
  have hc:=fun H => c1e (st:=.loose) (rows:=pg) (q:=fun s => decide (4096 < (s.length:Int))) (H:=H) hl (fun x _ => d3w x)
  have ht:∀ a b c d e:V,List.take 2 (List.drop 0 [a,b,c,d,e])=[a,b]:=fun _ _ _ _ _ => rfl
  have he:pg.any (fun s => decide (4096 < (s.length:Int)))=!(pg.all fun s => decide ((s.length:Int)≤4096)):=by
    rw [Bool.eq_iff_iff]; simp
  simp (disch:=omega) only [gG,simprocAttr,c72,woV,woL,ht]
  refine ⟨_,ha, ?_⟩
  cases hr:a2y b n with
  | false =>
    simp (disch:=omega) only [gG,simprocAttr]
    (refine a0e rfl ?_ ?_<;>simp [pack,lo,loL,V.closed,a0b,a0a,a0g,a0p,woOk,hr])
  | true =>
    have hb:=a3z hr
    simp (disch:=omega) only [gG,simprocAttr,a2p,a1a]
    repeat' (first | with_reducible refine And.intro ?_ ?_ | intro _)
    all_goals first
      | (refine .of (hc _) ?_
         simp (disch:=omega) only [gG,simprocAttr]
         (refine a0e rfl ?_ ?_<;>simp [pack,lo,loL,V.closed,a0b,a0a,a0g,a0p,woOk,hr,he,show (1:Int)≤gn by omega,show gn≤1099511627776 by omega, *])<;>intros<;>omega)
      | ((refine a0e rfl ?_ ?_<;>simp [pack,lo,loL,V.closed,a0b,a0a,a0g,a0p,woOk,hr, *]); done)
      | ((refine a0e rfl ?_ ?_<;>simp [pack,lo,loL,V.closed,a0b,a0a,a0g,a0p,woOk,hr])<;>intros<;>omega)
end
section
open Go Go.RowKit
theorem e0m (k:Int) (body:Str) (hl:body.length≤1000000):∃ q:NdG×Int,PCall Tryz.prog 217 [.int .i64 k,.str body] (.tup [ndV q.1,.int .i64 q.2])∧(q.2=0→NdOk q.1∧NdB q.1)∧(q.2≠0→q.1=nd0):=by
 obtain ⟨_,h,n,e,rfl,h1,h2⟩:=e3z k body hl;exact ⟨(n,e),h,h1,h2⟩
noncomputable def ndG (k:Int) (body:Str):NdG×Int:=if h:body.length≤1000000 then (e0m k body h).choose else (nd0,1)
theorem d8c (k:Int) (body:Str) (h:body.length≤1000000):PCall Tryz.prog 217 [.int .i64 k,.str body] (.tup [ndV (ndG k body).1,.int .i64 (ndG k body).2])∧((ndG k body).2=0→NdOk (ndG k body).1∧NdB (ndG k body).1)∧((ndG k body).2≠0→(ndG k body).1=nd0):=by
 unfold ndG;rw [dif_pos h];exact (e0m k body h).choose_spec
theorem e6q (n:NdG) (root:Bool) (hb:NdB n):∃ x,PCall Tryz.prog 218 [ndV n,.bool root] (.bool x)∧(x=true→NdOk n):=by
 obtain ⟨_,h,x,rfl,hx⟩:=c2r n root hb;exact ⟨x,h,hx⟩
open Classical in
noncomputable def nR (n:NdG) (root:Bool):Bool:=if h:NdB n then (e6q n root h).choose else false
theorem e7n (n:NdG) (root:Bool) (h:NdB n):PCall Tryz.prog 218 [ndV n,.bool root] (.bool (nR n root))∧(nR n root=true→NdOk n):=by
 unfold nR;rw [dif_pos h];exact (e6q n root h).choose_spec
noncomputable def ldN (w:Wo) (bk:Int) (root:Bool):NdG×Bool :=
 if bk < 10∨(w.n.length:Int)≤bk∨w.n.getD bk.toNat false=false then (nd0,false)
 else if (a0r (w.pages.getD bk.toNat []) [1,2]).2≠0∨w.gen < (a0r (w.pages.getD bk.toNat []) [1,2]).1.g then (nd0,false)
 else if (ndG (a0r (w.pages.getD bk.toNat []) [1,2]).1.k (a0r (w.pages.getD bk.toNat []) [1,2]).1.b).2≠0∨nR (ndG (a0r (w.pages.getD bk.toNat []) [1,2]).1.k (a0r (w.pages.getD bk.toNat []) [1,2]).1.b).1 root=false then (nd0,false)
 else ((ndG (a0r (w.pages.getD bk.toNat []) [1,2]).1.k (a0r (w.pages.getD bk.toNat []) [1,2]).1.b).1,true)
theorem c9h:NdB nd0:=⟨by simp [nd0],by simp [nd0],by simp [nd0],by simp [nd0],by simp [nd0]⟩
theorem b8r {w:Wo} {bk:Int} {root:Bool}:NdB (ldN w bk root).1∧((ldN w bk root).2=true→10≤bk∧bk < w.n.length∧NdOk (ldN w bk root).1):=by
 unfold ldN;split
 ·exact ⟨c9h,by simp⟩
 rename_i c1;split
 ·exact ⟨c9h,by simp⟩
 split
 ·exact ⟨c9h,by simp⟩
 rename_i c2 c3;have hl:=a4a (w.pages.getD bk.toNat []) [1,2];have:=(d8c (a0r (w.pages.getD bk.toNat []) [1,2]).1.k (a0r (w.pages.getD bk.toNat []) [1,2]).1.b (by omega)).2.1 (by simp at c3; exact c3.1);exact ⟨this.2,fun _ => ⟨by omega,by omega,this.1⟩⟩
def lkO (w:Wo) (r:List V):Ob:=.arr 12 [.agg (woL w++r)]
theorem b9f (H:Hp) (a:Nat) (w:Wo) (r:List V) (bk:Int) (root:Bool) (hw:woOk w=true) (ha:a < H.n) (h1:H.m a=some (lkO w r)) (hr:lowL H.n r=true) :
    ACall Tryz.prog 188 [.ptr a 0 0,.int .i64 bk,.bool root] H [a] (.tup [ndV (ldN w bk root).1,.bool (ldN w bk root).2]) [] 3:=by
  have hlow:(lkO w r).low H.n=true:=by
    have h2:∀ {x y:List V},lowL H.n (x++y)=(lowL H.n x && lowL H.n y):=fun {x y} => by
      induction x with
      | nil => simp [lowL]
      | cons v x ih => simp [lowL,ih,Bool.and_assoc]
    have h3:lowL H.n (woL w)=true:=a0h _ (by simpa [woV,V.closed] using a2t w)
    simp [lkO,Ob.low,lowL,V.low,h2,h3,hr]
  refine ena188 (by simp) (by simp [lowL,V.low,ha]) (fun id hid => ?_) (by simp) ?_
  · simp at hid; subst hid
    exact ⟨ha,fun o ho => by rw [h1] at ho; cases ho; exact hlow⟩
  have q1:only [a] H.m a=some (lkO w r):=by simp [only,h1]
  have fE:∀ (x:NdG×Bool) (y:V) (σ:Sg) (H':Hp),ldN w bk root=x→lo y=ndV x.1→resE σ H'.m r188=some [y,.bool x.2]→H'.n≤H.n+3→H'.m a=only [a] H.m a→FinA r188 (only [a] H.m) H.n (.tup [ndV (ldN w bk root).1,.bool (ldN w bk root).2]) [] 3 .ret σ H':=by
    rintro x y σ H' rfl hy hr hn hm
    refine a2o hr (.inr (.inr (by simp [pack,lo,loL,hy]))) hn fun j => ?_
    by_cases hj:j=a
    · subst hj; exact .inr hm.symm
    · left; simp [appd,only,hj]
  obtain ⟨b,n,pg,rt,gn⟩:=w
  simp only [lkO,woL,List.cons_append,List.nil_append] at q1
  simp [woOk] at hw
  have z0:lo (.agg [.bool false,.fsl .nil 1 [],.fsl .nil 1 [],.fsl .nil 1 []])=ndV nd0:=by simp [lo,loL,ndV,nd0,vS,vI,mv]
  by_cases c1:bk < 10∨(n.length:Int)≤bk
  · have hL:ldN ⟨b,n,pg,rt,gn⟩ bk root=(nd0,false):=by unfold ldN; rw [if_pos (by simp only []; omega)]
    rcases Decidable.em (bk < 10) with c2 | c2
    · simp (disch:=omega) only [gG,simprocAttr,c188,c2]
      exact fE _ _ _ _ hL z0 (by simp (disch:=omega) only [r188,resE,find,a7g,a0d,a0c,reduceIte,Nat.reduceEqDiff]; rfl) (by simp) (by simp (disch:=omega) only [a0c,ne_eq])
    · simp (disch:=omega) only [gG,simprocAttr,c188,q1,a2p,c2,show (n.length:Int)≤bk by omega]
      exact fE _ _ _ _ hL z0 (by simp (disch:=omega) only [r188,resE,find,a7g,a0d,a0c,reduceIte,Nat.reduceEqDiff]; rfl) (by simp) (by simp (disch:=omega) only [a0c,ne_eq])
  obtain ⟨i,rfl⟩:∃ i:Nat,bk=i:=⟨bk.toNat,by omega⟩
  have hi:i < n.length:=by omega
  have hg:(bv n)[i]?=some (.bool n[i]):=by simp [bv,mv,hi]
  have hgn:n.getD i false=n[i]:=by simp [List.getD_eq_getElem?_getD,hi]
  have hip:i < pg.length:=by omega
  have hgp:pg.getD i []=pg[i]:=by simp [List.getD_eq_getElem?_getD,hip]
  by_cases c3:n[i]=false
  · have hL:ldN ⟨b,n,pg,rt,gn⟩ i root=(nd0,false):=by unfold ldN; rw [if_pos (by simp only [Int.toNat_natCast,hgn]; exact .inr (.inr c3))]
    rw [c3] at hg
    simp (disch:=omega) only [gG,simprocAttr,c188,q1,a2p,hg,show ¬ (i:Int) < 10 by omega,show ¬ (n.length:Int)≤i by omega]
    exact fE _ _ _ _ hL z0 (by simp (disch:=omega) only [r188,resE,find,a7g,a0d,a0c,reduceIte,Nat.reduceEqDiff]; rfl) (by simp) (by simp (disch:=omega) only [a0c,ne_eq])
  have c3':n[i]=true:=by simpa using c3
  rw [c3'] at hg
  have hpl:=hw.2.2.2.2.2 pg[i] (List.getElem_mem hip)
  have hp:=a8i pg[i] .full [1,2] (by omega) (by simp)
  have hbl:=a4a pg[i] [1,2]
  have hL:ldN ⟨b,n,pg,rt,gn⟩ i root=if (a0r pg[i] [1,2]).2≠0∨gn < (a0r pg[i] [1,2]).1.g then (nd0,false)
      else if (ndG (a0r pg[i] [1,2]).1.k (a0r pg[i] [1,2]).1.b).2≠0∨nR (ndG (a0r pg[i] [1,2]).1.k (a0r pg[i] [1,2]).1.b).1 root=false then (nd0,false)
      else ((ndG (a0r pg[i] [1,2]).1.k (a0r pg[i] [1,2]).1.b).1,true):=by
    unfold ldN
    rw [if_neg (by simp only [Int.toNat_natCast,hgn,c3']; simp; omega)]
    simp only [Int.toNat_natCast,hgp]
  rcases hq:a0r pg[i] [1,2] with ⟨⟨k,g,bd⟩,e⟩
  rw [hq] at hp hbl hL
  simp only [pgV] at hp hbl hL
  have hp':PCall Tryz.prog 78 [.str pg[i],.fsl .full 1 [.int .i64 1,.int .i64 2]] (.tup [.agg [.int .i64 k,.int .i64 g,.str bd],.int .i64 e]):=hp
  simp (disch:=omega) only [gG,simprocAttr,c188,q1,a2p,hg,show ¬ (i:Int) < 10 by omega,show ¬ (n.length:Int)≤i by omega,a2f hip]
  refine ⟨_,hp', ?_⟩
  by_cases c4:e=0
  · subst c4
    by_cases c5:gn < g
    · rw [if_pos (.inr c5)] at hL
      simp (disch:=omega) only [gG,simprocAttr,q1,c5]
      exact fE _ _ _ _ hL z0 (by simp (disch:=omega) only [r188,resE,find,a7g,a0d,a0c,reduceIte,Nat.reduceEqDiff]; rfl) (by simp) (by simp (disch:=omega) only [a0c,ne_eq])
    · rw [if_neg (by simp [c5])] at hL
      obtain ⟨g1,g2,g3⟩:=d8c k bd (by omega)
      simp (disch:=omega) only [gG,simprocAttr,q1,c5]
      refine ⟨_,g1, ?_⟩
      generalize ndG k bd=q at g1 g2 g3 hL ⊢
      obtain ⟨nd,e2⟩:=q
      simp only [] at g1 g2 g3 hL ⊢
      by_cases c6:e2=0
      · subst c6
        have g4:=e7n nd root (g2 rfl).2
        have g5:=g4.1
        generalize nR nd root=x at g4 g5 hL
        obtain ⟨lf,ks,vs,kd⟩:=nd
        have ht:∀ a b c d:V,List.take 4 (List.drop 0 [a,b,c,d])=[a,b,c,d]:=fun _ _ _ _ => rfl
        simp only [ndV] at g5
        simp (disch:=omega) only [gG,simprocAttr,ndV,ht]
        refine ⟨_,g5, ?_⟩
        cases x with
        | false =>
          rw [if_pos (by simp)] at hL
          simp (disch:=omega) only [gG,simprocAttr]
          exact fE _ _ _ _ hL z0 (by simp (disch:=omega) only [r188,resE,find,a7g,a0d,a0c,reduceIte,Nat.reduceEqDiff]; rfl) (by simp) (by simp (disch:=omega) only [a0c,ne_eq])
        | true =>
          rw [if_neg (by simp)] at hL
          simp (disch:=omega) only [gG,simprocAttr,ht]
          exact fE _ (.agg [.bool lf,.fsl .loose 1 (vS ks),.fsl .loose 1 (vS vs),.fsl .loose 1 (vI kd)]) _ _ hL (by simp [lo,loL,ndV,vS,vI,a3e (f:=V.str) (fun _ => rfl),a3e (f:=V.int .i64) (fun _ => rfl)]) (by simp (disch:=omega) only [r188,resE,find,a7g,a0d,a0c,reduceIte,Nat.reduceEqDiff]; rfl) (by simp) (by simp (disch:=omega) only [a0c,ne_eq])
      · rw [if_pos (.inl c6)] at hL
        rw [g3 c6]
        simp (disch:=omega) only [gG,simprocAttr,c6,ndV,nd0]
        exact fE _ _ _ _ hL z0 (by simp (disch:=omega) only [r188,resE,find,a7g,a0d,a0c,reduceIte,Nat.reduceEqDiff]; rfl) (by simp) (by simp (disch:=omega) only [a0c,ne_eq])
  · rw [if_pos (.inl c4)] at hL
    simp (disch:=omega) only [gG,simprocAttr,c4]
    exact fE _ _ _ _ hL z0 (by simp (disch:=omega) only [r188,resE,find,a7g,a0d,a0c,reduceIte,Nat.reduceEqDiff]; rfl) (by simp) (by simp (disch:=omega) only [a0c,ne_eq])
end
section
open Go Go.RowKit
theorem a7x {rvs:List RV} {σ:Sg} {H':Hp} {l:List V} {fp:List Nat} {m:Hm} {n:Nat} {x:AEx} {T:V→List (Nat×Option Ob)→Nat→Prop} (hl:resE σ H'.m rvs=some l) (hx:x=.norm∨x=.ret) (hn:n≤H'.n)
  (h:∀ ds k,n+k=H'.n→(∀ id,appd ds m id=if id∈fp∨(n≤id∧id < H'.n) then H'.m id else m id)→T (pack l) ds k):a8d rvs (only fp m) n fp T x σ H':=by
 obtain ⟨k,hk⟩:∃ k,n+k=H'.n:=⟨H'.n - n,by omega⟩;refine ⟨pack l,dsOf (fp++(List.range k).map (n+·)) H'.m,k,c7f hl (.inl rfl) (by omega) (fun id _ => rfl) hx,fun p hp => ?_,h _ k hk fun id => ?_⟩
 ·simp only [dsOf,List.mem_map,List.mem_append,List.mem_range] at hp;obtain ⟨i,hi,rfl⟩:=hp;rcases hi with hi | ⟨j,hj,rfl⟩
  ·exact .inl hi
  ·exact .inr ⟨by simp,by simp; omega⟩
 ·rw [a1n];have e:id∈fp++(List.range k).map (n+·)↔id∈fp∨(n≤id∧id < H'.n):=by
   simp only [List.mem_append,List.mem_map,List.mem_range];constructor
   ·rintro (h | ⟨j,hj,rfl⟩)
    ·exact .inl h
    ·exact .inr ⟨by omega,by omega⟩
   ·rintro (h | h)
    ·exact .inl h
    ·exact .inr ⟨id - n,by omega,by omega⟩
  by_cases c:id∈fp∨(n≤id∧id < H'.n)
  ·rw [if_pos (e.2 c),if_pos c]
  ·rw [if_neg (fun h => c (e.1 h)),if_neg c]
structure Rdd where
 frm:Str
 most:Nat
 seen:Int
 l:List Pr
 next:Str
 full:Bool
 bad:Bool
def rddL (s:Rdd) (o:Option Nat):List V:=[.str s.frm,.int .i64 s.most,.int .i64 s.seen,rowV 2 o s.l.length,.str s.next,.bool s.full,.bool s.bad]
structure LkSt (n:Nat) (m:Hm) (a:Nat) (w:Wo) (s:Rdd) (o:Option Nat):Prop where
 an:a < n
 box:m a=some (lkO w (rddL s o))
 row:RowOk 0 n m 2 o (mv prV s.l)
 dis:o≠some a
theorem LkSt.congr {n n':Nat} {m m':Hm} {a:Nat} {w:Wo} {s:Rdd} {o:Option Nat} (h:LkSt n m a w s o) (hn:n≤n') (ha:m' a=m a) (ho:∀ i,o=some i→m' i=m i):LkSt n' m' a w s o :=
 ⟨Nat.lt_of_lt_of_le h.an hn,ha.trans h.box,h.row.keep hn ho,h.dis⟩
def fpR (a:Nat) (o:Option Nat):List Nat:=a::o.toList
theorem LkSt.low {n:Nat} {m:Hm} {a:Nat} {w:Wo} {s:Rdd} {o:Option Nat} (h:LkSt n m a w s o):lowL n (rddL s o)=true:=by
 have:∀ i,o=some i→i < n:=fun i e => (h.row.lt e).2;simp [rddL,lowL,V.low,b0r this]
theorem d2i {n:Nat} {w:Wo} {r:List V} (hr:lowL n r=true):(lkO w r).low n=true:=by
 have h2:∀ {x y:List V},lowL n (x++y)=(lowL n x && lowL n y):=fun {x y} => by
  induction x with
  | nil => simp [lowL]
  | cons v x ih => simp [lowL,ih,Bool.and_assoc]
 have h3:lowL n (woL w)=true:=a0h _ (by simpa [woV,V.closed] using a2t w);simp [lkO,Ob.low,lowL,V.low,h2,h3,hr]
theorem LkSt.fp {n:Nat} {m:Hm} {a:Nat} {w:Wo} {s:Rdd} {o:Option Nat} (h:LkSt n m a w s o):∀ id∈fpR a o,id < n∧∀ ob,m id=some ob→ob.low n=true:=by
 intro id hid;simp only [fpR,List.mem_cons,Option.mem_toList] at hid;rcases hid with rfl | hid
 ·exact ⟨h.an,fun ob e => by rw [h.box] at e; cases e; exact d2i h.low⟩
 ·have:=h.row.lt hid;refine ⟨this.2,fun ob e => ?_⟩;have hr:=h.row;subst hid;rw [hr.2.2] at e; cases e;exact a0h _ (a0a a1m)
structure LkTo (P:Rdd→Rdd→Prop) (H:Hp) (a:Nat) (w:Wo) (s:Rdd) (o:Option Nat) (ds:List (Nat×Option Ob)) (k:Nat):Prop where
 st:∃ s' o',LkSt (H.n+k) (appd ds H.m) a w s' o'∧(o'=o∨∃ i,o'=some i∧H.n≤i)∧P s s'
 fr:∀ id,id < H.n→id≠a→o≠some id→appd ds H.m id=H.m id
def a7z (s:Rdd) (key val:Str):Rdd :=
 if s.full=true∨ltS key s.frm=true then s
 else if s.l≠[]∧ltS (s.l.getLastD ([],[])).1 key=false then { s with bad:=true }
 else if s.l.length=s.most then { s with full:=true,next:=key }
 else { s with l:=s.l++[(key,val)] }
theorem d3s (H:Hp) (a:Nat) (w:Wo) (s:Rdd) (o:Option Nat) (key val:Str) (h:LkSt H.n H.m a w s o) (hl:s.l.length≤1000):CEx Tryz.prog 199 [.ptr a 0 0,.str key,.str val] H (fpR a o) (fun r ds k => LkTo (fun s s' => s'=a7z s key val) H a w s o ds k):=by
  refine exA (fun r ds k hd => ena199 (by simp) (by simp [lowL,V.low,h.an]) h.fp hd) rfl ?_
  have hs:LkSt H.n (only (fpR a o) H.m) a w s o:=h.congr (Nat.le_refl _) (by simp [only,fpR]) fun i e => by simp [only,fpR,e]
  have fE:∀ (σ:Sg) (H':Hp) (s':Rdd) (o':Option Nat),H.n≤H'.n→s'=a7z s key val→LkSt H'.n H'.m a w s' o'→(o'=o∨∃ i,o'=some i∧H.n≤i)→a8d r199 (only (fpR a o) H.m) H.n (fpR a o) (fun r ds k => LkTo (fun s s' => s'=a7z s key val) H a w s o ds k) .ret σ H':=by
    intro σ H' s' o' hn hP hS ho
    refine a7x (l:=[]) rfl (.inr rfl) hn fun ds k hk hd => ⟨⟨s',o',hS.congr (by omega) ?_ fun i e => ?_,ho,hP⟩,fun id h1 h2 h3 => ?_⟩
    · rw [hd,if_pos (.inl (by simp [fpR]))]
    · rw [hd,if_pos]
      rcases ho with rfl | ⟨j,rfl,hj⟩
      · exact .inl (by simp [fpR,e])
      · cases e; exact .inr ⟨hj,(hS.row.lt rfl).2⟩
    · rw [hd,if_neg]
      rintro (h | h)
      · simp [fpR] at h
        rcases h with h | h
        · exact h2 h
        · exact h3 h
      · omega
  have q1:=hs.box
  have q2:=hs.row
  have hd:=hs.dis
  have an:=h.an
  obtain ⟨frm,most,seen,l,next,full,bad⟩:=s
  simp only [] at hl q2
  have hsF:∀ (m':Hm) (s':Rdd),s'.l=l→m' a=some (lkO w (rddL s' o))→(∀ i,o=some i→m' i=only (fpR a o) H.m i)→LkSt H.n m' a w s' o:=fun m' s' e1 e2 e3 =>
    ⟨an,e2,by rw [e1]; exact q2.keep (Nat.le_refl _) e3,hd⟩
  obtain ⟨b,n,pg,rt,gn⟩:=w
  simp only [lkO,woL,rddL,List.cons_append,List.nil_append] at q1 hsF
  cases full with
  | true =>
    simp (disch:=omega) only [gG,simprocAttr,c199,q1]
    exact fE _ _ _ _ (Nat.le_refl _) (by simp [a7z]) hs (.inl rfl)
  | false =>
    cases c2:ltS key frm with
    | true =>
      simp (disch:=omega) only [gG,simprocAttr,c199,q1,show Op.bytesLess key frm=true from c2]
      exact fE _ _ _ _ (Nat.le_refl _) (by simp [a7z,c2]) hs (.inl rfl)
    | false =>
      have hlen:lenO false (some (rowV 2 o l.length))=okc True (.int .i64 (l.length:Int)):=q2.len0 mv_len.symm
      have fFull:∀ σ,¬ (l≠[]∧ltS (l.getLastD ([],[])).1 key=false)→l.length=most→∀ m',m' a=some (.arr 12 [.agg [.fsl .loose 1 (bv b),.fsl .loose 1 (bv n),.fsl .loose 1 (vS pg),.int .i64 rt,.int .i64 gn,.str frm,.int .i64 most,.int .i64 seen,rowV 2 o l.length,.str key,.bool true,.bool bad]])→(∀ i,i≠a→m' i=only (fpR a o) H.m i) →
          a8d r199 (only (fpR a o) H.m) H.n (fpR a o) (fun r ds k => LkTo (fun s s' => s'=a7z s key val) H a ⟨b,n,pg,rt,gn⟩ ⟨frm,most,seen,l,next,false,bad⟩ o ds k) .ret σ ⟨H.n,m'⟩:=fun σ k1 k2 m' e1 e2 =>
        fE _ _ ⟨frm,most,seen,l,key,true,bad⟩ o (Nat.le_refl _) (by simp only [a7z]; rw [if_neg (by simp [c2]),if_neg k1,if_pos k2]) (hsF _ ⟨frm,most,seen,l,key,true,bad⟩ rfl e1 fun i e => e2 i fun e' => hd (e' ▸ e)) (.inl rfl)
      have fApp:∀ σ m',¬ (l≠[]∧ltS (l.getLastD ([],[])).1 key=false)→¬ l.length=most→m' H.n=some (.arr 2 (mv prV l++[.agg [.str key,.str val]]))→a8d r199 (only (fpR a o) H.m) H.n (fpR a o) (fun r ds k => LkTo (fun s s' => s'=a7z s key val) H a ⟨b,n,pg,rt,gn⟩ ⟨frm,most,seen,l,next,false,bad⟩ o ds k) .norm σ
          ⟨H.n+1,upd m' a (some (.arr 12 [.agg [.fsl .loose 1 (bv b),.fsl .loose 1 (bv n),.fsl .loose 1 (vS pg),.int .i64 rt,.int .i64 gn,.str frm,.int .i64 most,.int .i64 seen,.sl H.n 0 (l.length+1),.str next,.bool false,.bool bad]]))⟩:=by
        intro σ m' k1 k2 e1
        have dH:H.n≠a:=by omega
        refine a7x (l:=[]) rfl (.inl rfl) (by simp) fun ds k hk hd' => ⟨⟨⟨frm,most,seen,l++[(key,val)],next,false,bad⟩,some H.n,⟨by omega, ?_,⟨by omega,by simp at hk; omega, ?_⟩,by simp; omega⟩,.inr ⟨_,rfl,Nat.le_refl _⟩, ?_⟩,fun id h1 h2 h3 => ?_⟩
        · rw [hd',if_pos (.inl (by simp [fpR]))]
          simp [lkO,woL,rddL,rowV,upd]
        · rw [hd',if_pos (.inr ⟨by simp,by simp⟩)]; simp [upd,dH,e1,mv,prV]
        · simp only [a7z]; rw [if_neg (by simp [c2]),if_neg k1,if_neg k2]
        · rw [hd',if_neg]
          rintro (h | h)
          · simp [fpR] at h
            rcases h with h | h
            · exact h2 h
            · exact h3 h
          · omega
      have hgl:∀ h:0 < l.length,(l.getLastD ([],[])).1=(l[l.length - 1]).1:=fun h => by
        have e:l.length - 1 < l.length:=by omega
        rw [List.getLastD_eq_getLast?,List.getLast?_eq_getElem?,List.getElem?_eq_getElem e]; rfl
      have hnil:l≠[]↔0 < l.length:=by cases l<;>simp
      obtain ⟨N,hN⟩:∃ N,l.length=N:=⟨_,rfl⟩
      have fin2:∀ (K:KI),¬ (l≠[]∧ltS (l.getLastD ([],[])).1 key=false)→¬ l.length=most→(∀ m5 fp ds,appd ds (only (fpR a o) H.m)=m5→m5 H.n=some (.arr 2 (mv prV l++[.agg [.str key,.str val]]))→m5 a=only (fpR a o) H.m a→K (.sl H.n 0 (l.length+1)) fp ds 1) →
          fin (appO ⟨H.n,only (fpR a o) H.m⟩ 2 32 (rowV 2 o l.length) (.fsl .full 2 [.agg [.str key,.str val]])) K:=by
        intro K k1 k2 hk
        refine a9w (lo:=0) (o:=o) (l:=mv prV l) q2 mv_len.symm (by rw [mv_len]; omega) (by decide) fun fp ds hD hB hF => hk _ _ _ rfl (by rw [hD,if_pos rfl]) (by rw [hD,if_neg (show ¬ a=H.n by omega),if_neg hd])
      by_cases c4:N=0
      · have c3:¬ (l≠[]∧ltS (l.getLastD ([],[])).1 key=false):=fun h => by have:=hnil.1 h.1; omega
        simp (disch:=omega) only [gG,simprocAttr,c199,q1,show Op.bytesLess key frm=false from c2]
        rw [hlen]
        simp (disch:=omega) only [gG,simprocAttr,q1,hN,c4]
        rw [hN,c4] at hlen
        rw [hlen]
        simp (disch:=omega) only [gG,simprocAttr,q1]
        refine ⟨fun k => ?_,fun k => ?_⟩
        · exact fFull _ c3 (by omega) _ (by simp [upd]) fun i hi => by simp [upd,hi]
        · refine fin2 _ c3 (by omega) fun m5 fp ds e1 e2 e3 => ?_
          rw [x_nx]
          refine ⟨by simp only [a0u], ?_⟩
          simp only []
          rw [e1]
          rw [q1] at e3
          simp (disch:=omega) only [gG,simprocAttr,e3]
          exact fApp _ m5 c3 (by omega) e2
      · obtain ⟨i,rfl⟩:∃ i,o=some i:=by
          cases o with
          | none => simp [RowOk,mv] at q2; subst q2; exact absurd hN.symm c4
          | some i => exact ⟨i,rfl⟩
        have hi:N - 1 < l.length:=by omega
        have hm:only (fpR a (some i)) H.m i=some (.arr 2 (mv prV l)):=q2.2.2
        have hg:(mv prV l)[N - 1]?=some (.agg [.str l[N - 1].1,.str l[N - 1].2]):=by simp [mv,prV,hi]
        have hrv:rowV 2 (some i) l.length=.sl i 0 N:=by rw [hN]; rfl
        have hli:((N:Int) - 1).toNat=N - 1:=by omega
        have hgl':=hgl (by omega)
        simp only [hN] at hgl'
        simp (disch:=omega) only [gG,simprocAttr,c199,q1,show Op.bytesLess key frm=false from c2,hrv,show (0:Int) < N by omega]
        rw [hm]
        simp (disch:=omega) only [gG,simprocAttr,hm,hg,hli,show (0:Int)≤(N:Int) - 1 by omega,show (N:Int) - 1 < N by omega]
        have hgl2:ltS (l.getLastD ([],[])).1 key=Op.bytesLess (l[N - 1]).1 key:=by rw [hgl']
        cases c5:Op.bytesLess (l[N - 1]).1 key with
        | false =>
          simp (disch:=omega) only [gG,simprocAttr,q1,c5]
          exact fE _ _ ⟨frm,most,seen,l,next,false,true⟩ (some i) (Nat.le_refl _) (by simp only [a7z]; rw [if_neg (by simp [c2]),if_pos ⟨hnil.2 (by omega),by rw [hgl2,c5]⟩]) (hsF _ ⟨frm,most,seen,l,next,false,true⟩ rfl (by simp [upd]) fun j e => by have:j≠a:=fun e' => hd (e' ▸ e); simp [upd,this]) (.inl rfl)
        | true =>
          have c3:¬ (l≠[]∧ltS (l.getLastD ([],[])).1 key=false):=fun h => by rw [hgl2,c5] at h; cases h.2
          simp (disch:=omega) only [gG,simprocAttr,q1,c5,hrv]
          refine ⟨fun k => ?_,fun k => ?_⟩
          · exact fFull _ c3 (by omega) _ (by simp [upd,hrv]) fun i hi => by simp [upd,hi]
          · rw [← hrv]
            refine fin2 _ c3 (by omega) fun m5 fp ds e1 e2 e3 => ?_
            rw [x_nx]
            refine ⟨by simp only [a0u], ?_⟩
            simp only []
            rw [e1]
            rw [q1] at e3
            simp (disch:=omega) only [gG,simprocAttr,e3]
            exact fApp _ m5 c3 (by omega) e2
end
section
open Go Go.RowKit
noncomputable def ksL (w:Wo):List Str:=(List.range w.n.length).flatMap fun (b:Nat) => (ldN w b true).1.keys++(ldN w b false).1.keys
theorem e2j {w:Wo} {bk:Int} {root:Bool} (h:(ldN w bk root).2=true) {k:Str} (hk:k∈(ldN w bk root).1.keys):k∈ksL w:=by
 obtain ⟨h1,h2,_⟩:=(b8r (w:=w) (bk:=bk) (root:=root)).2 h;obtain ⟨i,rfl⟩:∃ i:Nat,bk=i:=⟨bk.toNat,by omega⟩;refine List.mem_flatMap.2 ⟨i,List.mem_range.2 (by omega),List.mem_append.2 ?_⟩;cases root with
 | true => exact .inl hk
 | false => exact .inr hk
structure Iv (w:Wo) (s:Rdd):Prop where
 most:1≤s.most∧s.most≤256
 len:s.l.length≤s.most
 pr:∀ p∈s.l,p.1.length≤1000000∧p.2.length≤1000000∧ltS p.1 s.frm=false∧p.1∈ksL w
 fl:s.full=true→s.next∈ksL w∧ltS s.frm s.next=true
 nf:s.full=false→s.next=[]
 sn:0≤s.seen∧s.seen≤w.n.length+1∧(s.bad=false→s.seen≤w.n.length)
theorem d5r {w:Wo} {s:Rdd} {key val:Str} (h:Iv w s) (hk:key∈ksL w) (h1:key.length≤1000000) (h2:val.length≤1000000):Iv w (a7z s key val)∧(a7z s key val).frm=s.frm∧(a7z s key val).most=s.most∧(a7z s key val).seen=s.seen:=by
 unfold a7z;split
 ·exact ⟨h,rfl,rfl,rfl⟩
 rename_i c1;split
 ·exact ⟨⟨h.most,h.len,h.pr,h.fl,h.nf,⟨h.sn.1,h.sn.2.1,by simp⟩⟩,rfl,rfl,rfl⟩
 rename_i c2;have c1':ltS key s.frm=false:=by
  cases e:ltS key s.frm with
  | false => rfl
  | true => exact absurd (.inr e) c1
 split
 ·rename_i c3;refine ⟨⟨h.most,h.len,h.pr,fun _ => ⟨hk, ?_⟩,by simp,h.sn⟩,rfl,rfl,rfl⟩;have hne:s.l≠[]:=fun e => by have:=h.most.1; rw [e] at c3; simp at c3; omega
  have hl:s.l.getLastD ([],[])∈s.l:=by rw [List.getLastD_eq_getLast?,List.getLast?_eq_some_getLast hne]; exact List.getLast_mem hne
  have h3:=(h.pr _ hl).2.2.1;have h4:ltS (s.l.getLastD ([],[])).1 key=true:=by
   cases e:ltS (s.l.getLastD ([],[])).1 key with
   | true => rfl
   | false => exact absurd ⟨hne,e⟩ c2
  rcases c9k s.frm (s.l.getLastD ([],[])).1 with e | e | e
  ·exact a2a e h4
  ·rw [e]; exact h4
  ·rw [h3] at e; cases e
 ·rename_i c3;refine ⟨⟨h.most, ?_,fun p hp => ?_,h.fl,h.nf,h.sn⟩,rfl,rfl,rfl⟩
  ·have:=h.len; simp; omega
  ·rcases List.mem_append.1 hp with hp | hp
   ·exact h.pr p hp
   ·simp at hp; subst hp; exact ⟨h1,h2,c1',hk⟩
theorem e6h {rvs:List RV} {P:Rdd→Rdd→Prop} {H:Hp} {a:Nat} {w:Wo} {s s':Rdd} {o o':Option Nat} {x:AEx} {σ:Sg} {H':Hp} (hrv:rvs=[]) (hx:x=.norm∨x=.ret) (hn:H.n≤H'.n) (hP:P s s') (hS:LkSt H'.n H'.m a w s' o') (ho:o'=o∨∃ i,o'=some i∧H.n≤i) :
  a8d rvs (only (fpR a o) H.m) H.n (fpR a o) (fun r ds k => LkTo P H a w s o ds k) x σ H':=by
 subst hrv;refine a7x (l:=[]) rfl hx hn fun ds k hk hd => ⟨⟨s',o',hS.congr (by omega) ?_ fun i e => ?_,ho,hP⟩,fun id h1 h2 h3 => ?_⟩
 ·rw [hd,if_pos (.inl (by simp [fpR]))]
 ·rw [hd,if_pos];rcases ho with rfl | ⟨j,rfl,hj⟩
  ·exact .inl (by simp [fpR,e])
  ·cases e; exact .inr ⟨hj,(hS.row.lt rfl).2⟩
 ·rw [hd,if_neg];rintro (h | h)
  ·simp [fpR] at h;rcases h with h | h
   ·exact h2 h
   ·exact h3 h
  ·omega
def Pw (w:Wo) (s s':Rdd):Prop:=Iv w s'∧s'.frm=s.frm∧s'.most=s.most
theorem d0w (a:Nat) (w:Wo) (hw:woOk w=true):∀ (f:Nat) (H:Hp) (s:Rdd) (o:Option Nat) (bk:Int),f≤8→LkSt H.n H.m a w s o→Iv w s→s.bad=false →
  CEx Tryz.prog 143 [.ptr a 0 0,.int .i64 bk,.int .i64 (9 - (f:Int))] H (fpR a o) (fun r ds k => LkTo (Pw w) H a w s o ds k):=by
 intro f
 induction f using Nat.strongRecOn with
 | _ f ih =>
  intro H s o bk hf h hI hb;refine exA (fun r ds k hd => ena143 (by simp) (by simp [lowL,V.low,h.an]) h.fp hd) rfl ?_;have hs:LkSt H.n (only (fpR a o) H.m) a w s o:=h.congr (Nat.le_refl _) (by simp [only,fpR]) fun i e => by simp [only,fpR,e]
  have hwn:w.n.length≤2048:=by
   have:a2y w.b w.n=true:=by simp [woOk] at hw; exact hw.1
   exact (a3z this).2.2
  have q1:=hs.box;have an:=h.an;have hsn:=hI.sn;rw [hb] at hsn;have dj:=h.dis;have hsF:∀ (m':Hm) (s':Rdd),s'.l=s.l→m' a=some (lkO w (rddL s' o))→(∀ i,i≠a→i < H.n→m' i=only (fpR a o) H.m i)→∀ n',H.n≤n'→LkSt n' m' a w s' o:=fun m' s' e1 e2 e3 n' hn' =>
   ⟨by omega,e2,by rw [e1]; exact hs.row.keep hn' fun i e => e3 i (fun e' => dj (e' ▸ e)) (hs.row.lt e).2,dj⟩
  obtain ⟨D,hD⟩:∃ D:Int,9 - (f:Int)=D:=⟨_,rfl⟩;have hP:∀ s':Rdd,Iv w s'→s'.frm=s.frm→s'.most=s.most→Pw w s s':=fun s' h1 h2 h3 => ⟨h1,h2,h3⟩;have hfin:∀ (x:AEx) (σ:Sg) (H':Hp) (s':Rdd) (o':Option Nat),(x=.norm∨x=.ret)→H.n≤H'.n→Pw w s s'→LkSt H'.n H'.m a w s' o'→(o'=o∨∃ i,o'=some i∧H.n≤i) →
   a8d r143 (only (fpR a o) H.m) H.n (fpR a o) (fun r ds k => LkTo (Pw w) H a w s o ds k) x σ H':=fun x σ H' s' o' e1 e2 e3 e4 e5 => e6h rfl e1 e2 e3 e4 e5
  generalize hm0:only (fpR a o) H.m=m0 at hs q1 hsF hfin ⊢;have hl:=fun m r bk root h1 h2 => b9f ⟨H.n,m⟩ a w r bk root hw an h1 h2;have hok:=b8r (w:=w) (bk:=bk) (root:=decide (D=1));have hks:=fun h1 k => e2j (w:=w) (bk:=bk) (root:=decide (D=1)) h1 (k:=k);obtain ⟨frm,most,seen,l,next,full,bad⟩:=s;simp only [] at hb hsn hwn;subst hb;have hS1:=hsF (upd m0 a (some (lkO w (rddL ⟨frm,most,seen+1,l,next,full,false⟩ o)))) ⟨frm,most,seen+1,l,next,full,false⟩ rfl a0d (fun i h1 h2 => a0c h1) H.n (Nat.le_refl _);have hl1:=hl (upd m0 a (some (lkO w (rddL ⟨frm,most,seen+1,l,next,full,false⟩ o)))) (rddL ⟨frm,most,seen+1,l,next,full,false⟩ o) bk (decide (D=1)) hS1.box hS1.low;have hI1:∀ b:Bool,(b=false→seen+1≤w.n.length)→Iv w ⟨frm,most,seen+1,l,next,full,b⟩:=fun b hb => ⟨hI.most,hI.len,hI.pr,hI.fl,hI.nf,⟨by simp only []; omega,by simp only []; have:=hsn.2.2 trivial; omega,hb⟩⟩;obtain ⟨b,n,pg,rt,gn⟩:=w;simp only [lkO,woL,rddL,List.cons_append,List.nil_append] at q1 hS1 hl1 hsF;rw [hD];simp (disch:=omega) only [gG,simprocAttr,c143,q1];refine .of hl1 ?_;generalize ldN ⟨b,n,pg,rt,gn⟩ bk (decide (D=1))=q at hok hks ⊢;obtain ⟨⟨lf,ks,vs,kd⟩,x⟩:=q;have hbad:∀ (σ:Sg) (m':Hm),m' a=some (.arr 12 [.agg [.fsl .loose 1 (bv b),.fsl .loose 1 (bv n),.fsl .loose 1 (vS pg),.int .i64 rt,.int .i64 gn,.str frm,.int .i64 most,.int .i64 (seen+1),rowV 2 o l.length,.str next,.bool full,.bool true]])→(∀ i,i≠a→i < H.n→m' i=m0 i) →
    a8d r143 m0 H.n (fpR a o) (fun r ds k => LkTo (Pw ⟨b,n,pg,rt,gn⟩) H a ⟨b,n,pg,rt,gn⟩ ⟨frm,most,seen,l,next,full,false⟩ o ds k) .ret σ ⟨H.n+3+1,m'⟩:=fun σ m' e1 e2 =>
   hfin _ _ _ ⟨frm,most,seen+1,l,next,full,true⟩ o (.inr rfl) (by simp only []; omega) (hP _ (hI1 true (by simp)) rfl rfl) (hsF m' ⟨frm,most,seen+1,l,next,full,true⟩ rfl e1 e2 _ (by simp only []; omega)) (.inl rfl)
  have hfr:∀ v:Option Ob,∀ u u':Option Ob,∀ i,i≠a→i < H.n→upd (upd (upd (upd m0 a v) (H.n+3) u) (H.n+3) u') a v i=m0 i:=fun v u u' i h1 h2 => by simp [upd,h1,show i≠H.n+3 by omega]
  cases x with
  | false =>
   simp (disch:=omega) only [gG,simprocAttr,ndV];refine hbad _ _ (by simp [upd]) (fun i h1 h2 => by simp [upd,h1,show i≠H.n+3 by omega])
  | true =>
   obtain ⟨hB,hok⟩:=hok;obtain ⟨hb1,hb2,hok⟩:=hok rfl;by_cases c1:8 < D
   ·simp (disch:=omega) only [gG,simprocAttr,ndV,c1];refine hbad _ _ (by simp [upd]) (fun i h1 h2 => by simp [upd,h1,show i≠H.n+3 by omega])
   by_cases c2:(n.length:Int) < seen+1
   ·simp (disch:=omega) only [gG,simprocAttr,ndV,c1,a2p,c2];refine hbad _ _ (by simp [upd]) (fun i h1 h2 => by simp [upd,h1,show i≠H.n+3 by omega])
   obtain ⟨g,rfl⟩:∃ g,f=g+1:=⟨f - 1,by omega⟩;have hsq:∀ v:Option Ob,LkSt (H.n+4) (upd (upd (upd m0 a (some (.arr 12 [.agg [.fsl .loose 1 (bv b),.fsl .loose 1 (bv n),.fsl .loose 1 (vS pg),.int .i64 rt,.int .i64 gn,.str frm,.int .i64 most,.int .i64 (seen+1),rowV 2 o l.length,.str next,.bool full,.bool false]]))) (H.n+3) v) (H.n+3) (some (.arr 4 [.agg [.bool lf,.fsl .loose 1 (vS ks),.fsl .loose 1 (vS vs),.fsl .loose 1 (vI kd)]]))) a ⟨b,n,pg,rt,gn⟩ ⟨frm,most,seen+1,l,next,full,false⟩ o:=fun v =>
    hsF _ ⟨frm,most,seen+1,l,next,full,false⟩ rfl (by simp [upd,show a≠H.n+3 by omega]) (fun i h1 h2 => by simp [upd,h1,show i≠H.n+3 by omega]) _ (by omega)
   have ho3:o≠some (H.n+3):=fun e => by have:=hs.row.lt e; omega
   have hfew:=hok.few;simp only [] at hfew;cases lf with
   | true =>
    simp (disch:=omega) only [gG,simprocAttr,ndV,c1,a2p,c2];refine x_it ks.length (fun i σ H' => ∃ s' o',H.n+4≤H'.n∧LkSt H'.n H'.m a ⟨b,n,pg,rt,gn⟩ s' o'∧H'.m (H.n+3)=some (.arr 4 [.agg [.bool true,.fsl .loose 1 (vS ks),.fsl .loose 1 (vS vs),.fsl .loose 1 (vI kd)]])∧(o'=o∨∃ i,o'=some i∧H.n≤i)∧o'≠some (H.n+3)∧Iv ⟨b,n,pg,rt,gn⟩ s'∧s'.frm=frm∧s'.most=most ∧
     σ=[(0,.ptr a 0 0),(6,.ptr (H.n+3) 0 0),(52,.fsl .loose 1 (vS ks)),(53,.int .i64 ks.length),(54,.int .i64 i)])
     ⟨_,o,Nat.le_refl _,hsq _,a0d,.inl rfl,ho3,hI1 false (fun _ => by simp only []; omega),rfl,rfl,by simp [a1a]⟩ ?_
    rintro T i σ ⟨n',m'⟩ hi ⟨s',o',e1,e2,e3,e4,e5,e6,e7,e8,rfl⟩ hN hX hR;simp only [] at e1 e2 e3;by_cases c3:i < ks.length
    ·have hvl:vs.length=ks.length:=(hok.leaf rfl).1;have c4:i < vs.length:=by omega
     obtain ⟨hi1,hi2,hi3,_⟩:=d5r (key:=ks[i]) (val:=vs[i]) e6 (hks rfl _ (List.getElem_mem c3)) (hB.key _ (List.getElem_mem c3)) (hB.val _ (List.getElem_mem c4));obtain ⟨_,ds,k,hc,⟨s2,o2,hS2,ho2,rfl⟩,hfr2⟩:=d3s ⟨n',m'⟩ a ⟨b,n,pg,rt,gn⟩ s' o' ks[i] vs[i] e2 (by have:=e6.len; have:=e6.most; omega);simp (disch:=omega) only [gG,simprocAttr,show (i:Int) < ks.length by omega,a2f c3,e3,a2f c4];refine .of hc ?_;simp (disch:=omega) only [gG,simprocAttr];refine hN _ _ c3 ⟨_,o2, ?_,hS2, ?_, ?_, ?_,hi1,hi2.trans e7,hi3.trans e8,by simp⟩
     ·simp only []; omega
     ·exact (hfr2 (H.n+3) (by simp only []; omega) (by omega) e5).trans e3
     ·rcases ho2 with rfl | ⟨j,rfl,hj⟩
      ·exact e4
      ·exact .inr ⟨j,rfl,by simp only [] at hj; omega⟩
     ·rcases ho2 with rfl | ⟨j,rfl,hj⟩
      ·exact e5
      ·simp only [] at hj; simp; omega
    ·simp (disch:=omega) only [gG,simprocAttr,show ¬ (i:Int) < ks.length by omega];refine hX _ _ _ ?_;simp (disch:=omega) only [gG,simprocAttr];refine a0l ?_;simp (disch:=omega) only [gG,simprocAttr];exact hfin _ _ _ s' o' (.inr rfl) (by simp only []; omega) (hP _ e6 e7 e8) e2 e4
   | false =>
    obtain ⟨_,hkd,y,hy,rfl⟩:=e4g ⟨false,ks,vs,kd⟩ frm hB;have hkl:kd.length=ks.length+1:=(hok.inner rfl).2;have ht:∀ a b c d:V,List.take 4 (List.drop 0 [a,b,c,d])=[a,b,c,d]:=fun _ _ _ _ => rfl;simp only [ndV] at hkd hy;simp (disch:=omega) only [gG,simprocAttr,ndV,c1,a2p,c2];refine a0l ?_;simp (disch:=omega) only [gG,simprocAttr,ht];refine ⟨_,hkd, ?_⟩;simp (disch:=omega) only [gG,simprocAttr];refine x_it kd.length (fun i σ H' => ∃ s' o',H.n+4≤H'.n∧LkSt H'.n H'.m a ⟨b,n,pg,rt,gn⟩ s' o'∧H'.m (H.n+3)=some (.arr 4 [.agg [.bool false,.fsl .loose 1 (vS ks),.fsl .loose 1 (vS vs),.fsl .loose 1 (vI kd)]])∧(o'=o∨∃ i,o'=some i∧H.n≤i)∧o'≠some (H.n+3)∧Iv ⟨b,n,pg,rt,gn⟩ s'∧s'.frm=frm∧s'.most=most ∧
     σ=[(0,.ptr a 0 0),(2,.int .i64 D),(6,.ptr (H.n+3) 0 0),(10,.int .i64 (y+i:Nat))])
     ⟨_,o,Nat.le_refl _,hsq _,a0d,.inl rfl,ho3,hI1 false (fun _ => by simp only []; omega),rfl,rfl,by simp⟩ ?_
    rintro T i σ ⟨n',m'⟩ hi ⟨s',o',e1,e2,e3,e4,e5,e6,e7,e8,rfl⟩ hN hX hR;simp only [] at e1 e2 e3;have q3:=e2.box;have f1:=e6.sn;obtain ⟨frm',most',seen',l',next',full',bad'⟩:=s';simp only [] at e7 e8 f1;subst e7; subst e8;simp only [lkO,woL,rddL,List.cons_append,List.nil_append] at q3;have hvk:(vI kd).length=kd.length:=by simp [vI,mv_len]
    have hout:∀ x,T (.exit 2) [(0,.ptr a 0 0),(2,.int .i64 D),(6,.ptr (H.n+3) 0 0),(10,.int .i64 (y+i:Nat)),(92,.bool x)] ⟨n',m'⟩:=fun x => by
     refine hX _ _ _ ?_;simp (disch:=omega) only [gG,simprocAttr];exact hfin _ _ _ _ o' (.inl rfl) (by simp only []; omega) (hP _ e6 rfl rfl) e2 e4
    by_cases c3:y+i < kd.length
    ·have hvg:(vI kd)[y+i]?=some (.int .i64 kd[y+i]):=by simp [vI,mv,c3]
     cases full' with
     | true =>
      simp (disch:=omega) only [gG,simprocAttr,e3,hvk,show ((y+i:Nat):Int) < kd.length by omega,q3];exact hout _
     | false =>
      cases bad' with
      | true =>
       simp (disch:=omega) only [gG,simprocAttr,e3,hvk,show ((y+i:Nat):Int) < kd.length by omega,q3];exact hout _
      | false =>
       obtain ⟨_,ds,k,hc,⟨s2,o2,hS2,ho2,hp2⟩,hfr2⟩:=ih g (by omega) ⟨n',m'⟩ _ o' kd[y+i] (by omega) e2 e6 rfl;rw [show 9 - (g:Int)=D+1 by omega] at hc;simp (disch:=omega) only [gG,simprocAttr,e3,hvk,show ((y+i:Nat):Int) < kd.length by omega,q3,hvg];refine .of hc ?_;simp (disch:=omega) only [gG,simprocAttr];refine hN _ _ (by omega) ⟨s2,o2, ?_,hS2, ?_, ?_, ?_,hp2.1,hp2.2.1,hp2.2.2, ?_⟩
       ·simp only []; omega
       ·exact (hfr2 (H.n+3) (by simp only []; omega) (by omega) e5).trans e3
       ·rcases ho2 with rfl | ⟨j,rfl,hj⟩
        ·exact e4
        ·exact .inr ⟨j,rfl,by simp only [] at hj; omega⟩
       ·rcases ho2 with rfl | ⟨j,rfl,hj⟩
        ·exact e5
        ·simp only [] at hj; simp; omega
       ·simp; omega
    ·simp (disch:=omega) only [gG,simprocAttr,e3,hvk,show ¬ ((y+i:Nat):Int) < kd.length by omega];exact hout _
end
section
open Go Go.RowKit
def scT (w:Wo) (frm:Str) (r:V):Prop:=∃ l next e,r=.tup [.fsl .loose 2 (mv prV l),.str next,.int .i64 e] ∧
 (e=0→l.length≤256∧(∀ p∈l,p.1.length≤1000000∧p.2.length≤1000000∧p.1∈ksL w)∧(next=[]∨next∈ksL w∧ltS frm next=true))∧(woOk w=true→frm.length≤32→w.root=0→l=[]∧next=[]∧e=0)
theorem d0m (w:Wo) (frm:Str) (hl:w.pages.length≤1000000):PEx Tryz.prog 92 [woV w,.str frm,.int .i64 256] (scT w frm):=by
 refine exP (fun r => en92 (by simp) (by simp [a0b,a2t,V.closed])) rfl ?_;have hr:=a9g w hl;have hF:∀ (σ:Sg) (H:Hp) (e:Int),e≠0→¬ (woOk w=true∧frm.length≤32∧w.root=0)→resE σ H.m r92=some [.fsl .nil 2 [],.str [],.int .i64 e]→FinE r92 (scT w frm) .ret σ H:=fun σ H e he hn hr =>
  ⟨.tup [.fsl .loose 2 (mv prV []),.str [],.int .i64 e],a0e hr rfl (by simp [pack,lo,loL,mv]),[],[],e,rfl,fun h => absurd h he,fun h1 h2 h3 => absurd ⟨h1,h2,h3⟩ hn⟩
 cases hw:woOk w with
 | false =>
  rw [hw] at hr;obtain ⟨b,n,pg,rt,gn⟩:=w;have ht:∀ a b c d e:V,List.take 5 (List.drop 0 [a,b,c,d,e])=[a,b,c,d,e]:=fun _ _ _ _ _ => rfl;simp only [woV,woL] at hr;simp (disch:=omega) only [gG,simprocAttr,c92,woV,woL,ht];refine ⟨_,hr, ?_⟩;simp (disch:=omega) only [gG,simprocAttr];exact hF _ _ 1 (by decide) (by simp [hw]) rfl
 | true =>
  rw [hw] at hr;by_cases c1:frm.length≤32
  case neg =>
   obtain ⟨b,n,pg,rt,gn⟩:=w;have ht:∀ a b c d e:V,List.take 5 (List.drop 0 [a,b,c,d,e])=[a,b,c,d,e]:=fun _ _ _ _ _ => rfl;simp only [woV,woL] at hr;simp (disch:=omega) only [gG,simprocAttr,c92,woV,woL,ht];refine ⟨_,hr, ?_⟩;simp (disch:=omega) only [gG,simprocAttr,show (32:Int) < frm.length by omega];exact hF _ _ 1 (by decide) (by simp [c1]) rfl
  have hwn:w.n.length≤2048:=by
   have:a2y w.b w.n=true:=by simp [woOk] at hw; exact hw.1
   exact (a3z this).2.2
  have tail:∀ (n:Nat) (m:Hm) (s:Rdd) (o:Option Nat),LkSt n m 1 w s o→o≠some 1→(s.l.length≤256∧(∀ p∈s.l,p.1.length≤1000000∧p.2.length≤1000000∧p.1∈ksL w)∧(s.next=[]∨s.next∈ksL w∧ltS frm s.next=true))→(w.root=0→s.l=[]∧s.next=[]∧s.bad=false) →
    evX Tryz.prog c92.snd.snd.snd.snd [(9,.ptr 1 0 0)] ⟨n,m⟩ (FinE r92 (scT w frm)):=by
   intro n m s o hS ho hT h0;have hb:=hS.box;have hrow:=hS.row;obtain ⟨frm',most,seen,l,next,full,bad⟩:=s;obtain ⟨b,n',pg,rt,gn⟩:=w;simp only [lkO,woL,rddL,List.cons_append,List.nil_append] at hb hrow hT h0
   show evX Tryz.prog (.frz _) _ _ _;refine d4y o.toList ?_;have cl:∀ v:V,v.closed=true→snap 3 (only o.toList m) v=some v:=fun v hv => a1k hv;have hrs:=a6r (k:=2) (fz:=o.toList) hrow (a0a a1m) (fun i e => by rw [e]; simp) mv_len.symm;have z2:frzV o.toList m (.agg [.fsl .loose 1 (bv b),.fsl .loose 1 (bv n'),.fsl .loose 1 (vS pg),.int .i64 rt,.int .i64 gn,.str frm',.int .i64 most,.int .i64 seen,rowV 2 o l.length,.str next,.bool full,.bool bad])=.agg [.fsl .loose 1 (bv b),.fsl .loose 1 (bv n'),.fsl .loose 1 (vS pg),.int .i64 rt,.int .i64 gn,.str frm',.int .i64 most,.int .i64 seen,.fsl (stO o) 2 (mv prV l),.str next,.bool full,.bool bad]:=by
    unfold frzV;rw [a8l (n:=3) (l':=[.fsl .loose 1 (bv b),.fsl .loose 1 (bv n'),.fsl .loose 1 (vS pg),.int .i64 rt,.int .i64 gn,.str frm',.int .i64 most,.int .i64 seen,.fsl (stO o) 2 (mv prV l),.str next,.bool full,.bool bad])];simp only [mapO,hrs,cl (.fsl .loose 1 (bv b)) (by simp [V.closed,a0g]),cl (.fsl .loose 1 (bv n')) (by simp [V.closed,a0g]),cl (.fsl .loose 1 (vS pg)) (by simp [V.closed,a0i]),cl (.int _ _) rfl,cl (.str _) rfl,cl (.bool _) rfl]
   have d1:frzH o.toList m 1=some (.arr 12 [.agg [.fsl .loose 1 (bv b),.fsl .loose 1 (bv n'),.fsl .loose 1 (vS pg),.int .i64 rt,.int .i64 gn,.str frm',.int .i64 most,.int .i64 seen,.fsl (stO o) 2 (mv prV l),.str next,.bool full,.bool bad]]):=by
    simp [frzH,ho,hb,frzO,z2]
   have hs:frzS o.toList m [(9,.ptr 1 0 0)]=[(9,.ptr 1 0 0)]:=by simp [frzS,frzV,snap,V.closed]
   rw [hs];generalize frzH o.toList m=m' at d1 ⊢
   show evX Tryz.prog (.seq _ _) _ _ _;cases bad with
   | true =>
    simp (disch:=omega) only [gG,simprocAttr,d1];exact hF _ _ 81 (by decide) (fun h => by have:=(h0 h.2.2).2.2; cases this) rfl
   | false =>
    simp (disch:=omega) only [gG,simprocAttr,d1];exact ⟨.tup [.fsl .loose 2 (mv prV l),.str next,.int .i64 0],a0e rfl (by simp [pack,V.closed,a0b,a0a a1m]) (by simp [pack,lo,loL,a3e c9q]),l,next,0,rfl,fun _ => hT,fun _ _ h => ⟨(h0 h).1,(h0 h).2.1,rfl⟩⟩
  have hst:∀ m,m 1=some (lkO w (rddL ⟨frm,256,0,[],[],false,false⟩ none))→LkSt 2 m 1 w ⟨frm,256,0,[],[],false,false⟩ none:=fun m h => ⟨by decide,h,rfl,by simp⟩;have hwk:=fun m h => d0w 1 w hw 8 ⟨2,m⟩ ⟨frm,256,0,[],[],false,false⟩ none w.root (by decide) (hst m h) ⟨⟨by simp,by simp⟩,by simp,by simp,by simp,by simp,⟨by simp,by simp; omega,by simp⟩⟩ rfl;obtain ⟨b,n,pg,rt,gn⟩:=w;have ht:∀ a b c d e:V,List.take 5 (List.drop 0 [a,b,c,d,e])=[a,b,c,d,e]:=fun _ _ _ _ _ => rfl;simp only [woV,woL] at hr;simp (disch:=omega) only [gG,simprocAttr,c92,woV,woL,ht];refine ⟨_,hr, ?_⟩;simp (disch:=omega) only [gG,simprocAttr,show ¬ (32:Int) < frm.length by omega,ht];obtain ⟨m,hm⟩:∃ m,m=upd (upd (fun _ => none) 0 (some (.arr 5 [.agg [.fsl .loose 1 (bv b),.fsl .loose 1 (bv n),.fsl .loose 1 (vS pg),.int .i64 rt,.int .i64 gn]]))) 1 (some (lkO ⟨b,n,pg,rt,gn⟩ (rddL ⟨frm,256,0,[],[],false,false⟩ none))):=⟨_,rfl⟩;have hm1:m 1=some (lkO ⟨b,n,pg,rt,gn⟩ (rddL ⟨frm,256,0,[],[],false,false⟩ none)):=by rw [hm,a0d]
  refine ⟨fun c => ?_,fun c => ?_⟩
  ·obtain ⟨_,ds,k,hc,⟨s',o',hS',ho',hp⟩,_⟩:=hwk m hm1;rw [show (9:Int) - ((8:Nat):Int)=1 by decide] at hc;subst hm;refine .of hc ?_;simp (disch:=omega) only [gG,simprocAttr];have hI:=hp.1;have hm:=hp.2.2;simp only [] at hm;refine tail _ _ s' o' hS' ?_ ⟨?_,fun p hq => ⟨(hI.pr p hq).1,(hI.pr p hq).2.1,(hI.pr p hq).2.2.2⟩, ?_⟩ fun h => absurd h c
   ·rcases ho' with rfl | ⟨j,rfl,hj⟩
    ·simp
    ·simp only [] at hj; simp; omega
   ·have:=hI.len; omega
   ·cases hf:s'.full with
    | true => have:=hI.fl hf; rw [hp.2.1] at this; exact .inr this
    | false => exact .inl (hI.nf hf)
  ·exact tail _ _ _ none (hst _ (hm ▸ hm1)) (by simp) ⟨by simp,by simp,.inl rfl⟩ fun _ => ⟨rfl,rfl,rfl⟩
end
def putP:List Pr→Str→Str→List Pr
 | [],k,v => [(k,v)]
 | p::r,k,v => if k=p.1 then (k,v)::r else p::putP r k v
def ixP:List Pr→Str→Nat
 | [],_ => 0
 | p::r,k => if k=p.1 then 0 else ixP r k+1
def delP (l:List Pr) (k:Str):List Pr:=l.eraseIdx (ixP l k)
def mvS (l:List Pr):List (V×V):=l.map fun p => (.str p.1,.str p.2)
theorem a9m {a b:Str}:keq (.str a) (.str b)=decide (a=b):=by rw [Bool.eq_iff_iff]; simp [keq]
theorem a8f (k v:Str):∀ l:List Pr,mset (mvS l) (.str k) (.str v)=mvS (putP l k v)
 | [] => rfl
 | p::r => by
  have ih:=a8f k v r;simp only [mvS,List.map_cons,mset,putP] at ih ⊢;by_cases h:k=p.1
  ·simp [a9m,h]
  ·simp only [a9m,h,decide_false,if_false,List.map_cons,Bool.false_eq_true];rw [ih]
theorem c7m (k:Str):∀ l:List Pr,mix (mvS l) (.str k)=ixP l k
 | [] => rfl
 | p::r => by
  have ih:=c7m k r;simp only [mvS,List.map_cons,mix,ixP] at ih ⊢;by_cases h:k=p.1
  ·simp [a9m,h]
  ·simp [a9m,h,ih]
theorem a8s (k:Str):∀ l:List Pr,mget (mvS l) (.str k)=none↔k∉l.map (·.1)
 | [] => by simp [mvS,mget]
 | p::r => by
  have ih:=a8s k r;simp only [mvS,List.map_cons,mget] at ih ⊢;by_cases h:k=p.1
  ·simp [a9m,h]
  ·simp only [a9m,h,decide_false,if_false,Bool.false_eq_true,List.mem_cons,false_or];exact ih
theorem b5r (k:Str) (l:List Pr):a3r [8] (.str k) (mvS l):=by
 refine ⟨by simp [a2g],fun p hp => ?_⟩;obtain ⟨q,_,rfl⟩:=List.mem_map.1 hp;simp [a2g]
theorem b6e {k v:Str}:∀ {l:List Pr},k∈l.map (·.1)→(putP l k v).map (·.1)=l.map (·.1)
 | [],h => by simp at h
 | p::r,h => by
  simp only [putP];by_cases e:k=p.1
  ·simp [e]
  ·rw [if_neg e];simp only [List.map_cons,List.mem_cons] at h ⊢;rw [b6e (h.resolve_left e)]
theorem b0i {k v:Str}:∀ {l:List Pr},k∉l.map (·.1)→putP l k v=l++[(k,v)]
 | [],_ => rfl
 | p::r,h => by
  simp only [List.map_cons,List.mem_cons,not_or] at h;simp only [putP,if_neg h.1,b0i h.2,List.cons_append]
theorem b6m {k v:Str} {q:Pr}:∀ {l:List Pr},q∈putP l k v→q=(k,v)∨q∈l
 | [],h => by simp [putP] at h; exact .inl h
 | p::r,h => by
  simp only [putP] at h;split at h
  ·rcases List.mem_cons.1 h with h | h
   ·exact .inl h
   ·exact .inr (List.mem_cons_of_mem _ h)
  ·rcases List.mem_cons.1 h with h | h
   ·exact .inr (by simp [h])
   ·exact (b6m h).imp id (List.mem_cons_of_mem _)
theorem d5d (l:List Pr) (k v:Str):(putP l k v).length≤l.length+1:=by
 by_cases h:k∈l.map (·.1)
 ·have:=congrArg List.length (b6e (v:=v) h); simp at this; omega
 ·rw [b0i h]; simp
structure MdOk (c:Nat) (bs:List Nat) (l:List Pr):Prop where
 len:bs.length=l.length
 nd:bs.Nodup
 lt:∀ b∈bs,b < c
 keys:(a1i l).Nodup
theorem MdOk.put {c:Nat} {bs:List Nat} {l:List Pr} (h:MdOk c bs l) (k v:Str):∃ c' bs',b1m c bs (mvS l) (.str k) (.str v)=.md c' bs' (mvS (putP l k v))∧MdOk c' bs' (putP l k v):=by
 by_cases hk:k∈l.map (·.1)
 ·have e:∃ u,mget (mvS l) (.str k)=some u:=by
   cases hm:mget (mvS l) (.str k) with
   | none => exact absurd hk ((a8s k l).1 hm)
   | some u => exact ⟨u,rfl⟩
  obtain ⟨u,e⟩:=e;have hkk:=b6e (v:=v) hk;refine ⟨c,bs,by simp only [b1m,e,a8f],⟨?_,h.nd,h.lt,by unfold a1i; rw [hkk]; exact h.keys⟩⟩;have:=congrArg List.length hkk;simp at this;rw [this]; exact h.len
 ·have e:=(a8s k l).2 hk;refine ⟨c+1,bs++[c],by simp only [b1m,e,a8f], ?_⟩;rw [b0i hk];refine ⟨by simp [h.len], ?_,fun b hb => ?_, ?_⟩
  ·refine List.nodup_append.2 ⟨h.nd,by simp,fun a ha b hb => ?_⟩;simp at hb; subst hb;have:=h.lt a ha; omega
  ·rcases List.mem_append.1 hb with hb | hb
   ·have:=h.lt b hb; omega
   ·simp at hb; omega
  ·unfold a1i;rw [List.map_append];refine List.nodup_append.2 ⟨h.keys,by simp,fun a ha b hb => ?_⟩;simp at hb; subst hb;intro e; subst e; exact hk ha
theorem e6t {α β:Type} (f:α→β) (l:List α) (j:Nat):(l.eraseIdx j).map f=(l.map f).eraseIdx j:=b9p f l j
theorem MdOk.del {c:Nat} {bs:List Nat} {l:List Pr} (h:MdOk c bs l) (k:Str):(mvS l).eraseIdx (mix (mvS l) (.str k))=mvS (delP l k)∧MdOk c (bs.eraseIdx (mix (mvS l) (.str k))) (delP l k):=by
 rw [c7m];refine ⟨by unfold mvS delP; rw [e6t],⟨?_,h.nd.sublist (List.eraseIdx_sublist _ _),fun b hb => h.lt b ((List.eraseIdx_sublist _ _).subset hb), ?_⟩⟩
 ·unfold delP;by_cases hi:ixP l k < l.length
  ·rw [List.length_eraseIdx_of_lt (by rw [h.len]; exact hi),List.length_eraseIdx_of_lt hi,h.len]
  ·rw [List.eraseIdx_of_length_le (by rw [h.len]; omega),List.eraseIdx_of_length_le (by omega),h.len]
 ·unfold a1i delP;rw [e6t];exact h.keys.sublist (List.eraseIdx_sublist _ _)
theorem d5w {k:Str} {q:Pr} {l:List Pr} (h:q∈delP l k):q∈l:=(List.eraseIdx_sublist _ _).subset h
theorem d6e (l:List Pr) (k:Str):(delP l k).length≤l.length:=(List.eraseIdx_sublist _ _).length_le
theorem b6u {α:Type} [DecidableEq α]:∀ {l K:List α},l.Nodup→(∀ x∈l,x∈K)→l.length≤K.length
 | [],_,_,_ => by simp
 | a::l,K,h,hs => by
  obtain ⟨h1,h2⟩:=List.nodup_cons.1 h;have ha:=hs a (by simp);have:=b6u (l:=l) (K:=K.erase a) h2 (fun x hx => (List.mem_erase_of_ne (fun e => h1 (by rw [← e]; exact hx))).2 (hs x (by simp [hx])));rw [List.length_erase_of_mem ha] at this;have:=List.length_pos_of_mem ha;simp; omega
theorem d2n {α:Type} {p q:α→Bool} {a:α} (hi:∀ x,q x=true→p x=true) (hp:p a=true) (hq:q a=false):∀ {l:List α},a∈l→l.countP q < l.countP p
 | [],h => by simp at h
 | b::l,h => by
  have hle:l.countP q≤l.countP p:=List.countP_mono_left fun x _ h => hi x h;rw [List.countP_cons,List.countP_cons];rcases List.mem_cons.1 h with rfl | h
  ·simp [hp,hq]; omega
  ·have:=d2n hi hp hq h;by_cases e:q b=true
   ·simp [e,hi b e]; omega
   ·simp [e]; split<;>omega
def putL (M l:List Pr):List Pr:=l.foldl (fun M p => putP M p.1 p.2) M
theorem c8p (M l:List Pr) (p:Pr):putL M (l++[p])=putP (putL M l) p.1 p.2:=by simp [putL]
def c126:C:=(.seq (rr [p (.mov (.k (.bool false)))] [vv 0,vv 1,vv 2]) (.seq (rr [mw 0,p (.load (none) (.v 1)),p (.bin .lss (.r 1) (.r 0)),mr 0,⟨.load (none) (.v 2),some (0,false),[]⟩,⟨.bin .neq (.r 0) (.k (.str [])),some (1,false),[]⟩,⟨.mov (.r 0),some (2,false),[]⟩,⟨.mov (.v 0),some (0,true),[]⟩,⟨.load (none) (.v 2),some (1,true),[]⟩,⟨.bin .geq (.r 1) (.r 0),some (2,true),[]⟩,⟨.pick (.r 3) (.r 0) (.k (.bool false)),some (6,false),[]⟩,p (.pick (.r 7) (.k (.bool true)) (.r 0)),mr 0] [(4,.r 0)]) .ret))
def r126:List RV:=[.t 4]
theorem ena126:EnA Tryz.prog 126 17 c126 r126:=meA Tryz.func126
def c73:C:=(.seq (rr [p (.box 1 (.v 3)),p (.box 1 (.v 4))] [vv 0,vv 1,vv 2,(8,.r 1),(9,.r 0)]) (.seq (rr [mw 0,p (.nck (.r 0)),p (.fad 0 (.r 0)),p (.load (some 5) (.r 0)),mw 1,mw 2,p (.bin .eql (.r 0) (kn 1)),p (.call true (.k (.fn 125 [] [])) [.r 3,.r 2,.r 0]),mr 0,xt 0 0,xt 1 1,p (.alloc 4 (.agg [.bool false,.fsl .nil 1 [],.fsl .nil 1 [],.fsl .nil 1 []])),p (.store (some 4) (.r 0) (.r 2)),mr 2] [vv 0,vv 1,vv 2,vv 8,vv 9,(10,.r 2),(11,.r 0)]) (.seq (.seq (rr [mw 11,p (.bin .neq (.r 0) (kn 0)),mr 0,⟨.mov (.v 2),some (0,false),[]⟩,⟨.bin .gtr (.r 0) (kn 8),some (1,false),[]⟩,p (.pick (.r 2) (.k (.bool true)) (.r 0)),mr 0,⟨.mov (.v 0),some (0,false),[]⟩,⟨.nck (.r 0),some (1,false),[]⟩,⟨.fad 8 (.r 0),some (2,false),[]⟩,⟨.load (none) (.r 0),some (3,false),[]⟩,⟨.mov (.v 1),some (4,false),[]⟩,⟨.iad 1 (.r 1) (.r 0),some (5,false),[]⟩,⟨.load (none) (.r 0),some (6,false),[]⟩,p (.pick (.r 7) (.k (.bool true)) (.r 0)),mr 0,⟨.fad 0 (.v 10),some (0,false),[]⟩,⟨.load (none) (.r 0),some (1,false),[]⟩,⟨.mov (.r 0),some (2,false),[]⟩,⟨.fad 1 (.v 10),some (0,true),[]⟩,⟨.load (none) (.r 0),some (1,true),[]⟩,⟨.len false (.r 0),some (2,true),[]⟩,⟨.bin .eql (.r 0) (kn 0),some (3,true),[]⟩,⟨.pick (.r 4) (.r 0) (.k (.bool false)),some (7,false),[]⟩,p (.pick (.r 8) (.k (.bool true)) (.r 0))] [vv 0,vv 1,vv 2,vv 8,vv 9,vv 10,(51,.r 0)]) (.cond (.v 51) (.seq (rr [mw 0,p (.nck (.r 0)),p (.fad 9 (.r 0)),p (.store (none) (.r 0) (.k (.bool true)))] []) .ret) .skip)) (.seq (rr [mw 0,p (.nck (.r 0)),p (.fad 8 (.r 0)),ld 0,mw 1,p (.iad 1 (.r 1) (.r 0)),p (.store (none) (.r 0) (.k (.bool true)))] [vv 0,vv 2,vv 8,vv 9,vv 10]) (.seq (rr [mw 0,p (.nck (.r 0)),p (.fad 5 (.r 0)),p (.fad 2 (.r 0)),ld 0,p (.bin .add (.r 0) (kn 1)),p (.nck (.r 5)),p (.fad 5 (.r 0)),p (.fad 2 (.r 0)),p (.store (none) (.r 0) (.r 3))] [vv 0,vv 2,vv 8,vv 9,vv 10]) (.seq (.seq (rr [p (.fad 1 (.v 10)),ld 0,p (.mkf 126 [] [.v 8,.v 9]),p (.call false (.k (.fn 123 [] [])) [.r 1,.r 0])] [vv 0,vv 2,vv 8,vv 9,vv 10,(73,.r 0)]) (.cond (.v 73) (.seq (rr [mw 0,p (.nck (.r 0)),p (.fad 9 (.r 0)),p (.store (none) (.r 0) (.k (.bool true)))] []) .ret) .skip)) (.seq (.seq (rr [p (.fad 0 (.v 10)),ld 0] [vv 0,vv 2,vv 8,vv 9,vv 10,(78,.r 0)]) (.cond (.v 78) (.seq (rr [mw 0,mw 0,p (.nck (.r 0)),p (.fad 9 (.r 0)),ld 0,mr 0,⟨.mov (.v 0),some (0,false),[]⟩,⟨.nck (.r 0),some (1,false),[]⟩,⟨.fad 5 (.r 0),some (2,false),[]⟩,⟨.fad 1 (.r 0),some (3,false),[]⟩,⟨.load (none) (.r 0),some (4,false),[]⟩,⟨.bin .neq (.r 0) (kn 0),some (5,false),[]⟩,⟨.mov (.r 0),some (6,false),[]⟩,⟨.mov (.v 0),some (0,true),[]⟩,⟨.nck (.r 0),some (1,true),[]⟩,⟨.fad 5 (.r 0),some (2,true),[]⟩,⟨.fad 1 (.r 0),some (3,true),[]⟩,⟨.load (none) (.r 0),some (4,true),[]⟩,⟨.mov (.v 2),some (5,true),[]⟩,⟨.bin .neq (.r 1) (.r 0),some (6,true),[]⟩,⟨.pick (.r 7) (.r 0) (.k (.bool false)),some (14,false),[]⟩,p (.pick (.r 15) (.k (.bool true)) (.r 0)),p (.nck (.r 21)),p (.fad 9 (.r 0)),p (.store (none) (.r 0) (.r 2))] [vv 0,vv 2,vv 10]) (.seq (rr [mw 0,mw 2,p (.nck (.r 1)),p (.fad 5 (.r 0)),p (.fad 1 (.r 0)),p (.store (none) (.r 0) (.r 3))] [vv 0,vv 10]) (.seq (.reg true [mw 0,p (.nck (.r 0)),p (.fad 5 (.r 0)),p (.fad 0 (.r 0)),ld 0,p (.fad 1 (.v 10)),ld 0,p (.len false (.r 0)),p (.bin .add (.r 3) (.r 0)),p (.nck (.r 8)),p (.fad 5 (.r 0)),p (.fad 0 (.r 0)),p (.store (none) (.r 0) (.r 3))] []) .ret))) .skip)) (.seq (rr [p (.fad 3 (.v 10)),ld 0,p (.len false (.r 0)),p (.mov (kn 0))] [vv 0,vv 2,vv 8,vv 9,vv 10,(121,.r 2),(122,.r 1),(123,.r 0)]) (.block 0 (.loop (.seq (rr [p (.bin .lss (.v 123) (.v 122))] [vv 0,vv 2,vv 8,vv 9,vv 10,vv 121,vv 122,vv 123,(124,.r 0)]) (.seq (.cond (.v 124) .skip (.exit 0)) (.seq (.block 1 (.seq (rr [mw 123,p (.iad 1 (.v 121) (.v 123)),ld 0,mr 2,mr 1] [vv 0,vv 2,vv 8,vv 9,vv 10,(12,.r 1),(13,.r 0),vv 121,vv 122,vv 123]) (.seq (.reg true [p (.load (none) (.v 8)),p (.load (none) (.v 9)),mr 1,mr 1] [vv 0,vv 2,vv 8,vv 9,vv 10,vv 12,vv 13,(14,.r 1),(15,.r 0),vv 121,vv 122,vv 123]) (.seq (.seq (rr [mw 12,p (.bin .gtr (.r 0) (kn 0))] [vv 0,vv 2,vv 8,vv 9,vv 10,vv 12,vv 13,vv 14,vv 15,vv 121,vv 122,vv 123,(131,.r 0)]) (.cond (.v 131) (rr [p (.fad 1 (.v 10)),ld 0,mw 12,p (.bin .sub (.r 0) (kn 1)),p (.iad 1 (.r 2) (.r 0)),ld 0,mr 0] [vv 0,vv 2,vv 8,vv 9,vv 10,vv 12,vv 13,(14,.r 0),vv 15,vv 121,vv 122,vv 123]) .skip)) (.seq (.seq (rr [mw 12,p (.fad 1 (.v 10)),ld 0,p (.len false (.r 0)),p (.bin .lss (.r 3) (.r 0))] [vv 0,vv 2,vv 8,vv 9,vv 10,vv 12,vv 13,vv 14,vv 15,vv 121,vv 122,vv 123,(142,.r 0)]) (.cond (.v 142) (rr [p (.fad 1 (.v 10)),ld 0,mw 12,p (.iad 1 (.r 1) (.r 0)),ld 0,mr 0] [vv 0,vv 2,vv 8,vv 9,vv 10,vv 13,vv 14,(15,.r 0),vv 121,vv 122,vv 123]) .skip)) (.seq (rr [mw 0,mw 13,mw 2,p (.bin .add (.r 0) (kn 1)),mw 14,mw 15,p (.call false (.k (.fn 73 [] [])) [.r 5,.r 4,.r 2,.r 1,.r 0])] [vv 0,vv 2,vv 8,vv 9,vv 10,vv 121,vv 122,vv 123]) (.seq (rr [mw 0,p (.nck (.r 0)),p (.fad 9 (.r 0)),ld 0] [vv 0,vv 2,vv 8,vv 9,vv 10,vv 121,vv 122,vv 123,(158,.r 0)]) (.cond (.v 158) .ret .skip)))))))) (rr [p (.bin .add (.v 123) (kn 1)),mr 0] [vv 0,vv 2,vv 8,vv 9,vv 10,vv 121,vv 122,(123,.r 0)]))))))))))))))
def r73:List RV:=[]
theorem ena73:EnA Tryz.prog 73 160 c73 r73:=meA Tryz.func73
def c27:C:=(.seq (rr [p (.box 5 (.v 0)),p (.mov (.k (.nilp))),p (.mov (kn 0))] [(1,.r 2)]) (.seq (.seq (rr [p (.load (some 5) (.v 1)),p (.call true (.k (.fn 72 [] [])) [.r 0]),p (.un .not (.r 0))] [vv 1,(7,.r 0)]) (.cond (.v 7) (.seq (rr [p (.mov (.k (.nilp))),p (.mov (kn 1))] [(2,.r 1),(3,.r 0)]) .ret) .skip)) (.seq (.reg true [p (.load (some 5) (.v 1)),p (.fad 0 (.v 1)),p (.fad 1 (.r 0)),ld 0,p (.len false (.r 0)),⟨.mks 1 1 (.bool false) (.r 0),none,[4]⟩,p (.build [.fsl .nil 1 [],.fsl .nil 1 [],.fsl .nil 1 [],.int .i64 0,.int .i64 0,.int .i64 0,.int .i64 0,.int .i64 0,.fsl .nil 1 [],.bool false] [(0,5,.r 5),(8,1,.r 0)]),p (.box 10 (.r 0)),mr 0] [vv 1,(4,.r 0)]) (.seq (.seq (rr [p (.fad 3 (.v 1)),ld 0,p (.bin .neq (.r 0) (kn 0))] [vv 1,vv 4,(18,.r 0)]) (.cond (.v 18) (rr [mw 4,p (.fad 3 (.v 1)),ld 0,p (.call false (.k (.fn 73 [] [])) [.r 2,.r 0,kn 1,.k (.str []),.k (.str [])])] [vv 4]) .skip)) (.seq (.seq (rr [mw 4,p (.nck (.r 0)),p (.fad 9 (.r 0)),ld 0] [vv 4,(26,.r 0)]) (.cond (.v 26) (.seq (rr [p (.mov (.k (.nilp))),p (.mov (kn 81))] [(2,.r 1),(3,.r 0)]) .ret) .skip)) (.seq (rr [mw 4,mr 0,p (.mov (kn 0))] [(2,.r 1),(3,.r 0)]) .ret))))))
def r27:List RV:=[.t 2,.t 3]
theorem ena27:EnA Tryz.prog 27 28 c27 r27:=meA Tryz.func27
def c12:C:=(.seq (rr [p (.box 5 (.v 0)),p (.alloc 3 (.agg [.int .i64 0,.int .i64 0,.int .i64 0])),p (.mov (kn 0))] [vv 1,(2,.r 2),(4,.r 1)]) (.seq (rr [p (.load (some 5) (.v 2)),p (.call false (.k (.fn 27 [] [])) [.r 0]),mr 0,xt 0 0,xt 1 1,mr 1,mr 1] [vv 1,vv 4,(6,.r 1),(7,.r 0)]) (.seq (.seq (rr [mw 7,p (.bin .neq (.r 0) (kn 0))] [vv 1,vv 4,vv 6,vv 7,(18,.r 0)]) (.cond (.v 18) (.seq (rr [p (.build [.int .i64 0,.int .i64 0,.int .i64 0] []),mw 7,p (.store (some 3) (.v 4) (.r 1)),mr 1] [vv 4,(5,.r 0)]) .ret) .skip)) (.seq (.seq (rr [mw 1,p (.len false (.r 0)),p (.mov (kn 0))] [vv 4,vv 6,(21,.r 2),(22,.r 1),(23,.r 0)]) (.block 0 (.loop (.seq (rr [p (.bin .lss (.v 23) (.v 22))] [vv 4,vv 6,vv 21,vv 22,vv 23,(24,.r 0)]) (.seq (.cond (.v 24) .skip (.exit 0)) (.seq (.block 1 (.seq (rr [p (.iad 1 (.v 21) (.v 23)),ld 0,mr 0] [vv 4,vv 6,(9,.r 0),vv 21,vv 22,vv 23]) (.seq (.seq (rr [mw 9,p (.bin .lss (.r 0) (kn 10)),mr 0,⟨.mov (.v 9),some (0,false),[]⟩,⟨.mov (.v 6),some (1,false),[]⟩,⟨.nck (.r 0),some (2,false),[]⟩,⟨.fad 8 (.r 0),some (3,false),[]⟩,⟨.load (none) (.r 0),some (4,false),[]⟩,⟨.len false (.r 0),some (5,false),[]⟩,⟨.bin .geq (.r 5) (.r 0),some (6,false),[]⟩,p (.pick (.r 7) (.k (.bool true)) (.r 0)),mr 0,⟨.mov (.v 6),some (0,false),[]⟩,⟨.nck (.r 0),some (1,false),[]⟩,⟨.fad 8 (.r 0),some (2,false),[]⟩,⟨.load (none) (.r 0),some (3,false),[]⟩,⟨.mov (.v 9),some (4,false),[]⟩,⟨.iad 1 (.r 1) (.r 0),some (5,false),[]⟩,⟨.load (none) (.r 0),some (6,false),[]⟩,p (.pick (.r 7) (.k (.bool true)) (.r 0))] [vv 4,vv 6,vv 9,vv 21,vv 22,vv 23,(46,.r 0)]) (.cond (.v 46) (.seq (rr [p (.build [.int .i64 0,.int .i64 0,.int .i64 0] []),p (.store (some 3) (.v 4) (.r 0)),p (.mov (kn 81))] [vv 4,(5,.r 0)]) .ret) .skip)) (rr [mw 6,p (.nck (.r 0)),p (.fad 8 (.r 0)),ld 0,mw 9,p (.iad 1 (.r 1) (.r 0)),p (.store (none) (.r 0) (.k (.bool true)))] [vv 4,vv 6,vv 21,vv 22,vv 23])))) (rr [p (.bin .add (.v 23) (kn 1)),mr 0] [vv 4,vv 6,vv 21,vv 22,(23,.r 0)]))))))) (.frz (.seq (.seq (rr [mw 6,p (.nck (.r 0)),p (.fad 0 (.r 0)),p (.fad 0 (.r 0)),p (.fad 1 (.r 0)),ld 0,p (.len false (.r 0)),p (.mov (kn 0))] [vv 4,vv 6,(60,.r 2),(61,.r 1),(62,.r 0)]) (.block 2 (.loop (.seq (rr [p (.bin .lss (.v 62) (.v 61))] [vv 4,vv 6,vv 60,vv 61,vv 62,(63,.r 0)]) (.seq (.cond (.v 63) .skip (.exit 2)) (.seq (.block 3 (.seq (rr [mw 62,p (.iad 1 (.v 60) (.v 62)),ld 0,mr 2,mr 1] [vv 4,vv 6,(10,.r 1),(11,.r 0),vv 60,vv 61,vv 62]) (.seq (rr [mw 11,mw 10,p (.bin .lss (.r 0) (kn 10)),mr 0,⟨.mov (.v 6),some (0,false),[]⟩,⟨.nck (.r 0),some (1,false),[]⟩,⟨.fad 8 (.r 0),some (2,false),[]⟩,⟨.load (none) (.r 0),some (3,false),[]⟩,⟨.mov (.v 10),some (4,false),[]⟩,⟨.iad 1 (.r 1) (.r 0),some (5,false),[]⟩,⟨.load (none) (.r 0),some (6,false),[]⟩,p (.pick (.r 7) (.k (.bool true)) (.r 0)),p (.eqb true (.r 11) (.r 0))] [vv 4,vv 6,vv 60,vv 61,vv 62,(79,.r 0)]) (.cond (.v 79) (.seq (rr [p (.build [.int .i64 0,.int .i64 0,.int .i64 0] []),p (.store (some 3) (.v 4) (.r 0)),p (.mov (kn 81))] [vv 4,(5,.r 0)]) .ret) .skip)))) (rr [p (.bin .add (.v 62) (kn 1)),mr 0] [vv 4,vv 6,vv 60,vv 61,(62,.r 0)]))))))) (.frz (.seq (rr [mw 6,p (.nck (.r 0)),p (.fad 5 (.r 0)),p (.load (some 3) (.r 0)),p (.store (some 3) (.v 4) (.r 0)),p (.mov (kn 0))] [vv 4,(5,.r 0)]) .ret))))))))
def r12:List RV:=[.c 4 (some 3),.t 5]
theorem en12:EnP Tryz.prog 12 86 c12 r12:=meP Tryz.func12
def c144:C:=(.seq (rr [p (.mov (kn 0))] [vv 0,vv 1]) (.seq (.seq (rr [mw 0,p (.len false (.r 0)),p (.mov (kn 0))] [vv 0,vv 1,(7,.r 1),(8,.r 0)]) (.block 0 (.loop (.seq (rr [p (.bin .lss (.v 8) (.v 7))] [vv 0,vv 1,vv 7,vv 8,(9,.r 0)]) (.seq (.cond (.v 9) .skip (.exit 0)) (.seq (.block 1 (.seq (rr [mw 8,mr 0] [vv 0,vv 1,(5,.r 0),vv 7,vv 8]) (.seq (rr [mw 1,mw 0,mw 5,p (.iad 3 (.r 1) (.r 0)),p (.load (some 3) (.r 0)),p (.call false (.r 4) [.r 0])] [vv 0,vv 1,vv 5,vv 7,vv 8,(16,.r 0)]) (.cond (.v 16) (.seq (rr [mw 5,mr 0] [(4,.r 0)]) .ret) .skip)))) (rr [p (.bin .add (.v 8) (kn 1)),mr 0] [vv 0,vv 1,vv 7,(8,.r 0)]))))))) (.frz (.seq (rr [p (.mov (.k (.int .i64 (-1))))] [(4,.r 0)]) .ret))))
def r144:List RV:=[.t 4]
theorem ena144:EnA Tryz.prog 144 19 c144 r144:=meA Tryz.func144
def c95:C:=(.seq (rr [p (.mov (.k (.bool false)))] [vv 0,vv 1]) (.seq (rr [mw 0,mw 1,p (.call false (.k (.fn 144 [] [])) [.r 1,.r 0]),p (.bin .geq (.r 0) (kn 0)),mr 0] [(4,.r 0)]) .ret))
def r95:List RV:=[.t 4]
theorem ena95:EnA Tryz.prog 95 9 c95 r95:=meA Tryz.func95
def c97:C:=(.seq (rr [p (.box 3 (.v 0)),p (.mov (.k (.bool false)))] [(1,.r 1)]) (.seq (rr [p (.fad 0 (.v 1)),ld 0,p (.len true (.r 0)),p (.bin .geq (.r 0) (kn 1)),mr 0,⟨.fad 0 (.v 1),some (0,true),[]⟩,⟨.load (none) (.r 0),some (1,true),[]⟩,⟨.len true (.r 0),some (2,true),[]⟩,⟨.bin .leq (.r 0) (kn 32),some (3,true),[]⟩,p (.pick (.r 4) (.r 0) (.k (.bool false))),mr 0,⟨.fad 1 (.v 1),some (0,true),[]⟩,⟨.load (none) (.r 0),some (1,true),[]⟩,⟨.len true (.r 0),some (2,true),[]⟩,⟨.bin .leq (.r 0) (kn 200),some (3,true),[]⟩,p (.pick (.r 4) (.r 0) (.k (.bool false))),mr 0,⟨.fad 2 (.v 1),some (0,true),[]⟩,⟨.load (none) (.r 0),some (1,true),[]⟩,⟨.un .not (.r 0),some (2,true),[]⟩,⟨.mov (.r 0),some (3,true),[]⟩,⟨.fad 1 (.v 1),some (0,false),[]⟩,⟨.load (none) (.r 0),some (1,false),[]⟩,⟨.bin .eql (.r 0) (.k (.str [])),some (2,false),[]⟩,⟨.pick (.r 3) (.k (.bool true)) (.r 0),some (7,true),[]⟩,p (.pick (.r 8) (.r 0) (.k (.bool false))),mr 0] [(2,.r 0)]) .ret))
def r97:List RV:=[.t 2]
theorem en97:EnP Tryz.prog 97 29 c97 r97:=meP Tryz.func97
def c96:C:=(.seq (rr [p (.box 3 (.v 0)),p (.mov (.k (.bool false)))] [(1,.r 1)]) (.seq (rr [p (.load (some 3) (.v 1)),p (.call true (.k (.fn 97 [] [])) [.r 0]),p (.un .not (.r 0)),mr 0] [(2,.r 0)]) .ret))
def r96:List RV:=[.t 2]
theorem en96:EnP Tryz.prog 96 6 c96 r96:=meP Tryz.func96
def c93:C:=(.seq (rr [p (.mov (kn 0))] [vv 0,vv 1,vv 2]) (.seq (.seq (rr [p (.load (none) (.v 0)),p (.bin .neq (.r 0) (kn 0))] [vv 0,vv 1,vv 2,(6,.r 0)]) (.cond (.v 6) (.seq (rr [p (.mov (kn 0))] [(3,.r 0)]) .ret) .skip)) (.seq (rr [p (.mov (kn 0))] [vv 0,vv 1,vv 2]) (.seq (rr [p (.load (none) (.v 1)),p (.load (none) (.v 2)),p (.call true (.k (.fn 59 [] [])) [.r 1,.r 0,kn 1]),mr 0,xt 0 0,xt 1 1,xt 2 2,mr 2,p (.store (none) (.v 2) (.r 2)),p (.store (none) (.v 0) (.r 2))] [(4,.r 2)]) (.seq (rr [mw 4,mr 0] [(3,.r 0)]) .ret)))))
def r93:List RV:=[.t 3]
theorem ena93:EnA Tryz.prog 93 15 c93 r93:=meA Tryz.func93
def c94:C:=(.seq (rr [p (.mov (.k (.str [])))] [vv 0,vv 1,vv 2]) (.seq (.seq (rr [p (.load (none) (.v 0)),p (.bin .neq (.r 0) (kn 0))] [vv 0,vv 1,vv 2,(6,.r 0)]) (.cond (.v 6) (.seq (rr [p (.mov (.k (.str [])))] [(3,.r 0)]) .ret) .skip)) (.seq (rr [p (.mov (.k (.str [])))] [vv 0,vv 1,vv 2]) (.seq (rr [p (.load (none) (.v 1)),p (.load (none) (.v 2)),p (.call true (.k (.fn 60 [] [])) [.r 1,.r 0]),mr 0,xt 0 0,xt 1 1,xt 2 2,mr 2,p (.store (none) (.v 2) (.r 2)),p (.store (none) (.v 0) (.r 2))] [(4,.r 2)]) (.seq (rr [mw 4,mr 0] [(3,.r 0)]) .ret)))))
def r94:List RV:=[.t 3]
theorem ena94:EnA Tryz.prog 94 15 c94 r94:=meA Tryz.func94
def c44:C:=(.seq (rr [p (.box 1 (.v 0)),p (.mov (.k (.fsl .nil 3 []))),p (.mov (kn 0))] [(1,.r 2)]) (.seq (.seq (rr [p (.load (none) (.v 1)),p (.len true (.r 0)),p (.bin .gtr (.r 0) (kn 480))] [vv 1,(14,.r 0)]) (.cond (.v 14) (.seq (rr [p (.mov (.k (.fsl .nil 3 []))),p (.mov (kn 2))] [(2,.r 1),(3,.r 0)]) .ret) .skip)) (.seq (rr [p (.alloc 1 (.int .i64 0)),p (.alloc 1 (.int .i64 0)),p (.store (none) (.r 1) (kn 0)),p (.store (none) (.r 1) (kn 0))] [vv 1,(4,.r 3),(5,.r 2)]) (.seq (rr [p (.mkf 93 [] [.v 5,.v 1,.v 4]),mr 0] [vv 1,vv 4,vv 5,(6,.r 0)]) (.seq (rr [p (.mkf 94 [] [.v 5,.v 1,.v 4]),mr 0] [vv 1,vv 4,vv 5,vv 6,(7,.r 0)]) (.seq (rr [p (.mov (.k (.fsl .nil 3 [])))] [vv 1,vv 4,vv 5,vv 6,vv 7,(8,.r 0)]) (.seq (.seq (rr [mw 6,p (.call false (.r 0) []),mr 0] [vv 1,vv 4,vv 5,vv 6,vv 7,vv 8,(9,.r 0)]) (.block 0 (.loop (.seq (.seq (rr [mw 9,p (.bin .gtr (.r 0) (kn 0)),mr 0,⟨.load (none) (.v 5),some (0,true),[]⟩,⟨.bin .eql (.r 0) (kn 0),some (1,true),[]⟩,p (.pick (.r 2) (.r 0) (.k (.bool false)))] [vv 1,vv 4,vv 5,vv 6,vv 7,vv 8,vv 9,(24,.r 0)]) (.cond (.v 24) .skip (.exit 0))) (.seq (.block 1 (.seq (rr [mw 6,p (.call false (.r 0) []),mr 0] [vv 1,vv 4,vv 5,vv 6,vv 7,vv 8,vv 9,(10,.r 0)]) (.seq (.seq (rr [p (.load (none) (.v 5)),p (.bin .eql (.r 0) (kn 0)),mr 0,⟨.mov (.v 10),some (0,true),[]⟩,⟨.bin .gtr (.r 0) (kn 1),some (1,true),[]⟩,p (.pick (.r 2) (.r 0) (.k (.bool false)))] [vv 1,vv 4,vv 5,vv 6,vv 7,vv 8,vv 9,vv 10,(34,.r 0)]) (.cond (.v 34) (.seq (rr [p (.mov (.k (.fsl .nil 3 []))),p (.mov (kn 4))] [(2,.r 1),(3,.r 0)]) .ret) .skip)) (.seq (rr [mw 7,p (.call false (.r 0) []),mw 10,p (.bin .eql (.r 0) (kn 1)),p (.build [.str [],.str [],.bool false] [(0,1,.r 2),(2,1,.r 0)]),p (.alloc 3 (.agg [.str [],.str [],.bool false])),p (.store (some 3) (.r 0) (.r 1))] [vv 1,vv 4,vv 5,vv 6,vv 7,vv 8,vv 9,(11,.r 1)]) (.seq (.seq (rr [p (.fad 2 (.v 11)),ld 0,p (.un .not (.r 0))] [vv 1,vv 4,vv 5,vv 6,vv 7,vv 8,vv 9,vv 11,(42,.r 0)]) (.cond (.v 42) (rr [mw 7,p (.call false (.r 0) []),p (.fad 1 (.v 11)),p (.store (none) (.r 0) (.r 1))] [vv 1,vv 4,vv 5,vv 6,vv 7,vv 8,vv 9,vv 11]) .skip)) (rr [mw 8,p (.load (some 3) (.v 11)),p (.bsl 3 [.r 0]),p (.app 3 40 (.r 2) (.r 0)),mr 0] [vv 1,vv 4,vv 5,vv 6,vv 7,(8,.r 0),vv 9])))))) (rr [mw 9,p (.bin .sub (.r 0) (kn 1)),mr 0] [vv 1,vv 4,vv 5,vv 6,vv 7,vv 8,(9,.r 0)])))))) (.frz (.seq (.block 2 (.seq (rr [p (.load (none) (.v 5)),p (.bin .neq (.r 0) (kn 0)),mr 0] [vv 1,vv 4,vv 5,vv 8,(50,.r 0)]) (.cond (.v 50) (.seq (.reg true [p (.load (none) (.v 5)),p (.mov (.k (.fsl .nil 3 []))),mr 1] [(2,.r 1),(3,.r 0)]) .ret) (.seq (rr [p (.load (none) (.v 4)),p (.load (none) (.v 1)),p (.len true (.r 0)),p (.bin .neq (.r 2) (.r 0)),mr 0,⟨.mov (.v 8),some (0,false),[]⟩,⟨.call false (.k (.fn 95 [] [])) [.r 0,.k (.fn 96 [] [])],some (1,false),[]⟩,p (.pick (.r 2) (.k (.bool true)) (.r 0)),mr 0] [vv 8,(54,.r 0)]) (.cond (.v 54) (.seq (rr [p (.mov (.k (.fsl .nil 3 []))),p (.mov (kn 4))] [(2,.r 1),(3,.r 0)]) .ret) .skip))))) (.seq (rr [mw 8,mr 0,p (.mov (kn 0))] [(2,.r 1),(3,.r 0)]) .ret))))))))))
def r44:List RV:=[.t 2,.t 3]
theorem en44:EnP Tryz.prog 44 64 c44 r44:=meP Tryz.func44
def c39:C:=(.seq (rr [p (.alloc 2 (.agg [.fsl .nil 1 [],.fsl .nil 2 []])),p (.mov (kn 0))] [vv 0,(2,.r 1)]) (.seq (.seq (rr [mw 0,p (.bin .lss (.r 0) (kn 1)),mr 0,⟨.mov (.v 0),some (0,false),[]⟩,⟨.bin .gtr (.r 0) (kn 2048),some (1,false),[]⟩,p (.pick (.r 2) (.k (.bool true)) (.r 0))] [vv 0,vv 2,(9,.r 0)]) (.cond (.v 9) (.seq (rr [p (.build [.fsl .nil 1 [],.fsl .nil 2 []] []),p (.store (some 2) (.v 2) (.r 0)),p (.mov (kn 1))] [vv 2,(3,.r 0)]) .ret) .skip)) (.seq (rr [mw 0,p (.mks 1 16 (.str []) (.r 0)),p (.build [.fsl .nil 1 [],.fsl .nil 2 []] [(0,1,.r 0)]),p (.store (some 2) (.v 2) (.r 0)),p (.mov (kn 0))] [vv 2,(3,.r 0)]) .ret)))
def r39:List RV:=[.c 2 (some 2),.t 3]
theorem ena39:EnA Tryz.prog 39 14 c39 r39:=meA Tryz.func39
def c16:C:=(.seq (rr [p (.alloc 2 (.agg [.fsl .nil 1 [],.fsl .nil 2 []])),p (.mov (kn 0))] [vv 0,(2,.r 1)]) (.seq (rr [mw 0,p (.call true (.k (.fn 37 [] [])) [.r 0]),mr 0,xt 0 0,xt 1 1,p (.alloc 2 (.agg [.fsl .nil 1 [],.fsl .nil 1 []])),p (.store (some 2) (.r 0) (.r 2)),mr 2] [vv 0,vv 2,(4,.r 2),(5,.r 0)]) (.seq (.seq (rr [mw 5,p (.bin .neq (.r 0) (kn 0))] [vv 0,vv 2,vv 4,vv 5,(16,.r 0)]) (.cond (.v 16) (.seq (rr [p (.build [.fsl .nil 1 [],.fsl .nil 2 []] []),mw 5,p (.store (some 2) (.v 2) (.r 1)),mr 1] [vv 2,(3,.r 0)]) (.frz .ret)) .skip)) (.seq (rr [p (.load (some 2) (.v 4)),p (.call true (.k (.fn 38 [] [])) [.r 0]),mr 0,xt 0 0,xt 1 1,xt 2 2,p (.store (some 2) (.v 4) (.r 2)),mr 2,mr 2] [vv 0,vv 2,vv 4,(5,.r 0),(6,.r 1)]) (.seq (.seq (rr [mw 5,p (.bin .neq (.r 0) (kn 0))] [vv 0,vv 2,vv 4,vv 5,vv 6,(26,.r 0)]) (.cond (.v 26) (.seq (rr [p (.build [.fsl .nil 1 [],.fsl .nil 2 []] []),mw 5,p (.store (some 2) (.v 2) (.r 1)),mr 1] [vv 2,(3,.r 0)]) (.frz .ret)) .skip)) (.seq (rr [mw 0,p (.call false (.k (.fn 39 [] [])) [.r 0]),mr 0,xt 0 0,xt 1 1,p (.alloc 2 (.agg [.fsl .nil 1 [],.fsl .nil 2 []])),p (.store (some 2) (.r 0) (.r 2)),mr 2] [vv 0,vv 2,vv 4,(5,.r 0),vv 6,(7,.r 2)]) (.seq (.seq (rr [mw 5,p (.bin .neq (.r 0) (kn 0))] [vv 0,vv 2,vv 4,vv 5,vv 6,vv 7,(35,.r 0)]) (.cond (.v 35) (.seq (rr [p (.build [.fsl .nil 1 [],.fsl .nil 2 []] []),mw 5,p (.store (some 2) (.v 2) (.r 1)),mr 1] [vv 2,(3,.r 0)]) (.frz .ret)) .skip)) (.seq (rr [p (.fad 1 (.v 4)),ld 0,p (.call true (.k (.fn 41 [] [])) [.r 0]),p (.build [.int .i64 0,.int .i64 0,.str []] [(0,1,kn 3),(1,1,kn 1),(2,1,.r 0)]),p (.call true (.k (.fn 40 [] [])) [.r 0]),mr 0,xt 0 0,xt 1 1,mr 1,mr 1] [vv 0,vv 2,(5,.r 0),vv 6,vv 7,(8,.r 1)]) (.seq (.seq (rr [mw 5,p (.bin .neq (.r 0) (kn 0))] [vv 0,vv 2,vv 5,vv 6,vv 7,vv 8,(47,.r 0)]) (.cond (.v 47) (.seq (rr [p (.build [.fsl .nil 1 [],.fsl .nil 2 []] []),mw 5,p (.store (some 2) (.v 2) (.r 1)),mr 1] [vv 2,(3,.r 0)]) (.frz .ret)) .skip)) (.seq (rr [mw 6,mw 0,p (.build [.int .i64 0,.int .i64 0,.int .i64 0,.int .i64 0] [(0,1,kn 1),(2,1,.r 1),(3,1,.r 0)]),p (.call true (.k (.fn 42 [] [])) [.r 0]),mr 0,xt 0 0,xt 1 1,mr 1,mr 1] [vv 2,(5,.r 0),vv 6,vv 7,vv 8,(9,.r 1)]) (.seq (.reg true [p (.fad 0 (.v 7)),ld 0,p (.fad 0 (.v 7)),ld 0,mw 6,mw 9,mw 8,p (.iad 1 (.r 5) (kn 0)),⟨.store (none) (.r 0) (.r 2),none,[4]⟩,p (.iad 1 (.r 5) (.r 4)),p (.store (none) (.r 0) (.r 3))] [vv 2,vv 5,vv 7]) (.seq (rr [p (.load (some 2) (.v 7)),mw 5,p (.store (some 2) (.v 2) (.r 1)),mr 1] [vv 2,(3,.r 0)]) (.frz .ret)))))))))))))
def r16:List RV:=[.c 2 (some 2),.t 3]
theorem en16:EnP Tryz.prog 16 68 c16 r16:=meP Tryz.func16
def c43:C:=(.seq (rr [p (.box 5 (.v 0)),p (.mov (.k (.nilm))),p (.mov (kn 0))] [(1,.r 2)]) (.seq (rr [p (.mkd),mr 0] [vv 1,(4,.r 0)]) (.seq (.seq (rr [p (.mov (.k (.str []))),p (.mov (.k (.bool true)))] [vv 1,vv 4,(5,.r 1),(6,.r 0)]) (.block 0 (.loop (.seq (.seq (rr [mw 6] [vv 1,vv 4,vv 5,(13,.r 0)]) (.cond (.v 13) .skip (.exit 0))) (.block 1 (.seq (rr [p (.load (some 5) (.v 1)),mw 5,p (.call true (.k (.fn 92 [] [])) [.r 1,.r 0,kn 256]),mr 0,xt 0 0,xt 1 1,xt 2 2,mr 2,mr 2,mr 2] [vv 1,vv 4,(7,.r 2),(8,.r 1),(9,.r 0)]) (.seq (.seq (rr [mw 9,p (.bin .neq (.r 0) (kn 0))] [vv 1,vv 4,vv 7,vv 8,vv 9,(22,.r 0)]) (.cond (.v 22) (.seq (rr [mw 9,p (.mov (.k (.nilm))),mr 1] [(2,.r 1),(3,.r 0)]) .ret) .skip)) (.seq (.seq (rr [mw 7,p (.len false (.r 0)),p (.mov (kn 0))] [vv 1,vv 4,vv 8,(24,.r 2),(25,.r 1),(26,.r 0)]) (.block 2 (.loop (.seq (rr [p (.bin .lss (.v 26) (.v 25))] [vv 1,vv 4,vv 8,vv 24,vv 25,vv 26,(27,.r 0)]) (.seq (.cond (.v 27) .skip (.exit 2)) (.seq (.block 3 (.seq (rr [p (.iad 2 (.v 24) (.v 26)),p (.load (some 2) (.r 0)),p (.alloc 2 (.agg [.str [],.str []])),p (.store (some 2) (.r 0) (.r 1))] [vv 1,vv 4,vv 8,(11,.r 1),vv 24,vv 25,vv 26]) (rr [mw 4,p (.fad 0 (.v 11)),ld 0,p (.fad 1 (.v 11)),ld 0,p (.mup [8] (.r 4) (.r 2) (.r 0))] [vv 1,vv 4,vv 8,vv 24,vv 25,vv 26]))) (rr [p (.bin .add (.v 26) (kn 1)),mr 0] [vv 1,vv 4,vv 8,vv 24,vv 25,(26,.r 0)]))))))) (.frz (rr [mw 8,mw 8,p (.bin .neq (.r 0) (.k (.str []))),mr 2,mr 1] [vv 1,vv 4,(5,.r 1),(6,.r 0)])))))))))) (.frz (.seq (rr [mw 4,mr 0,p (.mov (kn 0))] [(2,.r 1),(3,.r 0)]) .ret)))))
def r43:List RV:=[.t 2,.t 3]
theorem ena43:EnA Tryz.prog 43 40 c43 r43:=meA Tryz.func43
def c17:C:=(.seq (rr [p (.box 2 (.v 0)),p (.alloc 11 (.agg [.int .i64 0,.int .i64 0,.int .i64 0,.int .i64 0,.int .i64 0,.fsl .nil 1 [],.fsl .nil 1 [],.fsl .nil 1 [],.int .i64 0,.int .i64 0,.fsl .nil 1 []])),p (.mov (.k (.fsl .nil 2 []))),p (.mov (kn 0))] [(1,.r 3),(2,.r 2)]) (.seq (rr [p (.load (some 2) (.v 1)),p (.call true (.k (.fn 13 [] [])) [.r 0]),mr 0,xt 0 0,xt 1 1,p (.alloc 11 (.agg [.int .i64 0,.int .i64 0,.int .i64 0,.int .i64 0,.int .i64 0,.fsl .nil 1 [],.fsl .nil 1 [],.fsl .nil 1 [],.int .i64 0,.int .i64 0,.fsl .nil 1 []])),p (.store (some 11) (.r 0) (.r 2)),mr 2] [vv 2,(5,.r 2),(6,.r 0)]) (.seq (.seq (rr [mw 6,p (.bin .neq (.r 0) (kn 0))] [vv 2,vv 5,vv 6,(23,.r 0)]) (.cond (.v 23) (.seq (rr [p (.build [.int .i64 0,.int .i64 0,.int .i64 0,.int .i64 0,.int .i64 0,.fsl .nil 1 [],.fsl .nil 1 [],.fsl .nil 1 [],.int .i64 0,.int .i64 0,.fsl .nil 1 []] []),mw 6,p (.store (some 11) (.v 2) (.r 1)),p (.mov (.k (.fsl .nil 2 []))),mr 2] [vv 2,(3,.r 1),(4,.r 0)]) (.frz .ret)) .skip)) (.seq (rr [p (.fad 5 (.v 5)),p (.load (some 5) (.r 0)),p (.call false (.k (.fn 43 [] [])) [.r 0]),mr 0,xt 0 0,xt 1 1,mr 1,mr 1] [vv 2,vv 5,(6,.r 0),(7,.r 1)]) (.seq (.seq (rr [mw 6,p (.bin .neq (.r 0) (kn 0))] [vv 2,vv 5,vv 7,(33,.r 0)]) (.cond (.v 33) (.seq (rr [p (.build [.int .i64 0,.int .i64 0,.int .i64 0,.int .i64 0,.int .i64 0,.fsl .nil 1 [],.fsl .nil 1 [],.fsl .nil 1 [],.int .i64 0,.int .i64 0,.fsl .nil 1 []] []),p (.store (some 11) (.v 2) (.r 0)),p (.mov (.k (.fsl .nil 2 []))),p (.mov (kn 120))] [vv 2,(3,.r 1),(4,.r 0)]) (.frz .ret)) .skip)) (.seq (.seq (rr [p (.fad 10 (.v 5)),ld 0,p (.len false (.r 0)),p (.mov (kn 0))] [vv 2,vv 5,vv 7,(36,.r 2),(37,.r 1),(38,.r 0)]) (.block 0 (.loop (.seq (rr [p (.bin .lss (.v 38) (.v 37))] [vv 2,vv 5,vv 7,vv 36,vv 37,vv 38,(39,.r 0)]) (.seq (.cond (.v 39) .skip (.exit 0)) (.seq (.block 1 (.seq (rr [p (.iad 1 (.v 36) (.v 38)),ld 0,mr 0] [vv 2,vv 5,vv 7,(9,.r 0),vv 36,vv 37,vv 38]) (.seq (rr [mw 9,p (.call true (.k (.fn 44 [] [])) [.r 0]),mr 0,xt 0 0,xt 1 1,mr 1,mr 1] [vv 2,vv 5,vv 7,(10,.r 1),(11,.r 0),vv 36,vv 37,vv 38]) (.seq (.seq (rr [mw 11,p (.bin .neq (.r 0) (kn 0))] [vv 2,vv 5,vv 7,vv 10,vv 36,vv 37,vv 38,(48,.r 0)]) (.cond (.v 48) (.seq (rr [p (.build [.int .i64 0,.int .i64 0,.int .i64 0,.int .i64 0,.int .i64 0,.fsl .nil 1 [],.fsl .nil 1 [],.fsl .nil 1 [],.int .i64 0,.int .i64 0,.fsl .nil 1 []] []),p (.store (some 11) (.v 2) (.r 0)),p (.mov (.k (.fsl .nil 2 []))),p (.mov (kn 120))] [vv 2,(3,.r 1),(4,.r 0)]) (.frz .ret)) .skip)) (.seq (rr [mw 10,p (.len false (.r 0)),p (.mov (kn 0))] [vv 2,vv 5,vv 7,vv 36,vv 37,vv 38,(50,.r 2),(51,.r 1),(52,.r 0)]) (.block 2 (.loop (.seq (rr [p (.bin .lss (.v 52) (.v 51))] [vv 2,vv 5,vv 7,vv 36,vv 37,vv 38,vv 50,vv 51,vv 52,(53,.r 0)]) (.seq (.cond (.v 53) .skip (.exit 2)) (.seq (.block 3 (.seq (rr [p (.iad 3 (.v 50) (.v 52)),p (.load (some 3) (.r 0)),p (.alloc 3 (.agg [.str [],.str [],.bool false])),p (.store (some 3) (.r 0) (.r 1))] [vv 2,vv 5,vv 7,(13,.r 1),vv 36,vv 37,vv 38,vv 50,vv 51,vv 52]) (.seq (rr [p (.fad 2 (.v 13)),ld 0] [vv 2,vv 5,vv 7,vv 13,vv 36,vv 37,vv 38,vv 50,vv 51,vv 52,(57,.r 0)]) (.cond (.v 57) (rr [mw 7,p (.fad 0 (.v 13)),ld 0,p (.mdl [8] (.r 2) (.r 0))] [vv 2,vv 5,vv 7,vv 36,vv 37,vv 38,vv 50,vv 51,vv 52]) (rr [mw 7,p (.fad 0 (.v 13)),ld 0,p (.fad 1 (.v 13)),ld 0,p (.mup [8] (.r 4) (.r 2) (.r 0))] [vv 2,vv 5,vv 7,vv 36,vv 37,vv 38,vv 50,vv 51,vv 52]))))) (rr [p (.bin .add (.v 52) (kn 1)),mr 0] [vv 2,vv 5,vv 7,vv 36,vv 37,vv 38,vv 50,vv 51,(52,.r 0)]))))))))))) (.frz (rr [p (.bin .add (.v 38) (kn 1)),mr 0] [vv 2,vv 5,vv 7,vv 36,vv 37,(38,.r 0)])))))))) (.frz (.seq (rr [p (.mov (.k (.fsl .nil 2 [])))] [vv 2,vv 5,vv 7,(14,.r 0)]) (.seq (.seq (rr [mw 7,p (.rng (.r 0))] [vv 2,vv 5,vv 14,(69,.r 0)]) (.block 4 (.loop (.seq (.nx (.v 69) [xt 0 0] [vv 2,vv 5,vv 14,vv 69,(71,.r 0)]) (.seq (.cond (.v 71) .skip (.exit 4)) (.block 5 (.seq (rr [p (.ent (.v 69)),xt 0 0,xt 1 1,mr 1,mr 1] [vv 2,vv 5,vv 14,(15,.r 1),(16,.r 0),vv 69]) (rr [mw 14,mw 15,mw 16,p (.build [.str [],.str []] [(0,1,.r 1),(1,1,.r 0)]),p (.bsl 2 [.r 0]),p (.app 2 32 (.r 4) (.r 0)),mr 0] [vv 2,vv 5,(14,.r 0),vv 69])))))))) (.frz (.seq (rr [mw 14,p (.call false (.k (.fn 45 [] [])) [.r 0,.k (.fn 46 [] [])])] [vv 2,vv 5,vv 14]) (.seq (rr [p (.load (some 11) (.v 5)),mw 14,p (.store (some 11) (.v 2) (.r 1)),mr 1,p (.mov (kn 0))] [vv 2,(3,.r 1),(4,.r 0)]) (.frz .ret)))))))))))))
def r17:List RV:=[.c 2 (some 11),.t 3,.t 4]
theorem en17:EnP Tryz.prog 17 85 c17 r17:=meP Tryz.func17
def c7:C:=(.seq (rr [p (.box 2 (.v 0)),p (.alloc 4 (.agg [.int .i64 0,.int .i64 0,.fsl .nil 2 [],.fsl .nil 5 []])),p (.mov (kn 0))] [(1,.r 2),(2,.r 1)]) (.seq (rr [p (.load (some 2) (.v 1)),p (.call true (.k (.fn 17 [] [])) [.r 0]),mr 0,xt 0 0,xt 1 1,xt 2 2,p (.alloc 11 (.agg [.int .i64 0,.int .i64 0,.int .i64 0,.int .i64 0,.int .i64 0,.fsl .nil 1 [],.fsl .nil 1 [],.fsl .nil 1 [],.int .i64 0,.int .i64 0,.fsl .nil 1 []])),p (.store (some 11) (.r 0) (.r 3)),mr 3,mr 3] [vv 2,(5,.r 1),(6,.r 0)]) (.seq (.seq (rr [mw 6,p (.bin .neq (.r 0) (kn 0))] [vv 2,vv 5,vv 6,(15,.r 0)]) (.cond (.v 15) (.seq (rr [p (.build [.int .i64 0,.int .i64 0,.fsl .nil 2 [],.fsl .nil 5 []] []),mw 6,p (.store (some 4) (.v 2) (.r 1)),mr 1] [vv 2,(3,.r 0)]) .ret) .skip)) (.seq (rr [mw 5,p (.call true (.k (.fn 10 [] [])) [.r 0]),mr 0,xt 0 0,xt 1 1,p (.alloc 4 (.agg [.int .i64 0,.int .i64 0,.fsl .nil 2 [],.fsl .nil 5 []])),p (.store (some 4) (.r 0) (.r 2)),mr 2] [vv 2,(6,.r 0),(7,.r 2)]) (.seq (.seq (rr [mw 6,p (.bin .neq (.r 0) (kn 0))] [vv 2,vv 7,(24,.r 0)]) (.cond (.v 24) (.seq (rr [p (.build [.int .i64 0,.int .i64 0,.fsl .nil 2 [],.fsl .nil 5 []] []),p (.store (some 4) (.v 2) (.r 0)),p (.mov (kn 120))] [vv 2,(3,.r 0)]) .ret) .skip)) (.seq (rr [p (.load (some 4) (.v 7)),p (.store (some 4) (.v 2) (.r 0)),p (.mov (kn 0))] [vv 2,(3,.r 0)]) .ret))))))
def r7:List RV:=[.c 2 (some 4),.t 3]
theorem en7:EnP Tryz.prog 7 27 c7 r7:=meP Tryz.func7
def c8:C:=(.seq (rr [p (.box 2 (.v 0)),p (.alloc 10 (.agg [.int .i64 0,.int .i64 0,.int .i64 0,.int .i64 0,.int .i64 0,.int .i64 0,.int .i64 0,.int .i64 0,.int .i64 0,.int .i64 0])),p (.mov (kn 0))] [(1,.r 2),(2,.r 1)]) (.seq (rr [p (.load (some 2) (.v 1)),p (.call true (.k (.fn 17 [] [])) [.r 0]),mr 0,xt 0 0,xt 1 1,xt 2 2,p (.alloc 11 (.agg [.int .i64 0,.int .i64 0,.int .i64 0,.int .i64 0,.int .i64 0,.fsl .nil 1 [],.fsl .nil 1 [],.fsl .nil 1 [],.int .i64 0,.int .i64 0,.fsl .nil 1 []])),p (.store (some 11) (.r 0) (.r 3)),mr 3,mr 3] [vv 2,(4,.r 3),(5,.r 1),(6,.r 0)]) (.seq (.seq (rr [mw 6,p (.bin .neq (.r 0) (kn 0))] [vv 2,vv 4,vv 5,vv 6,(17,.r 0)]) (.cond (.v 17) (.seq (rr [p (.build [.int .i64 0,.int .i64 0,.int .i64 0,.int .i64 0,.int .i64 0,.int .i64 0,.int .i64 0,.int .i64 0,.int .i64 0,.int .i64 0] []),mw 6,p (.store (some 10) (.v 2) (.r 1)),mr 1] [vv 2,(3,.r 0)]) .ret) .skip)) (.seq (rr [mw 5,p (.call true (.k (.fn 10 [] [])) [.r 0]),mr 0,xt 0 0,xt 1 1,p (.alloc 4 (.agg [.int .i64 0,.int .i64 0,.fsl .nil 2 [],.fsl .nil 5 []])),p (.store (some 4) (.r 0) (.r 2)),mr 2] [vv 2,vv 4,(6,.r 0),(7,.r 2)]) (.seq (.seq (rr [mw 6,p (.bin .neq (.r 0) (kn 0))] [vv 2,vv 4,vv 7,(26,.r 0)]) (.cond (.v 26) (.seq (rr [p (.build [.int .i64 0,.int .i64 0,.int .i64 0,.int .i64 0,.int .i64 0,.int .i64 0,.int .i64 0,.int .i64 0,.int .i64 0,.int .i64 0] []),p (.store (some 10) (.v 2) (.r 0)),p (.mov (kn 120))] [vv 2,(3,.r 0)]) .ret) .skip)) (.seq (rr [p (.fad 5 (.v 4)),p (.load (some 5) (.r 0)),p (.fad 0 (.v 4)),p (.fad 2 (.r 0)),ld 0,p (.bsl 1 [.r 0]),p (.call true (.k (.fn 12 [] [])) [.r 4,.r 0]),mr 0,xt 0 0,xt 1 1,p (.alloc 3 (.agg [.int .i64 0,.int .i64 0,.int .i64 0])),p (.store (some 3) (.r 0) (.r 2)),mr 2] [vv 2,vv 4,(6,.r 0),vv 7,(8,.r 2)]) (.seq (.seq (rr [mw 6,p (.bin .neq (.r 0) (kn 0))] [vv 2,vv 4,vv 7,vv 8,(39,.r 0)]) (.cond (.v 39) (.seq (rr [p (.build [.int .i64 0,.int .i64 0,.int .i64 0,.int .i64 0,.int .i64 0,.int .i64 0,.int .i64 0,.int .i64 0,.int .i64 0,.int .i64 0] []),p (.store (some 10) (.v 2) (.r 0)),p (.mov (kn 120))] [vv 2,(3,.r 0)]) .ret) .skip)) (.seq (rr [p (.fad 0 (.v 4)),p (.load (some 4) (.r 0)),p (.load (some 3) (.v 8)),p (.fad 2 (.v 7)),ld 0,p (.len false (.r 0)),p (.fad 3 (.v 7)),ld 0,p (.len false (.r 0)),p (.build [.int .i64 0,.int .i64 0,.int .i64 0,.int .i64 0,.int .i64 0,.int .i64 0,.int .i64 0,.int .i64 0,.int .i64 0,.int .i64 0] [(0,4,.r 7),(4,3,.r 6),(8,1,.r 3),(9,1,.r 0)]),p (.alloc 10 (.agg [.int .i64 0,.int .i64 0,.int .i64 0,.int .i64 0,.int .i64 0,.int .i64 0,.int .i64 0,.int .i64 0,.int .i64 0,.int .i64 0])),p (.store (some 10) (.r 0) (.r 1))] [vv 2,vv 4,(9,.r 1)]) (.seq (rr [p (.fad 10 (.v 4)),ld 0,p (.len false (.r 0)),p (.fad 7 (.v 9)),p (.store (none) (.r 0) (.r 1))] [vv 2,vv 9]) (.seq (rr [p (.load (some 10) (.v 9)),p (.store (some 10) (.v 2) (.r 0)),p (.mov (kn 0))] [vv 2,(3,.r 0)]) .ret))))))))))
def r8:List RV:=[.c 2 (some 10),.t 3]
theorem en8:EnP Tryz.prog 8 56 c8 r8:=meP Tryz.func8
def c5:C:=(.seq (rr [p (.box 2 (.v 0)),p (.mov (.k (.bool false)))] [(1,.r 1)]) (.seq (rr [p (.fad 0 (.v 1)),ld 0,p (.len false (.r 0)),p (.bin .leq (.r 0) (kn 200)),mr 0,⟨.fad 1 (.v 1),some (0,true),[]⟩,⟨.load (none) (.r 0),some (1,true),[]⟩,⟨.len false (.r 0),some (2,true),[]⟩,⟨.bin .leq (.r 0) (kn 200),some (3,true),[]⟩,p (.pick (.r 4) (.r 0) (.k (.bool false))),mr 0] [(2,.r 0)]) .ret))
def r5:List RV:=[.t 2]
theorem en5:EnP Tryz.prog 5 13 c5 r5:=meP Tryz.func5
def c6:C:=(.seq (rr [p (.mov (.k (.bool false)))] []) (.seq (rr [p (.call true (.k (.fn 16 [] [])) [kn 24]),mr 0,xt 0 0,xt 1 1,p (.alloc 2 (.agg [.fsl .nil 1 [],.fsl .nil 2 []])),p (.store (some 2) (.r 0) (.r 2)),mr 2] [(1,.r 2)]) (.seq (rr [p (.load (some 2) (.v 1)),p (.call true (.k (.fn 8 [] [])) [.r 0]),mr 0,xt 0 0,xt 1 1,p (.alloc 10 (.agg [.int .i64 0,.int .i64 0,.int .i64 0,.int .i64 0,.int .i64 0,.int .i64 0,.int .i64 0,.int .i64 0,.int .i64 0,.int .i64 0])),p (.store (some 10) (.r 0) (.r 2)),mr 2] [(3,.r 2),(4,.r 0)]) (.seq (rr [mw 4,p (.bin .eql (.r 0) (kn 0)),mr 0,⟨.load (some 10) (.v 3),some (0,true),[]⟩,⟨.build [.int .i64 0,.int .i64 0,.int .i64 0,.int .i64 0] [(0,1,kn 1),(2,1,kn 10),(3,1,kn 24)],some (1,true),[]⟩,⟨.build [.int .i64 0,.int .i64 0,.int .i64 0,.int .i64 0,.int .i64 0,.int .i64 0,.int .i64 0,.int .i64 0,.int .i64 0,.int .i64 0] [(0,4,.r 0)],some (2,true),[]⟩,⟨.eqs false [0,0,0,0,0,0,0,0,0,0] (.r 2) (.r 0),some (3,true),[]⟩,p (.pick (.r 4) (.r 0) (.k (.bool false))),mr 0] [(0,.r 0)]) .ret))))
def r6:List RV:=[.t 0]
theorem en6:EnP Tryz.prog 6 22 c6 r6:=meP Tryz.func6
def c4:C:=(.seq (rr [p (.box 2 (.v 0)),p (.mov (.k (.bool false)))] [vv 1,vv 2,(3,.r 1)]) (.seq (.seq (rr [p (.load (some 2) (.v 3)),p (.call true (.k (.fn 5 [] [])) [.r 0]),p (.un .not (.r 0)),mr 0,⟨.mov (.v 2),some (0,false),[]⟩,⟨.len true (.r 0),some (1,false),[]⟩,⟨.bin .gtr (.r 0) (kn 4096),some (2,false),[]⟩,p (.pick (.r 3) (.k (.bool true)) (.r 0))] [vv 1,vv 2,vv 3,(29,.r 0)]) (.cond (.v 29) (.seq (rr [p (.call true (.k (.fn 6 [] [])) []),mr 0] [(6,.r 0)]) .ret) .skip)) (.seq (rr [p (.load (some 2) (.v 3)),p (.call true (.k (.fn 13 [] [])) [.r 0]),mr 0,xt 0 0,xt 1 1,p (.alloc 11 (.agg [.int .i64 0,.int .i64 0,.int .i64 0,.int .i64 0,.int .i64 0,.fsl .nil 1 [],.fsl .nil 1 [],.fsl .nil 1 [],.int .i64 0,.int .i64 0,.fsl .nil 1 []])),p (.store (some 11) (.r 0) (.r 2)),mr 2] [vv 1,vv 2,vv 3,(7,.r 2),(8,.r 0)]) (.seq (.seq (rr [mw 8,p (.bin .neq (.r 0) (kn 0))] [vv 1,vv 2,vv 3,vv 7,(37,.r 0)]) (.cond (.v 37) (.seq (rr [p (.call true (.k (.fn 6 [] [])) []),mr 0] [(6,.r 0)]) .ret) .skip)) (.seq (rr [p (.fad 0 (.v 3)),ld 0,p (.len false (.r 0)),mr 0] [vv 1,vv 2,vv 3,vv 7,(9,.r 0)]) (.seq (.seq (rr [mw 9,p (.bin .leq (.r 0) (kn 10)),mr 0,⟨.fad 5 (.v 7),some (0,false),[]⟩,⟨.fad 0 (.r 0),some (1,false),[]⟩,⟨.fad 1 (.r 0),some (2,false),[]⟩,⟨.load (none) (.r 0),some (3,false),[]⟩,⟨.len false (.r 0),some (4,false),[]⟩,⟨.mov (.v 9),some (5,false),[]⟩,⟨.bin .neq (.r 1) (.r 0),some (6,false),[]⟩,p (.pick (.r 7) (.k (.bool true)) (.r 0))] [vv 1,vv 2,vv 3,vv 7,vv 9,(52,.r 0)]) (.cond (.v 52) (.seq (rr [p (.mov (.k (.bool false)))] [(6,.r 0)]) .ret) .skip)) (.seq (rr [mw 1,mw 9,p (.bin .sub (.r 0) (kn 10)),p (.bin .rem (.r 2) (.r 0)),mw 9,p (.bin .add (.r 1) (.r 0)),p (.bin .sub (.r 0) (kn 10)),mw 9,p (.bin .sub (.r 0) (kn 10)),p (.bin .rem (.r 2) (.r 0)),p (.bin .add (kn 10) (.r 0)),mr 0] [(1,.r 0),vv 2,vv 3,vv 7]) (.seq (.seq (rr [p (.fad 5 (.v 7)),p (.fad 0 (.r 0)),p (.fad 1 (.r 0)),ld 0,mw 1,p (.iad 1 (.r 1) (.r 0)),ld 0] [vv 1,vv 2,vv 3,(70,.r 0)]) (.cond (.v 70) (.seq (rr [p (.call true (.k (.fn 6 [] [])) []),mr 0] [(6,.r 0)]) .ret) .skip)) (.seq (rr [p (.load (some 2) (.v 3)),mw 1,mw 2,p (.call true (.k (.fn 14 [] [])) [.r 2,.r 1,.r 0]),mr 0,xt 0 0,xt 1 1,p (.alloc 2 (.agg [.fsl .nil 1 [],.fsl .nil 2 []])),p (.store (some 2) (.r 0) (.r 2)),mr 2] [vv 3,(10,.r 2),(11,.r 0)]) (.seq (rr [p (.load (some 2) (.v 10)),p (.call true (.k (.fn 15 [] [])) [.r 0]),mr 0,xt 0 0,xt 1 1,p (.alloc 2 (.agg [.fsl .nil 1 [],.fsl .nil 2 []])),p (.store (some 2) (.r 0) (.r 2)),mr 2] [vv 3,vv 11,(12,.r 2),(13,.r 0)]) (.seq (rr [p (.load (some 2) (.v 3)),p (.call true (.k (.fn 7 [] [])) [.r 0]),mr 0,xt 0 0,xt 1 1,p (.alloc 4 (.agg [.int .i64 0,.int .i64 0,.fsl .nil 2 [],.fsl .nil 5 []])),p (.store (some 4) (.r 0) (.r 2)),mr 2] [vv 3,vv 11,vv 12,vv 13,(14,.r 2),(15,.r 0)]) (.seq (rr [p (.load (some 2) (.v 12)),p (.call true (.k (.fn 7 [] [])) [.r 0]),mr 0,xt 0 0,xt 1 1,p (.alloc 4 (.agg [.int .i64 0,.int .i64 0,.fsl .nil 2 [],.fsl .nil 5 []])),p (.store (some 4) (.r 0) (.r 2)),mr 2] [vv 3,vv 11,vv 12,vv 13,vv 14,vv 15,(16,.r 2),(17,.r 0)]) (.seq (rr [p (.load (some 2) (.v 3)),p (.call true (.k (.fn 8 [] [])) [.r 0]),mr 0,xt 0 0,xt 1 1,p (.alloc 10 (.agg [.int .i64 0,.int .i64 0,.int .i64 0,.int .i64 0,.int .i64 0,.int .i64 0,.int .i64 0,.int .i64 0,.int .i64 0,.int .i64 0])),p (.store (some 10) (.r 0) (.r 2)),mr 2] [vv 11,vv 12,vv 13,vv 14,vv 15,vv 16,vv 17,(18,.r 2),(19,.r 0)]) (.seq (rr [p (.load (some 2) (.v 12)),p (.call true (.k (.fn 8 [] [])) [.r 0]),mr 0,xt 0 0,xt 1 1,p (.alloc 10 (.agg [.int .i64 0,.int .i64 0,.int .i64 0,.int .i64 0,.int .i64 0,.int .i64 0,.int .i64 0,.int .i64 0,.int .i64 0,.int .i64 0])),p (.store (some 10) (.r 0) (.r 2)),mr 2] [vv 11,vv 13,vv 14,vv 15,vv 16,vv 17,vv 18,vv 19,(20,.r 2),(21,.r 0)]) (.seq (rr [p (.call true (.k (.fn 6 [] [])) []),mr 0,⟨.mov (.v 11),some (0,true),[]⟩,⟨.bin .eql (.r 0) (kn 0),some (1,true),[]⟩,p (.pick (.r 2) (.r 0) (.k (.bool false))),mr 0,⟨.mov (.v 13),some (0,true),[]⟩,⟨.bin .eql (.r 0) (kn 0),some (1,true),[]⟩,p (.pick (.r 2) (.r 0) (.k (.bool false))),mr 0,⟨.mov (.v 15),some (0,true),[]⟩,⟨.mov (.v 17),some (1,true),[]⟩,⟨.bin .eql (.r 1) (.r 0),some (2,true),[]⟩,p (.pick (.r 3) (.r 0) (.k (.bool false))),mr 0,⟨.mov (.v 19),some (0,true),[]⟩,⟨.mov (.v 21),some (1,true),[]⟩,⟨.bin .eql (.r 1) (.r 0),some (2,true),[]⟩,p (.pick (.r 3) (.r 0) (.k (.bool false))),mr 0,⟨.load (some 10) (.v 18),some (0,true),[]⟩,⟨.load (some 10) (.v 20),some (1,true),[]⟩,⟨.eqs false [0,0,0,0,0,0,0,0,0,0] (.r 1) (.r 0),some (2,true),[]⟩,p (.pick (.r 3) (.r 0) (.k (.bool false))),mr 0,⟨.load (some 4) (.v 14),some (0,true),[]⟩,⟨.load (some 4) (.v 16),some (1,true),[]⟩,⟨.call true (.k (.fn 11 [] [])) [.r 1,.r 0],some (2,true),[]⟩,p (.pick (.r 3) (.r 0) (.k (.bool false))),mr 0] [(6,.r 0)]) .ret)))))))))))))))
def r4:List RV:=[.t 6]
theorem en4:EnP Tryz.prog 4 133 c4 r4:=meP Tryz.func4
section
open Go Go.RowKit
theorem e4l (w:Wo) (frm:Str) (h:w.pages.length≤1000000):∃ q:List Pr×Str×Int,PCall Tryz.prog 92 [woV w,.str frm,.int .i64 256] (.tup [.fsl .loose 2 (mv prV q.1),.str q.2.1,.int .i64 q.2.2]) ∧
  (q.2.2=0→q.1.length≤256∧(∀ p∈q.1,p.1.length≤1000000∧p.2.length≤1000000∧p.1∈ksL w)∧(q.2.1=[]∨q.2.1∈ksL w∧ltS frm q.2.1=true))∧(woOk w=true→frm.length≤32→w.root=0→q.1=[]∧q.2.1=[]∧q.2.2=0):=by
 obtain ⟨_,hc,l,next,e,rfl,h1,h2⟩:=d0m w frm h;exact ⟨(l,next,e),hc,h1,h2⟩
noncomputable def scF (w:Wo) (frm:Str):List Pr×Str×Int:=if h:w.pages.length≤1000000 then (e4l w frm h).choose else ([],[],1)
theorem d3r (w:Wo) (frm:Str) (h:w.pages.length≤1000000):PCall Tryz.prog 92 [woV w,.str frm,.int .i64 256] (.tup [.fsl .loose 2 (mv prV (scF w frm).1),.str (scF w frm).2.1,.int .i64 (scF w frm).2.2]) ∧
  ((scF w frm).2.2=0→(scF w frm).1.length≤256∧(∀ p∈(scF w frm).1,p.1.length≤1000000∧p.2.length≤1000000∧p.1∈ksL w)∧((scF w frm).2.1=[]∨(scF w frm).2.1∈ksL w∧ltS frm (scF w frm).2.1=true))∧(woOk w=true→frm.length≤32→w.root=0→(scF w frm).1=[]∧(scF w frm).2.1=[]∧(scF w frm).2.2=0):=by
 unfold scF;rw [dif_pos h];exact (e4l w frm h).choose_spec
noncomputable def prL:Nat→Wo→Str→List Pr→List Pr×Int
 | 0,_,_,_ => ([],1)
 | n+1,w,frm,M => if (scF w frm).2.2≠0 then ([],(scF w frm).2.2) else if (scF w frm).2.1=[] then (putL M (scF w frm).1,0) else prL n w (scF w frm).2.1 (putL M (scF w frm).1)
noncomputable def prF (w:Wo):List Pr×Int:=prL ((ksL w).length+1) w [] []
structure MOk (w:Wo) (M:List Pr):Prop where
 keys:(a1i M).Nodup
 mem:∀ p∈M,p.1.length≤1000000∧p.2.length≤1000000∧p.1∈ksL w
theorem MOk.nil (w:Wo):MOk w []:=⟨by simp [a1i],by simp⟩
theorem e3q (w:Wo):(ksL w).length≤w.n.length*18:=by
 unfold ksL;have hk:∀ (b:Int) (r:Bool),(ldN w b r).1.keys.length≤9:=fun b r => by
  cases hx:(ldN w b r).2 with
  | true => exact ((b8r (w:=w) (bk:=b) (root:=r)).2 hx).2.2.few
  | false =>
   have:(ldN w b r).1=nd0:=by
    unfold ldN at hx ⊢;split
    ·rfl
    rename_i c1;rw [if_neg c1] at hx;split
    ·rfl
    rename_i c2;rw [if_neg c2] at hx;split
    ·rfl
    rename_i c3;rw [if_neg c3] at hx;cases hx
   rw [this]; simp [nd0]
 generalize w.n.length=n
 induction n with
 | zero => simp
 | succ n ih =>
  rw [List.range_succ,List.flatMap_append,List.length_append];have h1:=hk n true;have h2:=hk n false;simp only [List.flatMap_cons,List.flatMap_nil,List.append_nil,List.length_append];omega
theorem MOk.len {w:Wo} {M:List Pr} (h:MOk w M):M.length≤w.n.length*18:=by
 have:=b6u (l:=a1i M) (K:=ksL w) h.keys (fun x hx => by
  obtain ⟨p,hp,rfl⟩:=List.mem_map.1 hx;exact (h.mem p hp).2.2)
 have h2:=e3q w;simp [a1i] at this;omega
def rgP (M:List Pr):List Nat:=List.range M.length
theorem d5c {M:List Pr} (h:(a1i M).Nodup):MdOk M.length (rgP M) M:=⟨by simp [rgP],List.nodup_range,by simp [rgP],h⟩
theorem e3w {M:List Pr} (h:(a1i M).Nodup) (k v:Str):b1m M.length (rgP M) (mvS M) (.str k) (.str v)=.md (putP M k v).length (rgP (putP M k v)) (mvS (putP M k v)):=by
 by_cases hk:k∈M.map (·.1)
 ·have e:∃ u,mget (mvS M) (.str k)=some u:=by
   cases hm:mget (mvS M) (.str k) with
   | none => exact absurd hk ((a8s k M).1 hm)
   | some u => exact ⟨u,rfl⟩
  obtain ⟨u,e⟩:=e;have:=congrArg List.length (b6e (v:=v) hk);simp at this;simp only [b1m,e,a8f,rgP,this]
 ·have e:=(a8s k M).2 hk;simp only [b1m,e,a8f];rw [b0i hk];simp [rgP,List.range_succ]
theorem MOk.put {w:Wo} {M:List Pr} (h:MOk w M) {p:Pr} (hp:p.1.length≤1000000∧p.2.length≤1000000∧p.1∈ksL w):MOk w (putP M p.1 p.2):=by
 obtain ⟨_,_,_,h2⟩:=(d5c h.keys).put p.1 p.2;exact ⟨h2.keys,fun q hq => (b6m hq).elim (fun e => by rw [e]; exact hp) (h.mem q)⟩
theorem MOk.putL {w:Wo} {M:List Pr} (h:MOk w M):∀ {l:List Pr},(∀ p∈l,p.1.length≤1000000∧p.2.length≤1000000∧p.1∈ksL w)→MOk w (putL M l):=fun {l} hl => by
 induction l generalizing M with
 | nil => exact h
 | cons p l ih => exact ih (h.put (hl p (by simp))) (fun q hq => hl q (by simp [hq]))
def prsR (a:Nat) (q:List Pr×Int):V:=if q.2=0 then .tup [.map (a+1),.int .i64 0] else .tup [.nilm,.int .i64 q.2]
def prsD (a:Nat) (q:List Pr×Int):List (Nat×Option Ob):=if q.2=0 then [(a+1,some (.md q.1.length (rgP q.1) (mvS q.1)))] else []
theorem c6i (w:Wo) (hw:w.pages.length≤1000000):∀ (n:Nat) (frm:Str) (M:List Pr),MOk w M→MOk w (prL n w frm M).1
 | 0,_,_,_ => MOk.nil w
 | n+1,frm,M,h => by
  unfold prL;split
  ·exact MOk.nil w
  rename_i c1;have hl:=((d3r w frm hw).2.1 (by simpa using c1)).2.1;split
  ·exact h.putL hl
  ·exact c6i w hw n _ _ (h.putL hl)
theorem d3g (w:Wo) (hw:w.pages.length≤1000000):MOk w (prF w).1:=c6i w hw _ _ _ (MOk.nil w)
theorem c4u (H:Hp) (w:Wo) (hpl:w.pages.length≤1000000) (hwn:w.n.length≤2048):CEx Tryz.prog 43 [woV w] H [] (fun r ds k => r=prsR H.n (prF w)∧ds=prsD H.n (prF w)∧2≤k):=by
  refine exA (fun r ds k hd => ena43 (by simp) (by simp [a0h,a0b,a2t]) (by simp) hd) rfl ?_
  have hsc:=fun frm => d3r w frm hpl
  obtain ⟨F,hF⟩:∃ F,prF w=F:=⟨_,rfl⟩
  have hMF:MOk w F.1:=hF ▸ d3g w hpl
  rw [hF]
  have hW:MOk w []:=MOk.nil w
  have cntlt:∀ frm next,next∈ksL w→ltS frm next=true→(ksL w).countP (ltS next ·) < (ksL w).countP (ltS frm ·):=fun frm next h1 h2 => d2n (p:=fun x => ltS frm x) (q:=fun x => ltS next x) (a:=next) (fun x hx => a2a h2 hx) h2 (a8g next) h1
  have hF0:prL ((ksL w).length+1 - 0) w [] []=F:=hF
  have hcnt0:(ksL w).countP (ltS [] ·)+1≤(ksL w).length+1 - 0:=by have:=List.countP_le_length (p:=fun x => ltS [] x) (l:=ksL w); omega
  generalize (ksL w).length+1=N at hF0 hcnt0
  have hfin:∀ (σ:Sg) (m:Hm) (n:Nat),H.n+2≤n→resE σ m r43=some [.map (H.n+1),.int .i64 0]→F.2=0→m (H.n+1)=some (.md F.1.length (rgP F.1) (mvS F.1)) →
      a8d r43 (only [] H.m) H.n [] (fun r ds k => r=prsR H.n F∧ds=prsD H.n F∧2≤k) .ret σ ⟨n,m⟩:=fun σ m n hn h1 h2 h3 => by
    have e1:prsD H.n F=[(H.n+1,some (.md F.1.length (rgP F.1) (mvS F.1)))]:=by simp [prsD,h2]
    refine ⟨_,prsD H.n F,n - H.n,⟨.inr rfl,⟨_,h1,.inl rfl⟩,by simp only []; omega,fun id => ?_⟩,fun p hp => ?_,by simp [prsR,h2,pack],rfl,by omega⟩
    · rw [e1]
      simp only [appd,upd,only,List.not_mem_nil,if_false]
      split
      · rename_i h; subst h; exact .inr h3.symm
      · exact .inl rfl
    · rw [e1] at hp
      simp at hp; subst hp
      exact .inr ⟨by simp,by simp only []; omega⟩
  have hbad:∀ (σ:Sg) (m:Hm) (n:Nat) (e:Int),e≠0→H.n+2≤n→resE σ m r43=some [.nilm,.int .i64 e]→F=([],e) →
      a8d r43 (only [] H.m) H.n [] (fun r ds k => r=prsR H.n F∧ds=prsD H.n F∧2≤k) .ret σ ⟨n,m⟩:=fun σ m n e he hn h1 h2 => by
    have e1:prsD H.n F=[]:=by simp [prsD,h2,he]
    exact ⟨_,prsD H.n F,n - H.n,⟨.inr rfl,⟨_,h1,.inl rfl⟩,by simp only []; omega,fun id => by rw [e1]; exact .inl rfl⟩,by simp [e1],by simp [prsR,h2,he,pack],rfl,by omega⟩
  obtain ⟨b,n',pg,rt,gn⟩:=w
  simp only [woV,woL] at hsc
  simp (disch:=omega) only [gG,simprocAttr,c43,woV,woL]
  refine x_it N (fun i σ H' => ∃ frm M more,(more=true→(ksL ⟨b,n',pg,rt,gn⟩).countP (ltS frm ·)+1≤N - i∧prL (N - i) ⟨b,n',pg,rt,gn⟩ frm M=F)∧(more=false→F=(M,0))∧MOk ⟨b,n',pg,rt,gn⟩ M∧H.n+2≤H'.n ∧
      H'.m H.n=some (.arr 5 [.agg [.fsl .loose 1 (bv b),.fsl .loose 1 (bv n'),.fsl .loose 1 (vS pg),.int .i64 rt,.int .i64 gn]])∧H'.m (H.n+1)=some (.md M.length (rgP M) (mvS M)) ∧
      σ=[(1,.ptr H.n 0 0),(4,.map (H.n+1)),(5,.str frm),(6,.bool more)])
    ⟨[],[],true,fun _ => ⟨hcnt0,hF0⟩,by simp,hW,by simp only []; omega,(by simp (disch:=omega) only [a0d,a0c,wo_0,wo_1,wo_2]),(by simp [upd,mvS,rgP]<;>rfl),rfl⟩ ?_
  rintro T i σ ⟨q,m⟩ hi ⟨frm,M,more,h1,h2,h3,hq,e0,e1,rfl⟩ hN hX hR
  simp only [] at hq e0 e1
  cases more with
  | false =>
    simp (disch:=omega) only [gG,simprocAttr]
    refine hX _ _ _ ?_
    simp (disch:=omega) only [gG,simprocAttr]
    refine a0l ?_
    simp (disch:=omega) only [gG,simprocAttr]
    have:=h2 rfl
    exact hfin _ _ _ hq rfl (by rw [this]) (by rw [this]; exact e1)
  | true =>
    obtain ⟨h1,h1'⟩:=h1 rfl
    obtain ⟨j,hj⟩:∃ j,N - i=j+1:=⟨N - i - 1,by omega⟩
    rw [hj] at h1 h1'
    unfold prL at h1'
    obtain ⟨hs1,hs2,_⟩:=hsc frm
    have hlt:=cntlt frm
    generalize hsq:scF ⟨b,n',pg,rt,gn⟩ frm=sq at hs1 hs2 h1'
    obtain ⟨l,next,e⟩:=sq
    simp only [] at hs1 hs2 h1'
    simp (disch:=omega) only [gG,simprocAttr,e0]
    refine ⟨_,hs1, ?_⟩
    by_cases c0:e=0
    · subst c0
      obtain ⟨hl1,hl2,hl3⟩:=hs2 rfl
      rw [if_neg (by simp)] at h1'
      simp (disch:=omega) only [gG,simprocAttr,mv_len]
      refine x_it l.length (fun t σ H' => H.n+2≤H'.n ∧
          H'.m H.n=some (.arr 5 [.agg [.fsl .loose 1 (bv b),.fsl .loose 1 (bv n'),.fsl .loose 1 (vS pg),.int .i64 rt,.int .i64 gn]])∧H'.m (H.n+1)=some (.md (putL M (l.take t)).length (rgP (putL M (l.take t))) (mvS (putL M (l.take t)))) ∧
          σ=[(1,.ptr H.n 0 0),(4,.map (H.n+1)),(8,.str next),(24,.fsl .loose 2 (mv prV l)),(25,.int .i64 l.length),(26,.int .i64 t)])
        ⟨hq,e0,e1,rfl⟩ ?_
      rintro T2 t σ ⟨q2,m2⟩ ht ⟨hq2,e2,e3,rfl⟩ hN2 hX2 hR2
      simp only [] at hq2 e2 e3
      by_cases c1:t < l.length
      · obtain ⟨p,hp⟩:∃ p,l[t]=p:=⟨_,rfl⟩
        have htk:l.take (t+1)=l.take t++[p]:=by rw [List.take_succ_eq_append_getElem c1,hp]
        have hMt:MOk ⟨b,n',pg,rt,gn⟩ (putL M (l.take t)):=h3.putL fun p hp => hl2 p (List.mem_of_mem_take hp)
        have n1:H.n+1≠q2:=by omega
        have n0:H.n≠q2:=by omega
        simp (disch:=omega) only [gG,simprocAttr,show (t:Int) < l.length by omega,a0w c1,hp,prV]
        simp (disch:=omega) only [gG,simprocAttr,e3]
        refine ⟨b5r _ _, ?_⟩
        refine hN2 _ _ c1 ⟨by simp only []; omega,(by simp (disch:=omega) only [a0d,a0c,wo_0,wo_1,wo_2,e2]), ?_,by simp⟩
        simp only [a0d]
        rw [e3w hMt.keys,htk,c8p]
      · obtain rfl:t=l.length:=by omega
        rw [List.take_length] at e3
        simp (disch:=omega) only [gG,simprocAttr,show ¬ (l.length:Int) < l.length by omega]
        refine hX2 _ _ _ ?_
        simp (disch:=omega) only [gG,simprocAttr]
        refine a0l ?_
        simp (disch:=omega) only [gG,simprocAttr]
        have hMl:=h3.putL hl2
        by_cases c2:next=[]
        · subst c2
          rw [if_pos rfl] at h1'
          refine hN _ _ (by omega) ⟨[],_,false,by simp,fun _ => h1'.symm,hMl,hq2,e2,e3,by simp⟩
        · rw [if_neg c2] at h1'
          have hn:=hl3.resolve_left c2
          have:=hlt next hn.1 hn.2
          refine hN _ _ (by omega) ⟨next,_,true,fun _ => ⟨by omega,by rw [show N - (i+1)=j by omega]; exact h1'⟩,by simp,hMl,hq2,e2,e3,by simp [c2]⟩
    · rw [if_pos c0] at h1'
      simp (disch:=omega) only [gG,simprocAttr,c0]
      refine hR _ _ ?_
      simp (disch:=omega) only [gG,simprocAttr]
      exact hbad _ _ _ e c0 hq rfl h1'.symm
end
section
open Go Go.RowKit
noncomputable def ldE (w:Wo) (bk:Int) (root:Bool):NdG×Int:=if woOk w=false then (nd0,1) else if (ldN w bk root).2=false then (nd0,81) else ((ldN w bk root).1,0)
theorem c4f (w:Wo) (bk:Int) (root:Bool) (hl:w.pages.length≤1000000):PCall Tryz.prog 125 [woV w,.int .i64 bk,.bool root] (.tup [ndV (ldE w bk root).1,.int .i64 (ldE w bk root).2]):=by
 refine en125 (by simp) (by simp [a0b,a2t,V.closed]) ?_;have hr:=a9g w hl;cases hw:woOk w with
 | false =>
  rw [hw] at hr;have hE:ldE w bk root=(nd0,1):=by simp [ldE,hw]
  rw [hE];obtain ⟨b,n,pg,rt,gn⟩:=w;have ht:∀ a b c d e:V,List.take 5 (List.drop 0 [a,b,c,d,e])=[a,b,c,d,e]:=fun _ _ _ _ _ => rfl;simp only [woV,woL] at hr;simp (disch:=omega) only [gG,simprocAttr,c125,woV,woL,ht];refine ⟨_,hr, ?_⟩;simp (disch:=omega) only [gG,simprocAttr]
  (refine a0e rfl ?_ ?_<;>simp [pack,lo,loL,V.closed,a0b,a0a,ndV,nd0,vS,vI,mv])
 | true =>
  rw [hw] at hr;have hb:=(b8r (w:=w) (bk:=bk) (root:=root));have hL:=b9f ⟨3,upd (upd (upd (fun _ => none) 0 (some (.arr 5 [.agg (woL w)]))) 1 (some (.arr 4 [.agg [.bool false,.fsl .nil 1 [],.fsl .nil 1 [],.fsl .nil 1 []]]))) 2 (some (lkO w [.str [],.int .i64 0,.int .i64 0,.fsl .nil 2 [],.str [],.bool false,.bool false]))⟩ 2 w [.str [],.int .i64 0,.int .i64 0,.fsl .nil 2 [],.str [],.bool false,.bool false] bk root hw (by simp) (by simp [upd]) (by simp [lowL,V.low]);have hE:ldE w bk root=if (ldN w bk root).2=false then (nd0,81) else ((ldN w bk root).1,0):=by simp [ldE,hw]
  rw [hE];obtain ⟨b,n,pg,rt,gn⟩:=w;have ht:∀ a b c d e:V,List.take 5 (List.drop 0 [a,b,c,d,e])=[a,b,c,d,e]:=fun _ _ _ _ _ => rfl;simp only [woV,woL,lkO,List.cons_append,List.nil_append] at hr hL;simp (disch:=omega) only [gG,simprocAttr,c125,woV,woL,ht];refine ⟨_,hr, ?_⟩;simp (disch:=omega) only [gG,simprocAttr,ht];refine .of hL ?_;generalize ldN ⟨b,n,pg,rt,gn⟩ bk root=q at hb ⊢;obtain ⟨⟨lf,ks,vs,kd⟩,x⟩:=q;have ht4:∀ a b c d:V,List.take 4 (List.drop 0 [a,b,c,d])=[a,b,c,d]:=fun _ _ _ _ => rfl;cases x with
  | false =>
   simp (disch:=omega) only [gG,simprocAttr,ndV]
   (refine a0e rfl ?_ ?_<;>simp [pack,lo,loL,V.closed,a0b,a0a,ndV,nd0,vS,vI,mv])
  | true =>
   simp (disch:=omega) only [gG,simprocAttr,ndV,ht4]
   (refine a0e rfl ?_ ?_<;>simp [pack,lo,loL,V.closed,a0b,a0a,ndV,vS,vI,a3e (f:=V.str) (fun _ => rfl),a3e (f:=V.int .i64) (fun _ => rfl),a0a (f:=V.str) (fun _ => rfl),a0a (f:=V.int .i64) (fun _ => rfl)])
def outQ (low high:Str) (k:Str):Bool:=ltS k low || (!decide (high=[]) && !ltS k high)
theorem e3h (H:Hp) (a c:Nat) (k low high:Str) (ha:a < H.n) (hc:c < H.n) (h1:H.m a=some (.arr 1 [.str low])) (h2:H.m c=some (.arr 1 [.str high])) :
  ACall Tryz.prog 126 [.str k,.ptr a 0 0,.ptr c 0 0] H [a,c] (.bool (outQ low high k)) [] 0:=by
 refine ena126 (by simp) (by simp [lowL,V.low,ha,hc]) (fun id hid => ?_) (by simp) ?_
 ·simp at hid;rcases hid with rfl | rfl
  ·exact ⟨ha,fun o ho => by rw [h1] at ho; simp at ho; subst ho; rfl⟩
  ·exact ⟨hc,fun o ho => by rw [h2] at ho; simp at ho; subst ho; rfl⟩
 have q1:only [a,c] H.m a=some (.arr 1 [.str low]):=by simp [only,h1]
 have q2:only [a,c] H.m c=some (.arr 1 [.str high]):=by simp [only,h2]
 have hf:∀ (x:Bool) (σ:Sg),outQ low high k=x→resE σ (only [a,c] H.m) r126=some [.bool x]→FinA r126 (only [a,c] H.m) H.n (.bool (outQ low high k)) [] 0 .ret σ ⟨H.n,only [a,c] H.m⟩:=by
  rintro x σ rfl h;exact a2o (l:=[.bool _]) h (.inl rfl) (by simp) (fun j => .inr rfl)
 cases c1:ltS k low with
 | true =>
  simp (disch:=omega) only [gG,simprocAttr,c126,q1,q2,show Op.bytesLess k low=true from c1];exact hf _ _ (by simp [outQ,c1]) rfl
 | false =>
  by_cases c2:high=[]
  ·subst c2;simp (disch:=omega) only [gG,simprocAttr,c126,q1,q2,show Op.bytesLess k low=false from c1];exact hf _ _ (by simp [outQ,c1]) rfl
  ·simp (disch:=omega) only [gG,simprocAttr,c126,q1,q2,show Op.bytesLess k low=false from c1,c2];exact hf _ _ (by simp [outQ,c1,c2,ltS]) rfl
end
section
open Go Go.RowKit
theorem e6w {w:Wo} {bk:Int} {root:Bool}:NdB (ldE w bk root).1∧((ldE w bk root).2=0→10≤bk∧bk < w.n.length∧NdOk (ldE w bk root).1):=by
 unfold ldE;split
 ·exact ⟨c9h,by simp⟩
 split
 ·exact ⟨c9h,by simp⟩
 ·rename_i c;have:=b8r (w:=w) (bk:=bk) (root:=root);exact ⟨this.1,fun _ => this.2 (by simpa using c)⟩
structure Wkr where
 p:Int
 h:Int
 bl:Int
 us:List Bool
 bad:Bool
def wkL (s:Wkr) (u:Nat):List V:=[.int .i64 s.p,.int .i64 s.h,.int .i64 s.bl,.sl u 0 s.us.length,.bool s.bad]
def wkO (w:Wo) (r:List V):Ob:=.arr 10 [.agg (woL w++r)]
structure WkSt (n:Nat) (m:Hm) (a u:Nat) (w:Wo) (s:Wkr):Prop where
 an:a < n
 un:u < n
 au:a≠u
 box:m a=some (wkO w (wkL s u))
 row:m u=some (.arr 1 (bv s.us))
 len:s.us.length=w.n.length
theorem e1b {n:Nat} {w:Wo} {r:List V} (hr:lowL n r=true):(wkO w r).low n=true:=by
 have:=d2i (w:=w) hr;simpa [lkO,wkO,Ob.low] using this
theorem WkSt.congr {n n':Nat} {m m':Hm} {a u:Nat} {w:Wo} {s:Wkr} (h:WkSt n m a u w s) (hn:n≤n') (ha:m' a=m a) (hu:m' u=m u):WkSt n' m' a u w s :=
 ⟨Nat.lt_of_lt_of_le h.an hn,Nat.lt_of_lt_of_le h.un hn,h.au,ha.trans h.box,hu.trans h.row,h.len⟩
theorem WkSt.fp {n:Nat} {m:Hm} {a u:Nat} {w:Wo} {s:Wkr} (h:WkSt n m a u w s):∀ id∈[a,u],id < n∧∀ ob,m id=some ob→ob.low n=true:=by
 intro id hid;simp only [List.mem_cons,List.not_mem_nil,or_false] at hid;rcases hid with rfl | rfl
 ·exact ⟨h.an,fun ob e => by rw [h.box] at e; cases e; exact e1b (by simp [wkL,lowL,V.low,h.un])⟩
 ·exact ⟨h.un,fun ob e => by rw [h.row] at e; cases e; exact a0h _ (a0g _)⟩
structure WkTo (H:Hp) (a u:Nat) (w:Wo) (ds:List (Nat×Option Ob)) (k:Nat):Prop where
 st:∃ s',WkSt (H.n+k) (appd ds H.m) a u w s'
 fr:∀ id,id < H.n→id≠a→id≠u→appd ds H.m id=H.m id
theorem e4v {rvs:List RV} {H:Hp} {a u:Nat} {w:Wo} {s':Wkr} {x:AEx} {σ:Sg} {H':Hp} (hrv:rvs=[]) (hx:x=.norm∨x=.ret) (hn:H.n≤H'.n) (hS:WkSt H'.n H'.m a u w s') :
  a8d rvs (only [a,u] H.m) H.n [a,u] (fun r ds k => WkTo H a u w ds k) x σ H':=by
 subst hrv;refine a7x (l:=[]) rfl hx hn fun ds k hk hd => ⟨⟨s',hS.congr (by omega) ?_ ?_⟩,fun id h1 h2 h3 => ?_⟩
 ·rw [hd,if_pos (.inl (by simp))]
 ·rw [hd,if_pos (.inl (by simp))]
 ·rw [hd,if_neg];rintro (h | h)
  ·simp at h; omega
  ·omega
theorem d5o (a u:Nat) (w:Wo) (hpl:w.pages.length≤1000000) (hwn:w.n.length≤1000000):∀ (f:Nat) (H:Hp) (s:Wkr) (bk:Int) (low high:Str),f≤8→WkSt H.n H.m a u w s →
  CEx Tryz.prog 73 [.ptr a 0 0,.int .i64 bk,.int .i64 (9 - (f:Int)),.str low,.str high] H [a,u] (fun r ds k => WkTo H a u w ds k):=by
 intro f
 induction f using Nat.strongRecOn with
 | _ f ih =>
  intro H s bk low high hf h;refine exA (fun r ds k hd => ena73 (by simp) (by simp [lowL,V.low,h.an]) h.fp hd) rfl ?_;have hs:WkSt H.n (only [a,u] H.m) a u w s:=h.congr (Nat.le_refl _) (by simp [only]) (by simp [only]);obtain ⟨D,hD⟩:∃ D:Int,9 - (f:Int)=D:=⟨_,rfl⟩;rw [hD];have hfin:∀ (x:AEx) (σ:Sg) (H':Hp) (s':Wkr),(x=.norm∨x=.ret)→H.n≤H'.n→WkSt H'.n H'.m a u w s' →
   a8d r73 (only [a,u] H.m) H.n [a,u] (fun r ds k => WkTo H a u w ds k) x σ H':=fun x σ H' s' e1 e2 e4 => e4v rfl e1 e2 e4
  have an:=h.an;have un:=h.un;have au:=h.au;have hsl:=h.len;generalize hm0:only [a,u] H.m=m0 at hs hfin ⊢;have hmk:∀ (n':Nat) (m':Hm) (p h bl:Int) (us:List Bool) (bad:Bool),H.n≤n'→us.length=w.n.length→m' a=some (wkO w [.int .i64 p,.int .i64 h,.int .i64 bl,.sl u 0 us.length,.bool bad])→m' u=some (.arr 1 (bv us))→WkSt n' m' a u w ⟨p,h,bl,us,bad⟩:=fun n' m' p h bl us bad e1 e2 e3 e4 => ⟨by omega,by omega,au,e3,e4,e2⟩;have q1:=hs.box;have q2:=hs.row;have hL:=c4f w bk (decide (D=1)) hpl;have hok:=e6w (w:=w) (bk:=bk) (root:=decide (D=1));obtain ⟨p,ht,bl,us,bad⟩:=s;obtain ⟨b,n,pg,rt,gn⟩:=w;have ht5:∀ (a b c d e:V) (l:List V),List.take 5 (List.drop 0 (a::b::c::d::e::l))=[a,b,c,d,e]:=fun _ _ _ _ _ _ => rfl;have ht4:∀ a b c d:V,List.take 4 (List.drop 0 [a,b,c,d])=[a,b,c,d]:=fun _ _ _ _ => rfl;simp only [wkO,woV,woL,wkL,List.cons_append,List.nil_append] at q1 q2 hL hmk hsl;simp (disch:=omega) only [gG,simprocAttr,c73,q1,ht5];refine ⟨_,hL, ?_⟩;generalize ldE ⟨b,n,pg,rt,gn⟩ bk (decide (D=1))=q at hok ⊢;obtain ⟨⟨lf,ks,vs,kd⟩,e⟩:=q;simp only [] at hok;have hbad:∀ (σ:Sg) (n':Nat) (m':Hm) (p' h' bl':Int) (us':List Bool) (bd:Bool),H.n≤n'→us'.length=us.length→m' a=some (.arr 10 [.agg [.fsl .loose 1 (bv b),.fsl .loose 1 (bv n),.fsl .loose 1 (vS pg),.int .i64 rt,.int .i64 gn,.int .i64 p',.int .i64 h',.int .i64 bl',.sl u 0 us.length,.bool bd]])→m' u=some (.arr 1 (bv us')) →
    a8d r73 m0 H.n [a,u] (fun r ds k => WkTo H a u ⟨b,n,pg,rt,gn⟩ ds k) .ret σ ⟨n',m'⟩:=fun σ n' m' p' h' bl' us' bd e1 e0 e2 e3 =>
   hfin _ _ _ ⟨p',h',bl',us',bd⟩ (.inr rfl) e1 (hmk _ _ _ _ _ us' bd e1 (e0.trans hsl) (by rw [e0]; exact e2) e3)
  have aH:∀ k,a≠H.n+k:=fun k => by omega
  have uH:∀ k,u≠H.n+k:=fun k => by omega
  have aH0:a≠H.n:=by omega
  have uH0:u≠H.n:=by omega
  by_cases c1:e=0
  case neg =>
   simp (disch:=omega) only [gG,simprocAttr,ndV,c1,q1];exact hbad _ _ _ p ht bl us true (by omega) rfl (by simp [upd]) (by simp [upd,uH,uH0,au.symm,q2])
  subst c1;obtain ⟨hB,hok⟩:=hok;obtain ⟨hb1,hb2,hok2⟩:=hok rfl;obtain ⟨i,rfl⟩:∃ i:Nat,bk=i:=⟨bk.toNat,by omega⟩;have hi:i < us.length:=by omega
  have hg:(bv us)[i]?=some (.bool us[i]):=by simp [bv,mv,hi]
  have hfew:=hok2.few;simp only [] at hfew hB;have hi':(i:Int) < us.length:=by omega
  by_cases c2:8 < D
  ·simp (disch:=omega) only [gG,simprocAttr,ndV,c2,q1];exact hbad _ _ _ p ht bl us true (by omega) rfl (by simp [upd]) (by simp [upd,uH,uH0,au.symm,q2])
  cases c3:us[i] with
  | true =>
   rw [c3] at hg;simp (disch:=omega) only [gG,simprocAttr,ndV,c2,q1,q2,hg,hi'];exact hbad _ _ _ p ht bl us true (by omega) rfl (by simp [upd]) (by simp [upd,uH,uH0,au.symm,q2])
  | false =>
   rw [c3] at hg;by_cases c4:lf=true∧ks.length=0
   ·obtain ⟨rfl,c4⟩:=c4;simp (disch:=omega) only [gG,simprocAttr,ndV,c2,q1,q2,hg,hi',a1a,c4];exact hbad _ _ _ p ht bl us true (by omega) rfl (by simp [upd]) (by simp [upd,uH,uH0,au.symm,q2])
   have hcon:∀ H':Hp,H.n+3≤H'.n→H'.m H.n=some (.arr 1 [.str low])→H'.m (H.n+1)=some (.arr 1 [.str high])→ACall Tryz.prog 123 [.fsl .loose 1 (vS ks),.fn 126 [] [.ptr H.n 0 0,.ptr (H.n+1) 0 0]] H' [H.n,H.n+1] (.bool (ks.any (outQ low high))) [] (ks.length*0):=fun H' e1 e2 e3 =>
    b7o (k:=none) ena123 ena187 (by decide) (by decide) (f:=V.str) (fun a b h => by simpa using h) (fun _ => rfl) (fun _ => rfl) (by omega) rfl (by simp [lowL,V.low]; omega)
     (fun id hid => by
      simp at hid;rcases hid with rfl | rfl
      ·exact ⟨by omega,fun o ho => by rw [e2] at ho; simp at ho; subst ho; rfl⟩
      ·exact ⟨by omega,fun o ho => by rw [e3] at ho; simp at ho; subst ho; rfl⟩)
     (fun x hx H2 k1 k2 => e3h H2 H.n (H.n+1) x low high (by omega) (by omega) ((k2 _ (by simp)).trans e2) ((k2 _ (by simp)).trans e3))
   have hus:(us.set i true).length=us.length:=by simp
   have hcase:(lf=true∧¬ ks.length=0)∨lf=false:=by cases lf<;>simp_all
   rcases hcase with ⟨rfl,c4⟩ | rfl
   ·simp (disch:=omega) only [gG,simprocAttr,ndV,c2,q1,q2,hg,hi',a1a,show ¬ (ks.length:Int)=0 by omega];rw [b7l];refine .of (hcon _ (by simp) (by simp (disch:=omega) only [a0d,a0c,wo_0,wo_1,wo_2]) (by simp (disch:=omega) only [a0d,a0c,wo_0,wo_1,wo_2])) ?_;cases hq:ks.any (outQ low high) with
    | true =>
     simp (disch:=omega) only [gG,simprocAttr];exact hbad _ _ _ p ht (IntKind.i64.wrap (bl+1)) (us.set i true) true (by omega) hus (by simp [upd]) (by simp [upd,uH,uH0,au.symm,q2])
    | false =>
     simp (disch:=omega) only [gG,simprocAttr];cases bad with
     | true =>
      simp (disch:=omega) only [gG,simprocAttr];exact hbad _ _ _ _ _ _ (us.set i true) _ (by omega) hus a0d (by simp [upd,uH,uH0,au.symm,q2])
     | false =>
      by_cases d1:ht=0
      ·simp (disch:=omega) only [gG,simprocAttr,d1];exact hbad _ _ _ _ _ _ (us.set i true) _ (by omega) hus a0d (by simp [upd,uH,uH0,au.symm,q2])
      ·simp (disch:=omega) only [gG,simprocAttr,d1];exact hbad _ _ _ _ _ _ (us.set i true) _ (by omega) hus a0d (by simp [upd,uH,uH0,au.symm,q2])
   ·simp (disch:=omega) only [gG,simprocAttr,ndV,c2,q1,q2,hg,hi',a1a];rw [b7l];refine .of (hcon _ (by simp) (by simp (disch:=omega) only [a0d,a0c,wo_0,wo_1,wo_2]) (by simp (disch:=omega) only [a0d,a0c,wo_0,wo_1,wo_2])) ?_;cases hq:ks.any (outQ low high) with
    | true =>
     simp (disch:=omega) only [gG,simprocAttr];exact hbad _ _ _ p ht (IntKind.i64.wrap (bl+1)) (us.set i true) true (by omega) hus (by simp [upd]) (by simp [upd,uH,uH0,au.symm,q2])
    | false =>
     simp (disch:=omega) only [gG,simprocAttr];have hkl:kd.length=ks.length+1:=(hok2.inner rfl).2;have hvk:(vI kd).length=kd.length:=by simp [vI,mv_len]
     refine x_it kd.length (fun j σ H' => ∃ s',H.n+3≤H'.n∧WkSt H'.n H'.m a u ⟨b,n,pg,rt,gn⟩ s'∧H'.m H.n=some (.arr 1 [.str low])∧H'.m (H.n+1)=some (.arr 1 [.str high])∧H'.m (H.n+2)=some (.arr 4 [.agg [.bool false,.fsl .loose 1 (vS ks),.fsl .loose 1 (vS vs),.fsl .loose 1 (vI kd)]]) ∧
      σ=[(0,.ptr a 0 0),(2,.int .i64 D),(8,.ptr H.n 0 0),(9,.ptr (H.n+1) 0 0),(10,.ptr (H.n+2) 0 0),(121,.fsl .loose 1 (vI kd)),(122,.int .i64 kd.length),(123,.int .i64 j)])
      ⟨⟨p,ht,IntKind.i64.wrap (bl+1),us.set i true,bad⟩,by simp,hmk _ _ _ _ _ _ _ (by simp only []; omega) (by rw [hus]; exact hsl) (by rw [hus]; exact a0d) (by simp [upd,uH,uH0,au.symm]),(by simp (disch:=omega) only [a0d,a0c,wo_0,wo_1,wo_2]),(by simp (disch:=omega) only [a0d,a0c,wo_0,wo_1,wo_2]),(by simp (disch:=omega) only [a0d,a0c,wo_0,wo_1,wo_2]),by simp [hvk]⟩ ?_
     rintro T j σ ⟨n',m'⟩ hj ⟨s',e1,e2,e3,e4,e5,rfl⟩ hN hX hR;simp only [] at e1 e2 e3 e4 e5;by_cases c5:j < kd.length
     ·have hvg:(vI kd)[j]?=some (.int .i64 kd[j]):=by simp [vI,mv,c5]
      obtain ⟨g,rfl⟩:∃ g,f=g+1:=⟨f - 1,by omega⟩;have hcall:=fun lo' hi' => ih g (by omega) ⟨n',m'⟩ s' kd[j] lo' hi' (by omega) e2;rw [show 9 - (g:Int)=D+1 by omega] at hcall;have hcallK:∀ (lo' hi':Str) (K:KI),(∀ r ds k s2,WkSt (n'+k) (appd ds m') a u ⟨b,n,pg,rt,gn⟩ s2→(∀ id,id < n'→id≠a→id≠u→appd ds m' id=m' id)→K r [a,u] ds k)→CallA Tryz.prog 73 [.ptr a 0 0,.int .i64 kd[j],.int .i64 (D+1),.str lo',.str hi'] ⟨n',m'⟩ K:=fun lo' hi' K hK => by
       obtain ⟨_,ds,k,hc,⟨s2,hS2⟩,hfr2⟩:=hcall lo' hi';exact .of hc (hK _ _ _ s2 hS2 hfr2)
      have hw4:(j=0∧j < ks.length)∨(j=0∧¬ j < ks.length)∨(¬ j=0∧j < ks.length)∨(¬ j=0∧¬ j < ks.length):=by omega
      have hjk:¬ j=0→((j:Int) - 1).toNat=j - 1∧(vS ks)[j - 1]?=some (.str (ks[j - 1]?.getD [])):=fun c => ⟨by omega,by
       have:j - 1 < ks.length:=by omega
       rw [a2f this]; simp [this]⟩
      have hjl:(j:Int) < kd.length:=by omega
      rcases hw4 with ⟨c6,c7⟩ | ⟨c6,c7⟩ | ⟨c6,c7⟩ | ⟨c6,c7⟩
      ·simp (disch:=omega) only [gG,simprocAttr,hjl,hvg,e3,e4,e5,show ¬ (0:Int) < j by omega,a1a,show (j:Int) < ks.length by omega,a2f c7];refine hcallK _ _ _ fun r ds k s2 hS2 hfr2 => ?_;simp (disch:=omega) only [gG,simprocAttr];have q3:=hS2.box;obtain ⟨p2,h2,b2,us2,bd2⟩:=s2;simp only [wkO,woL,wkL,List.cons_append,List.nil_append] at q3;cases bd2 with
       | true =>
        simp (disch:=omega) only [gG,simprocAttr,q3];refine hR _ _ ?_;simp (disch:=omega) only [gG,simprocAttr];exact hfin _ _ _ _ (.inr rfl) (by simp only []; omega) hS2
       | false =>
        simp (disch:=omega) only [gG,simprocAttr,q3];exact hN _ _ c5 ⟨_,by simp only []; omega,hS2,(hfr2 H.n (by omega) (by omega) (by omega)).trans e3,(hfr2 (H.n+1) (by omega) (by omega) (by omega)).trans e4,(hfr2 (H.n+2) (by omega) (by omega) (by omega)).trans e5,by simp⟩
      ·simp (disch:=omega) only [gG,simprocAttr,hjl,hvg,e3,e4,e5,show ¬ (0:Int) < j by omega,a1a,show ¬ (j:Int) < ks.length by omega];refine hcallK _ _ _ fun r ds k s2 hS2 hfr2 => ?_;simp (disch:=omega) only [gG,simprocAttr];have q3:=hS2.box;obtain ⟨p2,h2,b2,us2,bd2⟩:=s2;simp only [wkO,woL,wkL,List.cons_append,List.nil_append] at q3;cases bd2 with
       | true =>
        simp (disch:=omega) only [gG,simprocAttr,q3];refine hR _ _ ?_;simp (disch:=omega) only [gG,simprocAttr];exact hfin _ _ _ _ (.inr rfl) (by simp only []; omega) hS2
       | false =>
        simp (disch:=omega) only [gG,simprocAttr,q3];exact hN _ _ c5 ⟨_,by simp only []; omega,hS2,(hfr2 H.n (by omega) (by omega) (by omega)).trans e3,(hfr2 (H.n+1) (by omega) (by omega) (by omega)).trans e4,(hfr2 (H.n+2) (by omega) (by omega) (by omega)).trans e5,by simp⟩
      ·simp (disch:=omega) only [gG,simprocAttr,hjl,hvg,e3,e4,e5,show (0:Int) < j by omega,a1a,show (j:Int) < ks.length by omega,a2f c7,hjk c6,show (0:Int)≤(j:Int) - 1 by omega,show (j:Int) - 1 < ks.length by omega];refine hcallK _ _ _ fun r ds k s2 hS2 hfr2 => ?_;simp (disch:=omega) only [gG,simprocAttr];have q3:=hS2.box;obtain ⟨p2,h2,b2,us2,bd2⟩:=s2;simp only [wkO,woL,wkL,List.cons_append,List.nil_append] at q3;cases bd2 with
       | true =>
        simp (disch:=omega) only [gG,simprocAttr,q3];refine hR _ _ ?_;simp (disch:=omega) only [gG,simprocAttr];exact hfin _ _ _ _ (.inr rfl) (by simp only []; omega) hS2
       | false =>
        simp (disch:=omega) only [gG,simprocAttr,q3];exact hN _ _ c5 ⟨_,by simp only []; omega,hS2,(hfr2 H.n (by omega) (by omega) (by omega)).trans e3,(hfr2 (H.n+1) (by omega) (by omega) (by omega)).trans e4,(hfr2 (H.n+2) (by omega) (by omega) (by omega)).trans e5,by simp⟩
      ·simp (disch:=omega) only [gG,simprocAttr,hjl,hvg,e3,e4,e5,show (0:Int) < j by omega,a1a,show ¬ (j:Int) < ks.length by omega,hjk c6,show (0:Int)≤(j:Int) - 1 by omega,show (j:Int) - 1 < ks.length by omega];refine hcallK _ _ _ fun r ds k s2 hS2 hfr2 => ?_;simp (disch:=omega) only [gG,simprocAttr];have q3:=hS2.box;obtain ⟨p2,h2,b2,us2,bd2⟩:=s2;simp only [wkO,woL,wkL,List.cons_append,List.nil_append] at q3;cases bd2 with
       | true =>
        simp (disch:=omega) only [gG,simprocAttr,q3];refine hR _ _ ?_;simp (disch:=omega) only [gG,simprocAttr];exact hfin _ _ _ _ (.inr rfl) (by simp only []; omega) hS2
       | false =>
        simp (disch:=omega) only [gG,simprocAttr,q3];exact hN _ _ c5 ⟨_,by simp only []; omega,hS2,(hfr2 H.n (by omega) (by omega) (by omega)).trans e3,(hfr2 (H.n+1) (by omega) (by omega) (by omega)).trans e4,(hfr2 (H.n+2) (by omega) (by omega) (by omega)).trans e5,by simp⟩
     ·simp (disch:=omega) only [gG,simprocAttr,show ¬ (j:Int) < kd.length by omega];refine hX _ _ _ ?_;simp (disch:=omega) only [gG,simprocAttr];exact hfin _ _ _ s' (.inl rfl) (by simp only []; omega) e2
end
section
open Go Go.RowKit
def cwT (H:Hp) (w:Wo) (r:V) (ds:List (Nat×Option Ob)) (k:Nat):Prop :=
 (∃ e,e≠0∧r=.tup [.nilp,.int .i64 e]∧¬ (woOk w=true∧w.root=0)) ∨
 (woOk w=true∧∃ a u s,r=.tup [.ptr a 0 0,.int .i64 0]∧WkSt (H.n+k) (appd ds H.m) a u w s∧(w.root=0→s=⟨0,0,0,List.replicate w.n.length false,false⟩))
theorem e3k (H:Hp) (w:Wo) (hpl:w.pages.length≤1000000):CEx Tryz.prog 27 [woV w] H [] (cwT H w):=by
 refine exA (fun r ds k hd => ena27 (by simp) (by simp [lowL,V.low_closed _ (a2t w)]) (by simp) hd) rfl ?_;have hr:=a9g w hpl;cases hw:woOk w with
 | false =>
  rw [hw] at hr;obtain ⟨b,n,pg,rt,gn⟩:=w;have ht:∀ a b c d e:V,List.take 5 (List.drop 0 [a,b,c,d,e])=[a,b,c,d,e]:=fun _ _ _ _ _ => rfl;simp only [woV,woL] at hr;simp (disch:=omega) only [gG,simprocAttr,c27,woV,woL,ht];refine ⟨_,hr, ?_⟩;simp (disch:=omega) only [gG,simprocAttr];exact a7x (l:=[.nilp,.int .i64 1]) rfl (.inr rfl) (by simp) fun ds k hk hd => .inl ⟨1,by decide,rfl,by simp [hw]⟩
 | true =>
  rw [hw] at hr;obtain ⟨b,n,pg,rt,gn⟩:=w;have ht:∀ a b c d e:V,List.take 5 (List.drop 0 [a,b,c,d,e])=[a,b,c,d,e]:=fun _ _ _ _ _ => rfl;simp only [woV,woL] at hr;simp (disch:=omega) only [gG,simprocAttr,c27,woV,woL,ht];refine ⟨_,hr, ?_⟩;have hwn:n.length≤2048:=by
   have:a2y b n=true:=by simp [woOk] at hw; exact hw.1
   exact (a3z this).2.2
  have hrep:List.replicate n.length (V.bool false)=bv (List.replicate n.length false):=by simp [bv,mv]
  have hst:∀ m,m (H.n+2)=some (.arr 10 [.agg [.fsl .loose 1 (bv b),.fsl .loose 1 (bv n),.fsl .loose 1 (vS pg),.int .i64 rt,.int .i64 gn,.int .i64 0,.int .i64 0,.int .i64 0,.sl (H.n+1) 0 n.length,.bool false]])→m (H.n+1)=some (.arr 1 (bv (List.replicate n.length false)))→WkSt (H.n+3) m (H.n+2) (H.n+1) ⟨b,n,pg,rt,gn⟩ ⟨0,0,0,List.replicate n.length false,false⟩:=fun m h1 h2 =>
   ⟨by omega,by omega,by omega,by simpa [wkO,woL,wkL] using h1,h2,by simp⟩
  have hfin:∀ (x:AEx) (σ:Sg) (H':Hp) (s:Wkr),resE σ H'.m r27=some [.ptr (H.n+2) 0 0,.int .i64 0]→(x=.norm∨x=.ret)→H.n+3≤H'.n→WkSt H'.n H'.m (H.n+2) (H.n+1) ⟨b,n,pg,rt,gn⟩ s→(rt=0→s=⟨0,0,0,List.replicate n.length false,false⟩)→a8d r27 (only [] H.m) H.n [] (cwT H ⟨b,n,pg,rt,gn⟩) x σ H':=fun x σ H' s e0 e1 e2 e3 e4 =>
   a7x e0 e1 (by omega) fun ds k hk hd => .inr ⟨hw,H.n+2,H.n+1,s,rfl,e3.congr (by omega) (by rw [hd,if_pos (.inr ⟨by omega,by omega⟩)]) (by rw [hd,if_pos (.inr ⟨by omega,by omega⟩)]),e4⟩
  simp (disch:=omega) only [gG,simprocAttr,ht,a2p];refine ⟨⟨by omega,by omega⟩,by simp [a1f,disj,nthL],fun c => ?_,fun c => ?_⟩
  ·rw [hrep];obtain ⟨m,hm⟩:∃ m,m=upd (upd (upd (only [] H.m) H.n (some (.arr 5 [.agg [.fsl .loose 1 (bv b),.fsl .loose 1 (bv n),.fsl .loose 1 (vS pg),.int .i64 rt,.int .i64 gn]]))) (H.n+1) (some (.arr 1 (bv (List.replicate n.length false))))) (H.n+2) (some (.arr 10 [.agg [.fsl .loose 1 (bv b),.fsl .loose 1 (bv n),.fsl .loose 1 (vS pg),.int .i64 rt,.int .i64 gn,.int .i64 0,.int .i64 0,.int .i64 0,.sl (H.n+1) 0 n.length,.bool false]])):=⟨_,rfl⟩;obtain ⟨_,ds,k,hc,⟨s2,hS2⟩,hfr2⟩:=d5o (H.n+2) (H.n+1) ⟨b,n,pg,rt,gn⟩ hpl (by simp only []; omega) 8 ⟨H.n+3,m⟩ _ rt [] [] (by decide) (hst m (by rw [hm,a0d]) (by subst hm; simp (disch:=omega) only [a0d,a0c,ne_eq]));rw [show (9:Int) - ((8:Nat):Int)=1 by decide] at hc;subst hm;refine .of hc ?_;have q3:=hS2.box;obtain ⟨p2,h2,b2,us2,bd2⟩:=s2;simp only [wkO,woL,wkL,List.cons_append,List.nil_append] at q3;cases bd2 with
   | true =>
    simp (disch:=omega) only [gG,simprocAttr,q3];exact a7x (l:=[.nilp,.int .i64 81]) rfl (.inr rfl) (by simp only []; omega) fun ds k hk hd => .inl ⟨81,by decide,rfl,fun h => c h.2⟩
   | false =>
    simp (disch:=omega) only [gG,simprocAttr,q3];exact hfin _ _ _ _ rfl (.inr rfl) (by simp only []; omega) hS2 fun h => absurd h c
  ·rw [hrep];exact hfin _ _ _ _ rfl (.inr rfl) (by simp only []; omega) (hst _ a0d (by simp (disch:=omega) only [a0d,a0c,ne_eq])) fun _ => rfl
end
section
open Go Go.RowKit
def plain (w:Wo) (m:Int):Prop:=woOk w=true∧w.root=0∧10≤m∧m < w.n.length∧∀ b (h:b < w.n.length),w.n[b]=(decide (b < 10) || decide ((b:Int)=m))
def repV (p:Int×Int×Int):V:=.agg [.int .i64 p.1,.int .i64 p.2.1,.int .i64 p.2.2]
def ckT (w:Wo) (m:Int) (r:V):Prop:=∃ p e,r=.tup [repV p,.int .i64 e]∧(e=0→10≤m∧m < w.n.length∧w.n.getD m.toNat false=true)∧(plain w m→e=0∧p=(0,0,0))
theorem d1s (w:Wo) (m:Int) (st:St) (hpl:w.pages.length≤1000000):PEx Tryz.prog 12 [woV w,.fsl st 1 [.int .i64 m]] (ckT w m):=by
 refine exP (fun r => en12 (by simp) (by simp [a0b,a2t,V.closed])) rfl ?_;have hF:∀ (σ:Sg) (H:Hp) (e:Int),e≠0→¬ plain w m→resE σ H.m r12=some [.agg [.int .i64 0,.int .i64 0,.int .i64 0],.int .i64 e]→FinE r12 (ckT w m) .ret σ H:=fun σ H e he hn hr =>
  ⟨.tup [repV (0,0,0),.int .i64 e],a0e hr rfl rfl,(0,0,0),e,rfl,fun h => absurd h he,fun h => absurd h hn⟩
 have hcw:=fun H => e3k H w hpl;obtain ⟨b,n,pg,rt,gn⟩:=w;have ht:∀ a b c d e:V,List.take 5 (List.drop 0 [a,b,c,d,e])=[a,b,c,d,e]:=fun _ _ _ _ _ => rfl;have ht3:∀ a b c d e f g h:V,∀ l,List.take 3 (List.drop 5 (a::b::c::d::e::f::g::h::l))=[f,g,h]:=fun _ _ _ _ _ _ _ _ _ => rfl;simp only [woV,woL] at hcw;obtain ⟨M,hM⟩:∃ M:Hm,M=upd (upd (fun _ => none) 0 (some (.arr 5 [.agg [.fsl .loose 1 (bv b),.fsl .loose 1 (bv n),.fsl .loose 1 (vS pg),.int .i64 rt,.int .i64 gn]]))) 1 (some (.arr 3 [.agg [.int .i64 0,.int .i64 0,.int .i64 0]])):=⟨_,rfl⟩;have hM1:M 1=some (.arr 3 [.agg [.int .i64 0,.int .i64 0,.int .i64 0]]):=by rw [hM,a0d]
 obtain ⟨_,ds,k,hc,hT⟩:=hcw ⟨2,M⟩;have d1:appd ds M 1=M 1:=a8b fun hp => by
  obtain ⟨p,hp,e⟩:=List.mem_map.1 hp;rcases hc.2.1 p hp with h | h
  ·simp at h
  ·simp only [] at h; omega
 rw [hM1] at d1;simp (disch:=omega) only [gG,simprocAttr,c12,woV,woL,ht];rw [← hM];refine .of hc ?_;rcases hT with ⟨e,he,rfl,hn⟩ | ⟨hw,a,u,s,rfl,hS,hs0⟩
 ·simp (disch:=omega) only [gG,simprocAttr,he,d1];exact hF _ _ e he (fun h => hn ⟨h.1,h.2.1⟩) rfl
 simp only [] at hS hs0;simp (disch:=omega) only [gG,simprocAttr,d1];generalize appd ds M=m1 at hS d1 ⊢;have hl:=hS.len;have q3:=hS.box;have q4:=hS.row;have au:=hS.au;obtain ⟨p,h,bl,us,bd⟩:=s;simp only [wkO,woL,wkL,List.cons_append,List.nil_append] at q3 q4 hl hs0;have a1:a≠1:=fun e => by subst e; rw [d1] at q3; cases q3
 have u1:u≠1:=fun e => by subst e; rw [d1] at q4; cases q4
 by_cases cm:10≤m∧m < n.length
 case neg =>
  refine x_it 1 (fun j σ H' => j=0∧H'=⟨2+k,m1⟩∧σ=[(4,.ptr 1 0 0),(6,.ptr a 0 0),(21,.fsl st 1 [.int .i64 m]),(22,.int .i64 1),(23,.int .i64 0)]) ⟨rfl,rfl,rfl⟩ ?_;rintro T j σ H' hj ⟨rfl,rfl,rfl⟩ hN hX hR;rcases Decidable.em (m < 10) with c2 | c2
  ·simp (disch:=omega) only [gG,simprocAttr,c2,d1];refine hR _ _ ?_;simp (disch:=omega) only [gG,simprocAttr];exact hF _ _ 81 (by decide) (fun h => cm ⟨h.2.2.1,h.2.2.2.1⟩) rfl
  ·simp (disch:=omega) only [gG,simprocAttr,c2,d1,q3,show ((us.length:Nat):Int)≤m by omega];refine hR _ _ ?_;simp (disch:=omega) only [gG,simprocAttr];exact hF _ _ 81 (by decide) (fun h => cm ⟨h.2.2.1,h.2.2.2.1⟩) rfl
 obtain ⟨i,rfl⟩:∃ i:Nat,m=i:=⟨m.toNat,by omega⟩;have hi:i < us.length:=by omega
 have hi':(i:Int) < us.length:=by omega
 have hg:(bv us)[i]?=some (.bool us[i]):=by simp [bv,mv,hi]
 refine x_it 1 (fun j σ H' => (j=0∧H'=⟨2+k,m1⟩∨j=1∧us[i]=false∧H'=⟨2+k,upd m1 u (some (.arr 1 (bv (us.set i true))))⟩)∧σ=[(4,.ptr 1 0 0),(6,.ptr a 0 0),(21,.fsl st 1 [.int .i64 i]),(22,.int .i64 1),(23,.int .i64 j)]) ⟨.inl ⟨rfl,rfl⟩,rfl⟩ ?_;rintro T j σ H' hj ⟨⟨rfl,rfl⟩ | ⟨rfl,c3,rfl⟩,rfl⟩ hN hX hR
 ·cases c3:us[i] with
  | true =>
   rw [c3] at hg;simp (disch:=omega) only [gG,simprocAttr,d1,q3,q4,hg,show ¬ ((us.length:Nat):Int)≤i by omega,show ¬ (i:Int) < 10 by omega,hi'];refine hR _ _ ?_;simp (disch:=omega) only [gG,simprocAttr];exact hF _ _ 81 (by decide) (fun h => by have:=hs0 h.2.1; simp at this; simp [this.2.2.2.1] at c3) rfl
  | false =>
   rw [c3] at hg;simp (disch:=omega) only [gG,simprocAttr,d1,q3,q4,hg,show ¬ ((us.length:Nat):Int)≤i by omega,show ¬ (i:Int) < 10 by omega,hi'];exact hN _ _ (by decide) ⟨.inr ⟨rfl,c3,by rw [b7l]⟩,rfl⟩
 ·simp (disch:=omega) only [gG,simprocAttr];refine hX _ _ _ ?_;simp (disch:=omega) only [gG,simprocAttr];refine a0l ?_;simp (disch:=omega) only [gG,simprocAttr,a0c au,q3];obtain ⟨W,hW⟩:∃ W,W=us.set i true:=⟨_,rfl⟩;have hWl:W.length=us.length:=by rw [hW]; simp
  have bft:(false == true)=false:=rfl;have btf:(true == false)=false:=rfl;have hnl:n.length≤2048:=by
   have:a2y b n=true:=by simp [woOk] at hw; exact hw.1
   exact (a3z this).2.2
  have hWi:W[i]'(by omega)=true:=by subst hW; simp
  have hWp:rt=0→∀ j (h:j < W.length),W[j]=decide (j=i):=fun h0 j hj => by
   have:=hs0 h0;simp at this;subst hW;rw [List.getElem_set];by_cases e:i=j
   ·subst e; simp
   ·have e':¬ j=i:=fun x => e x.symm;simp [e,e',this.2.2.2.1]
  rw [← hW];have m1u:upd m1 u (some (.arr 1 (bv W))) u=some (.arr 1 (bv W)):=a0d;have m1a:upd m1 u (some (.arr 1 (bv W))) a=m1 a:=a0c au;have m11:upd m1 u (some (.arr 1 (bv W))) 1=m1 1:=a0c (Ne.symm u1);rw [q3] at m1a;rw [d1] at m11;generalize upd m1 u (some (.arr 1 (bv W)))=m2 at m1u m1a m11 ⊢;refine b1x n.length (fun j => ∀ x (h:x < n.length),x < j→n[x]=(decide (x < 10) || W[x]'(by omega))) (fun j => [(4,.ptr 1 0 0),(6,.ptr a 0 0),(60,.fsl .loose 1 (bv n)),(61,.int .i64 n.length),(62,.int .i64 j)]) (by simp) (by simp [a2p]) ?_;intro T j hj hp hN hX hR;by_cases c4:j < n.length
  ·have hgn:(bv n)[j]?=some (.bool n[j]):=by simp [bv,mv,c4]
   have jw:j < W.length:=by omega
   have hgw:(bv W)[j]?=some (.bool W[j]):=by simp [bv,mv,jw]
   have hnext:n[j]=(decide (j < 10) || W[j])→∀ x (h:x < n.length),x < j+1→n[x]=(decide (x < 10) || W[x]'(by omega)):=fun h x hx hxj => by
    by_cases e:x=j
    ·subst e; exact h
    ·exact hp x hx (by omega)
   have hbad:¬ n[j]=(decide (j < 10) || W[j])→¬ plain ⟨b,n,pg,rt,gn⟩ i:=fun h hpl => by
    have h1:=hpl.2.2.2.2 j c4;have h2:=hWp hpl.2.1 j jw;simp only [] at h1;rw [h1,h2] at h;exact h (by simp only [Int.natCast_inj])
   have hjw:(j:Int) < us.length:=by omega
   by_cases c5:j < 10
   ·cases c6:n[j] with
    | true =>
     rw [c6] at hgn;simp (disch:=omega) only [gG,simprocAttr,show (j:Int) < n.length by omega,hgn,show (j:Int) < 10 by omega];exact hN _ c4 (hnext (by simp [c5,c6])) (by simp)
    | false =>
     rw [c6] at hgn;simp (disch:=omega) only [gG,simprocAttr,show (j:Int) < n.length by omega,hgn,show (j:Int) < 10 by omega,m11,bft,btf];refine hR _ _ ?_;simp (disch:=omega) only [gG,simprocAttr];exact hF _ _ 81 (by decide) (hbad (by simp [c5,c6])) rfl
   ·cases c6:n[j] with
    | true =>
     rw [c6] at hgn;cases c7:W[j] with
     | true =>
      rw [c7] at hgw;simp (disch:=omega) only [gG,simprocAttr,show (j:Int) < n.length by omega,hgn,show ¬ (j:Int) < 10 by omega,m1a,m1u,hgw,hjw];exact hN _ c4 (hnext (by simp [c5,c6,c7])) (by simp)
     | false =>
      rw [c7] at hgw;simp (disch:=omega) only [gG,simprocAttr,show (j:Int) < n.length by omega,hgn,show ¬ (j:Int) < 10 by omega,m1a,m1u,hgw,hjw,m11,bft,btf];refine hR _ _ ?_;simp (disch:=omega) only [gG,simprocAttr];exact hF _ _ 81 (by decide) (hbad (by simp [c5,c6,c7])) rfl
    | false =>
     rw [c6] at hgn;cases c7:W[j] with
     | true =>
      rw [c7] at hgw;simp (disch:=omega) only [gG,simprocAttr,show (j:Int) < n.length by omega,hgn,show ¬ (j:Int) < 10 by omega,m1a,m1u,hgw,hjw,m11,bft,btf];refine hR _ _ ?_;simp (disch:=omega) only [gG,simprocAttr];exact hF _ _ 81 (by decide) (hbad (by simp [c5,c6,c7])) rfl
     | false =>
      rw [c7] at hgw;simp (disch:=omega) only [gG,simprocAttr,show (j:Int) < n.length by omega,hgn,show ¬ (j:Int) < 10 by omega,m1a,m1u,hgw,hjw];exact hN _ c4 (hnext (by simp [c5,c6,c7])) (by simp)
  ·simp (disch:=omega) only [gG,simprocAttr,show ¬ (j:Int) < n.length by omega];refine hX _ _ _ ?_;simp (disch:=omega) only [gG,simprocAttr];refine a0l ?_;simp (disch:=omega) only [gG,simprocAttr,m1a,m11,ht3];refine ⟨.tup [repV (p,h,bl),.int .i64 0],a0e rfl rfl rfl,(p,h,bl),0,rfl,fun _ => ⟨cm.1,cm.2, ?_⟩,fun h => ⟨rfl, ?_⟩⟩
   ·have:=hp i (by omega) (by omega);rw [hWi] at this;simp [List.getD_eq_getElem?_getD,show i < n.length by omega,this]
   ·have:=hs0 h.2.1;simp at this;simp [this]
end
theorem d6i {H:Hp} {sz bt:Nat} {v:V} {l:List V} {a:V} {K:KI} (h:Gro 0 H.n H.m sz v l) (hl:l.length≤1000000) (hb:bt≤1000)
  (k:∀ v' fp ds,Gro H.n (H.n+1) (appd ds H.m) sz v' (l++[a])→(∀ id,id < H.n→(∀ q,v≠.sl id 0 q)→appd ds H.m id=H.m id)→K v' fp ds 1):fin (appO H sz bt v (.fsl .full sz [a])) K:=by
 have e:(l++[a]).length=l.length+1:=List.length_append;have hm:(l.length+1)*bt≤140737488355328:=Nat.le_trans (Nat.mul_le_mul (show l.length+1≤1000001 by omega) hb) (by decide);unfold appO;rcases h with ⟨st,h0,rfl,rfl⟩ | ⟨id,h1,h1',rfl,h2⟩
 ·refine ⟨⟨rfl,rfl,h0,by simpa using hm⟩,k _ _ _ (.inr ⟨H.n,Nat.le_refl _,by simp,by simp,by simp [appd,upd]⟩) (fun id hid _ => ?_)⟩;have:id≠H.n:=by omega
  simp [appd,upd,this]
 ·simp only [h2];refine ⟨⟨rfl,trivial,trivial,Nat.le_refl _,by simpa using hm⟩,k _ _ _ (.inr ⟨H.n,Nat.le_refl _,by simp,by simp,by simp [appd,upd]⟩) (fun i hid hn => ?_)⟩;have h3:i≠H.n:=by omega
  have h4:i≠id:=fun e => hn _ (by rw [e]);simp [appd,upd,h3,h4]
def a3j (c:Chg):Bool:=decide (1≤c.key.length∧c.key.length≤32∧c.val.length≤200∧(c.gone=true→c.val=[]))
theorem c3b (c:Chg):PCall Tryz.prog 97 [chV c] (.bool (a3j c)):=by
 refine en97 (by simp) (by simp [a0b,V.closed,chV]) ?_;obtain ⟨k,v,g⟩:=c;simp (disch:=omega) only [gG,simprocAttr,c97,chV];by_cases c1:1≤k.length
 case neg =>
  simp (disch:=omega) only [gG,simprocAttr,show ¬ (1:Int)≤k.length by omega]
  (refine a0e rfl ?_ ?_<;>simp [pack,lo,loL,V.closed,a0b,a0a,a3j,c1])
 by_cases c2:k.length≤32
 case neg =>
  simp (disch:=omega) only [gG,simprocAttr,show (1:Int)≤k.length by omega,show ¬ (k.length:Int)≤32 by omega]
  (refine a0e rfl ?_ ?_<;>simp [pack,lo,loL,V.closed,a0b,a0a,a3j,c1,c2])
 by_cases c3:v.length≤200
 case neg =>
  simp (disch:=omega) only [gG,simprocAttr,show (1:Int)≤k.length by omega,show (k.length:Int)≤32 by omega,show ¬ (v.length:Int)≤200 by omega]
  (refine a0e rfl ?_ ?_<;>simp [pack,lo,loL,V.closed,a0b,a0a,a3j,c1,c2,c3])
 cases g with
 | false =>
  simp (disch:=omega) only [gG,simprocAttr,show (1:Int)≤k.length by omega,show (k.length:Int)≤32 by omega,show (v.length:Int)≤200 by omega]
  (refine a0e rfl ?_ ?_<;>simp [pack,lo,loL,V.closed,a0b,a0a,a3j,c1,c2,c3])
 | true =>
  by_cases c4:v=[]
  ·simp (disch:=omega) only [gG,simprocAttr,show (1:Int)≤k.length by omega,show (k.length:Int)≤32 by omega,show (v.length:Int)≤200 by omega,c4]
   (refine a0e rfl ?_ ?_<;>simp [pack,lo,loL,V.closed,a0b,a0a,a3j,c1,c2,c3,c4])
  ·simp (disch:=omega) only [gG,simprocAttr,show (1:Int)≤k.length by omega,show (k.length:Int)≤32 by omega,show (v.length:Int)≤200 by omega,c4]
   (refine a0e rfl ?_ ?_<;>simp [pack,lo,loL,V.closed,a0b,a0a,a3j,c1,c2,c3,c4])
theorem c3x (c:Chg):PCall Tryz.prog 96 [chV c] (.bool (!a3j c)):=by
 refine en96 (by simp) (by simp [a0b,V.closed,chV]) ?_;have h:=c3b c;unfold chV at h;simp (disch:=omega) only [gG,simprocAttr,c96,chV];refine ⟨_,h, ?_⟩;simp (disch:=omega) only [gG,simprocAttr]
 (refine a0e rfl ?_ ?_<;>simp [pack,lo,loL,V.closed,a0b,a0a])
theorem e2s (a b:Chg) (h:chV a=chV b):a=b:=by
 obtain ⟨a1,a2,a3⟩:=a;obtain ⟨b1,b2,b3⟩:=b;simp only [chV,V.agg.injEq,List.cons.injEq,V.str.injEq,V.bool.injEq,and_true] at h;simp [h]
theorem e2c {st:St} {rows:List Chg} {H:Hp} {g:Nat} (hn:rows.length≤1000000) (hg:∀ x,PCall Tryz.prog g [chV x] (.bool (!a3j x))) :
  ACall Tryz.prog 95 [.fsl st 3 (mv chV rows),.fn g [] []] H [] (.bool (rows.any fun c => !a3j c)) [] (rows.length*0) :=
 b7o (k:=some 3) ena95 ena144 (by decide) (by decide) e2s a9s (fun _ => rfl) (by omega) rfl rfl (FpOk.nil H) (fun x hx H' _ _ => by simpa using (hg x).toA H' [])
section
open Go Go.RowKit
theorem c0m (H:Hp) (b1 b2 b3:Nat) (s:Str) (a e:Int) (hs:s.length≤140737488355328) (h1:b1 < H.n) (h2:b2 < H.n) (h3:b3 < H.n) (h12:b1≠b2) (h13:b1≠b3) (h23:b2≠b3)
  (m1:H.m b1=some (.arr 1 [.int .i64 e])) (m2:H.m b2=some (.arr 1 [.str s])) (m3:H.m b3=some (.arr 1 [.int .i64 a])) :
  ACall Tryz.prog 93 [.ptr b1 0 0,.ptr b2 0 0,.ptr b3 0 0] H [b1,b2,b3] (.int .i64 (numR s a e 1).1) [(b3,some (.arr 1 [.int .i64 (numR s a e 1).2.1])),(b1,some (.arr 1 [.int .i64 (numR s a e 1).2.2]))] 0:=by
 refine ena93 (by simp) (by simp [lowL,V.low,h1,h2,h3]) (fun id hid => ?_) (by simp) ?_
 ·simp at hid;rcases hid with rfl | rfl | rfl
  ·exact ⟨h1,fun o ho => by rw [m1] at ho; simp at ho; subst ho; rfl⟩
  ·exact ⟨h2,fun o ho => by rw [m2] at ho; simp at ho; subst ho; rfl⟩
  ·exact ⟨h3,fun o ho => by rw [m3] at ho; simp at ho; subst ho; rfl⟩
 have q1:only [b1,b2,b3] H.m b1=some (.arr 1 [.int .i64 e]):=by simp [only,m1]
 have q2:only [b1,b2,b3] H.m b2=some (.arr 1 [.str s]):=by simp [only,m2]
 have q3:only [b1,b2,b3] H.m b3=some (.arr 1 [.int .i64 a]):=by simp [only,m3]
 generalize only [b1,b2,b3] H.m=m0 at q1 q2 q3;have hc:=a1v s a 1 hs;by_cases c:e=0
 ·subst c;have hR:numR s a 0 1=getS s a 1:=by rw [numR,if_neg (by simp)]
  rw [hR];generalize getS s a 1=q at hc ⊢;obtain ⟨x,a',e'⟩:=q;simp (disch:=omega) only [gG,simprocAttr,c93,q1,q2,q3];refine ⟨_,hc, ?_⟩;simp (disch:=omega) only [gG,simprocAttr,gV,q1,q3];exact a2o (l:=[.int .i64 x]) rfl (.inl rfl) (by simp) (fun id => .inr (by
   by_cases e1:id=b1
   ·subst e1; simp [appd,upd,h13]
   ·by_cases e3:id=b3
    ·subst e3; simp [appd,upd,e1]
    ·simp [appd,upd,e1,e3]))
 ·have hR:numR s a e 1=(0,a,e):=by rw [numR,if_pos c]
  rw [hR];simp (disch:=omega) only [gG,simprocAttr,c93,q1,q2,q3,c];exact a2o (l:=[.int .i64 0]) rfl (.inl rfl) (by simp) (fun id => .inr (by
   by_cases e1:id=b1
   ·subst e1; simp [appd,upd,h13,q1]
   ·by_cases e3:id=b3
    ·subst e3; simp [appd,upd,e1,q3]
    ·simp [appd,upd,e1,e3]))
theorem b5z (H:Hp) (b1 b2 b3:Nat) (s:Str) (a e:Int) (hs:s.length≤140737488355328) (h1:b1 < H.n) (h2:b2 < H.n) (h3:b3 < H.n) (h12:b1≠b2) (h13:b1≠b3) (h23:b2≠b3)
  (m1:H.m b1=some (.arr 1 [.int .i64 e])) (m2:H.m b2=some (.arr 1 [.str s])) (m3:H.m b3=some (.arr 1 [.int .i64 a])) :
  ACall Tryz.prog 94 [.ptr b1 0 0,.ptr b2 0 0,.ptr b3 0 0] H [b1,b2,b3] (.str (txtR s a e).1) [(b3,some (.arr 1 [.int .i64 (txtR s a e).2.1])),(b1,some (.arr 1 [.int .i64 (txtR s a e).2.2]))] 0:=by
 refine ena94 (by simp) (by simp [lowL,V.low,h1,h2,h3]) (fun id hid => ?_) (by simp) ?_
 ·simp at hid;rcases hid with rfl | rfl | rfl
  ·exact ⟨h1,fun o ho => by rw [m1] at ho; simp at ho; subst ho; rfl⟩
  ·exact ⟨h2,fun o ho => by rw [m2] at ho; simp at ho; subst ho; rfl⟩
  ·exact ⟨h3,fun o ho => by rw [m3] at ho; simp at ho; subst ho; rfl⟩
 have q1:only [b1,b2,b3] H.m b1=some (.arr 1 [.int .i64 e]):=by simp [only,m1]
 have q2:only [b1,b2,b3] H.m b2=some (.arr 1 [.str s]):=by simp [only,m2]
 have q3:only [b1,b2,b3] H.m b3=some (.arr 1 [.int .i64 a]):=by simp [only,m3]
 generalize only [b1,b2,b3] H.m=m0 at q1 q2 q3;have hc:=a8o s a hs;by_cases c:e=0
 ·subst c;have hR:txtR s a 0=cutS s a:=by rw [txtR,if_neg (by simp)]
  rw [hR];generalize cutS s a=q at hc ⊢;obtain ⟨x,a',e'⟩:=q;simp (disch:=omega) only [gG,simprocAttr,c94,q1,q2,q3];refine ⟨_,hc, ?_⟩;simp (disch:=omega) only [gG,simprocAttr,cV,q1,q3];exact a2o (l:=[.str x]) rfl (.inl rfl) (by simp) (fun id => .inr (by
   by_cases e1:id=b1
   ·subst e1; simp [appd,upd,h13]
   ·by_cases e3:id=b3
    ·subst e3; simp [appd,upd,e1]
    ·simp [appd,upd,e1,e3]))
 ·have hR:txtR s a e=([],a,e):=by rw [txtR,if_pos c]
  rw [hR];simp (disch:=omega) only [gG,simprocAttr,c94,q1,q2,q3,c];exact a2o (l:=[.str []]) rfl (.inl rfl) (by simp) (fun id => .inr (by
   by_cases e1:id=b1
   ·subst e1; simp [appd,upd,h13,q1]
   ·by_cases e3:id=b3
    ·subst e3; simp [appd,upd,e1,q3]
    ·simp [appd,upd,e1,e3]))
def unT (r:V):Prop:=∃ l e,r=.tup [chsV l,.int .i64 e]∧(e=0→∀ c∈l,a3j c=true)∧l.length≤255
theorem b8l (s:Str) (hs:s.length≤140737488355328):PEx Tryz.prog 44 [.str s] unT:=by
  refine exP (fun r => en44 (by simp) (by simp [a0b,V.closed])) rfl ?_
  have hF:∀ (σ:Sg) (H:Hp) (e:Int),e≠0→resE σ H.m r44=some [.fsl .nil 3 [],.int .i64 e]→FinE r44 unT .ret σ H:=fun σ H e he hr =>
    ⟨.tup [chsV [],.int .i64 e],a0e hr rfl (by simp [pack,lo,loL,chsV,mv]),[],e,rfl,fun h => absurd h he,by simp⟩
  by_cases c0:480 < s.length
  · simp (disch:=omega) only [gG,simprocAttr,c44,show (480:Int) < s.length by omega]
    exact hF _ _ 2 (by decide) rfl
  obtain ⟨N,hN0⟩:∃ N:Nat,(numR s 0 0 1).1=N:=⟨(numR s 0 0 1).1.toNat,by
    have:0≤(numR s 0 0 1).1:=by rw [numR,if_neg (by simp)]; exact b9x _ _ _
    omega⟩
  have hN1:N≤255:=by have:=d9x s; omega
  have hn1:=fun H h1 h2 h3 m1 m2 m3 => c0m H 2 0 1 s 0 0 hs h1 h2 h3 (by decide) (by decide) (by decide) m1 m2 m3
  rw [hN0] at hn1
  simp (disch:=omega) only [gG,simprocAttr,c44,show ¬ (480:Int) < s.length by omega]
  refine .of (hn1 _ (by simp) (by simp) (by simp) (by simp (disch:=omega) only [a0d,a0c,wo_0,wo_1,wo_2]) (by simp (disch:=omega) only [a0d,a0c,wo_0,wo_1,wo_2]) (by simp (disch:=omega) only [a0d,a0c,wo_0,wo_1,wo_2])) ?_
  simp (disch:=omega) only [gG,simprocAttr]
  refine x_it N (fun i σ H => ∃ a e l v,3≤H.n∧(H.m 0=some (.arr 1 [.str s])∧H.m 1=some (.arr 1 [.int .i64 a])∧H.m 2=some (.arr 1 [.int .i64 e]))∧l.length≤i∧Gro 3 H.n H.m 3 v (mv chV l) ∧
    σ=[(1,.ptr 0 0 0),(4,.ptr 1 0 0),(5,.ptr 2 0 0),(6,.fn 93 [] [.ptr 2 0 0,.ptr 0 0 0,.ptr 1 0 0]),(7,.fn 94 [] [.ptr 2 0 0,.ptr 0 0 0,.ptr 1 0 0]),(8,v),(9,.int .i64 ((N:Int) - i))]) ⟨(numR s 0 0 1).2.1,(numR s 0 0 1).2.2,[],_,Nat.le_refl 3,⟨(by simp (disch:=omega) only [a0d,a0c,wo_0,wo_1,wo_2]),(by simp (disch:=omega) only [a0d,a0c,wo_0,wo_1,wo_2]),(by simp (disch:=omega) only [a0d,a0c,wo_0,wo_1,wo_2])⟩,Nat.le_refl _,.nil,by simp⟩ ?_
  rintro T i σ ⟨n,m⟩ hii ⟨a,e,l,v,hn,⟨e0,e1',e2⟩,hl,hG,rfl⟩ hN hX hR
  simp only at hn e0 e1' e2 hG
  have hout:∀ x,T (.exit 0) [(1,.ptr 0 0 0),(4,.ptr 1 0 0),(5,.ptr 2 0 0),(6,.fn 93 [] [.ptr 2 0 0,.ptr 0 0 0,.ptr 1 0 0]),(7,.fn 94 [] [.ptr 2 0 0,.ptr 0 0 0,.ptr 1 0 0]),(8,v),(9,.int .i64 ((N:Int) - i)),(24,.bool x)] ⟨n,m⟩:=fun x => by
    refine hX _ _ _ ?_
    simp (disch:=omega) only [gG,simprocAttr]
    obtain ⟨fz,st,f1,f2,f3⟩:=hG.frz (a0a a9s)
    refine b5p fz ?_
    have pt:∀ a b c,frzV fz m (.ptr a b c)=.ptr a b c:=fun a b c => by simp [frzV,snap,V.closed]
    have pf:∀ f a b c,frzV fz m (.fn f [] [.ptr a 0 0,.ptr b 0 0,.ptr c 0 0])=.fn f [] [.ptr a 0 0,.ptr b 0 0,.ptr c 0 0]:=fun f a b c => by simp [frzV,snap,V.closed,a0b]
    have cl:∀ v:V,v.closed=true→frzV fz m v=v:=fun v hv => by simp only [frzV,a1k hv]
    have i0:(0:Nat)∉fz:=fun h => by have:=f1 0 h; omega
    have i1:(1:Nat)∉fz:=fun h => by have:=f1 1 h; omega
    have i2:(2:Nat)∉fz:=fun h => by have:=f1 2 h; omega
    have d0:a1d fz m 0=some (.arr 1 [.str s]):=by simp [a1d,i0,e0]
    have d1:a1d fz m 1=some (.arr 1 [.int .i64 a]):=by simp only [a1d,i1,if_false,e1']
    have d2:a1d fz m 2=some (.arr 1 [.int .i64 e]):=by simp [a1d,i2,e2]
    simp only [frzS,pt,pf,f3,cl (.int _ _) rfl,cl (.bool _) rfl]
    generalize a1d fz m=m' at d0 d1 d2 ⊢
    have hcon:=e2c (st:=st) (rows:=l) (g:=96) (by omega) c3x (H:=⟨n,m'⟩)
    by_cases c1:e=0
    · subst c1
      by_cases c2:a=s.length
      · simp (disch:=omega) only [gG,simprocAttr,d0,d1,d2,c2]
        refine .of hcon ?_
        cases hq:l.any (fun c => !a3j c) with
        | true =>
          simp (disch:=omega) only [gG,simprocAttr]
          exact hF _ _ 4 (by decide) rfl
        | false =>
          simp (disch:=omega) only [gG,simprocAttr]
          exact ⟨.tup [chsV l,.int .i64 0],a0e rfl (by simp [pack,V.closed,a0b,a0a a9s]) (by simp [pack,lo,loL,chsV,a3e e6e]),l,0,rfl,fun _ c hc => by
            rw [List.any_eq_false] at hq
            simpa using hq c hc,by omega⟩
      · simp (disch:=omega) only [gG,simprocAttr,d0,d1,d2,c2]
        exact hF _ _ 4 (by decide) rfl
    · simp (disch:=omega) only [gG,simprocAttr,d0,d1,d2,c1]
      exact hF _ _ e c1 rfl
  by_cases c1:i < N
  case neg =>
    simp (disch:=omega) only [gG,simprocAttr,show ¬ (0:Int) < (N:Int) - i by omega]
    exact hout _
  by_cases c2:e=0
  case neg =>
    simp (disch:=omega) only [gG,simprocAttr,show (0:Int) < (N:Int) - i by omega,e2,c2]
    exact hout _
  subst c2
  have hal:l.length≤1000000:=by omega
  have u1:=c0m ⟨n,m⟩ 2 0 1 s a 0 hs (by show 2 < n; omega) (by show 0 < n; omega) (by show 1 < n; omega) (by decide) (by decide) (by decide) e2 e0 e1'
  simp (disch:=omega) only [gG,simprocAttr,show (0:Int) < (N:Int) - i by omega,e2]
  refine .of u1 ?_
  generalize numR s a 0 1=q at u1 ⊢
  obtain ⟨g,a1,x1⟩:=q
  by_cases c3:x1=0∧1 < g
  · obtain ⟨rfl,c3⟩:=c3
    simp (disch:=omega) only [gG,simprocAttr,c3]
    refine hR _ _ ?_
    simp (disch:=omega) only [gG,simprocAttr]
    exact hF _ _ 4 (by decide) rfl
  have hstep:∀ (σ:Sg) (k1 k2:Str) (gn:Bool) (nn:Nat) (mm:Hm) (a' x':Int) (K:KI),n≤nn→(∀ i,3≤i→i < n→mm i=m i)→mm 0=some (.arr 1 [.str s])→mm 1=some (.arr 1 [.int .i64 a'])→mm 2=some (.arr 1 [.int .i64 x']) →
      (∀ v' fp ds m5,m5=appd ds mm→(∀ σ',σ'=[(1,.ptr 0 0 0),(4,.ptr 1 0 0),(5,.ptr 2 0 0),(6,.fn 93 [] [.ptr 2 0 0,.ptr 0 0 0,.ptr 1 0 0]),(7,.fn 94 [] [.ptr 2 0 0,.ptr 0 0 0,.ptr 1 0 0]),(8,v'),(9,.int .i64 ((N:Int) - i - 1))]→T .norm σ' ⟨nn+1,m5⟩)→K v' fp ds 1) →
      fin (appO ⟨nn,mm⟩ 3 40 v (.fsl .full 3 [.agg [.str k1,.str k2,.bool gn]])) K:=by
    intro σ k1 k2 gn nn mm a' x' K h1 h2 h3 h4 h5 hK
    refine d6i ((hG.keep h1 (fun id h1 h2' => h2 id h1 h2')).low (Nat.zero_le _)) (by rw [mv_len]; exact hal) (by decide) fun v' fp ds hG2 hO => hK _ _ _ _ rfl fun σ' hσ => ?_
    simp only [] at hG2 hO ⊢
    have o0:=hO 0 (by omega) (hG.not (by omega))
    have o1:=hO 1 (by omega) (hG.not (by omega))
    have o2:=hO 2 (by omega) (hG.not (by omega))
    refine hN _ _ c1 ⟨a',x',l++[⟨k1,k2,gn⟩],v',by show 3≤nn+1; omega,⟨o0.trans h3,o1.trans h4,o2.trans h5⟩,by simp; omega, ?_,by rw [hσ]; simp; omega⟩
    rw [show mv chV (l++[⟨k1,k2,gn⟩])=mv chV l++[.agg [.str k1,.str k2,.bool gn]] by simp [mv,chV]]
    exact hG2.low (by omega)
  have u2:=fun mm h0 h1 h2 => b5z ⟨n,mm⟩ 2 0 1 s a1 x1 hs (by show 2 < n; omega) (by show 0 < n; omega) (by show 1 < n; omega) (by decide) (by decide) (by decide) h0 h1 h2
  have hcond:(x1=0∧¬ 1 < g)∨¬ x1=0:=by
    by_cases h:x1=0
    · exact .inl ⟨h,fun h' => c3 ⟨h,h'⟩⟩
    · exact .inr h
  have n0:(0:Nat)≠n:=by omega
  have n1:(1:Nat)≠n:=by omega
  have n2:(2:Nat)≠n:=by omega
  rcases hcond with ⟨rfl,c4⟩ | c4
  · simp (disch:=omega) only [gG,simprocAttr,c4]
    refine .of (u2 _ (by simp (disch:=omega) only [a0d,a0c,wo_0,wo_1,wo_2]) (by simp (disch:=omega) only [a0d,a0c,wo_0,wo_1,wo_2,e0]) (by simp (disch:=omega) only [a0d,a0c,wo_0,wo_1,wo_2])) ?_
    generalize txtR s a1 0=q
    obtain ⟨key,a2,x2⟩:=q
    by_cases c5:g=1
    · simp (disch:=omega) only [gG,simprocAttr,c5]
      refine hstep [] key [] true (n+1) _ a2 x2 _ (by omega) (fun i h1 h2 => by simp (disch:=omega) only [a0c,ne_eq]) (by simp (disch:=omega) only [a0d,a0c,wo_0,wo_1,wo_2,e0]) (by simp (disch:=omega) only [a0d,a0c,wo_0,wo_1,wo_2]) (by simp (disch:=omega) only [a0d,a0c,wo_0,wo_1,wo_2]) fun v' fp ds m5 h5 hT => ?_
      rw [x_nx]
      refine ⟨by simp only [a0u], ?_⟩
      simp only []
      rw [← h5]
      simp (disch:=omega) only [gG,simprocAttr]
      exact hT _ rfl
    · simp (disch:=omega) only [gG,simprocAttr,c5]
      refine .of (b5z _ 2 0 1 s a2 x2 hs (by show 2 < n+1; omega) (by show 0 < n+1; omega) (by show 1 < n+1; omega) (by decide) (by decide) (by decide) (by simp (disch:=omega) only [a0d,a0c,wo_0,wo_1,wo_2]) (by simp (disch:=omega) only [a0d,a0c,wo_0,wo_1,wo_2,e0]) (by simp (disch:=omega) only [a0d,a0c,wo_0,wo_1,wo_2])) ?_
      generalize txtR s a2 x2=q
      obtain ⟨val,a3,x3⟩:=q
      simp (disch:=omega) only [gG,simprocAttr]
      refine hstep [] key val false (n+1) _ a3 x3 _ (by omega) (fun i h1 h2 => by simp (disch:=omega) only [a0c,ne_eq]) (by simp (disch:=omega) only [a0d,a0c,wo_0,wo_1,wo_2,e0]) (by simp (disch:=omega) only [a0d,a0c,wo_0,wo_1,wo_2]) (by simp (disch:=omega) only [a0d,a0c,wo_0,wo_1,wo_2]) fun v' fp ds m5 h5 hT => ?_
      rw [x_nx]
      refine ⟨by simp only [a0u], ?_⟩
      simp only []
      rw [← h5]
      simp (disch:=omega) only [gG,simprocAttr]
      exact hT _ rfl
  · simp (disch:=omega) only [gG,simprocAttr,c4]
    refine .of (u2 _ (by simp (disch:=omega) only [a0d,a0c,wo_0,wo_1,wo_2]) (by simp (disch:=omega) only [a0d,a0c,wo_0,wo_1,wo_2,e0]) (by simp (disch:=omega) only [a0d,a0c,wo_0,wo_1,wo_2])) ?_
    generalize txtR s a1 x1=q
    obtain ⟨key,a2,x2⟩:=q
    by_cases c5:g=1
    · simp (disch:=omega) only [gG,simprocAttr,c5]
      refine hstep [] key [] true (n+1) _ a2 x2 _ (by omega) (fun i h1 h2 => by simp (disch:=omega) only [a0c,ne_eq]) (by simp (disch:=omega) only [a0d,a0c,wo_0,wo_1,wo_2,e0]) (by simp (disch:=omega) only [a0d,a0c,wo_0,wo_1,wo_2]) (by simp (disch:=omega) only [a0d,a0c,wo_0,wo_1,wo_2]) fun v' fp ds m5 h5 hT => ?_
      rw [x_nx]
      refine ⟨by simp only [a0u], ?_⟩
      simp only []
      rw [← h5]
      simp (disch:=omega) only [gG,simprocAttr]
      exact hT _ rfl
    · simp (disch:=omega) only [gG,simprocAttr,c5]
      refine .of (b5z _ 2 0 1 s a2 x2 hs (by show 2 < n+1; omega) (by show 0 < n+1; omega) (by show 1 < n+1; omega) (by decide) (by decide) (by decide) (by simp (disch:=omega) only [a0d,a0c,wo_0,wo_1,wo_2]) (by simp (disch:=omega) only [a0d,a0c,wo_0,wo_1,wo_2,e0]) (by simp (disch:=omega) only [a0d,a0c,wo_0,wo_1,wo_2])) ?_
      generalize txtR s a2 x2=q
      obtain ⟨val,a3,x3⟩:=q
      simp (disch:=omega) only [gG,simprocAttr]
      refine hstep [] key val false (n+1) _ a3 x3 _ (by omega) (fun i h1 h2 => by simp (disch:=omega) only [a0c,ne_eq]) (by simp (disch:=omega) only [a0d,a0c,wo_0,wo_1,wo_2,e0]) (by simp (disch:=omega) only [a0d,a0c,wo_0,wo_1,wo_2]) (by simp (disch:=omega) only [a0d,a0c,wo_0,wo_1,wo_2]) fun v' fp ds m5 h5 hT => ?_
      rw [x_nx]
      refine ⟨by simp only [a0u], ?_⟩
      simp only []
      rw [← h5]
      simp (disch:=omega) only [gG,simprocAttr]
      exact hT _ rfl
end
section
open Go Go.RowKit
theorem b4u:∀ (l:List Str) (p:Sp×Int) (i:Nat),(0≤p.2→spOk p.1=true∧p.2 < i)→0≤(a3c p i l).2→spOk (a3c p i l).1=true∧(a3c p i l).2 < i+l.length
 | [],p,i,h,h2 => by simpa [a3c] using h h2
 | s::l,p,i,h,h2 => by
  simp only [a3c] at h2 ⊢;have:=b4u l (if (a5x s).2=0∧p.1.g < (a5x s).1.g then ((a5x s).1,(i:Int)) else p) (i+1) (fun hh => by
   by_cases c:(a5x s).2=0∧p.1.g < (a5x s).1.g
   ·rw [if_pos c];have c1:=c.1;refine ⟨?_,by simp only []; omega⟩;unfold a5x at c1 ⊢;split at c1
    ·rename_i k; exact absurd c1 k
    ·rename_i k;rw [if_neg k];unfold a7r at c1 ⊢;split at c1
     ·simp at c1
     split at c1
     ·simp at c1
     split at c1
     ·simp at c1
     split at c1
     ·simp at c1
     ·rename_i k1 k2 k3 k4;rw [if_neg k1,if_neg k2,if_neg k3,if_neg k4];simp at k4;exact k4.2
   ·rw [if_neg c] at hh ⊢;have:=h hh;exact ⟨this.1,by omega⟩) h2
  simp only [List.length_cons];exact ⟨this.1,by have:=this.2; omega⟩
theorem c3t {l:List Str} (h:(a0k l).2.2=0):spOk (a0k l).1=true:=by
 unfold a0k at h ⊢;split at h
 ·simp at h
 ·rename_i c;rw [if_neg c];exact (b4u l (sp0,-1) 0 (by simp) (by omega)).1
theorem e4x (w:Wo) (m:Int) (h:w.pages.length≤1000000):∃ q:(Int×Int×Int)×Int,PCall Tryz.prog 12 [woV w,.fsl .full 1 [.int .i64 m]] (.tup [repV q.1,.int .i64 q.2])∧(q.2=0→10≤m∧m < w.n.length∧w.n.getD m.toNat false=true)∧(plain w m→q.2=0∧q.1=(0,0,0)):=by
 obtain ⟨_,hc,p,e,rfl,h1,h2⟩:=d1s w m .full h;exact ⟨(p,e),hc,h1,h2⟩
noncomputable def ckR (w:Wo) (m:Int):(Int×Int×Int)×Int:=if h:w.pages.length≤1000000 then (e4x w m h).choose else ((0,0,0),1)
theorem b9a (w:Wo) (m:Int) (h:w.pages.length≤1000000):PCall Tryz.prog 12 [woV w,.fsl .full 1 [.int .i64 m]] (.tup [repV (ckR w m).1,.int .i64 (ckR w m).2])∧((ckR w m).2=0→10≤m∧m < w.n.length∧w.n.getD m.toNat false=true)∧(plain w m→(ckR w m).2=0∧(ckR w m).1=(0,0,0)):=by
 unfold ckR;rw [dif_pos h];exact (e4x w m h).choose_spec
structure FndM where
 sp:Sp
 slot:Int
 w:Wo
 ring:List Str
def fnV (f:FndM):V:=.agg [.int .i64 f.sp.g,.int .i64 f.sp.r,.int .i64 f.sp.m,.int .i64 f.sp.z,.int .i64 f.slot,.fsl .loose 1 (bv f.w.b),.fsl .loose 1 (bv f.w.n),.fsl .loose 1 (vS f.w.pages),.int .i64 f.w.root,.int .i64 f.w.gen,.fsl .loose 1 (vS f.ring)]
def fn0:FndM:=⟨sp0,0,⟨[],[],[],0,0⟩,[]⟩
def pgsI (bl:List Str) (now:List Bool) (i:Nat):List Str:=(List.range bl.length).map fun b => if b < i∧now.getD b false=true then bl.getD b [] else []
def mntW (bl:List Str) (s:Sp) (now:List Bool):Wo:=⟨now,now,pgsI bl now bl.length,s.r,s.g+1⟩
noncomputable def mntS (bl:List Str) (pe:List (Int×Str)):FndM×Int :=
 if a2u bl pe=false∨pe≠[] then (fn0,1)
 else if bl.length < 24 then (fn0,120)
 else if (a0k [bl.getD 0 [],bl.getD 1 []]).2.2≠0∨(a0k [bl.getD 0 [],bl.getD 1 []]).1.z≠bl.length∨1099511627776≤(a0k [bl.getD 0 [],bl.getD 1 []]).1.g then (fn0,120)
 else if (rowS (bl.getD (a0k [bl.getD 0 [],bl.getD 1 []]).1.m.toNat []) (a0k [bl.getD 0 [],bl.getD 1 []]).1).2=false then (fn0,120)
 else if (ckR (mntW bl (a0k [bl.getD 0 [],bl.getD 1 []]).1 (rowS (bl.getD (a0k [bl.getD 0 [],bl.getD 1 []]).1.m.toNat []) (a0k [bl.getD 0 [],bl.getD 1 []]).1).1) (a0k [bl.getD 0 [],bl.getD 1 []]).1.m).2≠0 then (fn0,120)
 else (⟨(a0k [bl.getD 0 [],bl.getD 1 []]).1,(a0k [bl.getD 0 [],bl.getD 1 []]).2.1,mntW bl (a0k [bl.getD 0 [],bl.getD 1 []]).1 (rowS (bl.getD (a0k [bl.getD 0 [],bl.getD 1 []]).1.m.toNat []) (a0k [bl.getD 0 [],bl.getD 1 []]).1).1,a4t (a0k [bl.getD 0 [],bl.getD 1 []]).1.g 0 ((bl.take 10).drop 2)⟩,0)
theorem a8u (bl:List Str) (now:List Bool) (i:Nat):(pgsI bl now i).length=bl.length:=by simp [pgsI]
theorem e5w (bl:List Str) (now:List Bool):pgsI bl now 0=List.replicate bl.length []:=by
 refine List.ext_getElem (by simp [pgsI]) fun i h1 h2 => by simp [pgsI]
theorem e6k {bl:List Str} {now:List Bool} {i:Nat} (h:i < bl.length) (hn:now.getD i false=true):pgsI bl now (i+1)=(pgsI bl now i).set i bl[i]:=by
 refine List.ext_getElem (by simp [pgsI]) fun j h1 h2 => ?_;rw [List.getElem_set];simp only [pgsI,List.getElem_map,List.getElem_range];by_cases e:i=j
 ·subst e; rw [if_pos rfl,if_pos ⟨by omega,hn⟩]; simp [List.getD_eq_getElem?_getD,h]
 ·rw [if_neg e];by_cases c:j < i
  ·simp [show j < i+1 by omega,c]
  ·simp [show ¬ j < i+1 by omega,c]
theorem e4i {bl:List Str} {now:List Bool} {i:Nat} (hn:now.getD i false=false):pgsI bl now (i+1)=pgsI bl now i:=by
 refine List.ext_getElem (by simp [pgsI]) fun j h1 h2 => ?_;simp only [pgsI,List.getElem_map,List.getElem_range];by_cases e:i=j
 ·subst e; rw [hn]; simp
 ·by_cases c:j < i
  ·simp [show j < i+1 by omega,c]
  ·simp [show ¬ j < i+1 by omega,c]
theorem b2i (bl:List Str) (pe:List (Int×Str)) (h1:strL bl) (h2:∀ p∈pe,p.2.length≤140737488355328) (hb:bl.length≤1000000) (hp:pe.length≤1000000):PCall Tryz.prog 13 [devV bl pe] (.tup [fnV (mntS bl pe).1,.int .i64 (mntS bl pe).2]):=by
  refine en13 (by simp) (by simp [a0b,V.closed,a0i,a0a a2c,devV]) ?_
  have hr:=b2t bl pe h1 h2 (by omega) (by omega)
  have hF:∀ (σ:Sg) (H:Hp) (e:Int),mntS bl pe=(fn0,e)→resE σ H.m r13=some [.agg [.int .i64 0,.int .i64 0,.int .i64 0,.int .i64 0,.int .i64 0,.fsl .nil 1 [],.fsl .nil 1 [],.fsl .nil 1 [],.int .i64 0,.int .i64 0,.fsl .nil 1 []],.int .i64 e]→Fin r13 (.tup [fnV (mntS bl pe).1,.int .i64 (mntS bl pe).2]) .ret σ H:=fun σ H e he hr => by
    rw [he]; exact a0e hr rfl (by simp [pack,lo,loL,fnV,fn0,sp0,vS,bv,mv])
  have ht2:∀ a b:V,List.take 2 (List.drop 0 [a,b])=[a,b]:=fun _ _ => rfl
  have ht4:∀ a b c d:V,List.take 4 (List.drop 0 [a,b,c,d])=[a,b,c,d]:=fun _ _ _ _ => rfl
  have ht5:∀ a b c d e:V,List.take 5 (List.drop 0 [a,b,c,d,e])=[a,b,c,d,e]:=fun _ _ _ _ _ => rfl
  cases hd:a2u bl pe with
  | false =>
    rw [hd] at hr
    simp only [devV] at hr
    simp (disch:=omega) only [gG,simprocAttr,c13,devV,ht2]
    refine ⟨_,hr, ?_⟩
    simp (disch:=omega) only [gG,simprocAttr]
    exact hF _ _ 1 (by unfold mntS; rw [if_pos (.inl hd)]) rfl
  | true =>
    rw [hd] at hr
    cases pe with
    | cons p pe =>
      simp only [devV] at hr
      simp (disch:=omega) only [gG,simprocAttr,c13,devV,ht2]
      refine ⟨_,hr, ?_⟩
      simp (disch:=omega) only [gG,simprocAttr,mv_len,List.length_cons,show (0:Int) < ((pe.length+1:Nat):Int) by omega]
      exact hF _ _ 1 (by unfold mntS; rw [if_pos (.inr (by simp))]) rfl
    | nil =>
      have hbl:=h1
      simp only [devV] at hr
      have dv:devV bl []=.agg [.fsl .loose 1 (vS bl),.fsl .loose 2 []]:=rfl
      simp (disch:=omega) only [gG,simprocAttr,c13,devV,ht2]
      refine ⟨_,hr, ?_⟩
      by_cases c1:bl.length < 24
      · simp (disch:=omega) only [gG,simprocAttr,a1a,show (bl.length:Int) < 24 by omega]
        exact hF _ _ 120 (by unfold mntS; rw [if_neg (by simp [hd]),if_pos c1]) rfl
      have g0:(vS bl)[0]?=some (.str (bl.getD 0 [])):=by rw [a2f (show 0 < bl.length by omega)]; simp [List.getD_eq_getElem?_getD,show 0 < bl.length by omega]
      have g1:(vS bl)[1]?=some (.str (bl.getD 1 [])):=by rw [a2f (show 1 < bl.length by omega)]; simp [List.getD_eq_getElem?_getD,show 1 < bl.length by omega]
      have hall:bl.all a4i=true:=by simp [a2u] at hd; simpa using hd.2.2
      have hbl0:∀ i,(bl.getD i []).length≤1000000000:=fun i => by
        by_cases c:i < bl.length
        · have:=List.all_eq_true.1 hall _ (List.getElem_mem c)
          simp [a4i] at this
          simp [List.getD_eq_getElem?_getD,c]; omega
        · simp [List.getD_eq_getElem?_getD,c]
      have hch:=b9d .full [bl.getD 0 [],bl.getD 1 []] (by simp) (fun s hs => by
        simp at hs
        rcases hs with rfl | rfl
        · have:=hbl0 0; simpa using this
        · have:=hbl0 1; simpa using this)
      have hM:mntS bl []=if (a0k [bl.getD 0 [],bl.getD 1 []]).2.2≠0∨(a0k [bl.getD 0 [],bl.getD 1 []]).1.z≠bl.length∨1099511627776≤(a0k [bl.getD 0 [],bl.getD 1 []]).1.g then (fn0,120)
          else if (rowS (bl.getD (a0k [bl.getD 0 [],bl.getD 1 []]).1.m.toNat []) (a0k [bl.getD 0 [],bl.getD 1 []]).1).2=false then (fn0,120)
          else if (ckR (mntW bl (a0k [bl.getD 0 [],bl.getD 1 []]).1 (rowS (bl.getD (a0k [bl.getD 0 [],bl.getD 1 []]).1.m.toNat []) (a0k [bl.getD 0 [],bl.getD 1 []]).1).1) (a0k [bl.getD 0 [],bl.getD 1 []]).1.m).2≠0 then (fn0,120)
          else (⟨(a0k [bl.getD 0 [],bl.getD 1 []]).1,(a0k [bl.getD 0 [],bl.getD 1 []]).2.1,mntW bl (a0k [bl.getD 0 [],bl.getD 1 []]).1 (rowS (bl.getD (a0k [bl.getD 0 [],bl.getD 1 []]).1.m.toNat []) (a0k [bl.getD 0 [],bl.getD 1 []]).1).1,a4t (a0k [bl.getD 0 [],bl.getD 1 []]).1.g 0 ((bl.take 10).drop 2)⟩,0):=by
        unfold mntS; rw [if_neg (by simp [hd]),if_neg c1]
      have hok:=c3t (l:=[bl.getD 0 [],bl.getD 1 []])
      have hvs:vS [bl.getD 0 [],bl.getD 1 []]=[.str (bl.getD 0 []),.str (bl.getD 1 [])]:=rfl
      rw [hvs] at hch
      generalize a0k [bl.getD 0 [],bl.getD 1 []]=q at hch hM hok
      obtain ⟨⟨sg,sr,sm,sz⟩,slot,e⟩:=q
      simp only [spV] at hch hM hok
      simp (disch:=omega) only [gG,simprocAttr,a1a,show ¬ (bl.length:Int) < 24 by omega,g0,g1]
      refine ⟨_,hch, ?_⟩
      simp (disch:=omega) only [gG,simprocAttr]
      rw [a1a]
      refine ⟨by simp [a1f,disj,nthL],fun c2 => ⟨fun c3 => ⟨fun c4 => ?_,fun c4 => ?_⟩,fun c3 => ?_⟩,fun c2 => ?_⟩
      · exact hF _ _ 120 (by rw [hM,if_pos (.inr (.inr c4))]) rfl
      case refine_3 => exact hF _ _ 120 (by rw [hM,if_pos (.inr (.inl c3))]) rfl
      case refine_4 => exact hF _ _ 120 (by rw [hM,if_pos (.inl c2)]) rfl
      subst c2
      subst c3
      rw [if_neg (by simp only [ne_eq,not_true_eq_false,false_or]; omega)] at hM
      obtain ⟨k1,k2,k3,k4,k5,k6,k7⟩:=d1u (hok rfl)
      simp only [] at k1 k2 k3 k4 k5 k6 k7
      obtain ⟨mb,rfl⟩:∃ i:Nat,sm=i:=⟨sm.toNat,by omega⟩
      have hmb:mb < bl.length:=by omega
      have gmb:bl.getD ((mb:Int)).toNat []=bl[mb]:=by simp [List.getD_eq_getElem?_getD,hmb]
      have hrow:=c6t bl [] ⟨sg,sr,mb,bl.length⟩ mb rfl hmb h1 (by have:=hbl0 mb; simpa [List.getD_eq_getElem?_getD,hmb] using this) (by simp only []; omega)
      rw [gmb] at hM
      have hUN:(rowS bl[mb] ⟨sg,sr,mb,bl.length⟩).2=true→(rowS bl[mb] ⟨sg,sr,mb,bl.length⟩).1.length=bl.length:=fun h => by
        unfold rowS at h ⊢
        split at h
        · simp at h
        · rename_i c
          rw [if_neg c]
          exact Int.ofNat_inj.1 (e4d (of_decide_eq_true h)).2.1
      rw [show devV bl []=.agg [.fsl .loose 1 (vS bl),.fsl .loose 2 []] from rfl] at hrow
      try simp only [spV] at hrow
      generalize rowS bl[mb] ⟨sg,sr,mb,bl.length⟩=rw' at hrow hM hUN
      obtain ⟨now,is⟩:=rw'
      try simp only [] at hM
      refine ⟨_,hrow, ?_⟩
      cases is with
      | false =>
        simp (disch:=omega) only [gG,simprocAttr]
        exact hF _ _ 120 (by rw [hM,if_pos rfl]) rfl
      | true =>
        rw [if_neg (by simp)] at hM
        have hnl:now.length=bl.length:=hUN rfl
        simp (disch:=omega) only [gG,simprocAttr]
        refine ⟨⟨by omega,by omega⟩,by simp [a1f,disj,nthL],by simp [a1f,disj,nthL],by simp [a1f,disj,nthL], ?_⟩
        refine x_it bl.length (fun i σ H => H.n=5∧H.m 0=some (.arr 2 [.agg [.fsl .loose 1 (vS bl),.fsl .loose 2 []]])∧H.m 1=some (.arr 11 [.agg [.int .i64 0,.int .i64 0,.int .i64 0,.int .i64 0,.int .i64 0,.fsl .nil 1 [],.fsl .nil 1 [],.fsl .nil 1 [],.int .i64 0,.int .i64 0,.fsl .nil 1 []]]) ∧
            H.m 2=some (.arr 4 [.agg [.int .i64 sg,.int .i64 sr,.int .i64 mb,.int .i64 bl.length]])∧H.m 3=some (.arr 1 (vS (pgsI bl now i)))∧H.m 4=some (.arr 5 [.agg [.fsl .loose 1 (bv now),.fsl .loose 1 (bv now),.sl 3 0 bl.length,.int .i64 sr,.int .i64 (sg+1)]]) ∧
            σ=[(1,.ptr 0 0 0),(2,.ptr 1 0 0),(4,.ptr 2 0 0),(5,.int .i64 slot),(9,.ptr 4 0 0),(81,.fsl .loose 1 (bv now)),(82,.int .i64 bl.length),(83,.int .i64 i)]) ⟨rfl,(by simp (disch:=omega) only [a0d,a0c,wo_0,wo_1,wo_2]),(by simp (disch:=omega) only [a0d,a0c,wo_0,wo_1,wo_2]),(by simp (disch:=omega) only [a0d,a0c,wo_0,wo_1,wo_2]),by simp [upd,e5w,vS,mv],(by simp (disch:=omega) only [a0d,a0c,wo_0,wo_1,wo_2]),by simp [a2p,hnl]⟩ ?_
        rintro T i σ ⟨n',m⟩ hi ⟨rfl,e0,e1,e2,e3,e4,rfl⟩ hN hX hR
        simp only [] at e0 e1 e2 e3 e4
        by_cases c5:i < bl.length
        · have hin:i < now.length:=by omega
          have hgn:(bv now)[i]?=some (.bool now[i]):=by simp [bv,mv,hin]
          have hnd:now.getD i false=now[i]:=by simp [List.getD_eq_getElem?_getD,hin]
          cases c6:now[i] with
          | true =>
            rw [c6] at hgn hnd
            simp (disch:=omega) only [gG,simprocAttr,show (i:Int) < bl.length by omega,hgn,e4,e0,a2f c5]
            rw [e3]
            have hps:=a2f (l:=pgsI bl now i) (i:=i) (by rw [a8u]; exact c5)
            simp (disch:=omega) only [gG,simprocAttr,e3,hps]
            exact hN _ _ c5 ⟨rfl,(by simp (disch:=omega) only [a0d,a0c,wo_0,wo_1,wo_2,e0]),(by simp (disch:=omega) only [a0d,a0c,wo_0,wo_1,wo_2,e1]),(by simp (disch:=omega) only [a0d,a0c,wo_0,wo_1,wo_2,e2]),by simp only [a0d]; rw [d1m,e6k c5 hnd],(by simp (disch:=omega) only [a0d,a0c,wo_0,wo_1,wo_2,e4]),by simp⟩
          | false =>
            rw [c6] at hgn hnd
            simp (disch:=omega) only [gG,simprocAttr,show (i:Int) < bl.length by omega,hgn]
            exact hN _ _ c5 ⟨rfl,e0,e1,e2,by rw [e4i hnd]; exact e3,e4,by simp⟩
        · obtain rfl:i=bl.length:=by omega
          simp (disch:=omega) only [gG,simprocAttr,show ¬ (bl.length:Int) < bl.length by omega]
          refine hX _ _ _ ?_
          simp (disch:=omega) only [gG,simprocAttr]
          have z4:frzV [3] m (.agg [.fsl .loose 1 (bv now),.fsl .loose 1 (bv now),.sl 3 0 bl.length,.int .i64 sr,.int .i64 (sg+1)])=.agg [.fsl .loose 1 (bv now),.fsl .loose 1 (bv now),.fsl .loose 1 (vS (pgsI bl now bl.length)),.int .i64 sr,.int .i64 (sg+1)]:=by
            unfold frzV
            rw [a8l (n:=3) (l':=[.fsl .loose 1 (bv now),.fsl .loose 1 (bv now),.fsl .loose 1 (vS (pgsI bl now bl.length)),.int .i64 sr,.int .i64 (sg+1)])]
            simp only [mapO,a6g (n:=2) (id:=3) (sz:=1) (len:=bl.length) (l:=vS (pgsI bl now bl.length)) (show only [3] m 3=_ by simp [only,e3]) a0i (by rw [a1a,a8u]),a1k (show V.closed (.fsl .loose 1 (bv now))=true by simp [V.closed,a0g]),a1k (show V.closed (.int .i64 _)=true from rfl)]
          refine d4y [3] ?_
          have cl:∀ v:V,v.closed=true→frzV [3] m v=v:=fun v hv => by simp only [frzV,a1k hv]
          have pt:∀ a b c,frzV [3] m (.ptr a b c)=.ptr a b c:=fun a b c => by simp [frzV,snap,V.closed]
          have d0:frzH [3] m 0=some (.arr 2 [.agg [.fsl .loose 1 (vS bl),.fsl .loose 2 []]]):=by
            simp [frzH,e0,frzO,cl (.agg [.fsl .loose 1 (vS bl),.fsl .loose 2 []]) (by simp [V.closed,a0b,a0i])]
          have d1:frzH [3] m 1=some (.arr 11 [.agg [.int .i64 0,.int .i64 0,.int .i64 0,.int .i64 0,.int .i64 0,.fsl .nil 1 [],.fsl .nil 1 [],.fsl .nil 1 [],.int .i64 0,.int .i64 0,.fsl .nil 1 []]]):=by
            simp [frzH,e1,frzO,cl (.agg [.int .i64 0,.int .i64 0,.int .i64 0,.int .i64 0,.int .i64 0,.fsl .nil 1 [],.fsl .nil 1 [],.fsl .nil 1 [],.int .i64 0,.int .i64 0,.fsl .nil 1 []]) rfl]
          have d2:frzH [3] m 2=some (.arr 4 [.agg [.int .i64 sg,.int .i64 sr,.int .i64 mb,.int .i64 bl.length]]):=by
            simp [frzH,e2,frzO,cl (.agg [.int .i64 sg,.int .i64 sr,.int .i64 mb,.int .i64 bl.length]) rfl]
          have d4:frzH [3] m 4=some (.arr 5 [.agg [.fsl .loose 1 (bv now),.fsl .loose 1 (bv now),.fsl .loose 1 (vS (pgsI bl now bl.length)),.int .i64 sr,.int .i64 (sg+1)]]):=by
            simp [frzH,e4,frzO,z4]
          simp only [frzS,pt,cl (.int _ _) rfl,cl (.bool _) rfl]
          generalize frzH [3] m=m' at d0 d1 d2 d4 ⊢
          have hck:=(b9a (mntW bl ⟨sg,sr,mb,bl.length⟩ now) mb (by simp only [mntW,a8u]; omega)).1
          generalize ckR (mntW bl ⟨sg,sr,mb,bl.length⟩ now) mb=q at hck hM
          obtain ⟨⟨p1,p2,p3⟩,e⟩:=q
          simp only [mntW,woV,woL,repV] at hck
          simp (disch:=omega) only [gG,simprocAttr,d2,d4,ht5]
          refine ⟨_,hck, ?_⟩
          by_cases c6:e=0
          · subst c6
            rw [if_neg (by simp)] at hM
            simp (disch:=omega) only [gG,simprocAttr,d0,d2,a1a]
            have hdt:List.drop 2 (List.take 10 (vS bl))=vS ((bl.take 10).drop 2):=by simp [vS,mv]
            have hsc:=fun st => c7c sg st ((bl.take 10).drop 2) (by simp; omega) (fun s hs => by
              have:=List.all_eq_true.1 hall s (List.mem_of_mem_take (List.mem_of_mem_drop hs))
              simp [a4i] at this
              omega)
            rw [hdt]
            refine ⟨by omega,_,hsc _, ?_⟩
            simp (disch:=omega) only [gG,simprocAttr,d1,d2,d4,ht4,ht5]
            rw [hM]
            exact a0e rfl (by simp [pack,V.closed,a0b,a0g,a0i]) (by simp [pack,lo,loL,fnV,mntW,c4r,b8g])
          · simp (disch:=omega) only [gG,simprocAttr,c6,d1]
            exact hF _ _ 120 (by rw [hM,if_pos c6]) rfl
end
section
open Go Go.Sort Go.Shelf Go.RowKit
theorem e5z (s:Str) (hs:s.length≤140737488355328):∃ q:List Chg×Int,PCall Tryz.prog 44 [.str s] (.tup [chsV q.1,.int .i64 q.2])∧(q.2=0→∀ c∈q.1,a3j c=true)∧q.1.length≤255:=by
 obtain ⟨_,hc,l,e,rfl,h1,h2⟩:=b8l s hs;exact ⟨(l,e),hc,h1,h2⟩
noncomputable def unF (s:Str):List Chg×Int:=if h:s.length≤140737488355328 then (e5z s h).choose else ([],1)
theorem d9d (s:Str) (h:s.length≤140737488355328):PCall Tryz.prog 44 [.str s] (.tup [chsV (unF s).1,.int .i64 (unF s).2])∧((unF s).2=0→∀ c∈(unF s).1,a3j c=true)∧(unF s).1.length≤255:=by
 unfold unF;rw [dif_pos h];exact (e5z s h).choose_spec
def chP (M:List Pr) (c:Chg):List Pr:=if c.gone=true then delP M c.key else putP M c.key c.val
def chL (M:List Pr) (l:List Chg):List Pr:=l.foldl chP M
theorem d7b (M:List Pr) (l:List Chg) (c:Chg):chL M (l++[c])=chP (chL M l) c:=by simp [chL]
noncomputable def rcL:List Pr→List Str→List Pr×Int
 | M,[] => (M,0)
 | M,s::r => if (unF s).2≠0 then ([],120) else rcL (chL M (unF s).1) r
structure TB (n:Nat) (M:List Pr):Prop where
 len:M.length≤n
 mem:∀ p∈M,p.1.length≤1000000∧p.2.length≤1000000
theorem TB.ch {n:Nat} {M:List Pr} (h:TB n M) {c:Chg} (hc:a3j c=true):TB (n+1) (chP M c):=by
 simp [a3j] at hc;unfold chP;split
 ·exact ⟨by have:=d6e M c.key; have:=h.len; omega,fun p hp => h.mem p (d5w hp)⟩
 ·refine ⟨by have:=d5d M c.key c.val; have:=h.len; omega,fun p hp => (b6m hp).elim (fun e => ?_) (h.mem p)⟩;rw [e]; simp only []; omega
theorem TB.chL {n:Nat} {M:List Pr} (h:TB n M):∀ {l:List Chg},(∀ c∈l,a3j c=true)→TB (n+l.length) (chL M l):=fun {l} hl => by
 induction l generalizing n M with
 | nil => exact h
 | cons c l ih =>
  have:=ih (h.ch (hl c (by simp))) (fun q hq => hl q (by simp [hq]));rw [show n+(c::l).length=n+1+l.length by simp; omega];exact this
theorem e6u {M:List Pr} (h:(a1i M).Nodup) (c:Chg):(a1i (chP M c)).Nodup:=by
 unfold chP;split
 ·exact ((d5c h).del c.key).2.keys
 ·obtain ⟨_,_,_,h2⟩:=(d5c h).put c.key c.val;exact h2.keys
theorem e6g {M:List Pr} (h:(a1i M).Nodup):∀ l:List Chg,(a1i (chL M l)).Nodup:=fun l => by
 induction l generalizing M with
 | nil => exact h
 | cons c l ih => exact ih (e6u h c)
theorem e0n:∀ {r:List Str} {n:Nat} {M:List Pr},(∀ s∈r,s.length≤140737488355328)→TB n M→(a1i M).Nodup→TB (n+255*r.length) (rcL M r).1∧(a1i (rcL M r).1).Nodup
 | [],n,M,_,h,hk => ⟨h,hk⟩
 | s::r,n,M,hs,h,hk => by
  obtain ⟨_,h2,h3⟩:=d9d s (hs s (by simp));unfold rcL;split
  ·exact ⟨⟨by simp,by simp⟩,by simp [a1i]⟩
  ·rename_i c;have hb:=h.chL (h2 (by simpa using c));have:=e0n (r:=r) (n:=n+255) (fun q hq => hs q (by simp [hq])) (⟨by have:=hb.len; omega,hb.mem⟩) (e6g hk (unF s).1);refine ⟨⟨?_,this.1.mem⟩,this.2⟩;have:=this.1.len;simp; omega
noncomputable def telQ (q:FndM×Int):FndM×List Pr×Int :=
 if q.2≠0 then (fn0,[],q.2) else if (prF q.1.w).2≠0 then (fn0,[],120) else if (rcL (prF q.1.w).1 q.1.ring).2≠0 then (fn0,[],120) else (q.1,a3d cmpP (rcL (prF q.1.w).1 q.1.ring).1,0)
structure FnO (f:FndM):Prop where
 pages:f.w.pages.length≤1000000
 n:f.w.n.length≤2048
 ring:f.ring.length≤8
 body:∀ s∈f.ring,s.length≤140737488355328
theorem d4h (s:Str) (gen:Int):(b2a s gen).2.1.length≤4096:=by
 have:=a4a s [5];unfold b2a;simp only [];split
 ·simp
 ·split
  ·simp
  ·simp; omega
theorem b7k (gen:Int) {x:Str}:∀ {i:Nat} {l:List Str},x∈a4t gen i l→x.length≤4096
 | _,[],h => by simp [a4t] at h
 | i,s::l,h => by
  simp only [a4t] at h;split at h
  ·simp at h
  ·rcases List.mem_cons.1 h with rfl | h
   ·exact d4h s gen
   ·exact b7k gen h
theorem d7h {b:Str} {s:Sp} (h:(rowS b s).2=true):((rowS b s).1.length:Int)=s.z:=by
 unfold rowS at h ⊢;split at h
 ·simp at h
 ·rename_i c;rw [if_neg c];exact (e4d (of_decide_eq_true h)).2.1
theorem c7a (bl:List Str) (pe:List (Int×Str)) (h:(mntS bl pe).2=0):(mntS bl pe).1.w.n.length=bl.length∧bl.length≤2048∧24≤bl.length∧FnO (mntS bl pe).1:=by
 unfold mntS at h ⊢;split at h
 ·simp at h
 rename_i c0;rw [if_neg c0];split at h
 ·simp at h
 rename_i c1;rw [if_neg c1];split at h
 ·simp at h
 rename_i c2;rw [if_neg c2];split at h
 ·simp at h
 rename_i c3;rw [if_neg c3];split at h
 ·simp at h
 rename_i c4;rw [if_neg c4];have hd:a2u bl pe=true:=by
  cases e:a2u bl pe with
  | true => rfl
  | false => exact absurd (.inl e) c0
 have hb:bl.length≤2048:=by simp [a2u] at hd; omega
 have hz:(a0k [bl.getD 0 [],bl.getD 1 []]).1.z=bl.length:=Decidable.byContradiction fun e => c2 (.inr (.inl e));have hr:=d7h (b:=bl.getD (a0k [bl.getD 0 [],bl.getD 1 []]).1.m.toNat []) (s:=(a0k [bl.getD 0 [],bl.getD 1 []]).1) (by simpa using c3);rw [hz] at hr;have hl:=Int.ofNat_inj.1 hr;refine ⟨hl,hb,by omega,⟨?_, ?_, ?_, ?_⟩⟩
 ·simp only [mntW,a8u]; omega
 ·simp only [mntW]; rw [hl]; exact hb
 ·have:=b7m (a0k [bl.getD 0 [],bl.getD 1 []]).1.g 0 ((bl.take 10).drop 2);simp at this ⊢; omega
 ·intro s hs;have:=b7k _ hs;omega
theorem c0b {q:FndM×Int} (hq:q.2=0→FnO q.1):TB 100000 (telQ q).2.1∧(telQ q).2.1.length≤100000:=by
 unfold telQ;split
 ·exact ⟨⟨by simp,by simp⟩,by simp⟩
 rename_i c0;split
 ·exact ⟨⟨by simp,by simp⟩,by simp⟩
 split
 ·exact ⟨⟨by simp,by simp⟩,by simp⟩
 obtain ⟨b1,b2,b3,b4⟩:=hq (by simpa using c0);have hp:=d3g q.1.w b1;have hl:=hp.len;obtain ⟨h1,h2⟩:=e0n (n:=36864) b4 ⟨by omega,fun p hp' => ⟨(hp.mem p hp').1,(hp.mem p hp').2.1⟩⟩ hp.keys;obtain ⟨s1,_⟩:=a5n a4l (rcL (prF q.1.w).1 q.1.ring).1;have hlen:=s1.length_eq;have:=h1.len;simp only [];exact ⟨⟨by omega,fun p hp => h1.mem p (s1.mem_iff.1 hp)⟩,by omega⟩
set_option maxHeartbeats 1000000 in
theorem d6m (x y:Pr) (W:World):Calls Tryz.prog 46 #[.agg (encP x).toArray,.agg (encP y).toArray] W fun e w' => e=.returned (.int .i64 (cmpP x y))∧∃ q os',w'=grow (W.drewN q) os':=by
 obtain ⟨x1,x2⟩:=x;obtain ⟨y1,y2⟩:=y;have hcon:=fun W' => Any.strings_Compare c1a ⟨x1.toArray⟩ ⟨y1.toArray⟩ W';change ∀ W',Calls Tryz.prog 47 _ _ _ at hcon;have e:cmpP (x1,x2) (y1,y2)=Lib.compareBytes x1 y1:=rfl;simp only [] at hcon;rw [e];generalize Lib.compareBytes x1 y1=r at hcon ⊢;simp only [encP]
 go_enter Tryz.func46,Tryz.ntmps46
 go_wp2_with (go_at_call 47; refine (hcon _).mono ?_; rintro e w' ⟨rfl,rfl⟩)
 go_ret
 exact ⟨rfl,0,_,by rw [alloc_eq_grow,alloc_eq_grow,grow_grow]; rfl⟩
theorem c0g:∀ args w,(callFunc 46 args).run Tryz.prog w=.ok (.enter 46 args) w:=enters_of Tryz.func46 (by kernel_rfl) rfl
theorem c4s {H:Hp} {id:Nat} {l:List Pr} (hm:H.m id=some (.arr 2 (mv prV l))) (hne:l≠[]) (hl:l.length < 4611686018427387904) :
  ACall Tryz.prog 45 [.sl id 0 l.length,.fn 46 [] []] H [id] (.tup []) [(id,some (.arr 2 (mv prV (a3d cmpP l))))] 0 :=
 b5d a8k (Tryz.isAgg81) (Tryz.sizeOf81) b0h a4l c0g d6m hm hne hl
theorem c9t:∀ {bs:List Nat} {l:List (V×V)} {i b:Nat} {p:V×V},bs.Nodup→bs[i]?=some b→l[i]?=some p→mdAt bs l b=some p
 | [],_,_,_,_,_,h,_ => by simp at h
 | b'::bs,[],_,_,_,_,_,h => by simp at h
 | b'::bs,q::l,0,b,p,hn,h1,h2 => by
  simp at h1 h2; subst h1; subst h2;simp [mdAt]
 | b'::bs,q::l,i+1,b,p,hn,h1,h2 => by
  simp only [List.getElem?_cons_succ] at h1 h2;obtain ⟨hn1,hn2⟩:=List.nodup_cons.1 hn;have:b'≠b:=fun e => hn1 (e ▸ List.mem_of_getElem? h1);simp only [mdAt];rw [if_neg this];exact c9t hn2 h1 h2
def eP (bs:List Nat) (M:List Pr) (b:Nat):Pr:=M.getD (bs.idxOf b) ([],[])
theorem e5x {bs:List Nat} {M:List Pr} {i b:Nat} {p:Pr} (hn:bs.Nodup) (h1:bs[i]?=some b) (h2:M[i]?=some p):eP bs M b=p:=by
 obtain ⟨hi,rfl⟩:=List.getElem?_eq_some_iff.1 h1;unfold eP;rw [hn.idxOf_getElem i hi,List.getD_eq_getElem?_getD,h2];rfl
theorem e5h {bs:List Nat} {M:List Pr} (hn:bs.Nodup) (hl:bs.length=M.length):bs.map (eP bs M)=M:=by
 refine List.ext_getElem (by simp [hl]) fun i h1 h2 => ?_;rw [List.getElem_map];have h1':i < bs.length:=by simpa using h1
 exact e5x hn (List.getElem?_eq_getElem h1') (List.getElem?_eq_getElem h2)
theorem c5k {c:Nat} {bs seen:List Nat} {M:List Pr} (h:MdOk c bs M) (hs:seen.Nodup) (h1:∀ b∈seen,b∈bs) (h2:∀ b∈bs,b∈seen):a3d cmpP (seen.map (eP bs M))=a3d cmpP M∧(seen.map (eP bs M)).length=M.length:=by
 have hp:seen.Perm bs:=(List.perm_ext_iff_of_nodup hs h.nd).2 fun a => ⟨h1 a,h2 a⟩;have hM:(seen.map (eP bs M)).Perm M:=by
  have:=hp.map (eP bs M);rwa [e5h h.nd h.len] at this
 obtain ⟨s1,s2⟩:=a5n a4l M;refine ⟨?_,hM.length_eq⟩;have hk:(a1i (seen.map (eP bs M))).Nodup:=by
  have:=h.keys;unfold a1i at this ⊢;exact ((hM.map (·.1)).nodup_iff).2 this
 have hS:Srt (a3d cmpP M):=e0w (s2.imp fun h => by rwa [a8p] at h) ((s1.map _).nodup_iff.2 h.keys);exact d4m hk hS (s1.trans hM.symm)
end
section
open Go Go.Sort Go.Shelf Go.RowKit
theorem CallA.ofC {P:Program} {f:Nat} {vs:List V} {H:Hp} {fp:List Nat} {T:V→List (Nat×Option Ob)→Nat→Prop} {K:KI} (h:CEx P f vs H fp T) (hk:∀ r ds k,T r ds k→K r fp ds k):CallA P f vs H K :=
 let ⟨r,ds,k,h1,h2⟩:=h
 ⟨_,_,_,_,h1,hk r ds k h2⟩
theorem c5l {bs:List Nat} {l:List (V×V)} {seen:List Nat} {i b:Nat} {p:V×V} (h:bs.Nodup) (h1:bs[i]?=some b) (h2:l[i]?=some p):entO bs l (seen++[b])=some p:=by
 unfold entO;rw [List.getLast?_append];simp only [List.getLast?_singleton,Option.some_or];exact c9t h h1 h2
theorem e3b {M:List Pr} {i:Nat} {p:V×V} (h:(mvS M)[i]?=some p):∃ q,M[i]?=some q∧p=(.str q.1,.str q.2):=by
 simp only [mvS,List.getElem?_map] at h;cases hq:M[i]? with
 | none => simp [hq] at h
 | some q => simp [hq] at h; exact ⟨q,rfl,h.symm⟩
def znV:V:=.agg [.int .i64 0,.int .i64 0,.int .i64 0,.int .i64 0,.int .i64 0,.fsl .nil 1 [],.fsl .nil 1 [],.fsl .nil 1 [],.int .i64 0,.int .i64 0,.fsl .nil 1 []]
theorem e1q (n:Nat) (m:Hm) (id:Nat) (x1 x2 x3 x4 x5 x6 x7 x8 x9 x10 x11:V) (L:List Pr) (hid:id≠1) (h1:m 1=some (.arr 11 [.agg [x1,x2,x3,x4,x5,x6,x7,x8,x9,x10,x11]])) (hf:a0b [x1,x2,x3,x4,x5,x6,x7,x8,x9,x10,x11]=true) (h2:m id=some (.arr 2 (mv prV L))) {r:V}
  (hr:r=.tup [lo (.agg [x1,x2,x3,x4,x5,x6,x7,x8,x9,x10,x11]),.fsl .loose 2 (mv prV L),.int .i64 0]):evX Tryz.prog (.frz .ret) [(2,.ptr 1 0 0),(3,.sl id 0 L.length),(4,.int .i64 0)] ⟨n,m⟩ (Fin r17 r):=by
 subst hr;refine b5p [id] ?_;have hs:frzS [id] m [(2,.ptr 1 0 0),(3,.sl id 0 L.length),(4,.int .i64 0)]=[(2,.ptr 1 0 0),(3,.fsl .loose 2 (mv prV L)),(4,.int .i64 0)]:=by
  have e:frzV [id] m (.sl id 0 L.length)=.fsl .loose 2 (mv prV L):=by
   rw [b7v h2 (by simp) (by rw [mv_len]; omega) (a0a a1m)];rw [List.drop_zero,List.take_of_length_le (by rw [mv_len]; omega)]
  simp only [frzS,e];simp [frzV,snap,V.closed]
 rw [hs];exact a0e (l:=[.agg [x1,x2,x3,x4,x5,x6,x7,x8,x9,x10,x11],.fsl .loose 2 (mv prV L),.int .i64 0]) (by simp [r17,resE,a7g,find,a1d,Ne.symm hid,h1,getC]) (by simp [pack,V.closed,hf,a0b,a0a a1m] at hf ⊢; exact hf) (by simp [pack,lo,loL,a3e c9q])
theorem c1g (n:Nat) (m:Hm) (x1 x2 x3 x4 x5 x6 x7 x8 x9 x10 x11:V) (h1:m 1=some (.arr 11 [.agg [x1,x2,x3,x4,x5,x6,x7,x8,x9,x10,x11]])) (hf:a0b [x1,x2,x3,x4,x5,x6,x7,x8,x9,x10,x11]=true) (st:St) {r:V} {e:Int}
  (hr:r=.tup [lo (.agg [x1,x2,x3,x4,x5,x6,x7,x8,x9,x10,x11]),.fsl .loose 2 [],.int .i64 e]):Fin r17 r .ret [(2,.ptr 1 0 0),(3,.fsl st 2 []),(4,.int .i64 e)] ⟨n,m⟩:=by
 subst hr;exact a0e (l:=[.agg [x1,x2,x3,x4,x5,x6,x7,x8,x9,x10,x11],.fsl st 2 [],.int .i64 e]) (by simp [r17,resE,a7g,find,h1,getC]) (by simp [pack,V.closed,hf,a0b] at hf ⊢; exact hf) (by simp [pack,lo,loL])
set_option maxHeartbeats 4000000 in
theorem b4m (bl:List Str) (pe:List (Int×Str)) (h1:strL bl) (h2:∀ p∈pe,p.2.length≤140737488355328) (hb:bl.length≤1000000) (hp:pe.length≤1000000) :
  PCall Tryz.prog 17 [devV bl pe] (.tup [fnV (telQ (mntS bl pe)).1,.fsl .loose 2 (mv prV (telQ (mntS bl pe)).2.1),.int .i64 (telQ (mntS bl pe)).2.2]):=by
 refine en17 (by simp) (by simp [a0b,V.closed,a0i,a0a a2c,devV]) ?_;have hm:=b2i bl pe h1 h2 hb hp;have hn:=c7a bl pe;generalize mntS bl pe=q at hm hn ⊢;have hF:∀ (e:Int) (n:Nat) (m:Hm),telQ q=(fn0,[],e)→m 1=some (.arr 11 [znV])→Fin r17 (.tup [fnV (telQ q).1,.fsl .loose 2 (mv prV (telQ q).2.1),.int .i64 (telQ q).2.2]) .ret [(2,.ptr 1 0 0),(3,.fsl .nil 2 []),(4,.int .i64 e)] ⟨n,m⟩:=fun e n m ht h0 =>
  c1g n m _ _ _ _ _ _ _ _ _ _ _ h0 rfl .nil (by rw [ht]; simp [lo,loL,fnV,fn0,sp0,vS,bv,mv])
 have ht2:∀ a b:V,List.take 2 (List.drop 0 [a,b])=[a,b]:=fun _ _ => rfl;have ht11:∀ a b c d e f g h i j k:V,List.take 11 (List.drop 0 [a,b,c,d,e,f,g,h,i,j,k])=[a,b,c,d,e,f,g,h,i,j,k]:=fun _ _ _ _ _ _ _ _ _ _ _ => rfl;have ht5:∀ a b c d e f g h i j k:V,List.take 5 (List.drop 5 [a,b,c,d,e,f,g,h,i,j,k])=[f,g,h,i,j]:=fun _ _ _ _ _ _ _ _ _ _ _ => rfl;obtain ⟨⟨⟨sg,sr,sm,sz⟩,slot,⟨b,nw,pages,root,gen⟩,ring⟩,e⟩:=q;simp only [devV,fnV] at hm;simp (disch:=omega) only [gG,simprocAttr,c17,devV,ht2];refine ⟨_,hm, ?_⟩;by_cases c0:e=0
 case neg =>
  simp (disch:=omega) only [gG,simprocAttr,c0,ht11];refine a0l ?_;exact hF _ _ _ (by unfold telQ; rw [if_pos c0]) (by simp [upd,znV])
 subst c0;obtain ⟨_,_,_,fb⟩:=hn rfl;have hpr:=fun m => c4u ⟨3,m⟩ ⟨b,nw,pages,root,gen⟩ fb.pages fb.n;have hpo:=d3g ⟨b,nw,pages,root,gen⟩ fb.pages;have hpl:=hpo.len;have hfn:=fb.n;have hrl:=fb.ring;have hrb:=fb.body;simp only [] at hfn hrl hrb hpl;have hT:telQ (⟨⟨sg,sr,sm,sz⟩,slot,⟨b,nw,pages,root,gen⟩,ring⟩,0)=if (prF ⟨b,nw,pages,root,gen⟩).2≠0 then (fn0,[],120) else if (rcL (prF ⟨b,nw,pages,root,gen⟩).1 ring).2≠0 then (fn0,[],120) else (⟨⟨sg,sr,sm,sz⟩,slot,⟨b,nw,pages,root,gen⟩,ring⟩,a3d cmpP (rcL (prF ⟨b,nw,pages,root,gen⟩).1 ring).1,0):=by
  unfold telQ; rw [if_neg (by simp)]
 simp only [woV,woL] at hpr;generalize prF ⟨b,nw,pages,root,gen⟩=F at hpr hpo hpl hT;obtain ⟨M0,e0⟩:=F;simp only [] at hpo hpl hT;simp (disch:=omega) only [gG,simprocAttr,ht11,ht5];refine CallA.ofC (hpr _) ?_;rintro _ _ k ⟨rfl,rfl,hk⟩;by_cases c1:e0=0
 case neg =>
  simp (disch:=omega) only [gG,simprocAttr,prsR,prsD,c1,ht11];refine a0l ?_;exact hF _ _ _ (by rw [hT,if_pos c1]) (by simp [upd,znV])
 subst c1;rw [if_neg (by simp)] at hT;simp (disch:=omega) only [gG,simprocAttr,prsR,prsD];rw [a1a];obtain ⟨Fv,hFv⟩:∃ Fv,Fv=V.agg [.int .i64 sg,.int .i64 sr,.int .i64 sm,.int .i64 sz,.int .i64 slot,.fsl .loose 1 (bv b),.fsl .loose 1 (bv nw),.fsl .loose 1 (vS pages),.int .i64 root,.int .i64 gen,.fsl .loose 1 (vS ring)]:=⟨_,rfl⟩;refine x_it ring.length (fun i σ H => ∃ M c bs,5≤H.n∧H.m 1=some (.arr 11 [znV])∧H.m 2=some (.arr 11 [Fv])∧H.m 4=some (.md c bs (mvS M))∧MdOk c bs M∧TB (36864+255*i) M∧rcL M (ring.drop i)=rcL M0 ring ∧
   σ=[(2,.ptr 1 0 0),(5,.ptr 2 0 0),(7,.map 4),(36,.fsl .loose 1 (vS ring)),(37,.int .i64 ring.length),(38,.int .i64 i)])
  ⟨M0,M0.length,rgP M0,by simp only []; omega,by simp [upd,znV],by simp [upd,hFv],by simp [upd],d5c hpo.keys,⟨by omega,fun p hp => ⟨(hpo.mem p hp).1,(hpo.mem p hp).2.1⟩⟩,by simp,rfl⟩ ?_
 rintro T i σ ⟨n,m⟩ hi ⟨M,c,bs,hn,e1,e2,e4,hM,hB,hrc,rfl⟩ hN hX hR;simp only [] at hn e1 e2 e4;by_cases c2:i < ring.length
 ·rw [List.drop_eq_getElem_cons c2,rcL] at hrc;obtain ⟨u1,u2,u3⟩:=d9d ring[i] (hrb _ (List.getElem_mem c2));generalize unF ring[i]=uq at u1 u2 u3 hrc;obtain ⟨l,ue⟩:=uq;simp only [chsV] at u1 u2 u3 hrc;simp (disch:=omega) only [gG,simprocAttr,show (i:Int) < ring.length by omega,a2f c2];refine ⟨_,u1, ?_⟩;by_cases c3:ue=0
  case neg =>
   rw [if_pos c3] at hrc;simp (disch:=omega) only [gG,simprocAttr,c3,ht11,e1,znV];refine a0l ?_;simp (disch:=omega) only [gG,simprocAttr];refine hR _ _ ?_;simp (disch:=omega) only [gG,simprocAttr];exact hF _ _ _ (by rw [hT,← hrc,if_pos (by decide)]) (by simp [upd,znV])
  subst c3;rw [if_neg (by simp)] at hrc;have hrt:=u2 rfl;simp (disch:=omega) only [gG,simprocAttr,mv_len];refine x_it l.length (fun t σ H => ∃ c bs,5≤H.n∧H.m 1=some (.arr 11 [znV])∧H.m 2=some (.arr 11 [Fv])∧H.m 4=some (.md c bs (mvS (chL M (l.take t))))∧MdOk c bs (chL M (l.take t)) ∧
    σ=[(2,.ptr 1 0 0),(5,.ptr 2 0 0),(7,.map 4),(36,.fsl .loose 1 (vS ring)),(37,.int .i64 ring.length),(38,.int .i64 i),(50,.fsl .loose 3 (mv chV l)),(51,.int .i64 l.length),(52,.int .i64 t)])
   ⟨c,bs,hn,e1,e2,e4,hM,by simp⟩ ?_
  rintro T2 t σ ⟨n2,m2⟩ ht ⟨c',bs',hn2,f1,f2,f4,hM2,rfl⟩ hN2 hX2 hR2;simp only [] at hn2 f1 f2 f4;by_cases c4:t < l.length
  ·obtain ⟨ch,hch⟩:∃ ch,l[t]=ch:=⟨_,rfl⟩;have htk:l.take (t+1)=l.take t++[ch]:=by rw [List.take_succ_eq_append_getElem c4,hch]
   have n1:(1:Nat)≠n2:=by omega
   have n2':(2:Nat)≠n2:=by omega
   have n4:(4:Nat)≠n2:=by omega
   obtain ⟨key,val,gone⟩:=ch;have hcs:=d7b M (l.take t) ⟨key,val,gone⟩;rw [← htk] at hcs;generalize chL M (l.take t)=Mt at f4 hM2 hcs;cases gone with
   | true =>
    obtain ⟨q1,q2⟩:=hM2.del key;simp (disch:=omega) only [gG,simprocAttr,show (t:Int) < l.length by omega,a0w c4,hch,chV];simp (disch:=omega) only [gG,simprocAttr,f4];refine ⟨b5r _ _, ?_⟩;rw [q1];exact hN2 _ _ c4 ⟨c',_,by simp only []; omega,(by simp (disch:=omega) only [a0d,a0c,wo_0,wo_1,wo_2,f1]),(by simp (disch:=omega) only [a0d,a0c,wo_0,wo_1,wo_2,f2]),by rw [hcs]; simp only [chP,Bool.false_eq_true,if_false,if_true]; exact a0d,by rw [hcs]; exact q2,by simp⟩
   | false =>
    obtain ⟨c2',bs2,q1,q2⟩:=hM2.put key val;simp (disch:=omega) only [gG,simprocAttr,show (t:Int) < l.length by omega,a0w c4,hch,chV];simp (disch:=omega) only [gG,simprocAttr,f4];refine ⟨b5r _ _, ?_⟩;rw [q1];exact hN2 _ _ c4 ⟨c2',bs2,by simp only []; omega,(by simp (disch:=omega) only [a0d,a0c,wo_0,wo_1,wo_2,f1]),(by simp (disch:=omega) only [a0d,a0c,wo_0,wo_1,wo_2,f2]),by rw [hcs]; simp only [chP,Bool.false_eq_true,if_false,if_true]; exact a0d,by rw [hcs]; exact q2,by simp⟩
  ·obtain rfl:t=l.length:=by omega
   rw [List.take_length] at f4 hM2;simp (disch:=omega) only [gG,simprocAttr,show ¬ (l.length:Int) < l.length by omega];refine hX2 _ _ _ ?_;simp (disch:=omega) only [gG,simprocAttr];refine a0l ?_;simp (disch:=omega) only [gG,simprocAttr];refine hN _ _ c2 ⟨_,c',bs',hn2,f1,f2,f4,hM2, ?_,hrc,by simp⟩;have:=hB.chL hrt;exact ⟨by have:=this.len; omega,this.mem⟩
 ·obtain rfl:i=ring.length:=by omega
  rw [List.drop_length,rcL] at hrc;have hT1:telQ (⟨⟨sg,sr,sm,sz⟩,slot,⟨b,nw,pages,root,gen⟩,ring⟩,0)=(⟨⟨sg,sr,sm,sz⟩,slot,⟨b,nw,pages,root,gen⟩,ring⟩,a3d cmpP M,0):=by
   rw [hT,← hrc]; simp
  have hML:M.length≤40000:=by have:=hB.len; omega
  simp (disch:=omega) only [gG,simprocAttr,show ¬ (ring.length:Int) < ring.length by omega];refine hX _ _ _ ?_;simp (disch:=omega) only [gG,simprocAttr];refine a0l ?_;simp (disch:=omega) only [gG,simprocAttr,e4];have n1:(1:Nat)≠n:=by omega
  have n2:(2:Nat)≠n:=by omega
  have n4:(4:Nat)≠n:=by omega
  refine x_it M.length (fun i σ H => ∃ seen o,seen.length=i∧seen.Nodup∧(∀ b∈seen,b∈bs)∧n < H.n∧H.m 1=some (.arr 11 [znV])∧H.m 2=some (.arr 11 [Fv])∧H.m 4=some (.md c bs (mvS M))∧H.m n=some (.it 4 c seen) ∧
    RowOk (n+1) H.n H.m 2 o (mv prV (seen.map (eP bs M)))∧(∀ id,o=some id→seen≠[])∧σ=[(2,.ptr 1 0 0),(5,.ptr 2 0 0),(14,rowV 2 o i),(69,.ptr n 0 0)])
   ⟨[],none,rfl,.nil,by simp,by simp only []; omega,(by simp (disch:=omega) only [a0d,a0c,wo_0,wo_1,wo_2,e1]),(by simp (disch:=omega) only [a0d,a0c,wo_0,wo_1,wo_2,e2]),(by simp (disch:=omega) only [a0d,a0c,wo_0,wo_1,wo_2,e4]),by simp [upd],rfl,by simp,rfl⟩ ?_
  rintro T3 i σ ⟨n3,m3⟩ hi3 ⟨seen,o,hsl,hsn,hsb,hn3,f1,f2,f4,fi,hrow,hso,rfl⟩ hN3 hX3 hR3;simp only [] at hn3 f1 f2 f4 fi hrow
  show evX Tryz.prog (.seq _ _) _ _ _;rw [e3r];refine e9j (id:=n) (mid:=4) (c:=c) (seen:=seen) (bs:=bs) (l:=mvS M) rfl fi f4 hM.lt hM.nd (fun hall => ?_) fun j b' p hj hp hns => ?_
  ·obtain ⟨hs1,hs2⟩:=c5k hM hsn hsb hall;simp (disch:=omega) only [gG,simprocAttr];refine hX3 _ _ _ ?_;simp (disch:=omega) only [gG,simprocAttr];refine a0l ?_;rw [hT1];have hlen:i=(seen.map (eP bs M)).length:=by simp [hsl]
   have hnx:∀ id,o=some id→seen.map (eP bs M)≠[]:=fun id h e => hso id h (by simpa using e);generalize seen.map (eP bs M)=out at hs1 hs2 hrow hlen hnx;cases o with
   | none =>
    have hnil:out=[]:=by
     have:mv prV out=[]:=hrow;cases out<;>simp [mv] at this ⊢
    have hS:a3d cmpP M=[]:=by rw [← hs1,hnil]; exact (a5n a4l []).1.eq_nil
    rw [hS];simp (disch:=omega) only [gG,simprocAttr,rowV];refine ⟨_,_,_,_,b5h .nil _ _, ?_⟩;simp (disch:=omega) only [gG,simprocAttr,f1,f2,hFv,ht11,znV];refine a0l ?_;exact c1g _ _ _ _ _ _ _ _ _ _ _ _ _ a0d (by simp [a0b,V.closed,a0g,a0i]) .nil (by simp [lo,loL,fnV,c4r,b8g,mv])
   | some id =>
    obtain ⟨r1,r2,r3⟩:=hrow;have hne:=hnx id rfl;have d1:id≠1:=by omega
    have d2:id≠2:=by omega
    have d1':(1:Nat)≠id:=by omega
    have d2':(2:Nat)≠id:=by omega
    have hL:=(a5n a4l out).1.length_eq;rw [hlen];simp (disch:=omega) only [gG,simprocAttr,rowV];refine ⟨_,_,_,_,c4s (l:=out) r3 hne (by omega), ?_⟩;simp (disch:=omega) only [gG,simprocAttr,f1,f2,hFv,ht11,znV];rw [← hs1,← hL];exact e1q _ _ id _ _ _ _ _ _ _ _ _ _ _ (a3d cmpP out) d1 a0d (by simp [a0b,V.closed,a0g,a0i]) (by simp [upd,d1]) (by simp [lo,loL,fnV,c4r,b8g])
  ·obtain ⟨q,hq,rfl⟩:=e3b hp;have hent:=c5l (seen:=seen) hM.nd hj hp;have hep:=e5x hM.nd hj hq;have hil:i < M.length:=by
    have hnd:(b'::seen).Nodup:=List.nodup_cons.2 ⟨hns,hsn⟩;have:=b6u (K:=bs) hnd (fun x hx => by
     rcases List.mem_cons.1 hx with rfl | hx
     ·exact List.mem_of_getElem? hj
     ·exact hsb x hx)
    rw [hM.len] at this;simp at this; omega
   have n4':(4:Nat)≠n:=by omega
   simp (disch:=omega) only [gG,simprocAttr,f4,hent];have hrow2:RowOk (n+1) n3 (upd m3 n (some (.it 4 c (seen++[b'])))) 2 o (mv prV (seen.map (eP bs M))):=hrow.keep (Nat.le_refl _) fun i e => a0c (by have:=hrow.lt e; omega);have g1:(upd m3 n (some (.it 4 c (seen++[b'])))) 1=some (.arr 11 [znV]):=(a0c n1).trans f1;have g2:(upd m3 n (some (.it 4 c (seen++[b'])))) 2=some (.arr 11 [Fv]):=(a0c n2).trans f2;have g4:(upd m3 n (some (.it 4 c (seen++[b'])))) 4=some (.md c bs (mvS M)):=(a0c n4).trans f4;have gn:(upd m3 n (some (.it 4 c (seen++[b'])))) n=some (.it 4 c (seen++[b'])):=a0d;generalize upd m3 n (some (.it 4 c (seen++[b'])))=m4 at hrow2 g1 g2 g4 gn ⊢;refine a9w (lo:=n+1) (o:=o) (l:=mv prV (seen.map (eP bs M))) hrow2 (by simp [mv_len,hsl]) (by simp [mv_len,hsl]; omega) (by decide) fun fp ds hD hB hF => ?_;rw [x_nx];refine ⟨by simp only [a0u], ?_⟩;simp only [] at hD ⊢;generalize appd ds m4=m5 at hD ⊢;have old:∀ id,id≤n→m5 id=m4 id:=fun id hid => by
    rw [hD id,if_neg (by omega),if_neg fun e => by have:=hrow2.lt e; omega]
   simp (disch:=omega) only [gG,simprocAttr];refine hN3 _ _ hil ⟨seen++[b'],some n3,by simp [hsl], ?_, ?_,by simp only []; omega,(old 1 (by omega)).trans g1,(old 2 (by omega)).trans g2,(old 4 (by omega)).trans g4,(old n (Nat.le_refl _)).trans gn,⟨by omega,by simp only []; omega, ?_⟩,by simp,rfl⟩
   ·refine List.nodup_append.2 ⟨hsn,by simp,fun x hx y hy => ?_⟩;simp at hy; subst hy;exact fun e => hns (e ▸ hx)
   ·intro x hx;rcases List.mem_append.1 hx with hx | hx
    ·exact hsb x hx
    ·simp at hx; subst hx; exact List.mem_of_getElem? hj
   ·simp only [];rw [hD n3,if_pos rfl];simp [mv,hep,prV]
end
def aV (b n:List Bool):V:=.agg [.fsl .loose 1 (bv b),.fsl .loose 1 (bv n)]
def frA (b n:List Bool) (i:Nat):Bool:=!n.getD i false && !b.getD i false
def rowA (n:Nat):List Bool:=(List.range n).map fun i => decide (i < 10)
theorem b0m (n:Nat):(rowA n).length=n:=by simp [rowA]
def newV (n:Int):V:=if n < 24∨2048 < n then .tup [aV [] [],.int .i64 1] else .tup [aV (rowA n.toNat) (rowA n.toNat),.int .i64 0]
theorem clone43:CloneOK Tryz.prog 84 1 1:=by
 refine ⟨fun H => ?_,fun H => ?_,fun H v l hc hl => ?_⟩
 ·refine ena84 (by simp) (by simp [lowL,V.low]) (by simp) (by simp) ?_;simp (disch:=omega) only [rG,simprocAttr,c84];exact b0f (l:=[.fsl .nil 1 []]) rfl (.inr (.inl rfl)) (by simp) (by simp [appd,only])
 ·refine ena84 (by simp) (by simp [lowL,V.low]) (by simp) (by simp) ?_;simp (disch:=omega) only [rG,simprocAttr,c84,appO];exact b0f (l:=[.fsl .full 1 []]) rfl (.inr (.inl rfl)) (by simp) (by simp [appd,only])
 ·refine ena84 (by simp) (by simp [lowL,V.low,a0h _ hc]; simpa [lowL] using a0h _ hc) (by simp) (by simp) ?_;simp (disch:=omega) only [rG,simprocAttr,c84,appO];exact ⟨by omega,b0f (l:=[.sl H.n 0 (l.length+1)]) rfl (.inl rfl) (by simp) (fun id => .inr rfl)⟩
theorem c8h (n:Int):PCall Tryz.prog 37 [.int .i64 n] (newV n):=by
 refine en37 (by simp) (by simp [a0b,V.closed]) ?_;by_cases h1:n < 24
 ·simp (disch:=omega) only [gG,simprocAttr,c37,h1]
  (refine a0e rfl ?_ ?_<;>simp [pack,lo,loL,V.closed,a0b,a0a,a0g,a0p,newV,aV,h1,bv])
 ·by_cases h2:2048 < n
  ·simp (disch:=omega) only [gG,simprocAttr,c37,h1,h2]
   (refine a0e rfl ?_ ?_<;>simp [pack,lo,loL,V.closed,a0b,a0a,a0g,a0p,newV,aV,h2,bv])
  ·obtain ⟨k,rfl⟩:∃ k:Nat,n=k:=⟨n.toNat,by omega⟩;simp (disch:=omega) only [gG,simprocAttr,c37,h1,h2];refine ⟨by omega, ?_⟩;refine x_it 10 (fun i σ H => H.n=2∧H.m 0=some (.arr 2 [.agg [.fsl .nil 1 [],.fsl .nil 1 []]])∧H.m 1=some (.arr 1 (bv ((List.range k).map fun j => decide (j < i))))∧σ=[(2,.ptr 0 0 0),(4,.sl 1 0 k),(15,.int .i64 i)]) ⟨rfl,by simp [upd], ?_,rfl⟩ ?_
   ·simp [upd,bv];refine (List.eq_replicate_iff.2 ⟨by simp,by simp⟩).symm
   rintro T i σ ⟨m,hm⟩ hi ⟨rfl,e0,e1,rfl⟩ hN hX hR;simp only at e0 e1;simp (disch:=omega) only [gG,simprocAttr];refine ⟨fun h => ?_,fun h => ?_⟩
   ·have hk:i < ((List.range k).map fun j => decide (j < i)).length:=by simp; omega
    simp (disch:=omega) only [gG,simprocAttr,e1,c1z hk];refine ⟨by omega,hN _ _ (by omega) ⟨rfl,e0, ?_,rfl⟩⟩;simp only [a0d,b7l];congr 3;refine List.ext_getElem (by simp) fun j hj1 hj2 => ?_;simp at hj1;rw [List.getElem_set];by_cases hji:i=j
    ·simp [hji]
    ·simp [hji]; omega
   ·obtain rfl:i=10:=by omega
    refine hX _ _ _ ?_;simp (disch:=omega) only [gG,simprocAttr];have er:((List.range k).map fun j => decide (j < 10))=rowA k:=rfl;rw [er] at e1;refine b5p [1] ?_; simp only [vr,c3e]; rw [b6d (id:=1) (sz:=1) (l:=bv (rowA k)) (by first | assumption | (simp [upd]; done) | (simp [upd, *]; done)) (by simp) (by first | rfl | (simp [mv_len,b0m,a2p]<;>omega)) (by simp [a0g,a0p,a0a,V.closed,b0m,a2p])];simp (disch:=omega) only [gG,simprocAttr];refine clone43.call (l:=bv (rowA k)) (a0g _) (by rw [a2p,b0m]; omega) fun v ds q ho hf => ?_;have f0:appd ds (a1d [1] hm) 0=some (.arr 2 [.agg [.fsl .nil 1 [],.fsl .nil 1 []]]):=by rw [hf 0 (by simp)]; simpa [a1d] using e0
    rcases ho with ⟨st,rfl,he⟩ | ⟨id,hid,rfl,hm'⟩
    ·have:=congrArg List.length he;rw [a2p,b0m] at this; simp at this; omega
    ·have hne:id≠0:=by rintro rfl; simp only [f0] at hm'; cases hm'
     simp (disch:=omega) only [gG,simprocAttr,f0];refine d5q (v:=.tup [.agg [.fsl .loose 1 (bv (rowA k)),.fsl .loose 1 (bv (rowA k))],.int .i64 0]) rfl ?_ ?_
     ·refine c2s (a3o (a8w (a3o (a1k (by simp [V.closed,a0g])) (a3o (a6g (l:=bv (rowA k)) ?_ (a0g _) rfl) rfl))) (a3o rfl rfl));simp only [a0c hne]; exact hm'
     ·simp [lo,loL,c4r,newV,aV]; omega
def b2f (b n:List Bool):Option Nat:=(List.range n.length).find? (frA b n)
theorem b2p (b n:List Bool):(b2f b n=none∧∀ j,j < n.length→frA b n j=false)∨∃ i,b2f b n=some i∧i < n.length∧frA b n i=true∧∀ j,j < i→frA b n j=false:=by
 cases h:b2f b n with
 | none => exact .inl ⟨rfl,fun j hj => by rw [b2f,List.find?_eq_none] at h; simpa using h j (by simpa using hj)⟩
 | some i =>
  rw [b2f,List.find?_range_eq_some] at h;exact .inr ⟨i,rfl,by simpa using h.2.1,h.1,fun j hj => by simpa using h.2.2 j hj⟩
theorem c4m (s s':St) {b n:List Bool} (hl:b.length=n.length):fst [(s,b),(s',n)] 0=match b2f b n with | some i => (i:Int) | none => -1:=by
 have hlng:lng [(s,b),(s',n)]=n.length:=by simp only [lng,List.foldl_cons,List.foldl_nil]; omega
 have hw:∀ j,how [(s,b),(s',n)] j=0↔frA b n j=true:=fun j => by rw [e3e,frA]; simp [and_comm]
 rcases b2p b n with ⟨e,k⟩ | ⟨i,e,k1,k2,k3⟩
 ·rw [e]; exact c0w fun j h1 _ h2 => by rw [hlng] at h1; rw [hw,k j h1] at h2; cases h2
 ·rw [e]; exact c0z (by omega) (by omega) ((hw i).2 k2) fun j h1 _ h2 => by rw [hw,k3 j h1] at h2; cases h2
def c8v (b n:List Bool):V:=if a2y b n=true then (match b2f b n with | some i => .tup [aV b (n.set i true),.int .i64 i,.int .i64 0] | none => .tup [aV [] [],.int .i64 0,.int .i64 60]) else .tup [aV [] [],.int .i64 0,.int .i64 1]
theorem c4w (s1 s2:St) (b n:List Bool):PCall Tryz.prog 38 [.agg [.fsl s1 1 (bv b),.fsl s2 1 (bv n)]] (c8v b n):=by
 refine en38 (by simp) (by simp [a0b,V.closed,a0g]) ?_;simp (disch:=omega) only [gG,simprocAttr,c38];refine ⟨_,b3o s1 s2 b n, ?_⟩;simp (disch:=omega) only [gG,simprocAttr,c_b (c:=a2y b n),g_b (c:=a2y b n)];refine ⟨fun hr => ?_,fun hr => ?_⟩
 ·(refine a0e rfl ?_ ?_<;>simp [pack,lo,loL,V.closed,a0b,a0a,a0g,a0p,c8v,aV,hr,bv])
 ·have hr:a2y b n=true:=by simpa using hr
  obtain ⟨l1,l2,l3⟩:=a3z hr;have k:=e2d .full [(s1,b),(s2,n)] 0 (by omega) (by simp) (by simp; omega);rw [c4m s1 s2 l1] at k;simp only [rv,List.map_cons,List.map_nil] at k;refine ⟨_,k, ?_⟩;rcases b2p b n with ⟨e,_⟩ | ⟨i,e,k1,k2,k3⟩
  ·simp (disch:=omega) only [gG,simprocAttr,e]
   (refine a0e rfl ?_ ?_<;>simp [pack,lo,loL,V.closed,a0b,a0a,a0g,a0p,c8v,aV,hr,bv,e])
  ·simp (disch:=omega) only [gG,simprocAttr,e];have w:=e6z s2 .full n true [(i:Int)] (by omega) (by simp);rw [e6a n _ i k1] at w;refine ⟨_,w, ?_⟩;simp (disch:=omega) only [gG,simprocAttr]
   (refine a0e rfl ?_ ?_<;>simp [pack,lo,loL,V.closed,a0b,a0a,a0g,a0p,c8v,aV,hr,e,c4r])
def stepG (w:List Bool) (p:Int):Option (List Bool):=if p < 10∨(w.length:Int)≤p∨w.getD p.toNat false=false then none else some (w.set p.toNat false)
end Go.Proofs.YtgdhbegaejmljaaGreatDoor.Ev
