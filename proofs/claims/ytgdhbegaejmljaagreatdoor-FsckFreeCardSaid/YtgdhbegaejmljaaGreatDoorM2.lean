/-
  Part 2 of what the proof of the statement FsckFree leans on: the evaluator, the functions in compact form, and what they answer.
-/
import Derived.Test.YtgdhbegaejmljaaGreatDoorM1
import Derived.Sort.LoopGhostIn
import Derived.RangeFuncRecord
import Derived.Maps.Range
import Derived.Deep.Grids
import Derived.Below
import Derived.KernelRfl
import Derived.Deep.Slices
import Derived.ChangeArms
import Derived.DataElems
import Derived.SizedLaws
import Derived.WideShapes
import Derived.Shelf.Strings.OnBuilder
import Derived.Test.YtgdhbegaejmljaaGreatDoorProg
set_option linter.unusedSimpArgs false
set_option linter.unusedVariables false
set_option maxRecDepth 10000
namespace Go.Proofs.YtgdhbegaejmljaaGreatDoor.Ev
open Go
structure RG (ds:List Deferred) (g:G) (σ:Sg) (dl:List (Option Nat)) (env:List V) (a:Act) (N:Nat):Prop where
 eR:∀ t d v,fnd t dl=some d→nth d env=some v→R g v (a.tmps.getD t undef)
 vR:∀ t v,fnd t dl=none→find t σ=some v→R g v (a.tmps.getD t undef)
 lenE:env.length=dl.length
 sizeA:a.tmps.size=N
 defs:a.defers=ds
theorem RG.rel {ds:List Deferred} {g:G} {σ:Sg} {dl:List (Option Nat)} {env:List V} {a:Act} {N:Nat} (h:RG ds g σ dl env a N) (xs:List Operand):Rel dl (look σ env) xs g a:=by
 intro x _ s v hc hl;cases x with
 | tmp t =>
  cases s<;>simp only [cs] at hc<;>try (cases hc; done)
  ·simp at hc; exact h.eR _ _ _ hc hl
  ·simp at hc; obtain ⟨rfl,hc⟩:=hc; exact h.vR _ _ hc hl
 | const c =>
  cases s<;>simp only [cs] at hc<;>try (cases hc; done)
  simp only [look] at hl; cases hl; exact b3p g _ _ hc
 | global _ => cases s<;>simp [cs] at hc
 | func f =>
  cases s<;>try (simp [cs] at hc; done)
  rename_i c;simp only [look] at hl; cases hl;cases v<;>try (simp [cs] at hc; done)
  rename_i f' fs cs';cases fs<;>cases cs'<;>simp [cs] at hc;subst hc;simp only [R,Act.eval]; exact ⟨#[],#[],rfl,by simp [RC],by simp [RC]⟩
theorem e6i {d:Nat} {env:List V} (h:d < env.length):∃ v,nth d env=some v:=by
 induction env generalizing d with
 | nil => simp at h
 | cons v env ih => cases d with
  | zero => exact ⟨v,rfl⟩
  | succ d => simp at h; exact ih h
theorem e0u {t d:Nat} {dl:List (Option Nat)} (h:fnd t dl=some d):d < dl.length:=by
 induction dl generalizing d with
 | nil => simp [fnd] at h
 | cons o dl ih =>
  cases o with
  | none =>
   simp only [fnd] at h;cases hf:fnd t dl with
   | none => simp [hf] at h
   | some d' => simp [hf] at h; have:=ih hf; simp; omega
  | some t' =>
   simp only [fnd] at h;split at h
   ·simp at h; subst h; simp
   ·cases hf:fnd t dl with
    | none => simp [hf] at h
    | some d' => simp [hf] at h; have:=ih hf; simp; omega
theorem a5k {a:Act} {d t:Nat} {x:Value} (h:t≠d):(a.put (some d) x).tmps.getD t undef=a.tmps.getD t undef:=by
 simp [Act.put,Array.getElem?_setIfInBounds_ne (Ne.symm h)]
theorem b2k {a:Act} {d:Nat} {x:Value} (h:d < a.tmps.size):(a.put (some d) x).tmps.getD d undef=x:=by
 simp [Act.put,h]
theorem c2v {a:Act} {d:Option Nat} {x:Value}:(a.put d x).tmps.size=a.tmps.size:=by cases d<;>simp [Act.put]
theorem b0x {a:Act} {d:Option Nat} {x:Value}:(a.put d x).defers=a.defers:=by cases d<;>simp [Act.put]
def a7h (N:Nat):Option Nat→Bool
 | none => true
 | some d => decide (d < N)
theorem RG.put {ds:List Deferred} {g g':G} {σ:Sg} {dl:List (Option Nat)} {env:List V} {a:Act} {N:Nat} {dst:Option Nat} {v:V} {x:Value} (h:RG ds g σ dl env a N) (hle:g.le g') (hd:a7h N dst=true) (hv:R g' v x):RG ds g' σ (dst::dl) (v::env) (a.put dst x) N:=by
 refine ⟨?_, ?_,by simp [h.lenE],by rw [c2v,h.sizeA],by rw [b0x,h.defs]⟩
 ·intro t d u hf hn;cases dst with
  | none =>
   simp only [fnd] at hf;cases hf':fnd t dl with
   | none => simp [hf'] at hf
   | some d' =>
    simp [hf'] at hf; subst hf;exact R.mono hle _ _ (h.eR t d' u hf' hn)
  | some t' =>
   simp only [fnd] at hf;simp [a7h] at hd;split at hf
   ·rename_i he; subst he;simp at hf; subst hf;simp [nth] at hn; subst hn;rw [b2k (by rw [h.sizeA]; exact hd)]; exact hv
   ·rename_i he;cases hf':fnd t dl with
    | none => simp [hf'] at hf
    | some d' =>
     simp [hf'] at hf; subst hf;rw [a5k he];exact R.mono hle _ _ (h.eR t d' u hf' hn)
 ·intro t u hf hn;cases dst with
  | none =>
   simp only [fnd] at hf;cases hf':fnd t dl with
   | some d' => simp [hf'] at hf
   | none => exact R.mono hle _ _ (h.vR t u hf' hn)
  | some t' =>
   simp only [fnd] at hf;split at hf
   ·cases hf
   ·rename_i he;cases hf':fnd t dl with
    | some d' => simp [hf'] at hf
    | none => rw [a5k he]; exact R.mono hle _ _ (h.vR t u hf' hn)
def chkG (n:Nat) (dl:List (Option Nat)):Option (Nat×Bool)→Option (Nat×Bool)→Bool
 | none,none => true
 | some (j,b),some (d,b') => b == b' && j+1+d == n && (match dl[d]? with | some (some t) => fnd t dl == some d | _ => false)
 | _,_ => false
def a5z (P:Program) (N:Nat):Nat→List (Option Nat)→List Oper→List RI→Bool
 | _,_,[],[] => true
 | n,dl,o::os,i::is => chkG n dl o.guard i.g && chkI P dl o.op i.i && a7h N o.dst && a5z P N (n+1) (o.dst::dl) os is
 | _,_,_,_ => false
def dlOf:List (Option Nat)→List Oper→List (Option Nat)
 | dl,[] => dl
 | dl,o::os => dlOf (o.dst::dl) os
theorem d8p {g:G} {v:V} {b:Bool} (h:R g v (.bool b)) (hj:v≠.jk):v=.bool b:=by
 cases v<;>simp [R] at h
 ·subst h; rfl
 ·exact absurd rfl hj
theorem c4h {ds:List Deferred} {g:G} {σ:Sg} {dl:List (Option Nat)} {env:List V} {a:Act} {N n j d t:Nat} {ops:Array Oper} (h:RG ds g σ dl env a N) (hdl:∀ t∈dl,a7h N t=true)
  (hp:dl[d]?=(ops[j]?).map (·.dst)) (ht:dl[d]?=some (some t)) (hf:fnd t dl=some d) :
  ∃ v,nth d env=some v∧(v≠.jk→∀ b,(yielded ops a.tmps j=some b↔v=.bool b)):=by
 obtain ⟨v,hv⟩:=e6i (d:=d) (env:=env) (by rw [h.lenE]; exact e0u hf);refine ⟨v,hv,fun hnj b => ?_⟩;have hr:=h.eR t d v hf hv;have htN:t < a.tmps.size:=by
  have:=hdl (some t) (List.mem_of_getElem? ht);simp [a7h] at this; rw [h.sizeA]; exact this
 have hb:(ops[j]?).bind (·.dst)=some t:=by
  rw [ht] at hp;cases hoj:ops[j]? with
  | none => rw [hoj] at hp; cases hp
  | some o => rw [hoj] at hp; simp at hp; simp [hp]
 have hg:a.tmps[t]?=some (a.tmps.getD t undef):=by simp [htN]
 have hy:yielded ops a.tmps j=(match a.tmps.getD t undef with | .bool b => some b | _ => none):=by
  unfold yielded;rw [hb,Option.bind_some,hg];cases a.tmps.getD t undef<;>rfl
 rw [hy];constructor
 ·intro e;split at e
  ·rename_i b' hx;simp at e; subst e;rw [hx] at hr;exact d8p hr hnj
  ·cases e
 ·rintro rfl;simp only [R] at hr;rw [hr]
def Fr (g:G) (H:Hp) (g':G) (H':Hp):Prop:=(∀ id,H'.n≤id→g'.ι id=none)∧(∀ id,id < H.n→g'.ι id=g.ι id)∧H.n≤H'.n
theorem Fr.trans {g g' g'':G} {H H' H'':Hp} (h:Fr g H g' H') (k:Fr g' H' g'' H''):Fr g H g'' H'' :=
 ⟨k.1,fun id hid => (k.2.1 id (Nat.lt_of_lt_of_le hid h.2.2)).trans (h.2.1 id hid),Nat.le_trans h.2.2 k.2.2⟩
theorem Fr.refl {g:G} {H:Hp} (h:∀ id,H.n≤id→g.ι id=none):Fr g H g H:=⟨h,fun _ _ => rfl,Nat.le_refl _⟩
theorem b5t {P:Program} {ro:Option Nat} {de:List Deferred} {ops:Array Oper} {N:Nat} {σ:Sg} {Q:Exit→Act→World→Prop} {os2:List Oper} {rest:List Nat}:∀ (is:List RI) (os:List Oper) (n:Nat) (dl:List (Option Nat)) (env:List V) (lg:Lg) (H:Hp) (K:List V→Hp→Prop) (a:Act) (w:World) (g:G),
    ops.toList.drop n=os++os2→dl.length=n→(∀ j d,j+1+d=n→dl[d]?=(ops[j]?).map (·.dst))→(∀ t∈dl,a7h N t=true)→a5z P N n dl os is=true→evR P σ is env lg H K →
    RS g H.m w→(∀ id,H.n≤id→g.ι id=none)→RG de g σ dl env a N →
    (∀ env' H' g' a' w',K env' H'→RG de g' σ (dlOf dl os) env' a' N→RS g' H'.m w'→Fr g H g' H'→Ext g H.m w g' H'.m w'→wpOpsIn (Fw ro) 0 P ops Q rest a' w') →
    wpOpsIn (Fw ro) 0 P ops Q (List.range' n os.length++rest) a w
  | [],[],n,dl,env,lg,H,K,a,w,g,_,_,_,_,_,h,hs,hf,hr,hq => hq env H g a w h hr hs ⟨hf,fun _ _ => rfl,Nat.le_refl _⟩ (Ext.refl _ _ _)
  | i::is,o::os,n,dl,env,lg,H,K,a,w,g,hos,hn,hp,hdl,hc,h,hs,hf,hr,hq => by
    simp only [a5z,Bool.and_eq_true] at hc
    obtain ⟨⟨⟨c1,c2⟩,c3⟩,c4⟩:=hc
    have hon:ops[n]?=some o:=by
      have:ops.toList[n]?=some o:=by
        have:=congrArg (·[0]?) hos
        simpa using this
      simpa using this
    have hos':ops.toList.drop (n+1)=os++os2:=by
      have:=congrArg (List.drop 1) hos
      simpa [List.drop_drop,Nat.add_comm] using this
    have hp':∀ j d,j+1+d=n+1→(o.dst::dl)[d]?=(ops[j]?).map (·.dst):=by
      intro j d e
      cases d with
      | zero => have : j = n := by omega
                subst this; simp [hon]
      | succ d => simpa using hp j d (by omega)
    have hdl':∀ t∈o.dst::dl,a7h N t=true:=by
      intro t ht
      cases ht with
      | head => exact c3
      | tail _ ht => exact hdl t ht
    rw [show List.range' n (o::os).length++rest=n::(List.range' (n+1) os.length++rest) by simp [List.range'_succ]]
    simp only [wpOpsIn,hon]
    have run:∀ (hh:evI P (look σ env) H (fun v fp ds k => a1f i.u lg fp (ds.map (·.1))∧evR P σ is (v::env) ((fp,ds.map (·.1))::lg) ⟨H.n+k,appd ds H.m⟩ K) i.i),o.wpIn (Fw ro) 0 P a w (wpOpsIn (Fw ro) 0 P ops Q (List.range' (n+1) os.length++rest)) Q:=by
      intro hh
      obtain ⟨v,fp,ds,k,⟨_,hK⟩,hds,_,_,hgo⟩:=b1p c2 hh
      refine hgo H.m g w a (fun _ _ => rfl) (fun id h1 _ => ⟨hf id h1, ?_⟩) hs (hr.rel _) ro _ Q fun g' x w' k1 k2 k3 k4 => ?_
      · cases hm:H.m id with
        | none => rfl
        | some ob =>
          have:=hs.live id ob hm
          cases ob<;>(simp only [ORep] at this; obtain ⟨_,_,_,this⟩:=this; simp [hf id h1] at this)
      · refine b5t is os (n+1) (o.dst::dl) (v::env) _ ⟨H.n+k,appd ds H.m⟩ K _ w' g' hos' (by simp [hn]) hp' hdl' c4 hK k1 (fun id hid => ?_) (hr.put k3.le c3 k4) ?_
        · rw [k2 id (by simp only at hid; omega)]; exact hf id (by simp only at hid; omega)
        · exact fun env' H' g'' a' w'' q1 q2 q3 q4 q5 => hq env' H' g'' a' w'' q1 q2 q3 ⟨q4.1,fun id hid => (q4.2.1 id (by simp only; omega)).trans (k2 id (by omega)),by have:=q4.2.2; simp only at this; omega⟩ (k3.trans q5)
    have pass:∀ (hh:evR P σ is (.tup []::env) (([],[])::lg) H K),wpOpsIn (Fw ro) 0 P ops Q (List.range' (n+1) os.length++rest) (a.put o.dst undef) w:=by
      intro hh
      refine b5t is os (n+1) (o.dst::dl) (.tup []::env) _ H K _ w g hos' (by simp [hn]) hp' hdl' c4 hh hs hf (hr.put (.refl g) c3 (by simp [R,undef,RC])) ?_
      exact fun env' H' g'' a' w'' q1 q2 q3 q4 q5 => hq env' H' g'' a' w'' q1 q2 q3 q4 q5
    simp only [evR] at h
    unfold Region.wanted
    cases hgd:o.guard with
    | none =>
      cases hgi:i.g with
      | some p => rw [hgd,hgi] at c1; simp [chkG] at c1
      | none =>
        rw [hgi] at h
        simp only [if_true]
        exact run h
    | some jb =>
      obtain ⟨j,b⟩:=jb
      cases hgi:i.g with
      | none => rw [hgd,hgi] at c1; simp [chkG] at c1
      | some p =>
        obtain ⟨d,b'⟩:=p
        rw [hgd,hgi] at c1
        simp only [chkG,Bool.and_eq_true,beq_iff_eq] at c1
        obtain ⟨⟨rfl,hjd⟩,c1⟩:=c1
        split at c1
        · rename_i t ht
          have hft:fnd t dl=some d:=by simpa using c1
          obtain ⟨v,hv1,hv2⟩:=c4h (ops:=ops) (j:=j) (n:=n) hr hdl (hp j d hjd) ht hft
          rw [hgi] at h
          simp only [hv1] at h
          simp only
          have hnj:v≠.jk:=by rintro rfl; exact h
          replace hv2:=hv2 hnj
          by_cases hy:yielded ops a.tmps j=some b
          · have:=(hv2 b).1 hy
            subst this
            simp only [if_true] at h
            rw [if_pos (by simp [hy])]
            exact run h
          · have hne:(yielded ops a.tmps j == some b)=false:=by simpa using hy
            rw [if_neg (by simp [hne])]
            cases v<;>try exact ⟨fun _ _ => trivial,pass h⟩
            case jk => exact absurd rfl hnj
            rename_i c
            simp only at h
            have:c≠b:=fun e => hy ((hv2 b).2 (by rw [e]))
            rw [if_neg this] at h
            exact ⟨fun _ _ => trivial,pass h⟩
        · cases c1
  | [],_::_,_,_,_,_,_,_,_,_,_,_,_,_,_,h,_,_,_,_,_ => by simp [a5z] at h
  | _::_,[],_,_,_,_,_,_,_,_,_,_,_,_,_,h,_,_,_,_,_ => by simp [a5z] at h
theorem b1r {P:Program} {ro:Option Nat} {de:List Deferred} {ops:Array Oper} {N:Nat} {σ:Sg} {Q:Exit→Act→World→Prop} (is:List RI) (os:List Oper) (n:Nat) (dl:List (Option Nat)) (env:List V) (lg:Lg) (H:Hp) (K:List V→Hp→Prop) (a:Act) (w:World) (g:G)
  (h1:ops.toList.drop n=os) (h2:dl.length=n) (h3:∀ j d,j+1+d=n→dl[d]?=(ops[j]?).map (·.dst)) (h4:∀ t∈dl,a7h N t=true) (h5:a5z P N n dl os is=true) (h6:evR P σ is env lg H K)
  (h7:RS g H.m w) (h8:∀ id,H.n≤id→g.ι id=none) (h9:RG de g σ dl env a N)
  (hq:∀ env' H' g' a' w',K env' H'→RG de g' σ (dlOf dl os) env' a' N→RS g' H'.m w'→Fr g H g' H'→Ext g H.m w g' H'.m w'→Q .normal a' w') :
  wpOpsIn (Fw ro) 0 P ops Q (List.range' n os.length) a w:=by
 have:=b5t (P:=P) (ro:=ro) (de:=de) (ops:=ops) (N:=N) (σ:=σ) (Q:=Q) (os2:=[]) (rest:=[]) is os n dl env lg H K a w g (by simpa using h1) h2 h3 h4 h5 h6 h7 h8 h9 hq;simpa using this
theorem c3q {P:Program} {ops:Array Oper} {n l:Nat} {rest:List Nat} {o:Oper} {f:Operand} {args:Array Operand} {ts:Array TypeId} {a:Act} {w:World} {Q:Exit→Act→World→Prop} {Rr:Ending→World→Prop}
  (ho:ops[n]?=some o) (hg:o.guard=none) (hop:o.op=.call { callee:=.value f,args:=args,argTypes:=ts }) (hf:a.eval f=.func (.yield l) #[] #[]) (hy:YieldAt (Fw none) 0 P l (args.map a.eval) w Rr)
  (k:∀ e w',Rr e w'→∃ v,e=.returned v∧wpOpsIn (Fw none) 0 P ops Q rest (a.put o.dst v) w'):wpOpsIn (Fw none) 0 P ops Q (n::rest) a w:=by
 obtain ⟨fn,tmps,assign,body,hy1,hy2⟩:=hy;simp only [wpOpsIn,ho,Region.wanted,hg,if_true];refine ⟨fun _ _ => trivial, ?_⟩;have run:(execOp a.eval o).run P w=.ok (.round l fn tmps assign body) w:=by
  simp [execOp,hop,resolve,hf,Deferred.ofValue,invoke,callFunc,hy1]
 rw [b0q _ run (by simp) (by simp)];refine ⟨fun h => by simp [Fw,Fence.wide] at h,RoundIn.mono hy2 fun e w' he => ?_⟩;obtain ⟨v,rfl,hv⟩:=k e w' he;exact hv
structure Tr where
 v:V
 fp:List Nat
 ds:List (Nat×Option Ob)
 n:Nat
 k:Nat
 m:Hm
def appT:List Tr→Hm→Hm
 | [],m => m
 | t::ts,m => appT ts (appd t.ds m)
def sumT:List Tr→Nat
 | [] => 0
 | t::ts => t.k+sumT ts
def lgT (ts:List Tr):Lg:=ts.map fun t => (t.fp,t.ds.map (·.1))
def dom (ds:List (Nat×Option Ob)):List Nat:=ds.map (·.1)
theorem a8b:∀ {ds:List (Nat×Option Ob)} {m:Hm} {id:Nat},id∉dom ds→appd ds m id=m id
 | [],_,_,_ => rfl
 | (i,o)::ds,m,id,h => by
  simp only [dom,List.map_cons,List.mem_cons,not_or] at h;simp only [appd]; rw [a8b (by simpa [dom] using h.2)];simp [upd,h.1]
theorem a6t:∀ {ds:List (Nat×Option Ob)} {m m':Hm} {id:Nat},m id=m' id→appd ds m id=appd ds m' id
 | [],_,_,_,h => h
 | (i,o)::ds,m,m',id,h => by
  simp only [appd]; refine a6t ?_;simp only [upd]; split
  ·rfl
  ·exact h
theorem c1v:∀ {ds:List (Nat×Option Ob)} {m m':Hm} {id:Nat},id∈dom ds→appd ds m id=appd ds m' id
 | [],_,_,_,h => by cases h
 | (i,o)::ds,m,m',id,h => by
  simp only [appd];by_cases hd:id∈dom ds
  ·exact c1v hd
  ·simp only [dom,List.map_cons,List.mem_cons] at h;rcases h with rfl | h
   ·exact a6t (by simp [upd])
   ·exact absurd h hd
def mD (Ls:Nat→Bool):Nat→List Tr→Hm→Hm
 | _,[],m => m
 | j,t::ts,m => mD Ls (j+1) ts (if Ls j then appd t.ds m else m)
theorem c1q {Ls:Nat→Bool}:∀ {ts:List Tr} {j:Nat} {m m':Hm} {id:Nat},m id=m' id→mD Ls j ts m id=mD Ls j ts m' id
 | [],_,_,_,_,h => h
 | t::ts,j,m,m',id,h => by
  simp only [mD]; refine c1q ?_;split
  ·exact a6t h
  ·exact h
theorem b4g:∀ {ts:List Tr} {m m':Hm} {id:Nat},m id=m' id→appT ts m id=appT ts m' id
 | [],_,_,_,h => h
 | t::ts,m,m',id,h => by simp only [appT]; exact b4g (a6t h)
theorem d6j {Ls:Nat→Bool} {id:Nat}:∀ {ts:List Tr} {j i:Nat} {m:Hm},(∀ q t,ts[q]?=some t→id∈dom t.ds→(Ls (j+q)=true↔q < i))→mD Ls j ts m id=appT (ts.take i) m id
 | [],_,_,_,_ => by simp [mD,appT]
 | t::ts,j,0,m,h => by
  simp only [mD,List.take_zero,appT];have hrest:mD Ls (j+1) ts (if Ls j then appd t.ds m else m) id=appT (ts.take 0) (if Ls j then appd t.ds m else m) id:=d6j fun q t' hq hm => by
   have:=h (q+1) t' (by simpa using hq) hm;rw [show j+(q+1)=j+1+q by omega] at this;constructor
   ·intro e; have:=this.1 e; omega
   ·intro e; omega
  rw [hrest];simp only [List.take_zero,appT];split
  ·rename_i hL;refine a8b fun hm => ?_;have:=(h 0 t rfl hm).1 (by simpa using hL);omega
  ·rfl
 | t::ts,j,i+1,m,h => by
  simp only [mD,List.take_succ_cons,appT];have hrest:mD Ls (j+1) ts (if Ls j then appd t.ds m else m) id=appT (ts.take i) (if Ls j then appd t.ds m else m) id:=d6j fun q t' hq hm => by
   have:=h (q+1) t' (by simpa using hq) hm;rw [show j+(q+1)=j+1+q by omega] at this;rw [this]; omega
  rw [hrest];refine b4g ?_;split
  ·rfl
  ·rename_i hL;by_cases hm:id∈dom t.ds
   ·exact absurd ((h 0 t rfl hm).2 (by omega)) (by simpa using hL)
   ·rw [a8b hm]
theorem d9m {Ls Ls':Nat→Bool} {id:Nat}:∀ {ts:List Tr} {j i:Nat} {t:Tr} {m:Hm},ts[i]?=some t→Ls (j+i)=false→(∀ q,Ls' q=(if q=j+i then true else Ls q)) →
  (∀ q u,ts[q]?=some u→i < q→Ls (j+q)=true→id∈dom t.ds→id∉dom u.ds)→mD Ls' j ts m id=appd t.ds (mD Ls j ts m) id
 | [],_,_,_,_,h,_,_,_ => by simp at h
 | u::ts,j,0,t,m,h,hL,hs,hn => by
  simp at h; subst h;simp only [mD];have h1:Ls' j=true:=by rw [hs j]; simp
  have h2:Ls j=false:=by simpa using hL
  rw [h1,h2];simp only [if_true,Bool.false_eq_true,if_false];have same:∀ (ts:List Tr) (j':Nat) (m:Hm),j < j'→mD Ls' j' ts m id=mD Ls j' ts m id:=by
   intro ts; induction ts with
   | nil => intros; rfl
   | cons v ts ih =>
    intro j' m hj;simp only [mD];rw [show Ls' j'=Ls j' by rw [hs j',if_neg (by omega)]];exact ih (j'+1) _ (by omega)
  rw [same ts (j+1) _ (by omega)];by_cases hm:id∈dom u.ds
  ·
   have keep:∀ (ts':List Tr) (j':Nat) (m:Hm),(∀ q v,ts'[q]?=some v→Ls (j'+q)=true→id∉dom v.ds)→mD Ls j' ts' m id=m id:=by
    intro ts'; induction ts' with
    | nil => intros; rfl
    | cons v ts' ih =>
     intro j' m hk;simp only [mD];rw [ih (j'+1) _ (fun q v hq hl => hk (q+1) v (by simpa using hq) (by rwa [show j'+(q+1)=j'+1+q by omega]))];split
     ·rename_i hl; exact a8b (hk 0 v rfl (by simpa using hl))
     ·rfl
   have hk:∀ q v,ts[q]?=some v→Ls (j+1+q)=true→id∉dom v.ds:=fun q v hq hl => hn (q+1) v (by simpa using hq) (by omega) (by rwa [show j+(q+1)=j+1+q by omega]) hm;rw [keep ts (j+1) _ hk];exact c1v hm
  ·rw [a8b hm]; exact c1q (a8b hm)
 | u::ts,j,i+1,t,m,h,hL,hs,hn => by
  simp at h;simp only [mD];rw [show Ls' j=Ls j by rw [hs j,if_neg (by omega)]];exact d9m (j:=j+1) (i:=i) h (by rwa [show j+1+i=j+(i+1) by omega]) (fun q => by rw [hs q,show j+(i+1)=j+1+i by omega])
   (fun q v hq hlt hl hm => hn (q+1) v (by simpa using hq) (by omega) (by rwa [show j+(q+1)=j+1+q by omega]) hm)
theorem e0g {Ls:Nat→Bool}:∀ {ts:List Tr} {j:Nat} {m:Hm},(∀ q,q < ts.length→Ls (j+q)=true)→mD Ls j ts m=appT ts m
 | [],_,_,_ => rfl
 | t::ts,j,m,h => by
  simp only [mD,appT];rw [if_pos (by simpa using h 0 (by simp))];exact e0g fun q hq => by rw [show j+1+q=j+(q+1) by omega]; exact h (q+1) (by simpa using hq)
theorem d1r {Ls:Nat→Bool}:∀ {ts:List Tr} {j:Nat} {m:Hm},(∀ q,q < ts.length→Ls (j+q)=false)→mD Ls j ts m=m
 | [],_,_,_ => rfl
 | t::ts,j,m,h => by
  simp only [mD];rw [if_neg (by simpa using h 0 (by simp))];exact d1r fun q hq => by rw [show j+1+q=j+(q+1) by omega]; exact h (q+1) (by simpa using hq)
/-! ### The check -/
def a4e (o:Oper) (j:Nat):Bool:=o.after.any fun e => Region.binds .any e && e.on == j
def e3d (n:Nat) (o:Oper):Bool:=o.after.all fun e => !Region.binds .any e || decide (e.on < n)
def e4o (n:Nat) (dl:List (Option Nat)) (os:List Oper) (o:Oper):Operand→Bool
 | .tmp t => (match fnd t dl with | some d => a4e o (n - 1 - d) | none => os.all fun o' => o'.dst != some t || a4e o' n)
 | _ => true
def b1b (al:List Oper):Nat→Oper→Nat→Bool
 | 0,o,j => a4e o j
 | k+1,o,j => a4e o j || o.after.any fun e => Region.binds .any e && (match al[e.on]? with | some o' => b1b al k o' j | none => false)
def gOf (al:List Oper) (j:Nat):Option (Nat×Bool):=match al[j]? with | some o => o.guard | none => some (0,true)
def a9u (n:Nat):Src→Src→Bool
 | .r a,.r b => b == a+n
 | .v a,.v b => a == b
 | _,_ => false
def d4c (d:Nat):Ins→Ins→Bool
 | .mlk false ks (.int .i64 0) x k,.men ks' (.int .i64 0) x' k' => ks == ks' && a9u (d+1) x x' && a9u (d+1) k k'
 | _,_ => false
def c6m (pv:List Ins) (g g':Option (Nat×Bool)) (d:Nat) (i:Ins):Bool :=
 g.isNone && g'.isNone && (match pv[d]? with | some p => d4c d p i | none => false) && (pv.take d).all fun p => decide (p.kind≤1)
def c1u (al:List Oper) (n:Nat) (o:Oper) (i:RI) (pv:List Ins):Nat→List Ins→Bool
 | _,[] => true
 | d,p::ps => (b1b al 5 o (n - 1 - d) || p.kind == 0 || i.i.kind == 0 || (decide (p.kind≤1) && decide (i.i.kind≤1)) || i.u.contains d || c6m pv (gOf al (n - 1 - d)) o.guard d i.i) && c1u al n o i pv (d+1) ps
def chkD (al:List Oper):Nat→List (Option Nat)→List Ins→List Oper→List RI→Bool
 | _,_,_,[],[] => true
 | n,dl,pv,o::os,i::is => e3d n o && o.op.operands.toList.all (e4o n dl os o) && (match o.guard with | some (j,_) => a4e o j | none => true) &&
   (match o.dst with | some t => (fnd t dl).isNone | none => true) && c1u al n o i pv 0 pv && chkD al (n+1) (o.dst::dl) (i.i::pv) os is
 | _,_,_,_,_ => false
theorem b3h {ts:List Tr} {i:Nat} {t:Tr} (h:ts[i]?=some t):sumT (ts.take (i+1))=sumT (ts.take i)+t.k:=by
 induction ts generalizing i with
 | nil => simp at h
 | cons u ts ih =>
  cases i with
  | zero => simp at h; subst h; simp [sumT]
  | succ i => simp at h; simp [sumT,ih h]; omega
theorem b1f {ts:List Tr} {i j:Nat} (h:i≤j):sumT (ts.take i)≤sumT (ts.take j):=by
 induction ts generalizing i j with
 | nil => simp [sumT]
 | cons u ts ih =>
  cases i with
  | zero => simp [sumT]
  | succ i =>
   cases j with
   | zero => omega
   | succ j => simp [sumT]; exact ih (by omega)
def d6v (L:Src→Option V) (H:Hp) (i:Ins) (v:V) (fp:List Nat) (ds:List (Nat×Option Ob)) (k:Nat):Prop :=
 (∀ ks x kx,i=.mlk false ks (.int .i64 0) x kx→∃ id l kk,L x=some (.map id)∧L kx=some kk∧H.m id=some (.mp l)∧a3r ks kk l∧v=(mget l kk).getD (.int .i64 0)∧fp=[id]∧ds=[]∧k=0) ∧
 (∀ ks x kx,i=.men ks (.int .i64 0) x kx→∃ id l kk,L x=some (.map id)∧L kx=some kk∧H.m id=some (.mp l)∧ds=[(id,some (.mp (mset l kk ((mget l kk).getD (.int .i64 0)))))])
theorem d6x {P:Program} {L:Src→Option V} {H:Hp} {K:KI} {i:Ins} (h:evI P L H K i):evI P L H (fun v fp ds k => K v fp ds k∧d6v L H i v fp ds k) i:=by
 have same:(∀ v fp ds k,d6v L H i v fp ds k)→evI P L H (fun v fp ds k => K v fp ds k∧d6v L H i v fp ds k) i:=fun hs => by
  have:(fun v fp ds k => K v fp ds k∧d6v L H i v fp ds k)=K:=by
   funext v fp ds k; exact propext ⟨fun a => a.1,fun a => ⟨a,hs v fp ds k⟩⟩
  rw [this]; exact h
 cases i
 case mlk ok ks z x kx =>
  simp only [evI] at h ⊢; obtain ⟨u,e1,hA⟩:=a0f h; obtain ⟨kk,e2,hB⟩:=a0f hA;rw [e1]; simp only [wv]; rw [e2]; simp only [wv];cases u<;>try exact hB.elim
  rename_i id;cases ho:H.m id with
  | none => simp [ho] at hB
  | some o =>
   cases o with
   | arr sz l | md c bs l | it d c ss => simp [ho] at hB
   | mp l =>
    simp only [ho] at hB ⊢;refine ⟨hB.1,hB.2,fun ks' x' kx' e => ?_,fun _ _ _ e => by cases e⟩;simp only [Ins.mlk.injEq] at e;obtain ⟨rfl,rfl,rfl,rfl,rfl⟩:=e;exact ⟨id,l,kk,e1,e2,ho,hB.1,rfl,rfl,rfl,rfl⟩
 case men ks z x kx =>
  simp only [evI] at h ⊢; obtain ⟨u,e1,hA⟩:=a0f h; obtain ⟨kk,e2,hB⟩:=a0f hA;rw [e1]; simp only [wv]; rw [e2]; simp only [wv];cases u<;>try exact hB.elim
  rename_i id;cases ho:H.m id with
  | none => simp [ho] at hB
  | some o =>
   cases o with
   | arr sz l | md c bs l | it d c ss => simp [ho] at hB
   | mp l =>
    simp only [ho] at hB ⊢;refine ⟨hB.1,hB.2,fun _ _ _ e => (by cases e),fun ks' x' kx' e => ?_⟩;simp only [Ins.men.injEq] at e;obtain ⟨rfl,rfl,rfl,rfl⟩:=e;exact ⟨id,l,kk,e1,e2,ho,rfl⟩
 all_goals exact same fun v fp ds k => ⟨fun _ _ _ e => (by cases e),fun _ _ _ e => (by cases e)⟩
structure Step (P:Program) (σ:Sg) (ops:Array Oper) (N:Nat) (dl:List (Option Nat)) (env:List V) (lg:Lg) (m0:Hm) (n0:Nat) (o:Oper) (r:RI) (t:Tr):Prop where
 m:t.m=m0
 n:t.n=n0
 comp:a1f r.u lg t.fp (dom t.ds)
 nj:∀ d b,r.g=some (d,b)→nth d env≠some .jk
 new:∀ p∈t.ds,p.1∈t.fp∨(t.n≤p.1∧p.1 < t.n+t.k)
 k0:r.i.kind=0→t.fp=[]∧t.ds=[]∧t.k=0
 k1:r.i.kind≤1→t.ds=[]∧t.k=0
 go:∀ m g w a,(∀ id∈t.fp,m id=t.m id)→c9u g m t.n t.k→RS g m w→Rel dl (look σ env) o.op.operands.toList g a →
  (∀ j b,o.guard=some (j,b)→∃ d,r.g=some (d,b)∧∀ c,yielded ops a.tmps j=some c↔nth d env=some (.bool c)) →
  ∀ (ro:Option Nat) (Kc:Act→World→Prop) (Q:Exit→Act→World→Prop),
   (∀ g' x w',RS g' (appd t.ds m) w'→IExt g g' t.n t.k→Ext g m w g' (appd t.ds m) w'→R g' t.v x→Kc (a.put o.dst x) w') →
   if Region.wanted o (yielded ops a.tmps) then o.wpIn (Fw ro) 0 P a w Kc Q else (∀ f,o.about P w a.eval=some f→(Fw ro).fn f)∧Kc (a.put o.dst undef) w
 soft:∀ ks x k,o.guard=none→r.i=.mlk false ks (.int .i64 0) x k→∃ id l kk,look σ env x=some (.map id)∧look σ env k=some kk∧m0 id=some (.mp l)∧t.fp=[id] ∧
  ∀ m g w a,m id=some (.mp (mset l kk ((mget l kk).getD (.int .i64 0))))→c9u g m t.n t.k→RS g m w→Rel dl (look σ env) o.op.operands.toList g a →
   ∀ (ro:Option Nat) (Kc:Act→World→Prop) (Q:Exit→Act→World→Prop),
    (∀ g' x w',RS g' (appd t.ds m) w'→IExt g g' t.n t.k→Ext g m w g' (appd t.ds m) w'→R g' t.v x→Kc (a.put o.dst x) w')→o.wpIn (Fw ro) 0 P a w Kc Q
 ent:∀ ks x k,o.guard=none→r.i=.men ks (.int .i64 0) x k→∃ id l kk,look σ env x=some (.map id)∧look σ env k=some kk∧m0 id=some (.mp l)∧t.ds=[(id,some (.mp (mset l kk ((mget l kk).getD (.int .i64 0)))))]
def envT (ts:List Tr) (env:List V):List V:=(ts.map (·.v)).reverse++env
def dlT (os:List Oper) (dl:List (Option Nat)):List (Option Nat):=(os.map (·.dst)).reverse++dl
theorem e5y {P:Program} {σ:Sg} {ops:Array Oper} {N:Nat}:∀ {os:List Oper} {is:List RI} {n:Nat} {dl:List (Option Nat)} {env:List V} {lg:Lg} {H:Hp} {K:List V→Hp→Prop},
    a5z P N n dl os is=true→evR P σ is env lg H K →
    ∃ ts:List Tr,ts.length=os.length∧K (envT ts env) ⟨H.n+sumT ts,appT ts H.m⟩ ∧
      ∀ i o r t,os[i]?=some o→is[i]?=some r→ts[i]?=some t →
        Step P σ ops N (dlT (os.take i) dl) (envT (ts.take i) env) ((lgT (ts.take i)).reverse++lg) (appT (ts.take i) H.m) (H.n+sumT (ts.take i)) o r t
  | [],[],n,dl,env,lg,H,K,_,h => ⟨[],rfl,by simpa [envT,sumT,appT,evR] using h,by simp⟩
  | o::os,r::is,n,dl,env,lg,H,K,hc,h => by
    simp only [a5z,Bool.and_eq_true] at hc
    obtain ⟨⟨⟨c1,c2⟩,c3⟩,c4⟩:=hc
    simp only [evR] at h
    have ex:∃ t:Tr,evR P σ is (t.v::env) ((t.fp,dom t.ds)::lg) ⟨H.n+t.k,appd t.ds H.m⟩ K∧Step P σ ops N dl env lg H.m H.n o r t:=by
      have runs:evI P (look σ env) H (fun v fp ds k => a1f r.u lg fp (ds.map (·.1))∧evR P σ is (v::env) ((fp,ds.map (·.1))::lg) ⟨H.n+k,appd ds H.m⟩ K) r.i →
          (∀ j b,o.guard=some (j,b)→∃ d,r.g=some (d,b)∧nth d env=some (.bool b)) →
          ∃ t:Tr,evR P σ is (t.v::env) ((t.fp,dom t.ds)::lg) ⟨H.n+t.k,appd t.ds H.m⟩ K∧Step P σ ops N dl env lg H.m H.n o r t:=by
        intro hh hgu
        obtain ⟨v,fp,ds,k,⟨⟨hcomp,hK⟩,hsp⟩,hds,hk0,hk1,hgo⟩:=b1p c2 (d6x hh)
        refine ⟨⟨v,fp,ds,H.n,k,H.m⟩,hK,⟨rfl,rfl,hcomp,fun d b e => by
          cases hgd:o.guard with
          | none => rw [hgd,e] at c1; simp [chkG] at c1
          | some jb =>
            obtain ⟨j,b'⟩:=jb
            obtain ⟨d',e3,e4⟩:=hgu j b' hgd
            rw [e] at e3; simp at e3; obtain ⟨rfl,rfl⟩:=e3
            rw [e4]; simp,hds,hk0,hk1,fun m g w a ha hf hs hr hg ro Kc Q hk => ?_,fun ks x kx _ e => ?_,fun ks x kx _ e => hsp.2 ks x kx e⟩⟩
        case refine_2 =>
          obtain ⟨id,l,kk,q1,q2,q3,q4,rfl,rfl,rfl,rfl⟩:=hsp.1 ks x kx e
          refine ⟨id,l,kk,q1,q2,q3,rfl,fun m g w a hm hf hs hr ro Kc Q hk => ?_⟩
          have hks:keq kk kk=true:=d7q q4.1
          have hh2:evI P (look σ env) ⟨H.n,upd H.m id (some (.mp (mset l kk ((mget l kk).getD (.int .i64 0)))))⟩ (fun v' fp' ds' k' => v'=(mget l kk).getD (.int .i64 0)∧fp'=[id]∧ds'=[]∧k'=0) r.i:=by
            rw [e]
            simp only [evI,q1,q2,wv,upd,if_true]
            exact ⟨b9t q4,by rw [a7o hks]; rfl,trivial,trivial,trivial⟩
          obtain ⟨v',fp',ds',k',⟨rfl,rfl,rfl,rfl⟩,_,_,_,go2⟩:=b1p c2 hh2
          exact go2 m g w a (fun i hi => by simp at hi; subst hi; simp [upd,hm]) hf hs hr ro Kc Q hk
        have hw:Region.wanted o (yielded ops a.tmps)=true:=by
          unfold Region.wanted
          cases hgd:o.guard with
          | none => rfl
          | some jb =>
            obtain ⟨j,b⟩:=jb
            obtain ⟨d,e1,e2⟩:=hg j b hgd
            obtain ⟨d',e3,e4⟩:=hgu j b hgd
            rw [e1] at e3; simp at e3; subst e3
            simp [(e2 b).2 e4]
        rw [if_pos hw]
        exact hgo m g w a ha hf hs hr ro Kc Q hk
      have passes:evR P σ is (.tup []::env) (([],[])::lg) H K→(∃ j b d,o.guard=some (j,b)∧r.g=some (d,b)∧nth d env≠some (.bool b)∧nth d env≠some .jk) →
          ∃ t:Tr,evR P σ is (t.v::env) ((t.fp,dom t.ds)::lg) ⟨H.n+t.k,appd t.ds H.m⟩ K∧Step P σ ops N dl env lg H.m H.n o r t:=by
        rintro hh ⟨j,b,d,hg1,hg2,hg3,hg4⟩
        refine ⟨⟨.tup [],[],[],H.n,0,H.m⟩,hh,⟨rfl,rfl,fun j hj => by simp [disj,dom],fun d' b' e => by rw [hg2] at e; simp at e; obtain ⟨rfl,rfl⟩:=e; exact hg4,by simp,by simp,by simp,fun m g w a ha hf hs hr hg ro Kc Q hk => ?_,fun _ _ _ e => (by rw [hg1] at e; cases e),fun _ _ _ e => (by rw [hg1] at e; cases e)⟩⟩
        obtain ⟨d',e1,e2⟩:=hg j b hg1
        rw [e1] at hg2; simp at hg2; subst hg2
        have hw:¬ Region.wanted o (yielded ops a.tmps)=true:=by
          unfold Region.wanted
          rw [hg1]
          simp only [beq_iff_eq]
          exact fun e => hg3 ((e2 b).1 e)
        rw [if_neg hw]
        exact ⟨fun _ _ => trivial,hk g undef w hs (fun _ _ => rfl) (Ext.refl _ _ _) (by simp [R,undef,RC])⟩
      cases hgd:o.guard with
      | none =>
        cases hgi:r.g with
        | some p => rw [hgd,hgi] at c1; simp [chkG] at c1
        | none =>
          rw [hgi] at h
          exact runs h (by simp [hgd])
      | some jb =>
        obtain ⟨j,b⟩:=jb
        cases hgi:r.g with
        | none => rw [hgd,hgi] at c1; simp [chkG] at c1
        | some p =>
          obtain ⟨d,b'⟩:=p
          have hb:b=b':=by rw [hgd,hgi] at c1; simp only [chkG,Bool.and_eq_true,beq_iff_eq] at c1; exact c1.1.1
          subst hb
          rw [hgi] at h
          simp only at h
          cases hv:nth d env with
          | none => rw [hv] at h; exact passes h ⟨j,b,d,hgd,hgi,by simp [hv],by simp [hv]⟩
          | some v =>
            rw [hv] at h
            by_cases hvb:v=.bool b
            · subst hvb
              simp only [if_true] at h
              exact runs h (fun j' b' e => by rw [hgd] at e; simp at e; obtain ⟨rfl,rfl⟩:=e; exact ⟨d,hgi,hv⟩)
            · cases v<;>try exact passes h ⟨j,b,d,hgd,hgi,by rw [hv]; simp,by rw [hv]; simp⟩
              case jk => exact h.elim
              rename_i c
              simp only at h
              have hcb:c≠b:=fun e => hvb (by rw [e])
              rw [if_neg hcb] at h
              exact passes h ⟨j,b,d,hgd,hgi,by rw [hv]; simpa using hcb,by rw [hv]; simp⟩
    obtain ⟨t,hK,hst⟩:=ex
    obtain ⟨ts,l1,l2,l3⟩:=e5y (ops:=ops) c4 hK
    refine ⟨t::ts,by simp [l1], ?_, ?_⟩
    · simpa [envT,sumT,appT,Nat.add_assoc] using l2
    · intro i o' r' t' h1 h2 h3
      cases i with
      | zero =>
        simp at h1 h2 h3; subst h1; subst h2; subst h3
        simpa [dlT,envT,lgT,appT,sumT] using hst
      | succ i =>
        simp at h1 h2 h3
        have:=l3 i o' r' t' h1 h2 h3
        simpa [dlT,envT,lgT,appT,sumT,Nat.add_assoc,dom] using this
  | [],_::_,_,_,_,_,_,_,h,_ => by simp [a5z] at h
  | _::_,[],_,_,_,_,_,_,h,_ => by simp [a5z] at h
structure SoftP (os:List Oper) (is:List RI) (i:Nat) (o:Oper) (r:RI) (j:Nat) (r':RI):Prop where
 go:o.guard=none
 gj:∀ o',os[j]?=some o'→o'.guard=none
 ex:∃ ks x k x' k',r'.i=.mlk false ks (.int .i64 0) x k∧r.i=.men ks (.int .i64 0) x' k'∧a9u (i - j) x x'=true∧a9u (i - j) k k'=true
 read:∀ q r2,j < q→q < i→is[q]?=some r2→r2.i.kind≤1
structure DOk (ops:Array Oper) (os:List Oper) (is:List RI) (i:Nat) (o:Oper) (r:RI):Prop where
 edges:∀ e∈o.after,Region.binds .any e=true→e.on < i
 opd:∀ t,.tmp t∈o.op.operands.toList→(∀ d,fnd t (dlT (os.take i) [])=some d→a4e o (i - 1 - d)=true) ∧
  (fnd t (dlT (os.take i) [])=none→∀ j o',i < j→os[j]?=some o'→o'.dst=some t→a4e o' i=true)
 guard:∀ j b,o.guard=some (j,b)→a4e o j=true
 dst:∀ t,o.dst=some t→fnd t (dlT (os.take i) [])=none
 conf:∀ j r',j < i→is[j]?=some r'→b1b os 5 o j=true∨r'.i.kind=0∨r.i.kind=0∨(r'.i.kind≤1∧r.i.kind≤1)∨(i - 1 - j)∈r.u∨SoftP os is i o r j r'
theorem c9a {d:Nat} {p i:Ins} (h:d4c d p i=true):∃ ks x k x' k',p=.mlk false ks (.int .i64 0) x k∧i=.men ks (.int .i64 0) x' k'∧a9u (d+1) x x'=true∧a9u (d+1) k k'=true:=by
 unfold d4c at h;split at h
 ·rename_i ks x k ks' x' k';simp only [Bool.and_eq_true,beq_iff_eq] at h;obtain ⟨⟨rfl,h1⟩,h2⟩:=h;exact ⟨_,_,_,_,_,rfl,rfl,h1,h2⟩
 ·cases h
theorem b1g {al:List Oper} {n:Nat} {o:Oper} {r:RI} {pv0:List Ins}:∀ {pv:List Ins} {d:Nat},c1u al n o r pv0 d pv=true→∀ q p,pv[q]?=some p →
  b1b al 5 o (n - 1 - (d+q))=true∨p.kind=0∨r.i.kind=0∨(p.kind≤1∧r.i.kind≤1)∨(d+q)∈r.u∨c6m pv0 (gOf al (n - 1 - (d+q))) o.guard (d+q) r.i=true
 | [],_,_,q,p,h => by simp at h
 | p::ps,d,h,q,p',hq => by
  simp only [c1u,Bool.and_eq_true,Bool.or_eq_true,beq_iff_eq,decide_eq_true_eq] at h;cases q with
  | zero =>
   simp at hq; subst hq;have hu:r.u.contains d=true→d∈r.u:=by simp
   rcases h.1 with ((((h1 | h1) | h1) | h1) | h1) | h1
   ·exact .inl h1
   ·exact .inr (.inl h1)
   ·exact .inr (.inr (.inl h1))
   ·exact .inr (.inr (.inr (.inl h1)))
   ·exact .inr (.inr (.inr (.inr (.inl (hu h1)))))
   ·exact .inr (.inr (.inr (.inr (.inr h1))))
  | succ q =>
   simp at hq;have:=b1g h.2 q p' hq;rwa [show d+1+q=d+(q+1) by omega] at this
theorem b7t {ops:Array Oper} {os0:List Oper} {is0:List RI}:∀ {os:List Oper} {is:List RI} {n:Nat} {dl:List (Option Nat)} {pv:List Ins},chkD os0 n dl pv os is=true→os0.drop n=os→is0.drop n=is→dl=dlT (os0.take n) [] →
  pv=((is0.take n).map (·.i)).reverse→n≤is0.length→∀ i o r,n≤i→os0[i]?=some o→is0[i]?=some r→DOk ops os0 is0 i o r
 | [],[],n,dl,pv,_,h1,h2,_,_,_,i,o,r,hi,ho,_ => by
  have:os0.length≤n:=by
   have:=congrArg List.length h1; simp at this; omega
  have:=(List.getElem?_eq_some_iff.1 ho).1;omega
 | o::os,r::is,n,dl,pv,h,h1,h2,h3,h4,h5,i,o',r',hi,ho,hr => by
  simp only [chkD,Bool.and_eq_true] at h;obtain ⟨⟨⟨⟨⟨c1,c2⟩,c3⟩,c4⟩,c5⟩,c6⟩:=h;have hon:os0[n]?=some o:=by
   have:=congrArg (·[0]?) h1; simp only [List.getElem?_drop] at this; simpa using this
  have hrn:is0[n]?=some r:=by
   have:=congrArg (·[0]?) h2; simp only [List.getElem?_drop] at this; simpa using this
  by_cases hin:i=n
  ·subst hin;rw [hon] at ho; simp at ho; subst ho;rw [hrn] at hr; simp at hr; subst hr;refine ⟨?_, ?_, ?_, ?_, ?_⟩
   ·intro e he hb;have:=(Array.all_eq_true_iff_forall_mem.1 c1) e he;simpa [hb] using this
   ·intro t ht;have:=List.all_eq_true.1 c2 _ ht;rw [h3] at this;simp only [e4o] at this;constructor
    ·intro d hd; rw [hd] at this; exact this
    ·intro hd j o' hj hoj hdst;rw [hd] at this;simp only at this;have hm:o'∈os:=by
      have:os[j - i - 1]?=some o':=by
       have:=congrArg (·[j - i]?) h1;simp only [List.getElem?_drop] at this;rw [show i+(j - i)=j by omega,hoj] at this;rw [show j - i=(j - i - 1)+1 by omega] at this;simpa using this.symm
      exact List.mem_of_getElem? this
     have:=List.all_eq_true.1 this _ hm;simpa [hdst] using this
   ·intro j b hg; rw [hg] at c3; exact c3
   ·intro t ht; rw [ht,h3] at c4; simpa using c4
   ·intro j r2 hj hr2;have hq:pv[i - 1 - j]?=some r2.i:=by
     rw [h4,List.getElem?_reverse (by simp; omega)];simp only [List.length_map,List.length_take,List.getElem?_map];rw [show min i is0.length - 1 - (i - 1 - j)=j by omega,List.getElem?_take_of_lt hj,hr2]; rfl
    have hil:i≤is0.length:=h5;have:=b1g c5 _ _ hq;rw [Nat.zero_add,show i - 1 - (i - 1 - j)=j by omega] at this;rcases this with h | h | h | h | h | h
    ·exact .inl h
    ·exact .inr (.inl h)
    ·exact .inr (.inr (.inl h))
    ·exact .inr (.inr (.inr (.inl h)))
    ·exact .inr (.inr (.inr (.inr (.inl h))))
    ·refine .inr (.inr (.inr (.inr (.inr ?_))));unfold c6m at h;simp only [Bool.and_eq_true,Option.isNone_iff_eq_none] at h;obtain ⟨⟨⟨s1,s2⟩,s3⟩,s4⟩:=h;rw [hq] at s3;simp only at s3;obtain ⟨ks,x,k,x',k',e1,e2,e3,e4⟩:=c9a s3;rw [show i - 1 - j+1=i - j by omega] at e3 e4;refine ⟨s2,fun o' ho' => by unfold gOf at s1; rw [ho'] at s1; exact s1,⟨ks,x,k,x',k',e1,e2,e3,e4⟩,fun q r3 hjq hqi hr3 => ?_⟩;have hq3:pv[i - 1 - q]?=some r3.i:=by
      rw [h4,List.getElem?_reverse (by simp; omega)];simp only [List.length_map,List.length_take,List.getElem?_map];rw [show min i is0.length - 1 - (i - 1 - q)=q by omega,List.getElem?_take_of_lt hqi,hr3]; rfl
     have hm:r3.i∈pv.take (i - 1 - j):=by
      refine List.mem_of_getElem? (i:=i - 1 - q) ?_;rw [List.getElem?_take_of_lt (by omega)]; exact hq3
     have:=List.all_eq_true.1 s4 _ hm;simpa using this
  ·have hnl:n < is0.length:=(List.getElem?_eq_some_iff.1 hrn).1;refine b7t c6 ?_ ?_ ?_ ?_ (by omega) i o' r' (by omega) ho hr
   ·simpa [List.drop_drop,Nat.add_comm] using congrArg (List.drop 1) h1
   ·simpa [List.drop_drop,Nat.add_comm] using congrArg (List.drop 1) h2
   ·rw [h3]; simp only [dlT,List.append_nil];rw [List.take_add_one,hon]; simp
   ·rw [h4,List.take_add_one,hrn]; simp
 | [],_::_,_,_,_,h,_,_,_,_,_,_,_,_,_,_,_ => by simp [chkD] at h
 | _::_,[],_,_,_,h,_,_,_,_,_,_,_,_,_,_,_ => by simp [chkD] at h
theorem c1s {t d:Nat} {os:List Oper} (h:fnd t (dlT os [])=some d):∃ o,os[os.length - 1 - d]?=some o∧o.dst=some t∧d < os.length:=by
 have hd:=e0u h;simp only [dlT,List.append_nil,List.length_reverse,List.length_map] at hd;have key:∀ (dl:List (Option Nat)) d,fnd t dl=some d→dl[d]?=some (some t):=by
  intro dl; induction dl with
  | nil => intro d h; simp [fnd] at h
  | cons o dl ih =>
   intro d h;cases o with
   | none =>
    simp only [fnd] at h;cases hf:fnd t dl with
    | none => simp [hf] at h
    | some d' => simp [hf] at h; subst h; simpa using ih d' hf
   | some t' =>
    simp only [fnd] at h;split at h
    ·rename_i e; subst e; simp at h; subst h; rfl
    ·cases hf:fnd t dl with
     | none => simp [hf] at h
     | some d' => simp [hf] at h; subst h; simpa using ih d' hf
 have h1:=key _ _ h;simp only [dlT,List.append_nil] at h1;rw [List.getElem?_reverse (by simpa using hd)] at h1;simp only [List.length_map,List.getElem?_map] at h1;cases ho:os[os.length - 1 - d]? with
 | none => rw [ho] at h1; cases h1
 | some o => rw [ho] at h1; simp at h1; exact ⟨o,rfl,h1,hd⟩
theorem b0j {t:Nat} {os:List Oper} (h:fnd t (dlT os [])=none):∀ (j:Nat) o,os[j]?=some o→o.dst≠some t:=by
 intro j o ho e;have hm:some t∈dlT os []:=by
  simp only [dlT,List.append_nil,List.mem_reverse,List.mem_map];exact ⟨o,List.mem_of_getElem? ho,e⟩
 have key:∀ dl:List (Option Nat),some t∈dl→fnd t dl≠none:=by
  intro dl; induction dl with
  | nil => intro h; cases h
  | cons o dl ih =>
   intro h;cases o with
   | none => simp only [fnd]; cases h with
    | tail _ h => simpa using ih h
   | some t' =>
    simp only [fnd]; split
    ·simp
    ·rename_i hne;cases h with
     | head => exact absurd rfl hne
     | tail _ h => simpa using ih h
 exact key _ hm h
theorem d4l {ts:List Tr} {j:Nat} {t:Tr} (h:ts[j]?=some t):nth (ts.length - 1 - j) (envT ts [])=some t.v:=by
 have hj:=(List.getElem?_eq_some_iff.1 h).1;have key:∀ (l:List V) q,nth q l=l[q]?:=by
  intro l; induction l with
  | nil => intro q; cases q<;>rfl
  | cons v l ih => intro q; cases q with
   | zero => rfl
   | succ q => show nth q l=_; simpa using ih q
 rw [key];simp only [envT,List.append_nil];rw [List.getElem?_reverse (by simp; omega)];simp only [List.length_map,List.getElem?_map];rw [show ts.length - 1 - (ts.length - 1 - j)=j by omega,h]; rfl
structure DInv (de:List Deferred) (ops:Array Oper) (σ:Sg) (N:Nat) (ts:List Tr) (H:Hp) (g0:G) (w0:World) (Ls:Nat→Bool) (g:G) (a:Act) (w:World):Prop where
 rs:RS g (mD Ls 0 ts H.m) w
 fresh:∀ id p,g.ι id=some p→id < H.n∨∃ j t,Ls j=true∧ts[j]?=some t∧t.n≤id∧id < t.n+t.k
 vals:∀ j (o:Oper) t d,Ls j=true→ops[j]?=some o→ts[j]?=some t→o.dst=some d→R g t.v (a.tmps.getD d undef)
 vars:∀ t v,find t σ=some v→(∀ j (o:Oper),Ls j=true→ops[j]?=some o→o.dst≠some t)→R g v (a.tmps.getD t undef)
 ext:Ext g0 H.m w0 g (mD Ls 0 ts H.m) w
 sizeA:a.tmps.size=N
 defs:a.defers=de
 down:∀ j (o:Oper),Ls j=true→ops[j]?=some o→∀ e∈o.after,Region.binds .any e=true→Ls e.on=true
 low:∀ id,id < H.n→g.ι id=g0.ι id
theorem a4p {o:Oper} {j:Nat} (h:a4e o j=true):∃ e∈o.after,Region.binds .any e=true∧e.on=j:=by
 unfold a4e at h;obtain ⟨i,hi,h⟩:=Array.any_eq_true.1 h;simp only [Bool.and_eq_true,beq_iff_eq] at h;exact ⟨_,Array.getElem_mem hi,h⟩
theorem b0n {a b:List Nat} (h:disj a b=true) {x:Nat} (hx:x∈a):x∉b:=by
 unfold disj at h;have:=List.all_eq_true.1 h x hx;simpa using this
theorem e4y {ts:List Tr} {i j:Nat} {t:Tr} (hj:j < i) (hi:i≤ts.length) (h:ts[j]?=some t):nthL (i - 1 - j) ((lgT (ts.take i)).reverse++[])=(t.fp,dom t.ds):=by
 have key:∀ (l:Lg) q p,l[q]?=some p→nthL q l=p:=by
  intro l; induction l with
  | nil => intro q p h; simp at h
  | cons v l ih => intro q p h; cases q with
   | zero => simp at h; subst h; rfl
   | succ q => exact ih q p (by simpa using h)
 refine key _ _ _ ?_;rw [List.append_nil,List.getElem?_reverse (by simp [lgT]; omega)];simp only [lgT,List.length_map,List.length_take,List.getElem?_map];rw [show min i ts.length - 1 - (i - 1 - j)=j by omega,List.getElem?_take_of_lt hj,h]; rfl
theorem b1j:∀ {ts:List Tr} {t:Tr} {m:Hm},appT (ts++[t]) m=appd t.ds (appT ts m)
 | [],_,_ => rfl
 | _::ts,t,m => b1j (ts:=ts)
theorem b5g {ts:List Tr} {m:Hm} {i:Nat}:∀ {q:Nat},i≤q→q≤ts.length→(∀ j u,i≤j→j < q→ts[j]?=some u→u.ds=[])→appT (ts.take q) m=appT (ts.take i) m
 | 0,h,_,_ => by rw [show i=0 by omega]
 | q+1,h,hl,hs => by
  by_cases e:i=q+1
  ·rw [e]
  ·rw [List.take_succ_eq_append_getElem (by omega),b1j,hs q _ (by omega) (by omega) (List.getElem?_eq_getElem (by omega))];exact b5g (by omega) (by omega) fun j u h1 h2 => hs j u h1 (by omega)
theorem b4o {σ:Sg} {ts:List Tr} {i q:Nat} {x x':Src} (h:i≤q) (hl:q≤ts.length) (hs:a9u (q - i) x x'=true):look σ (envT (ts.take i) []) x=look σ (envT (ts.take q) []) x':=by
 have nthG:∀ (l:List V) k,nth k l=l[k]?:=by
  intro l; induction l with
  | nil => intro k; cases k<;>rfl
  | cons v l ih => intro k; cases k with
   | zero => rfl
   | succ k => show nth k l=_; simpa using ih k
 unfold a9u at hs;split at hs
 ·rename_i a b;simp only [beq_iff_eq] at hs; subst hs;simp only [look,nthG,envT,List.append_nil];have e:ts.take q=ts.take i++(ts.drop i).take (q - i):=by
   rw [show q=i+(q - i) by omega,List.take_add]; simp
  rw [e,List.map_append,List.reverse_append,List.getElem?_append_right (by simp; omega)];congr 1;simp; omega
 ·simp only [beq_iff_eq] at hs; subst hs; rfl
 ·cases hs
theorem DInv.step {P:Program} {ro:Option Nat} {de:List Deferred} {ops:Array Oper} {is:List RI} {σ:Sg} {N:Nat} {ts:List Tr} {H:Hp} {g0:G} {w0:World} {Ls:Nat→Bool} {g:G} {a:Act} {w:World} {Q:Exit→Act→World→Prop} {Kc:Act→World→Prop}
    (hlen:ts.length=ops.toList.length) (hils:is.length=ops.toList.length)
    (hsteps:∀ (i:Nat) o r t,ops.toList[i]?=some o→is[i]?=some r→ts[i]?=some t→Step P σ ops N (dlT (ops.toList.take i) []) (envT (ts.take i) []) ((lgT (ts.take i)).reverse++[]) (appT (ts.take i) H.m) (H.n+sumT (ts.take i)) o r t)
    (hok:∀ (i:Nat) o r,ops.toList[i]?=some o→is[i]?=some r→DOk ops ops.toList is i o r)
    (hgs:∀ (i:Nat) o r,ops.toList[i]?=some o→is[i]?=some r→chkG i (dlT (ops.toList.take i) []) o.guard r.g=true) (hdN:∀ o∈ops.toList,a7h N o.dst=true)
    (h:DInv de ops σ N ts H g0 w0 Ls g a w) {i:Nat} {o:Oper} (ho:ops[i]?=some o) (hLi:Ls i=false) (hready:∀ e∈o.after,Region.binds .any e=true→Ls e.on=true)
    (hk:∀ Ls' g' a' w',(∀ q,Ls' q=(if q=i then true else Ls q))→DInv de ops σ N ts H g0 w0 Ls' g' a' w'→Kc a' w'):wpOpIn (Fw ro) 0 P ops Q i Kc a w:=by
  have hol:ops.toList[i]?=some o:=by simpa using ho
  have hio:i < ops.toList.length:=(List.getElem?_eq_some_iff.1 hol).1
  obtain ⟨r,hr⟩:∃ r,is[i]?=some r:=⟨_,List.getElem?_eq_getElem (by omega)⟩
  obtain ⟨t,ht⟩:∃ t,ts[i]?=some t:=⟨_,List.getElem?_eq_getElem (by omega)⟩
  have st:=hsteps i o r t hol hr ht
  have ok:=hok i o r hol hr
  have listed:∀ j,a4e o j=true→Ls j=true:=fun j hj => by
    obtain ⟨e,he,hb,rfl⟩:=a4p hj; exact hready e he hb
  have listedT:∀ (k:Nat) (o':Oper),(∀ e∈o'.after,Region.binds .any e=true→Ls e.on=true)→∀ j,b1b ops.toList k o' j=true→Ls j=true:=by
    intro k
    induction k with
    | zero => intro o' h1 j hj; simp only [b1b] at hj; obtain ⟨e,he,hb,rfl⟩:=a4p hj; exact h1 e he hb
    | succ k ih =>
      intro o' h1 j hj
      simp only [b1b,Bool.or_eq_true] at hj
      rcases hj with hj | hj
      · obtain ⟨e,he,hb,rfl⟩:=a4p hj; exact h1 e he hb
      · obtain ⟨q,hq,hj⟩:=Array.any_eq_true.1 hj
        simp only [Bool.and_eq_true] at hj
        obtain ⟨hb,hj⟩:=hj
        have hL:=h1 _ (Array.getElem_mem hq) hb
        split at hj
        · rename_i o2 ho2
          exact ih o2 (h.down _ o2 hL (by simpa using ho2)) j hj
        · cases hj
  have order0:∀ q u id,ts[q]?=some u→id∈dom u.ds→(id∈t.fp∨id∈dom t.ds)→q≠i→(∃ o2 r2,i < q∧ops.toList[q]?=some o2∧is[q]?=some r2∧SoftP ops.toList is q o2 r2 i r)∨(Ls q=true↔q < i):=by
    intro q u id hq hu hid hne
    have hql:q < ops.toList.length:=by have:=(List.getElem?_eq_some_iff.1 hq).1; omega
    obtain ⟨o2,ho2⟩:∃ o2,ops.toList[q]?=some o2:=⟨_,List.getElem?_eq_getElem hql⟩
    obtain ⟨r2,hr2⟩:∃ r2,is[q]?=some r2:=⟨_,List.getElem?_eq_getElem (by omega)⟩
    have st2:=hsteps q o2 r2 u ho2 hr2 hq
    have w2:¬ r2.i.kind≤1:=fun hk => by rw [(st2.k1 hk).1] at hu; cases hu
    rcases Nat.lt_or_ge q i with hlt | hge
    · refine .inr ⟨fun _ => hlt,fun _ => ?_⟩
      rcases ok.conf q r2 hlt hr2 with c | c | c | c | c | c
      · exact listedT 5 o hready q c
      · omega
      · have:=st.k0 c; rcases hid with hid | hid
        · rw [this.1] at hid; cases hid
        · rw [this.2.1] at hid; cases hid
      · omega
      · have hc:=st.comp _ c
        rw [e4y hlt (by omega) hq] at hc
        rcases hid with hid | hid
        · exact absurd (List.mem_append.2 (.inl hid)) (b0n hc.1 hu)
        · exact absurd (List.mem_append.2 (.inr hid)) (b0n hc.1 hu)
      · obtain ⟨ks,x,k,x',k',e,_⟩:=c.ex
        rw [e] at w2; simp [Ins.kind] at w2
    · have hgt:i < q:=by omega
      have ok2:=hok q o2 r2 ho2 hr2
      by_cases hsoft:SoftP ops.toList is q o2 r2 i r
      · exact .inl ⟨o2,r2,hgt,ho2,hr2,hsoft⟩
      refine .inr ⟨fun hL => ?_,fun h => by omega⟩
      have:Ls i=true:=by
        rcases ok2.conf i r hgt hr with c | c | c | c | c | c
        · exact listedT 5 o2 (h.down q o2 hL (by simpa using ho2)) i c
        · have:=st.k0 c; rcases hid with hid | hid
          · rw [this.1] at hid; cases hid
          · rw [this.2.1] at hid; cases hid
        · omega
        · omega
        · have hc:=st2.comp _ c
          rw [e4y hgt (by omega) ht] at hc
          rcases hid with hid | hid
          · exact absurd (List.mem_append.2 (.inl hid)) (b0n hc.2 hu)
          · exact absurd (List.mem_append.2 (.inr hid)) (b0n hc.2 hu)
        · exact absurd c hsoft
      rw [hLi] at this; cases this
  have hn0:∀ {j:Nat} {u:Tr},ts[j]?=some u→u.n=H.n+sumT (ts.take j):=fun {j u} hj => by
    have hjl:j < ops.toList.length:=by have:=(List.getElem?_eq_some_iff.1 hj).1; omega
    exact (hsteps j _ _ u (List.getElem?_eq_getElem hjl) (List.getElem?_eq_getElem (by omega)) hj).n
  have free:c9u g (mD Ls 0 ts H.m) t.n t.k:=by
    intro id h1 h2
    have hι:g.ι id=none:=by
      cases hp:g.ι id with
      | none => rfl
      | some p =>
        rcases h.fresh id p hp with h3 | ⟨j,u,hLj,hju,h3,h4⟩
        · rw [hn0 ht] at h1; omega
        · have hne:j≠i:=fun e => by rw [e,hLi] at hLj; cases hLj
          rw [hn0 hju] at h3 h4; rw [hn0 ht] at h1 h2
          rcases Nat.lt_or_ge j i with hlt | hge
          · have e1:=b3h hju
            have e2:=b1f (ts:=ts) (show j+1≤i by omega)
            omega
          · have e1:=b3h ht
            have e2:=b1f (ts:=ts) (show i+1≤j by omega)
            omega
    refine ⟨hι, ?_⟩
    cases hm:mD Ls 0 ts H.m id with
    | none => rfl
    | some ob =>
      have:=h.rs.live id ob hm
      cases ob<;>(simp only [ORep] at this; obtain ⟨_,_,_,this⟩:=this; simp [hι] at this)
  have htl:(ts.take i).length=i:=by simp; omega
  have hol2:(ops.toList.take i).length=i:=by simp; simp at hio; omega
  have atd:∀ {tt d:Nat},fnd tt (dlT (ops.toList.take i) [])=some d→∃ (o2:Oper) (u:Tr),i - 1 - d < i∧ops[i - 1 - d]?=some o2∧o2.dst=some tt∧ts[i - 1 - d]?=some u∧nth d (envT (ts.take i) [])=some u.v:=by
    intro tt d hd
    obtain ⟨o2,h1,h2,h3⟩:=c1s hd
    rw [hol2] at h1 h3
    have hlt:i - 1 - d < i:=by omega
    rw [List.getElem?_take_of_lt hlt] at h1
    obtain ⟨u,hu⟩:∃ u,ts[i - 1 - d]?=some u:=⟨_,List.getElem?_eq_getElem (by omega)⟩
    have hu':(ts.take i)[i - 1 - d]?=some u:=by rw [List.getElem?_take_of_lt hlt]; exact hu
    have:=d4l hu'
    rw [htl,show i - 1 - (i - 1 - d)=d by omega] at this
    exact ⟨o2,u,hlt,by simpa using h1,h2,hu,this⟩
  have hrel:Rel (dlT (ops.toList.take i) []) (look σ (envT (ts.take i) [])) o.op.operands.toList g a:=by
    intro x hx s v hc hl
    cases x with
    | tmp tt =>
      obtain ⟨k1,k2⟩:=ok.opd tt hx
      cases s<;>simp only [cs] at hc<;>try (cases hc; done)
      · rename_i d
        simp at hc
        obtain ⟨o2,u,hlt,h1,h2,hu,h3⟩:=atd hc
        simp only [look] at hl
        rw [h3] at hl; simp at hl; subst hl
        exact h.vals _ o2 u tt (listed _ (k1 d hc)) h1 hu h2
      · simp at hc; obtain ⟨rfl,hc⟩:=hc
        refine h.vars _ _ hl fun j o2 hLj hj hdst => ?_
        rcases Nat.lt_trichotomy j i with hlt | rfl | hgt
        · exact b0j hc j o2 (by rw [List.getElem?_take_of_lt hlt]; simpa using hj) hdst
        · rw [hLi] at hLj; cases hLj
        · obtain ⟨e,he,hb,h5⟩:=a4p (k2 hc j o2 hgt (by simpa using hj) hdst)
          have:=h.down j o2 hLj hj e he hb
          rw [h5,hLi] at this; cases this
    | const c =>
      cases s<;>simp only [cs] at hc<;>try (cases hc; done)
      simp only [look] at hl; cases hl; exact b3p g _ _ hc
    | global _ => cases s<;>simp [cs] at hc
    | func f =>
      cases s<;>try (simp [cs] at hc; done)
      rename_i c
      simp only [look] at hl; cases hl
      cases v<;>try (simp [cs] at hc; done)
      rename_i f' fs cs'
      cases fs<;>cases cs'<;>simp [cs] at hc
      subst hc
      simp only [R,Act.eval]; exact ⟨#[],#[],rfl,by simp [RC],by simp [RC]⟩
  have hguard:∀ j b,o.guard=some (j,b)→∃ d,r.g=some (d,b)∧∀ c,yielded ops a.tmps j=some c↔nth d (envT (ts.take i) [])=some (.bool c):=by
    intro j b hg
    have hcg:=hgs i o r hol hr
    rw [hg] at hcg
    cases hrg:r.g with
    | none => rw [hrg] at hcg; simp [chkG] at hcg
    | some p =>
      obtain ⟨d,b'⟩:=p
      rw [hrg] at hcg
      simp only [chkG,Bool.and_eq_true,beq_iff_eq] at hcg
      obtain ⟨⟨rfl,hjd⟩,hm⟩:=hcg
      refine ⟨d,rfl,fun c => ?_⟩
      split at hm
      · rename_i tt htt
        have hft:fnd tt (dlT (ops.toList.take i) [])=some d:=by simpa using hm
        obtain ⟨o2,u,hlt,h1,h2,hu,h3⟩:=atd hft
        have hji:i - 1 - d=j:=by omega
        rw [hji] at h1 hu
        have hLj:=listed j (ok.guard j b hg)
        have hv:=h.vals j o2 u tt hLj h1 hu h2
        have htN:tt < a.tmps.size:=by
          have:=hdN o2 (List.mem_of_getElem? (by simpa using h1))
          rw [h2] at this; simp [a7h] at this; rw [h.sizeA]; exact this
        have hgq:a.tmps[tt]?=some (a.tmps.getD tt undef):=by simp [htN]
        have hy:yielded ops a.tmps j=(match a.tmps.getD tt undef with | .bool b => some b | _ => none):=by
          unfold yielded
          rw [h1,Option.bind_some,h2,Option.bind_some,hgq]
          cases a.tmps.getD tt undef<;>rfl
        rw [hy,h3]
        constructor
        · intro e
          split at e
          · rename_i b' hx
            simp at e; subst e
            rw [hx] at hv
            rw [d8p hv (fun e => st.nj d b hrg (by rw [h3,e]))]
          · cases e
        · intro e
          simp at e
          rw [e] at hv
          simp only [R] at hv
          rw [hv]
      · cases hm
  have hgo:(∀ g' x w',RS g' (appd t.ds (mD Ls 0 ts H.m)) w'→IExt g g' t.n t.k→Ext g (mD Ls 0 ts H.m) w g' (appd t.ds (mD Ls 0 ts H.m)) w'→R g' t.v x→Kc (a.put o.dst x) w') →
      if Region.wanted o (yielded ops a.tmps) then o.wpIn (Fw ro) 0 P a w Kc Q else (∀ f,o.about P w a.eval=some f→(Fw ro).fn f)∧Kc (a.put o.dst undef) w:=by
    by_cases hS:∃ q o2 r2,i < q∧ops.toList[q]?=some o2∧is[q]?=some r2∧SoftP ops.toList is q o2 r2 i r∧Ls q=true
    case neg =>
      refine st.go (mD Ls 0 ts H.m) g w a (fun id hid => ?_) free h.rs hrel hguard ro Kc Q
      rw [st.m]
      refine d6j fun q u hq hu => ?_
      rw [Nat.zero_add]
      by_cases hqi:q=i
      · subst hqi; rw [hLi]; simp
      · rcases order0 q u id hq hu (.inl hid) hqi with ⟨o2,r2,h1,h2,h3,h4⟩ | h1
        · exact ⟨fun hL => absurd ⟨q,o2,r2,h1,h2,h3,h4,hL⟩ hS,fun hl => by omega⟩
        · exact h1
    obtain ⟨q0,o2,r2,hiq,ho2,hr2,hsf,hL⟩:=hS
    obtain ⟨ks,x,k,x',k',e1,e2,sx,sk⟩:=hsf.ex
    have hq0:=(List.getElem?_eq_some_iff.1 ho2).1
    obtain ⟨u0,hu0⟩:∃ u,ts[q0]?=some u:=⟨_,List.getElem?_eq_getElem (by omega)⟩
    have st2:=hsteps q0 o2 r2 u0 ho2 hr2 hu0
    obtain ⟨id,l,kk,q1,q2,q3,q4,go2⟩:=st.soft ks x k (hsf.gj o hol) e1
    obtain ⟨id',l',kk',p1,p2,p3,p4⟩:=st2.ent ks x' k' hsf.go e2
    have tds:t.ds=[]:=(st.k1 (by rw [e1]; simp [Ins.kind])).1
    have still:∀ q u,i≤q→q < q0→ts[q]?=some u→u.ds=[]:=fun q u h1 h2 hq => by
      by_cases e:q=i
      · subst e; rw [ht] at hq; simp at hq; subst hq; exact tds
      · have hql:q < ops.toList.length:=by omega
        obtain ⟨r3,hr3⟩:∃ r3,is[q]?=some r3:=⟨_,List.getElem?_eq_getElem (by omega)⟩
        exact ((hsteps q _ r3 u (List.getElem?_eq_getElem hql) hr3 hq).k1 (hsf.read q r3 (by omega) h2 hr3)).1
    have hq0t:q0≤ts.length:=by omega
    rw [b4o (by omega) hq0t sx] at q1
    rw [b4o (by omega) hq0t sk] at q2
    rw [p1] at q1; simp at q1; subst q1
    rw [p2] at q2; simp at q2; subst q2
    rw [b5g (by omega) hq0t still,q3] at p3; simp at p3; subst p3
    have hm:mD Ls 0 ts H.m id'=some (.mp (mset l kk' ((mget l kk').getD (.int .i64 0)))):=by
      have:mD Ls 0 ts H.m id'=appT (ts.take (q0+1)) H.m id':=by
        refine d6j fun q u hq hu => ?_
        rw [Nat.zero_add]
        by_cases hqi:q=i
        · subst hqi; rw [ht] at hq; simp at hq; subst hq; rw [tds] at hu; simp [dom] at hu
        by_cases hq0':q=q0
        · subst hq0'; rw [hL]; simp
        rcases order0 q u id' hq hu (.inl (by rw [q4]; simp)) hqi with ⟨o3,r3,h1,h2,h3,h4⟩ | h1
        · exfalso
          obtain ⟨_,_,_,_,_,_,e3,_⟩:=h4.ex
          rcases Nat.lt_or_ge q q0 with c | c
          · have:=hsf.read q r3 h1 c h3; rw [e3] at this; simp [Ins.kind] at this
          · have:=h4.read q0 r2 hiq (by omega) hr2; rw [e2] at this; simp [Ins.kind] at this
        · rw [h1]
          rcases Nat.lt_or_ge q q0 with c | c
          · by_cases c2:q < i
            · exact ⟨fun _ => by omega,fun _ => c2⟩
            · rw [still q u (by omega) c hq] at hu; simp [dom] at hu
          · exact ⟨fun _ => by omega,fun _ => by omega⟩
      rw [this,List.take_succ_eq_append_getElem (by omega),b1j,show ts[q0]=u0 from (List.getElem?_eq_some_iff.1 hu0).2,p4]
      simp [appd,upd]
    intro hk'
    have hw:Region.wanted o (yielded ops a.tmps)=true:=by unfold Region.wanted; rw [hsf.gj o hol]
    rw [if_pos hw]
    exact go2 (mD Ls 0 ts H.m) g w a hm free h.rs hrel ro Kc Q hk'
  unfold wpOpIn
  simp only [ho]
  refine hgo fun g' x w' k1 k2 k3 k4 => ?_
  obtain ⟨Ls',hLs'⟩:∃ Ls':Nat→Bool,∀ q,Ls' q=(if q=i then true else Ls q):=⟨fun q => if q=i then true else Ls q,fun _ => rfl⟩
  refine hk Ls' g' (a.put o.dst x) w' hLs' ?_
  have hmD:mD Ls' 0 ts H.m=appd t.ds (mD Ls 0 ts H.m):=by
    funext id
    refine d9m ht (by simpa using hLi) (fun q => by rw [hLs' q,Nat.zero_add]) fun q u hq hlt hl hm hmu => ?_
    rw [Nat.zero_add] at hl
    rcases order0 q u id hq hmu (.inr hm) (by omega) with ⟨o2,r2,_,_,_,hs⟩ | h1
    · obtain ⟨ks,x,k,x',k',e1,_⟩:=hs.ex
      rw [(st.k1 (by rw [e1]; simp [Ins.kind])).1] at hm; simp [dom] at hm
    · have:=h1.1 hl; omega
  have hsub:∀ q,Ls q=true→Ls' q=true:=fun q hq => by
    rw [hLs' q]
    by_cases hqi:q=i
    · rw [if_pos hqi]
    · rw [if_neg hqi]; exact hq
  have hback:∀ q,Ls' q=true→q=i∨Ls q=true:=fun q hq => by
    rw [hLs' q] at hq
    by_cases hqi:q=i
    · exact .inl hqi
    · rw [if_neg hqi] at hq; exact .inr hq
  have apart:∀ (j:Nat) (o2:Oper) d,j≠i→ops[j]?=some o2→o2.dst=some d→o.dst≠some d:=by
    intro j o2 d hne hj hd hod
    have hj':ops.toList[j]?=some o2:=by simpa using hj
    rcases Nat.lt_or_ge j i with hlt | hge
    · exact b0j (ok.dst d hod) j o2 (by rw [List.getElem?_take_of_lt hlt]; exact hj') hd
    · have hjl:=(List.getElem?_eq_some_iff.1 hj').1
      have ok2:=hok j o2 is[j] hj' (List.getElem?_eq_getElem (by omega))
      exact b0j (ok2.dst d hd) i o (by rw [List.getElem?_take_of_lt (by omega)]; exact hol) hod
  refine ⟨by rw [hmD]; exact k1, ?_, ?_, ?_,by rw [hmD]; exact h.ext.trans k3,by rw [c2v]; exact h.sizeA,by rw [b0x]; exact h.defs, ?_,fun id hid => (k2 id (by have:=st.n; omega)).trans (h.low id hid)⟩
  · intro id p hp
    by_cases hid:t.n≤id∧id < t.n+t.k
    · exact .inr ⟨i,t,by rw [hLs' i,if_pos rfl],ht,hid.1,hid.2⟩
    · rw [k2 id hid] at hp
      rcases h.fresh id p hp with h3 | ⟨j,u,hLj,hju,h3⟩
      · exact .inl h3
      · exact .inr ⟨j,u,hsub j hLj,hju,h3⟩
  · intro j o2 u d hLj hj hu hd
    by_cases hji:j=i
    · subst hji
      rw [ho] at hj; simp at hj; subst hj
      rw [ht] at hu; simp at hu; subst hu
      have:=hdN o (List.mem_of_getElem? hol)
      rw [hd] at this; simp [a7h] at this
      rw [hd,b2k (by rw [h.sizeA]; exact this)]; exact k4
    · have hL:=(hback j hLj).resolve_left hji
      have hv:=R.mono k3.le _ _ (h.vals j o2 u d hL hj hu hd)
      have hne:=apart j o2 d hji hj hd
      cases hod:o.dst with
      | none => exact hv
      | some d' => rw [a5k (fun e => hne (by rw [hod,e]))]; exact hv
  · intro tt v hf hno
    have hv:=R.mono k3.le _ _ (h.vars tt v hf fun j o2 hL hj => hno j o2 (hsub j hL) hj)
    have hne:=hno i o (by rw [hLs' i,if_pos rfl]) ho
    cases hod:o.dst with
    | none => exact hv
    | some d' => rw [a5k (fun e => hne (by rw [hod,e]))]; exact hv
  · intro j o2 hLj hj e he hb
    by_cases hji:j=i
    · subst hji
      rw [ho] at hj; simp at hj; subst hj
      exact hsub _ (hready e he hb)
    · exact hsub _ (h.down j o2 ((hback j hLj).resolve_left hji) hj e he hb)
theorem c4p {l:List Bool}:∀ {i:Nat},l[i]?=some false→(l.set i true).countP (!·)+1=l.countP (!·):=by
 induction l with
 | nil => intro i h; simp at h
 | cons b l ih =>
  intro i h;cases i with
  | zero => simp at h; subst h; simp
  | succ i =>
   simp at h;simp only [List.set_cons_succ,List.countP_cons];have:=ih h; omega
theorem c9z {P:Program} {ro:Option Nat} {de:List Deferred} {ops:Array Oper} {is:List RI} {σ:Sg} {N:Nat} {ts:List Tr} {H:Hp} {g0:G} {w0:World} {Q:Exit→Act→World→Prop}
  (hlen:ts.length=ops.toList.length) (hils:is.length=ops.toList.length)
  (hsteps:∀ (i:Nat) o r t,ops.toList[i]?=some o→is[i]?=some r→ts[i]?=some t→Step P σ ops N (dlT (ops.toList.take i) []) (envT (ts.take i) []) ((lgT (ts.take i)).reverse++[]) (appT (ts.take i) H.m) (H.n+sumT (ts.take i)) o r t)
  (hok:∀ (i:Nat) o r,ops.toList[i]?=some o→is[i]?=some r→DOk ops ops.toList is i o r)
  (hgs:∀ (i:Nat) o r,ops.toList[i]?=some o→is[i]?=some r→chkG i (dlT (ops.toList.take i) []) o.guard r.g=true) (hdN:∀ o∈ops.toList,a7h N o.dst=true)
  (hq:∀ g a w,DInv de ops σ N ts H g0 w0 (fun i => decide (i < ops.size)) g a w→Q .normal a w) :
  ∀ (fuel:Nat) (ls:Array Bool) (g:G) (a:Act) (w:World),ls.size=ops.size→ls.toList.countP (!·)≤fuel→DInv de ops σ N ts H g0 w0 (fun i => ls.getD i false) g a w→wpAnyIn (Fw ro) 0 P .any ops Q fuel ls a w:=by
 have alld:∀ (ls:Array Bool),ls.size=ops.size→Region.ready .any ops ls=[]→∀ i,i < ops.size→ls.getD i false=true:=by
  intro ls hsz hr i
  induction i using Nat.strongRecOn with
  | _ i ih =>
   intro hi;by_cases hL:ls.getD i false=true
   ·exact hL
   ·exfalso;have hil:i < ls.size:=by omega
    have:i∈Region.ready .any ops ls:=by
     rw [mem_ready];refine ⟨by simp [hil] at hL ⊢; exact hL,ops[i],by simp [hi],fun e he hb => ?_⟩;have hil2:i < is.length:=by simp at hils; omega
     have ok:=hok i ops[i] is[i] (by simp [hi]) (by simp [hil2]);have:=ok.edges e he hb;exact ih e.on this (by omega)
    rw [hr] at this; cases this
 have fin:∀ (ls:Array Bool) g a w,ls.size=ops.size→Region.ready .any ops ls=[]→DInv de ops σ N ts H g0 w0 (fun i => ls.getD i false) g a w→Q .normal a w:=by
  intro ls g a w hsz hr h;have e:(fun i => ls.getD i false)=fun i => decide (i < ops.size):=by
   funext i;by_cases hi:i < ops.size
   ·rw [alld ls hsz hr i hi]; simp [hi]
   ·simp [hi,show ¬ i < ls.size by omega]
  rw [e] at h;exact hq g a w h
 intro fuel
 induction fuel with
 | zero =>
  intro ls g a w hsz hc h;have hr:Region.ready .any ops ls=[]:=by
   rw [List.eq_nil_iff_forall_not_mem];intro i hi;obtain ⟨h1,o,ho,_⟩:=mem_ready.1 hi;have hil:i < ls.size:=by have:=(Array.getElem?_eq_some_iff.1 ho).1; omega
   simp [hil] at h1;have:ls.toList.countP (!·)≠0:=by
    rw [Ne,List.countP_eq_zero];intro hall;have:=hall ls[i] (by simp);simp [h1] at this
   omega
  exact ⟨hr,fin ls g a w hsz hr h⟩
 | succ fuel ih =>
  intro ls g a w hsz hc h;refine ⟨fun hr => fin ls g a w hsz hr h,fun i hi => ?_⟩;obtain ⟨h1,o,ho,h2⟩:=mem_ready.1 hi;have hio:=(Array.getElem?_eq_some_iff.1 ho).1;have hil:i < ls.size:=by omega
  have h1':ls[i]?=some false:=by simp [hil] at h1 ⊢; exact h1
  refine DInv.step hlen hils hsteps hok hgs hdN h ho (by simp [hil] at h1 ⊢; exact h1) h2 fun Ls' g' a' w' hL h' => ?_;refine ih (ls.setIfInBounds i true) g' a' w' (by simp [hsz]) ?_ ?_
  ·have:=c4p (l:=ls.toList) (i:=i) (by simpa using h1');simp only [Array.toList_setIfInBounds];omega
  ·have e:(fun q => (ls.setIfInBounds i true).getD q false)=Ls':=by
    funext q;rw [hL q];by_cases hqi:q=i
    ·subst hqi; simp [hil]
    ·rw [if_neg hqi,getD_set_ne false (fun e => hqi e.symm)]
   rw [e]; exact h'
section
def a4q:V→V
 | .fsl _ sz l => .fsl .loose sz l
 | v => v
def a3n:V→V
 | .fsl _ sz l => .fsl .loose sz l
 | .agg l => .agg (l.map a4q)
 | .tup l => .tup (l.map fun v => match v with | .agg l => .agg (l.map a4q) | v => a4q v)
 | v => v
open Classical in
theorem c7e {g:G} {m:Hm} {w:World} (h:RS g m w):∃ F',(∀ b cs,g.F b=some cs→F' b=some cs)∧(∀ b cs,F' b=some cs→g.F b=some cs∨Own g m b)∧(∀ ι',RS ⟨ι',F'⟩ (fun _ => none) w) ∧
  ∀ id sz l b n cs e fr,m id=some (.arr sz l)→g.ι id=some (b,sz,n)→w.heap[b]?=some (.cells cs e fr)→F' b=some cs.toList:=by
 refine ⟨fun b => match g.F b with | some cs => some cs | none => if ∃ id sz l n,m id=some (.arr sz l)∧g.ι id=some (b,sz,n) then (match w.heap[b]? with | some (.cells cs _ _) => some cs.toList | _ => none) else none, ?_, ?_, ?_, ?_⟩
 ·intro b cs k; simp only [k]
 ·intro b cs k;simp only at k;split at k
  ·rename_i cs' hF; simp at k; subst k; exact .inl hF
  ·split at k
   ·rename_i hex; obtain ⟨id,sz,l,n,h1,h2⟩:=hex; exact .inr ⟨id,_,_,_,h1,h2⟩
   ·cases k
 ·intro ι';refine ⟨?_,by simp,by simp,fun p hp => (h.tab p hp).imp fun cs q => ⟨by simp only [q.1],q.2⟩⟩;intro b cs k;simp only at k;split at k
  ·rename_i cs' hF; simp at k; subst k; exact h.fro b _ hF
  ·split at k
   ·split at k
    ·rename_i c e fr hb; simp at k; subst k; exact ⟨e,fr,by simpa using hb⟩
    ·cases k
   ·cases k
 ·intro id sz l b n cs e fr h1 h2 h3;have:=(h.live id _ h1).unF h2;simp only [this];rw [if_pos ⟨id,sz,l,n,h1,h2⟩,h3]
section
variable {g g':G} {m:Hm} {w:World}
theorem b2j {f:V→Option V} (hf:∀ v x v',f v=some v'→R g v x→R g' v' x∧v'.size=v.size∧v'.isEl=v.isEl∧v'.cell=v.cell):∀ {l l':List V} {xs:List Value},mapO f l=some l'→RC g l xs→RC g' l' xs∧l'.length=l.length∧((∀ v∈l,v.cell=true)→∀ v∈l',v.cell=true)
 | [],l',xs,h,r => by simp [mapO] at h; subst h; simp only [RC] at r; subst r; simp [RC]
 | v::vs,l',xs,h,r => by
  simp only [mapO] at h;simp only [RC] at r; obtain ⟨y,ys,rfl,r1,r2⟩:=r;cases h1:f v with
  | none => simp [h1] at h
  | some u =>
   simp only [h1] at h;cases h2:mapO f vs with
   | none => simp [h2] at h
   | some us =>
    simp [h2] at h; subst h;obtain ⟨k1,k2,k3,k4⟩:=hf v y u h1 r1;obtain ⟨j1,j2,j3⟩:=b2j hf h2 r2;refine ⟨by simp only [RC]; exact ⟨y,ys,rfl,k1,j1⟩,by simp [j2],fun hc z hz => ?_⟩;cases hz with
    | head => rw [k4]; exact hc v (by simp)
    | tail _ hz => exact j3 (fun a ha => hc a (by simp [ha])) z hz
theorem b9k {f:V→Option V} (hf:∀ v x v',f v=some v'→R g v x→R g' v' x∧v'.size=v.size∧v'.isEl=v.isEl∧v'.cell=v.cell) {sz:Nat}:∀ {l l':List V} {xs:List Value},mapO f l=some l'→RL g l xs→(∀ v∈l,v.size=sz)→RL g' l' xs∧l'.length=l.length∧∀ v∈l',v.size=sz
 | [],l',xs,h,r,_ => by simp [mapO] at h; subst h; simp only [RL] at r; subst r; simp [RL]
 | v::vs,l',xs,h,r,hz => by
  simp only [mapO] at h;simp only [RL] at r; obtain ⟨y,ys,rfl,⟨r0,r1⟩,r2⟩:=r;cases h1:f v with
  | none => simp [h1] at h
  | some u =>
   simp only [h1] at h;cases h2:mapO f vs with
   | none => simp [h2] at h
   | some us =>
    simp [h2] at h; subst h;obtain ⟨k1,k2,k3,k4⟩:=hf v y u h1 r1;obtain ⟨j1,j2,j3⟩:=b9k hf h2 r2 (fun a ha => hz a (by simp [ha]));refine ⟨by simp only [RL]; exact ⟨y,ys,rfl,⟨by rw [k3]; exact r0,k1⟩,j1⟩,by simp [j2],fun a ha => ?_⟩;cases ha with
    | head => rw [k2]; exact hz v (by simp)
    | tail _ ha => exact j3 a ha
theorem c1r {f:V→Option V}:∀ {l l':List V},mapO f l=some l'→l'.length=l.length
 | [],l',h => by simp [mapO] at h; subst h; rfl
 | v::vs,l',h => by
  simp only [mapO] at h;cases h1:f v with
  | none => simp [h1] at h
  | some u =>
   simp only [h1] at h;cases h2:mapO f vs with
   | none => simp [h2] at h
   | some us => simp [h2] at h; subst h; simp [c1r h2]
theorem c9e:∀ (n:Nat) {m:Hm} (v:V) {v':V},snap n m v=some v'→v'.size=v.size
 | 0,m,v,v',h => by
  simp only [snap] at h; split at h
  ·simp at h; subst h; rfl
  ·cases h
 | n+1,m,v,v',h => by
  simp only [snap] at h; split at h
  ·simp at h; subst h; rfl
  ·cases v<;>simp only at h<;>try (cases h; done)
   ·split at h
    ·split at h
     ·split at h
      ·simp at h; subst h; rfl
      ·cases h
     ·cases h
    ·cases h
   ·split at h
    ·simp at h; subst h; rfl
    ·cases h
   ·split at h
    ·rename_i l' hl; simp at h; subst h; simp [V.size,c1r hl]
    ·cases h
   ·split at h
    ·simp at h; subst h; rfl
    ·cases h
theorem a6p (hs:RS g m w) (hF:∀ b cs,g.F b=some cs→g'.F b=some cs)
  (hA:∀ id sz l b n cs e fr,m id=some (.arr sz l)→g.ι id=some (b,sz,n)→w.heap[b]?=some (.cells cs e fr)→g'.F b=some cs.toList) :
  ∀ n v x v',snap n m v=some v'→R g v x→R g' v' x∧v'.size=v.size∧v'.isEl=v.isEl∧v'.cell=v.cell:=by
 intro n
 induction n with
 | zero =>
  intro v x v' h r;simp only [snap] at h;split at h
  ·rename_i hc; simp at h; subst h; exact ⟨R.closed hF v x hc r,rfl,rfl,rfl⟩
  ·cases h
 | succ n ih =>
  intro v x v' h r;simp only [snap] at h;split at h
  ·rename_i hc; simp at h; subst h; exact ⟨R.closed hF v x hc r,rfl,rfl,rfl⟩
  ·rename_i hncl;clear hncl;cases v<;>simp only at h<;>try (cases h; done)
   ·rename_i id off len;split at h
    ·rename_i sz l hm;split at h
     ·rename_i hlen;split at h
      ·rename_i l' hl';simp at h; subst h;refine ⟨?_,rfl,rfl,rfl⟩;simp only [R] at r ⊢;obtain ⟨b,sz2,n2,a,cap,e1,rfl,e3,e4⟩:=r;obtain ⟨b',n',cs,el,xs,post,p1,p2,p3,p4,p5,p6,p7,p8⟩:=a1e hs hm;rw [p1] at e1; simp at e1; obtain ⟨rfl,rfl,rfl⟩:=e1;obtain ⟨az,bs,q1,q2,q3,q4⟩:=RL.split off p5 p6 (by omega);obtain ⟨cs',ds,t1,t2,t3,t4⟩:=RL.split len q4 (fun v hv => p6 v (List.mem_of_mem_drop hv)) (by simp; omega);obtain ⟨j1,j2,j3⟩:=b9k (g':=g') ih hl' t3 (fun v hv => p6 v (List.mem_of_mem_drop (List.mem_of_mem_take hv)));have hll:l'.length=len:=by rw [j2]; simp; omega
       refine ⟨some a,cap,cs',by rw [hll],j1,j3,by omega,by simp,by simp,by simp, ?_⟩;rcases e4 with ⟨rfl,_⟩ | h0
       ·refine .inr ⟨b',off*sz,rfl, ?_⟩;exact ⟨az,ds++post,by rw [hA id sz l b' n' cs el.1 _ hm p1 p2,p7,q1,t1]; simp,q2⟩
       ·exact .inl (List.eq_nil_of_length_eq_zero (by omega))
      ·cases h
     ·cases h
    ·cases h
   ·rename_i st sz l;split at h
    ·rename_i l' hl';simp at h; subst h;refine ⟨?_,rfl,rfl,rfl⟩;simp only [R] at r ⊢;obtain ⟨a,cap,xs,rfl,e2,e3,e4,e5,e6,e7,e8⟩:=r;obtain ⟨j1,j2,j3⟩:=b9k (g':=g') ih hl' e2 e3;refine ⟨a,cap,xs,by rw [j2],j1,j3,by omega,e5,e6,fun hst => by rw [j2]; exact e7 hst, ?_⟩;rcases e8 with rfl | ⟨b,o,h1,pre,post,h2,h3⟩
     ·exact .inl (List.eq_nil_of_length_eq_zero (by rw [j2]; rfl))
     ·exact .inr ⟨b,o,h1,pre,post,hF _ _ h2,h3⟩
    ·cases h
   ·rename_i l;split at h
    ·rename_i l' hl';simp at h; subst h;simp only [R] at r ⊢;obtain ⟨xs,rfl,e2,e3⟩:=r;obtain ⟨j1,j2,j3⟩:=b2j (g':=g') ih hl' e2;exact ⟨⟨xs,rfl,j1,j3 e3⟩,j2,rfl,rfl⟩
    ·cases h
   ·rename_i l;split at h
    ·rename_i l' hl';simp at h; subst h;simp only [R] at r ⊢;obtain ⟨xs,rfl,e2⟩:=r;obtain ⟨j1,j2,j3⟩:=b2j (g':=g') ih hl' e2;exact ⟨⟨xs,rfl,j1⟩,rfl,rfl,rfl⟩
    ·cases h
theorem c0e (hs:RS g m w) (hF:∀ b cs,g.F b=some cs→g'.F b=some cs)
  (hA:∀ id sz l b n cs e fr,m id=some (.arr sz l)→g.ι id=some (b,sz,n)→w.heap[b]?=some (.cells cs e fr)→g'.F b=some cs.toList)
  {v:V} {x:Value} {v':V} (h:c3o m v=some v') (r:R g v x):R g' v' x:=by
 unfold c3o at h;split at h
 ·rename_i u hu;simp at h; subst h;exact (a6p hs hF hA 4 v x u hu r).1
 ·rename_i hno;clear hno;split at h
  ·rename_i fn fs cs;split at h
   ·rename_i fs' hfs;split at h
    ·rename_i cs' hcs;simp at h; subst h;simp only [R] at r ⊢;obtain ⟨xs,ys,rfl,e2,e3⟩:=r;have ih:=a6p hs hF hA 4;obtain ⟨j1,_,_⟩:=b2j (g':=g') ih hfs e2;have ihC:∀ v x v',d7n (snap 4 m) m v=some v'→R g v x→R g' v' x∧v'.size=v.size∧v'.isEl=v.isEl∧v'.cell=v.cell:=by
      intro v x v' h r;cases v<;>simp only [d7n] at h<;>try exact ih _ _ _ h r
      rename_i id i off;split at h
      ·rename_i sz l hm;split at h
       ·rename_i e he;split at h
        ·rename_i u hu;simp at h; subst h;refine ⟨?_,rfl,rfl,rfl⟩;simp only [R] at r ⊢;obtain ⟨b,sz2,n2,e1,rfl⟩:=r;obtain ⟨b',n',cs,el,xs,post,p1,p2,p3,p4,p5,p6,p7,p8⟩:=a1e hs hm;rw [p1] at e1; simp at e1; obtain ⟨rfl,rfl,rfl⟩:=e1;obtain ⟨az,y,bs,r1,r2,r3,_⟩:=p5.get p6 he;exact ⟨b',i*sz,y,(ih _ _ _ hu r3).1,⟨az,bs++post,by rw [hA id sz l b' n' cs el.1 _ hm p1 p2,p7,r1]; simp,r2⟩,rfl⟩
        ·cases h
       ·cases h
      ·cases h
     obtain ⟨j2,_,_⟩:=b2j (g':=g') ihC hcs e3;exact ⟨xs,ys,rfl,j1,j2⟩
    ·cases h
   ·cases h
  ·cases h
theorem a8x {v:V} {x:Value} (h:R g v x):R g (a4q v) x∧(a4q v).cell=v.cell:=by
 cases v<;>try exact ⟨h,rfl⟩
 refine ⟨?_,rfl⟩;simp only [a4q,R] at h ⊢;obtain ⟨a,cap,xs,e1,e2,e3,e4,e5,e6,e7,e8⟩:=h;exact ⟨a,cap,xs,e1,e2,e3,e4,e5,by simp,by simp,e8⟩
theorem e3f {f:V→V} (hf:∀ v x,R g v x→R g (f v) x∧(f v).cell=v.cell):∀ {l:List V} {xs:List Value},RC g l xs→RC g (l.map f) xs∧((∀ v∈l,v.cell=true)→∀ v∈l.map f,v.cell=true)
 | [],xs,h => by simp only [RC] at h; subst h; simp [RC]
 | v::vs,xs,h => by
  simp only [RC] at h; obtain ⟨y,ys,rfl,h1,h2⟩:=h;obtain ⟨k1,k2⟩:=hf v y h1;obtain ⟨j1,j2⟩:=e3f hf h2;refine ⟨by simp only [List.map_cons,RC]; exact ⟨y,ys,rfl,k1,j1⟩,fun hc z hz => ?_⟩;simp only [List.map_cons,List.mem_cons] at hz;rcases hz with rfl | hz
  ·rw [k2]; exact hc v (by simp)
  ·exact j2 (fun a ha => hc a (by simp [ha])) z hz
theorem c1x {v:V} {x:Value} (h:R g v x):R g (a3n v) x:=by
 have ag:∀ {l:List V} {x:Value},R g (.agg l) x→R g (.agg (l.map a4q)) x∧(V.agg (l.map a4q)).cell=(V.agg l).cell:=by
  intro l x h;refine ⟨?_,rfl⟩;simp only [R] at h ⊢;obtain ⟨xs,rfl,e2,e3⟩:=h;obtain ⟨k1,k2⟩:=e3f (fun v x h => a8x h) e2;exact ⟨xs,rfl,k1,k2 e3⟩
 cases v<;>try exact h
 ·exact (a8x h).1
 ·exact (ag h).1
 ·rename_i l;simp only [a3n,R] at h ⊢;obtain ⟨xs,rfl,e2⟩:=h;refine ⟨xs,rfl,(e3f (fun v x h => ?_) e2).1⟩;cases v<;>first | exact ag h | exact a8x h
end
theorem b5y:∀ l:List V,(loL l).length=l.length
 | [] => rfl
 | v::vs => by simp [loL,b5y vs]
mutual
theorem lo_R {g:G}:∀ (v:V) (x:Value),R g v x→R g (lo v) x∧(lo v).cell=v.cell∧(lo v).size=v.size∧(lo v).isEl=v.isEl
 | .bool _,_,r | .int _ _,_,r | .str _,_,r | .nilp,_,r | .nilf,_,r | .nili,_,r | .nilm,_,r | .ptr _ _ _,_,r | .fptr _ _,_,r | .sl _ _ _,_,r | .fn _ _ _,_,r | .ifc _ _,_,r | .map _,_,r | .yl _,_,r | .jk,_,r | .slc _ _ _ _,_,r => by rw [lo]; exact ⟨r,rfl,rfl,rfl⟩
 | .fsl st sz l,_,r => by
  simp only [lo,R] at r ⊢;obtain ⟨a,cap,xs,e1,e2,e3,e4,e5,e6,e7,e8⟩:=r;obtain ⟨k1,k2⟩:=c8e l xs e2;refine ⟨⟨a,cap,xs,by rw [b5y]; exact e1,k1,k2 sz e3,by rw [b5y]; exact e4,e5,by simp,by simp, ?_⟩,rfl,rfl,rfl⟩;rcases e8 with rfl | h
  ·exact .inl rfl
  ·exact .inr h
 | .agg l,_,r => by
  simp only [lo,R] at r ⊢;obtain ⟨xs,rfl,e2,e3⟩:=r;obtain ⟨k1,k2⟩:=c5g l _ e2;exact ⟨⟨xs,rfl,k1,k2 e3⟩,rfl,by simp [V.size,b5y],rfl⟩
 | .tup l,_,r => by
  simp only [lo,R] at r ⊢;obtain ⟨xs,rfl,e2⟩:=r;exact ⟨⟨xs,rfl,(c5g l _ e2).1⟩,rfl,rfl,rfl⟩
theorem c5g {g:G}:∀ (l:List V) (xs:List Value),RC g l xs→RC g (loL l) xs∧((∀ v∈l,v.cell=true)→∀ v∈loL l,v.cell=true)
 | [],_,r => by simp only [loL]; exact ⟨r,fun h => h⟩
 | v::vs,_,r => by
  simp only [RC] at r; obtain ⟨y,ys,rfl,h1,h2⟩:=r;obtain ⟨k1,k2,_⟩:=lo_R v y h1;obtain ⟨j1,j2⟩:=c5g vs ys h2;simp only [loL,RC];refine ⟨⟨y,ys,rfl,k1,j1⟩,fun hc z hz => ?_⟩;rcases List.mem_cons.1 hz with rfl | hz
  ·rw [k2]; exact hc v (by simp)
  ·exact j2 (fun a ha => hc a (by simp [ha])) z hz
theorem c8e {g:G}:∀ (l:List V) (xs:List Value),RL g l xs→RL g (loL l) xs∧(∀ sz,(∀ v∈l,v.size=sz)→∀ v∈loL l,v.size=sz)
 | [],_,r => by simp only [loL]; exact ⟨r,fun _ h => h⟩
 | v::vs,_,r => by
  simp only [RL] at r; obtain ⟨y,ys,rfl,⟨h0,h1⟩,h2⟩:=r;obtain ⟨k1,k2,k3,k4⟩:=lo_R v y h1;obtain ⟨j1,j2⟩:=c8e vs ys h2;simp only [loL,RL];refine ⟨⟨y,ys,rfl,⟨by rw [k4]; exact h0,k1⟩,j1⟩,fun sz hc z hz => ?_⟩;rcases List.mem_cons.1 hz with rfl | hz
  ·rw [k3]; exact hc v (by simp)
  ·exact j2 sz (fun a ha => hc a (by simp [ha])) z hz
end
open Classical in
theorem b4w {g:G} {m:Hm} {w:World} (h:RS g m w) (fz:List Nat):∃ F',(∀ b cs,g.F b=some cs→F' b=some cs)∧(∀ b cs,F' b=some cs→g.F b=some cs∨Own g m b)∧RS ⟨g.ι,F'⟩ (a1d fz m) w ∧
  ∀ id sz l b n cs e fr,only fz m id=some (.arr sz l)→g.ι id=some (b,sz,n)→w.heap[b]?=some (.cells cs e fr)→F' b=some cs.toList:=by
 have hle:∀ F':Nat→Option (List Value),(∀ b cs,g.F b=some cs→F' b=some cs)→g.le ⟨g.ι,F'⟩:=fun F' hF => ⟨fun _ _ k => k,hF⟩;refine ⟨fun b => match g.F b with | some cs => some cs | none => if ∃ id sz l n,only fz m id=some (.arr sz l)∧g.ι id=some (b,sz,n) then (match w.heap[b]? with | some (.cells cs _ _) => some cs.toList | _ => none) else none, ?_, ?_, ?_, ?_⟩
 ·intro b cs k; simp only [k]
 ·intro b cs k;simp only at k;split at k
  ·rename_i cs' hF; simp at k; subst k; exact .inl hF
  ·split at k
   ·rename_i hex; obtain ⟨id,sz,l,n,h1,h2⟩:=hex;simp only [only] at h1; split at h1
    ·exact .inr ⟨id,_,_,_,h1,h2⟩
    ·cases h1
   ·cases k
 ·refine ⟨?_, ?_, ?_,fun p hp => (h.tab p hp).imp fun cs q => ⟨by simp only [q.1],q.2⟩⟩
  ·intro b cs k;simp only at k;split at k
   ·rename_i cs' hF; simp at k; subst k; exact h.fro b _ hF
   ·split at k
    ·split at k
     ·rename_i c e fr hb; simp at k; subst k; exact ⟨e,fr,by simpa using hb⟩
     ·cases k
    ·cases k
  ·intro id o k;simp only [a1d] at k;split at k
   ·cases k
   ·rename_i hid;refine (h.live id o k).keep (hle _ (fun b cs k => by simp only [k])) fun b s n hb => ⟨rfl, ?_⟩;have hu:=(h.live id o k).unF hb;simp only [hu];rw [if_neg];rintro ⟨id',sz,l,n',h1,h2⟩;simp only [only] at h1; split at h1
    ·rename_i hid';have:=h.inj id id' o (.arr sz l) b s n sz n' k h1 hb h2;subst this; exact hid hid'
    ·cases h1
  ·intro id id' o o' b s n s' n' h1 h2 h3 h4;simp only [a1d] at h1 h2;split at h1
   ·cases h1
   split at h2
   ·cases h2
   exact h.inj id id' o o' b s n s' n' h1 h2 h3 h4
 ·intro id sz l b n cs e fr h1 h2 h3;have h1':m id=some (.arr sz l):=by simp only [only] at h1; split at h1; exact h1; cases h1
  have:=(h.live id _ h1').unF h2;simp only [this];rw [if_pos ⟨id,sz,l,n,h1,h2⟩,h3]
theorem RS.only {g:G} {m:Hm} {w:World} (h:RS g m w) (fz:List Nat):RS g (only fz m) w:=by
 have hs:∀ id o,Ev.only fz m id=some o→m id=some o:=fun id o k => by simp only [Ev.only] at k; split at k; exact k; cases k
 exact ⟨h.fro,fun id o k => h.live id o (hs id o k),fun id id' o o' b s n s' n' h1 h2 h3 h4 => h.inj id id' o o' b s n s' n' (hs _ _ h1) (hs _ _ h2) h3 h4,h.tab⟩
theorem d9t {g g':G} {f:V→V} (hf:∀ v x,R g v x→R g' (f v) x∧(f v).size=v.size∧(f v).isEl=v.isEl):∀ (l:List V) (xs:List Value),RL g l xs→RL g' (l.map f) xs
 | [],_,r => by simp only [RL] at r; subst r; simp [RL]
 | v::vs,_,r => by
  simp only [RL] at r; obtain ⟨y,ys,rfl,⟨h0,h1⟩,h2⟩:=r;obtain ⟨k1,k2,k3⟩:=hf v y h1;simp only [List.map_cons,RL];exact ⟨y,ys,rfl,⟨by rw [k3]; exact h0,k1⟩,d9t hf vs ys h2⟩
theorem d3a {g g':G} {m:Hm} {w:World} {fz:List Nat} (hs:RS g m w) (hle:g.le g')
  (hA:∀ id sz l b n cs e fr,Ev.only fz m id=some (.arr sz l)→g.ι id=some (b,sz,n)→w.heap[b]?=some (.cells cs e fr)→g'.F b=some cs.toList) (v:V) (x:Value) (h:R g v x) :
  R g' (frzV fz m v) x∧(frzV fz m v).size=v.size∧(frzV fz m v).isEl=v.isEl:=by
 unfold frzV;split
 ·rename_i u hu;obtain ⟨k1,k2,k3,_⟩:=a6p (hs.only fz) hle.F hA 4 v x u hu h;exact ⟨k1,k2,k3⟩
 ·split
  ·rename_i l _;refine ⟨?_,by simp [V.size],rfl⟩;simp only [R] at h ⊢;obtain ⟨xs,rfl,h1,h2⟩:=h;have one:∀ v x,R g v x→R g' (frz1 fz m v) x∧(frz1 fz m v).cell=v.cell:=fun v x hx => by
    unfold frz1;split
    ·rename_i u hu;obtain ⟨k1,_,_,k4⟩:=a6p (hs.only fz) hle.F hA 3 v x u hu hx;exact ⟨k1,k4⟩
    ·exact ⟨R.mono hle _ _ hx,rfl⟩
   have all:∀ (l:List V) (xs:List Value),RC g l xs→RC g' (l.map (frz1 fz m)) xs∧∀ v∈l,(frz1 fz m v).cell=v.cell:=by
    intro l
    induction l with
    | nil => intro xs h; simp only [RC] at h; subst h; simp [RC]
    | cons v l ih =>
     intro xs h;simp only [RC] at h; obtain ⟨y,ys,rfl,e1,e2⟩:=h;obtain ⟨i1,i2⟩:=ih ys e2;obtain ⟨j1,j2⟩:=one v y e1;simp only [List.map_cons,RC];refine ⟨⟨y,ys,rfl,j1,i1⟩,fun u hu => ?_⟩;rcases List.mem_cons.1 hu with rfl | hu
     ·exact j2
     ·exact i2 u hu
   obtain ⟨a1,a2⟩:=all l xs.toList h1;refine ⟨xs,rfl,a1,fun v hv => ?_⟩;obtain ⟨u,hu,rfl⟩:=List.mem_map.1 hv;rw [a2 u hu]; exact h2 u hu
  ·exact ⟨R.mono hle _ _ h,rfl,rfl⟩
theorem a9a {fz:List Nat} {m:Hm} {id:Nat} {o:Ob} (h:frzH fz m id=some o):∃ o',a1d fz m id=some o'∧m id=some o'∧o=frzO fz m o':=by
 unfold frzH at h;split at h
 ·cases h
 ·rename_i hn;split at h
  ·rename_i o' ho;simp at h;exact ⟨o',by simp [a1d,hn,ho],ho,h.symm⟩
  ·cases h
theorem c3a {g:G} {F':Nat→Option (List Value)} {m:Hm} {w:World} {fz:List Nat} (hs:RS g m w) (hF:∀ b cs,g.F b=some cs→F' b=some cs) (h:RS ⟨g.ι,F'⟩ (a1d fz m) w)
  (hA:∀ id sz l b n cs e fr,Ev.only fz m id=some (.arr sz l)→g.ι id=some (b,sz,n)→w.heap[b]?=some (.cells cs e fr)→F' b=some cs.toList):RS ⟨g.ι,F'⟩ (frzH fz m) w:=by
 have hle:g.le ⟨g.ι,F'⟩:=⟨fun _ _ k => k,hF⟩;refine ⟨h.fro,fun id o k => ?_,fun id id' o o' b s n s' n' h1 h2 h3 h4 => ?_,h.tab⟩
 ·obtain ⟨o',k1,k2,rfl⟩:=a9a k;have q:=h.live id o' k1;cases o' with
  | mp l | md c bs l | it d c ss => exact q
  | arr sz l =>
   obtain ⟨b,n,cs,e,xs,post,a1,a2,a3,a4,a5,a6,a7⟩:=hs.live id _ k2;obtain ⟨b',n',cs',e',xs',post',c1,c2,c3,c4,c5,c6,c7⟩:=q;rw [show (⟨g.ι,F'⟩:G).ι id=g.ι id from rfl,a1] at c1;simp at c1; obtain ⟨rfl,rfl⟩:=c1;have hf:=fun v x hx => d3a (g':=⟨g.ι,F'⟩) hs hle hA v x hx;refine ⟨b,n,cs,e,xs,post,a1,a2,a3,⟨c4.1,a4.2⟩,d9t hf l xs a5,fun v hv => ?_,a7⟩;obtain ⟨u,hu,rfl⟩:=List.mem_map.1 hv;rw [← a6 u hu];unfold frzV;split
   ·rename_i u' hu';exact c9e _ _ hu'
   ·split
    ·simp [V.size]
    ·rfl
 ·obtain ⟨p,k1,_,_⟩:=a9a h1;obtain ⟨p',k1',_,_⟩:=a9a h2;exact h.inj id id' p p' b s n s' n' k1 k1' h3 h4
theorem b0u {ids:List Nat} {m:Hm} {id:Nat} {o:Ob} (h:loH ids m id=some o):∃ o',m id=some o'∧(o=o'∨o=loO o'):=by
 unfold loH at h;split at h
 ·split at h
  ·rename_i o' ho; simp at h; exact ⟨o',ho,.inr h.symm⟩
  ·cases h
 ·exact ⟨o,h,.inl rfl⟩
theorem e5j {g:G} {m:Hm} {w:World} {ids:List Nat} (h:RS g m w):RS g (loH ids m) w:=by
 refine ⟨h.fro,fun id o k => ?_,fun id id' o o' b s n s' n' h1 h2 h3 h4 => ?_,h.tab⟩
 ·obtain ⟨o',k1,k2⟩:=b0u k;have q:=h.live id o' k1;rcases k2 with rfl | rfl
  ·exact q
  ·cases o' with
   | mp l | md c bs l | it d c ss => exact q
   | arr sz l =>
    obtain ⟨b,n,cs,e,xs,post,a1,a2,a3,a4,a5,a6,a7⟩:=q;obtain ⟨j1,j2⟩:=c8e l xs a5;exact ⟨b,n,cs,e,xs,post,a1,a2,a3,a4,j1,j2 sz a6,a7⟩
 ·obtain ⟨p,k1,_⟩:=b0u h1;obtain ⟨p',k1',_⟩:=b0u h2;exact h.inj id id' p p' b s n s' n' k1 k1' h3 h4
theorem b1y {fz:List Nat} {m:Hm} {t:Nat} {v:V}:∀ {σ:Sg},find t (frzS fz m σ)=some v→∃ u,find t σ=some u∧v=frzV fz m u
 | [],h => by simp [frzS,find] at h
 | (t',u)::r,h => by
  simp only [frzS,find] at h;split at h
  ·rename_i e; subst e;refine ⟨u,by simp [find], ?_⟩;simp at h; exact h.symm
  ·rename_i e;obtain ⟨u',k1,k2⟩:=b1y h;exact ⟨u',by simp [find,e,k1],k2⟩
end
section
def b1h (dl:List (Option Nat)):List (Nat×Src)→Bool
 | [] => true
 | (t,s)::r => (match s with | .r d => fnd t dl == some d | .v t' => t == t' && (fnd t dl).isNone | .k _ => false) && b1h dl r
section
variable {F:Fence} {n:Nat} {P:Program} {Q:Exit→Act→World→Prop} {a:Act} {w:World} {b:Frame} {k:List Item} {cs:List Frame}
theorem a2z {c:Code}:step P (lone (b.atR a (.code (.scope c)::k)) cs w)=.next (lone (b.atR a (.code c::.inScope c::k)) cs w) :=
 step_lone_go (by simp [stepG,stepG.exec,Frame.atR])
theorem b5k {c:Code}:step P (lone (b.atR a (.inScope c::k)) cs w)=.next (lone (b.atR a k) cs w) :=
 step_lone_go (by simp [stepG,stepG.exec,Frame.atR])
theorem c4n {c:Code} (h:c.wpIn F n P (fun e a w => match e with | .goto _ => False | e => Q e a w) a w):(Code.scope c).wpIn F n P Q a w:=by
 intro b k cs hro hb hr;have h0:(lone (b.atR a (.code (.scope c)::k)) cs w).fenced P F:=fenced_calm hb hr rfl;obtain ⟨e,a₁,w₁,hq,harr⟩:=h b (.inScope c::k) cs hro hb hr;cases e with
 | normal => exact ⟨.normal,a₁,w₁,hq,.head h0 a2z (StepsIn.trans harr (.one (fenced_calm hb hr rfl) b5k))⟩
 | exit id' =>
  have hx:exitTo id' (.inScope c::k)=exitTo id' k:=by simp [exitTo]
  exact ⟨.exit id',a₁,w₁,hq,fun k' hk => .head h0 a2z (harr.1 k' (by rw [hx]; exact hk)),
   fun hr' hk => let ⟨k₁,h1,h2⟩:=harr.2 hr' (by rw [hx]; exact hk); ⟨k₁,h1,.head h0 a2z h2⟩⟩
 | goto l => exact hq.elim
 | ret => exact ⟨_,a₁,w₁,hq,.of_steps (.one h0 a2z) harr⟩
 | panic ch => exact ⟨_,a₁,w₁,hq,.of_steps (.one h0 a2z) harr⟩
 | outgrown => exact ⟨_,a₁,w₁,hq,.of_steps (.one h0 a2z) harr⟩
end
def chkC (P:Program) (N:Nat):Code→C→Bool
 | .region _ ops draw,.reg d is outs => draw == d && a5z P N 0 [] ops.toList is && (!draw || chkD ops.toList 0 [] [] ops.toList is) && b1h (dlT ops.toList []) outs
 | .seq a b,.seq a' b' => chkC P N a a' && chkC P N b b'
 | .seq a b,.cut a' b' => chkC P N a a' && chkC P N b b'
 | .cond c x y,.cond s a b => cs [] c s && chkC P N x a && chkC P N y b
 | .block id a,.block id' a' => id == id' && chkC P N a a'
 | .loop a,.loop a' => chkC P N a a'
 | .rangeFunc g ps x y,.rf s ps' a b => cs [] g s && (ps.toList == ps') && ps'.all (· < N) && a.flat && b.flat && chkC P N x a && chkC P N y b
 | .region _ ops draw,.nx x is outs => !draw && (match ops.toList with
  | o::os => (match o.op with | .next it false => cs [] it x | _ => false) && o.guard.isNone && a7h N o.dst && a5z P N 1 [o.dst] os is
  | [] => false) && b1h (dlT ops.toList []) outs
 | .exit id,.exit id' => id == id'
 | .ret,.ret => true
 | .skip,.skip => true
 | .label _,.skip => true
 | .scope x,.seq a .skip => chkC P N x a
 | c,.frz b => chkC P N c b
 | _,_ => false
structure DefOk (B:Option Nat) (ds:List Deferred) (w:World):Prop where
 marks:∀ d∈ds,∃ D,d={ target:=.collected D,args:=#[] }∧(∃ n,B=some n∧n≤D)∧w.heap[D]?=some (.deferred (some []))
 nd:ds.Pairwise (·≠·)
 base:∀ n,B=some n→n≤w.heap.size
theorem DefOk.nil {B:Option Nat} {w:World} (h:∀ n,B=some n→n≤w.heap.size):DefOk B [] w:=⟨by simp,.nil,h⟩
theorem DefOk.none {ds:List Deferred} {w:World} (h:DefOk none ds w):ds=[]:=by
 cases ds with
 | nil => rfl
 | cons d ds => obtain ⟨D,_,⟨n,k,_⟩,_⟩:=h.marks d (by simp); cases k
theorem RS.not_own {g:G} {m:Hm} {w:World} (h:RS g m w) {b:Nat} (hb:∀ cs e fr,w.heap[b]?≠some (.cells cs e fr)) (hm:∀ es c,w.heap[b]?≠some (.map es c)) (hi:∀ mi a s c,w.heap[b]?≠some (.mapIter mi a s c)):¬ Own g m b:=by
 rintro ⟨id,o,s,n,h1,h2⟩;have:=h.live id o h1;cases o with
 | arr sz l =>
  obtain ⟨b',n',cs,e,xs,post,p1,p2,_⟩:=this;rw [p1] at h2; simp at h2; obtain ⟨rfl,rfl,rfl⟩:=h2;exact hb _ _ _ p2
 | mp l | md c bs l =>
  obtain ⟨b',es,clock,p1,p2,_⟩:=this;rw [p1] at h2; simp at h2; obtain ⟨rfl,rfl,rfl⟩:=h2;exact hm _ _ p2
 | it mid c seen =>
  obtain ⟨b',bm,c0,p1,p2,_⟩:=this;rw [p1] at h2; simp at h2; obtain ⟨rfl,rfl,rfl⟩:=h2;exact hi _ _ _ _ p2
theorem DefOk.keep {B:Option Nat} {ds:List Deferred} {g g':G} {m m':Hm} {w w':World} (h:DefOk B ds w) (hs:RS g m w) (hx:Ext g m w g' m' w'):DefOk B ds w' :=
 ⟨fun d hd => by
  obtain ⟨D,k1,k2,k3⟩:=h.marks d hd;exact ⟨D,k1,k2,(hx.old D (Array.getElem?_eq_some_iff.1 k3).1 (hs.not_own (by simp [k3]) (by simp [k3]) (by simp [k3]))).trans k3⟩,h.nd,fun n hn => Nat.le_trans (h.base n hn) hx.size⟩
theorem DefOk.turn {B:Option Nat} {ds:List Deferred} {w:World} (h:DefOk B ds w) {l:Nat} {r:Loop} (hl:w.heap[l]?=some (.loop r)) (o:Obj):DefOk B ds (w.putObj l o) :=
 ⟨fun d hd => by
  obtain ⟨D,k1,k2,k3⟩:=h.marks d hd;have:D≠l:=fun e => by rw [e,hl] at k3; cases k3
  exact ⟨D,k1,k2,(World.putObj_heap_other this).trans k3⟩,h.nd,by simpa using h.base⟩
structure RA (B:Option Nat) (g:G) (σ:Sg) (a:Act) (N:Nat) (w:World):Prop where
 vR:∀ t v,find t σ=some v→R g v (a.tmps.getD t undef)
 sizeA:a.tmps.size=N
 defs:DefOk B a.defers w
theorem RA.rg {B:Option Nat} {g:G} {σ:Sg} {a:Act} {N:Nat} {w:World} (h:RA B g σ a N w):RG a.defers g σ [] [] a N :=
 ⟨by simp [fnd],fun t v _ hf => h.vR t v hf,rfl,h.sizeA,rfl⟩
theorem a6u {B:Option Nat} {ds:List Deferred} {w:World} {g:G} {σ:Sg} {dl:List (Option Nat)} {env:List V} {a:Act} {N:Nat} (h:RG ds g σ dl env a N) (hd:DefOk B ds w):∀ {outs:List (Nat×Src)} {K:Sg→Prop},b1h dl outs=true→b3r (look σ env) outs K →
  ∃ σ',K σ'∧RA B g σ' a N w
 | [],K,_,hk => ⟨[],hk,by simp [find],h.sizeA,by rw [h.defs]; exact hd⟩
 | (t,s)::r,K,hc,hk => by
  simp only [b1h,Bool.and_eq_true] at hc;simp only [b3r] at hk;obtain ⟨v,e,hk⟩:=a0f hk;obtain ⟨σ',k1,k2⟩:=a6u h hd hc.2 hk;refine ⟨(t,v)::σ',k1,fun u z hz => ?_,h.sizeA,by rw [h.defs]; exact hd⟩;simp only [find] at hz;split at hz
  ·rename_i hu; subst hu;simp at hz; subst hz;cases s<;>simp only at hc
   ·exact h.eR _ _ _ (by simpa using hc.1) e
   ·simp at hc; obtain ⟨⟨rfl,h1⟩,_⟩:=hc; exact h.vR _ _ h1 e
   ·cases hc.1
  ·exact k2.vR u z hz
def AEx.is:AEx→Exit→Prop
 | .norm,.normal => True
 | .exit id,.exit id' => id=id'
 | .ret,.ret => True
 | _,_ => False
def Post (B:Option Nat) (g:G) (H:Hp) (w:World) (N:Nat) (Q:QA) (e:Exit) (a':Act) (w':World):Prop :=
 ∃ ae σ' H' g',ae.is e∧Q ae σ' H'∧RS g' H'.m w'∧Fr g H g' H'∧RA B g' σ' a' N w'∧Ext g H.m w g' H'.m w'
theorem b0w:∀ (os:List Oper) (dl:List (Option Nat)),dlOf dl os=dlT os dl
 | [],_ => rfl
 | o::os,dl => by simp only [dlOf,b0w os,dlT,List.map_cons,List.reverse_cons,List.append_assoc,List.singleton_append]
theorem b4a {P:Program} {N:Nat} {os0:List Oper} {is0:List RI}:∀ {os:List Oper} {is:List RI} {n:Nat} {dl:List (Option Nat)},a5z P N n dl os is=true→os0.drop n=os→is0.drop n=is→dl=dlT (os0.take n) [] →
    os.length=is.length∧(∀ (i:Nat) o r,n≤i→os0[i]?=some o→is0[i]?=some r→chkG i (dlT (os0.take i) []) o.guard r.g=true∧a7h N o.dst=true)
  | [],[],n,dl,_,h1,_,_ => ⟨rfl,fun i o r hi ho _ => by
      have:os0.length≤n:=by have:=congrArg List.length h1; simp at this; omega
      have:=(List.getElem?_eq_some_iff.1 ho).1; omega⟩
  | o::os,r::is,n,dl,h,h1,h2,h3 => by
    simp only [a5z,Bool.and_eq_true] at h
    obtain ⟨⟨⟨c1,c2⟩,c3⟩,c4⟩:=h
    have hon:os0[n]?=some o:=by
      have:=congrArg (·[0]?) h1; simp only [List.getElem?_drop] at this; simpa using this
    have hrn:is0[n]?=some r:=by
      have:=congrArg (·[0]?) h2; simp only [List.getElem?_drop] at this; simpa using this
    obtain ⟨l1,l2⟩:=b4a (os0:=os0) (is0:=is0) c4 (by simpa [List.drop_drop,Nat.add_comm] using congrArg (List.drop 1) h1) (by simpa [List.drop_drop,Nat.add_comm] using congrArg (List.drop 1) h2)
      (by rw [h3]; simp only [dlT,List.append_nil]; rw [List.take_add_one,hon]; simp)
    refine ⟨by simp [l1],fun i o' r' hi ho hr => ?_⟩
    by_cases hin:i=n
    · subst hin
      rw [hon] at ho; simp at ho; subst ho
      rw [hrn] at hr; simp at hr; subst hr
      rw [← h3]; exact ⟨c1,c3⟩
    · exact l2 i o' r' (by omega) ho hr
  | [],_::_,_,_,h,_,_,_ => by simp [a5z] at h
  | _::_,[],_,_,h,_,_,_ => by simp [a5z] at h
theorem d5y {P:Program} {ro:Option Nat} {B:Option Nat} {N id:Nat} {ops:Array Oper} {draw:Bool} {x:Src} {is:List RI} {outs:List (Nat×Src)} {σ:Sg} {H:Hp} {Q:QA} {g:G} {a:Act} {w:World}
    (hc:chkC P N (.region id ops draw) (.nx x is outs)=true) (h:ev P (.nx x is outs) σ H Q) (hs:RS g H.m w) (hf:∀ id,H.n≤id→g.ι id=none) (hr:RA B g σ a N w) :
    (Code.region id ops draw).wpIn (Fw ro) 0 P (Post B g H w N Q) a w:=by
  simp only [chkC,Bool.and_eq_true,Bool.not_eq_true'] at hc
  obtain ⟨⟨rfl,c1⟩,c3⟩:=hc
  cases hops:ops.toList with
  | nil => rw [hops] at c1; cases c1
  | cons o os =>
  rw [hops] at c1
  simp only [Bool.and_eq_true] at c1
  obtain ⟨⟨⟨cn,cg⟩,cd⟩,cr⟩:=c1
  split at cn
  case h_2 => cases cn
  rename_i it hop
  have ho:ops[0]?=some o:=by
    have:=congrArg (·[0]?) hops
    simpa using this
  have hg:o.guard=none:=by simpa using cg
  simp only [ev] at h
  obtain ⟨i,mid,c,seen,bs,l,e1,e2,e3,hlt,hnd,hdone,hmore⟩:=h
  have qx:=(hr.rg.rel [it]) it (by simp) _ _ cn e1
  simp only [R] at qx
  obtain ⟨b0,sz,n,q1,q2⟩:=qx
  obtain ⟨b,bm,c0,p1,p2,p3,p4,p5⟩:=hs.live i _ e2
  rw [p1] at q1; simp at q1; obtain ⟨rfl,rfl,rfl⟩:=q1
  obtain ⟨bm',es,clock,k1,k2,_,k4,k5,k6,k7⟩:=hs.live mid _ e3
  rw [p4] at k1; simp at k1; subst k1
  subst p5 k7
  simp only [Nat.zero_mul,Nat.add_zero] at q2
  refine wpIn_region ?_
  have hsz:ops.size=os.length+1:=by have:=congrArg List.length hops; simpa using this
  rw [List.range_eq_range',hsz,List.range'_succ]
  simp only [wpOpsIn,ho,Region.wanted,hg,if_true]
  have h3:∀ j d,j+1+d=1→[o.dst][d]?=(ops[j]?).map (·.dst):=fun j d e => by
    obtain rfl:j=0:=by omega
    obtain rfl:d=0:=by omega
    simp [ho]
  have hold:∀ y∈es.toList,y.born < clock:=fun y hy => hlt _ (by rw [← k6]; exact List.mem_map_of_mem hy)
  have tail:∀ (v:V) (xv:Value) (lg:Lg) (H1:Hp) (w1:World),H1.n=H.n→RS g H1.m w1→Ext g H.m w g H1.m w1→R g v xv→(evR P σ is [v] lg H1 fun env H' => b3r (look σ env) outs fun σ' => Q .norm σ' H') →
      wpOpsIn (Fw ro) 0 P ops (Post B g H w N Q) (List.range' (0+1) os.length) (a.put o.dst xv) w1:=fun v xv lg H1 w1 hn1 hs1 hx1 hv1 hev => by
    refine b1r (de:=a.defers) is os 1 [o.dst] [v] lg H1 _ _ w1 g (by rw [hops]; rfl) rfl h3 (by simpa using cd) cr hev hs1 (fun id hid => hf id (by omega)) (hr.rg.put (.refl g) cd hv1) ?_
    intro env' H' g' a' w' k1 k2 k3 k4 k5
    rw [b0w] at k2
    have hd:dlT ops.toList []=dlT os [o.dst]:=by rw [hops]; simp [dlT]
    rw [hd] at c3
    obtain ⟨σ',q1,q2⟩:=a6u (w:=w') k2 (hr.defs.keep hs (hx1.trans k5)) c3 k1
    exact ⟨.norm,σ',H',g',trivial,q1,k3,⟨k4.1,fun id hid => k4.2.1 id (by omega),by have:=k4.2.2; omega⟩,q2,hx1.trans k5⟩
  rcases run_next_at (P:=P) w o.type b bm clock clock seen.toArray es clock p2 k2 hold (Nat.le_refl _) with ⟨h0,hrun⟩ | ⟨e,he,w1,hal,hrun⟩
  · have run:(execOp a.eval o).run P w=.ok (.value (.tuple #[.bool false])) w:=by
      simp only [execOp,hop,q2,Sem.run_bind,hrun,Result.andThen_ok,Sem.run_pure]
    refine a0y run ?_
    refine tail (.tup [.bool false]) _ _ H w rfl hs (.refl _ _ _) (by simp [R,RC]) (hdone fun b' hb' => ?_)
    rw [← k6] at hb'
    obtain ⟨y,hy,rfl⟩:=List.mem_map.1 hb'
    have:=all_seen es seen.toArray h0 y hy
    simpa using this
  · obtain ⟨hem,hes⟩:=mem_left he
    have run:(execOp a.eval o).run P w=.ok (.value (.tuple #[.bool true,e.key,e.val])) (ChangeMaps.setBlock w1 b (.mapIter (some bm) clock (seen.toArray.push e.born) clock)):=by
      simp only [execOp,hop,q2,Sem.run_bind,hrun,Result.andThen_ok,Sem.run_pure]
    refine a0y run ?_
    obtain ⟨j,hj⟩:=List.mem_iff_getElem?.1 hem
    have hbj:bs[j]?=some e.born:=by rw [← k6,List.getElem?_map,hj]; rfl
    have hjl:j < l.length:=by
      have:=(List.getElem?_eq_some_iff.1 hj).1
      have h4:=k4.length
      simp at h4 this
      omega
    obtain ⟨p,hp⟩:∃ p,l[j]?=some p:=⟨_,List.getElem?_eq_getElem hjl⟩
    obtain ⟨x1,y1,y2⟩:=k4.get (i:=j) (v:=p.1) (by rw [List.getElem?_map,hp]; rfl)
    obtain ⟨x2,z1,z2⟩:=k5.get (i:=j) (v:=p.2) (by rw [List.getElem?_map,hp]; rfl)
    rw [List.getElem?_map,hj] at y1 z1
    simp at y1 z1; subst y1; subst z1
    have hdr:RS g H.m w1∧Ext g H.m w g H.m w1:=by
      rcases hal with rfl | rfl
      · exact ⟨hs,.refl _ _ _⟩
      · exact hs.heap ⟨rfl,rfl,rfl⟩ rfl
    have hhp:w1.heap=w.heap:=by rcases hal with rfl | rfl<;>rfl
    have hset:=MapKept.heap_set (w:=w1) (o':=.mapIter (some bm) clock (seen.toArray.push e.born) clock) (by rw [hhp]; exact p2)
    obtain ⟨r1,r2⟩:=hdr.1.putOb (w':=ChangeMaps.setBlock w1 b (.mapIter (some bm) clock (seen.toArray.push e.born) clock)) (o:=.it mid clock (seen++[e.born])) ⟨rfl,rfl,rfl⟩ e2 p1 hset.2 (by simp [ChangeMaps.setBlock])
      ⟨b,bm,clock,p1,hset.1.trans (by simp),p3,p4,rfl⟩
    refine tail (.tup [.bool true,p.1,p.2]) _ _ ⟨H.n,upd H.m i (some (.it mid clock (seen++[e.born])))⟩ _ rfl r1 (hdr.2.trans r2) ?_ (hmore j e.born p hbj hp (by simpa using hes))
    simp only [R,RC]
    exact ⟨_,rfl,_,_,rfl,rfl,_,_,rfl,y2,_,_,rfl,z2,rfl⟩
theorem b7j {P:Program} {ro:Option Nat} {B:Option Nat} (hm:P.follows .mixedOrders=true) {N id:Nat} {ops:Array Oper} {draw:Bool} {is:List RI} {outs:List (Nat×Src)} {σ:Sg} {H:Hp} {Q:QA} {g:G} {a:Act} {w:World}
  (hc:chkC P N (.region id ops draw) (.reg draw is outs)=true) (h:ev P (.reg draw is outs) σ H Q) (hs:RS g H.m w) (hf:∀ id,H.n≤id→g.ι id=none) (hr:RA B g σ a N w) :
  (Code.region id ops draw).wpIn (Fw ro) 0 P (Post B g H w N Q) a w:=by
 simp only [chkC,Bool.and_eq_true] at hc;obtain ⟨⟨⟨_,c1⟩,c2⟩,c3⟩:=hc;simp only [ev] at h;cases draw with
 | false =>
  refine wpIn_region ?_;have:=b1r (P:=P) (ro:=ro) (de:=a.defers) (ops:=ops) (N:=N) (σ:=σ) (Q:=Post B g H w N Q) is ops.toList 0 [] [] [] H _ a w g (by simp) rfl (by intro j d h; omega) (by simp) c1 h hs hf hr.rg
   (fun env' H' g' a' w' k1 k2 k3 k4 k5 => by
    rw [b0w] at k2;obtain ⟨σ',q1,q2⟩:=a6u (w:=w') k2 (hr.defs.keep hs k5) c3 k1;exact ⟨.norm,σ',H',g',trivial,q1,k3,k4,q2,k5⟩)
  rwa [Array.length_toList,← List.range_eq_range'] at this
 | true =>
  refine wpIn_region_any hm ?_;obtain ⟨ts,l1,l2,l3⟩:=e5y (ops:=ops) c1 h;obtain ⟨s1,s2⟩:=b4a (os0:=ops.toList) (is0:=is) c1 (by simp) (by simp) (by simp [dlT]);have c2':chkD ops.toList 0 [] [] ops.toList is=true:=by simpa using c2
  have hw:RS g H.m { w with drawn:=w.drawn+1 }∧Ext g H.m w g H.m { w with drawn:=w.drawn+1 }:=hs.heap ⟨rfl,rfl,rfl⟩ rfl;refine c9z (de:=a.defers) (g0:=g) (w0:=w) (H:=H) (σ:=σ) (N:=N) (ts:=ts) (is:=is) l1 s1.symm l3 (fun i o r ho hr' => b7t (os0:=ops.toList) (is0:=is) c2' (by simp) (by simp) (by simp [dlT]) (by simp) (Nat.zero_le _) i o r (Nat.zero_le _) ho hr')
   (fun i o r ho hr' => (s2 i o r (Nat.zero_le _) ho hr').1) (fun o ho => ?_) ?_ ops.size (Array.replicate ops.size false) g a _ (by simp) ?_ ?_
  ·obtain ⟨i,hi⟩:=List.mem_iff_getElem?.1 ho;have hil:=(List.getElem?_eq_some_iff.1 hi).1;exact (s2 i o is[i] (Nat.zero_le _) hi (List.getElem?_eq_getElem (by omega))).2
  ·intro g' a' w' hd;have hmD:mD (fun i => decide (i < ops.size)) 0 ts H.m=appT ts H.m:=e0g fun q hq => by rw [l1] at hq; simpa using hq
   have rg:RG a.defers g' σ (dlT ops.toList []) (envT ts []) a' N:=by
    refine ⟨?_, ?_,by simp [envT,dlT,l1],hd.sizeA,hd.defs⟩
    ·intro t d v hfd hn;obtain ⟨o,h1,h2,h3⟩:=c1s hfd;obtain ⟨u,hu⟩:∃ u,ts[ops.toList.length - 1 - d]?=some u:=⟨_,List.getElem?_eq_getElem (by omega)⟩;have:=d4l hu;rw [l1,show ops.toList.length - 1 - (ops.toList.length - 1 - d)=d by omega,hn] at this;simp at this; subst this;have h1':ops[ops.toList.length - 1 - d]?=some o:=by simpa using h1
     have hlt:=(Array.getElem?_eq_some_iff.1 h1').1;exact hd.vals _ o u t (by simpa using hlt) h1' hu h2
    ·intro t v hfd hn;exact hd.vars t v hn fun j o _ hj => b0j hfd j o (by simpa using hj)
   obtain ⟨σ',q1,q2⟩:=a6u (w:=w') rg (hr.defs.keep hs hd.ext) c3 (by simpa using l2);refine ⟨.norm,σ',⟨H.n+sumT ts,appT ts H.m⟩,g',trivial,q1,by rw [← hmD]; exact hd.rs,⟨?_,hd.low,Nat.le_add_right _ _⟩,q2,by rw [← hmD]; exact hd.ext⟩;intro id hid;simp only at hid;cases hp:g'.ι id with
   | none => rfl
   | some p =>
    rcases hd.fresh id p hp with h3 | ⟨j,u,_,hju,h4,h5⟩
    ·omega
    ·have hjl:=(List.getElem?_eq_some_iff.1 hju).1;have:=(l3 j ops.toList[j] is[j] u (List.getElem?_eq_getElem (by omega)) (List.getElem?_eq_getElem (by omega)) hju).n;have e1:=b3h hju;have e2:=b1f (ts:=ts) (show j+1≤ts.length by omega);rw [List.take_length] at e2;omega
  ·simp;exact Nat.le_trans List.countP_le_length (by simp)
  ·have hn:mD (fun i => (Array.replicate ops.size false).getD i false) 0 ts H.m=H.m:=d1r fun q hq => by
    rw [Nat.zero_add]; simp [Array.getElem?_replicate]; split<;>rfl
   refine ⟨by rw [hn]; exact hw.1, ?_, ?_, ?_,by rw [hn]; exact hw.2,hr.sizeA,rfl, ?_,fun _ _ => rfl⟩
   ·intro id p hp;rcases Nat.lt_or_ge id H.n with h | h
    ·exact .inl h
    ·rw [hf id h] at hp; cases hp
   ·intro j o t d hL;simp [Array.getElem?_replicate] at hL;split at hL<;>cases hL
   ·intro t v hfd _; exact hr.vR t v hfd
   ·intro j o hL;simp [Array.getElem?_replicate] at hL;split at hL<;>cases hL
theorem RS.push {g:G} {m:Hm} {w:World} (h:RS g m w) (o:Obj):RS g m (w.alloc o)∧Ext g m w g m (w.alloc o):=by
 have hh:∀ b,b < w.heap.size→(w.alloc o).heap[b]?=w.heap[b]?:=fun b hb => Go.RowKit.Below.heap_alloc w o b hb;refine ⟨⟨fun b cs k => ?_,fun id ob k => ?_,h.inj,h.tab⟩,⟨by simp,fun b hb _ => hh b hb,.refl g,fun _ k => .inr k,fun _ _ k => .inl k,rfl,rfl,rfl⟩⟩
 ·obtain ⟨e,fr,h1⟩:=h.fro b cs k;exact ⟨e,fr,(hh b (Array.getElem?_eq_some_iff.1 h1).1).trans h1⟩
 ·exact (h.live id ob k).keep (.refl g) fun b s n hb => ⟨hh b ((h.live id ob k).lt hb),(h.live id ob k).unF hb⟩
theorem RS.turn {g:G} {m:Hm} {w:World} (h:RS g m w) {l:Nat} {r:Loop} (hl:w.heap[l]?=some (.loop r)) (o:Obj):RS g m (w.putObj l o):=by
 have ho:=h.not_own (b:=l) (by simp [hl]) (by simp [hl]) (by simp [hl]);refine ⟨fun b cs k => ?_,fun id ob k => ?_,h.inj,h.tab⟩
 ·obtain ⟨e,fr,h1⟩:=h.fro b cs k;have:b≠l:=fun e' => by rw [e',hl] at h1; cases h1
  exact ⟨e,fr,(World.putObj_heap_other this).trans h1⟩
 ·exact (h.live id ob k).keep (.refl g) fun b s n hb => ⟨World.putObj_heap_other fun e => ho ⟨id,ob,s,n,k,by rw [← e]; exact hb⟩,(h.live id ob k).unF hb⟩
theorem Ext.turn {g g':G} {m m':Hm} {w w':World} (h:Ext g m w g' m' w') {l:Nat} (hl:w.heap.size≤l) (o:Obj):Ext g m w g' m' (w'.putObj l o) :=
 ⟨by simpa using h.size,fun b hb ho => (World.putObj_heap_other (by omega)).trans (h.old b hb ho),h.le,h.own,h.froz,h.os,h.tape,h.output⟩
theorem RS.bel {g:G} {m:Hm} {w w':World} (h:RS g m w) (hb:Bel w w'):RS g m w' :=
  ⟨fun b cs k => by
    obtain ⟨e,fr,h1⟩:=h.fro b cs k
    exact ⟨e,fr,(hb.old b (Array.getElem?_eq_some_iff.1 h1).1).trans h1⟩,
   fun id ob k => (h.live id ob k).keep (.refl g) fun b s n hb' => ⟨hb.old b ((h.live id ob k).lt hb'),(h.live id ob k).unF hb'⟩,h.inj,h.tab⟩
theorem Ext.bel {g g':G} {m m':Hm} {w w' w'':World} (h:Ext g m w g' m' w') (hb:Bel w' w''):Ext g m w g' m' w'' :=
 ⟨Nat.le_trans h.size hb.size,fun b hlt ho => (hb.old b (by have:=h.size; omega)).trans (h.old b hlt ho),h.le,h.own,h.froz,hb.os.trans h.os,hb.tape.trans h.tape,hb.output.trans h.output⟩
theorem b7u {g:G} {N:Nat}:∀ {ps:List Nat} {el:List V} {xs:List Value} {σ:Sg} {tmps:Array Value},ps.all (· < N)=true→RC g el xs→el.length=ps.length→tmps.size=N →
  (∀ t v,find t σ=some v→R g v (tmps.getD t undef)) →
  ((ps.zip xs).foldl (fun (t:Array Value) (p:Nat×Value) => t.setIfInBounds p.1 p.2) tmps).size=N∧∀ t v,find t (b6s ps el σ)=some v→R g v (((ps.zip xs).foldl (fun (t:Array Value) (p:Nat×Value) => t.setIfInBounds p.1 p.2) tmps).getD t undef)
 | [],el,xs,σ,tmps,_,_,_,hN,h => by
  simp only [List.zip_nil_left,List.foldl_nil];exact ⟨hN,by cases el<;>simpa only [b6s] using h⟩
 | p::ps,[],xs,σ,tmps,_,_,hl,_,_ => by simp at hl
 | p::ps,v::vs,xs,σ,tmps,hp,hx,hl,hN,h => by
  simp only [RC] at hx;obtain ⟨x,xs',rfl,h1,h2⟩:=hx;simp only [List.all_cons,Bool.and_eq_true,decide_eq_true_eq] at hp;simp only [List.zip_cons_cons,List.foldl_cons,b6s];refine b7u hp.2 h2 (by simpa using hl) (by simpa using hN) fun t u ht => ?_;simp only [find] at ht;split at ht
  ·rename_i e; subst e;simp at ht; subst ht;simpa [hN,hp.1] using h1
  ·rename_i e;have:=h t u ht;simpa [Array.getElem?_setIfInBounds_ne (Ne.symm e)] using this
theorem b5w {P:Program} {B:Option Nat} (hm:P.follows .mixedOrders=true) {N:Nat}:∀ {c:C} {ro:Option Nat} {code:Code} {σ:Sg} {H:Hp} {Q:QA} {g:G} {a:Act} {w:World},((ro=none∧B.isSome=true)∨c.flat=true)→chkC P N code c=true→ev P c σ H Q→RS g H.m w→(∀ id,H.n≤id→g.ι id=none)→RA B g σ a N w →
    code.wpIn (Fw ro) 0 P (Post B g H w N Q) a w:=by
  intro c
  induction c with
  | frz c ih =>
    intro ro code σ H Q g a w hro hc h hs hf hr
    have hc':chkC P N code c=true:=by cases code<;>simpa only [chkC] using hc
    simp only [ev] at h
    rcases h with h | ⟨fz,h⟩ | ⟨fz,ids,h⟩
    · exact ih (by simpa only [C.flat] using hro) hc' h hs hf hr
    rotate_left
    · obtain ⟨F',p1,p2,p3,p4⟩:=b4w hs fz
      have hle:g.le ⟨g.ι,F'⟩:=⟨fun _ _ k => k,p1⟩
      have hx:Ext g H.m w ⟨g.ι,F'⟩ (loH ids (frzH fz H.m)) w :=
        ⟨Nat.le_refl _,fun _ _ _ => rfl,hle,fun b ⟨id,o,s,n,k1,k2⟩ => by obtain ⟨o2,k0,_⟩:=b0u k1; obtain ⟨o',_,k3,_⟩:=a9a k0; exact .inr ⟨id,o',s,n,k3,k2⟩,fun b cs k => (p2 b cs k).imp (fun h => h) .inr,rfl,rfl,rfl⟩
      refine wpIn_mono (ih (by simpa only [C.flat] using hro) hc' h (e5j (c3a hs p1 p3 p4)) hf ⟨fun t v ht => ?_,hr.sizeA,hr.defs⟩) ?_
      · obtain ⟨u,k1,rfl⟩:=b1y ht
        exact (d3a (g':=⟨g.ι,F'⟩) hs hle p4 u _ (hr.vR t _ k1)).1
      · rintro e a' w' ⟨ae,σ',H',g',k1,k2,k3,k4,k5,k6⟩
        exact ⟨ae,σ',H',g',k1,k2,k3,k4,k5,hx.trans k6⟩
    obtain ⟨F',p1,p2,p3,p4⟩:=b4w hs fz
    have hle:g.le ⟨g.ι,F'⟩:=⟨fun _ _ k => k,p1⟩
    have hsub:∀ id o,a1d fz H.m id=some o→H.m id=some o:=fun id o k => by simp only [a1d] at k; split at k; cases k; exact k
    have hx:Ext g H.m w ⟨g.ι,F'⟩ (a1d fz H.m) w :=
      ⟨Nat.le_refl _,fun _ _ _ => rfl,hle,fun b ⟨id,o,s,n,k1,k2⟩ => .inr ⟨id,o,s,n,hsub _ _ k1,k2⟩,fun b cs k => (p2 b cs k).imp (fun h => h) .inr,rfl,rfl,rfl⟩
    refine wpIn_mono (ih (by simpa only [C.flat] using hro) hc' h p3 hf ⟨fun t v ht => ?_,hr.sizeA,hr.defs⟩) ?_
    · obtain ⟨u,k1,rfl⟩:=b1y ht
      exact (d3a (g':=⟨g.ι,F'⟩) hs hle p4 u _ (hr.vR t _ k1)).1
    · rintro e a' w' ⟨ae,σ',H',g',k1,k2,k3,k4,k5,k6⟩
      exact ⟨ae,σ',H',g',k1,k2,k3,k4,k5,hx.trans k6⟩
  | reg d is outs =>
    intro ro code σ H Q g a w hro hc h hs hf hr
    cases code<;>try (simp [chkC] at hc; done)
    rename_i id ops draw
    have hd:draw=d:=by simp only [chkC,Bool.and_eq_true,beq_iff_eq] at hc; exact hc.1.1.1
    subst hd
    exact b7j hm hc h hs hf hr
  | seq c1 c2 ihx ihy =>
    intro ro code σ H Q g a w hro hc h hs hf hr
    cases code with
    | seq x y =>
      simp only [chkC,Bool.and_eq_true] at hc
      simp only [ev] at h
      refine wpIn_seq (wpIn_mono (ihx (hro.imp_right fun h => by simp only [C.flat,Bool.and_eq_true] at h; exact h.1) hc.1 h hs hf hr) ?_)
      rintro e a' w' ⟨ae,σ',H',g',k1,k2,k3,k4,k5,k6⟩
      cases ae with
      | norm =>
        cases e<;>simp only [AEx.is] at k1
        refine wpIn_mono (ihy (hro.imp_right fun h => by simp only [C.flat,Bool.and_eq_true] at h; exact h.2) hc.2 k2 k3 k4.1 k5) ?_
        rintro e a'' w'' ⟨ae,σ'',H'',g'',q1,q2,q3,q4,q5,q6⟩
        exact ⟨ae,σ'',H'',g'',q1,q2,q3,k4.trans q4,q5,k6.trans q6⟩
      | exit id =>
        cases e<;>simp only [AEx.is] at k1
        exact ⟨.exit id,σ',H',g',k1,k2,k3,k4,k5,k6⟩
      | ret =>
        cases e<;>simp only [AEx.is] at k1
        exact ⟨.ret,σ',H',g',trivial,k2,k3,k4,k5,k6⟩
    | scope x =>
      cases c2<;>try (simp [chkC] at hc; done)
      simp only [chkC] at hc
      simp only [ev] at h
      refine c4n (wpIn_mono (ihx (hro.imp_right fun h => by simp only [C.flat,Bool.and_eq_true] at h; exact h.1) hc h hs hf hr) ?_)
      rintro e a' w' ⟨ae,σ',H',g',k1,k2,k3,k4,k5,k6⟩
      cases ae with
      | norm =>
        cases e<;>simp only [AEx.is] at k1
        exact ⟨.norm,σ',H',g',trivial,by simpa only [ev] using k2,k3,k4,k5,k6⟩
      | exit id =>
        cases e<;>simp only [AEx.is] at k1
        exact ⟨.exit id,σ',H',g',k1,k2,k3,k4,k5,k6⟩
      | ret =>
        cases e<;>simp only [AEx.is] at k1
        exact ⟨.ret,σ',H',g',trivial,k2,k3,k4,k5,k6⟩
    | _ => simp [chkC] at hc
  | cut c1 c2 ihx ihy =>
    intro ro code σ H Q g a w hro hc h hs hf hr
    cases code with
    | seq x y =>
      simp only [chkC,Bool.and_eq_true] at hc
      simp only [ev] at h
      obtain ⟨M,h,hM⟩:=h
      refine wpIn_seq (wpIn_mono (ihx (hro.imp_right fun h => by simp only [C.flat,Bool.and_eq_true] at h; exact h.1) hc.1 h hs hf hr) ?_)
      rintro e a' w' ⟨ae,σ',H',g',k1,k2,k3,k4,k5,k6⟩
      cases ae with
      | norm =>
        cases e<;>simp only [AEx.is] at k1
        refine wpIn_mono (ihy (hro.imp_right fun h => by simp only [C.flat,Bool.and_eq_true] at h; exact h.2) hc.2 (hM σ' H' k2) k3 k4.1 k5) ?_
        rintro e a'' w'' ⟨ae,σ'',H'',g'',q1,q2,q3,q4,q5,q6⟩
        exact ⟨ae,σ'',H'',g'',q1,q2,q3,k4.trans q4,q5,k6.trans q6⟩
      | exit id =>
        cases e<;>simp only [AEx.is] at k1
        exact ⟨.exit id,σ',H',g',k1,k2,k3,k4,k5,k6⟩
      | ret =>
        cases e<;>simp only [AEx.is] at k1
        exact ⟨.ret,σ',H',g',trivial,k2,k3,k4,k5,k6⟩
    | _ => simp [chkC] at hc
  | cond s c1 c2 ihy ihz =>
    intro ro code σ H Q g a w hro hc h hs hf hr
    cases code<;>try (simp [chkC] at hc; done)
    rename_i x y z
    simp only [chkC,Bool.and_eq_true] at hc
    simp only [ev] at h
    cases hl:look σ [] s with
    | none => simp [hl] at h
    | some v =>
      rw [hl] at h
      cases v<;>try (exact h.elim)
      rename_i t
      have hx:=hr.rg.rel [x] x (by simp) s _ hc.1.1 hl
      simp only [R] at hx
      cases t with
      | true => exact wpIn_cond hx (ihy (hro.imp_right fun h => by simp only [C.flat,Bool.and_eq_true] at h; exact h.1) hc.1.2 (h.1 rfl) hs hf hr)
      | false => exact wpIn_cond hx (ihz (hro.imp_right fun h => by simp only [C.flat,Bool.and_eq_true] at h; exact h.2) hc.2 (h.2 rfl) hs hf hr)
  | block id' c ih =>
    intro ro code σ H Q g a w hro hc h hs hf hr
    cases code<;>try (simp [chkC] at hc; done)
    rename_i id x
    simp only [chkC,Bool.and_eq_true,beq_iff_eq] at hc
    obtain ⟨rfl,hc⟩:=hc
    simp only [ev] at h
    refine wpIn_block (wpIn_mono (ih (by simpa only [C.flat] using hro) hc h hs hf hr) ?_)
    rintro e a' w' ⟨ae,σ',H',g',k1,k2,k3,k4,k5,k6⟩
    cases ae with
    | norm =>
      cases e<;>simp only [AEx.is] at k1
      exact ⟨.norm,σ',H',g',trivial,by simpa using k2,k3,k4,k5,k6⟩
    | exit i =>
      cases e<;>simp only [AEx.is] at k1
      subst k1
      simp only [Exit.inBlock]
      by_cases hi:i=id
      · subst hi
        rw [if_pos rfl]
        exact ⟨.norm,σ',H',g',trivial,by simpa using k2,k3,k4,k5,k6⟩
      · rw [if_neg hi]
        exact ⟨.exit i,σ',H',g',rfl,by simpa [hi] using k2,k3,k4,k5,k6⟩
    | ret =>
      cases e<;>simp only [AEx.is] at k1
      exact ⟨.ret,σ',H',g',trivial,by simpa using k2,k3,k4,k5,k6⟩
  | loop c ih =>
    intro ro code σ H Q g a w hro hc h hs hf hr
    cases code<;>try (simp [chkC] at hc; done)
    simp only [chkC] at hc
    simp only [ev] at h
    obtain ⟨I,μ,h0,hround⟩:=h
    refine wpIn_loop_ghost (fun n a' w' => ∃ σ' H' g',I σ' H'∧μ σ' H'=n∧RS g' H'.m w'∧Fr g H g' H'∧RA B g' σ' a' N w'∧Ext g H.m w g' H'.m w') (μ σ H) ⟨σ,H,g,h0,rfl,hs,.refl hf,hr,Ext.refl _ _ _⟩ ?_
    rintro n a' w' ⟨σ',H',g',k1,rfl,k3,k4,k5,k6⟩
    refine wpIn_mono (ih (by simpa only [C.flat] using hro) hc (hround σ' H' k1) k3 k4.1 k5) ?_
    rintro e a'' w'' ⟨ae,σ'',H'',g'',q1,q2,q3,q4,q5,q6⟩
    cases ae with
    | norm =>
      cases e<;>simp only [AEx.is] at q1
      exact ⟨_,q2.2,σ'',H'',g'',q2.1,rfl,q3,k4.trans q4,q5,k6.trans q6⟩
    | exit id =>
      cases e<;>simp only [AEx.is] at q1
      exact ⟨.exit id,σ'',H'',g'',q1,q2,q3,k4.trans q4,q5,k6.trans q6⟩
    | ret =>
      cases e<;>simp only [AEx.is] at q1
      exact ⟨.ret,σ'',H'',g'',trivial,q2,q3,k4.trans q4,q5,k6.trans q6⟩
  | rf s ps ca cb iha ihb =>
    intro ro code σ H Q g a w hro hc h hs hf hr
    cases code<;>try (simp [chkC] at hc; done)
    rename_i gx pa x y
    simp only [chkC,Bool.and_eq_true,beq_iff_eq] at hc
    obtain ⟨⟨⟨⟨⟨⟨h1,h2⟩,h3⟩,fa⟩,fb⟩,ha⟩,hb⟩:=hc
    obtain ⟨rfl,hB⟩:=hro.resolve_right (by simp [C.flat])
    obtain ⟨B0,rfl⟩:=Option.isSome_iff_exists.1 hB
    have hbase:B0≤w.heap.size:=hr.defs.base _ rfl
    simp only [ev] at h
    obtain ⟨fn,cs',els,hl,hcl,⟨⟨fd,b1,b2,b3⟩,hseq⟩,hlen,I,h0,hround,hend⟩:=h
    have hx:=hr.rg.rel [gx] gx (by simp) s _ h1 hl
    simp only [R] at hx
    obtain ⟨fs,ys,e2,e3,e4⟩:=hx
    have e3':fs=#[]:=by cases fs; simp only [RC] at e3; simpa using e3
    subst e3'
    refine wpIn_rangeFunc fun fn0 _ => ?_
    obtain ⟨rec,hrec⟩:∃ rec:LoopState→Option Code→Loop,rec=fun st pe => { state:=st,pending:=pe,fn:=fn0,tmps:=a.tmps,params:=pa,assign:=x,body:=y,defers:=w.heap.size }:=⟨_,rfl⟩
    obtain ⟨W1,hW1⟩:∃ W1,(w.alloc (.deferred (some []))).alloc (.loop (rec .ready none))=W1:=⟨_,rfl⟩
    have hL1:W1.heap[w.heap.size+1]?=some (.loop (rec .ready none)):=by
      rw [← hW1]; have:=World.alloc_heap_new (w.alloc (.deferred (some []))) (.loop (rec .ready none)); rwa [World.size_alloc] at this
    have hD1:W1.heap[w.heap.size]?=some (.deferred (some [])):=by
      rw [← hW1]; exact (Go.RowKit.Below.heap_alloc _ _ _ (by simp)).trans (World.alloc_heap_new w _)
    have hs1:RS g H.m W1∧Ext g H.m w g H.m W1:=by
      rw [← hW1]
      obtain ⟨p1,p2⟩:=hs.push (.deferred (some []))
      obtain ⟨p3,p4⟩:=p1.push (.loop (rec .ready none))
      exact ⟨p3,p2.trans p4⟩
    have b2':fd.body≠none:=by intro e; rw [e] at b2; cases b2
    have b3':¬ fd.name="runtime.NumGoroutine":=by simpa using b3
    refine ⟨w.heap.size+1,[{ target:=.collected w.heap.size,args:=#[] }],W1,{ target:=.fn (.func fn) ys,args:=#[.func (.yield (w.heap.size+1)) #[] #[]] },W1,fn,
      #[.func (.yield (w.heap.size+1)) #[] #[]]++ys,W1, ?_, ?_,fun _ _ => trivial, ?_,by simp [Fw,Fence.wide], ?_⟩
    · rw [← hW1,hrec]; exact run_enterLoop_outer _ _ _ _ _
    · simp [resolve,rangeCall,e2,Deferred.ofValue]
      rfl
    · simp [invoke,callFunc,b1,b3',b2']
    have hll:w.heap.size≤w.heap.size+1:=Nat.le_succ _
    have notOwn:∀ {g':G} {m':Hm} {W:World} {r:Loop},RS g' m' W→W.heap[w.heap.size+1]?=some (.loop r)→¬ Own g' m' (w.heap.size+1):=fun k1 k2 => k1.not_own (by simp [k2]) (by simp [k2]) (by simp [k2])
    have notOwnD:∀ {g':G} {m':Hm} {W:World},RS g' m' W→W.heap[w.heap.size]?=some (.deferred (some []))→¬ Own g' m' w.heap.size:=fun k1 k2 => k1.not_own (by simp [k2]) (by simp [k2]) (by simp [k2])
    have hc1:RC ⟨fun _ => none,g.F⟩ cs' ys.toList:=RC.closed (g:=g) (g':=⟨fun _ => none,g.F⟩) (fun _ _ k => k) _ _ hcl e4
    refine (hseq g.F W1 ys ⟨hs1.1.fro,by simp,by simp,hs1.1.tab⟩ hc1 (w.heap.size+1)
      (fun k X W => ∃ H' g',I k H'∧RS g' H'.m W∧Fr g H g' H'∧Ext g H.m w g' H'.m W∧W.heap[w.heap.size+1]?=some (.loop (rec .ready none))∧W.heap[w.heap.size]?=some (.deferred (some []))∧∀ b,X b↔(Own g' H'.m b∨b=w.heap.size+1))
      (fun W => ∃ c ae H' g',((c=.ret∧ae=.ret)∨∃ id,c=.exit id∧ae=.exit id)∧Q ae σ H'∧RS g' H'.m W∧Fr g H g' H'∧Ext g H.m w g' H'.m W∧W.heap[w.heap.size+1]?=some (.loop (rec .done (some c)))∧W.heap[w.heap.size]?=some (.deferred (some [])))
      (fun b => Own g H.m b∨b=w.heap.size+1) ?_ ?_ ?_ ?_ ?_ ⟨H,g,h0,hs1.1,.refl hf,hs1.2,hL1,hD1,fun _ => Iff.rfl⟩).mono ?_
    · rintro k X W ⟨H',g',_,k2,_,_,k5,_,k7⟩ b hb'
      rcases (k7 b).1 hb' with ⟨id,o,s',n',q1,q2⟩ | rfl
      · exact (k2.live id o q1).lt q2
      · exact (Array.getElem?_eq_some_iff.1 k5).1
    · rintro k X W W' ⟨H',g',k1,k2,k3,k4,k5,k6,k7⟩ hb'
      exact ⟨H',g',k1,k2.bel hb',k3,k4.bel hb',(hb'.old _ (Array.getElem?_eq_some_iff.1 k5).1).trans k5,(hb'.old _ (Array.getElem?_eq_some_iff.1 k6).1).trans k6,k7⟩
    · rintro W W' ⟨c,ae,H',g',k0,k1,k2,k3,k4,k5,k6⟩ hb'
      exact ⟨c,ae,H',g',k0,k1,k2.bel hb',k3,k4.bel hb',(hb'.old _ (Array.getElem?_eq_some_iff.1 k5).1).trans k5,(hb'.old _ (Array.getElem?_eq_some_iff.1 k6).1).trans k6⟩
    ·
      rintro k X W F' el xs ⟨H',g',k1,k2,k3,k4,k5,k6,k7⟩ hel hF hsF hxs
      obtain ⟨g2,hg2ι,hg2F⟩:∃ g2:G,g2.ι=g'.ι∧g2.F=fun b => (g'.F b).or (F' b):=⟨⟨g'.ι,fun b => (g'.F b).or (F' b)⟩,rfl,rfl⟩
      have hle2:g'.le g2:=⟨fun id p q => by rw [hg2ι]; exact q,fun b cs q => by rw [hg2F]; simp [q]⟩
      have hown2:∀ {m:Hm} b,Own g2 m b↔Own g' m b:=fun b => by simp only [Own,hg2ι]
      have hF2:∀ b c,g2.F b=some c→g'.F b=some c∨F' b=some c:=fun b c q => by
        rw [hg2F] at q; simp only at q
        cases hq:g'.F b with
        | some c' => rw [hq] at q; simp at q; subst q; exact .inl rfl
        | none => rw [hq] at q; simp at q; exact .inr q
      have rs2:RS g2 H'.m W:=by
        refine ⟨fun b c q => ?_,fun id o q => ?_,fun id id' o o' b s n s' n' q1 q2 q3 q4 => k2.inj id id' o o' b s n s' n' q1 q2 (by rw [← hg2ι]; exact q3) (by rw [← hg2ι]; exact q4),fun p hp => (k2.tab p hp).imp fun cs q => ⟨hle2.F _ _ q.1,q.2⟩⟩
        · rcases hF2 b c q with q | q
          · exact k2.fro b c q
          · exact hsF.fro b c q
        · refine (k2.live id o q).keep hle2 fun b s n hb' => ⟨rfl, ?_⟩
          cases hq:g2.F b with
          | none => rfl
          | some c =>
            rcases hF2 b c hq with q' | q'
            · have:=(k2.live id o q).unF hb'; rw [this] at q'; cases q'
            · exact absurd ((k7 b).2 (.inl ⟨id,o,s,n,q,hb'⟩)) (hF b c q').2
      have hleF:G.le ⟨fun _ => none,F'⟩ g2:=by
        refine ⟨fun _ _ q => by simp at q,fun b c q => ?_⟩
        rw [hg2F]; simp only
        cases hq:g'.F b with
        | none => simpa using q
        | some c' =>
          obtain ⟨_,_,q1⟩:=k2.fro b c' hq
          obtain ⟨_,_,q2⟩:=hsF.fro b c q
          rw [q1] at q2; simp at q2; simp [q2.1]
      have hel2:RC g2 el xs.toList:=RC.mono hleF _ _ hxs
      have ext2:Ext g H.m w g2 H'.m W :=
        ⟨k4.size,k4.old,k4.le.trans hle2,fun b hb' => k4.own b ((hown2 b).1 hb'),fun b c q => by
          rcases hF2 b c q with q | q
          · exact k4.froz b c q
          · rcases (hF b c q).1 with q | q
            · exact .inl q
            · exact .inr (.inl (Nat.le_trans hs1.2.size q)),k4.os,k4.tape,k4.output⟩
      have fr2:Fr g H g2 H':=⟨fun id q => by rw [hg2ι]; exact k3.1 id q,fun id q => by rw [hg2ι]; exact k3.2.1 id q,k3.2.2⟩
      have hell:=hlen el (List.mem_of_getElem? hel)
      have hxl:xs.size=el.length:=by simpa using hel2.length
      have hfs:=b7u (g:=g2) (N:=N) (σ:=σ) (tmps:=a.tmps) h3 hel2 hell hr.sizeA (fun t v ht => R.mono ext2.le _ _ (hr.vR t v ht))
      have hpz:((pa.zip xs).foldl (fun (tmps:Array Value) (p:Tmp×Value) => tmps.setIfInBounds p.1 p.2) a.tmps)=((ps.zip xs.toList).foldl (fun (t:Array Value) (p:Nat×Value) => t.setIfInBounds p.1 p.2) a.tmps):=by
        rw [← h2,← Array.foldl_toList,Array.toList_zip]
      have hyl:=run_yield (P:=P) (args:=xs) k5 (by rw [hrec]; simp only [hxl,hell,← h2]; simp)
      rw [hrec] at hyl
      refine ⟨fn0,_,x,y,hyl,roundIn_of_wpIn trivial ?_⟩
      have hpz':((pa.zip xs).foldl (fun tmps (t,a) => tmps.setIfInBounds t a) a.tmps)=((ps.zip xs.toList).foldl (fun (t:Array Value) (p:Nat×Value) => t.setIfInBounds p.1 p.2) a.tmps):=hpz
      rw [hpz']
      refine wpIn_mono (iha (ro:=some (w.heap.size+1)) (.inr fa) ha (hround k el H' k1 hel) rs2 (fun id q => fr2.1 id q) (w:=W) ⟨hfs.2,hfs.1,.nil (fun n hn => Nat.le_trans (hr.defs.base n hn) k4.size)⟩) ?_
      rintro e a1 w1 ⟨ae,σ1,H1,g1,q0,q1,q2,q3,q4,q5⟩
      cases ae with
      | exit _ => exact q1.elim
      | ret => exact q1.elim
      | norm =>
      cases e<;>simp only [AEx.is] at q0
      have l1:w1.heap[w.heap.size+1]?=some (.loop (rec .ready none)):=(q5.old _ (Array.getElem?_eq_some_iff.1 k5).1 (notOwn rs2 k5)).trans k5
      have d1:w1.heap[w.heap.size]?=some (.deferred (some [])):=(q5.old _ (Array.getElem?_eq_some_iff.1 k6).1 (notOwnD rs2 k6)).trans k6
      refine ⟨_,run_beginRound l1 (by rw [hrec]), ?_⟩
      obtain ⟨w2,hw2⟩:∃ w2,w1.putObj (w.heap.size+1) (.loop { rec .ready none with state:=.busy })=w2:=⟨_,rfl⟩
      rw [hw2]
      have l2:w2.heap[w.heap.size+1]?=some (.loop { rec .ready none with state:=.busy }):=by rw [← hw2]; exact World.putObj_heap_same (Array.getElem?_eq_some_iff.1 l1).1
      have d2:w2.heap[w.heap.size]?=some (.deferred (some [])):=by rw [← hw2]; exact (World.putObj_heap_other (by omega)).trans d1
      have rs3:RS g1 H1.m w2:=by rw [← hw2]; exact q2.turn l1 _
      have ext3:Ext g H.m w g1 H1.m w2:=by rw [← hw2]; exact (ext2.trans q5).turn hll _
      refine wpIn_mono (ihb (ro:=some (w.heap.size+1)) (.inr fb) hb q1 rs3 q3.1 ⟨q4.vR,q4.sizeA,by rw [← hw2]; exact q4.defs.turn l1 _⟩) ?_
      rintro e a3 w3 ⟨ae,σ2,H2,g3,r0,r1,r2,r3,_,r5⟩
      have l3:w3.heap[w.heap.size+1]?=some (.loop { rec .ready none with state:=.busy }):=(r5.old _ (Array.getElem?_eq_some_iff.1 l2).1 (notOwn rs3 l2)).trans l2
      have d3:w3.heap[w.heap.size]?=some (.deferred (some [])):=(r5.old _ (Array.getElem?_eq_some_iff.1 d2).1 (notOwnD rs3 d2)).trans d2
      have l3lt:=(Array.getElem?_eq_some_iff.1 l3).1
      have fr3:Fr g H g3 H2:=(fr2.trans q3).trans r3
      have ext4:Ext g H.m w g3 H2.m w3:=ext3.trans r5
      have own3:∀ b,Own g3 H2.m b→W.heap.size≤b∨Own g' H'.m b:=fun b hb' => by
        rcases r5.own b hb' with q | q
        · have:=q5.size; have h2s:w2.heap.size=w1.heap.size:=by rw [← hw2]; simp
          exact .inl (by omega)
        · rcases q5.own b q with q | q
          · exact .inl q
          · exact .inr ((hown2 b).1 q)
      have sz3:W.heap.size≤w3.heap.size:=by
        have:=q5.size; have h2s:w2.heap.size=w1.heap.size:=by rw [← hw2]; simp
        have:=r5.size; omega
      have fin:∀ (jump:Option Code),(Instr.endRound (w.heap.size+1) jump).run P w3=.ok (.bool jump.isNone) (w3.putObj (w.heap.size+1) (.loop (rec (if jump.isNone then .ready else .done) jump))) ∧
          (w3.putObj (w.heap.size+1) (.loop (rec (if jump.isNone then .ready else .done) jump))).heap[w.heap.size+1]?=some (.loop (rec (if jump.isNone then .ready else .done) jump)) ∧
          (w3.putObj (w.heap.size+1) (.loop (rec (if jump.isNone then .ready else .done) jump))).heap[w.heap.size]?=some (.deferred (some [])):=fun jump => by
        have:=run_endRound (P:=P) jump l3
        rw [hrec] at this ⊢
        exact ⟨this,World.putObj_heap_same l3lt,(World.putObj_heap_other (by omega)).trans d3⟩
      have stop:∀ (c:Code) (ae':AEx),((c=.ret∧ae'=.ret)∨∃ id,c=.exit id∧ae'=.exit id)→Q ae' σ H2→∃ v w4,(Instr.endRound (w.heap.size+1) (some c)).run P w3=.ok v w4∧w4=w3.putObj (w.heap.size+1) (.loop (rec .done (some c)))∧(v=.bool false ∧
          ∃ c ae H' g',((c=.ret∧ae=.ret)∨∃ id,c=.exit id∧ae=.exit id)∧Q ae σ H'∧RS g' H'.m w4∧Fr g H g' H'∧Ext g H.m w g' H'.m w4∧w4.heap[w.heap.size+1]?=some (.loop (rec .done (some c)))∧w4.heap[w.heap.size]?=some (.deferred (some []))):=fun c ae' hc' hq => by
        obtain ⟨f1,f2,f3⟩:=fin (some c)
        exact ⟨_,_,f1,rfl,rfl,c,ae',H2,g3,hc',hq,r2.turn l3 _,fr3,ext4.turn hll _,f2,f3⟩
      have same:∀ (o:Obj) b,b < W.heap.size→¬ X b→(w3.putObj (w.heap.size+1) o).heap[b]?=W.heap[b]?:=fun o b hb' hX => by
        have n1:b≠w.heap.size+1:=fun q => hX ((k7 b).2 (.inr q))
        have n2:¬ Own g2 H'.m b:=fun q => hX ((k7 b).2 (.inl ((hown2 b).1 q)))
        have n3:¬ Own g1 H1.m b:=fun q => by
          rcases q5.own b q with q | q
          · omega
          · exact n2 q
        have e1:=q5.old b hb' n2
        have e2:w2.heap[b]?=w1.heap[b]?:=by rw [← hw2]; exact World.putObj_heap_other n1
        have e3 := r5.old b (by have := q5.size; have h2s : w2.heap.size = w1.heap.size := by rw [← hw2]; simp
                                omega) n3
        exact (World.putObj_heap_other n1).trans (e3.trans (e2.trans e1))
      cases ae with
      | norm =>
        cases e<;>simp only [AEx.is] at r0
        obtain ⟨f1,f2,f3⟩:=fin none
        refine ⟨_,_,f1,by simpa using sz3,same _,.inl ⟨rfl,fun b => Own g3 H2.m b∨b=w.heap.size+1,⟨H2,g3,r1,r2.turn l3 _,fr3,ext4.turn hll _,f2,f3,fun _ => Iff.rfl⟩,fun b hb' => ?_⟩⟩
        rcases hb' with hb' | hb'
        · rcases own3 b hb' with q | q
          · exact .inr q
          · exact .inl ((k7 b).2 (.inl q))
        · exact .inl ((k7 b).2 (.inr hb'))
      | exit id =>
        cases e<;>simp only [AEx.is] at r0
        subst r0
        obtain ⟨v,w4,f1,rfl,rfl,f2⟩:=stop (.exit id) (.exit id) (.inr ⟨id,rfl,rfl⟩) r1
        exact ⟨_,_,f1,by simpa using sz3,same _,.inr ⟨rfl,f2⟩⟩
      | ret =>
        cases e<;>simp only [AEx.is] at r0
        obtain ⟨v,w4,f1,rfl,rfl,f2⟩:=stop .ret .ret (.inl ⟨rfl,rfl⟩) r1
        exact ⟨_,_,f1,by simpa using sz3,same _,.inr ⟨rfl,f2⟩⟩
    ·
      rintro b c hb' (⟨id,o,s',n',q1,q2⟩ | rfl)
      · have:=(hs.live id o q1).unF q2; rw [this] at hb'; cases hb'
      · obtain ⟨_,_,q⟩:=hs1.1.fro _ _ hb'
        rw [hL1] at q; cases q
    ·
      have ra:∀ {H':Hp} {g':G} {W':World},Ext g H.m w g' H'.m W'→W'.heap[w.heap.size]?=some (.deferred (some []))→RA (some B0) g' σ { a with defers:=[{ target:=.collected w.heap.size,args:=#[] }]++a.defers } N W':=fun q1 q2 =>
        ⟨fun t v ht => R.mono q1.le _ _ (hr.vR t v ht),hr.sizeA,⟨fun d hd => by
          rcases List.mem_cons.1 hd with rfl | hd
          · exact ⟨_,rfl,⟨_,rfl,hbase⟩,q2⟩
          · exact (hr.defs.keep hs q1).marks d hd,by
          refine List.pairwise_cons.2 ⟨fun d hd => ?_,hr.defs.nd⟩
          rintro rfl
          obtain ⟨D,q3,_,q4⟩:=hr.defs.marks _ hd
          simp at q3; subst q3
          simp at q4,fun n hn => Nat.le_trans (hr.defs.base n hn) q1.size⟩⟩
      rintro e W2 ⟨⟨v,rfl⟩,⟨X',H',g',k1,k2,k3,k4,k5,k6,_⟩ | ⟨c,ae,H',g',k0,k1,k2,k3,k4,k5,k6⟩⟩
      · refine ⟨none,_,by have:=run_endLoop (P:=P) k5 (by rw [hrec]; simp); rw [hrec] at this; exact this, ?_⟩
        have k6':(W2.putObj (w.heap.size+1) (.loop { rec .ready none with state:=.exhausted })).heap[w.heap.size]?=some (.deferred (some [])):=(World.putObj_heap_other (by omega)).trans k6
        rw [hrec] at k6'
        exact ⟨.norm,σ,H',g',trivial,hend H' k1,k2.turn k5 _,k3,ra (k4.turn hll _) k6',k4.turn hll _⟩
      · refine ⟨some c,_,by have:=run_endLoop (P:=P) k5 (by rw [hrec]; simp); rw [hrec] at this; exact this, ?_⟩
        have k6':(W2.putObj (w.heap.size+1) (.loop { rec .done (some c) with state:=.exhausted })).heap[w.heap.size]?=some (.deferred (some [])):=(World.putObj_heap_other (by omega)).trans k6
        rw [hrec] at k6'
        rcases k0 with ⟨rfl,rfl⟩ | ⟨id,rfl,rfl⟩
        · exact wpIn_ret ⟨.ret,σ,H',g',trivial,k1,k2.turn k5 _,k3,ra (k4.turn hll _) k6',k4.turn hll _⟩
        · exact wpIn_exit ⟨.exit id,σ,H',g',rfl,k1,k2.turn k5 _,k3,ra (k4.turn hll _) k6',k4.turn hll _⟩
  | nx x is outs =>
    intro ro code σ H Q g a w hro hc h hs hf hr
    cases code<;>try (simp [chkC] at hc; done)
    exact d5y hc h hs hf hr
  | exit id =>
    intro ro code σ H Q g a w hro hc h hs hf hr
    cases code<;>try (simp [chkC] at hc; done)
    simp [chkC] at hc; subst hc
    exact wpIn_exit ⟨.exit _,σ,H,g,rfl,h,hs,.refl hf,hr,Ext.refl _ _ _⟩
  | ret =>
    intro ro code σ H Q g a w hro hc h hs hf hr
    cases code<;>try (simp [chkC] at hc; done)
    exact wpIn_ret ⟨.ret,σ,H,g,trivial,h,hs,.refl hf,hr,Ext.refl _ _ _⟩
  | skip =>
    intro ro code σ H Q g a w hro hc h hs hf hr
    cases code<;>try (simp [chkC] at hc; done)
    · exact wpIn_skip ⟨.norm,σ,H,g,trivial,h,hs,.refl hf,hr,Ext.refl _ _ _⟩
    · exact wpIn_label ⟨.norm,σ,H,g,trivial,h,hs,.refl hf,hr,Ext.refl _ _ _⟩
end
inductive RV where
 | t (n:Nat)
 | c (a:Nat) (k:Option Nat)
def a7g (k:Option Nat) (v:V) (m:Hm):Option V :=
 match v with
 | .ptr id i off => (match m id with
  | some (.arr _ l) => (match l[i]? with | some e => getC k off e | none => none)
  | _ => none)
 | _ => none
def resE (σ:Sg) (m:Hm):List RV→Option (List V)
 | [] => some []
 | .t n::r => (match find n σ with | some v => (match resE σ m r with | some l => some (v::l) | none => none) | none => none)
 | .c a k::r => (match find a σ with | some p => (match a7g k p m with | some v => (match resE σ m r with | some l => some (v::l) | none => none) | none => none) | none => none)
def pack:List V→V
 | [v] => v
 | l => .tup l
def a4r (P:Program):List ResultVar→List RV→Bool
 | [],[] => true
 | .tmp t::r,.t n::q => t == n && a4r P r q
 | .cell a t::r,.c a' k::q => a == a' && aggK P t == some k && a4r P r q
 | _,_ => false
def Fin (rvs:List RV) (r:V):QA:=fun e σ H => (e=.norm∨e=.ret)∧∃ l,resE σ H.m rvs=some l∧∃ v,c3o H.m (pack l)=some v∧(v=r∨a3n v=r∨lo v=r)
def argsE:Nat→List V→Sg
 | _,[] => []
 | k,v::vs => (k,v)::argsE (k+1) vs
theorem b2o:∀ {vs:List V} {k t:Nat} {v:V},find t (argsE k vs)=some v→k≤t∧vs[t - k]?=some v
 | [],_,_,_,h => by simp [argsE,find] at h
 | u::us,k,t,v,h => by
  simp only [argsE,find] at h;split at h
  ·rename_i e; subst e; simp at h; subst h; simp
  ·obtain ⟨h1,h2⟩:=b2o h;refine ⟨by omega, ?_⟩;rw [show t - k=(t - (k+1))+1 by omega]; simpa using h2
theorem c3u {P:Program} {g:G} {m:Hm} {w:World} {t:TypeId} {k:Option Nat} {p v:V} {x:Value} (hs:RS g m w) (hk:aggK P t=some k) (hr:R g p x) (h:a7g k p m=some v) :
  ∃ a y,x=.pointer (some a)∧(loadVar t a).run P w=.ok y w∧R g v y:=by
 unfold a7g at h;cases p<;>simp only at h<;>try (cases h; done)
 rename_i id i off;split at h
 ·rename_i sz l hm;split at h
  ·rename_i e he;simp only [R] at hr;obtain ⟨b,sz',n,q1,q2⟩:=hr;obtain ⟨b',n',cs,el,xs,post,p1,p2,p3,p4,p5,p6,p7,p8⟩:=a1e hs hm;rw [p1] at q1; simp at q1; obtain ⟨rfl,rfl,rfl⟩:=q1;obtain ⟨az,y,bs,r1,r2,r3,_⟩:=p5.get p6 he;have hc:CAt w b' (i*sz) y.cells.toList:=⟨cs,el.1,_,az,bs++post,p2,by rw [p7,r1]; simp,r2⟩;obtain ⟨z,z1,z2⟩:=b3l (P:=P) hk r3 hc h;exact ⟨_,z,q2,z1,z2⟩
  ·cases h
 ·cases h
def resF (tmps:Array Value):ResultVar→Sem Value
 | .tmp t => pure (tmps.getD t undef)
 | .cell c t => do loadVar t (← asAddr (tmps.getD c undef))
theorem b6n {P:Program} {g:G} {m:Hm} {w:World} {σ:Sg} {a:Act} {N:Nat} {B:Option Nat} {w':World} (hs:RS g m w) (hr:RA B g σ a N w'):∀ {rs:List ResultVar} {rvs:List RV} {l:List V},a4r P rs rvs=true→resE σ m rvs=some l →
  ∃ xs,(rs.mapM (resF a.tmps)).run P w=.ok xs w∧RC g l xs
 | [],[],l,_,h => by simp [resE] at h; subst h; exact ⟨[],by simp,by simp [RC]⟩
 | .tmp t::rs,.t n::rvs,l,hc,h => by
  simp only [a4r,Bool.and_eq_true,beq_iff_eq] at hc;obtain ⟨rfl,hc⟩:=hc;simp only [resE] at h;split at h
  ·rename_i v hv;split at h
   ·rename_i l' hl';simp at h; subst h;obtain ⟨xs,k1,k2⟩:=b6n hs hr hc hl';exact ⟨_::xs,by simp only [List.mapM_cons,resF,Sem.run_bind,Sem.run_pure,Result.andThen_ok,k1]; rfl,by simp only [RC]; exact ⟨_,xs,rfl,hr.vR _ _ hv,k2⟩⟩
   ·cases h
  ·cases h
 | .cell c t::rs,.c a' k::rvs,l,hc,h => by
  simp only [a4r,Bool.and_eq_true,beq_iff_eq] at hc;obtain ⟨⟨rfl,hk⟩,hc⟩:=hc;simp only [resE] at h;split at h
  ·rename_i p hp;split at h
   ·rename_i v hv;split at h
    ·rename_i l' hl';simp at h; subst h;obtain ⟨xs,k1,k2⟩:=b6n hs hr hc hl';obtain ⟨ad,y,e1,e2,e3⟩:=c3u (P:=P) hs hk (hr.vR _ _ hp) hv;refine ⟨y::xs, ?_,by simp only [RC]; exact ⟨_,xs,rfl,e3,k2⟩⟩;simp only [List.mapM_cons,resF,Sem.run_bind,e1,asAddr,Sem.run_pure,Result.andThen_ok,e2,k1]
    ·cases h
   ·cases h
  ·cases h
 | [],_::_,_,h,_ => by simp [a4r] at h
 | .tmp _::_,[],_,h,_ => by simp [a4r] at h
 | .cell _ _::_,[],_,h,_ => by simp [a4r] at h
 | .tmp _::_,.c _ _::_,_,h,_ => by simp [a4r] at h
 | .cell _ _::_,.t _::_,_,h,_ => by simp [a4r] at h
theorem b8s {P:Program} {fn:Func} {g:G} {m:Hm} {w:World} {σ:Sg} {a:Act} {N:Nat} {B:Option Nat} {w':World} (hs:RS g m w) (hr:RA B g σ a N w') {rvs:List RV} {l:List V} (hc:a4r P fn.results.toList rvs=true) (h:resE σ m rvs=some l) :
  ∃ x,(results fn a.tmps).run P w=.ok x w∧R g (pack l) x:=by
 obtain ⟨xs,k1,k2⟩:=b6n (P:=P) hs hr hc h;have hm:(fn.results.mapM (resF a.tmps)).run P w=.ok xs.toArray w:=by
  rw [Array.mapM_eq_mapM_toList,map_eq_pure_bind];simp only [Sem.run_bind,k1,Result.andThen_ok,Sem.run_pure]
 have he:results fn a.tmps=(do let vs ← fn.results.mapM (resF a.tmps); pure (if h:vs.size=1 then vs[0] else .tuple vs)):=rfl;rw [he];refine ⟨if h:xs.toArray.size=1 then xs.toArray[0] else .tuple xs.toArray,by simp only [Sem.run_bind,hm,Result.andThen_ok,Sem.run_pure], ?_⟩;have hlen:=k2.length;cases l with
 | nil =>
  simp only [RC] at k2; subst k2;simp [pack,R,RC]
 | cons v l =>
  simp only [RC] at k2;obtain ⟨y,ys,rfl,r1,r2⟩:=k2;cases l with
  | nil => simp only [RC] at r2; subst r2; simpa [pack] using r1
  | cons u l =>
   simp only [RC] at r2;obtain ⟨z,zs,rfl,r3,r4⟩:=r2;simp only [pack,R];refine ⟨(y::z::zs).toArray,by rw [dif_neg (by simp)], ?_⟩;simp only [RC];exact ⟨y,_,rfl,r1,z,zs,rfl,r3,r4⟩
theorem shut {B:Nat} {g:G} {m:Hm} {w:World} {D:Nat} (hB:B≤D) (hD:w.heap[D]?=some (.deferred (some []))) {g0:G} {m0:Hm} {w0:World} (hw0:w0.heap.size≤B) (hs:RS g m w) (hx:Ext g0 m0 w0 g m w) :
  RS g m (w.putObj D (.deferred none))∧Ext g0 m0 w0 g m (w.putObj D (.deferred none)):=by
 have ho:=hs.not_own (b:=D) (by simp [hD]) (by simp [hD]) (by simp [hD]);refine ⟨⟨fun b cs k => ?_,fun id o k => ?_,hs.inj,hs.tab⟩,⟨by simpa using hx.size,fun b hb ho' => ?_,hx.le,hx.own,hx.froz,hx.os,hx.tape,hx.output⟩⟩
 ·obtain ⟨e,fr,h1⟩:=hs.fro b cs k;have:b≠D:=fun e' => by rw [e',hD] at h1; cases h1
  exact ⟨e,fr,(World.putObj_heap_other this).trans h1⟩
 ·refine (hs.live id o k).keep (.refl g) fun b s n hb => ⟨World.putObj_heap_other fun e => ho ⟨id,o,s,n,k,by rw [← e]; exact hb⟩,(hs.live id o k).unF hb⟩
 ·have:b≠D:=by omega
  exact (World.putObj_heap_other this).trans (hx.old b hb ho')
theorem d2c {P:Program} {fn:Func} {tmps:Array Value} {Rr:Ending→World→Prop} {g0 g:G} {m0 m:Hm} {w0:World}:∀ {ds:List Deferred} {w:World},DefOk (some w0.heap.size) ds w→RS g m w→Ext g0 m0 w0 g m w →
  (∀ w',RS g m w'→Ext g0 m0 w0 g m w'→∃ v,(results fn tmps).run P w'=.ok v w'∧Rr (.returned v) w')→LeavesInM (Fw none) 0 P fn tmps Rr ds .returning w
 | [],w,_,hs,hx,h => h w hs hx
 | d::ds,w,hd,hs,hx,h => by
  obtain ⟨D,rfl,⟨_,hn,hB⟩,hD⟩:=hd.marks d (by simp);cases hn;refine ⟨by simp,.inl ⟨D,_,rfl,run_takeDeferred hD, ?_⟩⟩;obtain ⟨k1,k2⟩:=shut hB hD (Nat.le_refl _) hs hx;refine d2c ⟨fun d' hd' => ?_,(List.pairwise_cons.1 hd.nd).2,by simpa using hd.base⟩ k1 k2 h;obtain ⟨D',rfl,h1,h2⟩:=hd.marks d' (by simp [hd']);have hne:D'≠D:=fun e => (List.pairwise_cons.1 hd.nd).1 _ hd' (by rw [e]);exact ⟨D',rfl,h1,(World.putObj_heap_other hne).trans h2⟩
theorem e5p {P:Program} (hm:P.follows .mixedOrders=true) {f:Nat} {fn:Func} {c0:Code} {c:C} {rvs:List RV} (hf:P.funcs[f]?=some fn) (hb:fn.body=some c0) (hn:(fn.name == "runtime.NumGoroutine")=false)
  (hc:chkC P fn.ntmps c0 c=true) (hr:a4r P fn.results.toList rvs=true) {vs:List V} {r:V} (hlen:vs.length≤fn.ntmps) (hcl:a0b vs=true)
  (h:ev P c (argsE 0 vs) ⟨0,fun _ => none⟩ (Fin rvs r)):PCall P f vs r:=by
 refine ⟨⟨fn,hf,by rw [hb]; rfl,hn⟩,fun m g w xs hs hx => ?_⟩;refine (a9k (ro:=none) (n:=0)).1 (callsIn_of_wp_marks hf hb trivial ?_);have hs0:RS ⟨fun _ => none,g.F⟩ (fun _ => none) w:=⟨hs.fro,by simp,by simp,hs.tab⟩;have hx0:RC ⟨fun _ => none,g.F⟩ vs xs.toList:=RC.closed (g:=g) (g':=⟨fun _ => none,g.F⟩) (fun _ _ k => k) _ _ hcl hx;have hxl:xs.size=vs.length:=by simpa using hx.length
 have ha0:RA (some w.heap.size) ⟨fun _ => none,g.F⟩ (argsE 0 vs) { tmps:=xs++Array.replicate (fn.ntmps - xs.size) undef,defers:=[] } fn.ntmps w:=by
  refine ⟨fun t v ht => ?_,by simp; omega,.nil (by simp)⟩;obtain ⟨_,h2⟩:=b2o ht;obtain ⟨x,h3,h4⟩:=hx0.get h2;have hlt:t < xs.size:=by have:=(List.getElem?_eq_some_iff.1 h2).1; omega
  have:(xs++Array.replicate (fn.ntmps - xs.size) undef).getD t undef=x:=by
   simp only [Nat.sub_zero] at h3;have h3':xs[t]?=some x:=by simpa using h3
   simp [Array.getElem?_append_left hlt,h3']
  rw [this]; exact h4
 refine wpIn_mono (b5w hm (.inl ⟨rfl,rfl⟩) hc h hs0 (fun _ _ => rfl) ha0) ?_;rintro e a' w1 ⟨ae,σ',H',g',k1,⟨hae,l,k2,v,k3,k4⟩,k5',k6,k7,k8'⟩;have key:LeavesInM (Fw none) 0 P fn a'.tmps (fun e w' => ∃ x F',e=.returned x∧R ⟨g.ι,F'⟩ r x∧RS ⟨g.ι,F'⟩ m w'∧Ext g m w ⟨g.ι,F'⟩ m w') a'.defers .returning w1:=?_
 ·rcases hae with rfl | rfl<;>cases e<;>simp only [AEx.is] at k1<;>exact key
 refine d2c k7.defs k5' k8' fun w' k5 k8 => ?_;obtain ⟨x,q1,q2⟩:=b8s (P:=P) (fn:=fn) k5 k7 hr k2;obtain ⟨F',p1,p2,p3,p4⟩:=c7e k5;have hsn:=c0e (g:=g') (g':=⟨g.ι,F'⟩) k5 p1 p4 k3 q2;have hr2:R ⟨g.ι,F'⟩ r x:=by
  rcases k4 with rfl | rfl | rfl
  ·exact hsn
  ·exact c1x hsn
  ·exact (lo_R _ _ hsn).1
 have hFg:∀ b cs,g.F b=some cs→F' b=some cs:=fun b cs hb' => p1 b cs (k8.le.F b cs hb');have hnew:∀ b cs,F' b=some cs→g.F b=some cs∨w.heap.size≤b:=by
  intro b cs hb';rcases p2 b cs hb' with h1 | h1
  ·rcases k8.froz b cs h1 with h2 | h2 | ⟨_,_,_,_,h2,_⟩
   ·exact .inl h2
   ·exact .inr h2
   ·cases h2
  ·rcases k8.own b h1 with h2 | ⟨_,_,_,_,h2,_⟩
   ·exact .inr h2
   ·cases h2
 have hold:∀ b,b < w.heap.size→w'.heap[b]?=w.heap[b]?:=fun b hb' => k8.old b hb' (fun ⟨_,_,_,_,h2,_⟩ => by cases h2);have hle:g.le ⟨g.ι,F'⟩:=⟨fun _ _ k => k,hFg⟩;have hrs:RS ⟨g.ι,F'⟩ m w':=by
  refine ⟨(p3 g.ι).fro,fun id o k => ?_,hs.inj,(p3 g.ι).tab⟩;refine (hs.live id o k).keep hle fun b s n hb' => ⟨hold b ((hs.live id o k).lt hb'), ?_⟩;cases hF:F' b with
  | none => exact hF
  | some cs =>
   rcases hnew b cs hF with h1 | h1
   ·have:=(hs.live id o k).unF hb'; rw [this] at h1; cases h1
   ·have:=(hs.live id o k).lt hb'; omega
 have hext:Ext g m w ⟨g.ι,F'⟩ m w' :=
  ⟨k8.size,fun b hb' _ => hold b hb',hle,fun b hb' => .inr hb',fun b cs hb' => (hnew b cs hb').imp (fun h => h) .inl,k8.os,k8.tape,k8.output⟩
 exact ⟨x,q1,x,F',rfl,hr2,hrs,hext⟩
def p (i:Ins):RI:=⟨i,none,[]⟩
abbrev mr (k:Nat):RI:=p (.mov (.r k))
abbrev mw (k:Nat):RI:=p (.mov (.v k))
abbrev xt (k i:Nat):RI:=p (.ext (.r k) i)
abbrev ld (k:Nat):RI:=p (.load none (.r k))
abbrev kn (n:Int):Src:=.k (.int .i64 n)
abbrev vv (t:Nat):Nat×Src:=(t,.v t)
abbrev rr (is:List RI) (outs:List (Nat×Src)):C:=.reg false is outs
theorem a2w {n:Int} (h1:-9223372036854775808≤n) (h2:n≤9223372036854775807):IntKind.wrap .i64 n=n:=by
 simp only [IntKind.wrap,IntKind.bits,IntKind.signed];simp [BitVec.toInt_ofInt,Int.bmod];omega
theorem e6p {a b:Int} (h:0≤a):a.tdiv b=a / b:=Int.tdiv_eq_ediv_of_nonneg h
theorem e4w {a b:Int} (h:0≤a):a.tmod b=a % b:=Int.tmod_eq_emod_of_nonneg h
abbrev Rs:=Option (Prop×V×List Nat×List (Nat×Option Ob)×Nat)
def okc (c:Prop) (v:V):Rs:=some (c,v,[],[],0)
def fin (o:Rs) (K:KI):Prop:=match o with | some (c,v,fp,ds,k) => c∧K v fp ds k | none => False
def intO (op:BinOp) (k:IntKind) (a:Int) (k':IntKind) (b:Int):Rs :=
 match op with
 | .shl => okc (0≤b) (.int k (k.wrap (a*2 ^ min b.toNat k.bits)))
 | .shr => okc (0≤b) (.int k (a.fdiv (2 ^ min b.toNat k.bits)))
 | .add => okc (k=k') (.int k (k.wrap (a+b)))
 | .sub => okc (k=k') (.int k (k.wrap (a - b)))
 | .mul => okc (k=k') (.int k (k.wrap (a*b)))
 | .quo => okc (k=k'∧b≠0) (.int k (k.wrap (a.tdiv b)))
 | .rem => okc (k=k'∧b≠0) (.int k (a.tmod b))
 | .and => okc (k=k') (.int k (a4s .and k a b))
 | .or => okc (k=k') (.int k (a4s .or k a b))
 | .xor => okc (k=k') (.int k (a4s .xor k a b))
 | .andNot => okc (k=k') (.int k (a4s .andNot k a b))
 | .eql => okc (k=k') (.bool (decide (a=b)))
 | .neq => okc (k=k') (.bool (!decide (a=b)))
 | .lss => okc (k=k') (.bool (decide (a < b)))
 | .leq => okc (k=k') (.bool (decide (a≤b)))
 | .gtr => okc (k=k') (.bool (decide (b < a)))
 | .geq => okc (k=k') (.bool (decide (b≤a)))
def strO (op:BinOp) (a b:List UInt8):Rs :=
 match op with
 | .add => okc (a.length+b.length≤9223372036854775807) (.str (a++b))
 | .eql => okc True (.bool (decide (a=b)))
 | .neq => okc True (.bool (!decide (a=b)))
 | .lss => okc True (.bool (Op.bytesLess a b))
 | .leq => okc True (.bool (Op.bytesLess a b || a == b))
 | .gtr => okc True (.bool !(Op.bytesLess a b || a == b))
 | .geq => okc True (.bool !(Op.bytesLess a b))
 | _ => none
def binO (op:BinOp) (x y:V):Rs :=
 match x,y with
 | .int k a,.int k' b => intO op k a k' b
 | .str a,.str b => strO op a b
 | _,_ => none
def d7e (o:Option V) (r:Option (List V)):Option (List V):=match o with | some v => (match r with | some vs => some (v::vs) | none => none) | none => none
theorem c5o {v:V} {vs:List V}:d7e (some v) (some vs)=some (v::vs):=rfl
def lk (L:Src→Option V):List Src→Option (List V)
 | [] => some []
 | s::ss => d7e (L s) (lk L ss)
def lo1 (L:Src→Option V):Option Src→Option (Option V)
 | none => some none
 | some s => match L s with | some v => some (some v) | none => none
def andO (c:Prop) (o:Option (Prop×V)):Option (Prop×V):=match o with | some (c',r) => some (c∧c',r) | none => none
theorem d8b {c c':Prop} {r:V}:andO c (some (c',r))=some (c∧c',r):=rfl
def bldV:List V→List (Nat×Nat×Src)→List V→Option (Prop×V)
 | z,[],_ => some (True,.agg z)
 | z,(off,sz,_)::ps,v::vs => andO (v.size=sz∧v.parts.all V.cell=true∧off+sz≤z.length) (bldV (splice z off v.parts) ps vs)
 | _,_::_,[] => none
def bldO (L:Src→Option V) (z:List V) (ps:List (Nat×Nat×Src)):Option (Prop×V) :=
 match lk L (ps.map fun p => p.2.2) with | some vs => bldV z ps vs | none => none
def bndO (d:Int):Option V→Option Int
 | none => some d
 | some (.int _ n) => some n
 | _ => none
def slcO (sz:Nat) (H:Hp) (x:V) (lo hi mx:Option V):Rs :=
 match x with
 | .fsl st sz' l => (match bndO 0 lo with
  | some a => (match bndO l.length hi with
   | some b => (match mx with
    | none => okc (sz'=sz∧0≤a∧0≤b∧a≤b∧b≤l.length) (.fsl (slSt st l.length b.toNat none) sz ((l.take b.toNat).drop a.toNat))
    | some (.int _ c) => okc (sz'=sz∧0≤a∧0≤b∧0≤c∧hi≠none∧a≤b∧b≤c∧c≤l.length) (.fsl (slSt st l.length b.toNat (some c.toNat)) sz ((l.take b.toNat).drop a.toNat))
    | _ => none)
   | none => none)
  | none => none)
 | .sl id off len => (match H.m id with
  | some (.arr sz' _) => (match mx with
   | none => (match bndO 0 lo with
    | some a => (match bndO len hi with
     | some b => some (sz'=sz∧0≤a∧0≤b∧a≤b∧b≤len,.sl id (off+a.toNat) (b.toNat - a.toNat),[id],[],0)
     | none => none)
    | none => none)
   | some _ => none)
  | _ => none)
 | .slc id off len cap => (match H.m id with
  | some (.arr sz' _) => (match mx with
   | none => (match bndO 0 lo with
    | some a => (match bndO len hi with
     | some b => some (sz'=sz∧0≤a∧0≤b∧a≤b∧b≤cap,.slc id (off+a.toNat) (b.toNat - a.toNat) (cap - a.toNat),[id],[],0)
     | none => none)
    | none => none)
   | some _ => none)
  | _ => none)
 | _ => none
def slsO (x:V) (lo hi:Option V):Rs :=
 match x with
 | .str s => (match bndO 0 lo with
  | some a => (match bndO s.length hi with
   | some b => okc (0≤a∧0≤b∧a≤b∧b≤s.length) (.str ((s.take b.toNat).drop a.toNat))
   | none => none)
  | none => none)
 | _ => none
def mnxO (mx:Bool) (k:IntKind) (a:Int):List V→Option Int
 | [] => some a
 | .int k' b::ys => if k'=k then mnxO mx k (if mx then max a b else min a b) ys else none
 | _::_ => none
def appO (H:Hp) (sz bt:Nat) (x y:V):Rs :=
  match rdA H.m y with
  | none => none
  | some (sz',ys) => (match x with
    | .fsl st sz'' l => (match ys with
      | [] => some (sz'=sz∧sz''=sz,x,fpS y,[],0)
      | ys => some (sz'=sz∧sz''=sz∧(st≠.loose∧st≠.nn)∧(l.length+ys.length)*bt≤140737488355328,.sl H.n 0 (l.length+ys.length),fpS y,[(H.n,some (.arr sz (l++ys)))],1))
    | .sl id off len => (match H.m id with
      | some (.arr sz'' l) => some (sz'=sz∧sz''=sz∧off=0∧len≤l.length∧(len+ys.length)*bt≤140737488355328,.sl H.n 0 (len+ys.length),id::fpS y,[(id,none),(H.n,some (.arr sz (l.take len++ys)))],1)
      | _ => none)
    | .slc id off len cap => (match H.m id with
      | some (.arr sz'' l) => if len+ys.length≤cap then some (sz'=sz∧sz''=sz∧off=0∧0 < ys.length∧len+ys.length≤l.length,.slc id 0 (len+ys.length) cap,id::fpS y,[(id,some (.arr sz (l.take len++ys++l.drop (len+ys.length))))],0)
          else some (sz'=sz∧sz''=sz∧off=0∧0 < ys.length∧len≤l.length∧(len+ys.length)*bt≤140737488355328,.sl H.n 0 (len+ys.length),id::fpS y,[(H.n,some (.arr sz (l.take len++ys)))],1)
      | _ => none)
    | _ => none)
def cpyO (H:Hp) (sz:Nat) (x y:V):Rs :=
 match rd H.m (unS y) with
 | none => none
 | some (sz',ys) => (match unS x with
  | .sl id off len => (match H.m id with
   | some (.arr sz'' l) => some (sz'=sz∧sz''=sz∧off+len≤l.length,.int .i64 ((min ys.length len:Nat):Int),id::fpS (unS y),[(id,some (.arr sz (l.take off++ys.take len++l.drop (off+min ys.length len))))],0)
   | _ => none)
  | .fsl _ _ [] => some (sz'=sz,.int .i64 0,fpS (unS y),[],0)
  | _ => none)
def apzO (H:Hp) (sz bt:Nat) (z x n:V):Rs :=
  match x,n with
  | .slc id off len cap,.int .i64 k => (match H.m id with
    | some (.arr sz' l) => some (sz'=sz∧off=0∧len≤l.length∧0≤k∧(cap:Int) < len+k∧(len+k.toNat)*bt≤140737488355328∧z.size=sz∧z.isEl=true,
        .sl H.n 0 (len+k.toNat),[id],[(H.n,some (.arr sz (l.take len++List.replicate k.toNat z)))],1)
    | _ => none)
  | _,_ => none
def mdlP (ks:List Nat) (id:Nat) (k:V):Option Ob→Rs
 | some (.md c bs l) => some (a3r ks k l,.tup [],[id],[(id,some (.md c (bs.eraseIdx (mix l k)) (l.eraseIdx (mix l k))))],0)
 | _ => none
def mdlO (H:Hp) (ks:List Nat):Option V→Option V→Rs
 | some (.map id),some k => mdlP ks id k (H.m id)
 | _,_ => none
def rngP (id n:Nat):Option Ob→Rs
 | some (.md c _ _) => some (True,.ptr n 0 0,[id],[(n,some (.it id c []))],1)
 | _ => none
def rngO (H:Hp):Option V→Rs
 | some (.map id) => rngP id H.n (H.m id)
 | _ => none
def entR (id mid c c':Nat):Option (V×V)→Rs
 | some p => some (c'=c,.tup [p.1,p.2],[id,mid],[],0)
 | none => none
def entQ (id mid c:Nat) (seen:List Nat):Option Ob→Rs
 | some (.md c' bs l) => entR id mid c c' (entO bs l seen)
 | _ => none
def entP (H:Hp) (id:Nat):Option Ob→Rs
 | some (.it mid c seen) => entQ id mid c seen (H.m mid)
 | _ => none
def entX (H:Hp):Option V→Rs
 | some (.ptr id 0 0) => entP H id (H.m id)
 | _ => none
def opI (L:Src→Option V) (H:Hp):Ins→Rs
 | .mov x => (match L x with | some v => okc True v | none => none)
 | .same x => (match L x with | some (.str s) => okc True (.str s) | _ => none)
 | .pick c x y => (match L c with
  | some (.bool c) => (match L x,L y with
   | some (.bool a),some (.bool b) => okc True (.bool (if c=true then a else b))
   | some u,some v => (match c with | true => okc True u | false => okc True v)
   | _,_ => none)
  | _ => none)
 | .bin op x y => (match L x with | some a => (match L y with | some b => binO op a b | none => none) | none => none)
 | .eqb neg x y => (match L x,L y with
  | some (.bool a),some (.bool b) => okc True (.bool (if neg then !(a == b) else a == b))
  | _,_ => none)
 | .eqn neg kd x => (match L x with
  | some a => (match isNil kd a with
   | some b => okc True (.bool (if neg then !b else b))
   | none => none)
  | none => none)
 | .eqs neg ks x y => (match L x,L y with
  | some (.agg l),some (.agg l') => (match eqF ks l l' with | some r => okc True (.bool (if neg then !r else r)) | none => none)
  | _,_ => none)
 | .un op x => (match op,L x with
  | .not,some (.bool b) => okc True (.bool !b)
  | .neg,some (.int k n) => okc True (.int k (k.wrap (0 - n)))
  | .xor,some (.int k n) => okc True (.int k (a4s .xor k (if k.signed then -1 else k.max) n))
  | _,_ => none)
 | .cvt k x => (match L x with | some (.int _ n) => okc True (.int k (k.wrap n)) | _ => none)
 | .stb x => (match L x with | some (.str s) => okc True (.fsl .loose 1 (s.map fun b => .int .u8 b.toNat)) | _ => none)
 | .alloc sz z => some (z.size=sz∧z.isEl=true,.ptr H.n 0 0,[],[(H.n,some (.arr sz [z]))],1)
 | .box sz x => (match L x with | some v => some (v.size=sz∧v.isEl=true,.ptr H.n 0 0,[],[(H.n,some (.arr sz [v]))],1) | none => none)
 | .build z ps => (match bldO L z ps with | some (c,v) => okc c v | none => none)
 | .bsl sz ps => (match lk L ps with | some vs => okc (∀ v∈vs,v.size=sz∧v.isEl=true) (.fsl .full sz vs) | none => none)
 | .load k a => (match L a with
  | some (.fptr e off) => (match getC k off e with | some v => okc True v | none => none)
  | some (.ptr id i off) => (match H.m id with
   | some (.arr _ l) => (match l[i]? with | some e => (match getC k off e with | some v => some (True,v,[id],[],0) | none => none) | none => none)
   | _ => none)
  | _ => none)
 | .store k a x => (match L a,L x with
  | some (.ptr id i off),some x => (match H.m id with
   | some (.arr sz l) => (match l[i]? with | some e => (match setC k off e x with | some e' => some (True,.tup [],[id],[(id,some (.arr sz (l.set i e')))],0) | none => none) | none => none)
   | _ => none)
  | _,_ => none)
 | .fad off x => (match L x with
  | some (.fptr e o) => okc True (.fptr e (o+off))
  | some (.ptr id i o) => okc True (.ptr id i (o+off))
  | _ => none)
 | .fld off k x => (match L x with
  | some (.agg l) => (match getC k off (.agg l) with | some v => okc True v | none => none)
  | _ => none)
 | .iad sz x i => (match L x,L i with
  | some (.fsl _ sz' l),some (.int _ n) => (match l[n.toNat]? with | some e => okc (sz'=sz∧0≤n) (.fptr e 0) | none => none)
  | some (.sl id off len),some (.int _ n) => (match H.m id with
   | some (.arr sz' _) => some (sz'=sz∧0≤n∧n < len,.ptr id (off+n.toNat) 0,[id],[],0)
   | _ => none)
  | _,_ => none)
 | .ixs x i => (match L x,L i with
  | some (.str s),some (.int _ n) => (match s[n.toNat]? with | some b => okc (0≤n) (.int .u8 b.toNat) | none => none)
  | _,_ => none)
 | .slc sz x lo hi mx => (match L x,lo1 L lo,lo1 L hi,lo1 L mx with
  | some x,some lo,some hi,some mx => slcO sz H x lo hi mx
  | _,_,_,_ => none)
 | .sls x lo hi => (match L x,lo1 L lo,lo1 L hi with
  | some x,some lo,some hi => slsO x lo hi
  | _,_,_ => none)
 | .ext x i => (match L x with
  | some (.tup l) => (match l[i]? with | some v => okc True v | none => none)
  | _ => none)
 | .mkf f fs cs => (match lk L fs,lk L cs with | some fs,some cs => okc True (.fn f fs cs) | _,_ => none)
 | .mks sz bt z l => (match L l with
  | some (.int .i64 n) => some (0≤n∧n≤9223372036854775807∧bt*n≤281474976710656∧z.size=sz∧z.isEl=true,.sl H.n 0 n.toNat,[],[(H.n,some (.arr sz (List.replicate n.toNat z)))],1)
  | _ => none)
 | .nck x => (match L x with
  | some (.ptr a b c) => okc True (.ptr a b c)
  | some (.fptr a b) => okc True (.fptr a b)
  | _ => none)
 | .len str x => (match str,L x with
  | true,some (.str s) => okc True (.int .i64 s.length)
  | false,some (.fsl _ _ l) => okc True (.int .i64 l.length)
  | false,some (.sl _ _ len) => okc True (.int .i64 len)
  | false,some (.slc _ _ len _) => okc True (.int .i64 len)
  | _,_ => none)
 | .mnx mx x ys => (match L x,lk L ys with
  | some (.int k n),some ys => (match mnxO mx k n ys with | some r => okc True (.int k r) | none => none)
  | _,_ => none)
 | .app sz bt x y => (match L x,L y with | some x,some y => appO H sz bt x y | _,_ => none)
 | .cpy sz x y => (match L x,L y with | some x,some y => cpyO H sz x y | _,_ => none)
 | .mki t x => (match L x with | some v => okc True (.ifc t v) | none => none)
 | .mkm => some (True,.map H.n,[],[(H.n,some (.mp []))],1)
 | .mlk ok ks z x k => (match L x,L k with
  | some (.map id),some k => (match H.m id with | some (.mp l) => some (a3r ks k l,mres ok (mget l k) z,[id],[],0) | _ => none)
  | _,_ => none)
 | .mup ks x k v => (match L x,L k,L v with
  | some (.map id),some k,some v => (match H.m id with | some (.mp l) => some (a3r ks k l,.tup [],[id],[(id,some (.mp (mset l k v)))],0) | some (.md c bs l) => some (a3r ks k l,.tup [],[id],[(id,some (b1m c bs l k v))],0) | _ => none)
  | _,_,_ => none)
 | .men ks z x k => (match L x,L k with
  | some (.map id),some k => (match H.m id with | some (.mp l) => some (a3r ks k l,.tup [(mget l k).getD z,.int .i64 (mix l k)],[id],[(id,some (.mp (mset l k ((mget l k).getD z))))],0) | _ => none)
  | _,_ => none)
 | .mes x s v => (match L x,L s,L v with
  | some (.map id),some (.int .i64 i),some v => (match H.m id with | some (.mp l) => some (0≤i∧i.toNat < l.length,.tup [],[id],[(id,some (.mp (mput l i.toNat v)))],0) | _ => none)
  | _,_,_ => none)
 | .mln x => (match L x with
  | some (.map id) => (match H.m id with | some (.mp l) => some (True,.int .i64 l.length,[id],[],0) | _ => none)
  | _ => none)
 | .bts _ => none
 | .call _ _ _ => none
 | .sto x => (match L x with | some (.str s) => some (True,.sl H.n 0 s.length,[],[(H.n,some (.arr 1 (s.map fun b => .int .u8 b.toNat)))],1) | _ => none)
 | .cap x => (match L x with | some (.slc _ _ _ c) => okc True (.int .i64 c) | _ => none)
 | .apz sz bt z x n => (match L x,L n with | some x,some n => apzO H sz bt z x n | _,_ => none)
 | .xcl _ _ => none
 | .mkd => some (True,.map H.n,[],[(H.n,some (.md 0 [] []))],1)
 | .mdl ks x k => mdlO H ks (L x) (L k)
 | .rng x => rngO H (L x)
 | .ent x => entX H (L x)
theorem a5t {L:Src→Option V}:∀ {ss:List Src} {vs:List V} {K:List V→Prop},lk L ss=some vs→K vs→wvs L ss K
 | [],vs,K,h,k => by simp [lk] at h; subst h; simpa [wvs] using k
 | s::ss,vs,K,h,k => by
  simp only [lk,d7e] at h;split at h
  ·rename_i v hv;split at h
   ·rename_i us hus;simp at h; subst h;simp only [wvs,hv,wv];exact a5t (K:=fun us => K (v::us)) hus k
   ·cases h
  ·cases h
theorem a6l {L:Src→Option V} {o:Option Src} {v:Option V} {K:Option V→Prop} (h:lo1 L o=some v) (k:K v):wo L o K:=by
 cases o with
 | none => simp [lo1] at h; subst h; exact k
 | some s =>
  simp only [lo1] at h;split at h
  ·rename_i u hu; simp at h; subst h; simpa [wo,hu,wv] using k
  ·cases h
theorem b3x {L:Src→Option V}:∀ {ps:List (Nat×Nat×Src)} {z:List V} {c:Prop} {v:V} {K:V→Prop},bldO L z ps=some (c,v)→c→K v→a7u L z ps K
 | [],z,c,v,K,h,_,k => by simp [bldO,lk,bldV] at h; obtain ⟨_,rfl⟩:=h; simpa [a7u] using k
 | (off,sz,s)::ps,z,c,v,K,h,hc,k => by
  simp only [bldO,List.map_cons,lk,d7e] at h;cases hu:L s with
  | none => simp [hu] at h
  | some u =>
   cases hr:lk L (ps.map fun p => p.2.2) with
   | none => simp [hu,hr] at h
   | some us =>
    simp only [hu,hr,bldV] at h;cases hb:bldV (splice z off u.parts) ps us with
    | none => simp [hb,andO] at h
    | some q =>
     obtain ⟨c',r⟩:=q;simp only [hb,andO,Option.some.injEq,Prod.mk.injEq] at h;obtain ⟨rfl,rfl⟩:=h;simp only [a7u,hu,wv];exact ⟨hc.1.1,hc.1.2.1,hc.1.2.2,b3x (by simp only [bldO,hr]; exact hb) hc.2 k⟩
theorem a2b {d:Nat} {o:Option V} {a:Int} {K:Nat→Prop} (h:bndO d o=some a) (h0:0≤a) (k:K a.toNat):bnd d o K:=by
 cases o with
 | none => simp [bndO] at h; subst h; simpa [bnd] using k
 | some v =>
  cases v<;>simp only [bndO] at h<;>try (cases h; done)
  simp at h; subst h; exact ⟨h0,k⟩
theorem b4f {mx:Bool} {K:V→Prop} {k:IntKind}:∀ {ys:List V} {a r:Int},mnxO mx k a ys=some r→K (.int k r)→mnxV mx (.int k a) ys K
 | [],a,r,h,hk => by simp [mnxO] at h; subst h; simpa [mnxV] using hk
 | y::ys,a,r,h,hk => by
  cases y<;>simp only [mnxO] at h<;>try (cases h; done)
  rename_i k' b;split at h
  ·rename_i e; subst e;simp only [mnxV];refine ⟨trivial, ?_⟩;have e:(if mx=true then (if b > a then b else a) else (if b < a then b else a))=(if mx=true then max a b else min a b):=by
    cases mx<;>simp<;>split<;>omega
   rw [e];exact b4f h hk
  ·cases h
theorem beqd {α:Type} [BEq α] [LawfulBEq α] [DecidableEq α] (a b:α):(a == b)=decide (a=b):=by
 by_cases h:a=b<;>simp [h]
theorem c3l {op:BinOp} {x y:V} {K:KI} (h:fin (binO op x y) K):c6l op x y fun v => K v [] [] 0:=by
 unfold binO at h;split at h
 ·simp only [c6l];cases op<;>simpa [intO,d3y,fin,okc,and_assoc,beqd,bne] using h
 ·simp only [c6l];cases op<;>first | exact h.elim | simpa [strO,c7y,fin,okc,and_assoc,beqd,bne] using h
 ·exact h.elim
def slcP (sz:Nat) (H:Hp) (x:V) (lo hi mx:Option V) (K:KI):Prop :=
 match x with
 | .sl id off len => (match H.m id with | some (.arr sz' _) => sz'=sz∧a7s sz (.sl id off len) lo hi mx fun v => K v [id] [] 0 | _ => False)
 | .slc id off len cap => (match H.m id with | some (.arr sz' _) => sz'=sz∧a7s sz (.slc id off len cap) lo hi mx fun v => K v [id] [] 0 | _ => False)
 | a => a7s sz a lo hi mx fun v => K v [] [] 0
theorem c4o {sz:Nat} {H:Hp} {x:V} {lo hi mx:Option V} {K:KI} (h:fin (slcO sz H x lo hi mx) K):slcP sz H x lo hi mx K:=by
 cases x<;>simp only [slcO] at h<;>try exact h.elim
 ·rename_i id off len;simp only [slcP];split at h
  ·rename_i sz' l hm;split at h
   ·split at h
    ·rename_i a ha;split at h
     ·rename_i b hb;simp only [fin] at h;obtain ⟨⟨e1,e2,e3,e4,e5⟩,k⟩:=h;refine ⟨e1, ?_⟩;simp only [a7s];exact a2b ha e2 (a2b hb e3 ⟨by omega,by omega,k⟩)
     ·exact h.elim
    ·exact h.elim
   ·exact h.elim
  ·exact h.elim
 ·rename_i st sz' l;simp only [slcP];split at h
  ·rename_i a ha;split at h
   ·rename_i b hb;split at h
    ·simp only [fin,okc] at h;obtain ⟨⟨e1,e2,e3,e4,e5⟩,k⟩:=h;simp only [a7s];exact ⟨e1,a2b ha e2 (a2b hb e3 ⟨by omega,by omega,k⟩)⟩
    ·simp only [fin,okc] at h;obtain ⟨⟨e1,e2,e3,e4,e5,e6,e7,e8⟩,k⟩:=h;simp only [a7s];exact ⟨e1,a2b ha e2 (a2b hb e3 ⟨e4,e5,by omega,by omega,by omega,k⟩)⟩
    ·exact h.elim
   ·exact h.elim
  ·exact h.elim
 ·rename_i id off len cap;simp only [slcP];split at h
  ·rename_i sz' l hm;split at h
   ·split at h
    ·rename_i a ha;split at h
     ·rename_i b hb;simp only [fin] at h;obtain ⟨⟨e1,e2,e3,e4,e5⟩,k⟩:=h;refine ⟨e1, ?_⟩;simp only [a7s];exact a2b ha e2 (a2b hb e3 ⟨by omega,by omega,k⟩)
     ·exact h.elim
    ·exact h.elim
   ·exact h.elim
  ·exact h.elim
theorem c3g {x:V} {lo hi:Option V} {K:KI} (h:fin (slsO x lo hi) K):c0f x lo hi fun v => K v [] [] 0:=by
 cases x<;>simp only [slsO] at h<;>try exact h.elim
 split at h
 ·rename_i a ha;split at h
  ·rename_i b hb;simp only [fin,okc] at h;obtain ⟨⟨e2,e3,e4,e5⟩,k⟩:=h;simp only [c0f];exact a2b ha e2 (a2b hb e3 ⟨by omega,by omega,k⟩)
  ·exact h.elim
 ·exact h.elim
theorem c7l {P:Program} {L:Src→Option V} {H:Hp} {K:KI}:∀ (i:Ins),fin (opI L H i) K→evI P L H K i:=by
  intro i h
  cases i<;>simp only [opI] at h<;>simp only [evI]<;>try exact h.elim
  case mov x => split at h; · rename_i v hv; simpa [hv, wv, fin, okc] using h
                · exact h.elim
  case same x => split at h; · rename_i v hv; simpa [hv, wv, fin, okc] using h
                 · exact h.elim
  case pick c x y =>
    split at h
    · rename_i c hc
      simp only [hc,wv]
      split at h
      · rename_i a b h1 h2
        cases c<;>simpa [h1,h2,wv,fin,okc] using h
      · rename_i u v hn h1 h2
        cases c<;>simpa [h1,h2,wv,fin,okc] using h
      · exact h.elim
    · exact h.elim
  case bin op x y =>
    split at h
    · rename_i a ha
      split at h
      · rename_i b hb
        simp only [ha,hb,wv]
        exact c3l h
      · exact h.elim
    · exact h.elim
  case eqb neg x y =>
    split at h
    · rename_i a b h1 h2; simpa [h1,h2,wv,fin,okc] using h
    · exact h.elim
  case eqn neg kd x =>
    split at h
    · rename_i a h1
      split at h
      · rename_i b h2; simpa [h1,h2,wv,fin,okc] using h
      · exact h.elim
    · exact h.elim
  case eqs neg ks x y =>
    split at h
    · rename_i a b h1 h2
      split at h
      · rename_i r h3; simpa [h1,h2,h3,wv,fin,okc] using h
      · exact h.elim
    · exact h.elim
  case un op x =>
    split at h<;>first | exact h.elim | (rename_i h1; simpa [h1,wv,fin,okc] using h) | (rename_i h1 h2; simpa [h1,h2,wv,fin,okc] using h)
  case cvt k x =>
    split at h
    · rename_i h1; simpa [h1,wv,fin,okc] using h
    · exact h.elim
  case stb x =>
    split at h
    · rename_i h1; simpa [h1,wv,fin,okc] using h
    · exact h.elim
  case sto x =>
    split at h
    · rename_i h1; simpa [h1,wv,fin] using h
    · exact h.elim
  case alloc sz z => simpa [fin,and_assoc] using h
  case box sz x =>
    split at h
    · rename_i h1; simpa [h1,wv,fin,and_assoc] using h
    · exact h.elim
  case build z ps =>
    split at h
    · rename_i c v h1
      simp only [fin,okc] at h
      exact b3x h1 h.1 h.2
    · exact h.elim
  case bsl sz ps =>
    split at h
    · rename_i vs h1
      simp only [fin,okc] at h
      exact a5t h1 h
    · exact h.elim
  case load k a =>
    split at h
    · rename_i e off h1
      split at h
      · rename_i v h2; simpa [h1,h2,wv,fin,okc] using h
      · exact h.elim
    · rename_i id i off h1
      split at h
      · rename_i l h2
        split at h
        · rename_i e h3
          split at h
          · rename_i v h4; simpa [h1,h2,h3,h4,wv,fin,okc] using h
          · exact h.elim
        · exact h.elim
      · exact h.elim
    · exact h.elim
  case store k a x =>
    split at h
    · rename_i id i off x h1 h0
      split at h
      · rename_i l h2
        split at h
        · rename_i e h3
          split at h
          · rename_i v h4; simpa [h1,h0,h2,h3,h4,wv,fin,okc] using h
          · exact h.elim
        · exact h.elim
      · exact h.elim
    · exact h.elim
  case fad off x =>
    split at h
    · rename_i h1; simpa [h1,wv,fin,okc] using h
    · rename_i h1; simpa [h1,wv,fin,okc] using h
    · exact h.elim
  case fld off k x =>
    split at h
    · rename_i l h1
      split at h
      · rename_i v h2; simpa [h1,h2,wv,fin,okc] using h
      · exact h.elim
    · exact h.elim
  case iad sz x i =>
    split at h
    · rename_i h1 h2
      split at h
      · rename_i e h3; simpa [h1,h2,h3,wv,fin,okc,and_assoc] using h
      · exact h.elim
    · rename_i h1 h2
      split at h
      · rename_i h3
        simp only [fin] at h
        obtain ⟨⟨e1,e2,e3⟩,k⟩:=h
        simp only [h1,h2,wv]
        refine ⟨e2,e3, ?_⟩
        simp only [h3]
        exact ⟨e1,k⟩
      · exact h.elim
    · exact h.elim
  case ixs x i =>
    split at h
    · rename_i h1 h2
      split at h
      · rename_i b h3; simpa [h1,h2,h3,wv,fin,okc,and_assoc] using h
      · exact h.elim
    · exact h.elim
  case slc sz x lo hi mx =>
    split at h
    · rename_i x lo hi mx h1 h2 h3 h4
      simp only [h1,wv]
      refine a6l h2 (a6l h3 (a6l h4 ?_))
      have k:=c4o h
      cases x<;>exact k
    · exact h.elim
  case sls x lo hi =>
    split at h
    · rename_i x lo hi h1 h2 h3
      simp only [h1,wv]
      exact a6l h2 (a6l h3 (c3g h))
    · exact h.elim
  case ext x i =>
    split at h
    · rename_i l h1
      split at h
      · rename_i v h2; simpa [h1,h2,wv,fin,okc] using h
      · exact h.elim
    · exact h.elim
  case mkf f fs cs =>
    split at h
    · rename_i fs cs h1 h2
      simp only [fin,okc,true_and] at h
      exact a5t h1 (a5t h2 h)
    · exact h.elim
  case mks sz bt z l =>
    split at h
    · rename_i n h1
      simp only [fin] at h
      obtain ⟨⟨e1,e2,e3,e4,e5⟩,k⟩:=h
      simp only [h1,wv]
      exact ⟨e1,e2,e3,e4,e5,k⟩
    · exact h.elim
  case nck x =>
    split at h
    · rename_i h1; simpa [h1,wv,fin,okc] using h
    · rename_i h1; simpa [h1,wv,fin,okc] using h
    · exact h.elim
  case len str x =>
    split at h
    · rename_i h1; simpa [h1,wv,fin,okc] using h
    · rename_i h1; simpa [h1,wv,fin,okc] using h
    · rename_i h1; simpa [h1,wv,fin,okc] using h
    · rename_i h1; simpa [h1,wv,fin,okc] using h
    · exact h.elim
  case mnx mx x ys =>
    split at h
    · rename_i k n ys h1 h2
      split at h
      · rename_i r h3
        simp only [fin,okc,true_and] at h
        simp only [h1,wv]
        exact a5t h2 ⟨⟨k,n,rfl⟩,b4f h3 h⟩
      · exact h.elim
    · exact h.elim
  case app sz bt x y =>
    split at h
    · rename_i x y h1 h2
      simp only [h1,h2,wv]
      unfold appO at h
      split at h
      · exact h.elim
      · rename_i sz' ys h3
        simp only [h3]
        split at h
        · rename_i st sz'' l
          split at h
          · simp only [fin] at h
            exact ⟨h.1.1,h.1.2,h.2⟩
          · rename_i hne
            simp only [fin] at h
            obtain ⟨⟨e1,e2,e3,e4⟩,k⟩:=h
            refine ⟨e1,e2, ?_⟩
            cases ys with
            | nil => exact (hne rfl).elim
            | cons y ys => exact ⟨e3,e4,k⟩
        · rename_i id off len
          split at h
          · rename_i sz'' l h4
            simp only [fin] at h
            obtain ⟨⟨e1,e2,e3,e4,e5⟩,k⟩:=h
            simp only [h4]
            exact ⟨e1,e2,e3,e4,e5,k⟩
          · exact h.elim
        · rename_i id off len cap
          split at h
          · rename_i sz'' l h4
            simp only [h4]
            by_cases hr:len+ys.length≤cap
            · rw [if_pos hr] at h
              simp only [fin] at h
              obtain ⟨⟨e1,e2,e3,e4,e5⟩,k⟩:=h
              refine ⟨e1,e2,e3,e4, ?_⟩
              rw [if_pos hr]; exact ⟨e5,k⟩
            · rw [if_neg hr] at h
              simp only [fin] at h
              obtain ⟨⟨e1,e2,e3,e4,e5,e6⟩,k⟩:=h
              refine ⟨e1,e2,e3,e4, ?_⟩
              rw [if_neg hr]; exact ⟨e5,e6,k⟩
          · exact h.elim
        · exact h.elim
    · exact h.elim
  case cap x =>
    split at h
    · rename_i h1; simpa [h1,wv,fin,okc] using h
    · exact h.elim
  case apz sz bt z x n =>
    split at h
    · rename_i x n h1 h2
      simp only [h1,h2,wv]
      unfold apzO at h
      split at h
      · split at h
        · rename_i h3
          simp only [h3]
          simpa [fin,and_assoc] using h
        · exact h.elim
      · exact h.elim
    · exact h.elim
  case cpy sz x y =>
    split at h
    · rename_i x y h1 h2
      simp only [h1,h2,wv]
      unfold cpyO at h
      generalize unS x=x at h ⊢
      generalize unS y=y at h ⊢
      split at h
      · exact h.elim
      · rename_i sz' ys h3
        simp only [h3]
        split at h
        · rename_i id off len
          split at h
          · rename_i sz'' l h4
            simp only [fin] at h
            obtain ⟨⟨e1,e2,e3⟩,k⟩:=h
            simp only [h4]
            exact ⟨e1,e2,e3,k⟩
          · exact h.elim
        · simp only [fin] at h
          exact ⟨h.1,h.2⟩
        · exact h.elim
    · exact h.elim
  case mki t x =>
    split at h
    · rename_i h1; simpa [h1,wv,fin,okc] using h
    · exact h.elim
  case mkm => simpa [fin] using h
  case mlk ok ks z x k =>
    split at h
    · rename_i id k h1 h2
      split at h
      · rename_i l h3
        simp only [fin] at h
        simp only [h1,h2,wv,h3]
        exact h
      · exact h.elim
    · exact h.elim
  case mkd => simpa [fin] using h
  case mdl ks x k =>
    unfold mdlO at h
    split at h
    · rename_i id k h1 h2
      unfold mdlP at h
      split at h
      · rename_i c bs l h3
        simp only [fin] at h
        simp only [h1,h2,wv,h3]
        exact h
      · exact h.elim
    · exact h.elim
  case ent x =>
    unfold entX at h
    split at h
    · rename_i id h1
      unfold entP at h
      split at h
      · rename_i mid c seen h2
        unfold entQ at h
        split at h
        · rename_i c' bs l h3
          unfold entR at h
          split at h
          · rename_i p h4
            simp only [fin] at h
            simp only [h1,wv,h2,h3,h4]
            exact h
          · exact h.elim
        · exact h.elim
      · exact h.elim
    · exact h.elim
  case rng x =>
    unfold rngO at h
    split at h
    · rename_i id h1
      unfold rngP at h
      split at h
      · rename_i c bs l h3
        simp only [fin,true_and] at h
        simp only [h1,wv,h3]
        exact h
      · exact h.elim
    · exact h.elim
  case mup ks x k v =>
    split at h
    · rename_i id k v h1 h2 h0
      split at h
      · rename_i l h3
        simp only [fin] at h
        simp only [h1,h2,h0,wv,h3]
        exact h
      · rename_i c bs l h3
        simp only [fin] at h
        simp only [h1,h2,h0,wv,h3]
        exact h
      · exact h.elim
    · exact h.elim
  case men ks z x k =>
    split at h
    · rename_i id k h1 h2
      split at h
      · rename_i l h3
        simp only [fin] at h
        simp only [h1,h2,wv,h3]
        exact h
      · exact h.elim
    · exact h.elim
  case mes x s v =>
    split at h
    · rename_i id i v h1 h2 h0
      split at h
      · rename_i l h3
        simp only [fin] at h
        simp only [h1,h2,h0,wv,h3]
        exact h
      · exact h.elim
    · exact h.elim
  case mln x =>
    split at h
    · rename_i id h1
      split at h
      · rename_i l h3
        simp only [fin,true_and] at h
        simp only [h1,wv,h3]
        exact h
      · exact h.elim
    · exact h.elim
section
def e7p (P:Program) (f:Nat) (vs:List V) (K:KI):Prop:=∃ r,PCall P f vs r∧K r [] [] 0
def CallA (P:Program) (f:Nat) (vs:List V) (H:Hp) (K:KI):Prop:=∃ fp r ds k,ACall P f vs H fp r ds k∧K r fp ds k
def e9q (P:Program) (f:Nat) (vs:List V) (H:Hp) (K:KI):Prop:=∃ fp r,e3n P f vs H fp r∧K r fp [] 0
def Bts (o:Option (Nat×List V)) (fp:List Nat) (K:KI):Prop:=∃ s:List UInt8,o=some (1,s.map (fun b => .int .u8 b.toNat))∧K (.str s) fp [] 0
def opX (P:Program) (L:Src→Option V) (H:Hp) (K:KI):Ins→Prop
 | .call b f args => (match L f,lk L args with
  | some (.fn f fs cs),some vs => (match b with | true => e7p P f (fs++vs++cs) K | false => CallA P f (fs++vs++cs) H K)
  | _,_ => False)
 | .bts x => (match L x with | some v => Bts (rd H.m v) (fpS v) K | none => False)
 | .xcl f args => (match lk L args with | some vs => e9q P f vs H K | none => False)
 | i => fin (opI L H i) K
def setN:Nat→V→List V→List V
 | _,_,[] => []
 | 0,v,_::r => v::r
 | n+1,v,x::r => x::setN n v r
theorem b2c:∀ {n:Nat} {v:V} {l:List V},nth n l=some v→setN n v l=l
 | _,_,[],h => by simp [setN]
 | 0,v,x::r,h => by simp [nth] at h; subst h; rfl
 | n+1,v,x::r,h => by simp only [nth] at h; simp only [setN,b2c h]
def pkF (b:Bool) (v:V) (o:Option V):Option V:=match b with | true => some v | false => o
theorem e5l {v:V} {o:Option V}:pkF true v o=some v:=rfl
theorem e5s {v:V} {o:Option V}:pkF false v o=o:=rfl
theorem d8n {t:Nat}:find t []=none:=rfl
theorem d7v {t t':Nat} {v:V} {r:Sg}:find t ((t',v)::r)=pkF (t == t') v (find t r):=by
 simp only [find];by_cases h:t=t'
 ·subst h; simp [pkF]
 ·have:(t == t')=false:=by simpa using h
  rw [if_neg h,this]; rfl
def e3l (t:Nat) (o:Option V) (r:Option Sg):Option Sg:=match o with | some v => (match r with | some σ => some ((t,v)::σ) | none => none) | none => none
theorem c6o {t:Nat} {v:V} {σ:Sg}:e3l t (some v) (some σ)=some ((t,v)::σ):=rfl
def outO (L:Src→Option V):List (Nat×Src)→Option Sg
 | [] => some []
 | (t,s)::os => e3l t (L s) (outO L os)
def finS (o:Option Sg) (H:Hp) (Q:QA):Prop:=match o with | some σ => Q .norm σ H | none => False
def Ot (σ:Sg) (outs:List (Nat×Src)) (Q:QA):List V→Hp→Prop:=fun env H => finS (outO (look σ env) outs) H Q
def gd (o:Option V) (b:Bool) (x y z:Prop):Prop:=match o with
 | some (.bool c) => (c=b→x)∧(c=!b→y)
 | some (.tup []) => z
 | _ => False
def evX1 (P:Program) (σ:Sg):List RI→List V→Lg→Hp→(List V→Hp→Prop)→Prop
 | [],env,_,H,K => K env H
 | i::is,env,lg,H,K =>
  match i.g with
  | none => opX P (look σ env) H (fun v fp ds k => a1f i.u lg fp (ds.map (·.1))∧evX1 P σ is (v::env) ((fp,ds.map (·.1))::lg) ⟨H.n+k,appd ds H.m⟩ K) i.i
  | some (d,b) => gd (nth d env) b
    (opX P (look σ (setN d (.bool b) env)) H (fun v fp ds k => a1f i.u lg fp (ds.map (·.1))∧evX1 P σ is (v::setN d (.bool b) env) ((fp,ds.map (·.1))::lg) ⟨H.n+k,appd ds H.m⟩ K) i.i)
    (evX1 P σ is (.tup []::setN d (.bool !b) env) (([],[])::lg) H K)
    (evX1 P σ is (.tup []::env) (([],[])::lg) H K)
def Nx (P:Program) (σ:Sg) (is:List RI) (env:List V) (lg:Lg) (H:Hp) (u:List Nat) (K:List V→Hp→Prop):KI :=
 fun v fp ds k => a1f u lg fp (ds.map (·.1))∧evX1 P σ is (v::env) ((fp,ds.map (·.1))::lg) ⟨H.n+k,appd ds H.m⟩ K
def evX (P:Program):C→Sg→Hp→QA→Prop
 | .reg _ is outs,σ,H,Q => evX1 P σ is [] [] H (Ot σ outs Q)
 | .seq a b,σ,H,Q => evX P a σ H fun e σ' H' => match e with | .norm => evX P b σ' H' Q | e => Q e σ' H'
 | .cut a b,σ,H,Q => ∃ M:Sg→Hp→Prop,(evX P a σ H fun e σ' H' => match e with | .norm => M σ' H' | e => Q e σ' H')∧∀ σ' H',M σ' H'→evX P b σ' H' Q
 | .cond s a b,σ,H,Q => gd (look σ [] s) true (evX P a σ H Q) (evX P b σ H Q) False
 | .block id a,σ,H,Q => evX P a σ H fun e σ' H' => if e=.exit id then Q .norm σ' H' else Q e σ' H'
 | .loop a,σ,H,Q => ∃ (I:Sg→Hp→Prop) (μ:Sg→Hp→Nat),I σ H∧∀ σ H,I σ H→evX P a σ H fun e σ' H' => match e with
  | .norm => I σ' H'∧μ σ' H' < μ σ H
  | e => Q e σ' H'
 | .exit id,σ,H,Q => Q (.exit id) σ H
 | .ret,σ,H,Q => Q .ret σ H
 | .skip,σ,H,Q => Q .norm σ H
 | .frz a,σ,H,Q => evX P a σ H Q∨(∃ fz:List Nat,evX P a (frzS fz H.m σ) ⟨H.n,a1d fz H.m⟩ Q)∨∃ (fz ids:List Nat),evX P a (frzS fz H.m σ) ⟨H.n,loH ids (frzH fz H.m)⟩ Q
 | .rf s ps a b,σ,H,Q => ∃ (fn:Nat) (cs:List V) (els:List (List V)),look σ [] s=some (.fn fn [] cs)∧a0b cs=true∧SeqC P fn cs els∧(∀ el∈els,el.length=ps.length)∧∃ I:Nat→Hp→Prop,I 0 H ∧
   (∀ k el H',I k H'→els[k]?=some el→evX P a (b6s ps el σ) H' fun e σ1 H1 => match e with
    | .norm => evX P b σ1 H1 fun e _ H2 => match e with
     | .norm => I (k+1) H2
     | e => Q e σ H2
    | _ => False) ∧
   ∀ H',I els.length H'→Q .norm σ H'
 | .nx x is outs,σ,H,Q => ∃ (id mid c:Nat) (seen bs:List Nat) (l:List (V×V)),look σ [] x=some (.ptr id 0 0)∧H.m id=some (.it mid c seen)∧H.m mid=some (.md c bs l)∧(∀ b∈bs,b < c)∧bs.Nodup ∧
   ((∀ b∈bs,b∈seen)→evX1 P σ is [.tup [.bool false]] [([id,mid],[])] H (Ot σ outs Q)) ∧
   ∀ (i b:Nat) (p:V×V),bs[i]?=some b→l[i]?=some p→b∉seen→evX1 P σ is [.tup [.bool true,p.1,p.2]] [([id,mid],[id])] ⟨H.n,upd H.m id (some (.it mid c (seen++[b])))⟩ (Ot σ outs Q)
theorem e2y {m:Hm}:loH [] m=m:=by funext id; simp [loH]
def Th (P:Program) (b:C) (Q:QA):QA:=fun e σ' H' => match e with | .norm => evX P b σ' H' Q | e => Q e σ' H'
def Bk (id:Nat) (Q:QA):QA:=fun e σ' H' => if e=.exit id then Q .norm σ' H' else Q e σ' H'
def Ra (P:Program) (b:C) (Q:QA):QA:=fun e σ' H' => match e with | .norm => evX P b σ' H' Q | _ => False
def Rd (I:Sg→Hp→Prop) (μ:Sg→Hp→Nat) (n:Nat) (Q:QA):QA:=fun e σ' H' => match e with
  | .norm => I σ' H'∧μ σ' H' < n
  | e => Q e σ' H'
def evG (P:Program) (σ:Sg) (is:List RI) (env:List V) (lg:Lg) (H:Hp) (u:List Nat) (K:List V→Hp→Prop) (i:Ins) (d:Nat) (b:Bool) (o:Option V):Prop :=
 gd o b (opX P (look σ (setN d (.bool b) env)) H (Nx P σ is (setN d (.bool b) env) lg H u K) i) (evX1 P σ is (.tup []::setN d (.bool !b) env) (([],[])::lg) H K) (evX1 P σ is (.tup []::env) (([],[])::lg) H K)
def evC (P:Program) (a b:C) (σ:Sg) (H:Hp) (Q:QA) (o:Option V):Prop:=gd o true (evX P a σ H Q) (evX P b σ H Q) False
section
variable {P:Program} {σ:Sg} {H:Hp} {Q:QA} {env:List V} {lg:Lg} {K:List V→Hp→Prop} {is:List RI}
theorem e4e:evX1 P σ [] env lg H K=K env H:=rfl
theorem x_op {i:Ins} {u:List Nat}:evX1 P σ (⟨i,none,u⟩::is) env lg H K=opX P (look σ env) H (Nx P σ is env lg H u K) i:=rfl
theorem x_p {i:Ins}:evX1 P σ (p i::is) env lg H K=opX P (look σ env) H (Nx P σ is env lg H [] K) i:=rfl
theorem x_g {i:Ins} {u:List Nat} {d:Nat} {b:Bool}:evX1 P σ (⟨i,some (d,b),u⟩::is) env lg H K=evG P σ is env lg H u K i d b (nth d env):=rfl
theorem g_tt {i:Ins} {u:List Nat} {d:Nat}:evG P σ is env lg H u K i d true (some (.bool true))=opX P (look σ (setN d (.bool true) env)) H (Nx P σ is (setN d (.bool true) env) lg H u K) i:=by simp [evG,gd]
theorem g_ff {i:Ins} {u:List Nat} {d:Nat}:evG P σ is env lg H u K i d false (some (.bool false))=opX P (look σ (setN d (.bool false) env)) H (Nx P σ is (setN d (.bool false) env) lg H u K) i:=by simp [evG,gd]
theorem g_tf {i:Ins} {u:List Nat} {d:Nat}:evG P σ is env lg H u K i d true (some (.bool false))=evX1 P σ is (.tup []::setN d (.bool false) env) (([],[])::lg) H K:=by simp [evG,gd]
theorem g_ft {i:Ins} {u:List Nat} {d:Nat}:evG P σ is env lg H u K i d false (some (.bool true))=evX1 P σ is (.tup []::setN d (.bool true) env) (([],[])::lg) H K:=by simp [evG,gd]
theorem g_0 {i:Ins} {u:List Nat} {d:Nat} {b:Bool}:evG P σ is env lg H u K i d b (some (.tup []))=evX1 P σ is (.tup []::env) (([],[])::lg) H K:=rfl
theorem g_b {i:Ins} {u:List Nat} {d:Nat} {b c:Bool}:evG P σ is env lg H u K i d b (some (.bool c))=((c=b→opX P (look σ (setN d (.bool b) env)) H (Nx P σ is (setN d (.bool b) env) lg H u K) i)∧(c=!b→evX1 P σ is (.tup []::setN d (.bool !b) env) (([],[])::lg) H K)):=rfl
theorem g_d {i:Ins} {u:List Nat} {d:Nat} {b:Bool} {q:Prop} [Decidable q]:evG P σ is env lg H u K i d b (some (.bool (decide q)))=((decide q=b→opX P (look σ (setN d (.bool b) env)) H (Nx P σ is (setN d (.bool b) env) lg H u K) i)∧(decide q=!b→evX1 P σ is (.tup []::setN d (.bool !b) env) (([],[])::lg) H K)):=rfl
theorem g_n {i:Ins} {u:List Nat} {d:Nat} {b c:Bool}:evG P σ is env lg H u K i d b (some (.bool !c))=(((!c)=b→opX P (look σ (setN d (.bool b) env)) H (Nx P σ is (setN d (.bool b) env) lg H u K) i)∧((!c)=!b→evX1 P σ is (.tup []::setN d (.bool !b) env) (([],[])::lg) H K)):=rfl
theorem g_e {i:Ins} {u:List Nat} {d:Nat} {b x y:Bool}:evG P σ is env lg H u K i d b (some (.bool (x == y)))=(((x == y)=b→opX P (look σ (setN d (.bool b) env)) H (Nx P σ is (setN d (.bool b) env) lg H u K) i)∧((x == y)=!b→evX1 P σ is (.tup []::setN d (.bool !b) env) (([],[])::lg) H K)):=rfl
theorem x_nx {u:List Nat} {v:V} {fp:List Nat} {ds:List (Nat×Option Ob)} {k:Nat}:Nx P σ is env lg H u K v fp ds k =
 (a1f u lg fp (ds.map (·.1))∧evX1 P σ is (v::env) ((fp,ds.map (·.1))::lg) ⟨H.n+k,appd ds H.m⟩ K):=rfl
theorem x_ot {outs:List (Nat×Src)}:Ot σ outs Q env H=finS (outO (look σ env) outs) H Q:=rfl
theorem e5n {d:Bool} {outs:List (Nat×Src)}:evX P (.reg d is outs) σ H Q=evX1 P σ is [] [] H (Ot σ outs Q):=rfl
theorem e3r {a b:C}:evX P (.seq a b) σ H Q=evX P a σ H (Th P b Q):=rfl
theorem d9n {s:Src} {a b:C}:evX P (.cond s a b) σ H Q=evC P a b σ H Q (look σ [] s):=rfl
theorem c_t {a b:C}:evC P a b σ H Q (some (.bool true))=evX P a σ H Q:=by simp [evC,gd]
theorem c_f {a b:C}:evC P a b σ H Q (some (.bool false))=evX P b σ H Q:=by simp [evC,gd]
theorem c_b {a b:C} {c:Bool}:evC P a b σ H Q (some (.bool c))=((c=true→evX P a σ H Q)∧(c=false→evX P b σ H Q)):=rfl
theorem c_d {a b:C} {q:Prop} [Decidable q]:evC P a b σ H Q (some (.bool (decide q)))=((q→evX P a σ H Q)∧(¬ q→evX P b σ H Q)):=by simp [evC,gd]
theorem c_n {a b:C} {c:Bool}:evC P a b σ H Q (some (.bool !c))=((c=false→evX P a σ H Q)∧(c=true→evX P b σ H Q)):=by simp [evC,gd]
theorem c_e {a b:C} {x y:Bool}:evC P a b σ H Q (some (.bool (x == y)))=((x=y→evX P a σ H Q)∧(¬ x=y→evX P b σ H Q)):=by simp [evC,gd]
theorem d3x {id:Nat} {a:C}:evX P (.block id a) σ H Q=evX P a σ H (Bk id Q):=rfl
theorem d9l {id:Nat}:evX P (.exit id) σ H Q=Q (.exit id) σ H:=rfl
theorem e5e:evX P .ret σ H Q=Q .ret σ H:=rfl
theorem e0d:evX P .skip σ H Q=Q .norm σ H:=rfl
theorem th_n {b:C}:Th P b Q .norm σ H=evX P b σ H Q:=rfl
theorem th_e {b:C} {id:Nat}:Th P b Q (.exit id) σ H=Q (.exit id) σ H:=rfl
theorem th_r {b:C}:Th P b Q .ret σ H=Q .ret σ H:=rfl
theorem bk_n {id:Nat}:Bk id Q .norm σ H=Q .norm σ H:=rfl
theorem bk_e {id i:Nat}:Bk id Q (.exit i) σ H=if i=id then Q .norm σ H else Q (.exit i) σ H:=by simp [Bk]
theorem bk_r {id:Nat}:Bk id Q .ret σ H=Q .ret σ H:=rfl
theorem rd_n {I:Sg→Hp→Prop} {μ:Sg→Hp→Nat} {n:Nat}:Rd I μ n Q .norm σ H=(I σ H∧μ σ H < n):=rfl
theorem rd_e {I:Sg→Hp→Prop} {μ:Sg→Hp→Nat} {n id:Nat}:Rd I μ n Q (.exit id) σ H=Q (.exit id) σ H:=rfl
theorem rd_r {I:Sg→Hp→Prop} {μ:Sg→Hp→Nat} {n:Nat}:Rd I μ n Q .ret σ H=Q .ret σ H:=rfl
theorem e4a {c:Prop} {v:V} {fp:List Nat} {ds:List (Nat×Option Ob)} {k:Nat} {K:KI}:fin (some (c,v,fp,ds,k)) K=(c∧K v fp ds k):=rfl
theorem e6x {c:Prop} {v:V} {K:KI}:fin (okc c v) K=(c∧K v [] [] 0):=rfl
theorem d9y {σ':Sg}:finS (some σ') H Q=Q .norm σ' H:=rfl
theorem a0u {lg:Lg} {fp ds:List Nat}:a1f [] lg fp ds=True:=by simp [a1f]
theorem a0d {m:Hm} {id:Nat} {o:Option Ob}:upd m id o id=o:=by simp [upd]
theorem a0c {m:Hm} {id i:Nat} {o:Option Ob} (h:i≠id):upd m id o i=m i:=by simp [upd,h]
theorem c1t {a:C} (I:Sg→Hp→Prop) (μ:Sg→Hp→Nat) (h0:I σ H) (h:∀ σ H,I σ H→evX P a σ H (Rd I μ (μ σ H) Q)):evX P (.loop a) σ H Q:=⟨I,μ,h0,h⟩
theorem b5p {a:C} (fz:List Nat) (h:evX P a (frzS fz H.m σ) ⟨H.n,a1d fz H.m⟩ Q):evX P (.frz a) σ H Q:=.inr (.inl ⟨fz,h⟩)
theorem d4y {a:C} (fz:List Nat) (h:evX P a (frzS fz H.m σ) ⟨H.n,frzH fz H.m⟩ Q):evX P (.frz a) σ H Q:=.inr (.inr ⟨fz,[],by rw [e2y]; exact h⟩)
theorem c2c {a:C} (fz ids:List Nat) (h:evX P a (frzS fz H.m σ) ⟨H.n,loH ids (frzH fz H.m)⟩ Q):evX P (.frz a) σ H Q:=.inr (.inr ⟨fz,ids,h⟩)
theorem ra_n {b:C}:Ra P b Q .norm σ H=evX P b σ H Q:=rfl
theorem x_rf {s:Src} {ps:List Nat} {a b:C} {fn:Nat} {cs:List V} (els:List (List V)) (I:Nat→Hp→Prop) (hl:look σ [] s=some (.fn fn [] cs)) (hc:a0b cs=true) (hs:SeqC P fn cs els)
  (hlen:∀ el∈els,el.length=ps.length) (h0:I 0 H)
  (hr:∀ (Q':QA) k el H',I k H'→els[k]?=some el→(∀ σ' H2,I (k+1) H2→Q' .norm σ' H2)→(∀ id σ' H2,Q (.exit id) σ H2→Q' (.exit id) σ' H2)→(∀ σ' H2,Q .ret σ H2→Q' .ret σ' H2) →
   evX P a (b6s ps el σ) H' (Ra P b Q'))
  (he:∀ H',I els.length H'→Q .norm σ H'):evX P (.rf s ps a b) σ H Q :=
 ⟨fn,cs,els,hl,hc,hs,hlen,I,h0,fun k el H' h1 h2 => hr _ k el H' h1 h2 (fun _ _ h => h) (fun _ _ _ h => h) (fun _ _ h => h),he⟩
theorem e9j {x:Src} {is:List RI} {outs:List (Nat×Src)} {id mid c:Nat} {seen bs:List Nat} {l:List (V×V)} (h1:look σ [] x=some (.ptr id 0 0)) (h2:H.m id=some (.it mid c seen)) (h3:H.m mid=some (.md c bs l)) (h4:∀ b∈bs,b < c) (h5:bs.Nodup)
  (h6:(∀ b∈bs,b∈seen)→evX1 P σ is [.tup [.bool false]] [([id,mid],[])] H (Ot σ outs Q))
  (h7:∀ (i b:Nat) (p:V×V),bs[i]?=some b→l[i]?=some p→b∉seen→evX1 P σ is [.tup [.bool true,p.1,p.2]] [([id,mid],[id])] ⟨H.n,upd H.m id (some (.it mid c (seen++[b])))⟩ (Ot σ outs Q)):evX P (.nx x is outs) σ H Q :=
 ⟨id,mid,c,seen,bs,l,h1,h2,h3,h4,h5,h6,h7⟩
theorem a0l {a:C} (h:evX P a σ H Q):evX P (.frz a) σ H Q:=.inl h
end
theorem d7z {x:Bool}:V.cell (.bool x)=true:=rfl
theorem e1a {x:Bool}:V.size (.bool x)=1:=rfl
theorem e0b {x:Bool}:V.isEl (.bool x)=true:=rfl
theorem c7h {x:Bool}:V.parts (.bool x)=[.bool x]:=rfl
theorem d7u {x:Bool}:getC none 0 (.bool x)=some (.bool x):=rfl
theorem d9j {x:Bool} {v:V}:setC none 0 (.bool x) v=if v.cell=true then some v else none:=by cases v<;>rfl
theorem d9e {x:IntKind} {y:Int}:V.cell (.int x y)=true:=rfl
theorem d9r {x:IntKind} {y:Int}:V.size (.int x y)=1:=rfl
theorem d8s {x:IntKind} {y:Int}:V.isEl (.int x y)=true:=rfl
theorem d2u {x:IntKind} {y:Int}:V.parts (.int x y)=[.int x y]:=rfl
theorem e0s {x:IntKind} {y:Int}:getC none 0 (.int x y)=some (.int x y):=rfl
theorem e0p {x:IntKind} {y:Int} {v:V}:setC none 0 (.int x y) v=if v.cell=true then some v else none:=by cases v<;>rfl
theorem d8k {x:List UInt8}:V.cell (.str x)=true:=rfl
theorem d8j {x:List UInt8}:V.size (.str x)=1:=rfl
theorem e0c {x:List UInt8}:V.isEl (.str x)=true:=rfl
theorem c8y {x:List UInt8}:V.parts (.str x)=[.str x]:=rfl
theorem d7y {x:List UInt8}:getC none 0 (.str x)=some (.str x):=rfl
theorem d9w {x:List UInt8} {v:V}:setC none 0 (.str x) v=if v.cell=true then some v else none:=by cases v<;>rfl
theorem d0g:V.cell (.nilp)=true:=rfl
theorem d4k:V.size (.nilp)=1:=rfl
theorem c6v:V.isEl (.nilp)=true:=rfl
theorem c1i:V.parts (.nilp)=[.nilp]:=rfl
theorem d2q:getC none 0 (.nilp)=some (.nilp):=rfl
theorem c5t {v:V}:setC none 0 (.nilp) v=if v.cell=true then some v else none:=by cases v<;>rfl
theorem d8i {x y z:Nat}:V.cell (.ptr x y z)=true:=rfl
theorem d8w {x y z:Nat}:V.size (.ptr x y z)=1:=rfl
theorem e0i {x y z:Nat}:V.isEl (.ptr x y z)=true:=rfl
theorem d0a {x y z:Nat}:V.parts (.ptr x y z)=[.ptr x y z]:=rfl
theorem d9h {x y z:Nat}:getC none 0 (.ptr x y z)=some (.ptr x y z):=rfl
theorem d8v {x y z:Nat} {v:V}:setC none 0 (.ptr x y z) v=if v.cell=true then some v else none:=by cases v<;>rfl
theorem c9y {x:V} {y:Nat}:V.cell (.fptr x y)=true:=rfl
theorem d3z {x:V} {y:Nat}:V.size (.fptr x y)=1:=rfl
theorem c5p {x:V} {y:Nat}:V.isEl (.fptr x y)=true:=rfl
theorem c2f {x:V} {y:Nat}:V.parts (.fptr x y)=[.fptr x y]:=rfl
theorem d4o {x:V} {y:Nat}:getC none 0 (.fptr x y)=some (.fptr x y):=rfl
theorem d0f {x:V} {y:Nat} {v:V}:setC none 0 (.fptr x y) v=if v.cell=true then some v else none:=by cases v<;>rfl
theorem c5w {x y z:Nat}:V.cell (.sl x y z)=true:=rfl
theorem d1y {x y z:Nat}:V.size (.sl x y z)=1:=rfl
theorem d0n {x y z:Nat}:V.isEl (.sl x y z)=true:=rfl
theorem c2l {x y z:Nat}:V.parts (.sl x y z)=[.sl x y z]:=rfl
theorem c5q {x y z:Nat}:getC none 0 (.sl x y z)=some (.sl x y z):=rfl
theorem d2y {x y z:Nat} {v:V}:setC none 0 (.sl x y z) v=if v.cell=true then some v else none:=by cases v<;>rfl
theorem d2m {x:St} {y:Nat} {z:List V}:V.cell (.fsl x y z)=true:=rfl
theorem c8m {x:St} {y:Nat} {z:List V}:V.size (.fsl x y z)=1:=rfl
theorem c7b {x:St} {y:Nat} {z:List V}:V.isEl (.fsl x y z)=true:=rfl
theorem c0v {x:St} {y:Nat} {z:List V}:V.parts (.fsl x y z)=[.fsl x y z]:=rfl
theorem c7j {x:St} {y:Nat} {z:List V}:getC none 0 (.fsl x y z)=some (.fsl x y z):=rfl
theorem d3i {x:St} {y:Nat} {z:List V} {v:V}:setC none 0 (.fsl x y z) v=if v.cell=true then some v else none:=by cases v<;>rfl
theorem c9m {x:Nat} {y z:List V}:V.cell (.fn x y z)=true:=rfl
theorem d2t {x:Nat} {y z:List V}:V.size (.fn x y z)=1:=rfl
theorem d2r {x:Nat} {y z:List V}:V.isEl (.fn x y z)=true:=rfl
theorem c2p {x:Nat} {y z:List V}:V.parts (.fn x y z)=[.fn x y z]:=rfl
theorem c8c {x:Nat} {y z:List V}:getC none 0 (.fn x y z)=some (.fn x y z):=rfl
theorem c6s {x:Nat} {y z:List V} {v:V}:setC none 0 (.fn x y z) v=if v.cell=true then some v else none:=by cases v<;>rfl
theorem c5s:V.cell (.nilf)=true:=rfl
theorem d3q:V.size (.nilf)=1:=rfl
theorem c6y:V.isEl (.nilf)=true:=rfl
theorem c2u:V.parts (.nilf)=[.nilf]:=rfl
theorem d3b:getC none 0 (.nilf)=some (.nilf):=rfl
theorem d4b {v:V}:setC none 0 (.nilf) v=if v.cell=true then some v else none:=by cases v<;>rfl
theorem c5v {x:Nat} {y:V}:V.cell (.ifc x y)=true:=rfl
theorem c5n {x:Nat} {y:V}:V.size (.ifc x y)=1:=rfl
theorem d1i {x:Nat} {y:V}:V.isEl (.ifc x y)=true:=rfl
theorem c1w {x:Nat} {y:V}:V.parts (.ifc x y)=[.ifc x y]:=rfl
theorem d1d {x:Nat} {y:V}:getC none 0 (.ifc x y)=some (.ifc x y):=rfl
theorem c7g {x:Nat} {y:V} {v:V}:setC none 0 (.ifc x y) v=if v.cell=true then some v else none:=by cases v<;>rfl
theorem d4v:V.cell (.nili)=true:=rfl
theorem c6b:V.size (.nili)=1:=rfl
theorem c9i:V.isEl (.nili)=true:=rfl
theorem c0y:V.parts (.nili)=[.nili]:=rfl
theorem c9o:getC none 0 (.nili)=some (.nili):=rfl
theorem d3e {v:V}:setC none 0 (.nili) v=if v.cell=true then some v else none:=by cases v<;>rfl
theorem e0j {x:Nat}:V.cell (.map x)=true:=rfl
theorem d8r {x:Nat}:V.size (.map x)=1:=rfl
theorem d8m {x:Nat}:V.isEl (.map x)=true:=rfl
theorem c7w {x:Nat}:V.parts (.map x)=[.map x]:=rfl
theorem d8z {x:Nat}:getC none 0 (.map x)=some (.map x):=rfl
theorem e0y {x:Nat} {v:V}:setC none 0 (.map x) v=if v.cell=true then some v else none:=by cases v<;>rfl
theorem c6z:V.cell (.nilm)=true:=rfl
theorem d0z:V.size (.nilm)=1:=rfl
theorem d4u:V.isEl (.nilm)=true:=rfl
theorem c1f:V.parts (.nilm)=[.nilm]:=rfl
theorem c8l:getC none 0 (.nilm)=some (.nilm):=rfl
theorem c9p {v:V}:setC none 0 (.nilm) v=if v.cell=true then some v else none:=by cases v<;>rfl
theorem d8t {l:List V}:V.size (.agg l)=l.length:=rfl
theorem e0k {l:List V}:V.cell (.agg l)=false:=rfl
theorem c7s {l:List V}:V.parts (.agg l)=l:=rfl
theorem d8x {l:List V}:V.isEl (.agg l)=true:=rfl
theorem d9p {l:List V} {i:Nat}:getC none i (.agg l)=l[i]?:=by simp [getC]
theorem e0f {l:List V} {i n:Nat}:getC (some n) i (.agg l)=if i+n≤l.length then some (.agg ((l.drop i).take n)) else none:=by simp [getC]
theorem d8h {l:List V} {i:Nat} {v:V}:setC none i (.agg l) v=if i < l.length∧v.cell=true then some (.agg (l.set i v)) else none:=by simp [setC]
theorem d8q {l y:List V} {i n:Nat}:setC (some n) i (.agg l) (.agg y)=if y.length=n∧i+n≤l.length then some (.agg (l.take i++y++l.drop (i+n))) else none:=by simp [setC]
theorem c6k {fz:List Nat} {m:Hm}:frzS fz m []=[]:=rfl
theorem c1p {fz:List Nat} {m:Hm} {t:Nat} {v:V} {σ:Sg}:frzS fz m ((t,v)::σ)=(t,frzV fz m v)::frzS fz m σ:=rfl
theorem c4i {fz:List Nat} {m:Hm} {v:V} (h:v.closed=true):frzV fz m v=v:=by simp [frzV,snap,h]
theorem e6r {fz:List Nat} {m:Hm} {b:Bool}:frzV fz m (.bool b)=.bool b:=c4i rfl
theorem e6m {fz:List Nat} {m:Hm} {k:IntKind} {n:Int}:frzV fz m (.int k n)=.int k n:=c4i rfl
theorem e5o {fz:List Nat} {m:Hm} {s:List UInt8}:frzV fz m (.str s)=.str s:=c4i rfl
theorem e2p {fz:List Nat} {m:Hm} {st:St} {sz:Nat} {l:List V} (h:a0b l=true):frzV fz m (.fsl st sz l)=.fsl st sz l:=c4i (by simpa [V.closed] using h)
theorem a2r {n:Nat} {m:Hm}:∀ {l:List V},a0b l=true→mapO (snap n m) l=some l
 | [],_ => rfl
 | v::l,h => by
  simp only [a0b,Bool.and_eq_true] at h;have e:snap n m v=some v:=by cases n<;>simp [snap,h.1]
  simp [mapO,e,a2r h.2]
theorem b7v {fz:List Nat} {m:Hm} {id off len sz:Nat} {l:List V} (h:m id=some (.arr sz l)) (hi:id∈fz) (hl:off+len≤l.length) (hc:a0b l=true):frzV fz m (.sl id off len)=.fsl .loose sz ((l.drop off).take len):=by
 have hc':a0b ((l.drop off).take len)=true:=by
  rw [a1u] at hc ⊢;exact fun v hv => hc v (List.mem_of_mem_drop (List.mem_of_mem_take hv))
 have e0:only fz m id=some (.arr sz l):=by simp [only,hi,h]
 have e1:snap 4 (only fz m) (.sl id off len)=some (.fsl .loose sz ((l.drop off).take len)):=by
  rw [snap,if_neg (by simp [V.closed])];simp only [e0,hl,if_true,a2r hc']
 simp only [frzV,e1]
theorem d5e {o:Rs} {K K':KI} (h:∀ v fp ds k,K v fp ds k→K' v fp ds k) (k:fin o K):fin o K':=by
 unfold fin at k ⊢;split at k
 ·exact ⟨k.1,h _ _ _ _ k.2⟩
 ·exact k
theorem b8f {P:Program} {L:Src→Option V} {H:Hp} {K K':KI} (hK:∀ v fp ds k,K v fp ds k→K' v fp ds k) (i:Ins) (h:opX P L H K i):evI P L H K' i:=by
 unfold opX at h;split at h
 ·rename_i b f args;split at h
  ·rename_i f fs cs vs h1 h2;simp only [evI,h1,wv];refine a5t h2 ?_;split at h
   ·obtain ⟨r,k1,k2⟩:=h;simp only [if_true];exact ⟨r,k1,hK _ _ _ _ k2⟩
   ·obtain ⟨fp,r,ds,k,k1,k2⟩:=h;rw [if_neg (by decide)];exact ⟨fp,r,ds,k,k1,hK _ _ _ _ k2⟩
  ·exact h.elim
 ·rename_i x;split at h
  ·rename_i v h1;obtain ⟨s,k1,k2⟩:=h;simp only [evI,h1,wv,k1];exact ⟨trivial,s,rfl,hK _ _ _ _ k2⟩
  ·exact h.elim
 ·rename_i f args;split at h
  ·rename_i vs h1;obtain ⟨fp,r,k1,k2⟩:=h;simp only [evI];exact a5t h1 ⟨fp,r,k1,hK _ _ _ _ k2⟩
  ·exact h.elim
 ·exact c7l _ (d5e hK h)
theorem a9o {L:Src→Option V}:∀ {os:List (Nat×Src)} {σ:Sg} {K:Sg→Prop},outO L os=some σ→K σ→b3r L os K
 | [],σ,K,h,k => by simp [outO] at h; subst h; exact k
 | (t,s)::os,σ,K,h,k => by
  simp only [outO,e3l] at h;split at h
  ·rename_i v hv;split at h
   ·rename_i σ' hs;simp at h; subst h;simp only [b3r,hv,wv];exact a9o (K:=fun σ => K ((t,v)::σ)) hs k
   ·cases h
  ·cases h
theorem a2m {P:Program} {σ:Sg} {K K':List V→Hp→Prop} (hK:∀ env H,K env H→K' env H):∀ {is:List RI} {env:List V} {lg:Lg} {H:Hp},evX1 P σ is env lg H K→evR P σ is env lg H K'
 | [],env,lg,H,h => hK _ _ h
 | i::is,env,lg,H,h => by
  simp only [evX1] at h;simp only [evR];split at h
  ·rename_i hg;simp only [hg];exact b8f (fun v fp ds k h => ⟨h.1,a2m hK h.2⟩) _ h
  ·rename_i d b hg;simp only [hg];unfold gd at h;split at h
   ·rename_i c hc;simp only [hc];by_cases hcb:c=b
    ·rw [if_pos hcb];have:=h.1 hcb;subst hcb;rw [b2c hc] at this;exact b8f (fun v fp ds k h => ⟨h.1,a2m hK h.2⟩) _ this
    ·rw [if_neg hcb];have hcn:c=!b:=by cases c<;>cases b<;>simp at hcb ⊢
     have:=h.2 hcn;subst hcn;rw [b2c hc] at this;exact a2m hK this
   ·rename_i hc; simp only [hc]; exact a2m hK h
   ·exact h.elim
theorem d2e {P:Program}:∀ {c:C} {σ:Sg} {H:Hp} {Q Q':QA},(∀ e σ H,Q e σ H→Q' e σ H)→evX P c σ H Q→ev P c σ H Q':=by
  intro c
  induction c with
  | reg d is outs =>
    intro σ H Q Q' hQ h
    simp only [evX] at h; simp only [ev]
    refine a2m (fun env H' h => ?_) h
    simp only [Ot,finS] at h
    split at h
    · rename_i σ' h1; exact a9o h1 (hQ _ _ _ h)
    · exact h.elim
  | seq a b iha ihb =>
    intro σ H Q Q' hQ h
    simp only [evX] at h; simp only [ev]
    refine iha (fun e σ' H' h => ?_) h
    cases e with
    | norm => exact ihb hQ h
    | exit id => exact hQ _ _ _ h
    | ret => exact hQ _ _ _ h
  | cut a b iha ihb =>
    intro σ H Q Q' hQ h
    simp only [evX] at h; simp only [ev]
    obtain ⟨M,h1,h2⟩:=h
    refine ⟨M,iha (fun e σ' H' h => ?_) h1,fun σ' H' h => ihb hQ (h2 σ' H' h)⟩
    cases e with
    | norm => exact h
    | exit id => exact hQ _ _ _ h
    | ret => exact hQ _ _ _ h
  | cond s a b iha ihb =>
    intro σ H Q Q' hQ h
    simp only [evX,gd] at h; simp only [ev]
    split at h
    · rename_i c hc
      simp only [hc]
      exact ⟨fun e => iha hQ (h.1 e),fun e => ihb hQ (h.2 (by simp [e]))⟩
    · exact h.elim
    · exact h.elim
  | block id a iha =>
    intro σ H Q Q' hQ h
    simp only [evX] at h; simp only [ev]
    refine iha (fun e σ' H' h => ?_) h
    split at h
    · rename_i he; rw [if_pos he]; exact hQ _ _ _ h
    · rename_i he; rw [if_neg he]; exact hQ _ _ _ h
  | loop a iha =>
    intro σ H Q Q' hQ h
    simp only [evX] at h; simp only [ev]
    obtain ⟨I,μ,h0,h1⟩:=h
    refine ⟨I,μ,h0,fun σ H hi => iha (fun e σ' H' h => ?_) (h1 σ H hi)⟩
    cases e with
    | norm => exact h
    | exit id => exact hQ _ _ _ h
    | ret => exact hQ _ _ _ h
  | nx x is outs =>
    intro σ H Q Q' hQ h
    simp only [evX] at h; simp only [ev]
    obtain ⟨id,mid,c,seen,bs,l,h1,h2,h3,h4,h5,h6,h7⟩:=h
    have fin:∀ env H',Ot σ outs Q env H'→b3r (look σ env) outs fun σ' => Q' .norm σ' H':=fun env H' h => by
      simp only [Ot,finS] at h
      split at h
      · rename_i σ' h1; exact a9o h1 (hQ _ _ _ h)
      · exact h.elim
    exact ⟨id,mid,c,seen,bs,l,h1,h2,h3,h4,h5,fun k => a2m fin (h6 k),fun i b p k1 k2 k3 => a2m fin (h7 i b p k1 k2 k3)⟩
  | exit id => intro σ H Q Q' hQ h; exact hQ _ _ _ h
  | ret => intro σ H Q Q' hQ h; exact hQ _ _ _ h
  | skip => intro σ H Q Q' hQ h; exact hQ _ _ _ h
  | rf s ps a b iha ihb =>
    intro σ H Q Q' hQ h
    simp only [evX] at h; simp only [ev]
    obtain ⟨fn,cs,els,h1,h2,h3,h4,I,h5,h6,h7⟩:=h
    refine ⟨fn,cs,els,h1,h2,h3,h4,I,h5,fun k el H' k1 k2 => iha (fun e σ1 H1 h => ?_) (h6 k el H' k1 k2),fun H' k => hQ _ _ _ (h7 H' k)⟩
    cases e with
    | exit _ => exact h.elim
    | ret => exact h.elim
    | norm =>
      refine ihb (fun e σ2 H2 h => ?_) h
      cases e with
      | norm => exact h
      | exit id => exact hQ _ _ _ h
      | ret => exact hQ _ _ _ h
  | frz a iha =>
    intro σ H Q Q' hQ h
    simp only [evX] at h; simp only [ev]
    rcases h with h | ⟨fz,h⟩ | ⟨fz,ids,h⟩
    · exact .inl (iha hQ h)
    · exact .inr (.inl ⟨fz,iha hQ h⟩)
    · exact .inr (.inr ⟨fz,ids,iha hQ h⟩)
theorem ofX {P:Program} {c:C} {σ:Sg} {H:Hp} {Q:QA} (h:evX P c σ H Q):ev P c σ H Q:=d2e (fun _ _ _ h => h) h
theorem xr:type_of% (And.intro @e4e (And.intro @x_op (And.intro @x_p (And.intro @x_g (And.intro @g_tt (And.intro @g_ff (And.intro @g_tf (And.intro @g_ft (And.intro @g_0 (And.intro @g_d (And.intro @g_n (And.intro @g_e (And.intro @x_nx (And.intro @x_ot (And.intro @e5n (And.intro @e3r (And.intro @d9n (And.intro @c_t (And.intro @c_f (And.intro @c_d (And.intro @c_n (And.intro @c_e (And.intro @d3x (And.intro @d9l (And.intro @e5e (And.intro @e0d (And.intro @th_n (And.intro @th_e (And.intro @th_r (And.intro @ra_n (And.intro @bk_n (And.intro @bk_e (And.intro @bk_r (And.intro @rd_n (And.intro @rd_e (And.intro @rd_r (And.intro @e4a (And.intro @e6x (And.intro @d9y (And.intro @a0u (And.intro @a0d @a0c))))))))))))))))))))))))))))))))))))))))):=(And.intro @e4e (And.intro @x_op (And.intro @x_p (And.intro @x_g (And.intro @g_tt (And.intro @g_ff (And.intro @g_tf (And.intro @g_ft (And.intro @g_0 (And.intro @g_d (And.intro @g_n (And.intro @g_e (And.intro @x_nx (And.intro @x_ot (And.intro @e5n (And.intro @e3r (And.intro @d9n (And.intro @c_t (And.intro @c_f (And.intro @c_d (And.intro @c_n (And.intro @c_e (And.intro @d3x (And.intro @d9l (And.intro @e5e (And.intro @e0d (And.intro @th_n (And.intro @th_e (And.intro @th_r (And.intro @ra_n (And.intro @bk_n (And.intro @bk_e (And.intro @bk_r (And.intro @rd_n (And.intro @rd_e (And.intro @rd_r (And.intro @e4a (And.intro @e6x (And.intro @d9y (And.intro @a0u (And.intro @a0d @a0c)))))))))))))))))))))))))))))))))))))))))
theorem vr:type_of% (And.intro @d7z (And.intro @e1a (And.intro @e0b (And.intro @c7h (And.intro @d7u (And.intro @d9j (And.intro @d9e (And.intro @d9r (And.intro @d8s (And.intro @d2u (And.intro @e0s (And.intro @e0p (And.intro @d8k (And.intro @d8j (And.intro @e0c (And.intro @c8y (And.intro @d7y (And.intro @d9w (And.intro @d0g (And.intro @d4k (And.intro @c6v (And.intro @c1i (And.intro @d2q (And.intro @c5t (And.intro @d8i (And.intro @d8w (And.intro @e0i (And.intro @d0a (And.intro @d9h (And.intro @d8v (And.intro @c9y (And.intro @d3z (And.intro @c5p (And.intro @c2f (And.intro @d4o (And.intro @d0f (And.intro @c5w (And.intro @d1y (And.intro @d0n (And.intro @c2l (And.intro @c5q (And.intro @d2y (And.intro @d2m (And.intro @c8m (And.intro @c7b (And.intro @c0v (And.intro @c7j (And.intro @d3i (And.intro @c9m (And.intro @d2t (And.intro @d2r (And.intro @c2p (And.intro @c8c (And.intro @c6s (And.intro @c5s (And.intro @d3q (And.intro @c6y (And.intro @c2u (And.intro @d3b (And.intro @d4b (And.intro @c5v (And.intro @c5n (And.intro @d1i (And.intro @c1w (And.intro @d1d (And.intro @c7g (And.intro @d4v (And.intro @c6b (And.intro @c9i (And.intro @c0y (And.intro @c9o (And.intro @d3e (And.intro @e0j (And.intro @d8r (And.intro @d8m (And.intro @c7w (And.intro @d8z (And.intro @e0y (And.intro @c6z (And.intro @d0z (And.intro @d4u (And.intro @c1f (And.intro @c8l (And.intro @c9p (And.intro @d8t (And.intro @e0k (And.intro @c7s (And.intro @d8x (And.intro @d9p (And.intro @e0f (And.intro @d8h (And.intro @d8q (And.intro @c6k (And.intro @c1p (And.intro @e6r (And.intro @e6m @e5o)))))))))))))))))))))))))))))))))))))))))))))))))))))))))))))))))))))))))))))))))))))))))))))))):=(And.intro @d7z (And.intro @e1a (And.intro @e0b (And.intro @c7h (And.intro @d7u (And.intro @d9j (And.intro @d9e (And.intro @d9r (And.intro @d8s (And.intro @d2u (And.intro @e0s (And.intro @e0p (And.intro @d8k (And.intro @d8j (And.intro @e0c (And.intro @c8y (And.intro @d7y (And.intro @d9w (And.intro @d0g (And.intro @d4k (And.intro @c6v (And.intro @c1i (And.intro @d2q (And.intro @c5t (And.intro @d8i (And.intro @d8w (And.intro @e0i (And.intro @d0a (And.intro @d9h (And.intro @d8v (And.intro @c9y (And.intro @d3z (And.intro @c5p (And.intro @c2f (And.intro @d4o (And.intro @d0f (And.intro @c5w (And.intro @d1y (And.intro @d0n (And.intro @c2l (And.intro @c5q (And.intro @d2y (And.intro @d2m (And.intro @c8m (And.intro @c7b (And.intro @c0v (And.intro @c7j (And.intro @d3i (And.intro @c9m (And.intro @d2t (And.intro @d2r (And.intro @c2p (And.intro @c8c (And.intro @c6s (And.intro @c5s (And.intro @d3q (And.intro @c6y (And.intro @c2u (And.intro @d3b (And.intro @d4b (And.intro @c5v (And.intro @c5n (And.intro @d1i (And.intro @c1w (And.intro @d1d (And.intro @c7g (And.intro @d4v (And.intro @c6b (And.intro @c9i (And.intro @c0y (And.intro @c9o (And.intro @d3e (And.intro @e0j (And.intro @d8r (And.intro @d8m (And.intro @c7w (And.intro @d8z (And.intro @e0y (And.intro @c6z (And.intro @d0z (And.intro @d4u (And.intro @c1f (And.intro @c8l (And.intro @c9p (And.intro @d8t (And.intro @e0k (And.intro @c7s (And.intro @d8x (And.intro @d9p (And.intro @e0f (And.intro @d8h (And.intro @d8q (And.intro @c6k (And.intro @c1p (And.intro @e6r (And.intro @e6m @e5o))))))))))))))))))))))))))))))))))))))))))))))))))))))))))))))))))))))))))))))))))))))))))))))))
theorem a7e {rvs:List RV} {r:V} {σ:Sg} {H:Hp} {l:List V} (hl:resE σ H.m rvs=some l) (hc:(pack l).closed=true) (hr:pack l=r∨a3n (pack l)=r∨lo (pack l)=r):Fin rvs r .ret σ H :=
 ⟨.inr rfl,l,hl,pack l,by simp [c3o,snap,hc],hr⟩
end
theorem x_lp {P:Program} {σ:Sg} {H:Hp} {Q:QA} {a:C} (I:Sg→Hp→Prop) (μ:Sg→Hp→Nat) (h0:I σ H)
  (h:∀ (T:QA) (σ:Sg) (H:Hp),I σ H→(∀ σ' H',I σ' H'→μ σ' H' < μ σ H→T .norm σ' H')→(∀ id σ' H',Q (.exit id) σ' H'→T (.exit id) σ' H')→(∀ σ' H',Q .ret σ' H'→T .ret σ' H')→evX P a σ H T):evX P (.loop a) σ H Q :=
 ⟨I,μ,h0,fun σ H hi => h (Rd I μ (μ σ H) Q) σ H hi (fun σ' H' h1 h2 => ⟨h1,h2⟩) (fun id σ' H' h => h) (fun σ' H' h => h)⟩
def Buf (H:Hp) (sz:Nat) (v:V) (l:List V):Prop :=
 (∃ st,(st≠.loose∧st≠.nn)∧v=.fsl st sz []∧l=[])∨∃ id,id < H.n∧v=.sl id 0 l.length∧H.m id=some (.arr sz l)
theorem Buf.start {H:Hp} {sz:Nat} {st:St} (h:st≠.loose∧st≠.nn):Buf H sz (.fsl st sz []) []:=.inl ⟨st,h,rfl,rfl⟩
theorem Buf.rd {H:Hp} {sz:Nat} {v:V} {l:List V} (h:Buf H sz v l):rd H.m v=some (sz,l):=by
 rcases h with ⟨st,_,rfl,rfl⟩ | ⟨id,h1,rfl,h2⟩
 ·rfl
 ·simp [Ev.rd,h2]
theorem e3g {H:Hp} {sz bt:Nat} {v y:V} {l ys:List V} {K:KI} (h:Buf H sz v l) (hy:Ev.rd H.m y=some (sz,ys)) (hne:ys≠[]) (hl:(l.length+ys.length)*bt≤140737488355328)
  (k:∀ v' fp ds,Buf ⟨H.n+1,appd ds H.m⟩ sz v' (l++ys)→(∀ id,id < H.n→(∀ o n,v≠.sl id o n)→appd ds H.m id=H.m id)→K v' fp ds 1):fin (appO H sz bt v y) K:=by
 have e:(l++ys).length=l.length+ys.length:=List.length_append;unfold appO;rw [d7x hy];rcases h with ⟨st,h0,rfl,rfl⟩ | ⟨id,h1,rfl,h2⟩
 ·cases ys with
  | nil => exact absurd rfl hne
  | cons a ys =>
   refine ⟨⟨rfl,rfl,h0,by simpa using hl⟩,k _ _ _ (.inr ⟨H.n,by simp,by simp,by simp [appd,upd]⟩) fun id hid _ => ?_⟩;have:id≠H.n:=by omega
   simp [appd,upd,this]
 ·simp only [h2];refine ⟨⟨trivial,trivial,trivial,Nat.le_refl _,hl⟩,k _ _ _ (.inr ⟨H.n,by simp,by simp,by simp [appd,upd]⟩) fun i hid hv => ?_⟩;have h3:i≠H.n:=by omega
  have h4:i≠id:=fun e => hv 0 l.length (by rw [e]);simp [appd,upd,h3,h4]
theorem Buf.frz {H:Hp} {sz:Nat} {v:V} {l:List V} (h:Buf H sz v l) (hc:a0b l=true):∃ fz st,frzV fz H.m v=.fsl st sz l:=by
 rcases h with ⟨st,h0,rfl,rfl⟩ | ⟨id,h1,rfl,h2⟩
 ·exact ⟨[],st,e2p rfl⟩
 ·exact ⟨[id],.loose,by rw [b7v h2 (by simp) (by simp) hc]; simp⟩
def gW (w:World):G:=⟨fun _ => none,fun b => match w.heap[b]? with | some (.cells cs _ _) => some cs.toList | _ => none⟩
def Laid (w:World):Prop:=∀ p∈c0h,∃ cs,(gW w).F p.1=some cs∧p.2 cs
theorem e7l (w:World) (ht:Laid w):RS (gW w) (fun _ => none) w:=by
 refine ⟨fun b cs h => ?_,by simp,by simp,ht⟩;simp only [gW] at h;split at h
 ·rename_i c e fr hb; simp at h; subst h; exact ⟨e,fr,by simpa using hb⟩
 ·cases h
theorem e5m {P:Program} {f:Nat} {vs:List V} {xs:Array Value} {W:World} (h:PCall P f vs (.bool true)) (hx:RC (gW W) vs xs.toList) (ht:Laid W:=by simp [Laid,c0h]) :
  Calls P f xs W fun e w' => e=.returned (.bool true)∧Go.RowKit.Below W.heap.size W w':=by
 refine (h.2 _ _ _ _ (e7l W ht) hx).mono ?_;rintro e w' ⟨x,F',rfl,hr,hs,hx⟩;simp only [R] at hr; subst hr;exact ⟨rfl,hx.os,hx.tape,hx.output,hx.size,fun k hk => hx.old k hk (fun ⟨_,_,_,_,h,_⟩ => by cases h)⟩
theorem b8o {w:World} {a:Addr} {len:Nat} (X:Nat→Value) (hl:0 < len) (h:∀ i,i < len→w.cell? (a.add i)=some (X i)) :
  a=⟨a.block,a.off,none⟩∧FAt (gW w) a.block a.off ((List.range len).map X):=by
 have h0:=h 0 hl;cases hb:w.heap[a.block]? with
 | none => simp [World.cell?,Addr.add,hb] at h0
 | some o =>
  cases o with
  | cells c e fr =>
   cases hsp:a.spot with
   | some q => simp [World.cell?,Addr.add,hb,hsp] at h0
   | none =>
    have get:∀ i,i < len→c.toList[a.off+i]?=some (X i):=by
     intro i hi;have:=h i hi;have ha:a.add i=⟨a.block,a.off+i,none⟩:=by
      unfold Addr.add;split
      ·rename_i e; subst e; cases a; simp at hsp; simp [hsp]
      ·rfl
     rw [ha] at this;simpa [World.cell?,hb] using this
    have hoff:a.off+(len - 1) < c.toList.length:=(List.getElem?_eq_some_iff.1 (get (len - 1) (by omega))).1;refine ⟨by cases a; simp at hsp; simp [hsp],c.toList.take a.off,c.toList.drop (a.off+len), ?_,by rw [List.length_take]; omega⟩;simp only [gW,hb,Option.some.injEq];have hmin:(c.toList.take a.off).length=a.off:=by rw [List.length_take]; omega
    have hxl:((List.range len).map X).length=len:=by simp
    refine List.ext_getElem? fun i => ?_;by_cases h1:i < a.off
    ·rw [List.append_assoc,List.getElem?_append_left (by omega),List.getElem?_take_of_lt h1]
    ·by_cases h2:i < a.off+len
     ·rw [List.append_assoc,List.getElem?_append_right (by omega),List.getElem?_append_left (by omega),hmin,List.getElem?_map,List.getElem?_range (by omega)];have:=get (i - a.off) (by omega);rw [show a.off+(i - a.off)=i by omega] at this;simpa using this
     ·rw [List.append_assoc,List.getElem?_append_right (by omega),List.getElem?_append_right (by omega),hmin,hxl,List.getElem?_drop];congr 1;omega
  | _ => simp [World.cell?,Addr.add,hb] at h0
theorem d9z {g:G} {sz:Nat} {l:List V} {x:Value} (h:R g (.fsl .loose sz l) x):(R g (.fsl .nil sz l) x∧l=[])∨R g (.fsl .nn sz l) x:=by
 simp only [R] at h ⊢;obtain ⟨a,cap,xs,e1,e2,e3,e4,e5,e6,e7,e8⟩:=h;by_cases ha:a=none
 ·have:=e5 ha;exact .inl ⟨⟨a,cap,xs,e1,e2,e3,e4,e5,⟨fun _ => ha,by simp⟩,by simp,e8⟩,List.eq_nil_of_length_eq_zero (by omega)⟩
 ·exact .inr ⟨a,cap,xs,e1,e2,e3,e4,e5,⟨by simp,fun _ => ha⟩,by simp,e8⟩
theorem PCall.first {P:Program} {f sz:Nat} {l vs:List V} {r:V} (h1:l=[]→PCall P f (.fsl .nil sz []::vs) r) (h2:PCall P f (.fsl .nn sz l::vs) r):PCall P f (.fsl .loose sz l::vs) r:=by
 refine ⟨h2.1,fun m g w xs hs hx => ?_⟩;simp only [RC] at hx;obtain ⟨y,ys,e1,e2,e3⟩:=hx;rcases d9z e2 with ⟨k,rfl⟩ | k
 ·exact (h1 rfl).2 m g w xs hs (by simp only [RC]; exact ⟨y,ys,e1,k,e3⟩)
 ·exact h2.2 m g w xs hs (by simp only [RC]; exact ⟨y,ys,e1,k,e3⟩)
mutual
def V.low (n:Nat):V→Bool
 | .ptr id _ _ | .sl id _ _ | .slc id _ _ _ | .map id => decide (id < n)
 | .fptr e _ => e.low n
 | .fsl _ _ l => lowL n l
 | .fn _ fs cs => lowL n fs && lowL n cs
 | .ifc _ v => v.low n
 | .agg l => lowL n l
 | .tup l => lowL n l
 | _ => true
def lowL (n:Nat):List V→Bool
 | [] => true
 | v::vs => v.low n && lowL n vs
end
mutual
theorem V.low_closed {n:Nat}:∀ (v:V),v.closed=true→v.low n=true
 | .bool _,_ | .int _ _,_ | .str _,_ | .nilp,_ | .nilf,_ | .nili,_ | .nilm,_ | .yl _,_ | .jk,_ => by simp [V.low]
 | .fptr e _,c => by simp only [V.low]; exact V.low_closed e (by simpa only [V.closed] using c)
 | .fsl _ _ l,c => by simp only [V.low]; exact a0h l (by simpa only [V.closed] using c)
 | .fn _ fs cs,c => by
  simp only [V.closed,Bool.and_eq_true] at c;simp only [V.low,Bool.and_eq_true]; exact ⟨a0h fs c.1,a0h cs c.2⟩
 | .ifc _ v,c => by simp only [V.low]; exact V.low_closed v (by simpa only [V.closed] using c)
 | .agg l,c => by simp only [V.low]; exact a0h l (by simpa only [V.closed] using c)
 | .tup l,c => by simp only [V.low]; exact a0h l (by simpa only [V.closed] using c)
 | .ptr _ _ _,c => by simp [V.closed] at c
 | .sl _ _ _,c => by simp [V.closed] at c
 | .map _,c => by simp [V.closed] at c
 | .slc _ _ _ _,c => by simp [V.closed] at c
theorem a0h {n:Nat}:∀ (l:List V),a0b l=true→lowL n l=true
 | [],_ => rfl
 | v::vs,c => by
  simp only [a0b,Bool.and_eq_true] at c;simp only [lowL,Bool.and_eq_true]; exact ⟨V.low_closed v c.1,a0h vs c.2⟩
end
mutual
theorem R.low {g g':G} {n:Nat} (hi:∀ id,id < n→g'.ι id=g.ι id) (h:∀ b cs,g.F b=some cs→g'.F b=some cs):∀ (v:V) (x:Value),v.low n=true→R g v x→R g' v x
 | .bool _,_,_,r | .int _ _,_,_,r | .str _,_,_,r | .nilp,_,_,r | .nilf,_,_,r | .nili,_,_,r | .nilm,_,_,r | .yl _,_,_,r | .jk,_,_,r => by simpa only [R] using r
 | .slc id _ _ _,_,c,r => by
  simp only [V.low,decide_eq_true_eq] at c;simp only [R,hi id c] at r ⊢; exact r
 | .ptr id _ _,_,c,r => by
  simp only [V.low,decide_eq_true_eq] at c;simp only [R,hi id c] at r ⊢; exact r
 | .sl id _ _,_,c,r => by
  simp only [V.low,decide_eq_true_eq] at c;simp only [R,hi id c] at r ⊢; exact r
 | .map id,_,c,r => by
  simp only [V.low,decide_eq_true_eq] at c;simp only [R,hi id c] at r ⊢; exact r
 | .fptr e _,_,c,r => by
  simp only [R] at r ⊢; obtain ⟨b,o,y,e1,⟨pre,post,e2,e2'⟩,e3⟩:=r;exact ⟨b,o,y,R.low hi h e y (by simpa only [V.low] using c) e1,⟨pre,post,h _ _ e2,e2'⟩,e3⟩
 | .fsl _ _ l,_,c,r => by
  simp only [R] at r ⊢;obtain ⟨a,cap,xs,e1,e2,e3,e4,e5,e6,e7,e8⟩:=r;exact ⟨a,cap,xs,e1,RL.low hi h l xs (by simpa only [V.low] using c) e2,e3,e4,e5,e6,e7,e8.imp id fun ⟨b,o,i,pre,post,j,j'⟩ => ⟨b,o,i,pre,post,h _ _ j,j'⟩⟩
 | .fn _ fs cs,_,c,r => by
  simp only [V.low,Bool.and_eq_true] at c;simp only [R] at r ⊢; obtain ⟨xs,ys,e1,e2,e3⟩:=r; exact ⟨xs,ys,e1,RC.low hi h fs _ c.1 e2,RC.low hi h cs _ c.2 e3⟩
 | .ifc _ v,_,c,r => by simp only [R] at r ⊢; obtain ⟨y,e1,e2⟩:=r; exact ⟨y,e1,R.low hi h v y (by simpa only [V.low] using c) e2⟩
 | .agg l,_,c,r => by simp only [R] at r ⊢; obtain ⟨xs,e1,e2,e3⟩:=r; exact ⟨xs,e1,RC.low hi h l _ (by simpa only [V.low] using c) e2,e3⟩
 | .tup l,_,c,r => by simp only [R] at r ⊢; obtain ⟨xs,e1,e2⟩:=r; exact ⟨xs,e1,RC.low hi h l _ (by simpa only [V.low] using c) e2⟩
theorem RC.low {g g':G} {n:Nat} (hi:∀ id,id < n→g'.ι id=g.ι id) (h:∀ b cs,g.F b=some cs→g'.F b=some cs):∀ (l:List V) (xs:List Value),lowL n l=true→RC g l xs→RC g' l xs
 | [],_,_,r => by simpa only [RC] using r
 | v::vs,_,c,r => by
  simp only [lowL,Bool.and_eq_true] at c;simp only [RC] at r ⊢; obtain ⟨y,ys,e,e1,e2⟩:=r; exact ⟨y,ys,e,R.low hi h v y c.1 e1,RC.low hi h vs ys c.2 e2⟩
theorem RL.low {g g':G} {n:Nat} (hi:∀ id,id < n→g'.ι id=g.ι id) (h:∀ b cs,g.F b=some cs→g'.F b=some cs):∀ (l:List V) (xs:List Value),lowL n l=true→RL g l xs→RL g' l xs
 | [],_,_,r => by simpa only [RL] using r
 | v::vs,_,c,r => by
  simp only [lowL,Bool.and_eq_true] at c;simp only [RL] at r ⊢; obtain ⟨y,ys,e,⟨e0,e1⟩,e2⟩:=r; exact ⟨y,ys,e,⟨e0,R.low hi h v y c.1 e1⟩,RL.low hi h vs ys c.2 e2⟩
end
def Ob.low (n:Nat):Ob→Bool
 | .arr _ l => lowL n l
 | .mp l | .md _ _ l => lowL n (l.map (·.1)) && lowL n (l.map (·.2))
 | .it _ _ _ => false
theorem b4k (ds:List (Nat×Option Ob)) (id:Nat):(id∈ds.map (·.1)∧∃ o,∀ m,appd ds m id=o)∨∀ m,appd ds m id=m id:=by
 induction ds with
 | nil => exact .inr fun _ => rfl
 | cons p ds ih =>
  obtain ⟨i,o⟩:=p;rcases ih with ⟨h1,o',h2⟩ | h
  ·exact .inl ⟨by simp at h1 ⊢; exact .inr h1,o',fun m => h2 _⟩
  ·by_cases e:id=i
   ·subst e;exact .inl ⟨by simp,o,fun m => by simp [appd,h,upd]⟩
   ·exact .inr fun m => by simp [appd,h,upd,e]
def FinA (rvs:List RV) (m0:Hm) (n:Nat) (r:V) (ds:List (Nat×Option Ob)) (k:Nat):QA:=fun e σ H =>
 (e=.norm∨e=.ret)∧(∃ l,resE σ H.m rvs=some l∧(pack l=r∨a3n (pack l)=r∨lo (pack l)=r))∧H.n≤n+k∧∀ id,appd ds m0 id=none∨appd ds m0 id=H.m id
theorem ι_live {g:G} {w:World} {id:Nat} {o:Ob} (h:ORep g w id o):∃ p,g.ι id=some p:=by
 cases o<;>(simp only [ORep] at h; obtain ⟨_,_,_,h⟩:=h)
 ·obtain ⟨_,_,_,h,_⟩:=h; exact ⟨_,h⟩
 all_goals exact ⟨_,h.1⟩
theorem e6y {P:Program} (hm:P.follows .mixedOrders=true) {f:Nat} {fn:Func} {c0:Code} {c:C} {rvs:List RV} (hf:P.funcs[f]?=some fn) (hb:fn.body=some c0) (hn:(fn.name == "runtime.NumGoroutine")=false)
  (hc:chkC P fn.ntmps c0 c=true) (hr:a4r P fn.results.toList rvs=true) {vs:List V} {H:Hp} {fp:List Nat} {r:V} {ds:List (Nat×Option Ob)} {k:Nat} (hlen:vs.length≤fn.ntmps) (hcl:lowL H.n vs=true)
  (hfp:∀ id∈fp,id < H.n∧∀ o,H.m id=some o→o.low H.n=true) (hds:∀ p∈ds,p.1∈fp∨(H.n≤p.1∧p.1 < H.n+k))
  (h:ev P c (argsE 0 vs) ⟨H.n,only fp H.m⟩ (FinA rvs (only fp H.m) H.n r ds k)):ACall P f vs H fp r ds k:=by
 refine ⟨⟨fn,hf,by rw [hb]; rfl,hn⟩,hds,fun m g w xs hag hfr hs hx => ?_⟩;refine (a9k (ro:=none) (n:=0)).1 (callsIn_of_wp_marks hf hb trivial ?_);have m0s:∀ id o,only fp H.m id=some o→id∈fp∧m id=some o∧H.m id=some o:=by
  intro id o k;simp only [only] at k;split at k
  ·rename_i hid; exact ⟨hid,by rw [hag id hid]; exact k,k⟩
  ·cases k
 obtain ⟨g0,hg0,hg0n,hg0F⟩:∃ g0:G,(∀ id,id < H.n→g0.ι id=g.ι id)∧(∀ id,H.n≤id→g0.ι id=none)∧g0.F=g.F :=
  ⟨⟨fun id => if id < H.n then g.ι id else none,g.F⟩,fun id h => by simp [h],fun id h => by simp [show ¬ id < H.n by omega],rfl⟩
 have hsub0:∀ id p,g0.ι id=some p→g.ι id=some p:=by
  intro id p hp;rcases Nat.lt_or_ge id H.n with h | h
  ·rw [← hg0 id h]; exact hp
  ·rw [hg0n id h] at hp; cases hp
 have hs0:RS g0 (only fp H.m) w:=by
  refine ⟨by rw [hg0F]; exact hs.fro, ?_, ?_,by rw [hg0F]; exact hs.tab⟩
  ·intro id o k;obtain ⟨k1,k2,k3⟩:=m0s id o k;obtain ⟨j1,j2⟩:=hfp id k1;have:=hs.live id o k2;have hl:=j2 o k3;cases o with
   | arr sz l =>
    obtain ⟨b,n,cs,e,ys,post,h1,h2,h3,h4,h6,h7,h8⟩:=this;exact ⟨b,n,cs,e,ys,post,by rw [hg0 id j1]; exact h1,h2,h3,by rw [hg0F]; exact h4,RL.low hg0 (by rw [hg0F]; exact fun _ _ h => h) _ _ (by simpa only [Ob.low] using hl) h6,h7,h8⟩
   | it _ _ _ => cases hl
   | mp l | md c bs l =>
    simp only [Ob.low,Bool.and_eq_true] at hl;obtain ⟨b,es,clock,h1,h2,h3,h4,h5,h6⟩:=this;exact ⟨b,es,clock,by rw [hg0 id j1]; exact h1,h2,by rw [hg0F]; exact h3,RC.low hg0 (by rw [hg0F]; exact fun _ _ h => h) _ _ hl.1 h4,RC.low hg0 (by rw [hg0F]; exact fun _ _ h => h) _ _ hl.2 h5,h6⟩
  ·intro id id' o o' b s n s' n' h1 h2 h3 h4;exact hs.inj id id' o o' b s n s' n' (m0s _ _ h1).2.1 (m0s _ _ h2).2.1 (hsub0 _ _ h3) (hsub0 _ _ h4)
 have hx0:RC g0 vs xs.toList:=RC.low hg0 (by rw [hg0F]; exact fun _ _ h => h) _ _ hcl hx;have hxl:xs.size=vs.length:=by simpa using hx.length
 have ha0:RA (some w.heap.size) g0 (argsE 0 vs) { tmps:=xs++Array.replicate (fn.ntmps - xs.size) undef,defers:=[] } fn.ntmps w:=by
  refine ⟨fun t v ht => ?_,by simp; omega,.nil (by simp)⟩;obtain ⟨_,h2⟩:=b2o ht;obtain ⟨x,h3,h4⟩:=hx0.get h2;have hlt:t < xs.size:=by have:=(List.getElem?_eq_some_iff.1 h2).1; omega
  have:(xs++Array.replicate (fn.ntmps - xs.size) undef).getD t undef=x:=by
   simp only [Nat.sub_zero] at h3;have h3':xs[t]?=some x:=by simpa using h3
   simp [Array.getElem?_append_left hlt,h3']
  rw [this]; exact h4
 refine wpIn_mono (b5w hm (.inl ⟨rfl,rfl⟩) hc h hs0 (fun id hid => hg0n id hid) ha0) ?_;rintro e a' w1 ⟨ae,σ',H',g',k1,⟨hae,⟨l,k2,k4⟩,hk,hsubF⟩,k5',k6,k7,k8'⟩;have key:LeavesInM (Fw none) 0 P fn a'.tmps (fun e w' => ∃ x g',e=.returned x∧R g' r x∧RS g' (appd ds m) w'∧IExt g g' H.n k∧Ext g m w g' (appd ds m) w') a'.defers .returning w1:=?_
 ·rcases hae with rfl | rfl<;>cases e<;>simp only [AEx.is] at k1<;>exact key
 refine d2c k7.defs k5' k8' fun w' k5 k8 => ?_;obtain ⟨x,q1,q2⟩:=b8s (P:=P) (fn:=fn) k5 k7 hr k2;obtain ⟨f1,f2,f3⟩:=k6;have hlow':∀ id p,g'.ι id=some p→id < H'.n:=fun id p hp => by
  rcases Nat.lt_or_ge id H'.n with h | h
  ·exact h
  ·rw [f1 id h] at hp; cases hp
 obtain ⟨g2,hg2a,hg2b,hg2F⟩:∃ g2:G,(∀ id,id < H.n+k→g2.ι id=g'.ι id)∧(∀ id,H.n+k≤id→g2.ι id=g.ι id)∧g2.F=g'.F :=
  ⟨⟨fun id => if id < H.n+k then g'.ι id else g.ι id,g'.F⟩,fun id h => by simp [h],fun id h => by simp [show ¬ id < H.n+k by omega],rfl⟩
 have hle':g'.le g2:=⟨fun id p hp => by rw [hg2a id (by have:=hlow' id p hp; omega)]; exact hp,by rw [hg2F]; exact fun _ _ h => h⟩;have hIE:IExt g g2 H.n k:=by
  intro id hid;rcases Nat.lt_or_ge id H.n with h | h
  ·rw [hg2a id (by omega),f2 id h,hg0 id h]
  ·exact hg2b id (by omega)
 have hle:g.le g2:=by
  refine ⟨fun id p hp => ?_,fun b cs hb' => by rw [hg2F]; exact k8.le.F b cs (by rw [hg0F]; exact hb')⟩;by_cases hid:H.n≤id∧id < H.n+k
  ·rw [(hfr id hid.1 hid.2).1] at hp; cases hp
  ·rw [hIE id hid]; exact hp
 have hr2:R g2 r x:=by
  rcases k4 with rfl | rfl | rfl
  ·exact R.mono hle' _ _ q2
  ·exact c1x (R.mono hle' _ _ q2)
  ·exact (lo_R _ _ (R.mono hle' _ _ q2)).1
 have hm1:∀ id o,appd ds (only fp H.m) id=some o→H'.m id=some o:=by
  intro id o ho;rcases hsubF id with e | e
  ·rw [e] at ho; cases ho
  ·rw [← e]; exact ho
 have hs1:RS g2 (appd ds (only fp H.m)) w':=by
  refine ⟨by rw [hg2F]; exact k5.fro, ?_, ?_,by rw [hg2F]; exact k5.tab⟩
  ·intro id o ho;have hl:=k5.live id o (hm1 id o ho);exact hl.keep hle' fun b s n hb' => ⟨rfl,by rw [hg2F]; exact hl.unF hb'⟩
  ·intro id id' o o' b s n s' n' h1 h2 h3 h4;obtain ⟨p,hp⟩:=ι_live (k5.live id o (hm1 id o h1));obtain ⟨p',hp'⟩:=ι_live (k5.live id' o' (hm1 id' o' h2));rw [hg2a id (by have:=hlow' id p hp; omega)] at h3;rw [hg2a id' (by have:=hlow' id' p' hp'; omega)] at h4;exact k5.inj id id' o o' b s n s' n' (hm1 _ _ h1) (hm1 _ _ h2) h3 h4
 have own0:∀ b,Own g0 (only fp H.m) b→Own g (only fp H.m) b:=fun b ⟨id,o,s,n,h1,h2⟩ => ⟨id,o,s,n,h1,hsub0 _ _ h2⟩;have own1:∀ b,Own g2 (appd ds (only fp H.m)) b→Own g' H'.m b:=by
  rintro b ⟨id,o,s,n,h1,h2⟩;obtain ⟨p,hp⟩:=ι_live (k5.live id o (hm1 id o h1));rw [hg2a id (by have:=hlow' id p hp; omega)] at h2;exact ⟨id,o,s,n,hm1 _ _ h1,h2⟩
 have hx1:Ext g (only fp H.m) w g2 (appd ds (only fp H.m)) w' :=
  ⟨k8.size,fun b hb' ho => k8.old b hb' (fun h => ho (own0 b h)),hle,fun b hb' => (k8.own b (own1 b hb')).imp (fun h => h) (own0 b),
   fun b cs hb' => by
    rw [hg2F] at hb';rcases k8.froz b cs hb' with h | h | h
    ·rw [hg0F] at h; exact .inl h
    ·exact .inr (.inl h)
    ·exact .inr (.inr (own0 b h)),k8.os,k8.tape,k8.output⟩
 have hdom:∀ id,id∈ds.map (·.1)→(only fp H.m id=none→m id=none):=by
  intro id hid h0;obtain ⟨p,hp,rfl⟩:=List.mem_map.1 hid;rcases hds p hp with h | h
  ·rw [hag _ h]; simpa [only,h] using h0
  ·exact (hfr _ h.1 h.2).2
 have fr:=frame hs (fun id o ho => (m0s id o ho).2.1) hs1 hx1 (fun id o ho => by
  rcases b4k ds id with ⟨h1,_⟩ | h1
  ·by_cases h0:only fp H.m id=none
   ·exact .inl (hdom id h1 h0)
   ·exact .inr h0
  ·rw [h1] at ho; exact .inr (by rw [ho]; simp))
 have em:(fun id => match appd ds (only fp H.m) id with | some o => some o | none => if only fp H.m id=none then m id else none)=appd ds m:=by
  funext id;rcases b4k ds id with ⟨h1,o,h2⟩ | h1
  ·rw [h2,h2];cases o with
   | some o => rfl
   | none =>
    simp only;by_cases h0:only fp H.m id=none
    ·rw [if_pos h0]; exact hdom id h1 h0
    ·rw [if_neg h0]
  ·rw [h1,h1];cases h0:only fp H.m id with
   | some o => simp only; exact (m0s id o h0).2.1.symm
   | none => simp
 have fr':RS g2 (appd ds m) w'∧Ext g m w g2 (appd ds m) w':=by rw [← em]; exact fr
 exact ⟨x,q1,x,g2,rfl,hr2,fr'.1,hIE,fr'.2⟩
section
theorem d8y {N:Nat} {p:Nat→Prop}:∀ (d i:Nat),N - i≤d→i≤N→p i→∃ m,m≤N∧p m∧i≤m∧∀ j,j≤N→p j→j≤m
 | 0,i,hd,hi,hp => ⟨i,hi,hp,Nat.le_refl _,fun j hj _ => by omega⟩
 | d+1,i,hd,hi,hp => by
  by_cases h:∃ j,i < j∧j≤N∧p j
  ·obtain ⟨j,h1,h2,h3⟩:=h;obtain ⟨m,k1,k2,k3,k4⟩:=d8y d j (by omega) h2 h3;exact ⟨m,k1,k2,by omega,k4⟩
  ·exact ⟨i,hi,hp,Nat.le_refl _,fun j hj hpj => by
    rcases Nat.lt_or_ge i j with h1 | h1
    ·exact absurd ⟨j,h1,hj,hpj⟩ h
    ·exact h1⟩
open Classical in
theorem x_it {P:Program} {σ:Sg} {H:Hp} {Q:QA} {a:C} (N:Nat) (I:Nat→Sg→Hp→Prop) (h0:I 0 σ H)
  (h:∀ (T:QA) (i:Nat) (σ:Sg) (H:Hp),i≤N→I i σ H→(∀ σ' H',i < N→I (i+1) σ' H'→T .norm σ' H')→(∀ id σ' H',Q (.exit id) σ' H'→T (.exit id) σ' H')→(∀ σ' H',Q .ret σ' H'→T .ret σ' H')→evX P a σ H T):evX P (.loop a) σ H Q:=by
 have mx:∀ σ H,(∃ i,i≤N∧I i σ H)→∃ m,m≤N∧I m σ H∧∀ j,j≤N→I j σ H→j≤m:=by
  rintro σ H ⟨i,hi,hp⟩;obtain ⟨m,k1,k2,_,k4⟩:=d8y (p:=fun i => I i σ H) N i (by omega) hi hp;exact ⟨m,k1,k2,k4⟩
 let μ:Sg→Hp→Nat:=fun σ H => if k:∃ i,i≤N∧I i σ H then N - Classical.choose (mx σ H k) else 0
 refine x_lp (fun σ H => ∃ i,i≤N∧I i σ H) μ ⟨0,Nat.zero_le _,h0⟩ ?_;intro T σ H hi hN hX hR;obtain ⟨k1,k2,k3⟩:=Classical.choose_spec (mx σ H hi);have hμ:μ σ H=N - Classical.choose (mx σ H hi):=dif_pos hi;refine h T _ σ H k1 k2 (fun σ' H' hlt hI => hN σ' H' ⟨_,hlt,hI⟩ ?_) hX hR;have hi':∃ i,i≤N∧I i σ' H':=⟨_,hlt,hI⟩;obtain ⟨j1,j2,j3⟩:=Classical.choose_spec (mx σ' H' hi');have hμ':μ σ' H'=N - Classical.choose (mx σ' H' hi'):=dif_pos hi';have:=j3 _ hlt hI;omega
theorem b1x {P:Program} {σ:Sg} {H:Hp} {Q:QA} {a:C} (N:Nat) (p:Nat→Prop) (f:Nat→Sg) (hp:p 0) (h0:σ=f 0)
  (h:∀ (T:QA) (i:Nat),i≤N→p i→(∀ σ',i < N→p (i+1)→σ'=f (i+1)→T .norm σ' H)→(∀ id σ' H',Q (.exit id) σ' H'→T (.exit id) σ' H')→(∀ σ' H',Q .ret σ' H'→T .ret σ' H')→evX P a (f i) H T):evX P (.loop a) σ H Q:=by
 refine x_it N (fun i σ' H' => H'=H∧p i∧σ'=f i) ⟨rfl,hp,h0⟩ ?_;rintro T i σ' H' hi ⟨rfl,hpi,rfl⟩ hN hX hR;exact h T i hi hpi (fun σ' h1 h2 h3 => hN σ' _ h1 ⟨rfl,h2,h3⟩) hX hR
/-! Branches and guards that may go both ways,by the shape of what they ask. -/
theorem e5d {P:Program} {σ:Sg} {H:Hp} {Q:QA} {a b:C} {l:List Bool} {k:Nat} {hk:k < l.length}:evC P a b σ H Q (some (.bool (l[k])))=((l[k]=true→evX P a σ H Q)∧(l[k]=false→evX P b σ H Q)):=rfl
theorem e5r {P:Program} {σ:Sg} {H:Hp} {env:List V} {lg:Lg} {K:List V→Hp→Prop} {is:List RI} {i:Ins} {u:List Nat} {d:Nat} {b:Bool} {l:List Bool} {k:Nat} {hk:k < l.length}:evG P σ is env lg H u K i d b (some (.bool (l[k])))=((l[k]=b→opX P (look σ (setN d (.bool b) env)) H (Nx P σ is (setN d (.bool b) env) lg H u K) i)∧(l[k]=!b→evX1 P σ is (.tup []::setN d (.bool !b) env) (([],[])::lg) H K)):=rfl
theorem c_gD {P:Program} {σ:Sg} {H:Hp} {Q:QA} {a b:C} {l:List Bool} {k:Nat}:evC P a b σ H Q (some (.bool (l.getD k false)))=((l.getD k false=true→evX P a σ H Q)∧(l.getD k false=false→evX P b σ H Q)):=rfl
theorem g_gD {P:Program} {σ:Sg} {H:Hp} {env:List V} {lg:Lg} {K:List V→Hp→Prop} {is:List RI} {i:Ins} {u:List Nat} {d:Nat} {b:Bool} {l:List Bool} {k:Nat}:evG P σ is env lg H u K i d b (some (.bool (l.getD k false)))=((l.getD k false=b→opX P (look σ (setN d (.bool b) env)) H (Nx P σ is (setN d (.bool b) env) lg H u K) i)∧(l.getD k false=!b→evX1 P σ is (.tup []::setN d (.bool !b) env) (([],[])::lg) H K)):=rfl
theorem e6d {P:Program} {σ:Sg} {H:Hp} {Q:QA} {a b:C} {x y:Bool}:evC P a b σ H Q (some (.bool ((x && y))))=(((x && y)=true→evX P a σ H Q)∧((x && y)=false→evX P b σ H Q)):=rfl
theorem e4f {P:Program} {σ:Sg} {H:Hp} {env:List V} {lg:Lg} {K:List V→Hp→Prop} {is:List RI} {i:Ins} {u:List Nat} {d:Nat} {b:Bool} {x y:Bool}:evG P σ is env lg H u K i d b (some (.bool ((x && y))))=(((x && y)=b→opX P (look σ (setN d (.bool b) env)) H (Nx P σ is (setN d (.bool b) env) lg H u K) i)∧((x && y)=!b→evX1 P σ is (.tup []::setN d (.bool !b) env) (([],[])::lg) H K)):=rfl
theorem c_or {P:Program} {σ:Sg} {H:Hp} {Q:QA} {a b:C} {x y:Bool}:evC P a b σ H Q (some (.bool ((x || y))))=(((x || y)=true→evX P a σ H Q)∧((x || y)=false→evX P b σ H Q)):=rfl
theorem g_or {P:Program} {σ:Sg} {H:Hp} {env:List V} {lg:Lg} {K:List V→Hp→Prop} {is:List RI} {i:Ins} {u:List Nat} {d:Nat} {b:Bool} {x y:Bool}:evG P σ is env lg H u K i d b (some (.bool ((x || y))))=(((x || y)=b→opX P (look σ (setN d (.bool b) env)) H (Nx P σ is (setN d (.bool b) env) lg H u K) i)∧((x || y)=!b→evX1 P σ is (.tup []::setN d (.bool !b) env) (([],[])::lg) H K)):=rfl
theorem nlt0 {i:Nat}:((i:Int) < 0)=False:=by simp
def mv {α:Type} (f:α→V) (l:List α):List V:=l.map f
section
variable {α:Type} {f:α→V} {l:List α}
theorem mv_len:(mv f l).length=l.length:=by simp [mv]
theorem a9v:mv f []=[]:=rfl
theorem b6o {a:α}:mv f (a::l)=f a::mv f l:=rfl
theorem a0w {i:Nat} (h:i < l.length):(mv f l)[i]?=some (f l[i]):=by simp [mv,h]
theorem e0l {i:Nat} {a:α}:(mv f l).set i (f a)=mv f (l.set i a):=by simp [mv,List.map_set]
theorem d1o {m:List α}:mv f l++mv f m=mv f (l++m):=by simp [mv]
theorem b6t {a:α}:mv f l++[f a]=mv f (l++[a]):=by simp [mv]
theorem a0a (h:∀ a,(f a).closed=true):a0b (mv f l)=true:=by
 rw [a1u]; intro v hv;simp only [mv,List.mem_map] at hv;obtain ⟨a,_,rfl⟩:=hv; exact h a
theorem a3e (h:∀ a,lo (f a)=f a):loL (mv f l)=mv f l:=by
 induction l with
 | nil => rfl
 | cons a l ih => simp only [b6o,loL,h,ih]
theorem b4t {v:V} (h:v∈mv f l):∃ a,a∈l∧f a=v:=by simpa [mv] using h
end
section
variable {P:Program} {f:Nat} {vs:List V} {r:V}
variable {H:Hp} {fp:List Nat} {ds:List (Nat×Option Ob)} {k:Nat}
theorem ACall.first {sz:Nat} {l:List V} (h1:l=[]→ACall P f (.fsl .nil sz []::vs) H fp r ds k) (h2:ACall P f (.fsl .nn sz l::vs) H fp r ds k):ACall P f (.fsl .loose sz l::vs) H fp r ds k:=by
 refine ⟨h2.1,h2.2.1,fun m g w xs ha hb hs hx => ?_⟩;simp only [RC] at hx;obtain ⟨y,ys,e1,e2,e3⟩:=hx;rcases d9z e2 with ⟨k,rfl⟩ | k
 ·exact (h1 rfl).2.2 m g w xs ha hb hs (by simp only [RC]; exact ⟨y,ys,e1,k,e3⟩)
 ·exact h2.2.2 m g w xs ha hb hs (by simp only [RC]; exact ⟨y,ys,e1,k,e3⟩)
theorem ACall.any_st {sz:Nat} {l:List V} {st:St} (h:ACall P f (.fsl .loose sz l::vs) H fp r ds k):ACall P f (.fsl st sz l::vs) H fp r ds k:=by
 refine ⟨h.1,h.2.1,fun m g w xs ha hb hs hx => ?_⟩;simp only [RC] at hx;obtain ⟨y,ys,e1,e2,e3⟩:=hx;exact h.2.2 m g w xs ha hb hs (by simp only [RC]; exact ⟨y,ys,e1,(a8x e2).1,e3⟩)
theorem CallA.of {K:KI} (h:ACall P f vs H fp r ds k) (hk:K r fp ds k):CallA P f vs H K:=⟨_,_,_,_,h,hk⟩
end
def Own1 (H:Hp) (sz:Nat) (v:V) (l:List V):Prop :=
 (∃ st,v=.fsl st sz []∧l=[])∨∃ id,id < H.n∧v=.sl id 0 l.length∧H.m id=some (.arr sz l)
def CloneOK (P:Program) (f sz bt:Nat):Prop :=
 (∀ H,ACall P f [.fsl .nil sz []] H [] (.fsl .loose sz []) [] 0)∧(∀ H,ACall P f [.fsl .nn sz []] H [] (.fsl .loose sz []) [] 0) ∧
 ∀ H v l,a0b (v::l)=true→(l.length+1)*bt≤140737488355328→ACall P f [.fsl .nn sz (v::l)] H [] (.sl H.n 0 (l.length+1)) [(H.n,some (.arr sz (v::l)))] 1
theorem CloneOK.call {P:Program} {f sz bt:Nat} (h:CloneOK P f sz bt) {H:Hp} {K:KI} {st:St} {l:List V} (hc:a0b l=true) (hl:l.length*bt≤140737488355328)
  (k:∀ v ds k,Own1 ⟨H.n+k,appd ds H.m⟩ sz v l→(∀ id,id < H.n→appd ds H.m id=H.m id)→K v [] ds k):CallA P f [.fsl st sz l] H K:=by
 cases l with
 | nil => exact .of (ACall.any_st (.first (fun _ => h.1 H) (h.2.1 H))) (k _ _ _ (.inl ⟨_,rfl,rfl⟩) fun _ _ => rfl)
 | cons v l =>
  refine .of (ACall.any_st (.first (fun e => by cases e) (h.2.2 H v l hc (by simpa using hl)))) (k _ _ _ (.inr ⟨H.n,by simp,by simp,by simp [appd,upd]⟩) fun id hid => ?_);have:id≠H.n:=by omega
  simp [appd,upd,this]
theorem b6d {fz:List Nat} {m:Hm} {id len sz:Nat} {l:List V} (h:m id=some (.arr sz l)) (hi:id∈fz) (hl:len=l.length) (hc:a0b l=true):frzV fz m (.sl id 0 len)=.fsl .loose sz l:=by
 subst hl; rw [b7v h hi (by simp) hc]; simp
theorem c3e {fz:List Nat} {m:Hm} {a b c:Nat}:frzV fz m (.ptr a b c)=.ptr a b c:=by simp [frzV,snap,V.closed]
theorem wo_0 {m:Hm}:a1d [] m=m:=by funext i; simp [a1d]
theorem wo_1 {m:Hm} {a i:Nat} (h:i≠a):a1d [a] m i=m i:=by simp [a1d,h]
theorem wo_2 {m:Hm} {a b i:Nat} (h:i≠a) (h':i≠b):a1d [a,b] m i=m i:=by simp [a1d,h,h']
section
variable {n:Nat} {m:Hm}
theorem a1k {v:V} (h:v.closed=true):snap n m v=some v:=by cases n<;>simp [snap,h]
theorem a3o {f:V→Option V} {v u:V} {vs us:List V} (h1:f v=some u) (h2:mapO f vs=some us):mapO f (v::vs)=some (u::us):=by simp [mapO,h1,h2]
theorem a8w {l l':List V} (h:mapO (snap n m) l=some l'):snap (n+1) m (.agg l)=some (.agg l'):=by
 by_cases hc:a0b l=true
 ·rw [a2r hc] at h; simp at h; subst h; exact a1k (by simpa [V.closed] using hc)
 ·simp [snap,V.closed,hc,h]
theorem c2s {l l':List V} (h:mapO (snap n m) l=some l'):snap (n+1) m (.tup l)=some (.tup l'):=by
 by_cases hc:a0b l=true
 ·rw [a2r hc] at h; simp at h; subst h; exact a1k (by simpa [V.closed] using hc)
 ·simp [snap,V.closed,hc,h]
theorem a6g {id sz len:Nat} {l:List V} (h:m id=some (.arr sz l)) (hc:a0b l=true) (hl:len=l.length):snap (n+1) m (.sl id 0 len)=some (.fsl .loose sz l):=by
 subst hl;simp [snap,V.closed,h,a2r hc]
end
theorem d5q {rvs:List RV} {r v:V} {σ:Sg} {H:Hp} {l:List V} (hl:resE σ H.m rvs=some l) (hs:snap 4 H.m (pack l)=some v) (hr:lo v=r):Fin rvs r .ret σ H :=
 ⟨.inr rfl,l,hl,v,by simp [c3o,hs],.inr (.inr hr)⟩
theorem a0e {rvs:List RV} {r:V} {σ:Sg} {H:Hp} {l:List V} (hl:resE σ H.m rvs=some l) (hc:(pack l).closed=true) (hr:lo (pack l)=r):Fin rvs r .ret σ H:=a7e hl hc (.inr (.inr hr))
/-! A function's code and its checks,in few words. -/
def Chk (P:Program) (fn:Func) (c:C) (r:List RV):Prop:=∃ c0,fn.body=some c0∧chkC P fn.ntmps c0 c=true∧a4r P fn.results.toList r=true
def EnP (P:Program) (f n:Nat) (c:C) (rvs:List RV):Prop:=∀ {vs:List V} {r:V},vs.length≤n→a0b vs=true→evX P c (argsE 0 vs) ⟨0,fun _ => none⟩ (Fin rvs r)→PCall P f vs r
def EnA (P:Program) (f n:Nat) (c:C) (rvs:List RV):Prop:=∀ {vs:List V} {H:Hp} {fp:List Nat} {r:V} {ds:List (Nat×Option Ob)} {k:Nat},vs.length≤n→lowL H.n vs=true→(∀ id∈fp,id < H.n∧∀ o,H.m id=some o→o.low H.n=true) →
 (∀ p∈ds,p.1∈fp∨(H.n≤p.1∧p.1 < H.n+k))→evX P c (argsE 0 vs) ⟨H.n,only fp H.m⟩ (FinA rvs (only fp H.m) H.n r ds k)→ACall P f vs H fp r ds k
theorem e8e {P:Program} (hm:P.follows .mixedOrders=true) {f:Nat} {fn:Func} {c:C} {rvs:List RV} (hf:P.funcs[f]?=some fn) (hn:(fn.name == "runtime.NumGoroutine")=false) (h:Chk P fn c rvs):EnP P f fn.ntmps c rvs:=by
 obtain ⟨c0,h1,h2,h3⟩:=h;intro vs r hlen hcl h;exact e5p hm hf h1 hn h2 h3 hlen hcl (ofX h)
theorem e7y {P:Program} (hm:P.follows .mixedOrders=true) {f:Nat} {fn:Func} {c:C} {rvs:List RV} (hf:P.funcs[f]?=some fn) (hn:(fn.name == "runtime.NumGoroutine")=false) (h:Chk P fn c rvs):EnA P f fn.ntmps c rvs:=by
 obtain ⟨c0,h1,h2,h3⟩:=h;intro vs H fp r ds k hlen hcl hfp hds h;exact e6y hm hf h1 hn h2 h3 hlen hcl hfp hds (ofX h)
theorem meP {P:Program} {f:Nat} {fn:Func} {c:C} {rvs:List RV} (hf:P.funcs[f]?=some fn) (hm:P.follows .mixedOrders=true:=by kernel_rfl) (hn:(fn.name == "runtime.NumGoroutine")=false:=by kernel_rfl) (h:Chk P fn c rvs:=by exact ⟨_,rfl,by kernel_rfl,by kernel_rfl⟩):EnP P f fn.ntmps c rvs:=e8e hm hf hn h
theorem meA {P:Program} {f:Nat} {fn:Func} {c:C} {rvs:List RV} (hf:P.funcs[f]?=some fn) (hm:P.follows .mixedOrders=true:=by kernel_rfl) (hn:(fn.name == "runtime.NumGoroutine")=false:=by kernel_rfl) (h:Chk P fn c rvs:=by exact ⟨_,rfl,by kernel_rfl,by kernel_rfl⟩):EnA P f fn.ntmps c rvs:=e7y hm hf hn h
theorem rs:type_of% (And.intro @xr (And.intro @vr (And.intro @d8n (And.intro @d7v (And.intro @e5l (And.intro @e5s (And.intro @d8b (And.intro @c5o (And.intro @c6o (And.intro @AEx.exit.injEq (And.intro @V.bool.injEq (And.intro @List.map_nil.{0,0} (And.intro @List.map_cons.{0,0} (And.intro @List.nil_append.{0} (And.intro @List.cons_append.{0} (And.intro @List.append_nil.{0} (And.intro @List.getElem?_cons_zero.{0} (And.intro @List.getElem?_cons_succ.{0} (And.intro @List.set_cons_zero.{0} (And.intro @List.set_cons_succ.{0} (And.intro @List.length_map.{0,0} (And.intro @List.length_nil.{0} (And.intro @List.length_cons.{0} (And.intro @Nat.add_zero (And.intro @Nat.zero_add (And.intro @Int.toNat_natCast (And.intro @Int.natCast_nonneg (And.intro @if_true.{1} (And.intro @if_false.{1} (And.intro @Bool.not_true (And.intro @Bool.not_false (And.intro @Bool.false_eq_true (And.intro @Bool.true_eq_false (And.intro @true_and (And.intro @and_true (And.intro @and_self (And.intro @ne_eq.{1} (And.intro @not_false_eq_true (And.intro @not_true_eq_false (And.intro @false_imp_iff (And.intro @true_imp_iff (And.intro @imp_self (And.intro @List.not_mem_nil.{0} (And.intro @implies_true.{1} (And.intro @List.mem_cons.{0} (And.intro @forall_eq_or_imp.{1} (And.intro @forall_eq.{1} (And.intro @or_false (And.intro @decide_eq_true_eq (And.intro @decide_eq_false_iff_not (And.intro @decide_true (And.intro @decide_false (And.intro @Bool.not_eq_true' (And.intro @Bool.not_eq_false' (And.intro @Bool.not_eq_eq_eq_not (And.intro @a2w (And.intro @e6p (@e4w)))))))))))))))))))))))))))))))))))))))))))))))))))))))))):=And.intro @xr (And.intro @vr (And.intro @d8n (And.intro @d7v (And.intro @e5l (And.intro @e5s (And.intro @d8b (And.intro @c5o (And.intro @c6o (And.intro @AEx.exit.injEq (And.intro @V.bool.injEq (And.intro @List.map_nil.{0,0} (And.intro @List.map_cons.{0,0} (And.intro @List.nil_append.{0} (And.intro @List.cons_append.{0} (And.intro @List.append_nil.{0} (And.intro @List.getElem?_cons_zero.{0} (And.intro @List.getElem?_cons_succ.{0} (And.intro @List.set_cons_zero.{0} (And.intro @List.set_cons_succ.{0} (And.intro @List.length_map.{0,0} (And.intro @List.length_nil.{0} (And.intro @List.length_cons.{0} (And.intro @Nat.add_zero (And.intro @Nat.zero_add (And.intro @Int.toNat_natCast (And.intro @Int.natCast_nonneg (And.intro @if_true.{1} (And.intro @if_false.{1} (And.intro @Bool.not_true (And.intro @Bool.not_false (And.intro @Bool.false_eq_true (And.intro @Bool.true_eq_false (And.intro @true_and (And.intro @and_true (And.intro @and_self (And.intro @ne_eq.{1} (And.intro @not_false_eq_true (And.intro @not_true_eq_false (And.intro @false_imp_iff (And.intro @true_imp_iff (And.intro @imp_self (And.intro @List.not_mem_nil.{0} (And.intro @implies_true.{1} (And.intro @List.mem_cons.{0} (And.intro @forall_eq_or_imp.{1} (And.intro @forall_eq.{1} (And.intro @or_false (And.intro @decide_eq_true_eq (And.intro @decide_eq_false_iff_not (And.intro @decide_true (And.intro @decide_false (And.intro @Bool.not_eq_true' (And.intro @Bool.not_eq_false' (And.intro @Bool.not_eq_eq_eq_not (And.intro @a2w (And.intro @e6p (@e4w)))))))))))))))))))))))))))))))))))))))))))))))))))))))))
theorem rg:type_of% (And.intro @rs (And.intro @beq_self_eq_true.{0} (And.intro @true_or (And.intro @or_true (And.intro @false_or (And.intro @nlt0 (And.intro @List.all_cons.{0} (And.intro @List.all_nil.{0} (And.intro @Bool.and_true (And.intro @Bool.true_and (And.intro @c3e (And.intro @wo_0 (And.intro @wo_1 (And.intro @wo_2 (And.intro @mv_len (And.intro @a9v (And.intro @a0w (And.intro @e5d (And.intro @e5r (And.intro @c_gD (And.intro @g_gD (And.intro @e6d (And.intro @e4f (And.intro @c_or (And.intro @g_or (And.intro @List.take_succ_cons.{0} (And.intro @List.take_zero.{0} (And.intro @List.drop_zero.{0} (@List.drop_succ_cons.{0}))))))))))))))))))))))))))))):=And.intro @rs (And.intro @beq_self_eq_true.{0} (And.intro @true_or (And.intro @or_true (And.intro @false_or (And.intro @nlt0 (And.intro @List.all_cons.{0} (And.intro @List.all_nil.{0} (And.intro @Bool.and_true (And.intro @Bool.true_and (And.intro @c3e (And.intro @wo_0 (And.intro @wo_1 (And.intro @wo_2 (And.intro @mv_len (And.intro @a9v (And.intro @a0w (And.intro @e5d (And.intro @e5r (And.intro @c_gD (And.intro @g_gD (And.intro @e6d (And.intro @e4f (And.intro @c_or (And.intro @g_or (And.intro @List.take_succ_cons.{0} (And.intro @List.take_zero.{0} (And.intro @List.drop_zero.{0} (@List.drop_succ_cons.{0}))))))))))))))))))))))))))))
theorem c5j {P:Program} {L:Src→Option V} {H:Hp} {K:KI}:∀ a0,opX P L H K (.mov a0)=fin (opI L H (.mov a0)) K:=by intros; rfl
theorem c1d {P:Program} {L:Src→Option V} {H:Hp} {K:KI}:∀ a0 a1 a2,opX P L H K (.pick a0 a1 a2)=fin (opI L H (.pick a0 a1 a2)) K:=by intros; rfl
theorem d0d {P:Program} {L:Src→Option V} {H:Hp} {K:KI}:∀ a0 a1 a2,opX P L H K (.bin a0 a1 a2)=fin (opI L H (.bin a0 a1 a2)) K:=by intros; rfl
theorem d0b {P:Program} {L:Src→Option V} {H:Hp} {K:KI}:∀ a0 a1 a2,opX P L H K (.eqb a0 a1 a2)=fin (opI L H (.eqb a0 a1 a2)) K:=by intros; rfl
theorem c8t {P:Program} {L:Src→Option V} {H:Hp} {K:KI}:∀ a0 a1 a2,opX P L H K (.eqn a0 a1 a2)=fin (opI L H (.eqn a0 a1 a2)) K:=by intros; rfl
theorem c6h {P:Program} {L:Src→Option V} {H:Hp} {K:KI}:∀ a0 a1 a2 a3,opX P L H K (.eqs a0 a1 a2 a3)=fin (opI L H (.eqs a0 a1 a2 a3)) K:=by intros; rfl
theorem e0q {P:Program} {L:Src→Option V} {H:Hp} {K:KI}:∀ a0 a1,opX P L H K (.un a0 a1)=fin (opI L H (.un a0 a1)) K:=by intros; rfl
theorem d1z {P:Program} {L:Src→Option V} {H:Hp} {K:KI}:∀ a0 a1,opX P L H K (.cvt a0 a1)=fin (opI L H (.cvt a0 a1)) K:=by intros; rfl
theorem d0u {P:Program} {L:Src→Option V} {H:Hp} {K:KI}:∀ a0,opX P L H K (.stb a0)=fin (opI L H (.stb a0)) K:=by intros; rfl
theorem c2j {P:Program} {L:Src→Option V} {H:Hp} {K:KI}:∀ a0,opX P L H K (.same a0)=fin (opI L H (.same a0)) K:=by intros; rfl
theorem b8k {P:Program} {L:Src→Option V} {H:Hp} {K:KI}:∀ a0 a1,opX P L H K (.alloc a0 a1)=fin (opI L H (.alloc a0 a1)) K:=by intros; rfl
theorem d1n {P:Program} {L:Src→Option V} {H:Hp} {K:KI}:∀ a0 a1,opX P L H K (.box a0 a1)=fin (opI L H (.box a0 a1)) K:=by intros; rfl
theorem b7x {P:Program} {L:Src→Option V} {H:Hp} {K:KI}:∀ a0 a1,opX P L H K (.build a0 a1)=fin (opI L H (.build a0 a1)) K:=by intros; rfl
theorem d2o {P:Program} {L:Src→Option V} {H:Hp} {K:KI}:∀ a0 a1,opX P L H K (.bsl a0 a1)=fin (opI L H (.bsl a0 a1)) K:=by intros; rfl
theorem c0p {P:Program} {L:Src→Option V} {H:Hp} {K:KI}:∀ a0 a1,opX P L H K (.load a0 a1)=fin (opI L H (.load a0 a1)) K:=by intros; rfl
theorem b7p {P:Program} {L:Src→Option V} {H:Hp} {K:KI}:∀ a0 a1 a2,opX P L H K (.store a0 a1 a2)=fin (opI L H (.store a0 a1 a2)) K:=by intros; rfl
theorem c8u {P:Program} {L:Src→Option V} {H:Hp} {K:KI}:∀ a0 a1,opX P L H K (.fad a0 a1)=fin (opI L H (.fad a0 a1)) K:=by intros; rfl
theorem c7q {P:Program} {L:Src→Option V} {H:Hp} {K:KI}:∀ a0 a1 a2,opX P L H K (.fld a0 a1 a2)=fin (opI L H (.fld a0 a1 a2)) K:=by intros; rfl
theorem d3c {P:Program} {L:Src→Option V} {H:Hp} {K:KI}:∀ a0 a1 a2,opX P L H K (.iad a0 a1 a2)=fin (opI L H (.iad a0 a1 a2)) K:=by intros; rfl
theorem d1v {P:Program} {L:Src→Option V} {H:Hp} {K:KI}:∀ a0 a1,opX P L H K (.ixs a0 a1)=fin (opI L H (.ixs a0 a1)) K:=by intros; rfl
theorem d4w {P:Program} {L:Src→Option V} {H:Hp} {K:KI}:∀ a0 a1 a2 a3 a4,opX P L H K (.slc a0 a1 a2 a3 a4)=fin (opI L H (.slc a0 a1 a2 a3 a4)) K:=by intros; rfl
theorem d2l {P:Program} {L:Src→Option V} {H:Hp} {K:KI}:∀ a0 a1 a2,opX P L H K (.sls a0 a1 a2)=fin (opI L H (.sls a0 a1 a2)) K:=by intros; rfl
theorem c8b {P:Program} {L:Src→Option V} {H:Hp} {K:KI}:∀ a0 a1,opX P L H K (.ext a0 a1)=fin (opI L H (.ext a0 a1)) K:=by intros; rfl
theorem d1h {P:Program} {L:Src→Option V} {H:Hp} {K:KI}:∀ a0 a1 a2,opX P L H K (.mkf a0 a1 a2)=fin (opI L H (.mkf a0 a1 a2)) K:=by intros; rfl
theorem c7r {P:Program} {L:Src→Option V} {H:Hp} {K:KI}:∀ a0 a1 a2 a3,opX P L H K (.mks a0 a1 a2 a3)=fin (opI L H (.mks a0 a1 a2 a3)) K:=by intros; rfl
theorem d3v {P:Program} {L:Src→Option V} {H:Hp} {K:KI}:∀ a0,opX P L H K (.nck a0)=fin (opI L H (.nck a0)) K:=by intros; rfl
theorem d3p {P:Program} {L:Src→Option V} {H:Hp} {K:KI}:∀ a0 a1,opX P L H K (.len a0 a1)=fin (opI L H (.len a0 a1)) K:=by intros; rfl
theorem c8g {P:Program} {L:Src→Option V} {H:Hp} {K:KI}:∀ a0 a1 a2,opX P L H K (.mnx a0 a1 a2)=fin (opI L H (.mnx a0 a1 a2)) K:=by intros; rfl
theorem d3m {P:Program} {L:Src→Option V} {H:Hp} {K:KI}:∀ a0 a1 a2 a3,opX P L H K (.app a0 a1 a2 a3)=fin (opI L H (.app a0 a1 a2 a3)) K:=by intros; rfl
theorem d0j {P:Program} {L:Src→Option V} {H:Hp} {K:KI}:∀ a0 a1 a2,opX P L H K (.cpy a0 a1 a2)=fin (opI L H (.cpy a0 a1 a2)) K:=by intros; rfl
theorem c6g {P:Program} {L:Src→Option V} {H:Hp} {K:KI}:∀ a0 a1,opX P L H K (.mki a0 a1)=fin (opI L H (.mki a0 a1)) K:=by intros; rfl
theorem d1p {P:Program} {L:Src→Option V} {H:Hp} {K:KI}:opX P L H K (.mkm)=fin (opI L H (.mkm)) K:=rfl
theorem c9l {P:Program} {L:Src→Option V} {H:Hp} {K:KI}:opX P L H K (.mkd)=fin (opI L H (.mkd)) K:=rfl
theorem d1l {P:Program} {L:Src→Option V} {H:Hp} {K:KI}:∀ a0 a1 a2,opX P L H K (.mdl a0 a1 a2)=fin (opI L H (.mdl a0 a1 a2)) K:=by intros; rfl
theorem d0i {P:Program} {L:Src→Option V} {H:Hp} {K:KI}:∀ a0,opX P L H K (.rng a0)=fin (opI L H (.rng a0)) K:=by intros; rfl
theorem c9b {P:Program} {L:Src→Option V} {H:Hp} {K:KI}:∀ a0,opX P L H K (.ent a0)=fin (opI L H (.ent a0)) K:=by intros; rfl
theorem d3k {P:Program} {L:Src→Option V} {H:Hp} {K:KI}:∀ a0 a1 a2 a3 a4,opX P L H K (.mlk a0 a1 a2 a3 a4)=fin (opI L H (.mlk a0 a1 a2 a3 a4)) K:=by intros; rfl
theorem c7v {P:Program} {L:Src→Option V} {H:Hp} {K:KI}:∀ a0 a1 a2 a3,opX P L H K (.mup a0 a1 a2 a3)=fin (opI L H (.mup a0 a1 a2 a3)) K:=by intros; rfl
theorem c7i {P:Program} {L:Src→Option V} {H:Hp} {K:KI}:∀ a0 a1 a2 a3,opX P L H K (.men a0 a1 a2 a3)=fin (opI L H (.men a0 a1 a2 a3)) K:=by intros; rfl
theorem d2w {P:Program} {L:Src→Option V} {H:Hp} {K:KI}:∀ a0 a1 a2,opX P L H K (.mes a0 a1 a2)=fin (opI L H (.mes a0 a1 a2)) K:=by intros; rfl
theorem d4g {P:Program} {L:Src→Option V} {H:Hp} {K:KI}:∀ a0,opX P L H K (.mln a0)=fin (opI L H (.mln a0)) K:=by intros; rfl
def unO:UnOp→Option V→Rs
 | .not,some (.bool b) => okc True (.bool !b)
 | .neg,some (.int k n) => okc True (.int k (k.wrap (0 - n)))
 | .xor,some (.int k n) => okc True (.int k (a4s .xor k (if k.signed then -1 else k.max) n))
 | _,_ => none
def lenO:Bool→Option V→Rs
 | true,some (.str s) => okc True (.int .i64 s.length)
 | false,some (.fsl _ _ l) => okc True (.int .i64 l.length)
 | false,some (.sl _ _ len) => okc True (.int .i64 len)
 | false,some (.slc _ _ len _) => okc True (.int .i64 len)
 | _,_ => none
theorem d9f (L:Src→Option V) (H:Hp) (op:UnOp) (x:Src):opI L H (.un op x)=unO op (L x):=rfl
theorem d2g (L:Src→Option V) (H:Hp) (b:Bool) (x:Src):opI L H (.len b x)=lenO b (L x):=rfl
theorem c8i {P:Program} {L:Src→Option V} {H:Hp} {K:KI}:∀ a0,opX P L H K (.sto a0)=fin (opI L H (.sto a0)) K:=by intros; rfl
theorem d2j {P:Program} {L:Src→Option V} {H:Hp} {K:KI}:∀ a0,opX P L H K (.cap a0)=fin (opI L H (.cap a0)) K:=by intros; rfl
theorem d0s {P:Program} {L:Src→Option V} {H:Hp} {K:KI}:∀ a0 a1 a2 a3 a4,opX P L H K (.apz a0 a1 a2 a3 a4)=fin (opI L H (.apz a0 a1 a2 a3 a4)) K:=by intros; rfl
theorem d9q {a b c:Nat}:unS (.sl a b c)=.sl a b c:=rfl
theorem d9u {st:St} {sz:Nat} {l:List V}:unS (.fsl st sz l)=.fsl st sz l:=rfl
theorem c8a {a b c d:Nat}:unS (.slc a b c d)=.sl a b c:=rfl
theorem c6f (L:Src→Option V) (H:Hp):opI L H .mkd=some (True,.map H.n,[],[(H.n,some (.md 0 [] []))],1):=rfl
theorem d3n (L:Src→Option V) (H:Hp) (ks:List Nat) (x k:Src):opI L H (.mdl ks x k)=mdlO H ks (L x) (L k):=rfl
theorem c8k (L:Src→Option V) (H:Hp) (x:Src):opI L H (.rng x)=rngO H (L x):=rfl
theorem c9c (L:Src→Option V) (H:Hp) (x:Src):opI L H (.ent x)=entX H (L x):=rfl
theorem d9v (H:Hp) (ks:List Nat) (id:Nat) (k:V):mdlO H ks (some (.map id)) (some k)=mdlP ks id k (H.m id):=rfl
theorem d8e (H:Hp) (id:Nat):rngO H (some (.map id))=rngP id H.n (H.m id):=rfl
theorem e0t (H:Hp) (id:Nat):entX H (some (.ptr id 0 0))=entP H id (H.m id):=rfl
theorem gD:type_of% (And.intro @c5j (And.intro @c1d (And.intro @d0d (And.intro @d0b (And.intro @c8t (And.intro @c6h (And.intro @e0q (And.intro @d1z (And.intro @d0u (And.intro @c2j (And.intro @b8k (And.intro @d1n (And.intro @b7x (And.intro @d2o (And.intro @c0p (And.intro @b7p (And.intro @c8u (And.intro @c7q (And.intro @d3c (And.intro @d1v (And.intro @d4w (And.intro @d2l (And.intro @c8b (And.intro @d1h (And.intro @c7r (And.intro @d3v (And.intro @d3p (And.intro @c8g (And.intro @d3m (And.intro @d0j (And.intro @c6g (And.intro @c9l (And.intro @d1l (And.intro @d0i (And.intro @c9b (And.intro @c6f (And.intro @d3n (And.intro @c8k (And.intro @c9c (And.intro @d9v (And.intro @d8e (And.intro @e0t (And.intro @mdlP.eq_1 (And.intro @rngP.eq_1 (And.intro @entP.eq_1 (And.intro @entQ.eq_1 (And.intro @entR.eq_1 (And.intro @d1p (And.intro @d3k (And.intro @c7v (And.intro @c7i (And.intro @d2w (And.intro @d4g (And.intro @c8i (And.intro @opI.eq_46 (And.intro @opX.eq_1 (And.intro @opX.eq_2 (And.intro @opI.eq_1 (And.intro @opI.eq_2 (And.intro @opI.eq_3 (And.intro @opI.eq_4 (And.intro @opI.eq_5 (And.intro @opI.eq_6 (And.intro @opI.eq_7 (And.intro @opI.eq_12 (And.intro @opI.eq_13 (And.intro @opI.eq_14 (And.intro @opI.eq_15 (And.intro @opI.eq_16 (And.intro @opI.eq_17 (And.intro @opI.eq_18 (And.intro @opI.eq_19 (And.intro @opI.eq_20 (And.intro @opI.eq_21 (And.intro @opI.eq_22 (And.intro @opI.eq_23 (And.intro @opI.eq_24 (And.intro @opI.eq_25 (And.intro @opI.eq_26 (And.intro @opI.eq_27 (And.intro @opI.eq_28 (And.intro @opI.eq_29 (And.intro @opI.eq_34 (And.intro @opI.eq_35 (And.intro @opI.eq_36 (And.intro @opI.eq_37 (And.intro @opI.eq_38 (And.intro @opI.eq_39 (And.intro @opI.eq_40 (And.intro @opI.eq_41 (And.intro @opI.eq_42 (And.intro @opI.eq_43 (And.intro @opI.eq_44 (And.intro @opI.eq_45 (And.intro @look.eq_1 (And.intro @look.eq_2 (And.intro @look.eq_3 (And.intro @nth.eq_1 (And.intro @nth.eq_2 (And.intro @nth.eq_3 (And.intro @setN.eq_1 (And.intro @setN.eq_2 (And.intro @setN.eq_3 (And.intro @outO.eq_1 (And.intro @outO.eq_2 (And.intro @binO.eq_1 (And.intro @binO.eq_2 (And.intro @intO.eq_1 (And.intro @intO.eq_2 (And.intro @intO.eq_3 (And.intro @intO.eq_4 (And.intro @intO.eq_5 (And.intro @intO.eq_6 (And.intro @intO.eq_7 (And.intro @intO.eq_8 (And.intro @intO.eq_9 (And.intro @intO.eq_10 (And.intro @intO.eq_11 (And.intro @intO.eq_12 (And.intro @intO.eq_13 (And.intro @intO.eq_14 (And.intro @intO.eq_15 (And.intro @intO.eq_16 (And.intro @intO.eq_17 (And.intro @strO.eq_1 (And.intro @strO.eq_2 (And.intro @strO.eq_3 (And.intro @strO.eq_4 (And.intro @strO.eq_5 (And.intro @strO.eq_6 (And.intro @strO.eq_7 (And.intro @argsE.eq_1 (And.intro @argsE.eq_2 (And.intro @appd.eq_1 (And.intro @appd.eq_2 (And.intro @cpyO.eq_1 (And.intro @slcO.eq_1 (And.intro @slcO.eq_2 (And.intro @slsO.eq_1 (And.intro @bndO.eq_1 (And.intro @bndO.eq_2 (And.intro @lo1.eq_1 (And.intro @lo1.eq_2 (And.intro @mnxO.eq_1 (And.intro @mnxO.eq_2 (And.intro @bldO.eq_1 (And.intro @bldV.eq_1 (And.intro @bldV.eq_2 (And.intro @bldV.eq_3 (And.intro @splice.eq_1 (And.intro @rd.eq_1 (And.intro @rd.eq_2 (And.intro @fpS.eq_1 (And.intro @lk.eq_1 (And.intro @lk.eq_2 (And.intro @isNil.eq_1 (And.intro @isNil.eq_2 (And.intro @isNil.eq_3 (And.intro @isNil.eq_4 (And.intro @isNil.eq_5 (And.intro @isNil.eq_6 (And.intro @isNil.eq_7 (And.intro @isNil.eq_8 (And.intro @isNil.eq_9 (And.intro @isNil.eq_10 (And.intro @isNil.eq_11 (And.intro @isNil.eq_12 (And.intro @d9f (And.intro @d2g (And.intro @unO.eq_1 (And.intro @unO.eq_2 (And.intro @unO.eq_3 (And.intro @lenO.eq_1 (And.intro @lenO.eq_2 (And.intro @lenO.eq_3 (And.intro @lenO.eq_4 (And.intro @d2j (And.intro @d0s (And.intro @opI.eq_47 (And.intro @opI.eq_48 (And.intro @opX.eq_3 (And.intro @slcO.eq_3 (And.intro @d9q (And.intro @d9u (And.intro @c8a (And.intro @rdA.eq_1 (And.intro @rdA.eq_2 @rdA.eq_3))))))))))))))))))))))))))))))))))))))))))))))))))))))))))))))))))))))))))))))))))))))))))))))))))))))))))))))))))))))))))))))))))))))))))))))))))))))))))))))))))))))))))))))))))))))))))) :=
 (And.intro @c5j (And.intro @c1d (And.intro @d0d (And.intro @d0b (And.intro @c8t (And.intro @c6h (And.intro @e0q (And.intro @d1z (And.intro @d0u (And.intro @c2j (And.intro @b8k (And.intro @d1n (And.intro @b7x (And.intro @d2o (And.intro @c0p (And.intro @b7p (And.intro @c8u (And.intro @c7q (And.intro @d3c (And.intro @d1v (And.intro @d4w (And.intro @d2l (And.intro @c8b (And.intro @d1h (And.intro @c7r (And.intro @d3v (And.intro @d3p (And.intro @c8g (And.intro @d3m (And.intro @d0j (And.intro @c6g (And.intro @c9l (And.intro @d1l (And.intro @d0i (And.intro @c9b (And.intro @c6f (And.intro @d3n (And.intro @c8k (And.intro @c9c (And.intro @d9v (And.intro @d8e (And.intro @e0t (And.intro @mdlP.eq_1 (And.intro @rngP.eq_1 (And.intro @entP.eq_1 (And.intro @entQ.eq_1 (And.intro @entR.eq_1 (And.intro @d1p (And.intro @d3k (And.intro @c7v (And.intro @c7i (And.intro @d2w (And.intro @d4g (And.intro @c8i (And.intro @opI.eq_46 (And.intro @opX.eq_1 (And.intro @opX.eq_2 (And.intro @opI.eq_1 (And.intro @opI.eq_2 (And.intro @opI.eq_3 (And.intro @opI.eq_4 (And.intro @opI.eq_5 (And.intro @opI.eq_6 (And.intro @opI.eq_7 (And.intro @opI.eq_12 (And.intro @opI.eq_13 (And.intro @opI.eq_14 (And.intro @opI.eq_15 (And.intro @opI.eq_16 (And.intro @opI.eq_17 (And.intro @opI.eq_18 (And.intro @opI.eq_19 (And.intro @opI.eq_20 (And.intro @opI.eq_21 (And.intro @opI.eq_22 (And.intro @opI.eq_23 (And.intro @opI.eq_24 (And.intro @opI.eq_25 (And.intro @opI.eq_26 (And.intro @opI.eq_27 (And.intro @opI.eq_28 (And.intro @opI.eq_29 (And.intro @opI.eq_34 (And.intro @opI.eq_35 (And.intro @opI.eq_36 (And.intro @opI.eq_37 (And.intro @opI.eq_38 (And.intro @opI.eq_39 (And.intro @opI.eq_40 (And.intro @opI.eq_41 (And.intro @opI.eq_42 (And.intro @opI.eq_43 (And.intro @opI.eq_44 (And.intro @opI.eq_45 (And.intro @look.eq_1 (And.intro @look.eq_2 (And.intro @look.eq_3 (And.intro @nth.eq_1 (And.intro @nth.eq_2 (And.intro @nth.eq_3 (And.intro @setN.eq_1 (And.intro @setN.eq_2 (And.intro @setN.eq_3 (And.intro @outO.eq_1 (And.intro @outO.eq_2 (And.intro @binO.eq_1 (And.intro @binO.eq_2 (And.intro @intO.eq_1 (And.intro @intO.eq_2 (And.intro @intO.eq_3 (And.intro @intO.eq_4 (And.intro @intO.eq_5 (And.intro @intO.eq_6 (And.intro @intO.eq_7 (And.intro @intO.eq_8 (And.intro @intO.eq_9 (And.intro @intO.eq_10 (And.intro @intO.eq_11 (And.intro @intO.eq_12 (And.intro @intO.eq_13 (And.intro @intO.eq_14 (And.intro @intO.eq_15 (And.intro @intO.eq_16 (And.intro @intO.eq_17 (And.intro @strO.eq_1 (And.intro @strO.eq_2 (And.intro @strO.eq_3 (And.intro @strO.eq_4 (And.intro @strO.eq_5 (And.intro @strO.eq_6 (And.intro @strO.eq_7 (And.intro @argsE.eq_1 (And.intro @argsE.eq_2 (And.intro @appd.eq_1 (And.intro @appd.eq_2 (And.intro @cpyO.eq_1 (And.intro @slcO.eq_1 (And.intro @slcO.eq_2 (And.intro @slsO.eq_1 (And.intro @bndO.eq_1 (And.intro @bndO.eq_2 (And.intro @lo1.eq_1 (And.intro @lo1.eq_2 (And.intro @mnxO.eq_1 (And.intro @mnxO.eq_2 (And.intro @bldO.eq_1 (And.intro @bldV.eq_1 (And.intro @bldV.eq_2 (And.intro @bldV.eq_3 (And.intro @splice.eq_1 (And.intro @rd.eq_1 (And.intro @rd.eq_2 (And.intro @fpS.eq_1 (And.intro @lk.eq_1 (And.intro @lk.eq_2 (And.intro @isNil.eq_1 (And.intro @isNil.eq_2 (And.intro @isNil.eq_3 (And.intro @isNil.eq_4 (And.intro @isNil.eq_5 (And.intro @isNil.eq_6 (And.intro @isNil.eq_7 (And.intro @isNil.eq_8 (And.intro @isNil.eq_9 (And.intro @isNil.eq_10 (And.intro @isNil.eq_11 (And.intro @isNil.eq_12 (And.intro @d9f (And.intro @d2g (And.intro @unO.eq_1 (And.intro @unO.eq_2 (And.intro @unO.eq_3 (And.intro @lenO.eq_1 (And.intro @lenO.eq_2 (And.intro @lenO.eq_3 (And.intro @lenO.eq_4 (And.intro @d2j (And.intro @d0s (And.intro @opI.eq_47 (And.intro @opI.eq_48 (And.intro @opX.eq_3 (And.intro @slcO.eq_3 (And.intro @d9q (And.intro @d9u (And.intro @c8a (And.intro @rdA.eq_1 (And.intro @rdA.eq_2 @rdA.eq_3)))))))))))))))))))))))))))))))))))))))))))))))))))))))))))))))))))))))))))))))))))))))))))))))))))))))))))))))))))))))))))))))))))))))))))))))))))))))))))))))))))))))))))))))))))))))))))
theorem gG:type_of% (And.intro rg gD):=And.intro rg gD
theorem rG:type_of% (And.intro rs gD):=And.intro rs gD
end
section
inductive Ty where
 | b | i (k:IntKind) | s | l (sz bt:Nat) (e:Ty) | st (r:Ty) | nil | cons (a r:Ty)
def Ty.cells:Ty→Nat
 | .b => 1
 | .i _ => 1
 | .s => 1
 | .l _ _ _ => 1
 | .st r => r.cells
 | .nil => 0
 | .cons a r => a.cells+r.cells
def Ty.whole:Ty→Bool
 | .nil | .cons _ _ => false
 | _ => true
mutual
def tyOk (P:Program):Ty→TypeId→Bool
 | .b,t => match P.underlying t with | some .bool => true | _ => false
 | .i k,t => match P.underlying t with | some (.int k') => decide (k'=k) | _ => false
 | .s,t => match P.underlying t with | some .string => true | _ => false
 | .l sz bt e,t => match P.underlying t with | some (.slice u) => decide (P.cellsOf u=sz) && (decide (P.bytesOf u=bt) && (decide (sz≠0) && (decide (e.cells=sz) && (e.whole && tyOk P e u)))) | _ => false
 | .st r,t => match P.underlying t with | some (.struct fs) => decide (P.cellsOf t=r.cells) && b2z P r 0 fs.toList | _ => false
 | .nil,_ => false
 | .cons _ _,_ => false
def b2z (P:Program):Ty→Nat→List Field→Bool
 | .nil,_,[] => true
 | .cons a r,off,f::fs => decide (f.offset=off) && (decide (P.cellsOf f.type=a.cells) && (tyOk P a f.type && b2z P r (off+a.cells) fs))
 | _,_,_ => false
end
def el:Ty→List V→V
 | .st _,us => .agg us
 | _,[v] => v
 | _,_ => .tup []
def TyV:Ty→List V→Prop
 | .b,vs => ∃ x,vs=[.bool x]
 | .i k,vs => ∃ n,vs=[.int k n]∧k.min≤n∧n≤k.max
 | .s,vs => ∃ x,vs=[.str x]∧x.length≤reachBytes
 | .l sz bt e,vs => ∃ l,vs=[.fsl .loose sz l]∧l.length*bt≤reachBytes∧∀ v∈l,∃ us,v=el e us∧TyV e us
 | .st r,vs => TyV r vs
 | .nil,vs => vs=[]
 | .cons a r,vs => ∃ us ws,vs=us++ws∧TyV a us∧TyV r ws
theorem TyV.shape:∀ {T:Ty} {vs:List V},TyV T vs→vs.length=T.cells∧∀ v∈vs,v.cell=true
 | .b,_,h => by obtain ⟨x,rfl⟩:=h; simp [Ty.cells,V.cell]
 | .i _,_,h => by obtain ⟨x,rfl,_⟩:=h; simp [Ty.cells,V.cell]
 | .s,_,h => by obtain ⟨x,rfl,_⟩:=h; simp [Ty.cells,V.cell]
 | .l _ _ _,_,h => by obtain ⟨x,rfl,_⟩:=h; simp [Ty.cells,V.cell]
 | .st r,_,h => by simp only [TyV] at h; simpa [Ty.cells] using TyV.shape (T:=r) h
 | .nil,_,h => by simp only [TyV] at h; subst h; simp [Ty.cells]
 | .cons a r,_,h => by
  simp only [TyV] at h;obtain ⟨us,ws,rfl,h1,h2⟩:=h;obtain ⟨a1,a2⟩:=TyV.shape h1;obtain ⟨b1,b2⟩:=TyV.shape h2;refine ⟨by simp [Ty.cells,a1,b1],fun v hv => ?_⟩;rcases List.mem_append.1 hv with hv | hv
  ·exact a2 v hv
  ·exact b2 v hv
theorem el_R {g:G}:∀ {T:Ty} {vs:List V} {cs:List Value},T.whole=true→TyV T vs→RC g vs cs→(∃ x,x.cells.toList=cs∧R g (el T vs) x)∧(el T vs).size=T.cells∧(el T vs).isEl=true
 | .b,_,cs,_,h,hr => by
  obtain ⟨x,rfl⟩:=h;simp only [RC] at hr; obtain ⟨y,ys,rfl,h1,rfl⟩:=hr;refine ⟨⟨y, ?_,h1⟩,rfl,rfl⟩;simp only [R] at h1; subst h1; rfl
 | .i _,_,cs,_,h,hr => by
  obtain ⟨x,rfl,_⟩:=h;simp only [RC] at hr; obtain ⟨y,ys,rfl,h1,rfl⟩:=hr;refine ⟨⟨y, ?_,h1⟩,rfl,rfl⟩;simp only [R] at h1; subst h1; rfl
 | .s,_,cs,_,h,hr => by
  obtain ⟨x,rfl,_⟩:=h;simp only [RC] at hr; obtain ⟨y,ys,rfl,h1,rfl⟩:=hr;refine ⟨⟨y, ?_,h1⟩,rfl,rfl⟩;simp only [R] at h1; subst h1; rfl
 | .l _ _ _,_,cs,_,h,hr => by
  obtain ⟨x,rfl,_⟩:=h;simp only [RC] at hr; obtain ⟨y,ys,rfl,h1,rfl⟩:=hr;refine ⟨⟨y, ?_,h1⟩,rfl,rfl⟩;simp only [R] at h1; obtain ⟨_,_,_,rfl,_⟩:=h1; rfl
 | .st r,vs,cs,_,h,hr => by
  obtain ⟨h1,h2⟩:=TyV.shape (T:=.st r) h;refine ⟨⟨.agg cs.toArray,by simp [Value.cells], ?_⟩,by simpa [el,V.size,Ty.cells] using h1,rfl⟩;simp only [el,R];exact ⟨cs.toArray,rfl,by simpa using hr,h2⟩
theorem a7m {H:Type} {P:Program} {e:TypeId}:∀ {ds:List (DataW H)} {d:DataW H} {n:Nat},d∈ds→n∈d.weights P e→n∈DataW.weightsAll P e ds
 | d'::ds,d,n,hd,hn => by
  simp only [DataW.weightsAll,List.mem_append];rcases List.mem_cons.1 hd with rfl | hd
  ·exact .inl hn
  ·exact .inr (a7m hd hn)
theorem b2g {α:Type} (sz:Nat) (hsz:0 < sz) (f:Nat→List α) (d:α):∀ len:Nat,(∀ i,i < len→(f i).length=sz) →
  (List.range len).flatMap f=(List.range (len*sz)).map fun k => (f (k / sz)).getD (k % sz) d
 | 0,_ => by simp
 | len+1,h => by
  rw [List.range_succ,List.flatMap_append,b2g sz hsz f d len (fun i hi => h i (by omega)),Nat.succ_mul,List.range_add,List.map_append,List.map_map];congr 1;simp only [List.flatMap_cons,List.flatMap_nil,List.append_nil];have hl:=h len (by omega);refine List.ext_getElem (by simp [hl]) fun j h1 h2 => ?_;rw [hl] at h1;have e1:(len*sz+j) / sz=len:=by rw [Nat.mul_comm,Nat.mul_add_div hsz,Nat.div_eq_of_lt h1]; omega
  have e2:(len*sz+j) % sz=j:=by rw [Nat.mul_comm,Nat.mul_add_mod,Nat.mod_eq_of_lt h1]
  simp [Function.comp,e1,e2,List.getD_eq_getElem?_getD,hl,h1]
section
variable {H:Type} {enc:TypeId×Value→H} {P:Program} {w:World}
theorem c6j {a:Addr} {n:Nat} {cs:List Value} {base:Nat} (h:w.cells? base a n=some cs):cs.length=n∧∀ j,j < n→w.cell? (a.add j)=some (cs.getD j undef):=by
 unfold World.cells? at h;split at h
 ·have hl:cs.length=n:=by simpa using mapM_some_length h
  refine ⟨hl,fun j hj => ?_⟩;have:=mapM_some_get h j j (by simp [hj]);rw [this];simp [List.getD_eq_getElem?_getD,hl,hj]
 ·cases h
mutual
theorem b9w:∀ (T:Ty) (t:TypeId),tyOk P T t=true→∀ (fuel:Nat) (cs:List Value) (x:DataW H×List MemPlace),DataW.trod enc P w 0 (fun _ => true) true fuel t cs=some x →
  (∀ n∈x.1.weights P t,n≤reachBytes)→∃ vs,RC (gW w) vs cs∧TyV T vs
 | .b,t,h,fuel,cs,x,hd,hw => by
  simp only [tyOk] at h; split at h
  ·rename_i hu;obtain ⟨b,rfl,rfl⟩:=DataW.trod_bool hu hd;exact ⟨[.bool b],by simp [RC,R],b,rfl⟩
  ·cases h
 | .i k,t,h,fuel,cs,x,hd,hw => by
  simp only [tyOk] at h; split at h
  ·rename_i k' hu;simp only [decide_eq_true_eq] at h; subst h;obtain ⟨n,rfl,rfl,hwf⟩:=DataW.trod_int hu hd;simp only [Lit.wf,Bool.and_eq_true,decide_eq_true_eq] at hwf;exact ⟨[.int k' n],by simp [RC,R],n,rfl,hwf⟩
  ·cases h
 | .s,t,h,fuel,cs,x,hd,hw => by
  simp only [tyOk] at h; split at h
  ·rename_i hu;obtain ⟨b,rfl,rfl,hs⟩:=DataW.trod_string hu hd;exact ⟨[.str b.data.toList],by simp [RC,R],b.data.toList,rfl,hw _ (by simp [DataW.weights])⟩
  ·cases h
 | .l sz bt e,t,h,fuel,cs,x,hd,hw => by
  simp only [tyOk] at h; split at h
  ·rename_i u hu;simp only [Bool.and_eq_true,decide_eq_true_eq] at h;obtain ⟨h1,h2,h3,h4,h5,h6⟩:=h;rcases Deep.open_slice hu hd with ⟨rfl,rfl⟩ | ⟨a,len,cap,m,n,D,Pl,rfl,hb,hl,hm,hmm,rfl,hx⟩
   ·exact ⟨[.fsl .loose sz []],by simp only [RC,R]; exact ⟨_,_,rfl,⟨none,0,[],rfl,by simp [RL],by simp,by simp,by simp,by simp,by simp,by simp⟩,rfl⟩,[],rfl,by simp,by simp⟩
   ·simp only [if_true] at hmm; subst hmm;simp only [DataW.weights,hu] at hw;have hlen:len*bt≤reachBytes:=by
     have:=hw _ (List.mem_cons_self ..);simp only [List.length_map,List.length_range,h2] at this;exact Nat.le_trans (Nat.mul_le_mul_right _ (by omega)) this
    have each:∀ i,∃ y:List V×List Value,i < len→RC (gW w) y.1 y.2∧TyV e y.1∧y.2.length=sz∧∀ j,j < sz→w.cell? (a.add (i*sz+j))=some (y.2.getD j undef):=by
     intro i;by_cases hi:i < len
     ·obtain ⟨cs',c1,c2⟩:=hx i (by omega);rw [h1] at c1;obtain ⟨l1,l2⟩:=c6j c1;obtain ⟨us,k1,k2⟩:=b9w e u h6 n cs' (D i,Pl i) c2 (fun q hq => hw q (List.mem_cons_of_mem _ (List.mem_append_left _ (a7m (d:=D i) (by simp; exact ⟨i,hi,rfl⟩) hq))));exact ⟨(us,cs'),fun _ => ⟨k1,k2,l1,fun j hj => by rw [← Addr.add_add]; exact l2 j hj⟩⟩
     ·exact ⟨([],[]),fun h => absurd h hi⟩
    obtain ⟨Y,hY⟩:=Classical.axiomOfChoice each;refine ⟨[.fsl .loose sz ((List.range len).map fun i => el e (Y i).1)], ?_,_,rfl,by simpa using hlen, ?_⟩
    ·simp only [RC,R];refine ⟨_,_,rfl,⟨some a,m,(List.range len).flatMap fun i => (Y i).2,by simp, ?_, ?_,by simpa using hl,by simp,by simp,by simp, ?_⟩,rfl⟩
     ·have:∀ l:List Nat,(∀ i∈l,i < len)→RL (gW w) (l.map fun i => el e (Y i).1) (l.flatMap fun i => (Y i).2):=by
       intro l
       induction l with
       | nil => intro _; simp [RL]
       | cons i l ih =>
        intro hl;obtain ⟨y1,y2,y3,y4⟩:=hY i (hl i (by simp));obtain ⟨⟨x,x1,x2⟩,x3,x4⟩:=el_R h5 y2 y1;simp only [List.map_cons,List.flatMap_cons,RL];exact ⟨x,_,by rw [x1],⟨x4,x2⟩,ih fun j hj => hl j (by simp [hj])⟩
      exact this _ fun i hi => by simpa using hi
     ·intro v hv;simp only [List.mem_map,List.mem_range] at hv;obtain ⟨i,hi,rfl⟩:=hv;obtain ⟨y1,y2,y3,y4⟩:=hY i hi;rw [(el_R h5 y2 y1).2.1,h4]
     ·by_cases h0:len=0
      ·left; subst h0; rfl
      ·right;have hsz:0 < sz:=by omega
       have hc:∀ k,k < len*sz→w.cell? (a.add k)=some (((Y (k / sz)).2).getD (k % sz) undef):=by
        intro k hk;have q1:k / sz < len:=(Nat.div_lt_iff_lt_mul hsz).2 hk;have q2:k % sz < sz:=Nat.mod_lt _ hsz;have:=(hY (k / sz) q1).2.2.2 (k % sz) q2;rwa [show k / sz*sz+k % sz=k by rw [Nat.mul_comm]; exact Nat.div_add_mod k sz] at this
       obtain ⟨e1,e2⟩:=b8o (fun k => ((Y (k / sz)).2).getD (k % sz) undef) (Nat.mul_pos (by omega) hsz) hc;rw [← b2g sz hsz (fun i => (Y i).2) undef len (fun i hi => (hY i hi).2.2.1)] at e2;exact ⟨a.block,a.off,by rw [← e1],e2⟩
    ·intro v hv;simp only [List.mem_map,List.mem_range] at hv;obtain ⟨i,hi,rfl⟩:=hv;exact ⟨_,rfl,(hY i hi).2.1⟩
  ·cases h
 | .st r,t,h,fuel,cs,x,hd,hw => by
  simp only [tyOk] at h; split at h
  ·rename_i fs hu;simp only [Bool.and_eq_true,decide_eq_true_eq] at h;obtain ⟨xs,n,_,rfl,hl,hxl,hx⟩:=DataW.trod_struct hu hd;simp only [DataW.weights,hu] at hw;obtain ⟨vs,k1,k2⟩:=c0r r 0 fs.toList h.2 n cs xs (by simpa using hxl) (fun i f hf => hx i f (by simpa using hf)) hw;rw [List.drop_zero,List.take_of_length_le (by omega)] at k1;exact ⟨vs,k1,k2⟩
  ·cases h
 | .nil,t,h,_,_,_,_,_ => by simp [tyOk] at h
 | .cons _ _,t,h,_,_,_,_,_ => by simp [tyOk] at h
theorem c0r:∀ (T:Ty) (off:Nat) (fs:List Field),b2z P T off fs=true→∀ (n:Nat) (cs:List Value) (xs:List (DataW H×List MemPlace)),xs.length=fs.length →
  (∀ (i:Nat) (f:Field),fs[i]?=some f→DataW.trod enc P w 0 (fun _ => true) true n f.type ((cs.drop f.offset).take (P.cellsOf f.type))=xs[i]?) →
  (∀ q∈DataW.weightsEach P (fs.map (·.type)) (xs.map (·.1)),q≤reachBytes)→∃ vs,RC (gW w) vs ((cs.drop off).take T.cells)∧TyV T vs
 | .nil,off,[],h,n,cs,xs,hl,hx,hw => ⟨[],by simp [RC,Ty.cells],rfl⟩
 | .cons a r,off,f::fs,h,n,cs,xs,hl,hx,hw => by
  simp only [b2z,Bool.and_eq_true,decide_eq_true_eq] at h;obtain ⟨rfl,h2,h3,h4⟩:=h;cases xs with
  | nil => simp at hl
  | cons y ys =>
   simp only [List.map_cons,DataW.weightsEach] at hw;have h0:=hx 0 f rfl;simp only [List.getElem?_cons_zero,h2] at h0;obtain ⟨us,k1,k2⟩:=b9w a f.type h3 n _ y h0 (fun q hq => hw q (List.mem_append_left _ hq));obtain ⟨ws,j1,j2⟩:=c0r r (f.offset+a.cells) fs h4 n cs ys (by simpa using hl) (fun i g hg => by simpa using hx (i+1) g (by simpa using hg)) (fun q hq => hw q (List.mem_append_right _ hq));refine ⟨us++ws, ?_,us,ws,rfl,k2,j2⟩;rw [Ty.cells,List.take_add,List.drop_drop];exact RC.append k1 j1
 | .nil,_,_::_,h,_,_,_,_,_,_ => by simp [b2z] at h
 | .cons _ _,_,[],h,_,_,_,_,_,_ => by simp [b2z] at h
 | .b,_,_,h,_,_,_,_,_,_ => by simp [b2z] at h
 | .i _,_,_,h,_,_,_,_,_,_ => by simp [b2z] at h
 | .s,_,_,h,_,_,_,_,_,_ => by simp [b2z] at h
 | .l _ _ _,_,_,h,_,_,_,_,_,_ => by simp [b2z] at h
 | .st _,_,_,h,_,_,_,_,_,_ => by simp [b2z] at h
end
theorem e7d {T:Ty} {t:TypeId} {v:Value} {d:DataW H} {ps:List MemPlace} {r:Reach} {base:Nat} (ht:tyOk P T t=true) (hv:Value.okWide P w r base t v) (h:DataW.Trod enc P w 0 (fun _ => true) true t v d ps)
  (hw:∀ n∈d.weights P t,n≤reachBytes):∃ vs,R (gW w) (el T vs) v∧TyV T vs:=by
 obtain ⟨fuel,hf⟩:=h;obtain ⟨vs,h1,h2⟩:=b9w T t ht fuel _ _ hf hw;refine ⟨vs, ?_,h2⟩;have one:∀ u,vs=[u]→v.cells=#[v]→R (gW w) u v:=fun u e hc => by
  rw [e,hc] at h1;simp only [RC] at h1;obtain ⟨y,ys,e1,e2,_⟩:=h1;simp at e1; rw [e1.1]; exact e2
 have sc:∀ (hu:∀ fs,P.underlying t≠some (.struct fs)) (hu':∀ n e,P.underlying t≠some (.array n e)),∀ cs,v=.agg cs→False:=by
  intro hu hu' cs e;subst e;unfold Value.okWide at hv;split at hv
  ·rename_i fs hh; exact hu _ hh
  ·rename_i n e' hh; exact hu' _ _ hh
  ·unfold Cell.okWide at hv;split at hv<;>first | (rename_i hh; cases hh; done) | skip
   all_goals first | (simp at *; done) | (unfold Cell.ok at hv; split at hv<;>simp_all)
 have sv:(∀ cs,v=.agg cs→False)→v.cells=#[v]:=fun h => by cases v<;>first | rfl | exact (h _ rfl).elim
 cases T with
 | b =>
  obtain ⟨x,rfl⟩:=h2;simp only [tyOk] at ht; split at ht
  ·rename_i hu; exact one _ rfl (sv (sc (by simp [hu]) (by simp [hu])))
  ·cases ht
 | i k =>
  obtain ⟨x,rfl,_⟩:=h2;simp only [tyOk] at ht; split at ht
  ·rename_i hu; exact one _ rfl (sv (sc (by simp [hu]) (by simp [hu])))
  ·cases ht
 | s =>
  obtain ⟨x,rfl,_⟩:=h2;simp only [tyOk] at ht; split at ht
  ·rename_i hu; exact one _ rfl (sv (sc (by simp [hu]) (by simp [hu])))
  ·cases ht
 | l sz bt e =>
  obtain ⟨x,rfl,_⟩:=h2;simp only [tyOk] at ht; split at ht
  ·rename_i hu; exact one _ rfl (sv (sc (by simp [hu]) (by simp [hu])))
  ·cases ht
 | st r =>
  simp only [tyOk] at ht; split at ht
  ·rename_i fs hu;simp only [Value.okWide,hu] at hv;obtain ⟨cs,rfl,_⟩:=hv;simp only [el,R];exact ⟨cs,rfl,by simpa [Value.cells] using h1,(TyV.shape (T:=.st r) h2).2⟩
  ·cases ht
 | nil => simp [tyOk] at ht
 | cons a r => simp [tyOk] at ht
theorem c6c {α:Type} {f:α→V} {q:α→Prop} {sz bt:Nat} {e:Ty} (he:∀ us,TyV e us→∃ a,el e us=f a∧q a) {vs:List V} (h:TyV (.l sz bt e) vs):∃ l:List α,vs=[.fsl .loose sz (mv f l)]∧l.length*bt≤reachBytes∧∀ a∈l,q a:=by
 obtain ⟨l,rfl,h1,h2⟩:=h;have:∀ l:List V,(∀ v∈l,∃ us,v=el e us∧TyV e us)→∃ m:List α,l=mv f m∧∀ a∈m,q a:=by
  intro l
  induction l with
  | nil => intro _; exact ⟨[],rfl,by simp⟩
  | cons v l ih =>
   intro h;obtain ⟨us,rfl,hx⟩:=h v (by simp);obtain ⟨a,e1,ha⟩:=he us hx;obtain ⟨m,rfl,hm⟩:=ih fun u hu => h u (by simp [hu]);refine ⟨a::m,by rw [e1]; rfl,fun n hn => ?_⟩;rcases List.mem_cons.1 hn with rfl | hn
   ·exact ha
   ·exact hm n hn
 obtain ⟨m,rfl,hm⟩:=this l h2;exact ⟨m,rfl,by simpa [mv_len] using h1,hm⟩
theorem e7b {ts:List TypeId} {ds:List (DataW H)} (h:(DataW.weightsEach P ts ds).all (·≤reachBytes)=true) {j:Nat} {t:TypeId} {d:DataW H} (ht:ts[j]?=some t) (hd:ds[j]?=some d):∀ n∈d.weights P t,n≤reachBytes:=fun n hn => by
 simpa using List.all_eq_true.1 h _ (DataW.weights_mem_each ht hd n hn)
end
end
section
theorem a2o {rvs:List RV} {r:V} {σ:Sg} {H:Hp} {l:List V} {m0:Hm} {n k:Nat} {ds:List (Nat×Option Ob)} (hl:resE σ H.m rvs=some l) (hr:pack l=r∨a3n (pack l)=r∨lo (pack l)=r) (hk:H.n≤n+k) (hm:∀ id,appd ds m0 id=none∨appd ds m0 id=H.m id):FinA rvs m0 n r ds k .ret σ H :=
 ⟨.inr rfl,⟨l,hl,hr⟩,hk,hm⟩
theorem PCall.toA {P:Program} {f:Nat} {vs:List V} {r:V} (h:PCall P f vs r) (H:Hp) (fp:List Nat):ACall P f vs H fp r [] 0:=by
 refine ⟨h.1,by simp,fun m g w xs _ _ hs hx => (h.2 m g w xs hs hx).mono ?_⟩;rintro e w' ⟨x,F',h1,h2,h3,h4⟩;exact ⟨x,⟨g.ι,F'⟩,h1,h2,h3,fun _ _ => rfl,h4⟩
def AnsF (P:Program) (g:Nat) (fs cs:List V) (H:Hp) (fp:List Nat) (rows:List V) (q:V→Bool) (kk:Nat):Prop :=
 ∀ e∈rows,∀ H':Hp,H.n≤H'.n→(∀ id∈fp,H'.m id=H.m id)→ACall P g (fs++[e]++cs) H' fp (.bool (q e)) [] kk
def FpOk (H:Hp) (fp:List Nat):Prop:=∀ id∈fp,id < H.n∧∀ o,H.m id=some o→o.low H.n=true
theorem FpOk.nil (H:Hp):FpOk H []:=by intro id h; simp at h
def idxC (sz:Nat) (k:Option Nat):C :=
 (.seq
  (.reg false [p (.mov (.k (.int .i64 0)))] [(0,.v 0),(1,.v 1)])
 (.seq
  (.seq
   (.reg false [p (.mov (.v 0)),
    p (.len false (.r 0)),
    p (.mov (.k (.int .i64 0)))] [(0,.v 0),(1,.v 1),(7,.r 1),(8,.r 0)])
   (.block 0
    (.loop
     (.seq
      (.reg false [p (.bin .lss (.v 8) (.v 7))] [(0,.v 0),(1,.v 1),(7,.v 7),(8,.v 8),(9,.r 0)])
     (.seq
      (.cond (.v 9)
       .skip
       (.exit 0))
     (.seq
      (.block 1
       (.seq
        (.reg false [p (.mov (.v 8)),
         p (.mov (.r 0))] [(0,.v 0),(1,.v 1),(5,.r 0),(7,.v 7),(8,.v 8)])
       (.seq
        (.reg false [p (.mov (.v 1)),
         p (.mov (.v 0)),
         p (.mov (.v 5)),
         p (.iad sz (.r 1) (.r 0)),
         p (.load k (.r 0)),
         p (.call false (.r 4) [.r 0])] [(0,.v 0),(1,.v 1),(5,.v 5),(7,.v 7),(8,.v 8),(16,.r 0)])
        (.cond (.v 16)
         (.seq
          (.reg false [p (.mov (.v 5)),
           p (.mov (.r 0))] [(4,.r 0)])
          .ret)
         .skip))))
      (.reg false [p (.bin .add (.v 8) (.k (.int .i64 1))),
       p (.mov (.r 0))] [(0,.v 0),(1,.v 1),(7,.v 7),(8,.r 0)])))))))
 (.frz
 (.seq
  (.reg false [p (.mov (.k (.int .i64 (-1))))] [(4,.r 0)])
  .ret))))
def conC (f:Nat):C :=
 (.seq
  (.reg false [p (.mov (.k (.bool false)))] [(0,.v 0),(1,.v 1)])
 (.seq
  (.reg false [p (.mov (.v 0)),
   p (.mov (.v 1)),
   p (.call false (.k (.fn f [] [])) [.r 1,.r 0]),
   p (.bin .geq (.r 0) (.k (.int .i64 0))),
   p (.mov (.r 0))] [(4,.r 0)])
  .ret))
def b3c (sz bt:Nat):C :=
 (.seq
  (.reg false [p (.mov (.k (.fsl .nil sz [])))] [(0,.v 0)])
 (.seq
  (.seq
   (.reg false [p (.mov (.v 0)),
    p (.eqn false .s (.r 0))] [(0,.v 0),(4,.r 0)])
   (.cond (.v 4)
    (.seq
     (.reg false [p (.mov (.k (.fsl .nil sz [])))] [(2,.r 0)])
     .ret)
    .skip))
 (.seq
  (.reg false [p (.bsl sz []),
   p (.mov (.v 0)),
   p (.app sz bt (.r 1) (.r 0)),
   p (.mov (.r 0))] [(2,.r 0)])
  .ret)))
def ixV (rows:List V) (q:V→Bool):Int:=match rows.findIdx? q with | some i => i | none => -1
theorem e4b {rows:List V} {q:V→Bool}:decide (0≤ixV rows q)=rows.any q:=by
 unfold ixV;cases h:rows.findIdx? q with
 | none =>
  rw [List.findIdx?_eq_none_iff] at h;have:rows.any q=false:=by rw [List.any_eq_false]; simpa using h
  simp [this]
 | some i =>
  rw [List.findIdx?_eq_some_iff_getElem] at h;obtain ⟨h1,h2,_⟩:=h;have:rows.any q=true:=List.any_eq_true.2 ⟨rows[i],List.getElem_mem h1,h2⟩;simp [this]
section
variable {P:Program}
theorem e3s {f n sz:Nat} {k:Option Nat} (hen:EnA P f n (idxC sz k) [.t 4]) (hn2:2≤n) {st:St} {rows fs cs:List V} {g:Nat} {q:V→Bool} {H:Hp} {fp:List Nat} {kk:Nat} (hr:a0b rows=true) (hel:∀ e∈rows,getC k 0 e=some e) (hn:rows.length≤4611686018427387904) (hl:lowL H.n fs=true) (hl':lowL H.n cs=true)
  (hfp:FpOk H fp) (hg:AnsF P g fs cs H fp rows q kk):ACall P f [.fsl st sz rows,.fn g fs cs] H fp (.int .i64 (ixV rows q)) [] (rows.length*kk):=by
 refine hen (by simpa using hn2) (by simp [lowL,V.low,hl,hl',a0h _ hr]) hfp (by simp) ?_;simp (disch:=omega) only [rG,simprocAttr,idxC];refine x_it rows.length (fun i σ H' => (H.n≤H'.n∧H'.n≤H.n+i*kk∧H'.m=only fp H.m)∧(∀ e∈rows.take i,q e=false)∧σ=[(0,.fsl st sz rows),(1,.fn g fs cs),(7,.int .i64 rows.length),(8,.int .i64 i)]) ⟨⟨Nat.le_refl _,by simp,rfl⟩,by simp,rfl⟩ ?_;rintro T i σ ⟨hn',hm'⟩ hi ⟨⟨ha,hb,rfl⟩,hf,rfl⟩ hN hX hR;simp only at ha hb;simp (disch:=omega) only [rG,simprocAttr];refine ⟨fun h => ?_,fun h => ?_⟩
 ·have h1:i < rows.length:=by omega
  have hget:rows[i]?=some rows[i]:=by simp [h1]
  simp (disch:=omega) only [rG,simprocAttr,hget,hel rows[i] (List.getElem_mem h1)];refine ⟨_,_,_,_,hg rows[i] (List.getElem_mem h1) _ ha (fun id hid => by simp [only,hid]), ?_⟩;simp (disch:=omega) only [rG,simprocAttr,c_b];refine ⟨fun hq => ?_,fun hq => ?_⟩
  ·refine hR _ _ ?_;simp (disch:=omega) only [rG,simprocAttr];have hi2:ixV rows q=i:=by
    have:rows.findIdx? q=some i:=by
     rw [List.findIdx?_eq_some_iff_getElem];refine ⟨h1,hq,fun j hj => ?_⟩;have:=hf rows[j] (by rw [List.mem_take_iff_getElem]; exact ⟨j,by omega,rfl⟩);simp [this]
    simp [ixV,this]
   exact a2o (l:=[.int .i64 i]) rfl (.inl (by rw [hi2]; rfl)) (by simp only []; have:=Nat.mul_le_mul_right kk (show i+1≤rows.length by omega); rw [Nat.succ_mul] at this; omega) (fun id => .inr rfl)
  ·refine hN _ _ h1 ⟨⟨by simp only []; omega,by simp only [Nat.succ_mul]; omega,rfl⟩, ?_,rfl⟩;intro e he;rw [List.take_succ_eq_append_getElem h1] at he;rcases List.mem_append.1 he with he | he
   ·exact hf e he
   ·simp at he; subst he; exact hq
 ·have:i=rows.length:=by omega
  subst this;rw [List.take_length] at hf;refine hX _ _ _ ?_;simp (disch:=omega) only [rG,simprocAttr];refine a0l ?_;simp (disch:=omega) only [rG,simprocAttr];have hi2:ixV rows q=-1:=by
   have:rows.findIdx? q=none:=by rw [List.findIdx?_eq_none_iff]; exact hf
   simp [ixV,this]
  exact a2o (l:=[.int .i64 (-1)]) rfl (.inl (by rw [hi2]; rfl)) (by simp only []; omega) (fun id => .inr rfl)
theorem b9l {f f2 n n2 sz:Nat} {k:Option Nat} (hen:EnA P f n (conC f2) [.t 4]) (hen2:EnA P f2 n2 (idxC sz k) [.t 4]) (hn1:2≤n) (hn2:2≤n2) {st:St} {rows fs cs:List V} {g:Nat} {q:V→Bool} {H:Hp} {fp:List Nat} {kk:Nat} (hr:a0b rows=true) (hel:∀ e∈rows,getC k 0 e=some e) (hn:rows.length≤4611686018427387904) (hl:lowL H.n fs=true) (hl':lowL H.n cs=true)
  (hfp:FpOk H fp) (hg:AnsF P g fs cs H fp rows q kk):ACall P f [.fsl st sz rows,.fn g fs cs] H fp (.bool (rows.any q)) [] (rows.length*kk):=by
 refine hen (by simpa using hn1) (by simp [lowL,V.low,hl,hl',a0h _ hr]) hfp (by simp) ?_;simp (disch:=omega) only [rG,simprocAttr,conC];refine ⟨_,_,_,_,e3s (q:=q) (fp:=fp) hen2 hn2 hr hel hn hl hl' (fun id hid => ⟨(hfp id hid).1,fun o ho => (hfp id hid).2 o (by simpa [only,hid] using ho)⟩) (fun e he H' h1 h2 => hg e he H' h1 (fun id hid => by rw [h2 id hid]; simp [only,hid])), ?_⟩;simp (disch:=omega) only [rG,simprocAttr];exact a2o (l:=[.bool (rows.any q)]) (by simp [resE,find,e4b]) (.inl rfl) (by simp only []; omega) (fun id => .inr rfl)
theorem d0l {f n sz bt:Nat} (hen:EnA P f n (b3c sz bt) [.t 2]) (hn:1≤n):CloneOK P f sz bt:=by
 refine ⟨fun H => ?_,fun H => ?_,fun H v l hc hl => ?_⟩
 ·refine hen (by simpa using hn) (by simp [lowL,V.low]) (by simp) (by simp) ?_;simp (disch:=omega) only [rG,simprocAttr,b3c];exact a2o (l:=[.fsl .nil sz []]) rfl (.inr (.inl rfl)) (by simp) (by simp [appd,only])
 ·refine hen (by simpa using hn) (by simp [lowL,V.low]) (by simp) (by simp) ?_;simp (disch:=omega) only [rG,simprocAttr,b3c,appO];exact a2o (l:=[.fsl .full sz []]) rfl (.inr (.inl rfl)) (by simp) (by simp [appd,only])
 ·refine hen (by simpa using hn) (by simp [lowL,V.low,a0h _ hc]; simpa [lowL] using a0h _ hc) (by simp) (by simp) ?_;simp (disch:=omega) only [rG,simprocAttr,b3c,appO];exact ⟨by omega,a2o (l:=[.sl H.n 0 (l.length+1)]) rfl (.inl rfl) (by simp) (fun id => .inr rfl)⟩
end
end
section
open Go Go.RowKit
theorem PCall.of_below {P:Program} {f:Nat} {vs:List V} {r:V} (hb:a4c P f)
  (h:∀ (g:G) (m:Hm) (w:World) (xs:Array Value),RS g m w→RC g vs xs.toList→Calls P f xs w fun e w' => ∃ x,e=.returned x∧R g r x∧Below w.heap.size w w'):PCall P f vs r:=by
 refine ⟨hb,fun m g w xs hs hx => (h g m w xs hs hx).mono ?_⟩;rintro e w' ⟨x,rfl,hr,hbel⟩;refine ⟨x,g.F,rfl,hr,⟨fun b cs hF => ?_,fun id o hm => ?_,hs.inj,hs.tab⟩,hbel.size,fun b hb _ => hbel.block b hb,.refl g,fun b hb => .inr hb,fun b cs hF => .inl hF,hbel.os,hbel.tape,hbel.output⟩
 ·obtain ⟨e,fr,h1⟩:=hs.fro b cs hF;exact ⟨e,fr,by rw [hbel.block b (hs.fro_lt hF)]; exact h1⟩
 ·exact (hs.live id o hm).keep (.refl g) fun b s n hb => ⟨hbel.block b ((hs.live id o hm).lt hb),(hs.live id o hm).unF hb⟩
theorem c2k {g:G} {m:Hm} {w:World} {b o:Nat} {xs:List Value} (hs:RS g m w) (h:FAt g b o xs) {j:Nat} {x:Value} (hj:xs[j]?=some x):w.cell? ⟨b,o+j,none⟩=some x∧b < w.heap.size:=by
 obtain ⟨pre,post,h1,rfl⟩:=h;obtain ⟨e,fr,h2⟩:=hs.fro b _ h1;have hlt:j < xs.length:=(List.getElem?_eq_some_iff.1 hj).1;refine ⟨?_,hs.fro_lt h1⟩;simp only [World.cell?,h2];rw [List.getElem?_toArray,List.append_assoc,List.getElem?_append_right (by omega),Nat.add_sub_cancel_left,List.getElem?_append_left hlt];exact hj
theorem c7t {g:G}:∀ {l:List (List UInt8)} {xs:List Value},RL g (mv V.str l) xs→xs=l.map fun s => .string ⟨s.toArray⟩
 | [],_,h => by simpa [mv,RL] using h
 | s::l,_,h => by
  simp only [b6o,RL] at h;obtain ⟨y,ys,rfl,⟨_,h1⟩,h2⟩:=h;simp only [R] at h1; subst h1;rw [c7t h2]; rfl
theorem c0l (l:List (List UInt8)):Lib.join l []=l.flatten:=by
 cases l with
 | nil => rfl
 | cons a l => rw [Lib.join_cons,Lib.joinTail]; simp
theorem b4l:∀ l:List (List UInt8),(l.map fun s => (⟨s.toArray⟩:ByteArray)).map (·.data.toList)=l
 | [] => rfl
 | a::l => by simp only [List.map_cons,b4l l]
theorem c5d {P:Program} {ρ:Shelf.Ren} (L:Lays.n156 P ρ) (X:Builder.Extra P ρ) (hb:a4c P (ρ.f 156)) (st:St) (l:List (List UInt8)) (sep:List UInt8) (hN:l.length≤140737488355328) (hlen:(Lib.join l sep).length≤140737488355328) :
    PCall P (ρ.f 156) [.fsl st 1 (mv V.str l),.str sep] (.str (Lib.join l sep)):=by
  refine .of_below hb fun g m w xs hs hx => ?_
  simp only [RC,R] at hx
  obtain ⟨y,ys,e1,⟨a,cap,cells,rfl,k2,k3,k4,k5,k6,k7,k8⟩,z,zs,rfl,rfl,rfl⟩:=hx
  obtain rfl:xs=#[.slice a (mv V.str l).length cap,.string ⟨sep.toArray⟩]:=by apply Array.ext'; simpa using e1
  have hcs:=c7t k2
  rw [mv_len]
  rcases k8 with hnil | ⟨b,o,rfl,hF⟩
  · have:l=[]:=by cases l<;>simp [mv] at hnil ⊢
    subst this
    refine (Any.strings_Join_none L X a cap ⟨sep.toArray⟩ w).mono ?_
    rintro e w' ⟨rfl,rfl⟩
    exact ⟨_,rfl,by simp [R,Lib.join],Below.refl _ _⟩
  · cases l with
    | nil =>
      refine (Any.strings_Join_none L X _ cap ⟨sep.toArray⟩ w).mono ?_
      rintro e w' ⟨rfl,rfl⟩
      exact ⟨_,rfl,by simp [R,Lib.join],Below.refl _ _⟩
    | cons s l =>
      have e:((s::l).map fun s => (⟨s.toArray⟩:ByteArray)).map (·.data.toList)=s::l:=b4l _
      have:=Any.strings_Join L X b o cap ((s::l).map fun s => (⟨s.toArray⟩:ByteArray)) ⟨sep.toArray⟩ w (fun j x hj => by
          refine (c2k hs hF (j:=j) ?_).1
          rw [hcs]
          simp only [List.getElem?_map] at hj ⊢
          cases hq:(s::l)[j]? with
          | none => rw [hq] at hj; cases hj
          | some q => rw [hq] at hj; simp at hj ⊢; exact hj)
        (c2k hs hF (j:=0) (by rw [hcs]; rfl)).2 (by simpa using hN) (by simpa [mv_len] using k4) (by rw [e]; simpa using hlen)
      rw [e] at this
      simp only [List.length_map] at this
      refine this.mono ?_
      rintro e w' ⟨rfl,hw⟩
      exact ⟨_,rfl,by simp [R],hw⟩
end
def c65:C:=(.seq (rr [p (.mov (.k (.str [])))] [vv 0]) (.seq (rr [mw 0,p (.call true (.k (.fn 122 [] [])) [.r 0,.k (.str [])]),mr 0] [(2,.r 0)]) .ret))
def r65:List RV:=[.t 2]
theorem en65:EnP Tryz.prog 65 5 c65 r65:=meP Tryz.func65
def c89:C:=(.seq (rr [p (.mov (.k (.str []))),p (.mov (kn 0))] [vv 0,vv 1]) (.seq (.seq (rr [mw 1,p (.bin .lss (.r 0) (kn 1)),mr 0,⟨.mov (.v 1),some (0,false),[]⟩,⟨.bin .gtr (.r 0) (kn 6),some (1,false),[]⟩,p (.pick (.r 2) (.k (.bool true)) (.r 0)),mr 0,⟨.mov (.v 0),some (0,false),[]⟩,⟨.bin .lss (.r 0) (kn 0),some (1,false),[]⟩,p (.pick (.r 2) (.k (.bool true)) (.r 0)),mr 0,⟨.mov (.v 0),some (0,false),[]⟩,⟨.mov (.v 1),some (1,false),[]⟩,⟨.bin .mul (kn 8) (.r 0),some (2,false),[]⟩,⟨.bin .shr (.r 2) (.r 0),some (3,false),[]⟩,⟨.bin .neq (.r 0) (kn 0),some (4,false),[]⟩,p (.pick (.r 5) (.k (.bool true)) (.r 0))] [vv 0,vv 1,(24,.r 0)]) (.cond (.v 24) (.seq (rr [p (.mov (.k (.str []))),p (.mov (kn 1))] [(4,.r 1),(5,.r 0)]) .ret) .skip)) (.seq (rr [mw 1,p (.mks 1 1 (.int .u8 0) (.r 0)),mr 0] [vv 0,vv 1,(6,.r 0)]) (.seq (.seq (rr [mw 6,p (.len false (.r 0)),p (.mov (kn 0))] [vv 0,vv 1,vv 6,(28,.r 1),(29,.r 0)]) (.block 0 (.loop (.seq (rr [p (.bin .lss (.v 29) (.v 28))] [vv 0,vv 1,vv 6,vv 28,vv 29,(30,.r 0)]) (.seq (.cond (.v 30) .skip (.exit 0)) (.seq (.block 1 (.seq (rr [mw 29,mr 0] [vv 0,vv 1,vv 6,(7,.r 0),vv 28,vv 29]) (rr [mw 6,mw 1,p (.bin .sub (.r 0) (kn 1)),mw 7,p (.bin .sub (.r 1) (.r 0)),mw 0,mw 7,p (.bin .mul (kn 8) (.r 0)),p (.bin .shr (.r 2) (.r 0)),p (.cvt .u8 (.r 0)),p (.iad 1 (.r 9) (.r 5)),p (.store (none) (.r 0) (.r 1))] [vv 0,vv 1,vv 6,vv 28,vv 29]))) (rr [p (.bin .add (.v 29) (kn 1)),mr 0] [vv 0,vv 1,vv 6,vv 28,(29,.r 0)]))))))) (.frz (.seq (rr [mw 6,p (.bts (.r 0)),mr 0,p (.mov (kn 0))] [(4,.r 1),(5,.r 0)]) .ret))))))
def r89:List RV:=[.t 4,.t 5]
theorem en89:EnP Tryz.prog 89 46 c89 r89:=meP Tryz.func89
def c67:C:=(.seq (rr [p (.mov (.k (.str []))),p (.mov (kn 0))] [vv 0]) (.seq (.seq (rr [mw 0,p (.len true (.r 0)),p (.bin .gtr (.r 0) (kn 65535))] [vv 0,(8,.r 0)]) (.cond (.v 8) (.seq (rr [p (.mov (.k (.str []))),p (.mov (kn 2))] [(2,.r 1),(3,.r 0)]) .ret) .skip)) (.seq (rr [mw 0,p (.len true (.r 0)),p (.call true (.k (.fn 89 [] [])) [.r 0,kn 2]),mr 0,xt 0 0,xt 1 1,mr 1,mr 1] [vv 0,(4,.r 1),(5,.r 0)]) (.seq (rr [mw 4,mw 0,p (.bsl 1 [.r 1,.r 0]),p (.call true (.k (.fn 65 [] [])) [.r 0]),mw 5,mr 1,mr 1] [(2,.r 1),(3,.r 0)]) .ret))))
def r67:List RV:=[.t 2,.t 3]
theorem en67:EnP Tryz.prog 67 20 c67 r67:=meP Tryz.func67
def c59:C:=(.seq (rr [p (.mov (kn 0)),p (.mov (kn 0)),p (.mov (kn 0))] [vv 0,vv 1,vv 2]) (.seq (.block 0 (.seq (rr [mw 2,p (.bin .lss (.r 0) (kn 1)),mr 0,⟨.mov (.v 2),some (0,false),[]⟩,⟨.bin .gtr (.r 0) (kn 6),some (1,false),[]⟩,p (.pick (.r 2) (.k (.bool true)) (.r 0)),mr 0,⟨.mov (.v 1),some (0,false),[]⟩,⟨.bin .lss (.r 0) (kn 0),some (1,false),[]⟩,p (.pick (.r 2) (.k (.bool true)) (.r 0)),mr 0,⟨.mov (.v 1),some (0,false),[]⟩,⟨.mov (.v 0),some (1,false),[]⟩,⟨.len true (.r 0),some (2,false),[]⟩,⟨.bin .gtr (.r 2) (.r 0),some (3,false),[]⟩,p (.pick (.r 4) (.k (.bool true)) (.r 0)),mr 0] [vv 0,vv 1,vv 2,(12,.r 0)]) (.cond (.v 12) (.seq (rr [p (.mov (kn 0)),p (.mov (kn 0)),p (.mov (kn 1))] [(6,.r 2),(7,.r 1),(8,.r 0)]) .ret) (.seq (rr [mw 0,p (.len true (.r 0)),mw 1,p (.bin .sub (.r 1) (.r 0)),mw 2,p (.bin .lss (.r 1) (.r 0)),mr 0] [vv 0,vv 1,vv 2,(29,.r 0)]) (.cond (.v 29) (.seq (rr [p (.mov (kn 0)),p (.mov (kn 0)),p (.mov (kn 3))] [(6,.r 2),(7,.r 1),(8,.r 0)]) .ret) .skip))))) (.seq (rr [p (.mov (kn 0))] [vv 0,vv 1,vv 2,(9,.r 0)]) (.seq (.seq (rr [mw 0,mw 1,mw 1,mw 2,p (.bin .add (.r 1) (.r 0)),p (.sls (.r 4) (some (.r 3)) (some (.r 0))),p (.stb (.r 0)),p (.len false (.r 0)),p (.mov (kn 0))] [vv 1,vv 2,vv 9,(42,.r 2),(43,.r 1),(44,.r 0)]) (.block 1 (.loop (.seq (rr [p (.bin .lss (.v 44) (.v 43))] [vv 1,vv 2,vv 9,vv 42,vv 43,vv 44,(45,.r 0)]) (.seq (.cond (.v 45) .skip (.exit 1)) (.seq (.block 2 (.seq (rr [p (.iad 1 (.v 42) (.v 44)),ld 0,mr 0] [vv 1,vv 2,vv 9,(11,.r 0),vv 42,vv 43,vv 44]) (rr [mw 9,p (.bin .shl (.r 0) (.k (.int .u64 8))),mw 11,p (.cvt .i64 (.r 0)),p (.bin .or (.r 2) (.r 0)),mr 0] [vv 1,vv 2,(9,.r 0),vv 42,vv 43,vv 44]))) (rr [p (.bin .add (.v 44) (kn 1)),mr 0] [vv 1,vv 2,vv 9,vv 42,vv 43,(44,.r 0)]))))))) (.frz (.seq (rr [mw 9,mw 1,mw 2,p (.bin .add (.r 1) (.r 0)),mr 3,mr 1,p (.mov (kn 0))] [(6,.r 2),(7,.r 1),(8,.r 0)]) .ret))))))
def r59:List RV:=[.t 6,.t 7,.t 8]
theorem en59:EnP Tryz.prog 59 58 c59 r59:=meP Tryz.func59
def c60:C:=(.seq (rr [p (.mov (.k (.str []))),p (.mov (kn 0)),p (.mov (kn 0))] [vv 0,vv 1]) (.seq (rr [mw 0,mw 1,p (.call true (.k (.fn 59 [] [])) [.r 1,.r 0,kn 2]),mr 0,xt 0 0,xt 1 1,xt 2 2,mr 2,mr 2,mr 2] [vv 0,(1,.r 1),(7,.r 2),(8,.r 0)]) (.seq (.block 0 (.seq (rr [mw 8,p (.bin .neq (.r 0) (kn 0)),mr 0] [vv 0,vv 1,vv 7,vv 8,(16,.r 0)]) (.cond (.v 16) (.seq (rr [mw 8,p (.mov (.k (.str []))),p (.mov (kn 0)),mr 2] [(4,.r 2),(5,.r 1),(6,.r 0)]) .ret) (.seq (rr [mw 0,p (.len true (.r 0)),mw 1,p (.bin .sub (.r 1) (.r 0)),mw 7,p (.bin .lss (.r 1) (.r 0)),mr 0] [vv 0,vv 1,vv 7,(20,.r 0)]) (.cond (.v 20) (.seq (rr [p (.mov (.k (.str []))),p (.mov (kn 0)),p (.mov (kn 3))] [(4,.r 2),(5,.r 1),(6,.r 0)]) .ret) .skip))))) (.seq (rr [mw 0,mw 1,mw 1,mw 7,p (.bin .add (.r 1) (.r 0)),p (.sls (.r 4) (some (.r 3)) (some (.r 0))),mw 1,mw 7,p (.bin .add (.r 1) (.r 0)),mr 3,mr 1,p (.mov (kn 0))] [(4,.r 2),(5,.r 1),(6,.r 0)]) .ret))))
def r60:List RV:=[.t 4,.t 5,.t 6]
theorem en60:EnP Tryz.prog 60 36 c60 r60:=meP Tryz.func60
end Go.Proofs.YtgdhbegaejmljaaGreatDoor.Ev
