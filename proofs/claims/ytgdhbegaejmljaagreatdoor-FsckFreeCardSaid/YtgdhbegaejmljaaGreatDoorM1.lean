/-
  Part 1 of what the proof of the statement FsckFree leans on: the evaluator, the functions in compact form, and what they answer.
-/
import Derived.Orders
import Derived.Below
import Derived.Laws.Cells
import Derived.RangeFuncSeq
import Derived.Laws.Small
import Derived.Laws.Strings
import Derived.Laws.Entries
import Derived.Laws.StructEq
import Derived.OrdersIn
import Derived.ControlIn
import Derived.Deep.AppendSrc
import Derived.Deep.Upon
import Derived.Laws.CopyRow
import Derived.Laws.MakeOwn
import Derived.Laws.Tables
import Derived.Great.BuildSlice
import Derived.Laws.BytesString
import Derived.Laws.BytesArg
import Derived.Lib.AppendZerosOnto
import Derived.Carry
import Derived.MapKept
import Derived.Maps.RangeRun
set_option linter.unusedSimpArgs false
set_option linter.unusedVariables false
set_option maxRecDepth 10000
namespace Go.Proofs.YtgdhbegaejmljaaGreatDoor.Ev
open Go
inductive St where
 | nil | full | loose | nn
 deriving DecidableEq
inductive V where
 | bool (b:Bool)
 | int (k:IntKind) (n:Int)
 | str (s:List UInt8)
 | nilp
 | ptr (id i off:Nat)
 | fptr (e:V) (off:Nat)
 | sl (id off len:Nat)
 | fsl (st:St) (sz:Nat) (l:List V)
 | fn (f:Nat) (fs cs:List V)
 | nilf
 | ifc (t:Nat) (v:V)
 | nili
 | agg (l:List V)
 | tup (l:List V)
 | map (id:Nat)
 | nilm
 | yl (l:Nat)
 | jk
 | slc (id off len cap:Nat)
def V.size:V→Nat
 | .agg l => l.length
 | _ => 1
def V.cell:V→Bool
 | .agg _ | .tup _ => false
 | _ => true
def V.isEl:V→Bool
 | .tup _ => false
 | _ => true
structure G where
 ι:Nat→Option (Nat×Nat×Nat)
 F:Nat→Option (List Value)
def FAt (g:G) (b o:Nat) (xs:List Value):Prop:=∃ pre post,g.F b=some (pre++xs++post)∧pre.length=o
mutual
def R (g:G):V→Value→Prop
 | .bool b,x => x=.bool b
 | .int k n,x => x=.int k n
 | .str s,x => x=.string ⟨s.toArray⟩
 | .nilp,x => x=.pointer none
 | .ptr id i off,x => ∃ b sz n,g.ι id=some (b,sz,n)∧x=.pointer (some ⟨b,i*sz+off,none⟩)
 | .fptr e off,x => ∃ b o y,R g e y∧FAt g b o y.cells.toList∧x=.pointer (some ⟨b,o+off,none⟩)
 | .sl id off len,x => ∃ b sz n a cap,g.ι id=some (b,sz,n)∧x=.slice (some a) len cap∧len≤cap∧((a=⟨b,off*sz,none⟩∧(off+cap)*sz≤n)∨cap=0)
 | .fsl st sz l,x => ∃ a cap xs,x=.slice a l.length cap∧RL g l xs∧(∀ v∈l,v.size=sz)∧l.length≤cap∧(a=none→cap=0) ∧
   ((st=.nil→a=none)∧(st=.nn→a≠none))∧(st=.full→cap=l.length)∧(l=[]∨∃ b o,a=some ⟨b,o,none⟩∧FAt g b o xs)
 | .fn f fs cs,x => ∃ xs ys,x=.func (.func f) xs ys∧RC g fs xs.toList∧RC g cs ys.toList
 | .nilf,x => x=.nilFunc
 | .ifc t v,x => ∃ y,x=.iface t y∧R g v y
 | .nili,x => x=.nilIface
 | .agg l,x => ∃ xs,x=.agg xs∧RC g l xs.toList∧∀ v∈l,v.cell=true
 | .tup l,x => ∃ xs,x=.tuple xs∧RC g l xs.toList
 | .map id,x => ∃ b,g.ι id=some (b,0,0)∧x=.map (some b)
 | .nilm,x => x=.map none
 | .yl l,x => x=.func (.yield l) #[] #[]
 | .jk,x => x.oneCell'=true
 | .slc id off len cap,x => ∃ b sz n a,g.ι id=some (b,sz,n)∧x=.slice (some a) len cap∧len≤cap∧((a=⟨b,off*sz,none⟩∧(off+cap)*sz≤n)∨cap=0)
def RC (g:G):List V→List Value→Prop
 | [],xs => xs=[]
 | v::vs,xs => ∃ y ys,xs=y::ys∧R g v y∧RC g vs ys
def RL (g:G):List V→List Value→Prop
 | [],xs => xs=[]
 | v::vs,xs => ∃ y ys,xs=y.cells.toList++ys∧(v.isEl=true∧R g v y)∧RL g vs ys
end
structure G.le (g g':G):Prop where
 ι:∀ id p,g.ι id=some p→g'.ι id=some p
 F:∀ b cs,g.F b=some cs→g'.F b=some cs
theorem G.le.refl (g:G):g.le g:=⟨fun _ _ h => h,fun _ _ h => h⟩
theorem G.le.trans {a b c:G} (h:a.le b) (k:b.le c):a.le c:=⟨fun _ _ e => k.ι _ _ (h.ι _ _ e),fun _ _ e => k.F _ _ (h.F _ _ e)⟩
theorem FAt.mono {g g':G} (h:g.le g') {b o:Nat} {xs:List Value} (k:FAt g b o xs):FAt g' b o xs :=
 let ⟨pre,post,e,l⟩:=k; ⟨pre,post,h.F _ _ e,l⟩
mutual
theorem R.mono {g g':G} (h:g.le g'):∀ (v:V) (x:Value),R g v x→R g' v x
 | .bool _,_,r | .int _ _,_,r | .str _,_,r | .nilp,_,r | .nilf,_,r | .nili,_,r | .nilm,_,r | .yl _,_,r | .jk,_,r => by simpa only [R] using r
 | .slc _ _ _ _,_,r => by simp only [R] at r ⊢; obtain ⟨b,sz,n,a,e,k⟩:=r; exact ⟨b,sz,n,a,h.ι _ _ e,k⟩
 | .ptr _ _ _,_,r => by simp only [R] at r ⊢; obtain ⟨b,sz,n,e,k⟩:=r; exact ⟨b,sz,n,h.ι _ _ e,k⟩
 | .fptr e _,_,r => by simp only [R] at r ⊢; obtain ⟨b,o,y,e1,e2,e3⟩:=r; exact ⟨b,o,y,R.mono h e y e1,e2.mono h,e3⟩
 | .sl _ _ _,_,r => by simp only [R] at r ⊢; obtain ⟨b,sz,n,a,cap,e,k⟩:=r; exact ⟨b,sz,n,a,cap,h.ι _ _ e,k⟩
 | .fsl _ _ l,_,r => by
  simp only [R] at r ⊢;obtain ⟨a,cap,xs,e1,e2,e3,e4,e5,e6,e7,e8⟩:=r;exact ⟨a,cap,xs,e1,RL.mono h l xs e2,e3,e4,e5,e6,e7,e8.imp id fun ⟨b,o,i,j⟩ => ⟨b,o,i,j.mono h⟩⟩
 | .fn _ fs cs,_,r => by simp only [R] at r ⊢; obtain ⟨xs,ys,e1,e2,e3⟩:=r; exact ⟨xs,ys,e1,RC.mono h fs _ e2,RC.mono h cs _ e3⟩
 | .ifc _ v,_,r => by simp only [R] at r ⊢; obtain ⟨y,e1,e2⟩:=r; exact ⟨y,e1,R.mono h v y e2⟩
 | .agg l,_,r => by simp only [R] at r ⊢; obtain ⟨xs,e1,e2,e3⟩:=r; exact ⟨xs,e1,RC.mono h l _ e2,e3⟩
 | .tup l,_,r => by simp only [R] at r ⊢; obtain ⟨xs,e1,e2⟩:=r; exact ⟨xs,e1,RC.mono h l _ e2⟩
 | .map _,_,r => by simp only [R] at r ⊢; obtain ⟨b,e,k⟩:=r; exact ⟨b,h.ι _ _ e,k⟩
theorem RC.mono {g g':G} (h:g.le g'):∀ (l:List V) (xs:List Value),RC g l xs→RC g' l xs
 | [],_,r => by simpa only [RC] using r
 | v::vs,_,r => by simp only [RC] at r ⊢; obtain ⟨y,ys,e,e1,e2⟩:=r; exact ⟨y,ys,e,R.mono h v y e1,RC.mono h vs ys e2⟩
theorem RL.mono {g g':G} (h:g.le g'):∀ (l:List V) (xs:List Value),RL g l xs→RL g' l xs
 | [],_,r => by simpa only [RL] using r
 | v::vs,_,r => by simp only [RL] at r ⊢; obtain ⟨y,ys,e,⟨e0,e1⟩,e2⟩:=r; exact ⟨y,ys,e,⟨e0,R.mono h v y e1⟩,RL.mono h vs ys e2⟩
end
mutual
def V.closed:V→Bool
 | .ptr _ _ _ | .sl _ _ _ | .slc _ _ _ _ | .map _ => false
 | .fptr e _ => e.closed
 | .fsl _ _ l => a0b l
 | .fn _ fs cs => a0b fs && a0b cs
 | .ifc _ v => v.closed
 | .agg l => a0b l
 | .tup l => a0b l
 | _ => true
def a0b:List V→Bool
 | [] => true
 | v::vs => v.closed && a0b vs
end
theorem a1u:∀ {l:List V},a0b l=true↔∀ v∈l,v.closed=true
 | [] => by simp [a0b]
 | v::vs => by simp [a0b,a1u (l:=vs)]
mutual
theorem R.closed {g g':G} (h:∀ b cs,g.F b=some cs→g'.F b=some cs):∀ (v:V) (x:Value),v.closed=true→R g v x→R g' v x
 | .bool _,_,_,r | .int _ _,_,_,r | .str _,_,_,r | .nilp,_,_,r | .nilf,_,_,r | .nili,_,_,r | .nilm,_,_,r | .yl _,_,_,r | .jk,_,_,r => by simpa only [R] using r
 | .fptr e _,_,c,r => by
  simp only [R] at r ⊢; obtain ⟨b,o,y,e1,⟨pre,post,e2,e2'⟩,e3⟩:=r;exact ⟨b,o,y,R.closed h e y (by simpa only [V.closed] using c) e1,⟨pre,post,h _ _ e2,e2'⟩,e3⟩
 | .fsl _ _ l,_,c,r => by
  simp only [R] at r ⊢;obtain ⟨a,cap,xs,e1,e2,e3,e4,e5,e6,e7,e8⟩:=r;exact ⟨a,cap,xs,e1,RL.closed h l xs (by simpa only [V.closed] using c) e2,e3,e4,e5,e6,e7,e8.imp id fun ⟨b,o,i,pre,post,j,j'⟩ => ⟨b,o,i,pre,post,h _ _ j,j'⟩⟩
 | .fn _ fs cs,_,c,r => by
  simp only [V.closed,Bool.and_eq_true] at c;simp only [R] at r ⊢; obtain ⟨xs,ys,e1,e2,e3⟩:=r; exact ⟨xs,ys,e1,RC.closed h fs _ c.1 e2,RC.closed h cs _ c.2 e3⟩
 | .ifc _ v,_,c,r => by simp only [R] at r ⊢; obtain ⟨y,e1,e2⟩:=r; exact ⟨y,e1,R.closed h v y (by simpa only [V.closed] using c) e2⟩
 | .agg l,_,c,r => by simp only [R] at r ⊢; obtain ⟨xs,e1,e2,e3⟩:=r; exact ⟨xs,e1,RC.closed h l _ (by simpa only [V.closed] using c) e2,e3⟩
 | .tup l,_,c,r => by simp only [R] at r ⊢; obtain ⟨xs,e1,e2⟩:=r; exact ⟨xs,e1,RC.closed h l _ (by simpa only [V.closed] using c) e2⟩
theorem RC.closed {g g':G} (h:∀ b cs,g.F b=some cs→g'.F b=some cs):∀ (l:List V) (xs:List Value),a0b l=true→RC g l xs→RC g' l xs
 | [],_,_,r => by simpa only [RC] using r
 | v::vs,_,c,r => by
  simp only [a0b,Bool.and_eq_true] at c;simp only [RC] at r ⊢; obtain ⟨y,ys,e,e1,e2⟩:=r; exact ⟨y,ys,e,R.closed h v y c.1 e1,RC.closed h vs ys c.2 e2⟩
theorem RL.closed {g g':G} (h:∀ b cs,g.F b=some cs→g'.F b=some cs):∀ (l:List V) (xs:List Value),a0b l=true→RL g l xs→RL g' l xs
 | [],_,_,r => by simpa only [RL] using r
 | v::vs,_,c,r => by
  simp only [a0b,Bool.and_eq_true] at c;simp only [RL] at r ⊢; obtain ⟨y,ys,e,⟨e0,e1⟩,e2⟩:=r; exact ⟨y,ys,e,⟨e0,R.closed h v y c.1 e1⟩,RL.closed h vs ys c.2 e2⟩
end
theorem R.cells_size {g:G}:∀ {v:V} {x:Value},R g v x→x.cells.size=v.size:=by
 intro v x r;cases v<;>simp only [R] at r
 case agg l =>
  obtain ⟨xs,rfl,e,_⟩:=r;simp only [Value.cells,V.size];have:∀ (l:List V) (xs:List Value),RC g l xs→xs.length=l.length:=by
   intro l; induction l with
   | nil => intro xs h; simp only [RC] at h; simp [h]
   | cons v vs ih => intro xs h; simp only [RC] at h; obtain ⟨y,ys,rfl,_,h2⟩:=h; simp [ih _ h2]
  simpa using this _ _ e
 case jk => cases x<;>first | rfl | cases r
 all_goals first
  | (obtain ⟨_,_,_,_,_,rfl,_⟩:=r; rfl)
  | (subst r; rfl)
  | (obtain ⟨_,_,_,_,rfl⟩:=r; rfl)
  | (obtain ⟨_,_,_,_,_,rfl⟩:=r; rfl)
  | (obtain ⟨_,_,_,_,_,_,rfl,_⟩:=r; rfl)
  | (obtain ⟨_,_,_,rfl,_⟩:=r; rfl)
  | (obtain ⟨_,_,rfl,_⟩:=r; rfl)
  | (obtain ⟨_,rfl,_⟩:=r; rfl)
  | (obtain ⟨_,_,rfl⟩:=r; rfl)
theorem RC.length {g:G}:∀ {l:List V} {xs:List Value},RC g l xs→xs.length=l.length
 | [],_,h => by simp only [RC] at h; simp [h]
 | v::vs,_,h => by simp only [RC] at h; obtain ⟨y,ys,rfl,_,h2⟩:=h; simp [RC.length h2]
theorem RC.get {g:G}:∀ {l:List V} {xs:List Value} {i:Nat} {v:V},RC g l xs→l[i]?=some v→∃ x,xs[i]?=some x∧R g v x
 | [],_,_,_,_,e => by simp at e
 | v::vs,_,i,u,h,e => by
  simp only [RC] at h; obtain ⟨y,ys,rfl,h1,h2⟩:=h;cases i with
  | zero => simp at e; subst e; exact ⟨y,rfl,h1⟩
  | succ i => simp at e; simpa using RC.get h2 e
theorem RC.append {g:G}:∀ {l l':List V} {xs ys:List Value},RC g l xs→RC g l' ys→RC g (l++l') (xs++ys)
 | [],_,_,_,h,h' => by simp only [RC] at h; subst h; simpa using h'
 | v::vs,_,_,_,h,h' => by
  simp only [RC] at h; obtain ⟨y,ys,rfl,h1,h2⟩:=h;simp only [List.cons_append,RC]; exact ⟨y,_,rfl,h1,RC.append h2 h'⟩
theorem RL.append {g:G}:∀ {l l':List V} {xs ys:List Value},RL g l xs→RL g l' ys→RL g (l++l') (xs++ys)
 | [],_,_,_,h,h' => by simp only [RL] at h; subst h; simpa using h'
 | v::vs,_,_,_,h,h' => by
  simp only [RL] at h; obtain ⟨y,ys,rfl,h1,h2⟩:=h;simp only [List.cons_append,RL]; exact ⟨y,_,by simp,h1,RL.append h2 h'⟩
theorem RL.length {g:G} {sz:Nat}:∀ {l:List V} {xs:List Value},RL g l xs→(∀ v∈l,v.size=sz)→xs.length=l.length*sz
 | [],_,h,_ => by simp only [RL] at h; simp [h]
 | v::vs,_,h,k => by
  simp only [RL] at h; obtain ⟨y,ys,rfl,h1,h2⟩:=h;have:=RL.length h2 fun u hu => k u (by simp [hu]);have h3:=h1.2.cells_size;rw [k v (by simp)] at h3;simp [this,h3,Nat.add_mul]; omega
theorem RL.split {g:G} {sz:Nat}:∀ {l:List V} {xs:List Value} (i:Nat),RL g l xs→(∀ v∈l,v.size=sz)→i≤l.length →
  ∃ az bs,xs=az++bs∧az.length=i*sz∧RL g (l.take i) az∧RL g (l.drop i) bs
 | l,xs,0,h,_,_ => ⟨[],xs,rfl,by simp,by simp [RL],by simpa using h⟩
 | [],_,i+1,_,_,hi => by simp at hi
 | v::vs,_,i+1,h,k,hi => by
  simp only [RL] at h; obtain ⟨y,ys,rfl,h1,h2⟩:=h;obtain ⟨az,bs,rfl,e,p,q⟩:=RL.split i h2 (fun u hu => k u (by simp [hu])) (by simpa using hi);have h3:=h1.2.cells_size;rw [k v (by simp)] at h3;refine ⟨y.cells.toList++az,bs,by simp, ?_, ?_,by simpa using q⟩
  ·simp [e,h3,Nat.add_mul]; omega
  ·simp only [List.take_succ_cons,RL]; exact ⟨y,az,rfl,h1,p⟩
theorem RL.get {g:G} {sz:Nat} {l:List V} {xs:List Value} {i:Nat} {v:V} (h:RL g l xs) (k:∀ v∈l,v.size=sz) (e:l[i]?=some v) :
  ∃ az y bs,xs=az++y.cells.toList++bs∧az.length=i*sz∧R g v y∧RL g (l.take i) az∧RL g (l.drop (i+1)) bs:=by
 have hi:i < l.length:=(List.getElem?_eq_some_iff.1 e).1;obtain ⟨az,bs,rfl,e1,p,q⟩:=RL.split i h k (by omega);have:l.drop i=v::l.drop (i+1):=by
  rw [List.drop_eq_getElem_cons hi]; congr 1; exact (List.getElem?_eq_some_iff.1 e).2
 rw [this] at q;simp only [RL] at q; obtain ⟨y,ys,rfl,q1,q2⟩:=q;exact ⟨az,y,ys,by simp,e1,q1.2,p,q2⟩
inductive Ob where
 | arr (sz:Nat) (l:List V)
 | mp (l:List (V×V))
 | md (c:Nat) (bs:List Nat) (l:List (V×V))
 | it (mid c:Nat) (seen:List Nat)
def frOk (fr:Nat×Nat) (n:Nat):Prop:=fr=(0,0)∨n≤fr.1
theorem frOk.not {fr:Nat×Nat} {n o:Nat} (h:frOk fr n) (ho:o < n):(decide (fr.1≤o) && decide (o < fr.2))=false:=by
 rcases h with rfl | h
 ·simp
 ·simp; omega
def Tail (sz:Nat) (fr:Nat×Nat) (post:List Value):Prop:=(sz≠1→fr=(0,0))∧∀ u∈post,u.oneCell'=true
def ORep (g:G) (w:World) (id:Nat):Ob→Prop
 | .arr sz l => ∃ (b n:Nat) (cs:Array Value) (e:TypeId×Nat×Nat) (xs post:List Value),g.ι id=some (b,sz,n)∧w.heap[b]?=some (.cells cs e.1 e.2)∧cs.size=n∧(g.F b=none∧frOk e.2 n) ∧
   RL g l xs∧(∀ v∈l,v.size=sz)∧cs.toList=xs++post∧Tail sz e.2 post
 | .mp l => ∃ b es clock,g.ι id=some (b,0,0)∧w.heap[b]?=some (.map es clock)∧g.F b=none∧RC g (l.map (·.1)) (es.toList.map (·.key))∧RC g (l.map (·.2)) (es.toList.map (·.val)) ∧
   es.toList.map (·.born)=List.range es.size∧clock=es.size
 | .md c bs l => ∃ b es clock,g.ι id=some (b,0,0)∧w.heap[b]?=some (.map es clock)∧g.F b=none∧RC g (l.map (·.1)) (es.toList.map (·.key))∧RC g (l.map (·.2)) (es.toList.map (·.val)) ∧
   es.toList.map (·.born)=bs∧clock=c
 | .it mid c seen => ∃ b bm c0,g.ι id=some (b,0,0)∧w.heap[b]?=some (.mapIter (some bm) c seen.toArray c0)∧g.F b=none∧g.ι mid=some (bm,0,0)∧c0=c
abbrev Hm:=Nat→Option Ob
def c0h:List (Nat×(List Value→Prop)):=[]
structure RS (g:G) (m:Hm) (w:World):Prop where
 fro:∀ b cs,g.F b=some cs→∃ e fr,w.heap[b]?=some (.cells cs.toArray e fr)
 live:∀ id o,m id=some o→ORep g w id o
 inj:∀ id id' o o' b s n s' n',m id=some o→m id'=some o'→g.ι id=some (b,s,n)→g.ι id'=some (b,s',n')→id=id'
 tab:∀ p∈c0h,∃ cs,g.F p.1=some cs∧p.2 cs
def Own (g:G) (m:Hm) (b:Nat):Prop:=∃ id o s n,m id=some o∧g.ι id=some (b,s,n)
structure Ext (g:G) (m:Hm) (w:World) (g':G) (m':Hm) (w':World):Prop where
 size:w.heap.size≤w'.heap.size
 old:∀ b,b < w.heap.size→¬ Own g m b→w'.heap[b]?=w.heap[b]?
 le:g.le g'
 own:∀ b,Own g' m' b→w.heap.size≤b∨Own g m b
 froz:∀ b cs,g'.F b=some cs→g.F b=some cs∨w.heap.size≤b∨Own g m b
 os:w'.os=w.os
 tape:w'.tape=w.tape
 output:w'.output=w.output
theorem Ext.refl (g:G) (m:Hm) (w:World):Ext g m w g m w :=
 ⟨Nat.le_refl _,fun _ _ _ => rfl,.refl g,fun _ h => .inr h,fun _ _ h => .inl h,rfl,rfl,rfl⟩
theorem Ext.trans {g g' g'':G} {m m' m'':Hm} {w w' w'':World} (h:Ext g m w g' m' w') (k:Ext g' m' w' g'' m'' w''):Ext g m w g'' m'' w'' where
 size:=Nat.le_trans h.size k.size
 old b hb ho:=by
  rw [k.old b (Nat.lt_of_lt_of_le hb h.size) fun hh => (h.own b hh).elim (fun e => by omega) ho]; exact h.old b hb ho
 le:=h.le.trans k.le
 own b hb:=by
  rcases k.own b hb with e | e
  ·exact .inl (Nat.le_trans h.size e)
  ·exact h.own b e
 froz b cs hb:=by
  rcases k.froz b cs hb with e | e | e
  ·exact h.froz b cs e
  ·exact .inr (.inl (Nat.le_trans h.size e))
  ·exact .inr (h.own b e)
 os:=k.os.trans h.os
 tape:=k.tape.trans h.tape
 output:=k.output.trans h.output
theorem ORep.lt {g:G} {w:World} {id b s n:Nat} {o:Ob} (h:ORep g w id o) (e:g.ι id=some (b,s,n)):b < w.heap.size:=by
 cases o with
 | arr sz l =>
  obtain ⟨b',n',cs,e',xs,post,h1,h2,_⟩:=h;rw [h1] at e; simp at e; obtain ⟨rfl,_,_⟩:=e;exact (Array.getElem?_eq_some_iff.1 h2).1
 | mp l | md c bs l =>
  obtain ⟨b',es,clock,h1,h2,_⟩:=h;rw [h1] at e; simp at e; obtain ⟨rfl,_,_⟩:=e;exact (Array.getElem?_eq_some_iff.1 h2).1
 | it mid c seen =>
  obtain ⟨b',bm,c0,h1,h2,_⟩:=h;rw [h1] at e; simp at e; obtain ⟨rfl,_,_⟩:=e;exact (Array.getElem?_eq_some_iff.1 h2).1
theorem ORep.unF {g:G} {w:World} {id b s n:Nat} {o:Ob} (h:ORep g w id o) (e:g.ι id=some (b,s,n)):g.F b=none:=by
 cases o with
 | arr sz l =>
  obtain ⟨b',n',cs,e',xs,post,h1,h2,_,h3,_⟩:=h;rw [h1] at e; simp at e; obtain ⟨rfl,_,_⟩:=e; exact h3.1
 | mp l | md c bs l =>
  obtain ⟨b',es,clock,h1,h2,h3,_⟩:=h;rw [h1] at e; simp at e; obtain ⟨rfl,_,_⟩:=e; exact h3
 | it mid c seen =>
  obtain ⟨b',bm,c0,h1,h2,h3,_⟩:=h;rw [h1] at e; simp at e; obtain ⟨rfl,_,_⟩:=e; exact h3
theorem RS.fro_lt {g:G} {m:Hm} {w:World} (h:RS g m w) {b:Nat} {cs:List Value} (k:g.F b=some cs):b < w.heap.size:=by
 obtain ⟨e,fr,h1⟩:=h.fro b cs k;exact (Array.getElem?_eq_some_iff.1 h1).1
theorem ORep.keep {g g':G} {w w':World} {id:Nat} {o:Ob} (h:ORep g w id o) (hle:g.le g')
  (hb:∀ b s n,g.ι id=some (b,s,n)→w'.heap[b]?=w.heap[b]?∧g'.F b=none):ORep g' w' id o:=by
 cases o with
 | arr sz l =>
  obtain ⟨b,n,cs,e,xs,post,h1,h2,h3,h4,h6,h7,h8⟩:=h;obtain ⟨k1,k2⟩:=hb b sz n h1;exact ⟨b,n,cs,e,xs,post,hle.ι _ _ h1,k1.trans h2,h3,⟨k2,h4.2⟩,RL.mono hle _ _ h6,h7,h8⟩
 | mp l | md c bs l =>
  obtain ⟨b,es,clock,h1,h2,h3,h4,h5,h6⟩:=h;obtain ⟨k1,k2⟩:=hb b 0 0 h1;exact ⟨b,es,clock,hle.ι _ _ h1,k1.trans h2,k2,RC.mono hle _ _ h4,RC.mono hle _ _ h5,h6⟩
 | it mid c seen =>
  obtain ⟨b,bm,c0,h1,h2,h3,h4,h5⟩:=h;obtain ⟨k1,k2⟩:=hb b 0 0 h1;exact ⟨b,bm,c0,hle.ι _ _ h1,k1.trans h2,k2,hle.ι _ _ h4,h5⟩
theorem frame {g g':G} {m m1 m1':Hm} {w w':World} (hs:RS g m w) (hsub:∀ id o,m1 id=some o→m id=some o)
  (hs1:RS g' m1' w') (hx:Ext g m1 w g' m1' w') :
  let m':Hm:=fun id => match m1' id with | some o => some o | none => if m1 id=none then m id else none
  (∀ id o,m1' id=some o→(m id=none∨m1 id≠none))→RS g' m' w'∧Ext g m w g' m' w':=by
 intro m' hnew;have rest:∀ id o,m' id=some o→m1' id=some o∨(m1' id=none∧m1 id=none∧m id=some o):=by
  intro id o h;simp only [m'] at h;cases h1:m1' id with
  | some o' => rw [h1] at h; exact .inl h
  | none =>
   rw [h1] at h; simp only at h;by_cases h2:m1 id=none
   ·rw [if_pos h2] at h; exact .inr ⟨rfl,h2,h⟩
   ·rw [if_neg h2] at h; cases h
 have notown:∀ id o b s n,m id=some o→m1 id=none→g.ι id=some (b,s,n)→¬ Own g m1 b:=by
  rintro id o b s n h1 h2 h3 ⟨id',o',s',n',k1,k2⟩;have:=hs.inj id id' o o' b s n s' n' h1 (hsub _ _ k1) h3 k2;subst this; rw [h2] at k1; cases k1
 have ownsub:∀ b,Own g m1 b→Own g m b:=fun b ⟨id,o,s,n,h1,h2⟩ => ⟨id,o,s,n,hsub _ _ h1,h2⟩;refine ⟨⟨hs1.fro, ?_, ?_,hs1.tab⟩,⟨hx.size,fun b hb ho => hx.old b hb fun h => ho (ownsub b h),hx.le, ?_, ?_,hx.os,hx.tape,hx.output⟩⟩
 ·intro id o h;rcases rest id o h with h | ⟨h1,h2,h3⟩
  ·exact hs1.live id o h
  ·refine (hs.live id o h3).keep hx.le fun b s n e => ⟨hx.old b ((hs.live id o h3).lt e) (notown id o b s n h3 h2 e), ?_⟩;cases hF:g'.F b with
   | none => rfl
   | some cs =>
    rcases hx.froz b cs hF with k | k | k
    ·have:=(hs.live id o h3).unF e; rw [this] at k; cases k
    ·have:=(hs.live id o h3).lt e; omega
    ·exact (notown id o b s n h3 h2 e k).elim
 ·intro id id' o o' b s n s' n' h h' e e';have old:∀ id o,m id=some o→m1 id=none→∀ b s n,g'.ι id=some (b,s,n)→g.ι id=some (b,s,n):=by
   intro id o h1 h2 b s n e;have hr:=hs.live id o h1;cases hι:g.ι id with
   | none => cases o<;>simp only [ORep] at hr<;>(obtain ⟨_,_,_,hr⟩:=hr; simp [hι] at hr)
   | some p => rw [← hx.le.ι _ _ hι,e]
  rcases rest id o h with k | ⟨k1,k2,k3⟩<;>rcases rest id' o' h' with j | ⟨j1,j2,j3⟩
  ·exact hs1.inj id id' o o' b s n s' n' k j e e'
  ·have e2:=old id' o' j3 j2 b s' n' e';rcases hx.own b ⟨id,o,s,n,k,e⟩ with q | q
   ·have:=(hs.live id' o' j3).lt e2; omega
   ·exact (notown id' o' b s' n' j3 j2 e2 q).elim
  ·have e2:=old id o k3 k2 b s n e;rcases hx.own b ⟨id',o',s',n',j,e'⟩ with q | q
   ·have:=(hs.live id o k3).lt e2; omega
   ·exact (notown id o b s n k3 k2 e2 q).elim
  ·exact hs.inj id id' o o' b s n s' n' k3 j3 (old id o k3 k2 b s n e) (old id' o' j3 j2 b s' n' e')
 ·rintro b ⟨id,o,s,n,h,e⟩;rcases rest id o h with k | ⟨k1,k2,k3⟩
  ·exact (hx.own b ⟨id,o,s,n,k,e⟩).imp (fun h => h) (ownsub b)
  ·refine .inr ⟨id,o,s,n,k3, ?_⟩;have hr:=hs.live id o k3;cases hι:g.ι id with
   | none => cases o<;>simp only [ORep] at hr<;>(obtain ⟨_,_,_,hr⟩:=hr; simp [hι] at hr)
   | some p => rw [← hx.le.ι _ _ hι,e]
 ·intro b cs h;exact (hx.froz b cs h).imp (fun h => h) (fun h => h.imp (fun h => h) (ownsub b))
inductive Src where
 | r (k:Nat)
 | v (t:Nat)
 | k (c:V)
inductive NK where
 | p | s | m | f | i
 deriving DecidableEq
inductive Ins where
 | mov (x:Src)
 | pick (c x y:Src)
 | bin (op:BinOp) (x y:Src)
 | eqb (neg:Bool) (x y:Src)
 | eqn (neg:Bool) (kd:NK) (x:Src)
 | eqs (neg:Bool) (ks:List Nat) (x y:Src)
 | un (op:UnOp) (x:Src)
 | cvt (k:IntKind) (x:Src)
 | bts (x:Src)
 | stb (x:Src)
 | same (x:Src)
 | alloc (sz:Nat) (z:V)
 | box (sz:Nat) (x:Src)
 | build (z:List V) (ps:List (Nat×Nat×Src))
 | bsl (sz:Nat) (ps:List Src)
 | load (k:Option Nat) (a:Src)
 | store (k:Option Nat) (a x:Src)
 | fad (off:Nat) (x:Src)
 | fld (off:Nat) (k:Option Nat) (x:Src)
 | iad (sz:Nat) (x i:Src)
 | ixs (x i:Src)
 | slc (sz:Nat) (x:Src) (lo hi mx:Option Src)
 | sls (x:Src) (lo hi:Option Src)
 | ext (x:Src) (i:Nat)
 | mkf (f:Nat) (fs cs:List Src)
 | mks (sz bt:Nat) (z:V) (l:Src)
 | nck (x:Src)
 | len (str:Bool) (x:Src)
 | mnx (mx:Bool) (x:Src) (ys:List Src)
 | app (sz bt:Nat) (x y:Src)
 | cpy (sz:Nat) (x y:Src)
 | call (pure:Bool) (f:Src) (args:List Src)
 | mki (t:Nat) (x:Src)
 | mkm
 | mlk (ok:Bool) (ks:List Nat) (z:V) (x k:Src)
 | mup (ks:List Nat) (x k v:Src)
 | men (ks:List Nat) (z:V) (x k:Src)
 | mes (x s v:Src)
 | mln (x:Src)
 | sto (x:Src)
 | cap (x:Src)
 | apz (sz bt:Nat) (z:V) (x n:Src)
 | xcl (f:Nat) (args:List Src)
 | mdl (ks:List Nat) (x k:Src)
 | rng (x:Src)
 | mkd
 | ent (x:Src)
structure RI where
 i:Ins
 g:Option (Nat×Bool):=none
 u:List Nat:=[]
inductive C where
 | reg (draw:Bool) (is:List RI) (outs:List (Nat×Src))
 | seq (a b:C)
 | cut (a b:C)
 | cond (s:Src) (a b:C)
 | block (id:Nat) (a:C)
 | loop (a:C)
 | exit (id:Nat)
 | ret
 | skip
 | frz (a:C)
 | rf (s:Src) (ps:List Nat) (a b:C)
 | nx (x:Src) (is:List RI) (outs:List (Nat×Src))
structure Hp where
 n:Nat
 m:Hm
def upd (m:Hm) (id:Nat) (o:Option Ob):Hm:=fun i => if i=id then o else m i
def appd:List (Nat×Option Ob)→Hm→Hm
 | [],m => m
 | (id,o)::ds,m => appd ds (upd m id o)
abbrev Sg:=List (Nat×V)
def find (t:Nat):Sg→Option V
 | [] => none
 | (t',v)::r => if t=t' then some v else find t r
def nth:Nat→List V→Option V
 | _,[] => none
 | 0,v::_ => some v
 | n+1,_::r => nth n r
def look (σ:Sg) (env:List V):Src→Option V
 | .r k => nth k env
 | .v t => find t σ
 | .k c => some c
abbrev KI:=V→List Nat→List (Nat×Option Ob)→Nat→Prop
def wv (o:Option V) (K:V→Prop):Prop:=match o with | some v => K v | none => False
def wvs (L:Src→Option V):List Src→(List V→Prop)→Prop
 | [],K => K []
 | s::ss,K => wv (L s) fun v => wvs L ss fun vs => K (v::vs)
def wo (L:Src→Option V):Option Src→(Option V→Prop)→Prop
 | none,K => K none
 | some s,K => wv (L s) fun v => K (some v)
def a4s (op:BinOp) (k:IntKind) (x y:Int):Int :=
 k.wrap (match op with
  | .and => (BitVec.ofInt k.bits x &&& BitVec.ofInt k.bits y).toNat
  | .or => (BitVec.ofInt k.bits x ||| BitVec.ofInt k.bits y).toNat
  | .xor => (BitVec.ofInt k.bits x ^^^ BitVec.ofInt k.bits y).toNat
  | _ => (BitVec.ofInt k.bits x &&& ~~~BitVec.ofInt k.bits y).toNat)
def d3y (op:BinOp) (k:IntKind) (a:Int) (k':IntKind) (b:Int) (K:V→Prop):Prop :=
 match op with
 | .shl => 0≤b∧K (.int k (k.wrap (a*2 ^ min b.toNat k.bits)))
 | .shr => 0≤b∧K (.int k (a.fdiv (2 ^ min b.toNat k.bits)))
 | .add => k=k'∧K (.int k (k.wrap (a+b)))
 | .sub => k=k'∧K (.int k (k.wrap (a - b)))
 | .mul => k=k'∧K (.int k (k.wrap (a*b)))
 | .quo => k=k'∧b≠0∧K (.int k (k.wrap (a.tdiv b)))
 | .rem => k=k'∧b≠0∧K (.int k (a.tmod b))
 | .and => k=k'∧K (.int k (a4s .and k a b))
 | .or => k=k'∧K (.int k (a4s .or k a b))
 | .xor => k=k'∧K (.int k (a4s .xor k a b))
 | .andNot => k=k'∧K (.int k (a4s .andNot k a b))
 | .eql => k=k'∧K (.bool (a == b))
 | .neq => k=k'∧K (.bool (a != b))
 | .lss => k=k'∧K (.bool (decide (a < b)))
 | .leq => k=k'∧K (.bool (decide (a≤b)))
 | .gtr => k=k'∧K (.bool (decide (a > b)))
 | .geq => k=k'∧K (.bool (decide (a≥b)))
def c7y (op:BinOp) (a b:List UInt8) (K:V→Prop):Prop :=
 match op with
 | .add => a.length+b.length≤9223372036854775807∧K (.str (a++b))
 | .eql => K (.bool (a == b))
 | .neq => K (.bool !(a == b))
 | .lss => K (.bool (Op.bytesLess a b))
 | .leq => K (.bool (Op.bytesLess a b || a == b))
 | .gtr => K (.bool !(Op.bytesLess a b || a == b))
 | .geq => K (.bool !(Op.bytesLess a b))
 | _ => False
def c6l (op:BinOp) (x y:V) (K:V→Prop):Prop :=
 match x,y with
 | .int k a,.int k' b => d3y op k a k' b K
 | .str a,.str b => c7y op a b K
 | _,_ => False
def eqF:List Nat→List V→List V→Option Bool
 | [],[],[] => some true
 | 0::ks,.int k a::l,.int k' b::l' => (match eqF ks l l' with | some r => if k=k' then some (decide (a=b) && r) else none | none => none)
 | 1::ks,.str a::l,.str b::l' => (match eqF ks l l' with | some r => some (decide (a=b) && r) | none => none)
 | 2::ks,.bool a::l,.bool b::l' => (match eqF ks l l' with | some r => some ((a == b) && r) | none => none)
 | _,_,_ => none
def isNil:NK→V→Option Bool
 | .p,.nilp => some true
 | .p,.ptr _ _ _ => some false
 | .p,.fptr _ _ => some false
 | .f,.nilf => some true
 | .f,.fn _ _ _ => some false
 | .i,.nili => some true
 | .i,.ifc _ _ => some false
 | .m,.nilm => some true
 | .m,.map _ => some false
 | .s,.sl _ _ _ => some false
 | .s,.fsl st _ l => (match st with
  | .nil => some true
  | .nn => some false
  | _ => (match l with | _::_ => some false | [] => none))
 | _,_ => none
def getC:Option Nat→Nat→V→Option V
 | none,off,.agg l => l[off]?
 | none,0,v => if v.cell then some v else none
 | some n,off,.agg l => if off+n≤l.length then some (.agg ((l.drop off).take n)) else none
 | _,_,_ => none
def setC:Option Nat→Nat→V→V→Option V
 | none,off,.agg l,x => if off < l.length∧x.cell=true then some (.agg (l.set off x)) else none
 | none,0,v,x => if v.cell=true∧x.cell=true then some x else none
 | some n,off,.agg l,.agg y => if y.length=n∧off+n≤l.length then some (.agg (l.take off++y++l.drop (off+n))) else none
 | _,_,_,_ => none
def V.parts:V→List V
 | .agg l => l
 | v => [v]
def splice (cs:List V) (off:Nat) (l:List V):List V:=cs.take off++l++cs.drop (off+l.length)
def a7u (L:Src→Option V):List V→List (Nat×Nat×Src)→(V→Prop)→Prop
 | z,[],K => K (.agg z)
 | z,(off,sz,s)::ps,K => wv (L s) fun v => v.size=sz∧v.parts.all V.cell=true∧off+sz≤z.length∧a7u L (splice z off v.parts) ps K
def slSt (st:St) (len hi:Nat) (mx:Option Nat):St :=
 match st with
 | .nil => .nil
 | .full => (match mx with | some m => if m=hi then .full else .loose | none => if hi=len then .full else .loose)
 | .loose => (match mx with | some m => if m=hi then .full else .loose | none => .loose)
 | .nn => .loose
def bnd (d:Nat) (o:Option V) (K:Nat→Prop):Prop :=
 match o with
 | none => K d
 | some (.int _ n) => 0≤n∧K n.toNat
 | _ => False
def a7s (sz:Nat) (x:V) (lo hi mx:Option V) (K:V→Prop):Prop :=
  match x with
  | .fsl st sz' l => sz'=sz∧bnd 0 lo fun a => bnd l.length hi fun b =>
      match mx with
      | none => a≤b∧b≤l.length∧K (.fsl (slSt st l.length b none) sz ((l.take b).drop a))
      | some (.int _ c) => 0≤c∧hi≠none∧a≤b∧b≤c.toNat∧c.toNat≤l.length∧K (.fsl (slSt st l.length b (some c.toNat)) sz ((l.take b).drop a))
      | _ => False
  | .sl id off len =>
      match mx with
      | none => bnd 0 lo fun a => bnd len hi fun b => a≤b∧b≤len∧K (.sl id (off+a) (b - a))
      | some v => (∃ k,v=.int k 0)∧bnd 0 lo fun a => bnd 1 hi fun b => a=0∧b=0∧K (.fsl .full sz [])
  | .slc id off len cap =>
      match mx with
      | none => bnd 0 lo fun a => bnd len hi fun b => a≤b∧b≤cap∧K (.slc id (off+a) (b - a) (cap - a))
      | some _ => False
  | _ => False
def c0f (x:V) (lo hi:Option V) (K:V→Prop):Prop :=
 match x with
 | .str s => bnd 0 lo fun a => bnd s.length hi fun b => a≤b∧b≤s.length∧K (.str ((s.take b).drop a))
 | _ => False
def unS:V→V
 | .slc id off len _ => .sl id off len
 | v => v
def mnxV (mx:Bool) (x:V):List V→(V→Prop)→Prop
 | [],K => K x
 | .int k b::ys,K => (match x with | .int k' a => k'=k∧mnxV mx (.int k (if mx then (if b > a then b else a) else (if b < a then b else a))) ys K | _ => False)
 | _::_,_ => False
def rd (m:Hm):V→Option (Nat×List V)
 | .fsl _ sz l => some (sz,l)
 | .sl id off len => match m id with | some (.arr sz l) => if off+len≤l.length then some (sz,(l.drop off).take len) else none | _ => none
 | _ => none
def rdA (m:Hm):V→Option (Nat×List V)
 | .str s => some (1,s.map fun b => .int .u8 b.toNat)
 | .fsl _ sz l => some (sz,l)
 | .sl id off len => match m id with | some (.arr sz l) => if off+len≤l.length then some (sz,(l.drop off).take len) else none | _ => none
 | _ => none
theorem d7x {m:Hm} {v:V} {p:Nat×List V} (h:rd m v=some p):rdA m v=some p:=by
 cases v<;>first | exact h | (simp only [rd] at h; cases h)
def fpS:V→List Nat
 | .sl id _ _ => [id]
 | _ => []
def a4c (P:Program) (f:Nat):Prop:=∃ fn,P.funcs[f]?=some fn∧fn.body.isSome=true∧(fn.name == "runtime.NumGoroutine")=false
def PCall (P:Program) (f:Nat) (vs:List V) (r:V):Prop :=
 a4c P f∧∀ (m:Hm) (g:G) (w:World) (xs:Array Value),RS g m w→RC g vs xs.toList →
  Calls P f xs w fun e w' => ∃ x F',e=.returned x∧R ⟨g.ι,F'⟩ r x∧RS ⟨g.ι,F'⟩ m w'∧Ext g m w ⟨g.ι,F'⟩ m w'
def e3n (P:Program) (f:Nat) (vs:List V) (H:Hp) (fp:List Nat) (r:V):Prop :=
 ∀ (m:Hm) (g:G) (w:World) (xs:Array Value),(∀ id∈fp,m id=H.m id)→RS g m w→RC g vs xs.toList→∃ x,(callFunc f xs).run P w=.ok (.value x) w∧R g r x
def Fw (ro:Option Nat):Fence:={ Fence.wide with round:=ro }
theorem a9k {ro:Option Nat} {n:Nat} {P:Program} {f:FuncId} {args:Array Value} {w:World} {R:Ending→World→Prop}:CallsIn (Fw ro) n P f args w R↔Calls P f args w R:=callsIn_wide
structure Bel (w w':World):Prop where
 size:w.heap.size≤w'.heap.size
 old:∀ b,b < w.heap.size→w'.heap[b]?=w.heap[b]?
 os:w'.os=w.os
 tape:w'.tape=w.tape
 output:w'.output=w.output
def SeqC (P:Program) (f:Nat) (cs:List V) (els:List (List V)):Prop :=
 a4c P f∧∀ (F:Nat→Option (List Value)) (w:World) (ys:Array Value),RS ⟨fun _ => none,F⟩ (fun _ => none) w→RC ⟨fun _ => none,F⟩ cs ys.toList →
  ∀ (l:Nat) (J:Nat→(Nat→Prop)→World→Prop) (Jx:World→Prop) (X:Nat→Prop),
   (∀ k X W,J k X W→∀ b,X b→b < W.heap.size)→(∀ k X W W',J k X W→Bel W W'→J k X W')→(∀ W W',Jx W→Bel W W'→Jx W') →
   (∀ k X W F' el xs,J k X W→els[k]?=some el→(∀ b c,F' b=some c→(F b=some c∨w.heap.size≤b)∧¬ X b)→RS ⟨fun _ => none,F'⟩ (fun _ => none) W→RC ⟨fun _ => none,F'⟩ el xs.toList →
    YieldAt (Fw none) 0 P l xs W fun e W' =>
     W.heap.size≤W'.heap.size∧(∀ b,b < W.heap.size→¬ X b→W'.heap[b]?=W.heap[b]?) ∧
      ((e=.returned (.bool true)∧∃ X',J (k+1) X' W'∧∀ b,X' b→X b∨W.heap.size≤b)∨(e=.returned (.bool false)∧Jx W'))) →
   (∀ b c,F b=some c→¬ X b)→J 0 X w →
   CallsIn (Fw none) 0 P f (#[.func (.yield l) #[] #[]]++ys) w fun e W' => (∃ v,e=.returned v)∧((∃ X',J els.length X' W')∨Jx W')
def c9u (g:G) (m:Hm) (n k:Nat):Prop:=∀ id,n≤id→id < n+k→g.ι id=none∧m id=none
def IExt (g g':G) (n k:Nat):Prop:=∀ id,¬ (n≤id∧id < n+k)→g'.ι id=g.ι id
def ACall (P:Program) (f:Nat) (vs:List V) (H:Hp) (fp:List Nat) (r:V) (ds:List (Nat×Option Ob)) (k:Nat):Prop :=
 a4c P f∧(∀ p∈ds,p.1∈fp∨(H.n≤p.1∧p.1 < H.n+k)) ∧
 ∀ (m:Hm) (g:G) (w:World) (xs:Array Value),(∀ id∈fp,m id=H.m id)→c9u g m H.n k→RS g m w→RC g vs xs.toList →
  Calls P f xs w fun e w' => ∃ x g',e=.returned x∧R g' r x∧RS g' (appd ds m) w'∧IExt g g' H.n k∧Ext g m w g' (appd ds m) w'
/-! Maps: whole numbers or texts as keys. -/
def keq1:V→V→Bool
 | .int _ a,.int _ b => a == b
 | .str a,.str b => a == b
 | .bool a,.bool b => a == b
 | _,_ => false
def keqL:List V→List V→Bool
 | [],[] => true
 | u::l,v::l' => keq1 u v && keqL l l'
 | _,_ => false
def keq:V→V→Bool
 | .int _ a,.int _ b => a == b
 | .str a,.str b => a == b
 | .agg l,.agg l' => keqL l l'
 | _,_ => false
def a2g (ks:List Nat):V→V→Bool
 | .int k _,.int k' _ => ks == [7] && k == k'
 | .str _,.str _ => ks == [8]
 | .agg l,.agg l' => ks != [7] && ks != [8] && (eqF ks l l').isSome
 | _,_ => false
def mget:List (V×V)→V→Option V
 | [],_ => none
 | (k',v')::r,k => if keq k k'=true then some v' else mget r k
def mset:List (V×V)→V→V→List (V×V)
 | [],k,v => [(k,v)]
 | (k',v')::r,k,v => if keq k k'=true then (k,v)::r else (k',v')::mset r k v
def mix:List (V×V)→V→Nat
 | [],_ => 0
 | (k',_)::r,k => if keq k k'=true then 0 else mix r k+1
def mput:List (V×V)→Nat→V→List (V×V)
 | [],_,_ => []
 | (k,_)::r,0,v => (k,v)::r
 | p::r,n+1,v => p::mput r n v
def mres (ok:Bool) (o:Option V) (z:V):V:=match ok with | true => .tup [o.getD z,.bool o.isSome] | false => o.getD z
def b1m (c:Nat) (bs:List Nat) (l:List (V×V)) (k v:V):Ob:=match mget l k with | some _ => .md c bs (mset l k v) | none => .md (c+1) (bs++[c]) (mset l k v)
def mdAt:List Nat→List (V×V)→Nat→Option (V×V)
 | b'::bs,p::l,b => if b'=b then some p else mdAt bs l b
 | _,_,_ => none
def entO (bs:List Nat) (l:List (V×V)) (seen:List Nat):Option (V×V):=match seen.getLast? with | some b => mdAt bs l b | none => none
def a3r (ks:List Nat) (k:V) (l:List (V×V)):Prop:=a2g ks k k=true∧∀ p∈l,a2g ks k p.1=true
def evI (P:Program) (L:Src→Option V) (H:Hp) (K:KI):Ins→Prop
  | .mov x => wv (L x) fun v => K v [] [] 0
  | .same x => wv (L x) fun v => match v with
    | .str s => K (.str s) [] [] 0
    | _ => False
  | .pick c x y => wv (L c) fun c => match c with
    | .bool true => wv (L x) fun v => K v [] [] 0
    | .bool false => wv (L y) fun v => K v [] [] 0
    | _ => False
  | .bin op x y => wv (L x) fun a => wv (L y) fun b => c6l op a b fun v => K v [] [] 0
  | .eqb neg x y => wv (L x) fun a => wv (L y) fun b => match a,b with
    | .bool a,.bool b => K (.bool (if neg then !(a == b) else a == b)) [] [] 0
    | _,_ => False
  | .eqn neg kd x => wv (L x) fun a => match isNil kd a with
    | some b => K (.bool (if neg then !b else b)) [] [] 0
    | none => False
  | .eqs neg ks x y => wv (L x) fun a => wv (L y) fun b => match a,b with
    | .agg l,.agg l' => (match eqF ks l l' with | some r => K (.bool (if neg then !r else r)) [] [] 0 | none => False)
    | _,_ => False
  | .un op x => wv (L x) fun a => match op,a with
    | .not,.bool b => K (.bool !b) [] [] 0
    | .neg,.int k n => K (.int k (k.wrap (0 - n))) [] [] 0
    | .xor,.int k n => K (.int k (a4s .xor k (if k.signed then -1 else k.max) n)) [] [] 0
    | _,_ => False
  | .cvt k x => wv (L x) fun a => match a with
    | .int _ n => K (.int k (k.wrap n)) [] [] 0
    | _ => False
  | .bts x => wv (L x) fun a => match rd H.m a with
    | some (sz,l) => sz=1∧∃ s:List UInt8,l=s.map (fun b => .int .u8 b.toNat)∧K (.str s) (fpS a) [] 0
    | none => False
  | .stb x => wv (L x) fun a => match a with
    | .str s => K (.fsl .loose 1 (s.map fun b => .int .u8 b.toNat)) [] [] 0
    | _ => False
  | .alloc sz z => z.size=sz∧z.isEl=true∧K (.ptr H.n 0 0) [] [(H.n,some (.arr sz [z]))] 1
  | .box sz x => wv (L x) fun v => v.size=sz∧v.isEl=true∧K (.ptr H.n 0 0) [] [(H.n,some (.arr sz [v]))] 1
  | .build z ps => a7u L z ps fun v => K v [] [] 0
  | .bsl sz ps => wvs L ps fun vs => (∀ v∈vs,v.size=sz∧v.isEl=true)∧K (.fsl .full sz vs) [] [] 0
  | .load k a => wv (L a) fun a => match a with
    | .fptr e off => wv (getC k off e) fun v => K v [] [] 0
    | .ptr id i off => (match H.m id with
      | some (.arr _ l) => wv (l[i]?) fun e => wv (getC k off e) fun v => K v [id] [] 0
      | _ => False)
    | _ => False
  | .store k a x => wv (L a) fun a => wv (L x) fun x => match a with
    | .ptr id i off => (match H.m id with
      | some (.arr sz l) => wv (l[i]?) fun e => wv (setC k off e x) fun e' => K (.tup []) [id] [(id,some (.arr sz (l.set i e')))] 0
      | _ => False)
    | _ => False
  | .fad off x => wv (L x) fun a => match a with
    | .fptr e o => K (.fptr e (o+off)) [] [] 0
    | .ptr id i o => K (.ptr id i (o+off)) [] [] 0
    | _ => False
  | .fld off k x => wv (L x) fun a => match a with
    | .agg l => wv (getC k off (.agg l)) fun v => K v [] [] 0
    | _ => False
  | .iad sz x i => wv (L x) fun a => wv (L i) fun i => match i with
    | .int _ n => (match a with
      | .fsl _ sz' l => sz'=sz∧0≤n∧∃ e,l[n.toNat]?=some e∧K (.fptr e 0) [] [] 0
      | .sl id off len => 0≤n∧n < len∧(match H.m id with | some (.arr sz' _) => sz'=sz∧K (.ptr id (off+n.toNat) 0) [id] [] 0 | _ => False)
      | _ => False)
    | _ => False
  | .ixs x i => wv (L x) fun a => wv (L i) fun i => match a,i with
    | .str s,.int _ n => 0≤n∧∃ b,s[n.toNat]?=some b∧K (.int .u8 b.toNat) [] [] 0
    | _,_ => False
  | .slc sz x lo hi mx => wv (L x) fun a => wo L lo fun lo => wo L hi fun hi => wo L mx fun mx =>
      match a with
      | .sl id off len => (match H.m id with | some (.arr sz' _) => sz'=sz∧a7s sz (.sl id off len) lo hi mx fun v => K v [id] [] 0 | _ => False)
      | .slc id off len cap => (match H.m id with | some (.arr sz' _) => sz'=sz∧a7s sz (.slc id off len cap) lo hi mx fun v => K v [id] [] 0 | _ => False)
      | a => a7s sz a lo hi mx fun v => K v [] [] 0
  | .sls x lo hi => wv (L x) fun a => wo L lo fun lo => wo L hi fun hi => c0f a lo hi fun v => K v [] [] 0
  | .ext x i => wv (L x) fun a => match a with
    | .tup l => wv (l[i]?) fun v => K v [] [] 0
    | _ => False
  | .mkf f fs cs => wvs L fs fun fs => wvs L cs fun cs => K (.fn f fs cs) [] [] 0
  | .mks sz bt z l => wv (L l) fun l => match l with
    | .int .i64 n => 0≤n∧n≤9223372036854775807∧bt*n≤281474976710656∧z.size=sz∧z.isEl=true∧K (.sl H.n 0 n.toNat) [] [(H.n,some (.arr sz (List.replicate n.toNat z)))] 1
    | _ => False
  | .nck x => wv (L x) fun a => match a with
    | .ptr .. | .fptr .. => K a [] [] 0
    | _ => False
  | .len str x => wv (L x) fun a => match str,a with
    | true,.str s => K (.int .i64 s.length) [] [] 0
    | false,.fsl _ _ l => K (.int .i64 l.length) [] [] 0
    | false,.sl _ _ len => K (.int .i64 len) [] [] 0
    | false,.slc _ _ len _ => K (.int .i64 len) [] [] 0
    | _,_ => False
  | .mnx mx x ys => wv (L x) fun x => wvs L ys fun ys => (∃ k n,x=.int k n)∧mnxV mx x ys fun v => K v [] [] 0
  | .app sz bt x y => wv (L x) fun x => wv (L y) fun y => match rdA H.m y with
    | none => False
    | some (sz',ys) => sz'=sz∧(match x with
      | .fsl st sz'' l => sz''=sz∧(match ys with
        | [] => K x (fpS y) [] 0
        | ys => (st≠.loose∧st≠.nn)∧(l.length+ys.length)*bt≤140737488355328∧K (.sl H.n 0 (l.length+ys.length)) (fpS y) [(H.n,some (.arr sz (l++ys)))] 1)
      | .sl id off len => (match H.m id with
        | some (.arr sz'' l) => sz''=sz∧off=0∧len≤l.length∧(len+ys.length)*bt≤140737488355328∧K (.sl H.n 0 (len+ys.length)) (id::fpS y) [(id,none),(H.n,some (.arr sz (l.take len++ys)))] 1
        | _ => False)
      | .slc id off len cap => (match H.m id with
        | some (.arr sz'' l) => sz''=sz∧off=0∧0 < ys.length ∧
            (if len+ys.length≤cap then len+ys.length≤l.length∧K (.slc id 0 (len+ys.length) cap) (id::fpS y) [(id,some (.arr sz (l.take len++ys++l.drop (len+ys.length))))] 0
             else len≤l.length∧(len+ys.length)*bt≤140737488355328∧K (.sl H.n 0 (len+ys.length)) (id::fpS y) [(H.n,some (.arr sz (l.take len++ys)))] 1)
        | _ => False)
      | _ => False)
  | .cpy sz x y => wv (L x) fun x => wv (L y) fun y => match rd H.m (unS y) with
    | none => False
    | some (sz',ys) => sz'=sz∧(match unS x with
      | .sl id off len => (match H.m id with
        | some (.arr sz'' l) => sz''=sz∧off+len≤l.length ∧
            K (.int .i64 ((min ys.length len:Nat):Int)) (id::fpS (unS y)) [(id,some (.arr sz (l.take off++ys.take len++l.drop (off+min ys.length len))))] 0
        | _ => False)
      | .fsl _ _ [] => K (.int .i64 0) (fpS (unS y)) [] 0
      | _ => False)
  | .call pure f args => wv (L f) fun f => wvs L args fun vs => match f with
    | .fn f fs cs => if pure=true then ∃ r,PCall P f (fs++vs++cs) r∧K r [] [] 0
        else ∃ fp r ds k,ACall P f (fs++vs++cs) H fp r ds k∧K r fp ds k
    | _ => False
  | .mki t x => wv (L x) fun v => K (.ifc t v) [] [] 0
  | .mkm => K (.map H.n) [] [(H.n,some (.mp []))] 1
  | .mkd => K (.map H.n) [] [(H.n,some (.md 0 [] []))] 1
  | .mlk ok ks z x k => wv (L x) fun x => wv (L k) fun k => match x with
    | .map id => (match H.m id with | some (.mp l) => a3r ks k l∧K (mres ok (mget l k) z) [id] [] 0 | _ => False)
    | _ => False
  | .mup ks x k v => wv (L x) fun x => wv (L k) fun k => wv (L v) fun v => match x with
    | .map id => (match H.m id with | some (.mp l) => a3r ks k l∧K (.tup []) [id] [(id,some (.mp (mset l k v)))] 0 | some (.md c bs l) => a3r ks k l∧K (.tup []) [id] [(id,some (b1m c bs l k v))] 0 | _ => False)
    | _ => False
  | .men ks z x k => wv (L x) fun x => wv (L k) fun k => match x with
    | .map id => (match H.m id with | some (.mp l) => a3r ks k l∧K (.tup [(mget l k).getD z,.int .i64 (mix l k)]) [id] [(id,some (.mp (mset l k ((mget l k).getD z))))] 0 | _ => False)
    | _ => False
  | .mes x s v => wv (L x) fun x => wv (L s) fun s => wv (L v) fun v => match x,s with
    | .map id,.int .i64 i => (match H.m id with | some (.mp l) => (0≤i∧i.toNat < l.length)∧K (.tup []) [id] [(id,some (.mp (mput l i.toNat v)))] 0 | _ => False)
    | _,_ => False
  | .mln x => wv (L x) fun x => match x with
    | .map id => (match H.m id with | some (.mp l) => K (.int .i64 l.length) [id] [] 0 | _ => False)
    | _ => False
  | .sto x => wv (L x) fun a => match a with
    | .str s => K (.sl H.n 0 s.length) [] [(H.n,some (.arr 1 (s.map fun b => .int .u8 b.toNat)))] 1
    | _ => False
  | .cap x => wv (L x) fun a => match a with
    | .slc _ _ _ c => K (.int .i64 c) [] [] 0
    | _ => False
  | .apz sz bt z x n => wv (L x) fun x => wv (L n) fun n => match x,n with
    | .slc id off len cap,.int .i64 k => (match H.m id with
      | some (.arr sz' l) => sz'=sz∧off=0∧len≤l.length∧0≤k∧(cap:Int) < len+k∧(len+k.toNat)*bt≤140737488355328∧z.size=sz∧z.isEl=true ∧
          K (.sl H.n 0 (len+k.toNat)) [id] [(H.n,some (.arr sz (l.take len++List.replicate k.toNat z)))] 1
      | _ => False)
    | _,_ => False
  | .xcl f args => wvs L args fun vs => ∃ fp r,e3n P f vs H fp r∧K r fp [] 0
  | .mdl ks x k => wv (L x) fun x => wv (L k) fun k => match x with
    | .map id => (match H.m id with | some (.md c bs l) => a3r ks k l∧K (.tup []) [id] [(id,some (.md c (bs.eraseIdx (mix l k)) (l.eraseIdx (mix l k))))] 0 | _ => False)
    | _ => False
  | .ent x => wv (L x) fun x => match x with
    | .ptr id 0 0 => (match H.m id with
      | some (.it mid c seen) => (match H.m mid with
        | some (.md c' bs l) => (match entO bs l seen with | some p => c'=c∧K (.tup [p.1,p.2]) [id,mid] [] 0 | none => False)
        | _ => False)
      | _ => False)
    | _ => False
  | .rng x => wv (L x) fun x => match x with
    | .map id => (match H.m id with | some (.md c _ _) => K (.ptr H.n 0 0) [id] [(H.n,some (.it id c []))] 1 | _ => False)
    | _ => False
def Ins.kind:Ins→Nat
 | .ent _ | .bts _ | .load _ _ | .iad _ _ _ | .slc _ _ _ _ _ | .mlk _ _ _ _ _ | .mln _ | .xcl _ _ => 1
 | .apz _ _ _ _ _ => 2
 | .mkd | .mdl _ _ _ | .rng _ | .sto _ | .mkm | .mup _ _ _ _ | .men _ _ _ _ | .mes _ _ _ | .alloc _ _ | .box _ _ | .store _ _ _ | .mks _ _ _ _ | .app _ _ _ _ | .cpy _ _ _ | .call false _ _ => 2
 | _ => 0
def disj (a b:List Nat):Bool:=a.all fun x => !b.contains x
abbrev Lg:=List (List Nat×List Nat)
def nthL:Nat→Lg→List Nat×List Nat
 | _,[] => ([],[])
 | 0,v::_ => v
 | n+1,_::r => nthL n r
def a1f (u:List Nat) (lg:Lg) (fp:List Nat) (ds:List Nat):Prop :=
 ∀ j∈u,disj (nthL j lg).2 (fp++ds)=true∧disj ds ((nthL j lg).1++(nthL j lg).2)=true
def evR (P:Program) (σ:Sg):List RI→List V→Lg→Hp→(List V→Hp→Prop)→Prop
 | [],env,_,H,K => K env H
 | i::is,env,lg,H,K =>
  let run:Prop:=evI P (look σ env) H (fun v fp ds k => a1f i.u lg fp (ds.map (·.1))∧evR P σ is (v::env) ((fp,ds.map (·.1))::lg) ⟨H.n+k,appd ds H.m⟩ K) i.i
  let pass:Prop:=evR P σ is (.tup []::env) (([],[])::lg) H K
  match i.g with
  | none => run
  | some (d,b) => match nth d env with
   | some (.bool c) => if c=b then run else pass
   | some .jk => False
   | _ => pass
inductive AEx where
 | norm | exit (id:Nat) | ret
 deriving DecidableEq
abbrev QA:=AEx→Sg→Hp→Prop
def b3r (L:Src→Option V):List (Nat×Src)→(Sg→Prop)→Prop
 | [],K => K []
 | (t,s)::os,K => wv (L s) fun v => b3r L os fun σ => K ((t,v)::σ)
def mapO (f:V→Option V):List V→Option (List V)
 | [] => some []
 | v::vs => match f v with | some u => (match mapO f vs with | some us => some (u::us) | none => none) | none => none
def snap:Nat→Hm→V→Option V
 | 0,_,v => if v.closed=true then some v else none
 | n+1,m,v => if v.closed=true then some v else match v with
  | .sl id off len => (match m id with
   | some (.arr sz l) => if off+len≤l.length then (match mapO (snap n m) ((l.drop off).take len) with | some l' => some (.fsl .loose sz l') | none => none) else none
   | _ => none)
  | .agg l => (match mapO (snap n m) l with | some l' => some (.agg l') | none => none)
  | .tup l => (match mapO (snap n m) l with | some l' => some (.tup l') | none => none)
  | .fsl st sz l => (match mapO (snap n m) l with | some l' => some (.fsl st sz l') | none => none)
  | _ => none
def d7n (f:V→Option V) (m:Hm):V→Option V
 | .ptr id i off => (match m id with | some (.arr _ l) => (match l[i]? with | some e => (match f e with | some u => some (.fptr u off) | none => none) | none => none) | _ => none)
 | v => f v
def c3o (m:Hm) (v:V):Option V:=match snap 4 m v with
 | some u => some u
 | none => (match v with
  | .fn f fs cs => (match mapO (snap 4 m) fs with | some fs' => (match mapO (d7n (snap 4 m) m) cs with | some cs' => some (.fn f fs' cs') | none => none) | none => none)
  | _ => none)
def only (fz:List Nat) (m:Hm):Hm:=fun id => if id∈fz then m id else none
def a1d (fz:List Nat) (m:Hm):Hm:=fun id => if id∈fz then none else m id
def frz1 (fz:List Nat) (m:Hm) (v:V):V:=match snap 3 (only fz m) v with | some u => u | none => v
def frzV (fz:List Nat) (m:Hm) (v:V):V:=match snap 4 (only fz m) v with
 | some u => u
 | none => (match v with | .agg l => .agg (l.map (frz1 fz m)) | v => v)
def frzO (fz:List Nat) (m:Hm):Ob→Ob
 | .arr sz l => .arr sz (l.map (frzV fz m))
 | o => o
def frzH (fz:List Nat) (m:Hm):Hm:=fun id => if id∈fz then none else (match m id with | some o => some (frzO fz m o) | none => none)
def frzS (fz:List Nat) (m:Hm):Sg→Sg
 | [] => []
 | (t,v)::r => (t,frzV fz m v)::frzS fz m r
mutual
def lo:V→V
 | .fsl _ sz l => .fsl .loose sz (loL l)
 | .agg l => .agg (loL l)
 | .tup l => .tup (loL l)
 | .bool b => .bool b
 | .int k n => .int k n
 | .str s => .str s
 | .nilp => .nilp
 | .ptr a b c => .ptr a b c
 | .fptr a b => .fptr a b
 | .sl a b c => .sl a b c
 | .fn a b c => .fn a b c
 | .nilf => .nilf
 | .ifc a b => .ifc a b
 | .nili => .nili
 | .map a => .map a
 | .nilm => .nilm
 | .yl l => .yl l
 | .jk => .jk
 | .slc a b c d => .slc a b c d
def loL:List V→List V
 | [] => []
 | v::vs => lo v::loL vs
end
def loO:Ob→Ob
 | .arr sz l => .arr sz (loL l)
 | o => o
def loH (ids:List Nat) (m:Hm):Hm:=fun id => if id∈ids then (match m id with | some o => some (loO o) | none => none) else m id
def C.flat:C→Bool
 | .seq a b | .cut a b | .cond _ a b => a.flat && b.flat
 | .block _ a | .loop a | .frz a => a.flat
 | .rf .. => false
 | _ => true
def b6s:List Nat→List V→Sg→Sg
 | p::ps,v::vs,σ => b6s ps vs ((p,v)::σ)
 | _,_,σ => σ
def ev (P:Program):C→Sg→Hp→QA→Prop
 | .reg _ is outs,σ,H,Q => evR P σ is [] [] H fun env H' => b3r (look σ env) outs fun σ' => Q .norm σ' H'
 | .seq a b,σ,H,Q => ev P a σ H fun e σ' H' => match e with | .norm => ev P b σ' H' Q | e => Q e σ' H'
 | .cut a b,σ,H,Q => ∃ M:Sg→Hp→Prop,(ev P a σ H fun e σ' H' => match e with | .norm => M σ' H' | e => Q e σ' H')∧∀ σ' H',M σ' H'→ev P b σ' H' Q
 | .cond s a b,σ,H,Q => match look σ [] s with
  | some (.bool t) => (t=true→ev P a σ H Q)∧(t=false→ev P b σ H Q)
  | _ => False
 | .block id a,σ,H,Q => ev P a σ H fun e σ' H' => if e=.exit id then Q .norm σ' H' else Q e σ' H'
 | .loop a,σ,H,Q => ∃ (I:Sg→Hp→Prop) (μ:Sg→Hp→Nat),I σ H∧∀ σ H,I σ H→ev P a σ H fun e σ' H' => match e with
  | .norm => I σ' H'∧μ σ' H' < μ σ H
  | e => Q e σ' H'
 | .exit id,σ,H,Q => Q (.exit id) σ H
 | .ret,σ,H,Q => Q .ret σ H
 | .skip,σ,H,Q => Q .norm σ H
 | .frz a,σ,H,Q => ev P a σ H Q∨(∃ fz:List Nat,ev P a (frzS fz H.m σ) ⟨H.n,a1d fz H.m⟩ Q)∨∃ (fz ids:List Nat),ev P a (frzS fz H.m σ) ⟨H.n,loH ids (frzH fz H.m)⟩ Q
 | .rf s ps a b,σ,H,Q => ∃ (fn:Nat) (cs:List V) (els:List (List V)),look σ [] s=some (.fn fn [] cs)∧a0b cs=true∧SeqC P fn cs els∧(∀ el∈els,el.length=ps.length)∧∃ I:Nat→Hp→Prop,I 0 H ∧
   (∀ k el H',I k H'→els[k]?=some el→ev P a (b6s ps el σ) H' fun e σ1 H1 => match e with
    | .norm => ev P b σ1 H1 fun e _ H2 => match e with
     | .norm => I (k+1) H2
     | e => Q e σ H2
    | _ => False) ∧
   ∀ H',I els.length H'→Q .norm σ H'
 | .nx x is outs,σ,H,Q => ∃ (id mid c:Nat) (seen bs:List Nat) (l:List (V×V)),look σ [] x=some (.ptr id 0 0)∧H.m id=some (.it mid c seen)∧H.m mid=some (.md c bs l)∧(∀ b∈bs,b < c)∧bs.Nodup ∧
   ((∀ b∈bs,b∈seen)→evR P σ is [.tup [.bool false]] [([id,mid],[])] H fun env H' => b3r (look σ env) outs fun σ' => Q .norm σ' H') ∧
   ∀ (i b:Nat) (p:V×V),bs[i]?=some b→l[i]?=some p→b∉seen →
    evR P σ is [.tup [.bool true,p.1,p.2]] [([id,mid],[id])] ⟨H.n,upd H.m id (some (.it mid c (seen++[b])))⟩ fun env H' => b3r (look σ env) outs fun σ' => Q .norm σ' H'
section
def fnd (t:Nat):List (Option Nat)→Option Nat
 | [] => none
 | some t'::r => if t=t' then some 0 else (fnd t r).map (·+1)
 | none::r => (fnd t r).map (·+1)
mutual
def kon:V→Value→Bool
 | .bool c,x => (match x with | .bool b => b == c | _ => false)
 | .int k n,x => (match x with | .int k' n' => k' == k && n' == n | _ => false)
 | .str l,x => (match x with | .string s => s.data.toList == l | _ => false)
 | .nilp,x => (match x with | .pointer none => true | _ => false)
 | .nilf,x => (match x with | .nilFunc => true | _ => false)
 | .nili,x => (match x with | .nilIface => true | _ => false)
 | .nilm,x => (match x with | .map none => true | _ => false)
 | .fsl .nil _ [],x => (match x with | .slice none 0 0 => true | _ => false)
 | .agg l,x => (match x with | .agg xs => konL l xs.toList && l.all V.cell | _ => false)
 | .tup [],x => (match x with | .tuple xs => xs.size == 0 | _ => false)
 | _,_ => false
def konL:List V→List Value→Bool
 | [],xs => (match xs with | [] => true | _ => false)
 | v::vs,xs => (match xs with | x::xs => kon v x && konL vs xs | _ => false)
end
mutual
theorem b3p (g:G):∀ (v:V) (x:Value),kon v x=true→R g v x
 | .bool c,x,h => by cases x<;>simp [kon] at h; subst h; simp [R]
 | .int k n,x,h => by cases x<;>simp [kon] at h; obtain ⟨rfl,rfl⟩:=h; simp [R]
 | .str l,x,h => by
  cases x<;>simp [kon] at h;subst h; simp [R]
 | .nilp,x,h => by cases x<;>simp [kon] at h; rename_i a; cases a<;>simp [R] at h ⊢
 | .nilf,x,h => by cases x<;>simp [kon] at h; simp [R]
 | .nili,x,h => by cases x<;>simp [kon] at h; simp [R]
 | .nilm,x,h => by cases x<;>simp [kon] at h; rename_i a; cases a<;>simp [R] at h ⊢
 | .fsl .nil sz [],x,h => by
  cases x<;>try (simp [kon] at h)
  rename_i a len cap;cases a<;>cases len<;>cases cap<;>simp at h;simp only [R,RL];exact ⟨none,0,[],by simp,rfl,by simp,by simp,by simp,by simp,by simp,by simp⟩
 | .agg l,x,h => by
  cases x<;>simp [kon] at h;simp only [R];exact ⟨_,rfl,d4j g _ _ h.1,h.2⟩
 | .tup [],x,h => by
  cases x<;>try (simp [kon] at h)
  simp [R,RC,h]
 | .ptr _ _ _,x,h | .fptr _ _,x,h | .sl _ _ _,x,h | .fn _ _ _,x,h | .ifc _ _,x,h | .map _,x,h | .yl _,x,h | .jk,x,h | .slc _ _ _ _,x,h | .tup (_::_),x,h | .fsl .full _ _,x,h | .fsl .loose _ _,x,h | .fsl .nn _ _,x,h | .fsl .nil _ (_::_),x,h => by simp [kon] at h
theorem d4j (g:G):∀ (l:List V) (xs:List Value),konL l xs=true→RC g l xs
 | [],[],_ => by simp [RC]
 | v::vs,x::xs,h => by
  simp only [konL,Bool.and_eq_true] at h;simp only [RC]; exact ⟨x,xs,rfl,b3p g v x h.1,d4j g vs xs h.2⟩
 | [],_::_,h => by simp [konL] at h
 | _::_,[],h => by simp [konL] at h
end
def cs (dl:List (Option Nat)):Operand→Src→Bool
 | .tmp t,.r d => fnd t dl == some d
 | .tmp t,.v t' => t == t' && (fnd t dl).isNone
 | .const c,.k v => kon v c
 | .func f,.k (.fn f' [] []) => f == f'
 | _,_ => false
def csL (dl:List (Option Nat)):List Operand→List Src→Bool
 | [],[] => true
 | x::xs,s::ss => cs dl x s && csL dl xs ss
 | _,_ => false
def csO (dl:List (Option Nat)):Option Operand→Option Src→Bool
 | none,none => true
 | some x,some s => cs dl x s
 | _,_ => false
def Rel (dl:List (Option Nat)) (L:Src→Option V) (xs:List Operand) (g:G) (a:Act):Prop :=
 ∀ x∈xs,∀ s v,cs dl x s=true→L s=some v→R g v (a.eval x)
def a0m (P:Program) (dl:List (Option Nat)) (L:Src→Option V) (H:Hp) (o:Oper) (i:Ins) (K:KI):Prop :=
 ∃ v fp ds k,K v fp ds k∧(∀ p∈ds,p.1∈fp∨(H.n≤p.1∧p.1 < H.n+k))∧(i.kind=0→fp=[]∧ds=[]∧k=0)∧(i.kind≤1→ds=[]∧k=0) ∧
  ∀ m g w a,(∀ id∈fp,m id=H.m id)→c9u g m H.n k→RS g m w→Rel dl L o.op.operands.toList g a →
   ∀ (ro:Option Nat) (Kc:Act→World→Prop) (Q:Exit→Act→World→Prop),
    (∀ g' x w',RS g' (appd ds m) w'→IExt g g' H.n k→Ext g m w g' (appd ds m) w'→R g' v x→Kc (a.put o.dst x) w')→o.wpIn (Fw ro) 0 P a w Kc Q
theorem b0q {P:Program} {o:Oper} {a:Act} {w:World} (ro:Option Nat) {r:Result Next} (h:(execOp a.eval o).run P w=r) (hd:∀ d w',r≠.ok (.defer d) w') (hh:∀ x w',r≠.halt x w') :
  (o.semAt ro a.eval).run P w=r:=by
 by_cases hc:∃ c,o.op=.defer c
 ·obtain ⟨c,hc⟩:=hc;exfalso;simp only [execOp,hc,Sem.run_bind] at h;cases hr:(resolve a.eval c o.type).run P w with
  | ok d w' => rw [hr] at h; simp at h; exact hd _ _ h.symm
  | halt x w' => rw [hr] at h; simp at h; exact hh _ _ h.symm
 ·rw [Oper.semAt_eq _ _ _ fun c e => hc ⟨c,e⟩]; exact h
theorem a0y {P:Program} {o:Oper} {a:Act} {w w':World} {x:Value} {ro:Option Nat} {Kc:Act→World→Prop} {Q:Exit→Act→World→Prop}
  (h:(execOp a.eval o).run P w=.ok (.value x) w') (k:Kc (a.put o.dst x) w'):o.wpIn (Fw ro) 0 P a w Kc Q :=
 ⟨fun _ _ => trivial,by rw [b0q _ h (by simp) (by simp)]; exact k⟩
theorem a7a {P:Program} {o:Oper} {a:Act} {w w':World} {ro:Option Nat} {Kc:Act→World→Prop} {Q:Exit→Act→World→Prop}
  (h:(execOp a.eval o).run P w=.ok .skip w') (k:Kc (a.put o.dst undef) w'):o.wpIn (Fw ro) 0 P a w Kc Q :=
 ⟨fun _ _ => trivial,by rw [b0q _ h (by simp) (by simp)]; exact k⟩
theorem b2v {P:Program} {o:Oper} {a:Act} {w w':World} {f:FuncId} {xs:Array Value} {ro:Option Nat} {Kc:Act→World→Prop} {Q:Exit→Act→World→Prop}
  (h:(execOp a.eval o).run P w=.ok (.enter f xs) w') (k:Calls P f xs w' fun e w'' => ∃ x,e=.returned x∧Kc (a.put o.dst x) w''):o.wpIn (Fw ro) 0 P a w Kc Q:=by
 refine ⟨fun _ _ => trivial, ?_⟩;rw [b0q _ h (by simp) (by simp)];refine ⟨fun h => by simp [Fw,Fence.wide] at h,(a9k.2 k).mono ?_⟩;rintro e w'' ⟨x,rfl,hx⟩;exact hx
theorem a0q {P:Program} {dl:List (Option Nat)} {L:Src→Option V} {H:Hp} {o:Oper} {i:Ins} {K:KI} {v:V} (hK:K v [] [] 0)
  (h:∀ g a w,Rel dl L o.op.operands.toList g a→∃ x,(execOp a.eval o).run P w=.ok (.value x) w∧R g v x):a0m P dl L H o i K:=by
 refine ⟨v,[],[],0,hK,by simp,fun _ => ⟨rfl,rfl,rfl⟩,fun _ => ⟨rfl,rfl⟩,fun m g w a _ _ hs hr ro Kc Q hk => ?_⟩;obtain ⟨x,h1,h2⟩:=h g a w hr;exact a0y h1 (hk g x w hs (fun _ _ => rfl) (Ext.refl _ _ _) h2)
theorem a0f {o:Option V} {K:V→Prop} (h:wv o K):∃ v,o=some v∧K v:=by
 cases o with
 | none => exact h.elim
 | some v => exact ⟨v,rfl,h⟩
theorem a4o {L:Src→Option V}:∀ {ss:List Src} {K:List V→Prop},wvs L ss K→∃ vs:List V,K vs∧vs.length=ss.length∧∀ (i:Nat) s,ss[i]?=some s→∃ v,vs[i]?=some v∧L s=some v
 | [],K,h => ⟨[],h,rfl,by simp⟩
 | s::ss,K,h => by
  obtain ⟨v,e,h⟩:=a0f h;obtain ⟨vs,h,l,k⟩:=a4o h;refine ⟨v::vs,h,by simp [l],fun i s' hi => ?_⟩;cases i with
  | zero => simp at hi; subst hi; exact ⟨v,rfl,e⟩
  | succ i => simp at hi; simpa using k i s' hi
theorem b2u {dl:List (Option Nat)} {L:Src→Option V} {g:G} {a:Act} {all:List Operand} (hr:Rel dl L all g a) :
  ∀ {xs:List Operand} {ss:List Src} {vs:List V},csL dl xs ss=true→(∀ x∈xs,x∈all)→vs.length=ss.length→(∀ (i:Nat) s,ss[i]?=some s→∃ v,vs[i]?=some v∧L s=some v)→RC g vs (xs.map a.eval)
 | [],[],vs,_,_,l,_ => by cases vs<;>simp at l; simp [RC]
 | x::xs,s::ss,vs,h,hm,l,k => by
  simp only [csL,Bool.and_eq_true] at h;cases vs with
  | nil => simp at l
  | cons v vs =>
   obtain ⟨u,h1,h2⟩:=k 0 s rfl;simp at h1; subst h1;simp only [List.map_cons,RC];refine ⟨_,_,rfl,hr x (hm x (by simp)) s v h.1 h2,b2u hr h.2 (fun y hy => hm y (by simp [hy])) (by simpa using l) fun i s' hi => ?_⟩;simpa using k (i+1) s' (by simpa using hi)
 | [],_::_,_,h,_,_,_ => by simp [csL] at h
 | _::_,[],_,h,_,_,_ => by simp [csL] at h
section
variable {P:Program} {dl:List (Option Nat)} {L:Src→Option V} {H:Hp} {K:KI} {dst:Option Tmp} {ty:TypeId} {pos:String} {after:Array Edge} {gu:Option (Nat×Bool)}
theorem e8a {x:Operand} {s:Src} (hc:cs dl x s=true) (h:evI P L H K (.mov s)):a0m P dl L H ⟨dst,.move x,ty,pos,after,gu⟩ (.mov s) K:=by
 simp only [evI] at h; obtain ⟨v,e,h⟩:=a0f h;exact a0q h fun g a w hr => ⟨a.eval x,rfl,hr x (by simp [Op.operands]) s v hc e⟩
theorem d7l {x:Operand} {s:Src} (hc:cs dl x s=true) (h:evI P L H K (.mov s)):a0m P dl L H ⟨dst,.assign x,ty,pos,after,gu⟩ (.mov s) K:=by
 simp only [evI] at h; obtain ⟨v,e,h⟩:=a0f h;exact a0q h fun g a w hr => ⟨a.eval x,rfl,hr x (by simp [Op.operands]) s v hc e⟩
theorem e5g {c x y:Operand} {c' x' y':Src} (h1:cs dl c c'=true) (h2:cs dl x x'=true) (h3:cs dl y y'=true) (h:evI P L H K (.pick c' x' y')) :
  a0m P dl L H ⟨dst,.pick c x y,ty,pos,after,gu⟩ (.pick c' x' y') K:=by
 simp only [evI] at h; obtain ⟨u,e,h⟩:=a0f h;cases u<;>try exact h.elim
 rename_i b;cases b
 ·obtain ⟨v,e2,h⟩:=a0f h;refine a0q h fun g a w hr => ⟨a.eval y, ?_,hr y (by simp [Op.operands]) _ v h3 e2⟩;have:=hr c (by simp [Op.operands]) _ _ h1 e;simp only [R] at this;simp [execOp,this,asBool]
 ·obtain ⟨v,e2,h⟩:=a0f h;refine a0q h fun g a w hr => ⟨a.eval x, ?_,hr x (by simp [Op.operands]) _ v h2 e2⟩;have:=hr c (by simp [Op.operands]) _ _ h1 e;simp only [R] at this;simp [execOp,this,asBool]
theorem b2e (op:BinOp) (t:TypeId) (x y:Operand) (yt:TypeId) (a:Act) (w:World) (r:Value)
  (hg:(eqGuard op t x y (a.eval x) (a.eval y)).run P w=.ok () w) (hb:(binOp op t (a.eval x) (a.eval y)).run P w=.ok r w) :
  (execOp a.eval ⟨dst,.binOp op t x y yt,ty,pos,after,gu⟩).run P w=.ok (.value r) w:=by
 simp [execOp,hg,hb]
def V.val:V→Value
 | .bool b => .bool b
 | .int k n => .int k n
 | .str s => .string ⟨s.toArray⟩
 | _ => undef
def V.plain:V→Bool
 | .bool _ | .int _ _ | .str _ => true
 | _ => false
theorem d4d {g:G} {v:V} (h:v.plain=true):R g v v.val:=by cases v<;>simp [V.plain] at h<;>simp [R,V.val]
theorem a8c (op:BinOp) (t:TypeId) (x y:Operand) (u v:Value) (w:World) (h:∀ l,u≠.agg l) (h':u≠.nilIface):(eqGuard op t x y u v).run P w=.ok () w:=by
 unfold eqGuard;cases op<;>first
  | rfl
  | (cases u<;>first | rfl | exact absurd rfl (h _) | exact absurd rfl h')
theorem e7g {op:BinOp} {t yt:TypeId} {x y:Operand} {x' y':Src} (h1:cs dl x x'=true) (h2:cs dl y y'=true) (h:evI P L H K (.bin op x' y')) :
  a0m P dl L H ⟨dst,.binOp op t x y yt,ty,pos,after,gu⟩ (.bin op x' y') K:=by
 simp only [evI] at h; obtain ⟨u,e1,hA⟩:=a0f h; clear h; obtain ⟨v,e2,h⟩:=a0f hA; clear hA;have key:∀ g a,Rel dl L [x,y] g a→R g u (a.eval x)∧R g v (a.eval y):=fun g a hr => ⟨hr x (by simp) _ _ h1 e1,hr y (by simp) _ _ h2 e2⟩;cases u<;>cases v<;>simp only [c6l] at h<;>try exact h.elim
 ·rename_i k n k' n';have fin:∀ r:V,K r [] [] 0→r.plain=true→(∀ w:World,(binOp op t (.int k n) (.int k' n')).run P w=.ok r.val w)→a0m P dl L H ⟨dst,.binOp op t x y yt,ty,pos,after,gu⟩ (.bin op x' y') K:=by
   intro r hk hp hb;refine a0q hk fun g a w hr => ?_;obtain ⟨k1,k2⟩:=key g a (by simpa [Op.operands] using hr);simp only [R] at k1 k2;exact ⟨r.val,b2e op t x y yt a w r.val (by rw [k1]; exact a8c _ _ _ _ _ _ _ (by simp) (by simp)) (by rw [k1,k2]; exact hb w),d4d hp⟩
  cases op<;>simp only [d3y] at h
  case shl => exact fin _ h.2 rfl fun w => by simp [binOp,Op.shift,show ¬ n' < 0 by omega,V.val]
  case shr => exact fin _ h.2 rfl fun w => by simp [binOp,Op.shift,show ¬ n' < 0 by omega,V.val]
  case quo => obtain ⟨rfl,h0,h⟩:=h; exact fin _ h rfl fun w => by simp [binOp,Op.intDiv,h0,V.val]
  case rem => obtain ⟨rfl,h0,h⟩:=h; exact fin _ h rfl fun w => by simp [binOp,Op.intDiv,h0,V.val]
  all_goals
   obtain ⟨rfl,h⟩:=h;exact fin _ h rfl fun w => by simp [binOp,Op.intArith,Op.intBits,Op.intCmp,V.val,a4s]
 ·rename_i s s';have fin:∀ r:V,K r [] [] 0→r.plain=true→(∀ w:World,(binOp op t (.string ⟨s.toArray⟩) (.string ⟨s'.toArray⟩)).run P w=.ok r.val w)→a0m P dl L H ⟨dst,.binOp op t x y yt,ty,pos,after,gu⟩ (.bin op x' y') K:=by
   intro r hk hp hb;refine a0q hk fun g a w hr => ?_;obtain ⟨k1,k2⟩:=key g a (by simpa [Op.operands] using hr);simp only [R] at k1 k2;exact ⟨r.val,b2e op t x y yt a w r.val (by rw [k1]; exact a8c _ _ _ _ _ _ _ (by simp) (by simp)) (by rw [k1,k2]; exact hb w),d4d hp⟩
  cases op<;>simp only [c7y] at h<;>try exact h.elim
  case add =>
   refine fin _ h.2 rfl fun w => ?_;have h0:¬ ((((⟨s.toArray⟩:ByteArray).size+(⟨s'.toArray⟩:ByteArray).size:Nat):Int) > IntKind.i64.max):=by
    have:=h.1;have e1:(⟨s.toArray⟩:ByteArray).size=s.length:=by simp [ByteArray.size]
    have e2:(⟨s'.toArray⟩:ByteArray).size=s'.length:=by simp [ByteArray.size]
    rw [e1,e2];have e3:IntKind.i64.max=9223372036854775807:=by decide
    rw [e3]; omega
   simp only [binOp,Op.stringOp,if_neg h0,Sem.run_pure,V.val];congr 2
  all_goals exact fin _ h rfl fun w => by simp [binOp,Op.stringOp,V.val]
def b9j (P:Program) (t:TypeId):Bool:=match P.underlying t with | some .bool => true | _ => false
theorem e7w {neg:Bool} {op:BinOp} {t yt:TypeId} {x y:Operand} {x' y':Src} (ho:(op == if neg then .neq else .eql)=true) (ht:b9j P t=true) (h1:cs dl x x'=true) (h2:cs dl y y'=true)
  (h:evI P L H K (.eqb neg x' y')):a0m P dl L H ⟨dst,.binOp op t x y yt,ty,pos,after,gu⟩ (.eqb neg x' y') K:=by
 simp only [evI] at h; obtain ⟨u,e1,hA⟩:=a0f h; clear h; obtain ⟨v,e2,h⟩:=a0f hA; clear hA;cases u<;>cases v<;>try exact h.elim
 rename_i b c;refine a0q h fun g a w hr => ?_;have k1:=hr x (by simp [Op.operands]) _ _ h1 e1;have k2:=hr y (by simp [Op.operands]) _ _ h2 e2;simp only [R] at k1 k2;have hu:P.underlying t=some .bool:=by
  unfold b9j at ht; split at ht
  ·assumption
  ·cases ht
 refine ⟨.bool (if neg then !(b == c) else b == c),b2e op t x y yt a w _ (by rw [k1]; exact a8c _ _ _ _ _ _ _ (by simp) (by simp)) ?_,by simp [R]⟩;rw [k1,k2];cases neg<;>simp at ho<;>subst ho
 ·exact run_eql_bool w t b c hu
 ·exact run_neq_bool w t b c hu
def b0b (P:Program) (t:TypeId):Option Nat:=match P.underlying t with | some .bool => some 2 | some (.int _) => some 0 | some .string => some 1 | _ => none
def a5e (P:Program):Nat→List Field→List Nat→Bool
 | _,[],[] => true
 | i,f::fs,k::ks => f.name != "_" && f.offset == i && b0b P f.type == some k && a5e P (i+1) fs ks
 | _,_,_ => false
def b9v (P:Program) (t:TypeId) (ks:List Nat):Bool:=!P.stoodInHeld t && !P.eqGuardType P.depth t && (match P.underlying t with | some (.struct fs) => a5e P 0 fs.toList ks | _ => false)
theorem a2x {t:TypeId} {k:Nat} (h:b0b P t=some k) {xs:Array Value} {i:Nat} {x:Value} (hx:xs[i]?=some x) (w:World):(part t xs i).run P w=.ok x w:=by
 have hu:∃ d,P.underlying t=some d∧(d=.bool∨(∃ k,d=.int k)∨d=.string):=by
  unfold b0b at h; split at h<;>first | exact ⟨_,by assumption,by simp⟩ | cases h
 obtain ⟨d,hu,hd⟩:=hu;have hn:(isAgg t).run P w=.ok false w:=by
  rcases hd with rfl | ⟨k,rfl⟩ | rfl<;>simp [isAgg,run_underlying hu]
 simp [part,hn,hx]
theorem b6k {d:Nat} {g:G} (w:World):∀ (fs:List Field) (i:Nat) (ks:List Nat) (l l':List V) (r:Bool) (xs ys:Array Value),a5e P i fs ks=true→eqF ks l l'=some r→RC g l (xs.toList.drop i)→RC g l' (ys.toList.drop i)→(Op.eqFields (d+1) xs ys fs).run P w=.ok r w
 | [],i,ks,l,l',r,xs,ys,hf,he,h1,h2 => by
  cases ks with
  | cons k ks => simp [a5e] at hf
  | nil =>
   cases l<;>cases l'<;>simp [eqF] at he;subst he; simp [Op.eqFields]
 | f::fs,i,ks,l,l',r,xs,ys,hf,he,h1,h2 => by
  cases ks with
  | nil => simp [a5e] at hf
  | cons k ks =>
   simp only [a5e,Bool.and_eq_true,bne_iff_ne,ne_eq,beq_iff_eq] at hf;obtain ⟨⟨⟨hn,ho⟩,hk⟩,hf⟩:=hf;cases l with
   | nil => cases l'<;>simp [eqF] at he
   | cons u l =>
    cases l' with
    | nil => simp [eqF] at he
    | cons v l' =>
     simp only [RC] at h1 h2;obtain ⟨x,xr,e1,q1,h1⟩:=h1;obtain ⟨y,yr,e2,q2,h2⟩:=h2;have hx:xs[i]?=some x:=by
      have:=congrArg (fun z => z[0]?) e1;simpa [List.getElem?_drop] using this
     have hy:ys[i]?=some y:=by
      have:=congrArg (fun z => z[0]?) e2;simpa [List.getElem?_drop] using this
     have hd1:xs.toList.drop (i+1)=xr:=by rw [← List.drop_drop,e1]; rfl
     have hd2:ys.toList.drop (i+1)=yr:=by rw [← List.drop_drop,e2]; rfl
     subst ho;have p1:=a2x hk hx w;have p2:=a2x hk hy w;have fin:∀ (b r':Bool),r=(b && r')→eqF ks l l'=some r'→(Op.equalIn (d+1) f.type x y).run P w=.ok b w→(Op.eqFields (d+1) xs ys (f::fs)).run P w=.ok r w:=by
      intro b r' hr hl hb;have ih:=b6k (d:=d) w fs (f.offset+1) ks l l' r' xs ys hf hl (by rw [hd1]; exact h1) (by rw [hd2]; exact h2);cases b
      ·simp [Op.eqFields,hn,p1,p2,hb,hr]
      ·simp [Op.eqFields,hn,p1,p2,hb,hr,ih]
     match k,u,v,he,q1,q2 with
     | 0,.int k a,.int k' b,he,q1,q2 =>
      simp only [R] at q1 q2;subst q1; subst q2;simp only [eqF] at he;have hu:∃ k2,P.underlying f.type=some (.int k2):=by
       unfold b0b at hk; split at hk<;>first | exact ⟨_,by assumption⟩ | simp at hk
      obtain ⟨k2,hu⟩:=hu;split at he
      ·rename_i r' hl;split at he
       ·rename_i hkk; subst hkk;have hb:=run_equalIn_int w d f.type k k2 a b hu;rw [show (a == b)=decide (a=b) from rfl] at hb;exact fin _ _ (by simpa using he.symm) hl hb
       ·cases he
      ·cases he
     | 1,.str a,.str b,he,q1,q2 =>
      simp only [R] at q1 q2;subst q1; subst q2;simp only [eqF] at he;have hu:P.underlying f.type=some .string:=by
       unfold b0b at hk; split at hk<;>first | assumption | simp at hk
      split at he
      ·rename_i r' hl;have hb:=run_equalIn_string w d f.type ⟨a.toArray⟩ ⟨b.toArray⟩ hu;rw [ByteArray.toList_eq,ByteArray.toList_eq] at hb;have hd:(a == b)=decide (a=b):=by rw [Bool.eq_iff_iff]; simp
       exact fin _ _ (by simpa using he.symm) hl (by rw [hb,← hd])
      ·cases he
     | 2,.bool a,.bool b,he,q1,q2 =>
      simp only [R] at q1 q2;subst q1; subst q2;simp only [eqF] at he;have hu:P.underlying f.type=some .bool:=by
       unfold b0b at hk; split at hk<;>first | assumption | simp at hk
      split at he
      ·rename_i r' hl;exact fin _ _ (by simpa using he.symm) hl (run_equalIn_bool w d f.type a b hu)
      ·cases he
theorem b5n (k:Nat) (ks:List Nat) (u v:V) (l l':List V):eqF (k::ks) (u::l) (v::l')=(match eqF [k] [u] [v] with | some a => (match eqF ks l l' with | some b => some (a && b) | none => none) | none => none):=by
 generalize hx:eqF (k::ks) (u::l) (v::l')=x;unfold eqF at hx;split at hx
 ·rename_i e1 e2; cases e1
 ·rename_i e0 e1 e2;simp only [List.cons.injEq] at e0 e1 e2;obtain ⟨rfl,rfl⟩:=e0; obtain ⟨rfl,rfl⟩:=e1; obtain ⟨rfl,rfl⟩:=e2;rw [← hx]; simp only [eqF];rename_i kk aa kk2 bb;cases eqF _ l l'<;>by_cases hk:kk=kk2<;>simp [hk]
 ·rename_i e0 e1 e2;simp only [List.cons.injEq] at e0 e1 e2;obtain ⟨rfl,rfl⟩:=e0; obtain ⟨rfl,rfl⟩:=e1; obtain ⟨rfl,rfl⟩:=e2;rw [← hx]; simp only [eqF];cases eqF _ l l'<;>simp
 ·rename_i e0 e1 e2;simp only [List.cons.injEq] at e0 e1 e2;obtain ⟨rfl,rfl⟩:=e0; obtain ⟨rfl,rfl⟩:=e1; obtain ⟨rfl,rfl⟩:=e2;rw [← hx]; simp only [eqF];cases eqF _ l l'<;>simp
 ·rename_i h1 h2 h3 h4;have:eqF [k] [u] [v]=none:=by
   unfold eqF;split
   ·rename_i e1 e2; cases e1
   ·rename_i e0 e1 e2;simp only [List.cons.injEq] at e0 e1 e2;obtain ⟨rfl,rfl⟩:=e0; obtain ⟨rfl,rfl⟩:=e1; obtain ⟨rfl,rfl⟩:=e2;exact (h2 _ _ _ _ _ _ _ rfl rfl rfl).elim
   ·rename_i e0 e1 e2;simp only [List.cons.injEq] at e0 e1 e2;obtain ⟨rfl,rfl⟩:=e0; obtain ⟨rfl,rfl⟩:=e1; obtain ⟨rfl,rfl⟩:=e2;exact (h3 _ _ _ _ _ rfl rfl rfl).elim
   ·rename_i e0 e1 e2;simp only [List.cons.injEq] at e0 e1 e2;obtain ⟨rfl,rfl⟩:=e0; obtain ⟨rfl,rfl⟩:=e1; obtain ⟨rfl,rfl⟩:=e2;exact (h4 _ _ _ _ _ rfl rfl rfl).elim
   ·rfl
  rw [this,← hx]
theorem b8q:∀ (n:Nat) (ks:List Nat) (l l':List V) (r:Bool),n≤ks.length→eqF ks l l'=some r→∃ r1 r2,eqF (ks.take n) (l.take n) (l'.take n)=some r1∧eqF (ks.drop n) (l.drop n) (l'.drop n)=some r2∧r=(r1 && r2)
 | 0,ks,l,l',r,_,h => ⟨true,r,by simp [eqF],by simpa using h,by simp⟩
 | n+1,[],l,l',r,hn,_ => by simp at hn
 | n+1,k::ks,[],l',r,hn,h => by cases l'<;>simp [eqF] at h
 | n+1,k::ks,u::l,[],r,hn,h => by simp [eqF] at h
 | n+1,k::ks,u::l,v::l',r,hn,h => by
  rw [b5n] at h;cases h1:eqF [k] [u] [v] with
  | none => simp [h1] at h
  | some a =>
   cases h2:eqF ks l l' with
   | none => simp [h1,h2] at h
   | some b =>
    simp only [h1,h2,Option.some.injEq] at h;obtain ⟨r1,r2,k1,k2,rfl⟩:=b8q n ks l l' b (by simpa using hn) h2;exact ⟨a && r1,r2,by simp only [List.take_succ_cons]; rw [b5n,h1,k1],by simpa using k2,by rw [← h,Bool.and_assoc]⟩
theorem RC.cut {g:G}:∀ {l:List V} {xs:List Value} (n:Nat),RC g l xs→RC g (l.take n) (xs.take n)∧RC g (l.drop n) (xs.drop n)
 | l,xs,0,h => ⟨by simp [RC],by simpa using h⟩
 | [],xs,n+1,h => by simp only [RC] at h; subst h; simp [RC]
 | v::vs,xs,n+1,h => by
  simp only [RC] at h; obtain ⟨y,ys,rfl,h1,h2⟩:=h;obtain ⟨k1,k2⟩:=RC.cut n h2;refine ⟨?_,by simpa using k2⟩;simp only [List.take_succ_cons,RC]; exact ⟨y,_,rfl,h1,k1⟩
theorem e2k {d:Nat} {g:G} {w:World} {t:TypeId} {k:Nat} {u v:V} {r:Bool} {x y:Value} (hk:b0b P t=some k) (he:eqF [k] [u] [v]=some r) (q1:R g u x) (q2:R g v y):(Op.equalIn (d+1) t x y).run P w=.ok r w:=by
 match k,u,v,he,q1,q2 with
 | 0,.int k a,.int k' b,he,q1,q2 =>
  simp only [R] at q1 q2;subst q1; subst q2;have hu:∃ k2,P.underlying t=some (.int k2):=by
   unfold b0b at hk; split at hk<;>first | exact ⟨_,by assumption⟩ | simp at hk
  obtain ⟨k2,hu⟩:=hu;simp only [eqF,Bool.and_true] at he;split at he
  ·rename_i hkk; subst hkk;have hb:=run_equalIn_int w d t k k2 a b hu;simp only [Option.some.injEq] at he;rw [hb,← he]; rfl
  ·cases he
 | 1,.str a,.str b,he,q1,q2 =>
  simp only [R] at q1 q2;subst q1; subst q2;have hu:P.underlying t=some .string:=by
   unfold b0b at hk; split at hk<;>first | assumption | simp at hk
  simp only [eqF,Bool.and_true,Option.some.injEq] at he;have hb:=run_equalIn_string w d t ⟨a.toArray⟩ ⟨b.toArray⟩ hu;rw [ByteArray.toList_eq,ByteArray.toList_eq] at hb;have hd:(a == b)=decide (a=b):=by rw [Bool.eq_iff_iff]; simp
  rw [hb,← he,← hd]
 | 2,.bool a,.bool b,he,q1,q2 =>
  simp only [R] at q1 q2;subst q1; subst q2;have hu:P.underlying t=some .bool:=by
   unfold b0b at hk; split at hk<;>first | assumption | simp at hk
  simp only [eqF,Bool.and_true,Option.some.injEq] at he;rw [run_equalIn_bool w d t a b hu,← he]
def a9r (P:Program):Nat→List Field→List Nat→Bool
 | _,[],[] => true
 | i,f::fs,ks => f.name != "_" && f.offset == i && (match P.underlying f.type with
  | some (.struct gs) => !P.stoodInHeld f.type && (match P.info? f.type with | some inf => inf.size == gs.size | none => false) && decide (gs.size≤ks.length) && a5e P 0 gs.toList (ks.take gs.size) && a9r P (i+gs.size) fs (ks.drop gs.size)
  | _ => decide (1≤ks.length) && (match ks with | k::_ => b0b P f.type == some k | [] => false) && a9r P (i+1) fs (ks.drop 1))
 | _,_,_ => false
def d4q (P:Program) (t:TypeId) (ks:List Nat):Bool:=!P.stoodInHeld t && !P.eqGuardType P.depth t && (match P.underlying t with | some (.struct fs) => a9r P 0 fs.toList ks | _ => false)
theorem c2h {d:Nat} {xs ys:Array Value} {f:Field} {fs:List Field} {a r:Bool} {w:World} (hn:f.name≠"_") (h1:∃ x y,(part f.type xs f.offset).run P w=.ok x w∧(part f.type ys f.offset).run P w=.ok y w∧(Op.equalIn d f.type x y).run P w=.ok a w) (h2:(Op.eqFields d xs ys fs).run P w=.ok r w) :
  (Op.eqFields d xs ys (f::fs)).run P w=.ok (a && r) w:=by
 obtain ⟨x,y,p1,p2,hb⟩:=h1;cases a
 ·simp [Op.eqFields,hn,p1,p2,hb]
 ·simp [Op.eqFields,hn,p1,p2,hb,h2]
theorem b6q {d:Nat} {g:G} (w:World):∀ (fs:List Field) (i:Nat) (ks:List Nat) (l l':List V) (r:Bool) (xs ys:Array Value),a9r P i fs ks=true→eqF ks l l'=some r→RC g l (xs.toList.drop i)→RC g l' (ys.toList.drop i)→(Op.eqFields (d+2) xs ys fs).run P w=.ok r w
 | [],i,ks,l,l',r,xs,ys,hf,he,h1,h2 => by
  cases ks with
  | cons k ks => simp [a9r] at hf
  | nil =>
   cases l<;>cases l'<;>simp [eqF] at he;subst he; simp [Op.eqFields]
 | f::fs,i,ks,l,l',r,xs,ys,hf,he,h1,h2 => by
  simp only [a9r,Bool.and_eq_true,bne_iff_ne,ne_eq,beq_iff_eq] at hf;obtain ⟨⟨hn,ho⟩,hf⟩:=hf;subst ho;split at hf
  ·rename_i gs hu;simp only [Bool.and_eq_true,Bool.not_eq_true',decide_eq_true_eq] at hf;obtain ⟨⟨⟨⟨hst,hin⟩,hle⟩,hg⟩,hf⟩:=hf;split at hin
   case h_2 => cases hin
   rename_i inf hi;have hsz:inf.size=gs.size:=by simpa using hin
   obtain ⟨r1,r2,e1,e2,rfl⟩:=b8q gs.size ks l l' r hle he;obtain ⟨a1,a2⟩:=h1.cut gs.size;obtain ⟨b1,b2⟩:=h2.cut gs.size;have hagg:(isAgg f.type).run P w=.ok true w:=by simp [isAgg,run_underlying hu]
   have hso:(Go.sizeOf f.type).run P w=.ok gs.size w:=by simp [Go.sizeOf,typeInfo,hi,hsz]
   have pt:∀ zs:Array Value,(part f.type zs f.offset).run P w=.ok (.agg (zs.extract f.offset (f.offset+gs.size))) w:=fun zs => by simp [part,hagg,hso]
   have hfo:P.fieldsOf f.type=gs:=by simp [Program.fieldsOf,hu]
   have ex:∀ zs:Array Value,(zs.extract f.offset (f.offset+gs.size)).toList=(zs.toList.drop f.offset).take gs.size:=fun zs => by simp
   refine c2h hn ⟨_,_,pt xs,pt ys, ?_⟩ (b6q w fs (f.offset+gs.size) (ks.drop gs.size) (l.drop gs.size) (l'.drop gs.size) r2 xs ys hf e2 (by simpa [List.drop_drop] using a2) (by simpa [List.drop_drop] using b2));rw [run_equalIn_agg w (d+1) f.type _ _ (by rw [hfo]; exact hu) hst,hfo];exact b6k w gs.toList 0 (ks.take gs.size) (l.take gs.size) (l'.take gs.size) r1 _ _ hg e1 (by rw [ex]; simpa using a1) (by rw [ex]; simpa using b1)
  ·rename_i hns;simp only [Bool.and_eq_true,decide_eq_true_eq] at hf;obtain ⟨⟨hle,hg⟩,hf⟩:=hf;split at hg
   case h_2 => cases hg
   rename_i k ks;simp only [beq_iff_eq] at hg;cases l with
   | nil => cases l'<;>simp [eqF] at he
   | cons u l =>
    cases l' with
    | nil => simp [eqF] at he
    | cons v l' =>
     rw [b5n] at he;simp only [RC] at h1 h2;obtain ⟨x,xr,e1,q1,h1⟩:=h1;obtain ⟨y,yr,e2,q2,h2⟩:=h2;have hx:xs[f.offset]?=some x:=by
      have:=congrArg (fun z => z[0]?) e1;simpa [List.getElem?_drop] using this
     have hy:ys[f.offset]?=some y:=by
      have:=congrArg (fun z => z[0]?) e2;simpa [List.getElem?_drop] using this
     have hd1:xs.toList.drop (f.offset+1)=xr:=by rw [← List.drop_drop,e1]; rfl
     have hd2:ys.toList.drop (f.offset+1)=yr:=by rw [← List.drop_drop,e2]; rfl
     cases k1:eqF [k] [u] [v] with
     | none => simp [k1] at he
     | some a =>
      cases k2:eqF ks l l' with
      | none => simp [k1,k2] at he
      | some b =>
       simp only [k1,k2,Option.some.injEq] at he;subst he;exact c2h hn ⟨x,y,a2x hg hx w,a2x hg hy w,e2k hg k1 q1 q2⟩ (b6q w fs (f.offset+1) ks l l' b xs ys hf k2 (by rw [hd1]; exact h1) (by rw [hd2]; exact h2))
theorem e9f {neg:Bool} {op:BinOp} {t yt:TypeId} {x y:Operand} {x' y':Src} {ks:List Nat} (ho:(op == if neg then .neq else .eql)=true) (ht:(b9v P t ks || d4q P t ks)=true) (h1:cs dl x x'=true) (h2:cs dl y y'=true)
  (h:evI P L H K (.eqs neg ks x' y')):a0m P dl L H ⟨dst,.binOp op t x y yt,ty,pos,after,gu⟩ (.eqs neg ks x' y') K:=by
 simp only [evI] at h; obtain ⟨u,e1,hA⟩:=a0f h; clear h; obtain ⟨v,e2,h⟩:=a0f hA; clear hA;cases u<;>cases v<;>try exact h.elim
 rename_i l l';simp only at h;split at h
 ·rename_i r hr';refine a0q h fun g a w hr => ?_;have k1:=hr x (by simp [Op.operands]) _ _ h1 e1;have k2:=hr y (by simp [Op.operands]) _ _ h2 e2;simp only [R] at k1 k2;obtain ⟨xs,k1,r1,_⟩:=k1;obtain ⟨ys,k2,r2,_⟩:=k2;have both:P.eqGuardType P.depth t=false∧(Op.equalIn 10000 t (.agg xs) (.agg ys)).run P w=.ok r w:=by
   rcases Bool.or_eq_true _ _ ▸ ht with ht | ht
   ·unfold b9v at ht;simp only [Bool.and_eq_true,Bool.not_eq_true'] at ht;obtain ⟨⟨t1,t2⟩,t3⟩:=ht;split at t3
    ·rename_i fs hu;have hfo:P.fieldsOf t=fs:=by simp [Program.fieldsOf,hu]
     refine ⟨t2, ?_⟩;rw [run_equalIn_agg w 9999 t xs ys (by rw [hfo]; exact hu) t1,hfo];exact b6k (d:=9998) w fs.toList 0 ks l l' r xs ys t3 hr' (by simpa using r1) (by simpa using r2)
    ·cases t3
   ·unfold d4q at ht;simp only [Bool.and_eq_true,Bool.not_eq_true'] at ht;obtain ⟨⟨t1,t2⟩,t3⟩:=ht;split at t3
    ·rename_i fs hu;have hfo:P.fieldsOf t=fs:=by simp [Program.fieldsOf,hu]
     refine ⟨t2, ?_⟩;rw [run_equalIn_agg w 9999 t xs ys (by rw [hfo]; exact hu) t1,hfo];exact b6q (d:=9997) w fs.toList 0 ks l l' r xs ys t3 hr' (by simpa using r1) (by simpa using r2)
    ·cases t3
  obtain ⟨t2,hrun⟩:=both;refine ⟨.bool (if neg then !r else r),b2e op t x y yt a w _ (by rw [k1,k2]; exact run_eqGuard_agg w op t x y xs ys t2) ?_,by simp [R]⟩;rw [k1,k2];cases neg<;>simp at ho<;>subst ho
  ·rw [run_eql_struct,hrun]; rfl
  ·rw [run_neq_struct,hrun]; rfl
 ·exact h.elim
def nkOf (P:Program) (t:TypeId) (c:Value):Option NK :=
 match P.underlying t with
 | some (.pointer _) => (match c with | .pointer none => some .p | _ => none)
 | some (.slice _) => (match c with | .slice none 0 0 => some .s | _ => none)
 | some (.map _ _) => (match c with | .map none => some .m | _ => none)
 | some (.func _ _ _) => (match c with | .nilFunc => some .f | _ => none)
 | some (.interface _) => (match c with | .nilIface => some .i | _ => none)
 | _ => none
theorem b0c (q:Nat) {t:TypeId} {c:Value} {kd:NK} (h:nkOf P t c=some kd) {g:G} {v:V} {x:Value} {b:Bool} (hn:isNil kd v=some b) (r:R g v x) (w:World) :
  (Op.equalIn (q+1) t x c).run P w=.ok b w:=by
 unfold nkOf at h;cases hu:P.underlying t with
 | none => simp [hu] at h
 | some d =>
  cases d with
  | pointer el =>
   simp only [hu] at h;split at h<;>simp at h;subst h;cases v<;>simp [isNil] at hn
   ·simp only [R] at r; subst hn; subst r; simp [Op.equalIn,run_underlying hu]
   ·simp only [R] at r; subst hn; obtain ⟨_,_,_,_,rfl⟩:=r; simp [Op.equalIn,run_underlying hu]
   ·simp only [R] at r; subst hn; obtain ⟨_,_,_,_,_,rfl⟩:=r; simp [Op.equalIn,run_underlying hu]
  | slice el =>
   simp only [hu] at h;split at h<;>simp at h;subst h;cases v<;>simp [isNil] at hn
   ·simp only [R] at r; subst hn; obtain ⟨_,_,_,_,_,_,rfl,_⟩:=r; simp [Op.equalIn,run_underlying hu]
   ·rename_i st sz l;simp only [R] at r;obtain ⟨a,cap,xs,rfl,_,_,hle,h5,h6,_,h8⟩:=r;cases st<;>cases l<;>simp at hn<;>subst hn<;>simp at h6 hle
    ·subst h6; simp [Op.equalIn,run_underlying hu]
    ·subst h6; simp [Op.equalIn,run_underlying hu]
    all_goals (simp at h8; obtain ⟨b,o,rfl,_⟩:=h8; simp [Op.equalIn,run_underlying hu])
  | map kt el =>
   simp only [hu] at h;split at h<;>simp at h;subst h;cases v<;>simp [isNil] at hn
   ·simp only [R] at r; subst hn; obtain ⟨_,_,rfl⟩:=r; simp [Op.equalIn,run_underlying hu]
   ·simp only [R] at r; subst hn; subst r; simp [Op.equalIn,run_underlying hu]
  | func ps rs vr =>
   simp only [hu] at h;split at h<;>simp at h;subst h;cases v<;>simp [isNil] at hn
   ·simp only [R] at r; subst hn; obtain ⟨_,_,rfl,_⟩:=r; simp [Op.equalIn,run_underlying hu]
   ·simp only [R] at r; subst hn; subst r; simp [Op.equalIn,run_underlying hu]
  | interface ms =>
   simp only [hu] at h;split at h<;>simp at h;subst h;cases v<;>simp [isNil] at hn
   ·simp only [R] at r; subst hn; obtain ⟨_,rfl,_⟩:=r; simp [Op.equalIn,run_underlying hu]
   ·simp only [R] at r; subst hn; subst r; simp [Op.equalIn,run_underlying hu]
  | _ => simp [hu] at h
theorem b5m {t:TypeId} {c:Value} {kd:NK} (h:nkOf P t c=some kd) {g:G} {v:V} {x:Value} {b:Bool} (hn:isNil kd v=some b) (r:R g v x) (w:World) :
  (Op.equal t x c).run P w=.ok b w:=b0c 9999 h hn r w
theorem e7m {neg:Bool} {op:BinOp} {t yt:TypeId} {x:Operand} {c:Value} {kd:NK} {x':Src} (ho:(op == if neg then .neq else .eql)=true) (hk:nkOf P t c=some kd) (h1:cs dl x x'=true)
  (h:evI P L H K (.eqn neg kd x')):a0m P dl L H ⟨dst,.binOp op t x (.const c) yt,ty,pos,after,gu⟩ (.eqn neg kd x') K:=by
 simp only [evI] at h; obtain ⟨u,e1,hA⟩:=a0f h; clear h;cases hn:isNil kd u with
 | none => simp [hn] at hA
 | some b =>
  simp only [hn] at hA;refine a0q hA fun g a w hr => ?_;have k1:=hr x (by simp [Op.operands]) _ _ h1 e1;have he:=b5m hk hn k1 w;have hx:(∀ l,a.eval x≠.agg l):=by
   intro l e; rw [e] at k1;cases kd<;>cases u<;>simp [isNil] at hn<;>simp [R] at k1
  refine ⟨.bool (if neg then !b else b),b2e op t x (.const c) yt a w _ ?_ ?_,by simp [R]⟩
  ·unfold eqGuard;generalize a.eval x=z at hx ⊢;cases neg<;>simp at ho<;>subst ho<;>cases z<;>first | rfl | (cases c<;>first | rfl | (simp [Act.eval]; done)) | exact absurd rfl (hx _)
  ·have hc:(a.eval (.const c))=c:=rfl;rw [hc];have hb:∀ op',(op'=.eql∨op'=.neq)→binOp op' t (a.eval x) c=(match op' with | .eql => (do pure (.bool (← Op.equal t (a.eval x) c)):Sem Value) | _ => (do pure (.bool (!(← Op.equal t (a.eval x) c))):Sem Value)):=by
    generalize a.eval x=z at k1;intro op' ho;unfold nkOf at hk;cases kd<;>cases u<;>simp [isNil] at hn<;>simp only [R] at k1<;>(rcases ho with rfl | rfl)<;>(first | subst k1 | (obtain ⟨_,_,_,_,rfl⟩:=k1) | (obtain ⟨_,_,_,_,_,rfl⟩:=k1) | (obtain ⟨_,_,_,_,_,_,rfl,_⟩:=k1) | (obtain ⟨_,_,_,rfl,_⟩:=k1) | (obtain ⟨_,_,rfl,_⟩:=k1) | (obtain ⟨_,rfl,_⟩:=k1) | (obtain ⟨_,_,rfl⟩:=k1)) <;>
     (cases c<;>first | rfl | (split at hk<;>simp at hk))
   cases neg<;>simp at ho<;>subst ho
   ·rw [hb _ (.inl rfl)]; simp [he]
   ·rw [hb _ (.inr rfl)]; simp [he]
end
end
def G.froze (g:G) (b:Nat) (xs:List Value):G:=⟨g.ι,fun b' => if b'=b then some xs else g.F b'⟩
def G.lay (g:G) (id b sz n:Nat):G:=⟨fun i => if i=id then some (b,sz,n) else g.ι i,g.F⟩
structure Still (w w':World):Prop where
 os:w'.os=w.os
 tape:w'.tape=w.tape
 output:w'.output=w.output
theorem RS.new_froze {g:G} {m:Hm} {w w':World} {cs:Array Value} {e:TypeId} {fr:Nat×Nat} (h:RS g m w) (hs:Still w w') (hh:w'.heap=w.heap.push (.cells cs e fr)) :
  RS (g.froze w.heap.size cs.toList) m w'∧Ext g m w (g.froze w.heap.size cs.toList) m w':=by
 have hle:g.le (g.froze w.heap.size cs.toList):=⟨fun _ _ k => k,fun b xs k => by
  have:=h.fro_lt k;simp only [G.froze]; rw [if_neg (by omega)]; exact k⟩
 have old:∀ b,b < w.heap.size→w'.heap[b]?=w.heap[b]?:=fun b hb => by rw [hh,Array.getElem?_push,if_neg (by omega)]
 refine ⟨⟨?_, ?_, ?_,fun p hp => (h.tab p hp).imp fun cs q => ⟨hle.F _ _ q.1,q.2⟩⟩,⟨by rw [hh]; simp,fun b hb _ => old b hb,hle,fun b k => .inr k, ?_,hs.os,hs.tape,hs.output⟩⟩
 ·intro b xs k;simp only [G.froze] at k;split at k
  ·rename_i hb; subst hb; simp at k; subst k;exact ⟨e,fr,by rw [hh,Array.getElem?_push,if_pos rfl]⟩
  ·obtain ⟨e',fr',k'⟩:=h.fro b xs k;exact ⟨e',fr',by rw [old b (h.fro_lt k)]; exact k'⟩
 ·intro id o k;refine (h.live id o k).keep hle fun b s n hb => ?_;have hlt:=(h.live id o k).lt hb;refine ⟨old b hlt, ?_⟩;simp only [G.froze]; rw [if_neg (by omega)];exact (h.live id o k).unF hb
 ·exact fun id id' o o' b s n s' n' k k' e e' => h.inj id id' o o' b s n s' n' k k' e e'
 ·intro b xs k;simp only [G.froze] at k;split at k
  ·rename_i hb; exact .inr (.inl (by omega))
  ·exact .inl k
theorem FAt.froze (g:G) (b:Nat) (pre xs post:List Value):FAt (g.froze b (pre++xs++post)) b pre.length xs :=
 ⟨pre,post,by simp [G.froze],rfl⟩
theorem RS.new_live' {g:G} {m:Hm} {w w':World} {cs:Array Value} {e:TypeId} {fr:Nat×Nat} {id sz:Nat} {l:List V} {xs post:List Value} (h:RS g m w) (hs:Still w w') (hfr:frOk fr cs.size)
  (hh:w'.heap=w.heap.push (.cells cs e fr)) (hf:g.ι id=none) (hl:RL g l xs) (hz:∀ v∈l,v.size=sz) (hc:cs.toList=xs++post) (ht:Tail sz fr post) :
  RS (g.lay id w.heap.size sz cs.size) (upd m id (some (.arr sz l))) w'∧Ext g m w (g.lay id w.heap.size sz cs.size) (upd m id (some (.arr sz l))) w':=by
 have hm:m id=none:=by
  cases hm:m id with
  | none => rfl
  | some o =>
   have:=h.live id o hm;cases o<;>(simp only [ORep] at this; obtain ⟨_,_,_,this⟩:=this; simp [hf] at this)
 have hle:g.le (g.lay id w.heap.size sz cs.size):=⟨fun i p k => by
  simp only [G.lay]; split
  ·rename_i hi; subst hi; rw [hf] at k; cases k
  ·exact k,fun _ _ k => k⟩
 have old:∀ b,b < w.heap.size→w'.heap[b]?=w.heap[b]?:=fun b hb => by rw [hh,Array.getElem?_push,if_neg (by omega)]
 have isnew:∀ i p,(g.lay id w.heap.size sz cs.size).ι i=some p→i≠id→g.ι i=some p:=fun i p k hi => by simpa [G.lay,hi] using k
 have self:(g.lay id w.heap.size sz cs.size).ι id=some (w.heap.size,sz,cs.size):=by simp [G.lay]
 refine ⟨⟨?_, ?_, ?_,h.tab⟩,⟨by rw [hh]; simp,fun b hb _ => old b hb,hle, ?_,fun b xs k => .inl k,hs.os,hs.tape,hs.output⟩⟩
 ·intro b xs k;obtain ⟨e',fr',k'⟩:=h.fro b xs k;exact ⟨e',fr',by rw [old b (h.fro_lt k)]; exact k'⟩
 ·intro i o k;simp only [upd] at k;split at k
  ·rename_i hi; subst hi; simp at k; subst k;refine ⟨w.heap.size,cs.size,cs,(e,fr),xs,post,self,by rw [hh,Array.getElem?_push,if_pos rfl],rfl,⟨?_,hfr⟩,RL.mono hle _ _ hl,hz,hc,ht⟩;cases hF:g.F w.heap.size with
   | none => exact hF
   | some q => have:=h.fro_lt hF; omega
  ·rename_i hi;refine (h.live i o k).keep hle fun b s n hb => ⟨old b ((h.live i o k).lt hb),(h.live i o k).unF hb⟩
 ·intro i i' o o' b s n s' n' k k' e1 e2;simp only [upd] at k k';by_cases hi:i=id<;>by_cases hi':i'=id
  ·rw [hi,hi']
  ·subst hi; rw [self] at e1; simp at e1;rw [if_neg hi'] at k';have:=(h.live i' o' k').lt (isnew _ _ e2 hi'); omega
  ·subst hi'; rw [self] at e2; simp at e2;rw [if_neg hi] at k;have:=(h.live i o k).lt (isnew _ _ e1 hi); omega
  ·rw [if_neg hi] at k; rw [if_neg hi'] at k';exact h.inj i i' o o' b s n s' n' k k' (isnew _ _ e1 hi) (isnew _ _ e2 hi')
 ·rintro b ⟨i,o,s,n,k,e1⟩;simp only [upd] at k;by_cases hi:i=id
  ·subst hi; rw [self] at e1; simp at e1; exact .inl (by omega)
  ·rw [if_neg hi] at k; exact .inr ⟨i,o,s,n,k,isnew _ _ e1 hi⟩
theorem RS.new_live {g:G} {m:Hm} {w w':World} {cs:Array Value} {e:TypeId} {id sz:Nat} {l:List V} {xs post:List Value} (h:RS g m w) (hs:Still w w')
  (hh:w'.heap=w.heap.push (.cells cs e (0,0))) (hf:g.ι id=none) (hl:RL g l xs) (hz:∀ v∈l,v.size=sz) (hc:cs.toList=xs++post) (ht:∀ u∈post,u.oneCell'=true) :
  RS (g.lay id w.heap.size sz cs.size) (upd m id (some (.arr sz l))) w'∧Ext g m w (g.lay id w.heap.size sz cs.size) (upd m id (some (.arr sz l))) w' :=
 h.new_live' hs (.inl rfl) hh hf hl hz hc ⟨fun _ => rfl,ht⟩
theorem RS.put {g:G} {m:Hm} {w w':World} {id sz sz' b n:Nat} {l0 l:List V} {cs:Array Value} {e:TypeId} {fr:Nat×Nat} {xs post:List Value} (h:RS g m w) (hs:Still w w')
    (hm:m id=some (.arr sz' l0)) (hi:g.ι id=some (b,sz,n)) (hb:w'.heap[b]?=some (.cells cs e fr)) (hfr:frOk fr n) (ho:∀ k,k≠b→w'.heap[k]?=w.heap[k]?) (hsz:w'.heap.size=w.heap.size)
    (hn:cs.size=n) (hl:RL g l xs) (hz:∀ v∈l,v.size=sz) (hc:cs.toList=xs++post) (ht:Tail sz fr post) :
    RS g (upd m id (some (.arr sz l))) w'∧Ext g m w g (upd m id (some (.arr sz l))) w':=by
  have own:Own g m b:=⟨id,_,sz,n,hm,hi⟩
  have hF:=(h.live id _ hm).unF hi
  refine ⟨⟨?_, ?_, ?_,h.tab⟩,⟨by omega,fun k _ hk => ho k fun e => hk (e ▸ own),.refl g, ?_,fun _ _ k => .inl k,hs.os,hs.tape,hs.output⟩⟩
  · intro k ys hk
    obtain ⟨e',fr',k'⟩:=h.fro k ys hk
    exact ⟨e',fr',by rw [ho k (fun e => by rw [e,hF] at hk; cases hk)]; exact k'⟩
  · intro i o k
    simp only [upd] at k
    split at k
    · rename_i hi'; subst hi'; simp at k; subst k
      exact ⟨b,n,cs,(e,fr),xs,post,hi,hb,hn,⟨hF,hfr⟩,hl,hz,hc,ht⟩
    · rename_i hi'
      refine (h.live i o k).keep (.refl g) fun b' s' n' hb' => ⟨ho b' fun e => ?_,(h.live i o k).unF hb'⟩
      subst e; exact hi' (h.inj i id o _ _ s' n' sz n k hm hb' hi)
  · intro i i' o o' b' s n s' n' k k' e1 e2
    have up:∀ i o,upd m id (some (.arr sz l)) i=some o→∃ o',m i=some o':=fun i o k => by
      simp only [upd] at k; split at k
      · rename_i h; subst h; exact ⟨_,hm⟩
      · exact ⟨o,k⟩
    obtain ⟨o1,k1⟩:=up i o k; obtain ⟨o2,k2⟩:=up i' o' k'
    exact h.inj i i' o1 o2 b' s n s' n' k1 k2 e1 e2
  · rintro b' ⟨i,o,s,n,k,e1⟩
    simp only [upd] at k
    split at k
    · rename_i hi'; subst hi'; exact .inr ⟨i,_,s,n,hm,e1⟩
    · exact .inr ⟨i,o,s,n,k,e1⟩
theorem RS.kill {g:G} {m:Hm} {w:World} (h:RS g m w) (id:Nat):RS g (upd m id none) w∧Ext g m w g (upd m id none) w:=by
 have up:∀ i o,upd m id none i=some o→m i=some o:=fun i o k => by
  simp only [upd] at k; split at k
  ·cases k
  ·exact k
 refine ⟨⟨h.fro,fun i o k => h.live i o (up i o k),fun i i' o o' b s n s' n' k k' => h.inj i i' o o' b s n s' n' (up _ _ k) (up _ _ k'),h.tab⟩,
  ⟨Nat.le_refl _,fun _ _ _ => rfl,.refl g, ?_,fun _ _ k => .inl k,rfl,rfl,rfl⟩⟩
 rintro b ⟨i,o,s,n,k,e⟩; exact .inr ⟨i,o,s,n,up i o k,e⟩
theorem RS.rename {g:G} {m:Hm} {w:World} {id id' b sz n:Nat} {l:List V} (h:RS g m w) (hm:m id=some (.arr sz l)) (hi:g.ι id=some (b,sz,n)) (hf:g.ι id'=none) :
  RS (g.lay id' b sz n) (upd (upd m id none) id' (some (.arr sz l))) w∧Ext g m w (g.lay id' b sz n) (upd (upd m id none) id' (some (.arr sz l))) w:=by
 have hne:id≠id':=fun e => by rw [e,hf] at hi; cases hi
 have hle:g.le (g.lay id' b sz n):=⟨fun i p k => by
  simp only [G.lay]; split
  ·rename_i hi; subst hi; rw [hf] at k; cases k
  ·exact k,fun _ _ k => k⟩
 have isnew:∀ i p,(g.lay id' b sz n).ι i=some p→i≠id'→g.ι i=some p:=fun i p k hi => by simpa [G.lay,hi] using k
 have self:(g.lay id' b sz n).ι id'=some (b,sz,n):=by simp [G.lay]
 have up:∀ i o,upd (upd m id none) id' (some (.arr sz l)) i=some o→i=id'∧o=.arr sz l∨i≠id'∧i≠id∧m i=some o:=fun i o k => by
  simp only [upd] at k; split at k
  ·rename_i h; simp at k; exact .inl ⟨h,k.symm⟩
  ·rename_i h; split at k
   ·cases k
   ·rename_i h'; exact .inr ⟨h,h',k⟩
 refine ⟨⟨h.fro, ?_, ?_,h.tab⟩,⟨Nat.le_refl _,fun _ _ _ => rfl,hle, ?_,fun _ _ k => .inl k,rfl,rfl,rfl⟩⟩
 ·intro i o k;rcases up i o k with ⟨rfl,rfl⟩ | ⟨h1,h2,k⟩
  ·obtain ⟨b',n',cs,e,xs,post,q1,q2,q3,q4,q5,q6,q7⟩:=h.live id _ hm;rw [hi] at q1; simp at q1; obtain ⟨rfl,rfl⟩:=q1;exact ⟨b,n,cs,e,xs,post,self,q2,q3,q4,RL.mono hle _ _ q5,q6,q7⟩
  ·exact (h.live i o k).keep hle fun b' s' n' hb' => ⟨rfl,(h.live i o k).unF hb'⟩
 ·intro i i' o o' b' s n s' n' k k' e1 e2;rcases up i o k with ⟨rfl,rfl⟩ | ⟨h1,h2,q⟩<;>rcases up i' o' k' with ⟨rfl,rfl⟩ | ⟨h1',h2',q'⟩
  ·rfl
  ·rw [self] at e1; simp at e1; obtain ⟨rfl,rfl,rfl⟩:=e1;exact (h2' (h.inj i' id o' _ _ _ _ _ _ q' hm (isnew _ _ e2 h1') hi)).elim
  ·rw [self] at e2; simp at e2; obtain ⟨rfl,rfl,rfl⟩:=e2;exact (h2 (h.inj i id o _ _ _ _ _ _ q hm (isnew _ _ e1 h1) hi)).elim
  ·exact h.inj i i' o o' b' s n s' n' q q' (isnew _ _ e1 h1) (isnew _ _ e2 h1')
 ·rintro b' ⟨i,o,s,n,k,e⟩;rcases up i o k with ⟨rfl,rfl⟩ | ⟨h1,h2,k⟩
  ·rw [self] at e; simp at e; obtain ⟨rfl,rfl,rfl⟩:=e; exact .inr ⟨id,_,sz,_,hm,hi⟩
  ·exact .inr ⟨i,o,s,n,k,isnew _ _ e h1⟩
theorem RS.heap {g:G} {m:Hm} {w w':World} (h:RS g m w) (hs:Still w w') (hh:w'.heap=w.heap):RS g m w'∧Ext g m w g m w':=by
 refine ⟨⟨fun b cs k => by rw [hh]; exact h.fro b cs k,fun id o k => ?_,h.inj,h.tab⟩,⟨by rw [hh]; exact Nat.le_refl _,fun _ _ _ => by rw [hh],.refl g,fun _ k => .inr k,fun _ _ k => .inl k,hs.os,hs.tape,hs.output⟩⟩;exact (h.live id o k).keep (.refl g) fun b s n hb => ⟨by rw [hh],(h.live id o k).unF hb⟩
/-! ### Cells -/
def CAt (w:World) (b o:Nat) (xs:List Value):Prop:=∃ cs e fr pre post,w.heap[b]?=some (.cells cs e fr)∧cs.toList=pre++xs++post∧pre.length=o
theorem FAt.cells {g:G} {m:Hm} {w:World} (h:RS g m w) {b o:Nat} {xs:List Value} (k:FAt g b o xs):CAt w b o xs:=by
 obtain ⟨pre,post,e,l⟩:=k;obtain ⟨t,fr,h1⟩:=h.fro b _ e;exact ⟨_,t,fr,pre,post,h1,by simp,l⟩
theorem FAt.sub {g:G} {b o:Nat} {az xs bs:List Value} (k:FAt g b o (az++xs++bs)):FAt g b (o+az.length) xs:=by
 obtain ⟨pre,post,e,l⟩:=k;exact ⟨pre++az,bs++post,by simpa using e,by simp [l]⟩
theorem CAt.sub {w:World} {b o:Nat} {az xs bs:List Value} (k:CAt w b o (az++xs++bs)):CAt w b (o+az.length) xs:=by
 obtain ⟨cs,e,fr,pre,post,h,h1,l⟩:=k;exact ⟨cs,e,fr,pre++az,bs++post,h,by simpa using h1,by simp [l]⟩
theorem a5g (b o n:Nat):(⟨b,o,none⟩:Addr).add n=⟨b,o+n,none⟩:=by unfold Addr.add; split<;>simp_all
theorem CAt.cell {w:World} {b o:Nat} {xs:List Value} (k:CAt w b o xs) {j:Nat} {v:Value} (h:xs[j]?=some v):w.cell? ⟨b,o+j,none⟩=some v:=by
 obtain ⟨cs,e,fr,pre,post,h1,h2,l⟩:=k;simp only [World.cell?,h1];have:cs[o+j]?=cs.toList[o+j]?:=by simp
 simp only [Option.isSome_none,Bool.false_eq_true,if_false];rw [this,h2,List.append_assoc,← l,List.getElem?_append_right (by omega)];have hj:j < xs.length:=(List.getElem?_eq_some_iff.1 h).1;rw [show pre.length+j - pre.length=j by omega,List.getElem?_append_left hj]; exact h
theorem CAt.cell' {w:World} {b o:Nat} {xs:List Value} (k:CAt w b o xs) {j:Nat} {v:Value} (h:xs[j]?=some v):w.cell? ((⟨b,o,none⟩:Addr).add j)=some v:=by
 rw [a5g]; exact k.cell h
theorem CAt.loads {P:Program} {w:World} {b o:Nat} {xs:List Value} (k:CAt w b o xs):(loadCells ⟨b,o,none⟩ xs.length).run P w=.ok xs.toArray w :=
 run_loadCells_list w _ xs fun _ _ h => k.cell' h
def aggK (P:Program) (t:TypeId):Option (Option Nat) :=
 match P.underlying t with
 | some (.struct _) | some (.array _ _) => (P.info? t).map fun i => some i.size
 | some _ => if (P.info? t).map (·.size)=some 1 then some none else none
 | none => none
theorem c6u {P:Program} {t:TypeId} {n:Nat} (h:aggK P t=some (some n)) :
  ∃ i d,P.info? t=some i∧i.size=n∧P.underlying t=some d∧((∃ fs,d=.struct fs)∨∃ k e,d=.array k e):=by
 unfold aggK at h;split at h
 ·rename_i fs hu;cases hi:P.info? t with
  | none => simp [hi] at h
  | some i => simp [hi] at h; exact ⟨i,_,rfl,h,hu,.inl ⟨_,rfl⟩⟩
 ·rename_i k e hu;cases hi:P.info? t with
  | none => simp [hi] at h
  | some i => simp [hi] at h; exact ⟨i,_,rfl,h,hu,.inr ⟨_,_,rfl⟩⟩
 ·split at h<;>simp at h
 ·simp at h
theorem d4e {P:Program} {t:TypeId} (h:aggK P t=some none) :
  ∃ i d,P.info? t=some i∧i.size=1∧P.underlying t=some d∧(∀ fs,d≠.struct fs)∧∀ k e,d≠.array k e:=by
 unfold aggK at h;split at h
 ·simp at h
 ·simp at h
 ·rename_i d hd1 hd2 hu;split at h
  ·rename_i h1;cases hi:P.info? t with
   | none => simp [hi] at h1
   | some i => simp [hi] at h1; exact ⟨i,_,rfl,h1,hu,fun fs e => hd1 fs e,fun k e e' => hd2 k e e'⟩
  ·simp at h
 ·simp at h
theorem a4v {P:Program} {t:TypeId} {n:Nat} (h:aggK P t=some (some n)) (w:World):(isAgg t).run P w=.ok true w∧(sizeOf t).run P w=.ok n w:=by
 obtain ⟨i,d,h1,h2,h3,h4⟩:=c6u h;constructor
 ·rcases h4 with ⟨fs,rfl⟩ | ⟨k,e,rfl⟩<;>simp [isAgg,run_underlying h3]
 ·simp [sizeOf,typeInfo,h1,h2]
theorem a4w {P:Program} {t:TypeId} (h:aggK P t=some none) (w:World):(isAgg t).run P w=.ok false w∧(sizeOf t).run P w=.ok 1 w:=by
 obtain ⟨i,d,h1,h2,h3,h4,h5⟩:=d4e h;constructor
 ·cases d<;>simp_all [isAgg,run_underlying h3]
 ·simp [sizeOf,typeInfo,h1,h2]
theorem RC.drop {g:G}:∀ {l:List V} {xs:List Value} (k:Nat),RC g l xs→RC g (l.drop k) (xs.drop k)
 | l,xs,0,h => by simpa using h
 | [],_,k+1,h => by simp only [RC] at h; subst h; simp [RC]
 | v::vs,_,k+1,h => by simp only [RC] at h; obtain ⟨y,ys,rfl,_,h2⟩:=h; simpa using RC.drop k h2
theorem RC.take {g:G}:∀ {l:List V} {xs:List Value} (k:Nat),RC g l xs→RC g (l.take k) (xs.take k)
 | l,xs,0,h => by simp [RC]
 | [],_,k+1,h => by simp only [RC] at h; subst h; simp [RC]
 | v::vs,_,k+1,h => by
  simp only [RC] at h; obtain ⟨y,ys,rfl,h1,h2⟩:=h;simp only [List.take_succ_cons,RC]; exact ⟨y,_,rfl,h1,RC.take k h2⟩
theorem b5o {α:Type} (xs:List α) (off n:Nat) (h:off+n≤xs.length):xs=xs.take off++(xs.drop off).take n++xs.drop (off+n):=by
 rw [List.append_assoc,← List.drop_drop,List.take_append_drop,List.take_append_drop]
theorem b3l {P:Program} {g:G} {w:World} {b o off:Nat} {e v:V} {y:Value} {k:Option Nat} {t:TypeId} (hk:aggK P t=some k) (he:R g e y) (hc:CAt w b o y.cells.toList)
  (h:getC k off e=some v):∃ x,(loadVar t ⟨b,o+off,none⟩).run P w=.ok x w∧R g v x:=by
 cases k with
 | none =>
  obtain ⟨h1,h2⟩:=a4w hk w;cases e with
  | agg l =>
   simp only [getC] at h;simp only [R] at he;obtain ⟨xs,rfl,e1,e2⟩:=he;obtain ⟨x,e3,e4⟩:=e1.get h;refine ⟨x, ?_,e4⟩;have e5:=hc.cell (j:=off) (v:=x) (by simpa [Value.cells] using e3);simp [loadVar,h1,e5]
  | _ =>
   cases off<;>simp only [getC] at h<;>simp at h
   all_goals
    obtain ⟨_,rfl⟩:=h;refine ⟨y, ?_,he⟩;have hs:=he.cells_size;have hy:y.cells.toList=[y]:=by
     cases y<;>first | rfl | (simp [R,Value.oneCell'] at he)
    have e5:=hc.cell (j:=0) (v:=y) (by rw [hy]; rfl);simp only [Nat.add_zero] at e5;simp [loadVar,h1,e5]
 | some n =>
  obtain ⟨h1,h2⟩:=a4v hk w;cases e with
  | agg l =>
   simp only [getC] at h;split at h
   ·rename_i hn;simp at h; subst h;simp only [R] at he;obtain ⟨xs,rfl,e1,e2⟩:=he;have hl:=e1.length;have hc':CAt w b (o+off) ((xs.toList.drop off).take n):=by
     have:=hc;simp only [Value.cells] at this;rw [b5o xs.toList off n (by omega)] at this;have:=this.sub;rwa [List.length_take,Nat.min_eq_left (by omega)] at this
    have hlen:((xs.toList.drop off).take n).length=n:=by rw [List.length_take,List.length_drop]; omega
    have h3:=hc'.loads (P:=P);rw [hlen] at h3;refine ⟨.agg ((xs.toList.drop off).take n).toArray,by simp [loadVar,h1,h2,h3], ?_⟩;simp only [R];exact ⟨_,rfl,by simpa using (e1.drop off).take n,fun v hv => e2 v (List.mem_of_mem_drop (List.mem_of_mem_take hv))⟩
   ·cases h
  | _ => cases off<;>simp [getC] at h
section
section
variable {P:Program} {dl:List (Option Nat)} {L:Src→Option V} {H:Hp} {K:KI} {dst:Option Tmp} {ty:TypeId} {pos:String} {after:Array Edge} {gu:Option (Nat×Bool)}
theorem s_un {op:UnOp} {t:TypeId} {x:Operand} {x':Src} (h1:cs dl x x'=true) (h:evI P L H K (.un op x')):a0m P dl L H ⟨dst,.unOp op t x,ty,pos,after,gu⟩ (.un op x') K:=by
 simp only [evI] at h; obtain ⟨u,e1,hA⟩:=a0f h; clear h;have key:∀ r:V,K r [] [] 0→r.plain=true→(∀ g (z:Value),R g u z→∀ w,(Op.unary op z).run P w=.ok r.val w)→a0m P dl L H ⟨dst,.unOp op t x,ty,pos,after,gu⟩ (.un op x') K:=fun r hk hp hb =>
  a0q hk fun g a w hr => ⟨r.val,by simp [execOp,hb g _ (hr x (by simp [Op.operands]) _ _ h1 e1) w],d4d hp⟩
 cases op<;>cases u<;>try exact hA.elim
 ·exact key _ hA rfl fun g z r w => by simp only [R] at r; subst r; simp [Op.unary,Op.intArith,V.val]
 ·exact key _ hA rfl fun g z r w => by simp only [R] at r; subst r; simp [Op.unary,Op.intBits,V.val,a4s]
 ·exact key _ hA rfl fun g z r w => by simp only [R] at r; subst r; simp [Op.unary,V.val]
theorem e8s {src d:TypeId} {ud:TypeDesc} {k:IntKind} {x:Operand} {x':Src} (hs:P.underlying src=some ud) (hd:P.underlying d=some (.int k)) (h1:cs dl x x'=true) (h:evI P L H K (.cvt k x')) :
  a0m P dl L H ⟨dst,.convert src d x,ty,pos,after,gu⟩ (.cvt k x') K:=by
 simp only [evI] at h; obtain ⟨u,e1,hA⟩:=a0f h; clear h;cases u<;>try exact hA.elim
 refine a0q hA fun g a w hr => ?_;have:=hr x (by simp [Op.operands]) _ _ h1 e1;simp only [R] at this;exact ⟨_,by simp [execOp,this,convert,run_underlying hs,run_underlying hd,Conv.intToInt]; rfl,by simp [R]⟩
theorem e6s {src d:TypeId} {x:Operand} {x':Src} (hs:(P.underlying src).isSome=true) (hd:P.underlying d=some .string) (h1:cs dl x x'=true) (h:evI P L H K (.same x')) :
  a0m P dl L H ⟨dst,.convert src d x,ty,pos,after,gu⟩ (.same x') K:=by
 simp only [evI] at h; obtain ⟨u,e1,hA⟩:=a0f h; clear h;cases u<;>try exact hA.elim
 rename_i s;obtain ⟨ud,hu⟩:=Option.isSome_iff_exists.1 hs;refine a0q hA fun g a w hr => ?_;have:=hr x (by simp [Op.operands]) _ _ h1 e1;simp only [R] at this;exact ⟨_,by cases ud<;>simp [execOp,this,convert,run_underlying hu,run_underlying hd]; all_goals rfl,by simp [R]⟩
theorem e9i {t:TypeId} {x:Operand} {x':Src} (ht:∃ d,P.underlying t=some d∧∀ ms,d≠.interface ms) (h1:cs dl x x'=true) (h:evI P L H K (.mki t x')) :
  a0m P dl L H ⟨dst,.makeInterface t x,ty,pos,after,gu⟩ (.mki t x') K:=by
 simp only [evI] at h; obtain ⟨u,e1,hA⟩:=a0f h; clear h;obtain ⟨d,hd,hi⟩:=ht;refine a0q hA fun g a w hr => ?_;have:=hr x (by simp [Op.operands]) _ _ h1 e1;refine ⟨.iface t (a.eval x), ?_,by simp only [R]; exact ⟨_,rfl,this⟩⟩;cases d<;>first | exact absurd rfl (hi _) | simp [execOp,Instr.makeInterface,run_underlying hd]
theorem e7z {x:Operand} {x':Src} {i:Nat} (h1:cs dl x x'=true) (h:evI P L H K (.ext x' i)):a0m P dl L H ⟨dst,.extract x i,ty,pos,after,gu⟩ (.ext x' i) K:=by
 simp only [evI] at h; obtain ⟨u,e1,hA⟩:=a0f h; clear h;cases u<;>try exact hA.elim
 obtain ⟨v,e2,hB⟩:=a0f hA;refine a0q hB fun g a w hr => ?_;have:=hr x (by simp [Op.operands]) _ _ h1 e1;simp only [R] at this;obtain ⟨xs,e3,e4⟩:=this;obtain ⟨y,e5,e6⟩:=e4.get e2;exact ⟨y,by simp [execOp,e3,Instr.extract,show xs[i]?=some y by simpa using e5],e6⟩
theorem e8g {f:Nat} {fs cs':Array Operand} {fs' cs'':List Src} (h1:csL dl fs.toList fs'=true) (h2:csL dl cs'.toList cs''=true) (h:evI P L H K (.mkf f fs' cs'')) :
  a0m P dl L H ⟨dst,.makeFunc (.func f) fs cs',ty,pos,after,gu⟩ (.mkf f fs' cs'') K:=by
 simp only [evI] at h;obtain ⟨vs,hA,l1,k1⟩:=a4o h;obtain ⟨us,hB,l2,k2⟩:=a4o hA;refine a0q hB fun g a w hr => ⟨.func (.func f) (fs.map a.eval) (cs'.map a.eval),by simp [execOp,Instr.makeFunc], ?_⟩;simp only [R];refine ⟨_,_,rfl, ?_, ?_⟩
 ·rw [Array.toList_map]; exact b2u hr h1 (fun y hy => by simp [Op.operands]; simp at hy; exact .inl hy) l1 k1
 ·rw [Array.toList_map]; exact b2u hr h2 (fun y hy => by simp [Op.operands]; simp at hy; exact .inr hy) l2 k2
theorem e8v {x:Operand} {x':Src} (h1:cs dl x x'=true) (h:evI P L H K (.nck x')):a0m P dl L H ⟨dst,.nilCheck x,ty,pos,after,gu⟩ (.nck x') K:=by
 simp only [evI] at h; obtain ⟨u,e1,hA⟩:=a0f h; clear h;cases u<;>try exact hA.elim
 all_goals
  refine a0q hA fun g a w hr => ?_;have:=hr x (by simp [Op.operands]) _ _ h1 e1;refine ⟨a.eval x, ?_,this⟩;simp only [R] at this
 ·obtain ⟨b,sz,n,_,e⟩:=this; simp [execOp,e]
 ·obtain ⟨b,o,y,_,_,e⟩:=this; simp [execOp,e]
theorem e9m {x:Operand} {x':Src} {t:TypeId} {str:Bool} (ht:if str then P.underlying t=some .string else ∃ e,P.underlying t=some (.slice e))
    (h1:cs dl x x'=true) (h:evI P L H K (.len str x')):a0m P dl L H ⟨dst,.call { callee:=.builtin .len,args:=#[x],argTypes:=#[t] },ty,pos,after,gu⟩ (.len str x') K:=by
  simp only [evI] at h; obtain ⟨u,e1,hA⟩:=a0f h; clear h
  have key:∀ r:V,K r [] [] 0→r.plain=true→(∀ g (z:Value),R g u z→∀ w,(Builtin.len_ #[t] ty #[z]).run P w=.ok r.val w) →
      a0m P dl L H ⟨dst,.call { callee:=.builtin .len,args:=#[x],argTypes:=#[t] },ty,pos,after,gu⟩ (.len str x') K:=fun r hk hp hb =>
    a0q hk fun g a w hr => ⟨r.val,by
      have:=hb g _ (hr x (by simp [Op.operands,Call.operands]) _ _ h1 e1) w
      simp [execOp,resolve,invoke,builtin,this],d4d hp⟩
  cases str
  · simp only [Bool.false_eq_true,if_false] at ht
    obtain ⟨e,hu⟩:=ht
    cases u<;>try exact hA.elim
    · exact key _ hA rfl fun g z r w => by
        simp only [R] at r; obtain ⟨b,sz,n,q,cap,_,rfl,_⟩:=r
        simp [Builtin.len_,run_underlying hu,goInt,V.val]
    · exact key _ hA rfl fun g z r w => by
        simp only [R] at r; obtain ⟨q,cap,xs,rfl,_⟩:=r
        simp [Builtin.len_,run_underlying hu,goInt,V.val]
    · exact key _ hA rfl fun g z r w => by
        simp only [R] at r; obtain ⟨b,sz,n,q,_,rfl,_⟩:=r
        simp [Builtin.len_,run_underlying hu,goInt,V.val]
  · simp only [if_true] at ht
    cases u<;>try exact hA.elim
    exact key _ hA rfl fun g z r w => by
      simp only [R] at r; subst r
      simp only [Builtin.len_,V.val]
      simp [run_underlying ht,goInt]
      rfl
theorem e9c {x:Operand} {x':Src} {t e:TypeId} (hu:P.underlying t=some (.slice e)) (h1:cs dl x x'=true) (h:evI P L H K (.cap x')) :
  a0m P dl L H ⟨dst,.call { callee:=.builtin .cap,args:=#[x],argTypes:=#[t] },ty,pos,after,gu⟩ (.cap x') K:=by
 simp only [evI] at h; obtain ⟨u,e1,hA⟩:=a0f h; clear h;cases u<;>try exact hA.elim
 rename_i id off len c;refine a0q hA fun g a w hr => ⟨.int .i64 c, ?_,by simp [R]⟩;have r:=hr x (by simp [Op.operands,Call.operands]) _ _ h1 e1;simp only [R] at r; obtain ⟨b,sz,n,q,_,e2,_⟩:=r;simp [execOp,resolve,invoke,builtin,e2,Builtin.cap_,run_underlying hu,goInt]
theorem e8w {mx:Bool} {x:Operand} {ys:List Operand} {x':Src} {ys':List Src} {ts:Array TypeId} (h1:cs dl x x'=true) (h2:csL dl ys ys'=true) (h:evI P L H K (.mnx mx x' ys')) :
  a0m P dl L H ⟨dst,.call { callee:=.builtin (if mx then .max else .min),args:=(x::ys).toArray,argTypes:=ts },ty,pos,after,gu⟩ (.mnx mx x' ys') K:=by
 simp only [evI] at h; obtain ⟨u,e1,hA⟩:=a0f h; clear h;obtain ⟨vs,⟨hi,hB⟩,l,k⟩:=a4o hA;have ex:∃ r:V,K r [] [] 0∧r.plain=true∧∀ (g:G) (z:Value) (zs:List Value) (w:World),R g u z→RC g vs zs→(zs.foldlM (if mx then Builtin.max2 else Builtin.min2) z).run P w=.ok r.val w:=by
  clear hA k l e1 h1 h2
  induction vs generalizing u with
  | nil =>
   obtain ⟨k,n,rfl⟩:=hi;exact ⟨_,hB,rfl,fun g z zs w r c => by simp only [RC] at c; subst c; simp only [R] at r; subst r; simp [V.val]⟩
  | cons y vs ih =>
   obtain ⟨k,n,rfl⟩:=hi;cases y<;>try exact hB.elim
   rename_i k' b;simp only [mnxV] at hB;obtain ⟨rfl,hB⟩:=hB;obtain ⟨r,h1,h2,h3⟩:=ih _ ⟨_,_,rfl⟩ hB;refine ⟨r,h1,h2,fun g z zs w r' c => ?_⟩;simp only [RC] at c; obtain ⟨q,qs,rfl,c1,c2⟩:=c;simp only [R] at c1 r'; subst c1; subst r';have:=h3 g _ qs w (by simp [R]; rfl) c2;cases mx
   ·simp only [Bool.false_eq_true,if_false,List.foldlM_cons,Sem.run_bind,Builtin.min2,Sem.run_pure,Result.andThen_ok] at this ⊢;exact this
   ·simp only [if_true,List.foldlM_cons,Sem.run_bind,Builtin.max2,Sem.run_pure,Result.andThen_ok] at this ⊢;exact this
 obtain ⟨r,k1,k2,k3⟩:=ex;refine a0q k1 fun g a w hr => ⟨r.val, ?_,d4d k2⟩;have q1:=hr x (by cases mx<;>simp [Op.operands,Call.operands]) _ _ h1 e1;have q2:=b2u hr h2 (fun y hy => by cases mx<;>simp [Op.operands,Call.operands,hy]) l k;have q3:=k3 g _ _ w q1 q2;cases mx<;>simp at q3<;>simp [execOp,resolve,invoke,builtin,Builtin.min_,Builtin.max_,q3]
def a7b (P:Program) (s:TypeId) (i:Nat):Option (Nat×TypeId) :=
 match P.underlying s with
 | some (.struct fs) => (match fs[i]? with
  | some f => (match P.info? f.type with | some inf => if inf.size=0 then none else some (f.offset,f.type) | none => none)
  | none => none)
 | _ => none
theorem a8n {s:TypeId} {i off:Nat} {t:TypeId} (h:a7b P s i=some (off,t)) :
  ∃ fs f inf,P.underlying s=some (.struct fs)∧fs[i]?=some f∧f.offset=off∧f.type=t∧P.info? t=some inf∧inf.size≠0:=by
 unfold a7b at h;split at h
 ·rename_i fs hu;split at h
  ·rename_i f hf;split at h
   ·rename_i inf hi;split at h
    ·cases h
    ·rename_i hz;simp at h; obtain ⟨rfl,rfl⟩:=h;exact ⟨fs,f,inf,hu,hf,rfl,rfl,hi,hz⟩
   ·cases h
  ·cases h
 ·cases h
theorem e8o {s:TypeId} {i off:Nat} {t:TypeId} {x:Operand} {x':Src} (hf:a7b P s i=some (off,t)) (h1:cs dl x x'=true) (h:evI P L H K (.fad off x')) :
  a0m P dl L H ⟨dst,.fieldAddr s x i,ty,pos,after,gu⟩ (.fad off x') K:=by
 obtain ⟨fs,f,inf,hu,hfi,rfl,rfl,hi,hz⟩:=a8n hf;have run:∀ (b o:Nat) (w:World),(Instr.fieldAt s (.pointer (some ⟨b,o,none⟩)) i).run P w=.ok (.pointer (some ⟨b,o+f.offset,none⟩)) w:=fun b o w => by
  simp [Instr.fieldAt,run_underlying hu,hfi,Instr.sureAddr,fieldPlace,sizeOf,typeInfo,hi,hz,a5g]
 simp only [evI] at h; obtain ⟨u,e1,hA⟩:=a0f h; clear h;cases u<;>try exact hA.elim
 ·refine a0q hA fun g a w hr => ?_;have:=hr x (by simp [Op.operands]) _ _ h1 e1;simp only [R] at this;obtain ⟨b,sz,n,e2,e3⟩:=this;exact ⟨_,by simp only [execOp,e3,Sem.run_bind,run,Result.andThen_ok]; rfl,by simp only [R]; exact ⟨b,sz,n,e2,by rw [Nat.add_assoc]⟩⟩
 ·refine a0q hA fun g a w hr => ?_;have:=hr x (by simp [Op.operands]) _ _ h1 e1;simp only [R] at this;obtain ⟨b,o,y,e2,e3,e4⟩:=this;exact ⟨_,by simp only [execOp,e4,Sem.run_bind,run,Result.andThen_ok]; rfl,by simp only [R]; exact ⟨b,o,y,e2,e3,by rw [Nat.add_assoc]⟩⟩
theorem e8m {s:TypeId} {i off:Nat} {t:TypeId} {k:Option Nat} {x:Operand} {x':Src} (hf:a7b P s i=some (off,t)) (hk:aggK P t=some k) (h1:cs dl x x'=true) (h:evI P L H K (.fld off k x')) :
  a0m P dl L H ⟨dst,.field s x i,ty,pos,after,gu⟩ (.fld off k x') K:=by
 obtain ⟨fs,f,inf,hu,hfi,rfl,rfl,hi,hz⟩:=a8n hf;simp only [evI] at h; obtain ⟨u,e1,hA⟩:=a0f h; clear h;cases u<;>try exact hA.elim
 rename_i l;obtain ⟨v,e2,hB⟩:=a0f hA;refine a0q hB fun g a w hr => ?_;have he:=hr x (by simp [Op.operands]) _ _ h1 e1;simp only [R] at he;obtain ⟨xs,e3,e4,e5⟩:=he;cases k with
 | none =>
  obtain ⟨q1,q2⟩:=a4w hk w;simp only [getC] at e2;obtain ⟨y,e6,e7⟩:=e4.get e2;exact ⟨y,by simp [execOp,e3,Instr.field,run_underlying hu,hfi,asAgg,part,q1,show xs[f.offset]?=some y by simpa using e6],e7⟩
 | some n =>
  obtain ⟨q1,q2⟩:=a4v hk w;simp only [getC] at e2;split at e2
  ·rename_i hn;simp at e2; subst e2;refine ⟨.agg (xs.extract f.offset (f.offset+n)),by simp [execOp,e3,Instr.field,run_underlying hu,hfi,asAgg,part,q1,q2], ?_⟩;simp only [R];refine ⟨_,rfl, ?_,fun v hv => e5 v (List.mem_of_mem_drop (List.mem_of_mem_take hv))⟩;have:=(e4.drop f.offset).take n;rw [Array.toList_extract];rw [List.extract_eq_take_drop,show f.offset+n - f.offset=n by omega];exact this
  ·cases e2
theorem e8d {t:TypeId} {x i:Operand} {x' i':Src} (ht:P.underlying t=some .string) (h1:cs dl x x'=true) (h2:cs dl i i'=true) (h:evI P L H K (.ixs x' i')) :
  a0m P dl L H ⟨dst,.index t x i,ty,pos,after,gu⟩ (.ixs x' i') K:=by
 simp only [evI] at h; obtain ⟨u,e1,hA⟩:=a0f h; clear h; obtain ⟨v,e2,hB⟩:=a0f hA; clear hA;cases u<;>cases v<;>try exact hB.elim
 rename_i s k n;obtain ⟨h0,b,hb,hK⟩:=hB;refine a0q hK fun g a w hr => ?_;have q1:=hr x (by simp [Op.operands]) _ _ h1 e1;have q2:=hr i (by simp [Op.operands]) _ _ h2 e2;simp only [R] at q1 q2;have hb':(⟨s.toArray⟩:ByteArray)[n.toNat]?=some b:=by
  have hl:=(List.getElem?_eq_some_iff.1 hb).1;have he:=(List.getElem?_eq_some_iff.1 hb).2;have hs:n.toNat < (⟨s.toArray⟩:ByteArray).size:=by simpa [ByteArray.size] using hl
  rw [getElem?_pos (⟨s.toArray⟩:ByteArray) n.toNat hs];congr 1
 refine ⟨.int .u8 b.toNat, ?_,by simp [R]⟩;simp [execOp,q1,q2,Instr.index,asIntOf,run_underlying ht,h0,hb']
theorem e9d {t:TypeId} {x:Operand} {lo hi:Option Operand} {x':Src} {lo' hi':Option Src} (ht:P.underlying t=some .string) (h1:cs dl x x'=true) (h2:csO dl lo lo'=true) (h3:csO dl hi hi'=true)
  (h:evI P L H K (.sls x' lo' hi')):a0m P dl L H ⟨dst,.slice t x lo hi none,ty,pos,after,gu⟩ (.sls x' lo' hi') K:=by
 simp only [evI] at h; obtain ⟨u,e1,hA⟩:=a0f h; clear h;have ex:∃ (s:List UInt8) (a b:Nat),u=.str s∧a≤b∧b≤s.length∧K (.str ((s.take b).drop a)) [] [] 0 ∧
   (∀ (σ:Act) (g:G),Rel dl L (lo.toList++hi.toList) g σ→∀ w,(Instr.sliceBounds false s.length s.length (lo.map σ.eval) (hi.map σ.eval) none).run P w=.ok (a,b,s.length) w):=by
  cases lo' with
  | none =>
   cases lo<;>simp [csO] at h2;simp only [wo] at hA;cases hi' with
   | none =>
    cases hi<;>simp [csO] at h3;simp only [wo] at hA;cases u<;>simp only [c0f] at hA<;>try exact hA.elim
    rename_i s;simp only [bnd] at hA;exact ⟨s,0,s.length,rfl,hA.1,hA.2.1,hA.2.2,fun σ g _ w => by simp [Instr.sliceBounds]⟩
   | some hi' =>
    cases hi<;>simp [csO] at h3;rename_i hi;simp only [wo] at hA;obtain ⟨v,e3,hA'⟩:=a0f hA; clear hA; have hA:=hA'; clear hA';cases u<;>simp only [c0f] at hA<;>try exact hA.elim
    rename_i s;cases v<;>simp only [bnd] at hA<;>try exact hA.elim
    rename_i k n;obtain ⟨h0,q1,q2,q3⟩:=hA;refine ⟨s,0,n.toNat,rfl,q1,q2,q3,fun σ g hr w => ?_⟩;have:=hr hi (by simp) _ _ h3 e3;simp only [R] at this;simp [Instr.sliceBounds,Instr.sliceBound,this,asIntOf,h0,show n≤(s.length:Int) by omega]
  | some lo' =>
   cases lo<;>simp [csO] at h2;rename_i lo;simp only [wo] at hA;obtain ⟨v,e3,hA'⟩:=a0f hA; clear hA; have hA:=hA'; clear hA';cases hi' with
   | none =>
    cases hi<;>simp [csO] at h3;simp only [wo] at hA;cases u<;>simp only [c0f] at hA<;>try exact hA.elim
    rename_i s;cases v<;>simp only [bnd] at hA<;>try exact hA.elim
    rename_i k n;obtain ⟨h0,q1,q2,q3⟩:=hA;refine ⟨s,n.toNat,s.length,rfl,q1,q2,q3,fun σ g hr w => ?_⟩;have:=hr lo (by simp) _ _ h2 e3;simp only [R] at this;simp [Instr.sliceBounds,Instr.sliceBound,this,asIntOf,h0,show n≤(s.length:Int) by omega]
   | some hi' =>
    cases hi<;>simp [csO] at h3;rename_i hi;simp only [wo] at hA;obtain ⟨v',e4,hA'⟩:=a0f hA; clear hA; have hA:=hA'; clear hA';cases u<;>simp only [c0f] at hA<;>try exact hA.elim
    rename_i s;cases v<;>simp only [bnd] at hA<;>try exact hA.elim
    rename_i k n;cases v'<;>simp only [bnd] at hA<;>try (exact hA.2.elim)
    rename_i k' n';obtain ⟨h0,h0',q1,q2,q3⟩:=hA;refine ⟨s,n.toNat,n'.toNat,rfl,q1,q2,q3,fun σ g hr w => ?_⟩;have t1:=hr lo (by simp) _ _ h2 e3;have t2:=hr hi (by simp) _ _ h3 e4;simp only [R] at t1 t2;simp [Instr.sliceBounds,Instr.sliceBound,t1,t2,asIntOf,h0,h0',show n'≤(s.length:Int) by omega,show n≤((n'.toNat:Nat):Int) by omega];intro hh; omega
 obtain ⟨s,a,b,rfl,k1,k2,k3,k4⟩:=ex;refine a0q k3 fun g σ w hr => ?_;have q1:=hr x (by simp [Op.operands]) _ _ h1 e1;simp only [R] at q1;have q2:=k4 σ g (fun y hy => hr y (by simp [Op.operands]; simp at hy; rcases hy with h | h<;>simp [h])) w;refine ⟨.string ((⟨s.toArray⟩:ByteArray).extract a b), ?_, ?_⟩
 ·have hs:(⟨s.toArray⟩:ByteArray).size=s.length:=by simp [ByteArray.size]
  simp [execOp,q1,Instr.sliceAt,Instr.slice,run_underlying ht,hs,q2]
 ·simp only [R];congr 1;apply ByteArray.ext;simp only [ByteArray.data_extract];apply Array.ext';simp [Array.toList_extract,List.extract_eq_take_drop,List.take_drop,Nat.add_sub_cancel' k1]
end
end
section
section
variable {P:Program} {dl:List (Option Nat)} {L:Src→Option V} {H:Hp} {K:KI} {dst:Option Tmp} {ty:TypeId} {pos:String} {after:Array Edge} {gu:Option (Nat×Bool)}
theorem a1s {o:Oper} {i:Ins} {v:V} {fp:List Nat} (hk:i.kind≠0) (hK:K v fp [] 0)
  (h:∀ m g a w,(∀ id∈fp,m id=H.m id)→RS g m w→Rel dl L o.op.operands.toList g a→∃ x,(execOp a.eval o).run P w=.ok (.value x) w∧R g v x):a0m P dl L H o i K:=by
 refine ⟨v,fp,[],0,hK,by simp,fun e => absurd e hk,fun _ => ⟨rfl,rfl⟩,fun m g w a ha _ hs hr ro Kc Q hk => ?_⟩;obtain ⟨x,h1,h2⟩:=h m g a w ha hs hr;exact a0y h1 (hk g x w hs (fun _ _ => rfl) (Ext.refl _ _ _) h2)
theorem b3s {o:Oper} {i:Ins} {v:V} (hK:K v [] [] 0)
  (h:∀ m g a w,RS g m w→Rel dl L o.op.operands.toList g a→∃ x w' cs e fr,(execOp a.eval o).run P w=.ok (.value x) w'∧Still w w'∧w'.heap=w.heap.push (.cells cs e fr)∧R (g.froze w.heap.size cs.toList) v x) :
  a0m P dl L H o i K:=by
 refine ⟨v,[],[],0,hK,by simp,fun _ => ⟨rfl,rfl,rfl⟩,fun _ => ⟨rfl,rfl⟩,fun m g w a _ _ hs hr ro Kc Q hk => ?_⟩;obtain ⟨x,w',cs,e,fr,h1,h2,h3,h4⟩:=h m g a w hs hr;obtain ⟨k1,k2⟩:=hs.new_froze h2 h3;exact a0y h1 (hk _ x w' k1 (fun _ _ => rfl) k2 h4)
theorem b6i {o:Oper} {i:Ins} {v:V} {sz:Nat} {l:List V} (hi:i.kind=2) (hK:K v [] [(H.n,some (.arr sz l))] 1)
  (h:∀ m g a w,RS g m w→Rel dl L o.op.operands.toList g a→∃ x w' cs e xs post,(execOp a.eval o).run P w=.ok (.value x) w'∧Still w w'∧w'.heap=w.heap.push (.cells cs e (0,0)) ∧
   RL g l xs∧(∀ v∈l,v.size=sz)∧(cs.toList=xs++post∧∀ u∈post,u.oneCell'=true)∧R (g.lay H.n w.heap.size sz cs.size) v x) :
  a0m P dl L H o i K:=by
 refine ⟨v,[],[(H.n,some (.arr sz l))],1,hK,by simp,fun e => by omega,fun e => by omega,fun m g w a _ hf hs hr ro Kc Q hk => ?_⟩;obtain ⟨x,w',cs,e,xs,post,h1,h2,h3,h4,h5,h6,h7⟩:=h m g a w hs hr;obtain ⟨k1,k2⟩:=hs.new_live h2 h3 (hf H.n (Nat.le_refl _) (by omega)).1 h4 h5 h6.1 h6.2;refine a0y h1 (hk _ x w' k1 (fun id hid => ?_) k2 h7);simp only [G.lay]; rw [if_neg (fun e => hid (by omega))]
theorem a1e {g:G} {m:Hm} {w:World} (h:RS g m w) {id sz:Nat} {l:List V} (k:m id=some (.arr sz l)):∃ (b n:Nat) (cs:Array Value) (e:TypeId×Nat×Nat) (xs post:List Value),g.ι id=some (b,sz,n)∧w.heap[b]?=some (.cells cs e.1 e.2)∧cs.size=n∧(g.F b=none∧frOk e.2 n) ∧
      RL g l xs∧(∀ v∈l,v.size=sz)∧cs.toList=xs++post∧Tail sz e.2 post:=h.live id _ k
theorem e5v {t:TypeId} {k:Option Nat} {x:Operand} {x':Src} (ht:aggK P t=some k) (h1:cs dl x x'=true) (h:evI P L H K (.load k x')):a0m P dl L H ⟨dst,.load t x,ty,pos,after,gu⟩ (.load k x') K:=by
 simp only [evI] at h; obtain ⟨u,e1,hA⟩:=a0f h; clear h;cases u<;>try exact hA.elim
 ·rename_i id i off;cases ho:H.m id with
  | none => simp [ho] at hA
  | some o =>
   cases o with
   | mp l | md c bs l | it d c ss => simp [ho] at hA
   | arr sz l =>
    simp only [ho] at hA;obtain ⟨e,e2,hB⟩:=a0f hA;obtain ⟨v,e3,hC⟩:=a0f hB;refine a1s (by simp [Ins.kind]) hC fun m g a w hm hs hr => ?_;have q:=hr x (by simp [Op.operands]) _ _ h1 e1;simp only [R] at q;obtain ⟨b,sz',n,q1,q2⟩:=q;obtain ⟨b',n',cs,el,xs,post,p1,p2,p3,p4,p5,p6,p7,p8⟩:=a1e hs ((hm id (by simp)).trans ho);rw [p1] at q1; simp at q1; obtain ⟨rfl,rfl,rfl⟩:=q1;obtain ⟨az,y,bs,r1,r2,r3,_⟩:=p5.get p6 e2;have hc:CAt w b' (i*sz) y.cells.toList:=⟨cs,el.1,_,az,bs++post,p2,by rw [p7,r1]; simp,r2⟩;obtain ⟨z,z1,z2⟩:=b3l (P:=P) ht r3 hc e3;exact ⟨z,by simp [execOp,q2,Instr.loadAt,Instr.sureAddr,z1],z2⟩
 ·obtain ⟨v,e3,hC⟩:=a0f hA;refine a1s (by simp [Ins.kind]) hC fun m g a w hm hs hr => ?_;have q:=hr x (by simp [Op.operands]) _ _ h1 e1;simp only [R] at q;obtain ⟨b,o,y,q1,q2,q3⟩:=q;obtain ⟨z,z1,z2⟩:=b3l (P:=P) ht q1 (q2.cells hs) e3;exact ⟨z,by simp [execOp,q3,Instr.loadAt,Instr.sureAddr,z1],z2⟩
theorem RC.set {g:G}:∀ {l:List V} {xs:List Value} (i:Nat) {v:V} {x:Value},RC g l xs→R g v x→RC g (l.set i v) (xs.set i x)
 | [],_,_,_,_,h,_ => by simp only [RC] at h; subst h; simp [RC]
 | u::us,_,0,v,x,h,r => by simp only [RC] at h; obtain ⟨y,ys,rfl,h1,h2⟩:=h; simp only [List.set_cons_zero,RC]; exact ⟨x,ys,rfl,r,h2⟩
 | u::us,_,i+1,v,x,h,r => by
  simp only [RC] at h; obtain ⟨y,ys,rfl,h1,h2⟩:=h;simp only [List.set_cons_succ,RC]; exact ⟨y,_,rfl,h1,RC.set i h2 r⟩
theorem a6n {g:G} {v:V} {x:Value} (h:R g v x) (hc:v.cell=true):x.oneCell'=true∧x.cells.toList=[x]:=by
 cases v<;>simp [V.cell] at hc<;>simp only [R] at h
 case jk => exact ⟨h,by cases x<;>first | rfl | (simp [Value.oneCell'] at h)⟩
 all_goals first
  | (subst h; exact ⟨rfl,rfl⟩)
  | (obtain ⟨_,_,_,_,_,rfl,_⟩:=h; exact ⟨rfl,rfl⟩)
  | (obtain ⟨_,_,_,_,rfl⟩:=h; exact ⟨rfl,rfl⟩)
  | (obtain ⟨_,_,_,_,_,rfl⟩:=h; exact ⟨rfl,rfl⟩)
  | (obtain ⟨_,_,_,_,_,_,rfl,_⟩:=h; exact ⟨rfl,rfl⟩)
  | (obtain ⟨_,_,_,rfl,_⟩:=h; exact ⟨rfl,rfl⟩)
  | (obtain ⟨_,_,rfl,_⟩:=h; exact ⟨rfl,rfl⟩)
  | (obtain ⟨_,rfl,_⟩:=h; exact ⟨rfl,rfl⟩)
  | (obtain ⟨_,_,rfl⟩:=h; exact ⟨rfl,rfl⟩)
theorem RC.cells {g:G}:∀ {l:List V} {xs:List Value},RC g l xs→(∀ v∈l,v.cell=true)→∀ x∈xs,x.oneCell'=true
 | [],_,h,_,x,hx => by simp only [RC] at h; subst h; cases hx
 | v::vs,_,h,k,x,hx => by
  simp only [RC] at h; obtain ⟨y,ys,rfl,h1,h2⟩:=h;cases hx with
  | head => exact (a6n h1 (k v (by simp))).1
  | tail _ hx => exact RC.cells h2 (fun u hu => k u (by simp [hu])) x hx
def V.okElem (v:V):Prop:=v.cell=true∨∃ l,v=.agg l
theorem b8u {g:G} {v:V} {x:Value} (h:R g v x) (hv:v.okElem):∀ y∈x.cells.toList,y.oneCell'=true:=by
 rcases hv with hv | ⟨l,rfl⟩
 ·obtain ⟨h1,h2⟩:=a6n h hv;rw [h2]; simp [h1]
 ·simp only [R] at h;obtain ⟨xs,rfl,e1,e2⟩:=h;exact e1.cells e2
theorem c3f {g:G} {off:Nat} {e v e':V} {y x:Value} {k:Option Nat} (he:R g e y) (hv:R g v x) (h:setC k off e v=some e') :
  ∃ y',R g e' y'∧e'.size=e.size∧(∀ u∈x.cells.toList,u.oneCell'=true)∧x.cells.size=k.getD 1 ∧
   ∃ p q r,y.cells.toList=p++q++r∧p.length=off∧q.length=k.getD 1∧y'.cells.toList=p++x.cells.toList++r:=by
 cases k with
 | none =>
  cases e with
  | agg l =>
   simp only [setC] at h;split at h
   ·rename_i hc;simp at h; subst h;simp only [R] at he;obtain ⟨xs,rfl,e1,e2⟩:=he;have hl:xs.size=l.length:=by simpa using e1.length
    obtain ⟨c1,c2⟩:=a6n hv hc.2;refine ⟨.agg (xs.toList.set off x).toArray, ?_,by simp [V.size],by rw [c2]; simp [c1],by rw [← Array.length_toList,c2]; rfl,xs.toList.take off,(xs.toList.drop off).take 1,xs.toList.drop (off+1), ?_, ?_, ?_, ?_⟩
    ·simp only [R];refine ⟨_,rfl,by simpa using e1.set off hv,fun u hu => ?_⟩;rcases List.mem_or_eq_of_mem_set hu with hu | rfl
     ·exact e2 u hu
     ·exact hc.2
    ·simpa [Value.cells] using b5o xs.toList off 1 (by simp; omega)
    ·simp; omega
    ·simp; omega
    ·rw [c2]
     show xs.toList.set off x=_;rw [List.set_eq_take_append_cons_drop,if_pos (by simp; omega)];simp
   ·cases h
  | _ =>
   cases off<;>simp only [setC] at h<;>simp at h
   all_goals
    obtain ⟨⟨hc,hc'⟩,rfl⟩:=h;obtain ⟨c1,c2⟩:=a6n hv hc';obtain ⟨d1,d2⟩:=a6n he hc;refine ⟨x,hv, ?_,by rw [c2]; simp [c1],by rw [← Array.length_toList,c2]; rfl,[],[y],[],by simpa using d2,rfl,rfl,by simp⟩;cases v<;>simp [V.cell] at hc'<;>simp [V.size]
 | some n =>
  cases e<;>try (cases off<;>simp [setC] at h; done)
  rename_i l;cases v<;>try (simp [setC] at h; done)
  rename_i ys;simp only [setC] at h;split at h
  ·rename_i hc;simp at h; subst h;simp only [R] at he hv;obtain ⟨xs,rfl,e1,e2⟩:=he;obtain ⟨zs,rfl,d1,d2⟩:=hv;have hl:xs.size=l.length:=by simpa using e1.length
   have hl2:zs.size=ys.length:=by simpa using d1.length
   refine ⟨.agg (xs.toList.take off++zs.toList++xs.toList.drop (off+n)).toArray, ?_, ?_,d1.cells d2,by simp only [Value.cells,Option.getD_some]; omega,xs.toList.take off,(xs.toList.drop off).take n,xs.toList.drop (off+n), ?_, ?_, ?_, ?_⟩
   ·simp only [R];refine ⟨_,rfl,by simpa using ((e1.take off).append d1).append (e1.drop (off+n)),fun u hu => ?_⟩;rcases List.mem_append.1 hu with hu | hu
    ·exact e2 u (List.mem_of_mem_take hu)
    ·rcases List.mem_append.1 hu with hu | hu
     ·exact d2 u hu
     ·exact e2 u (List.mem_of_mem_drop hu)
   ·simp [V.size]; omega
   ·simpa [Value.cells] using b5o xs.toList off n (by simp; omega)
   ·simp; omega
   ·simp; omega
   ·simp [Value.cells]
  ·cases h
theorem c5e {off:Nat} {e v e':V} {k:Option Nat} (h:setC k off e v=some e'):e'.isEl=true:=by
 cases k with
 | none =>
  cases e with
  | agg l => simp only [setC] at h; split at h<;>simp at h; subst h; rfl
  | _ =>
   cases off<;>simp only [setC] at h<;>simp at h
   all_goals (obtain ⟨⟨_,hc⟩,rfl⟩:=h; cases v<;>first | rfl | cases hc)
 | some n =>
  cases e<;>try (cases off<;>simp [setC] at h; done)
  cases v<;>try (simp [setC] at h; done)
  simp only [setC] at h; split at h<;>simp at h; subst h; rfl
theorem RL.set {g:G} {sz:Nat} {l:List V} {az bs:List Value} {i:Nat} {v:V} {y:Value} (he:v.isEl=true) (h1:RL g (l.take i) az) (h2:RL g (l.drop (i+1)) bs) (hv:R g v y) (hi:i < l.length):RL g (l.set i v) (az++y.cells.toList++bs):=by
 rw [List.set_eq_take_append_cons_drop,if_pos hi];rw [List.append_assoc];refine h1.append ?_;simp only [RL]; exact ⟨y,bs,rfl,⟨he,hv⟩,h2⟩
theorem Still.row (w:World) (b:Nat) (cs:Array Value):Still w (w.setRow b cs):=⟨rfl,rfl,rfl⟩
theorem Still.alloc (w:World) (o:Obj):Still w (w.alloc o):=⟨rfl,rfl,rfl⟩
theorem Still.drewAlloc (w:World) (o:Obj):Still w (w.drew.alloc o):=⟨rfl,rfl,rfl⟩
theorem frOk.frozen {w:World} {b o:Nat} {cs:Array Value} {e:TypeId} {fr:Nat×Nat} (h:frOk fr cs.size) (hb:w.heap[b]?=some (.cells cs e fr)) (ho:o < cs.size):w.frozen? ⟨b,o,none⟩=false:=by
 obtain ⟨lo,hi⟩:=fr;simp only [World.frozen?,hb];exact h.not ho
theorem a2i {P:Program} (g o:Nat) (t:TypeId) (fr:Nat×Nat):∀ (vs:List Value) (i:Nat) (cur:Array Value) (w:World),frOk fr cur.size→w.heap[g]?=some (.cells cur t fr)→o+i+vs.length≤cur.size→(∀ v∈vs,v.oneCell'=true) →
  (storeCells ⟨g,o,none⟩ vs i).run P w=.ok () (w.setRow g (cur.toList.take (o+i)++vs++cur.toList.drop (o+i+vs.length)).toArray)
 | [],i,cur,w,hfr,hg,_,_ => by
  simp only [storeCells,List.append_nil,List.length_nil,Nat.add_zero,List.take_append_drop,Array.toArray_toList];rw [setRow_self w g cur t fr hg];rfl
 | v::rest,i,cur,w,hfr,hg,hl,h1 => by
  have hi:o+i < cur.size:=by simp at hl; omega
  have hadd:(⟨g,o,none⟩:Addr).add i=⟨g,o+i,none⟩:=by unfold Addr.add; split<;>simp_all
  have hcell:w.cell? ⟨g,o+i,none⟩=some cur[o+i]:=by simp [World.cell?,hg,hi]
  have hfro:w.frozen? ⟨g,o+i,none⟩=false:=hfr.frozen hg hi;have hst:(store ((⟨g,o,none⟩:Addr).add i) v).run P w=.ok () (w.setRow g (cur.setIfInBounds (o+i) v)):=by
   rw [hadd,run_store P w _ v _ (h1 v (by simp)),hcell];simp [hfro,setCell_eq_setRow w g (o+i) cur t fr v hg]
  have ih:=a2i (P:=P) g o t fr rest (i+1) (cur.setIfInBounds (o+i) v) (w.setRow g (cur.setIfInBounds (o+i) v)) (by simpa using hfr) (setRow_heap w g cur _ t _ hg) (by simp at hl ⊢; omega) (fun x hx => h1 x (by simp [hx]));simp only [storeCells,Sem.run_bind,hst,Result.andThen_ok,ih,setRow_setRow];congr 3;have e:=list_seg_step cur.toList (o+i) v rest (by simp at hl ⊢; omega);simpa [Array.toList_setIfInBounds,Nat.add_assoc] using e
theorem b7h {t:TypeId} {k:Option Nat} (ht:aggK P t=some k) {w:World} {b o:Nat} {cs:Array Value} {e:TypeId} {fr:Nat×Nat} {x:Value} (hb:w.heap[b]?=some (.cells cs e fr)) (hfr:frOk fr cs.size) (hx:x.cells.size=k.getD 1) (h1:∀ u∈x.cells.toList,u.oneCell'=true)
  (hfit:o+x.cells.size≤cs.size):(storeVar t ⟨b,o,none⟩ x).run P w=.ok () (w.setRow b (cs.toList.take o++x.cells.toList++cs.toList.drop (o+x.cells.size)).toArray):=by
 have hs:(sizeOf t).run P w=.ok (k.getD 1) w:=by
  cases k with
  | none => exact (a4w ht w).2
  | some n => exact (a4v ht w).2
 have hst:=a2i (P:=P) b o e fr x.cells.toList 0 cs w hfr hb (by simpa using hfit) h1;simp only [Nat.add_zero,Array.length_toList] at hst;simp [storeVar,hs,hx,hst]
theorem e3i {t:TypeId} {k:Option Nat} {x y:Operand} {x' y':Src} (ht:aggK P t=some k) (h1:cs dl x x'=true) (h2:cs dl y y'=true) (h:evI P L H K (.store k x' y')) :
  a0m P dl L H ⟨dst,.store t x y,ty,pos,after,gu⟩ (.store k x' y') K:=by
 simp only [evI] at h; obtain ⟨u,e1,hA⟩:=a0f h; clear h; obtain ⟨v,e2,hB⟩:=a0f hA; clear hA;cases u<;>try exact hB.elim
 rename_i id i off;cases ho:H.m id with
 | none => simp [ho] at hB
 | some o =>
  cases o with
  | mp l | md c bs l | it d c ss => simp [ho] at hB
  | arr sz l =>
   simp only [ho] at hB;obtain ⟨e,e3,hC⟩:=a0f hB;obtain ⟨e',e4,hD⟩:=a0f hC;refine ⟨_,_,_,_,hD,by simp,by simp [Ins.kind],by simp [Ins.kind],fun m g w a hm hf hs hr ro Kc Q hk => ?_⟩;have q:=hr x (by simp [Op.operands]) _ _ h1 e1;have qv:=hr y (by simp [Op.operands]) _ _ h2 e2;simp only [R] at q;obtain ⟨b,sz',n,q1,q2⟩:=q;have hmo:=(hm id (by simp)).trans ho;obtain ⟨b',n',cs,el,xs,post,p1,p2,p3,p4,p5,p6,p7,p8⟩:=a1e hs hmo;rw [p1] at q1; simp at q1; obtain ⟨rfl,rfl,rfl⟩:=q1;obtain ⟨az,yv,bs,r1,r2,r3,r4,r5⟩:=p5.get p6 e3;obtain ⟨y2,s1,s2,s3,s4,p,qq,r,s5,s6,s7,s8⟩:=c3f r3 qv e4;have hcs:cs.toList=(az++p)++qq++(r++bs++post):=by rw [p7,r1,s5]; simp
   have hlen:(az++p).length=i*sz+off:=by simp [r2,s6]
   have hfit:i*sz+off+(a.eval y).cells.size≤cs.size:=by
    have:=congrArg List.length hcs;simp only [Array.length_toList,List.length_append] at this;simp only [List.length_append] at hlen;rw [s4,← s7]; omega
   have run:=b7h (P:=P) ht p2 (by rw [p3]; exact p4.2) s4 s3 hfit;have hcs':cs.toList.take (i*sz+off)++(a.eval y).cells.toList++cs.toList.drop (i*sz+off+(a.eval y).cells.size)=(az++y2.cells.toList++bs)++post:=by
    rw [hcs,List.append_assoc (az++p),List.take_left' hlen,s8,← List.append_assoc,List.drop_left' (by simp only [List.length_append] at hlen ⊢; rw [s4,← s7]; omega)];simp
   have hi:i < l.length:=(List.getElem?_eq_some_iff.1 e3).1;have hl2:=congrArg List.length hcs';have hl3:=congrArg List.length hcs;generalize cs.toList.take (i*sz+off)++(a.eval y).cells.toList++cs.toList.drop (i*sz+off+(a.eval y).cells.size)=ws at run hcs' hl2;obtain ⟨k1,k2⟩:=hs.put (w':=w.setRow b' ws.toArray) (l:=l.set i e') (xs:=az++y2.cells.toList++bs) (post:=post)
    (Still.row _ _ _) hmo p1 (setRow_heap w b' cs _ el.1 el.2 p2) p4.2 (fun k hk => setRow_other w b' k _ hk) (by simp)
    (by
     have hy2:=congrArg List.length s8;simp only [List.length_append,Array.length_toList,List.size_toArray] at hl2 hl3 hy2 ⊢;omega)
    (RL.set (sz:=sz) (c5e e4) r4 r5 s1 hi)
    (fun v hv => by
     rcases List.mem_or_eq_of_mem_set hv with hv | rfl
     ·exact p6 v hv
     ·rw [s2]; exact p6 e (List.mem_of_getElem? e3))
    (by simpa using hcs') p8
   have hw:(execOp a.eval ⟨dst,.store t x y,ty,pos,after,gu⟩).run P w=.ok .skip (w.setRow b' ws.toArray):=by
    simp only [execOp,q2,Instr.storeAt,Instr.sureAddr,Sem.run_bind,Sem.run_pure,Result.andThen_ok,run]
   exact a7a hw <| hk g undef _ k1 (fun _ _ => rfl) k2 (by simp [R,undef,RC])
theorem e1j {el:TypeId} {sz:Nat} {z:V} {inf:TypeInfo} {zv:Value} (hi:P.info? el=some inf) (hz:inf.zero=some zv) (hk:kon z zv=true) (h:evI P L H K (.alloc sz z)) :
  a0m P dl L H ⟨dst,.alloc el,ty,pos,after,gu⟩ (.alloc sz z) K:=by
 simp only [evI] at h;refine b6i rfl h.2.2 fun m g a w hs hr => ⟨.pointer (some ⟨w.heap.size,0,none⟩),w.alloc (.cells zv.cells el),zv.cells,el,zv.cells.toList,[], ?_,Still.alloc _ _,rfl, ?_,by simpa using h.1,by simp, ?_⟩
 ·simp [execOp,Instr.alloc,zeroValue,typeInfo,hi,hz,newVar,newRow]
 ·simp only [RL]; exact ⟨zv,[],by simp,⟨h.2.1,b3p g z zv hk⟩,rfl⟩
 ·simp only [R,G.lay]; exact ⟨w.heap.size,sz,zv.cells.size,by simp,by simp⟩
theorem e9s {el:TypeId} {sz:Nat} {x:Operand} {x':Src} (h1:cs dl x x'=true) (h:evI P L H K (.box sz x')):a0m P dl L H ⟨dst,.box el x,ty,pos,after,gu⟩ (.box sz x') K:=by
 simp only [evI] at h; obtain ⟨u,e1,hA⟩:=a0f h; clear h;refine b6i rfl hA.2.2 fun m g a w hs hr => ?_;have q:=hr x (by simp [Op.operands]) _ _ h1 e1;refine ⟨.pointer (some ⟨w.heap.size,0,none⟩),w.alloc (.cells (a.eval x).cells el),(a.eval x).cells,el,(a.eval x).cells.toList,[], ?_,Still.alloc _ _,rfl, ?_,by simpa using hA.1,by simp, ?_⟩
 ·simp [execOp,Instr.box,newVar,newRow]
 ·simp only [RL]; exact ⟨a.eval x,[],by simp,⟨hA.2.1,q⟩,rfl⟩
 ·simp only [R,G.lay]; exact ⟨w.heap.size,sz,(a.eval x).cells.size,by simp,by simp⟩
theorem e7t {t:TypeId} {el:TypeId} {sz:Nat} {x i:Operand} {x' i':Src} {inf:TypeInfo} (ht:P.underlying t=some (.slice el)) (hi:P.info? el=some inf) (hsz:inf.size=sz) (h1:cs dl x x'=true) (h2:cs dl i i'=true) (h:evI P L H K (.iad sz x' i')) :
  a0m P dl L H ⟨dst,.indexAddr t x i,ty,pos,after,gu⟩ (.iad sz x' i') K:=by
 have run:∀ (b o len cap:Nat) (k:IntKind) (n:Int) (w:World),0≤n→n < len→(Instr.indexAt t (.slice (some ⟨b,o,none⟩) len cap) (.int k n)).run P w=.ok (.pointer (some ⟨b,o+n.toNat*sz,none⟩)) w:=fun b o len cap k n w h0 hl => by
  simp [Instr.indexAt,asIntOf,run_underlying ht,sizeOf,typeInfo,hi,hsz,h0,hl,a5g]
 simp only [evI] at h; obtain ⟨u,e1,hA⟩:=a0f h; clear h; obtain ⟨v,e2,hB⟩:=a0f hA; clear hA;cases v<;>try exact hB.elim
 rename_i k n;cases u<;>try exact hB.elim
 ·rename_i id off len;obtain ⟨h0,hl,hC⟩:=hB;cases ho:H.m id with
  | none => simp [ho] at hC
  | some o =>
   cases o with
   | mp l | md c bs l | it d c ss => simp [ho] at hC
   | arr sz' l =>
    simp only [ho] at hC;obtain ⟨rfl,hC⟩:=hC;refine a1s (by simp [Ins.kind]) hC fun m g a w hm hs hr => ?_;have q1:=hr x (by simp [Op.operands]) _ _ h1 e1;have q2:=hr i (by simp [Op.operands]) _ _ h2 e2;simp only [R] at q1 q2;obtain ⟨b,sz2,n2,q,cap,e3,e4,e5,e6⟩:=q1;obtain ⟨b',n',cs,el',xs,post,p1,p2,p3,p4,p5,p6,p7,p8⟩:=a1e hs ((hm id (by simp)).trans ho);rw [p1] at e3; simp at e3; obtain ⟨rfl,rfl,rfl⟩:=e3;rcases e6 with ⟨rfl,_⟩ | rfl
    ·refine ⟨.pointer (some ⟨b',off*sz'+n.toNat*sz',none⟩), ?_, ?_⟩
     ·simp only [execOp,e4,q2,Sem.run_bind,run _ _ _ _ _ _ w h0 hl,Result.andThen_ok,Sem.run_pure]
     ·simp only [R]; exact ⟨b',sz',n',p1,by rw [Nat.add_mul]; simp⟩
    ·omega
 ·rename_i st sz' l;obtain ⟨rfl,h0,e,e3,hC⟩:=hB;refine a1s (by simp [Ins.kind]) hC fun m g a w hm hs hr => ?_;have q1:=hr x (by simp [Op.operands]) _ _ h1 e1;have q2:=hr i (by simp [Op.operands]) _ _ h2 e2;simp only [R] at q1 q2;obtain ⟨a',cap,xs,e4,e5,e6,e7,e8,e9,e10,e11⟩:=q1;have hl:n.toNat < l.length:=(List.getElem?_eq_some_iff.1 e3).1;rcases e11 with rfl | ⟨b,o,rfl,hF⟩
  ·simp at hl
  ·obtain ⟨az,y,bs,r1,r2,r3,_⟩:=e5.get e6 e3;refine ⟨.pointer (some ⟨b,o+n.toNat*sz',none⟩), ?_, ?_⟩
   ·simp only [execOp,e4,q2,Sem.run_bind,run _ _ _ _ _ _ w h0 (show n < ((l.length:Nat):Int) by omega),Result.andThen_ok,Sem.run_pure]
   ·simp only [R];refine ⟨b,o+n.toNat*sz',y,r3, ?_,by simp⟩;rw [r1] at hF;have:=hF.sub;rwa [r2] at this
end
end
section
section
variable {P:Program} {dl:List (Option Nat)} {L:Src→Option V} {H:Hp} {K:KI} {dst:Option Tmp} {ty:TypeId} {pos:String} {after:Array Edge} {gu:Option (Nat×Bool)}
theorem b9q {all:List Operand} {lo:Option Operand} {lo':Option Src} {K:Option V→Prop} (h:wo L lo' K) (hc:csO dl lo lo'=true) (hm:∀ x∈lo,x∈all) :
  ∃ ov,K ov∧((ov=none∧lo=none)∨∃ x v,lo=some x∧ov=some v∧∀ g a,Rel dl L all g a→R g v (a.eval x)):=by
 cases lo' with
 | none => cases lo<;>simp [csO] at hc; exact ⟨none,h,.inl ⟨rfl,rfl⟩⟩
 | some s =>
  cases lo<;>simp [csO] at hc;rename_i x;obtain ⟨v,e,h⟩:=a0f h;exact ⟨some v,h,.inr ⟨x,v,rfl,rfl,fun g a hr => hr x (hm x (by simp)) s v hc e⟩⟩
theorem a6c {all:List Operand} {d:Nat} {lo:Option Operand} {ov:Option V} {K:Nat→Prop} (h:bnd d ov K) (ho:(ov=none∧lo=none)∨∃ x v,lo=some x∧ov=some v∧∀ g a,Rel dl L all g a→R g v (a.eval x)) :
  ∃ n,K n∧((lo=none∧n=d)∨∃ x,lo=some x∧∀ g a,Rel dl L all g a→∃ k,a.eval x=.int k (n:Int)):=by
 rcases ho with ⟨rfl,rfl⟩ | ⟨x,v,rfl,rfl,hx⟩
 ·exact ⟨d,h,.inl ⟨rfl,rfl⟩⟩
 ·cases v<;>simp only [bnd] at h<;>try exact h.elim
  rename_i k n;refine ⟨n.toNat,h.2,.inr ⟨x,rfl,fun g a hr => ⟨k, ?_⟩⟩⟩;have:=hx g a hr;simp only [R] at this;rw [this,Int.toNat_of_nonneg h.1]
theorem a0j {k:IntKind} {n y:Nat} {code:BoundsCode} (w:World) (h:n≤y):(Instr.sliceBound (.int k (n:Int)) y code).run P w=.ok n w:=by
 simp [Instr.sliceBound,asIntOf,show (n:Int)≤(y:Int) by omega]
theorem e8b {t el:TypeId} {sz:Nat} {inf:TypeInfo} {x:Operand} {lo hi mx:Option Operand} {x':Src} {lo' hi' mx':Option Src} (ht:P.underlying t=some (.slice el)) (hinf:P.info? el=some inf) (hsz:inf.size=sz)
    (h1:cs dl x x'=true) (h2:csO dl lo lo'=true) (h3:csO dl hi hi'=true) (h4:csO dl mx mx'=true)
    (h:evI P L H K (.slc sz x' lo' hi' mx')):a0m P dl L H ⟨dst,.slice t x lo hi mx,ty,pos,after,gu⟩ (.slc sz x' lo' hi' mx') K:=by
  simp only [evI] at h; obtain ⟨u,e1,hA⟩:=a0f h; clear h
  obtain ⟨vlo,hB,olo⟩:=b9q (all:=(⟨dst,.slice t x lo hi mx,ty,pos,after,gu⟩:Oper).op.operands.toList) hA h2 (fun y hy => by simp [Op.operands,Option.mem_def.1 hy]); clear hA
  obtain ⟨vhi,hA,ohi⟩:=b9q (all:=(⟨dst,.slice t x lo hi mx,ty,pos,after,gu⟩:Oper).op.operands.toList) hB h3 (fun y hy => by simp [Op.operands,Option.mem_def.1 hy]); clear hB
  obtain ⟨vmx,hB,omx⟩:=b9q (all:=(⟨dst,.slice t x lo hi mx,ty,pos,after,gu⟩:Oper).op.operands.toList) hA h4 (fun y hy => by simp [Op.operands,Option.mem_def.1 hy]); clear hA
  have start:∀ (a:Act) (w:World) (A:Option Addr) (len cap l' h' m':Nat),a.eval x=.slice A len cap→(Instr.sliceBounds true len cap (lo.map a.eval) (hi.map a.eval) (mx.map a.eval)).run P w=.ok (l',h',m') w →
      (execOp a.eval ⟨dst,.slice t x lo hi mx,ty,pos,after,gu⟩).run P w=.ok (.value (.slice (if m'=l' then A else A.map (·.add (l'*sz))) (h' - l') (m' - l'))) w:=fun a w A len cap l' h' m' e r => by
    simp [execOp,e,Instr.sliceAt,Instr.slice,run_underlying ht,r,sizeOf,typeInfo,hinf,hsz]
  cases u<;>try exact False.elim hB
  ·
    rename_i id off len
    cases ho:H.m id with
    | none => simp [ho] at hB
    | some o =>
      cases o with
      | mp l | md c bs l | it d c ss => simp [ho] at hB
      | arr sz' l =>
        simp only [ho] at hB
        obtain ⟨rfl,hB⟩:=hB
        cases vmx with
        | none =>
          simp only [a7s] at hB
          obtain ⟨a0,hC,q1⟩:=a6c hB olo
          obtain ⟨b0,hD,q2⟩:=a6c hC ohi
          obtain ⟨le1,le2,hK⟩:=hD
          have omx':mx=none:=by
            rcases omx with ⟨_,h⟩ | ⟨_,_,_,h,_⟩
            · exact h
            · cases h
          subst omx'
          refine a1s (by simp [Ins.kind]) hK fun m g a w hm hs hr => ?_
          have r1:=hr x (by simp [Op.operands]) _ _ h1 e1
          simp only [R] at r1
          obtain ⟨b,sz2,n,A,cap,p1,p2,p3,p4⟩:=r1
          obtain ⟨b',n',cs',el',xs,post,z1,z2,z3,z4,z5,z6,z7,z8⟩:=a1e hs ((hm id (by simp)).trans ho)
          rw [z1] at p1; simp at p1; obtain ⟨rfl,rfl,rfl⟩:=p1
          have hb:(Instr.sliceBounds true len cap (lo.map a.eval) (hi.map a.eval) none).run P w=.ok (a0,b0,cap) w:=by
            rcases q1 with ⟨rfl,rfl⟩ | ⟨y,rfl,q1⟩<;>rcases q2 with ⟨rfl,rfl⟩ | ⟨z,rfl,q2⟩
            · simp [Instr.sliceBounds]
            · obtain ⟨k,q2⟩:=q2 g a hr
              simp [Instr.sliceBounds,q2,a0j w (show b0≤cap by omega)]
            · obtain ⟨k,q1⟩:=q1 g a hr
              simp [Instr.sliceBounds,q1,a0j w (show a0≤b0 by omega)]
            · obtain ⟨k,q1⟩:=q1 g a hr
              obtain ⟨k',q2⟩:=q2 g a hr
              simp [Instr.sliceBounds,q1,q2,a0j w (show a0≤b0 by omega),a0j w (show b0≤cap by omega)]
          refine ⟨_,start a w _ _ _ a0 b0 cap p2 (by simpa using hb), ?_⟩
          simp only [R]
          by_cases hc:cap=a0
          · rw [if_pos hc]
            exact ⟨b',sz',n',A,cap - a0,z1,rfl,by omega,.inr (by omega)⟩
          · rw [if_neg hc]
            rcases p4 with ⟨rfl,p4⟩ | p4
            · refine ⟨b',sz',n',_,cap - a0,z1,rfl,by omega,.inl ⟨?_, ?_⟩⟩
              · show (⟨b',off*sz',none⟩:Addr).add (a0*sz')=_
                rw [a5g,Nat.add_mul]
              · rw [show off+a0+(cap - a0)=off+cap by omega]; exact p4
            · omega
        | some vm =>
          simp only [a7s] at hB
          obtain ⟨⟨km,rfl⟩,hB⟩:=hB
          · skip
            obtain ⟨a0,hC,q1⟩:=a6c hB olo
            obtain ⟨b0,hD,q2⟩:=a6c hC ohi
            obtain ⟨rfl,rfl,hK⟩:=hD
            rcases omx with ⟨h,_⟩ | ⟨xm,v,rfl,hv,qm⟩
            · cases h
            · simp at hv
              subst hv
              refine a1s (by simp [Ins.kind]) hK fun m g a w hm hs hr => ?_
              have r1:=hr x (by simp [Op.operands]) _ _ h1 e1
              have rm:=qm g a hr
              simp only [R] at r1 rm
              obtain ⟨b,sz2,n,A,cap,p1,p2,p3,p4⟩:=r1
              have hm0:∀ code,(Instr.sliceBound (.int km 0) cap code).run P w=.ok 0 w:=fun code => a0j (n:=0) w (by omega)
              have hhi:hi≠none:=by
                rintro rfl
                rcases q2 with ⟨_,h⟩ | ⟨_,h,_⟩
                · exact absurd h (by omega)
                · cases h
              have hb:(Instr.sliceBounds true len cap (lo.map a.eval) (hi.map a.eval) (some (a.eval xm))).run P w=.ok (0,0,0) w:=by
                rcases q2 with ⟨rfl,_⟩ | ⟨z,rfl,q2⟩
                · exact absurd rfl hhi
                · obtain ⟨k',q2'⟩:=q2 g a hr
                  show (Instr.sliceBounds true len cap (lo.map a.eval) (some (a.eval z)) (some (a.eval xm))).run P w=.ok (0,0,0) w
                  rw [q2',rm]
                  have h00:∀ kk code,(Instr.sliceBound (.int kk 0) 0 code).run P w=.ok 0 w:=fun kk code => a0j (n:=0) w (by omega)
                  rcases q1 with ⟨rfl,_⟩ | ⟨y,rfl,q1⟩
                  · simp [Instr.sliceBounds,hm0,h00]
                  · obtain ⟨k,q1'⟩:=q1 g a hr
                    simp [Instr.sliceBounds,hm0,q1',h00]
              refine ⟨_,start a w _ _ _ 0 0 0 p2 (by simpa using hb), ?_⟩
              simp only [R,RL]
              exact ⟨some A,0,[],by simp,rfl,by simp,by simp,by simp,by simp,by simp,by simp⟩
  ·
    rename_i st sz' l
    simp only [a7s] at hB
    obtain ⟨rfl,hB⟩:=hB
    obtain ⟨a0,hC,q1⟩:=a6c hB olo
    obtain ⟨b0,hD,q2⟩:=a6c hC ohi
    clear hB hC
    have ex:∃ mo:Option Nat,a0≤b0∧b0≤l.length∧(∀ c,mo=some c→b0≤c∧c≤l.length)∧K (.fsl (slSt st l.length b0 mo) sz' ((l.take b0).drop a0)) [] [] 0 ∧
        ((mo=none∧mx=none)∨∃ c y,mo=some c∧mx=some y∧hi≠none∧∀ g a,Rel dl L (⟨dst,.slice t x lo hi mx,ty,pos,after,gu⟩:Oper).op.operands.toList g a→∃ k,a.eval y=.int k (c:Int)):=by
      cases vmx with
      | none =>
        rcases omx with ⟨_,h⟩ | ⟨_,_,_,h,_⟩
        · exact ⟨none,hD.1,hD.2.1,by simp,hD.2.2,.inl ⟨rfl,h⟩⟩
        · cases h
      | some vm =>
        cases vm<;>simp only at hD<;>try exact hD.elim
        rename_i km nm
        obtain ⟨z0,z1,z2,z3,z4,hK⟩:=hD
        rcases omx with ⟨h,_⟩ | ⟨xm,v,hx,hv,qm⟩
        · cases h
        · simp at hv; subst hv
          refine ⟨some nm.toNat,z2,by omega,by simp; omega,hK,.inr ⟨nm.toNat,xm,rfl,hx, ?_,fun g a hr => ⟨km, ?_⟩⟩⟩
          · rcases ohi with ⟨h,_⟩ | ⟨_,_,h,_⟩
            · exact absurd h z1
            · rw [h]; simp
          · have:=qm g a hr
            simp only [R] at this
            rw [this,Int.toNat_of_nonneg z0]
    obtain ⟨mo,le1,le2,lem,hK,om⟩:=ex
    refine a0q hK fun g a w hr => ?_
    have r1:=hr x (by simp [Op.operands]) _ _ h1 e1
    simp only [R] at r1
    obtain ⟨A,cap,xs,p1,p2,p3,p4,p5,p6,p7,p8⟩:=r1
    have hb:(Instr.sliceBounds true l.length cap (lo.map a.eval) (hi.map a.eval) (mx.map a.eval)).run P w=.ok (a0,b0,mo.getD cap) w:=by
      rcases om with ⟨rfl,rfl⟩ | ⟨c,ym,rfl,rfl,hne,om⟩
      · rcases q1 with ⟨rfl,rfl⟩ | ⟨y,rfl,q1⟩<;>rcases q2 with ⟨rfl,rfl⟩ | ⟨z,rfl,q2⟩
        · simp [Instr.sliceBounds]
        · obtain ⟨k,q2⟩:=q2 g a hr
          simp [Instr.sliceBounds,q2,a0j w (show b0≤cap by omega)]
        · obtain ⟨k,q1⟩:=q1 g a hr
          simp [Instr.sliceBounds,q1,a0j w le1]
        · obtain ⟨k,q1⟩:=q1 g a hr
          obtain ⟨k',q2⟩:=q2 g a hr
          simp [Instr.sliceBounds,q1,q2,a0j w le1,a0j w (show b0≤cap by omega)]
      · obtain ⟨km,om'⟩:=om g a hr
        have hcl:=lem c rfl
        rcases q2 with ⟨rfl,_⟩ | ⟨z,rfl,q2⟩
        · exact absurd rfl hne
        · obtain ⟨k',q2'⟩:=q2 g a hr
          show (Instr.sliceBounds true l.length cap (lo.map a.eval) (some (a.eval z)) (some (a.eval ym))).run P w=.ok (a0,b0,c) w
          rw [q2',om']
          rcases q1 with ⟨rfl,rfl⟩ | ⟨y,rfl,q1⟩
          · simp [Instr.sliceBounds,a0j w (show b0≤c by omega),a0j w (show c≤cap by omega)]
          · obtain ⟨k,q1'⟩:=q1 g a hr
            simp [Instr.sliceBounds,q1',a0j w le1,a0j w (show b0≤c by omega),a0j w (show c≤cap by omega)]
    refine ⟨_,start a w _ _ _ a0 b0 (mo.getD cap) p1 hb, ?_⟩
    have hmo:b0≤mo.getD cap∧mo.getD cap≤cap:=by
      cases mo with
      | none => simp; omega
      | some c => have:=lem c rfl; simp; omega
    obtain ⟨az,bs,s1,s2,s3,s4⟩:=RL.split b0 p2 p3 le2
    have p3':∀ v∈l.take b0,v.size=sz':=fun v hv => p3 v (List.mem_of_mem_take hv)
    obtain ⟨cs',ds',t1,t2,t3,t4⟩:=RL.split a0 s3 p3' (by simp; omega)
    simp only [R]
    refine ⟨if mo.getD cap=a0 then A else A.map (·.add (a0*sz')),mo.getD cap - a0,ds', ?_,t4,fun v hv => p3' v (List.mem_of_mem_drop hv),by simp; omega, ?_, ?_, ?_, ?_⟩
    · congr 1; simp; omega
    · intro h
      have:A=none:=by
        split at h
        · exact h
        · simpa using h
      have:=p5 this
      omega
    · refine ⟨fun h => ?_,fun h => ?_⟩
      · have:st=.nil:=by
          unfold slSt at h; split at h
          · rfl
          · split at h<;>split at h<;>cases h
          · split at h
            · split at h<;>cases h
            · cases h
          · cases h
        rw [p6.1 this]; split<;>rfl
      · exfalso
        unfold slSt at h; split at h
        · cases h
        · split at h<;>split at h<;>cases h
        · split at h
          · split at h<;>cases h
          · cases h
        · cases h
    · intro h
      have:mo.getD cap=b0:=by
        unfold slSt at h
        split at h
        · cases h
        · have hc:=p7 rfl
          split at h
          · split at h
            · assumption
            · cases h
          · split at h
            · rename_i h'; simp; omega
            · cases h
        · split at h
          · split at h
            · assumption
            · cases h
          · cases h
        · cases h
      simp; omega
    · by_cases he:a0=b0
      · exact .inl (by simp; omega)
      · refine .inr ?_
        rcases p8 with rfl | ⟨b,o,rfl,hF⟩
        · simp at le2; omega
        · rw [if_neg (by omega)]
          refine ⟨b,o+a0*sz',by simp [a5g], ?_⟩
          rw [s1,t1] at hF
          have:=hF.sub (az:=cs') (bs:=bs)
          rwa [t2] at this
  ·
    rename_i id off len cap
    cases ho:H.m id with
    | none => simp [ho] at hB
    | some o =>
      cases o with
      | mp l | md c bs l | it d c ss => simp [ho] at hB
      | arr sz' l =>
        simp only [ho] at hB
        obtain ⟨rfl,hB⟩:=hB
        cases vmx with
        | some vm => simp only [a7s] at hB
        | none =>
          simp only [a7s] at hB
          obtain ⟨a0,hC,q1⟩:=a6c hB olo
          obtain ⟨b0,hD,q2⟩:=a6c hC ohi
          obtain ⟨le1,le2,hK⟩:=hD
          have omx':mx=none:=by
            rcases omx with ⟨_,h⟩ | ⟨_,_,_,h,_⟩
            · exact h
            · cases h
          subst omx'
          refine a1s (by simp [Ins.kind]) hK fun m g a w hm hs hr => ?_
          have r1:=hr x (by simp [Op.operands]) _ _ h1 e1
          simp only [R] at r1
          obtain ⟨b,sz2,n,A,p1,p2,p3,p4⟩:=r1
          obtain ⟨b',n',cs',el',xs,post,z1,z2,z3,z4,z5,z6,z7,z8⟩:=a1e hs ((hm id (by simp)).trans ho)
          rw [z1] at p1; simp at p1; obtain ⟨rfl,rfl,rfl⟩:=p1
          have hb:(Instr.sliceBounds true len cap (lo.map a.eval) (hi.map a.eval) none).run P w=.ok (a0,b0,cap) w:=by
            rcases q1 with ⟨rfl,rfl⟩ | ⟨y,rfl,q1⟩<;>rcases q2 with ⟨rfl,rfl⟩ | ⟨z,rfl,q2⟩
            · simp [Instr.sliceBounds]
            · obtain ⟨k,q2⟩:=q2 g a hr
              simp [Instr.sliceBounds,q2,a0j w (show b0≤cap by omega)]
            · obtain ⟨k,q1⟩:=q1 g a hr
              simp [Instr.sliceBounds,q1,a0j w (show a0≤b0 by omega)]
            · obtain ⟨k,q1⟩:=q1 g a hr
              obtain ⟨k',q2⟩:=q2 g a hr
              simp [Instr.sliceBounds,q1,q2,a0j w (show a0≤b0 by omega),a0j w (show b0≤cap by omega)]
          refine ⟨_,start a w _ _ _ a0 b0 cap p2 (by simpa using hb), ?_⟩
          simp only [R]
          by_cases hc:cap=a0
          · rw [if_pos hc]
            exact ⟨b',sz',n',A,z1,rfl,by omega,.inr (by omega)⟩
          · rw [if_neg hc]
            rcases p4 with ⟨rfl,p4⟩ | p4
            · refine ⟨b',sz',n',_,z1,rfl,by omega,.inl ⟨?_, ?_⟩⟩
              · show (⟨b',off*sz',none⟩:Addr).add (a0*sz')=_
                rw [a5g,Nat.add_mul]
              · rw [show off+a0+(cap - a0)=off+cap by omega]; exact p4
            · omega
end
end
section
theorem c2y (off:Nat):∀ (vs:List Value) (k:Nat) (cells:Array Value),off+k+vs.length≤cells.size →
  ((vs.zipIdx k).foldl (fun cs (x:Value×Nat) => cs.setIfInBounds (off+x.2) x.1) cells).toList=cells.toList.take (off+k)++vs++cells.toList.drop (off+k+vs.length)
 | [],k,cells,_ => by simp
 | v::vs,k,cells,h => by
  simp only [List.length_cons] at h;have ih:=c2y off vs (k+1) (cells.setIfInBounds (off+k) v) (by simp; omega);simp only [List.zipIdx_cons,List.foldl_cons];rw [ih];have:=list_seg_step cells.toList (off+k) v vs (by simp; omega);simpa [Nat.add_assoc] using this
theorem a7k (off:Nat) (vs cells:Array Value) (h:off+vs.size≤cells.size) :
  (vs.zipIdx.foldl (fun cs (x:Value×Nat) => cs.setIfInBounds (off+x.2) x.1) cells).toList=cells.toList.take off++vs.toList++cells.toList.drop (off+vs.size):=by
 have:=c2y off vs.toList 0 cells (by simpa using h);rw [← Array.foldl_toList];simpa using this
theorem b3w {g:G} {v:V} {x:Value} (h:R g v x) (he:v.isEl=true):∀ y∈x.cells.toList,y.oneCell'=true:=by
 apply b8u h;cases v<;>first | exact .inl rfl | exact .inr ⟨_,rfl⟩ | cases he
theorem c4l {g:G} {v:V} {x:Value} (h:R g v x) (he:v.isEl=true):RC g v.parts x.cells.toList∧v.parts.length=v.size∧∀ u∈v.parts,u.cell=true:=by
 cases v with
 | agg l =>
  simp only [R] at h;obtain ⟨xs,rfl,e1,e2⟩:=h;exact ⟨e1,rfl,e2⟩
 | tup l => cases he
 | _ =>
  all_goals
   obtain ⟨_,h2⟩:=a6n h rfl;refine ⟨?_,rfl,by simp [V.parts,V.cell]⟩;rw [h2]; simp only [V.parts,RC]; exact ⟨x,[],rfl,h,rfl⟩
def a5q (dl:List (Option Nat)) (places:List (Nat×Nat)):List (Nat×Operand)→List (Nat×Nat×Src)→Bool
 | [],[] => true
 | (i,x)::r,(off,sz,s)::q => (match places[i]? with | some (o,z) => o == off && z == sz | none => false) && cs dl x s && a5q dl places r q
 | _,_ => false
def a6j (dl:List (Option Nat)):Nat→List (Nat×Operand)→List Src→Bool
 | _,[],[] => true
 | k,(i,x)::r,s::q => i == k && cs dl x s && a6j dl (k+1) r q
 | _,_,_ => false
section
variable {P:Program} {dl:List (Option Nat)} {L:Src→Option V} {H:Hp} {K:KI} {dst:Option Tmp} {ty:TypeId} {pos:String} {after:Array Edge} {gu:Option (Nat×Bool)}
theorem b4v {all:List Operand} {places:List (Nat×Nat)}:∀ {parts:List (Nat×Operand)} {ps:List (Nat×Nat×Src)} {z:List V} {K:V→Prop},a5q dl places parts ps=true→(∀ x∈parts.map (·.2),x∈all)→a7u L z ps K→(∀ v∈z,v.cell=true) →
  ∃ r,K r∧∀ g a (cells:Array Value),Rel dl L all g a→RC g z cells.toList→∃ cells',Instr.fill (places.toArray[·]?) cells (parts.map fun p => (p.1,a.eval p.2))=some cells'∧R g r (.agg cells')
 | [],[],z,K,_,_,h,hz => ⟨.agg z,h,fun g a cells _ hc => ⟨cells,rfl,by simp only [R]; exact ⟨cells,rfl,hc,hz⟩⟩⟩
 | (i,x)::r,(off,sz,s)::q,z,K,hc,hm,h,hz => by
  simp only [a5q,Bool.and_eq_true] at hc;obtain ⟨⟨c1,c2⟩,c3⟩:=hc;simp only [a7u] at h;obtain ⟨v,e1,h1,h2,h3,h4⟩:=a0f h;have hpl:places[i]?=some (off,sz):=by
   split at c1
   ·rename_i o z' heq;simp at c1; rw [heq,c1.1,c1.2]
   ·cases c1
  have hcell:∀ u∈v.parts,u.cell=true:=by simpa using h2
  have h2:v.isEl=true:=by cases v<;>first | rfl | (simp [V.parts,V.cell] at h2)
  have hlen:v.parts.length=sz:=by
   rw [← h1]; cases v<;>first | rfl | cases h2
  obtain ⟨w,k1,k2⟩:=b4v c3 (fun y hy => hm y (by simp at hy ⊢; exact .inr hy)) h4 (by
   intro u hu;simp only [splice] at hu;rcases List.mem_append.1 hu with hu | hu
   ·rcases List.mem_append.1 hu with hu | hu
    ·exact hz u (List.mem_of_mem_take hu)
    ·exact hcell u hu
   ·exact hz u (List.mem_of_mem_drop hu))
  refine ⟨w,k1,fun g a cells hr hc => ?_⟩;have q1:=hr x (hm x (by simp)) _ _ c2 e1;obtain ⟨p1,p2,p3⟩:=c4l q1 h2;have hsz:(a.eval x).cells.size=sz:=by rw [q1.cells_size,h1]
  have hcl:=hc.length;have hfit:off+(a.eval x).cells.size≤cells.size:=by
   have:cells.size=z.length:=by simpa using hcl
   omega
  have hfold:=a7k off (a.eval x).cells cells hfit;obtain ⟨cells',f1,f2⟩:=k2 g a ((a.eval x).cells.zipIdx.foldl (fun cs (x:Value×Nat) => cs.setIfInBounds (off+x.2) x.1) cells) hr (by
   rw [hfold,splice,hlen,hsz];exact ((hc.take off).append p1).append (hc.drop (off+sz)))
  refine ⟨cells', ?_,f2⟩;simp only [List.map_cons,Instr.fill];rw [show places.toArray[i]?=some (off,sz) by simpa using hpl];simp only [hsz,ne_eq,not_true_eq_false,decide_false,Bool.false_or];rw [if_neg (by simp; omega)];exact f1
 | [],_::_,_,_,h,_,_,_ => by simp [a5q] at h
 | _::_,[],_,_,h,_,_,_ => by simp [a5q] at h
def b6v (P:Program) (t:TypeId) (n:Nat):Option (List (Nat×Nat)) :=
 match P.underlying t with
 | some (.struct fields) => fields.toList.mapM (fun f => (P.info? f.type).map fun i => (f.offset,i.size))
 | _ => none
theorem e3o {t:TypeId} {parts:Array (Nat×Operand)} {z:List V} {ps:List (Nat×Nat×Src)} {places:List (Nat×Nat)} {inf:TypeInfo} {zv:Value} (hp:b6v P t parts.size=some places) (hi:P.info? t=some inf) (hz:inf.zero=some zv)
  (hk:konL z zv.cells.toList=true) (hzc:z.all V.cell=true) (hc:a5q dl places parts.toList ps=true) (h:evI P L H K (.build z ps)):a0m P dl L H ⟨dst,.build t parts,ty,pos,after,gu⟩ (.build z ps) K:=by
 simp only [evI] at h;obtain ⟨r,h1,h2⟩:=b4v (all:=(⟨dst,.build t parts,ty,pos,after,gu⟩:Oper).op.operands.toList) hc (fun x hx => by simpa [Op.operands] using hx) h (by simpa using hzc);refine a0q h1 fun g a w hr => ?_;obtain ⟨cells',f1,f2⟩:=h2 g a zv.cells hr (d4j g _ _ hk);refine ⟨.agg cells', ?_,f2⟩;have hb:P.built t (parts.map fun (i,x) => (i,a.eval x)).toList=some cells':=by
  unfold b6v at hp;split at hp
  ·rename_i fields hu;simp only [Program.built,hi,hu,hz,hp];simpa [Array.toList_map] using f1
  ·cases hp
 simp only [execOp,Sem.run_bind,run_build w t _ cells' hb,Result.andThen_ok,Sem.run_pure]
theorem c1j {all:List Operand} {sz:Nat}:∀ {parts:List (Nat×Operand)} {ps:List Src} {vs:List V} (k:Nat),a6j dl k parts ps=true→(∀ x∈parts.map (·.2),x∈all)→vs.length=ps.length →
  (∀ (i:Nat) s,ps[i]?=some s→∃ v,vs[i]?=some v∧L s=some v)→(∀ v∈vs,v.size=sz∧v.isEl=true)→∀ (g:G) (a:Act) (cells:Array Value),Rel dl L all g a→cells.size=(k+parts.length)*sz →
   ∃ cells' xs,Instr.fill (fun i => some (i*sz,sz)) cells (parts.map fun p => (p.1,a.eval p.2))=some cells'∧RL g vs xs∧cells'.toList=cells.toList.take (k*sz)++xs
 | [],[],vs,k,_,_,hl,_,_,g,a,cells,_,hs => by
  cases vs<;>simp at hl;refine ⟨cells,[],rfl,by simp [RL], ?_⟩;rw [List.take_of_length_le (by simp at hs; simp [hs])]; simp
 | (i,x)::r,s::q,vs,k,hc,hm,hl,hv,hz,g,a,cells,hr,hs => by
  simp only [a6j,Bool.and_eq_true,beq_iff_eq] at hc;obtain ⟨⟨rfl,c2⟩,c3⟩:=hc;cases vs with
  | nil => simp at hl
  | cons v vs =>
   obtain ⟨u,h1,h2⟩:=hv 0 s rfl;simp at h1; subst h1;have q1:=hr x (hm x (by simp)) _ _ c2 h2;obtain ⟨z1,z2⟩:=hz v (by simp);have hsz:(a.eval x).cells.size=sz:=by rw [q1.cells_size,z1]
   simp only [List.length_cons] at hs;have hm2:(i+(r.length+1))*sz=i*sz+sz+r.length*sz:=by rw [← Nat.add_assoc,Nat.add_right_comm]; simp only [Nat.add_mul,Nat.one_mul]
   have hfit:i*sz+(a.eval x).cells.size≤cells.size:=by omega
   have hfold:=a7k (i*sz) (a.eval x).cells cells hfit;obtain ⟨cells',xs,f1,f2,f3⟩:=c1j (i+1) c3 (fun y hy => hm y (by simp at hy ⊢; exact .inr hy)) (by simpa using hl) (fun j s' hj => by simpa using hv (j+1) s' (by simpa using hj)) (fun w hw => hz w (by simp [hw])) g a
    ((a.eval x).cells.zipIdx.foldl (fun cs (x:Value×Nat) => cs.setIfInBounds (i*sz+x.2) x.1) cells) hr (by
     have:=congrArg List.length hfold;simp only [Array.length_toList,List.length_append,List.length_take,List.length_drop] at this;rw [this,Nat.add_mul,Nat.add_mul]; omega)
   refine ⟨cells',(a.eval x).cells.toList++xs, ?_, ?_, ?_⟩
   ·simp only [List.map_cons,Instr.fill];simp only [hsz,ne_eq,not_true_eq_false,decide_false,Bool.false_or];rw [if_neg (by simp; omega)];exact f1
   ·simp only [RL]; exact ⟨a.eval x,xs,rfl,⟨z2,q1⟩,f2⟩
   ·rw [f3,hfold,Nat.add_mul,Nat.one_mul];rw [List.take_append_of_le_length (by simp only [List.length_append,List.length_take,Array.length_toList]; omega),List.take_of_length_le (by simp only [List.length_append,List.length_take,Array.length_toList]; omega)];simp
 | [],_::_,_,_,h,_,_,_,_,_,_,_,_,_ => by simp [a6j] at h
 | _::_,[],_,_,h,_,_,_,_,_,_,_,_,_ => by simp [a6j] at h
theorem e8z {t el:TypeId} {len sz:Nat} {parts:Array (Nat×Operand)} {ps:List Src} {inf:TypeInfo} {zv:Value} (ht:P.underlying t=some (.slice el)) (hi:P.info? el=some inf) (hsz:inf.size=sz) (hz:inf.zero=some zv)
  (hpos:sz≠0) (hsmall:len*sz≤16777216) (hlen:parts.size=len) (hc:a6j dl 0 parts.toList ps=true) (h:evI P L H K (.bsl sz ps)):a0m P dl L H ⟨dst,.buildSlice t len parts,ty,pos,after,gu⟩ (.bsl sz ps) K:=by
 simp only [evI] at h;obtain ⟨vs,⟨hv,hK⟩,hl,hL⟩:=a4o h;refine b3s hK fun m g a w hs hr => ?_;by_cases h0:len=0
 ·subst h0;have hp:parts=#[]:=by simpa using hlen
  subst hp;have hps:ps=[]:=by cases ps<;>simp [a6j] at hc; rfl
  subst hps;cases vs<;>simp at hl;refine ⟨.slice (some ⟨w.heap.size,0,none⟩) 0 0,w.alloc (.cells #[] el),#[],el,(0,0), ?_,Still.alloc _ _,rfl, ?_⟩
  ·have e0:(Array.map (fun _:Nat => (default:Value)) (Array.range 0))=#[]:=by simp
   simp [execOp,Instr.buildSlice,run_underlying ht,sizeOf,typeInfo,hi,Instr.fill,newRow];exact congrArg (fun c => w.alloc (.cells c el)) (by simp)
  ·simp only [R,RL];exact ⟨_,0,[],rfl,rfl,by simp,by simp,by simp,by simp,by simp,by simp⟩
 ·have hsp:¬ len*inf.size > 2 ^ 24:=by rw [hsz]; omega
  have hne:¬ len*inf.size=0:=by rw [hsz]; exact fun e => (Nat.mul_eq_zero.1 e).elim h0 hpos
  obtain ⟨cells',xs,f1,f2,f3⟩:=c1j (all:=(⟨dst,.buildSlice t len parts,ty,pos,after,gu⟩:Oper).op.operands.toList) 0 hc (fun x hx => by simpa [Op.operands] using hx) hl hL hv g a ((Array.range (len*inf.size)).map (zv.cells[· % zv.cells.size]!)) hr (by simp [hsz,hlen]);simp at f3;have run:=run_buildSlice (P:=P) w t el len (parts.map fun (i,x) => (i,a.eval x)) cells' inf zv ht hi hz hsp hne (by rw [hsz] at *; simpa [Array.toList_map] using f1);have hvl:vs.length=len:=by
   have:parts.toList.length=ps.length:=by
    clear f1 f2 f3 run h hK hL hv hl;generalize parts.toList=pl at hc;have:∀ (pl:List (Nat×Operand)) (ps:List Src) k,a6j dl k pl ps=true→pl.length=ps.length:=by
     intro pl; induction pl with
     | nil => intro ps k h; cases ps<;>simp [a6j] at h; rfl
     | cons p pl ih => intro ps k h; cases ps<;>simp [a6j] at h; simp [ih _ _ h.2]
    exact this _ _ _ hc
   simp at this; omega
  refine ⟨.slice (some ⟨w.heap.size,0,none⟩) len len,w.alloc (.cells cells' el),cells',el,(0,0), ?_,Still.alloc _ _,rfl, ?_⟩
  ·simp only [execOp,Sem.run_bind,run,Result.andThen_ok,Sem.run_pure]
  ·simp only [R];have hF:=FAt.froze g w.heap.size [] xs [];simp only [List.nil_append,List.append_nil,List.length_nil] at hF;refine ⟨some ⟨w.heap.size,0,none⟩,len,xs,by rw [hvl], ?_,fun v hv' => (hv v hv').1,by omega,by simp,by simp,by simp [hvl],.inr ⟨w.heap.size,0,rfl,by rw [f3]; exact hF⟩⟩;have hle:g.le (g.froze w.heap.size cells'.toList):=⟨fun _ _ k => k,fun b cs k => by
    have:=hs.fro_lt k;simp only [G.froze]; rw [if_neg (by omega)]; exact k⟩
   exact RL.mono hle _ _ f2
theorem RL.one {g:G}:∀ {l:List V} {xs:List Value},RL g l xs→∀ u∈xs,u.oneCell'=true
 | [],xs,h,u,hu => by simp only [RL] at h; subst h; cases hu
 | v::l,xs,h,u,hu => by
  simp only [RL] at h; obtain ⟨y,ys,rfl,⟨h0,h1⟩,h2⟩:=h;rcases List.mem_append.1 hu with hu | hu
  ·exact b3w h1 h0 u hu
  ·exact RL.one h2 u hu
theorem R.unS {g:G} {v:V} {x:Value} (h:R g v x):R g (unS v) x:=by
 cases v<;>first | exact h | (simp only [R] at h; simp only [Ev.unS,R]; obtain ⟨b,sz,n,a,h⟩:=h; exact ⟨b,sz,n,a,_,h⟩)
theorem b0o {P:Program} {size:Nat} {tx:TypeId} (w:World) (hk:(∃ e',P.underlying tx=some (.slice e'))∨P.underlying tx=some .string) (a:Addr) (n c:Nat) (news:List Value) (hl:news.length=n*size) (hnews:∀ j u,news[j]?=some u→w.cell? (a.add j)=some u)
  (h1:∀ u∈news,u.oneCell'=true):Go.Src P size tx (.slice (some a) n c) n news w :=
 ⟨hk,fun _ => rfl,run_firstCells_some w size n a n c news hl hnews,run_firstCells_some w.drew size n a n c news hl (by simpa using hnews),hl,h1⟩
theorem e5k {P:Program} {size:Nat} {tx:TypeId} (w:World) (hk:(∃ e',P.underlying tx=some (.slice e'))∨P.underlying tx=some .string) (c:Nat):Go.Src P size tx (.slice none 0 c) 0 [] w :=
 ⟨hk,fun _ => rfl,run_firstCells_none w size 0 0 c,run_firstCells_none w.drew size 0 0 c,by simp,fun _ h => by cases h⟩
theorem c5m {m:Hm} {g:G} {w:World} {v:V} {x:Value} {sz:Nat} {ys:List V} {tx:TypeId} (hs:RS g m w) (hr:R g v x) (hd:rd m v=some (sz,ys)) (hk:(∃ e',P.underlying tx=some (.slice e'))∨P.underlying tx=some .string) :
  ∃ news,Go.Src P sz tx x ys.length news w∧RL g ys news∧(∀ v∈ys,v.size=sz)∧∀ A n c,x=.slice (some A) n c→∀ (j:Nat) u,news[j]?=some u→w.cell? (A.add j)=some u:=by
 have one:∀ {l:List V} {xs:List Value},RL g l xs→∀ u∈xs,u.oneCell'=true:=by
  intro l; induction l with
  | nil => intro xs h u hu; simp only [RL] at h; subst h; cases hu
  | cons v l ih =>
   intro xs h u hu;simp only [RL] at h; obtain ⟨y,ys,rfl,⟨h0,h1⟩,h2⟩:=h;rcases List.mem_append.1 hu with hu | hu
   ·exact b3w h1 h0 u hu
   ·exact ih h2 u hu
 cases v<;>simp only [rd] at hd<;>try (simp at hd; done)
 ·rename_i id off len;split at hd
  ·rename_i sz' l hm;split at hd
   ·rename_i hlen;simp at hd; obtain ⟨rfl,rfl⟩:=hd;simp only [R] at hr;obtain ⟨b,sz2,n,a,cap,e1,rfl,e3,e4⟩:=hr;obtain ⟨b',n',cs,el,xs,post,p1,p2,p3,p4,p5,p6,p7,p8⟩:=a1e hs hm;rw [p1] at e1; simp at e1; obtain ⟨rfl,rfl,rfl⟩:=e1;obtain ⟨az,bs,q1,q2,q3,q4⟩:=RL.split off p5 p6 (by omega);obtain ⟨cs',ds,t1,t2,t3,t4⟩:=RL.split len q4 (fun v hv => p6 v (List.mem_of_mem_drop hv)) (by simp; omega);have hl:((l.drop off).take len).length=len:=by simp; omega
    have hl2:∀ v∈(l.drop off).take len,v.size=sz':=fun v hv => p6 v (List.mem_of_mem_drop (List.mem_of_mem_take hv));rcases e4 with ⟨rfl,_⟩ | h0
    ·have hc:CAt w b' (off*sz') cs':=⟨cs,el.1,_,az,ds++post,p2,by rw [p7,q1,t1]; simp,q2⟩;refine ⟨cs', ?_,t3,hl2,fun A n c e j u hu => ?_⟩
     ·rw [hl]; exact b0o w hk _ _ _ _ t2 (fun j u hu => hc.cell' hu) (one t3)
     ·simp at e; obtain ⟨rfl,rfl,rfl⟩:=e; exact hc.cell' hu
    ·have:len=0:=by omega
     subst this;have:cs'=[]:=by simpa using t2
     subst this;refine ⟨[], ?_,t3,hl2,fun A n c e j u hu => by simp at hu⟩;rw [hl]; exact b0o w hk _ _ _ _ (by simp) (by simp) (by simp)
   ·cases hd
  ·cases hd
 ·rename_i st sz' l;simp at hd; obtain ⟨rfl,rfl⟩:=hd;simp only [R] at hr;obtain ⟨a,cap,xs,rfl,e2,e3,e4,e5,e6,e7,e8⟩:=hr;have hl:=e2.length e3;rcases e8 with rfl | ⟨b,o,rfl,hF⟩
  ·simp only [RL] at e2; subst e2;refine ⟨[], ?_,by simp [RL],e3,fun A n c e j u hu => by simp at hu⟩;cases a with
   | none => exact e5k w hk _
   | some a => exact b0o w hk _ _ _ _ (by simp) (by simp) (by simp)
  ·have hc:=hF.cells hs;refine ⟨xs, ?_,e2,e3,fun A n c e j u hu => ?_⟩
   ·exact b0o w hk _ _ _ _ hl (fun j u hu => hc.cell' hu) (one e2)
   ·simp at e; obtain ⟨rfl,rfl,rfl⟩:=e; exact hc.cell' hu
theorem d9i {m:Hm} {g:G} {w:World} {v:V} {x:Value} {sz:Nat} {ys:List V} {tx e':TypeId} (hs:RS g m w) (hr:R g v x) (hd:rd m v=some (sz,ys)) (hk:P.underlying tx=some (.slice e')) :
  ∃ news,Go.Src P sz tx x ys.length news w∧RL g ys news∧(∀ v∈ys,v.size=sz)∧∀ A n c,x=.slice (some A) n c→∀ (j:Nat) u,news[j]?=some u→w.cell? (A.add j)=some u :=
 c5m hs hr hd (.inl ⟨_,hk⟩)
end
end
section
theorem RL.take {g:G} {sz:Nat} {l:List V} {xs:List Value} (k:Nat) (h:RL g l xs) (hz:∀ v∈l,v.size=sz) (hk:k≤l.length):RL g (l.take k) (xs.take (k*sz)):=by
 obtain ⟨az,bs,rfl,h1,h2,h3⟩:=RL.split k h hz hk;rwa [List.take_left' h1]
theorem a7q (z:Array Value) (n:Nat):(madeCells z (n*z.size)).toList=(List.replicate n z.toList).flatten:=by
 by_cases h0:z.size=0
 ·have:z=#[]:=by simpa using h0
  subst this;simp [madeCells]
 induction n with
 | zero => simp [madeCells]
 | succ n ih =>
  rw [List.replicate_succ,List.flatten_cons,← ih];simp only [madeCells,Array.toList_map,Array.toList_range];rw [Nat.add_mul,Nat.one_mul,Nat.add_comm,List.range_add,List.map_append,List.map_map];congr 1
  ·apply List.ext_getElem
   ·simp
   ·intro i h1 h2;simp at h1;simp [Nat.mod_eq_of_lt h1,h1]
  ·apply List.map_congr_left;intro i _;simp
theorem RL.replicate {g:G} {z:V} {zv:Value} (h:R g z zv) (he:z.isEl=true):∀ n,RL g (List.replicate n z) (List.replicate n zv.cells.toList).flatten
 | 0 => by simp [RL]
 | n+1 => by simp only [List.replicate_succ,List.flatten_cons,RL]; exact ⟨zv,_,rfl,⟨he,h⟩,RL.replicate h he n⟩
theorem a7j (z:Array Value) (n:Nat):(Builtin.zeroCells z n).toList=(List.replicate n z.toList).flatten:=a7q z n
theorem a3u {z:Array Value} {n:Nat} (h:z.toList.all Value.oneCell'=true):∀ u∈(Builtin.zeroCells z n).toList,u.oneCell'=true:=by
 intro u hu;rw [List.all_eq_true] at h;rw [a7j] at hu;obtain ⟨l,hl,hu⟩:=List.mem_flatten.1 hu;rw [List.eq_of_mem_replicate hl] at hu;exact h u hu
theorem a9z {P:Program} {w:World} {b o:Nat} {cs:Array Value} {e:TypeId} {fr:Nat×Nat} {vs:List Value} (hb:w.heap[b]?=some (.cells cs e fr)) (hfr:frOk fr cs.size) (hf:o+vs.length≤cs.size) (h1:∀ v∈vs,v.oneCell'=true) :
  w.setCells b o vs=w.setRow b (cs.toList.take o++vs++cs.toList.drop (o+vs.length)).toArray:=by
 have a1:=a2i (P:=P) b o e fr vs 0 cs w hfr hb (by simpa using hf) h1;have a2:=run_storeCells_cells (P:=P) b o vs 0 w (fun j hj => by simp [World.cell?,hb]; omega) (fun j hj => hfr.frozen hb (by simp; omega)) h1;rw [a1] at a2;simp only [Nat.add_zero] at a2;injection a2 with _ a3
 exact a3.symm
section
variable {P:Program} {dl:List (Option Nat)} {L:Src→Option V} {H:Hp} {K:KI} {dst:Option Tmp} {ty:TypeId} {pos:String} {after:Array Edge} {gu:Option (Nat×Bool)}
theorem b2q {m:Hm} {g:G} {w:World} {v:V} {x:Value} {sz:Nat} {ys:List V} {tx:TypeId} (hs:RS g m w) (hr:R g v x) (hd:rdA m v=some (sz,ys)) (hk:(∃ e',P.underlying tx=some (.slice e'))∨P.underlying tx=some .string) :
    ∃ news,Go.Src P sz tx x ys.length news w∧RL g ys news∧(∀ v∈ys,v.size=sz)∧∀ A n c,x=.slice (some A) n c→∀ (j:Nat) u,news[j]?=some u→w.cell? (A.add j)=some u:=by
  have other:rd m v=some (sz,ys)→_:=fun h => c5m hs hr h hk
  cases v<;>first | exact other hd | skip
  rename_i s
  simp only [rdA,Option.some.injEq,Prod.mk.injEq] at hd; obtain ⟨rfl,rfl⟩:=hd
  simp only [R] at hr; subst hr
  refine ⟨byteCells ⟨s.toArray⟩, ?_, ?_, ?_,fun A n c e => by cases e⟩
  · have hl:(s.map fun b => V.int .u8 b.toNat).length=(⟨s.toArray⟩:ByteArray).size:=by simp [ByteArray.size]
    rw [hl]
    exact ⟨hk,fun _ => rfl,firstCells_string _ w,firstCells_string _ w.drew,by rw [byteCells_length,Nat.mul_one],fun u hu => by
      obtain ⟨_,_,rfl⟩:=List.mem_map.1 hu
      rfl⟩
  · simp only [byteCells]
    clear other
    induction s with
    | nil => simp [RL]
    | cons b s ih => simp only [List.map_cons,RL] at ih ⊢; exact ⟨.int .u8 b.toNat,_,rfl,⟨rfl,by simp [R]⟩,ih⟩
  · intro v hv; obtain ⟨b,_,rfl⟩:=List.mem_map.1 hv; rfl
theorem e8n {t tx el:TypeId} {sz bt:Nat} {inf:TypeInfo} {zv:Value} {x y:Operand} {x' y':Src} (ht:P.underlying t=some (.slice el)) (hk:(∃ e',P.underlying tx=some (.slice e'))∨P.underlying tx=some .string) (hi:P.info? el=some inf) (hsz:inf.size=sz) (hbt:inf.bytes=bt) (hbt1:1≤bt) (hz:inf.zero=some zv) (hzs:zv.cells.size=sz) (hz1:zv.cells.toList.all Value.oneCell'=true)
  (h1:cs dl x x'=true) (h2:cs dl y y'=true) (h:evI P L H K (.app sz bt x' y')) :
  a0m P dl L H ⟨dst,.call { callee:=.builtin .append,args:=#[x,y],argTypes:=#[t,tx] },ty,pos,after,gu⟩ (.app sz bt x' y') K:=by
 simp only [evI] at h; obtain ⟨u,e1,hA⟩:=a0f h; clear h; obtain ⟨v,e2,hB⟩:=a0f hA; clear hA;have start:∀ (a:Act) (w w':World) (r:Value),(Builtin.append_ #[t,tx] ty #[a.eval x,a.eval y]).run P w=.ok r w' →
   (execOp a.eval ⟨dst,.call { callee:=.builtin .append,args:=#[x,y],argTypes:=#[t,tx] },ty,pos,after,gu⟩).run P w=.ok (.value r) w':=fun a w w' r hr => by
  simp [execOp,resolve,invoke,builtin,hr]
 cases hd:rdA H.m v with
 | none => simp [hd] at hB
 | some p =>
  obtain ⟨sz',ys⟩:=p;simp only [hd] at hB;obtain ⟨rfl,hB⟩:=hB;have agree:∀ {m:Hm},(∀ id∈fpS v,m id=H.m id)→rdA m v=some (sz',ys):=fun {m} hm => by
   cases v<;>simp only [rdA] at hd ⊢<;>try exact hd
   rw [hm _ (by simp [fpS])]; exact hd
  have rx:∀ {g:G} {a:Act},Rel dl L (⟨dst,.call { callee:=.builtin .append,args:=#[x,y],argTypes:=#[t,tx] },ty,pos,after,gu⟩:Oper).op.operands.toList g a→R g u (a.eval x)∧R g v (a.eval y):=fun {g a} hr =>
   ⟨hr x (by simp [Op.operands,Call.operands]) _ _ h1 e1,hr y (by simp [Op.operands,Call.operands]) _ _ h2 e2⟩
  cases u<;>try exact False.elim hB
  ·
   rename_i id off len;cases ho:H.m id with
   | none => simp [ho] at hB
   | some o =>
    cases o with
    | mp l | md c bs l | it d c ss => simp [ho] at hB
    | arr sz l =>
     simp only [ho] at hB;obtain ⟨rfl,rfl,hlen,hbytes,hK⟩:=hB;refine ⟨_,_,_,_,hK, ?_,by simp [Ins.kind],by simp [Ins.kind],fun m g w a hm hf hs hr ro Kc Q hk' => ?_⟩
     ·intro p hp;simp at hp;rcases hp with rfl | rfl
      ·exact .inl (by simp)
      ·exact .inr ⟨Nat.le_refl _,by simp⟩
     obtain ⟨r1,r2⟩:=rx hr;have hmo:m id=some (.arr sz l):=(hm id (by simp)).trans ho;obtain ⟨news,src,rl,hzy,hcells⟩:=b2q hs r2 (agree fun i hi => hm i (by simp [hi])) hk;simp only [R] at r1;obtain ⟨b,sz2,n,A,cap,p1,p2,p3,p4⟩:=r1;obtain ⟨b',n',cs',el',xs,post,z1,z2,z3,z4,z5,z6,z7,z8⟩:=a1e hs hmo;rw [z1] at p1; simp at p1; obtain ⟨rfl,rfl,rfl⟩:=p1;have hfn:g.ι H.n=none:=(hf H.n (Nat.le_refl _) (by omega)).1;have hne:id≠H.n:=fun e => by rw [e,hfn] at z1; cases z1
     have hIE:∀ b s n,IExt g (g.lay H.n b s n) H.n 1:=fun b s n i hi => by
      simp only [G.lay]; rw [if_neg (fun e => hi (by omega))]
     obtain ⟨az,bs,s1,s2,s3,s4⟩:=RL.split len z5 z6 hlen;have hz3:∀ v∈l.take len,v.size=sz:=fun v hv => z6 v (List.mem_of_mem_take hv);have hzz:∀ v∈l.take len++ys,v.size=sz:=fun v hv => (List.mem_append.1 hv).elim (hz3 v) (hzy v);have hnl:=src.newsLen;by_cases hroom:len+ys.length≤cap∧0 < ys.length
     ·
      obtain ⟨hroom,hpos⟩:=hroom;rcases p4 with ⟨rfl,p4⟩ | p4
      ·simp only [Nat.zero_add,Nat.zero_mul] at p2 p4;have hfit:len*sz+news.length≤cs'.size:=by
        rw [hnl,← Nat.add_mul,z3]; exact Nat.le_trans (Nat.mul_le_mul_right _ hroom) p4
       have run:=run_append_room_src (P:=P) (w:=w) t tx ty el inf ht hi b' 0 len cap (a.eval y) ys.length news (by rw [hsz]; exact src) hroom
        (by intro j hj; simp [World.cell?,z2,hsz]; omega) (by intro j hj; exact frOk.frozen (by rw [z3]; exact z4.2) z2 (by rw [hsz]; simp at hj ⊢; omega))
       rw [← p2,hsz,Nat.zero_add,a9z (P:=P) z2 (by rw [z3]; exact z4.2) hfit src.one] at run;have hlist:cs'.toList.take (len*sz)++news++cs'.toList.drop (len*sz+news.length)=(az++news)++(cs'.toList.drop (len*sz+news.length)):=by
        rw [z7,s1,List.append_assoc az bs,List.take_left' s2]
       obtain ⟨k1,k2⟩:=hs.put (w':=w.setRow b' (cs'.toList.take (len*sz)++news++cs'.toList.drop (len*sz+news.length)).toArray) (l:=l.take len++ys) (xs:=az++news) (post:=cs'.toList.drop (len*sz+news.length))
        (Still.row _ _ _) hmo z1 (setRow_heap w b' cs' _ el'.1 el'.2 z2) z4.2 (fun k hk => setRow_other w b' k _ hk) (by simp)
        (by simp only [List.size_toArray,List.length_append,List.length_take,List.length_drop,Array.length_toList]; omega)
        (s3.append rl) hzz (by simpa using hlist) ⟨z8.1,fun u hu => by
         have:=List.mem_of_mem_drop hu;rw [z7] at this;exact (List.mem_append.1 this).elim (z5.one u) (z8.2 u)⟩
       obtain ⟨k3,k4⟩:=k1.rename (id:=id) (id':=H.n) (by simp [upd]; rfl) z1 hfn;have hmm:upd (upd (upd m id (some (.arr sz (l.take len++ys)))) id none) H.n (some (.arr sz (l.take len++ys)))=appd [(id,none),(H.n,some (.arr sz (l.take len++ys)))] m:=by
        funext i; simp only [appd,upd]; split<;>first | rfl | (split<;>rfl)
       rw [hmm] at k3 k4;refine a0y (start a w _ _ run) (hk' _ _ _ k3 (hIE _ _ _) (k2.trans k4) ?_);simp only [R];exact ⟨b',sz,n',⟨b',0,none⟩,cap,by simp [G.lay],rfl,hroom,.inl ⟨by simp,by simpa using p4⟩⟩
      ·omega
     ·by_cases hnil:ys.length=0
      ·
       have hys:ys=[]:=by simpa using hnil
       subst hys;simp only [RL] at rl; subst rl;have run:=run_append_nothing (P:=P) w t tx ty el inf ht hi (some A) len cap p3 (a.eval y) (by rw [hsz]; exact src);rw [← p2] at run;obtain ⟨k1,k2⟩:=hs.put (w':=w) (l:=l.take len++[]) (xs:=az) (post:=bs++post) ⟨rfl,rfl,rfl⟩ hmo z1 z2 z4.2 (fun _ _ => rfl) rfl z3 (by simpa using s3) hzz (by rw [z7,s1]; simp) ⟨z8.1,fun u hu => (List.mem_append.1 hu).elim (s4.one u) (z8.2 u)⟩;obtain ⟨k3,k4⟩:=k1.rename (id:=id) (id':=H.n) (by simp [upd]; rfl) z1 hfn;have hmm:upd (upd (upd m id (some (.arr sz (l.take len++[])))) id none) H.n (some (.arr sz (l.take len++[])))=appd [(id,none),(H.n,some (.arr sz (l.take len++[])))] m:=by
        funext i; simp only [appd,upd]; split<;>first | rfl | (split<;>rfl)
       rw [List.append_nil] at hmm k3 k4;refine a0y (start a w _ _ run) (hk' _ _ _ (by rw [List.append_nil,← hmm]; exact k3) (hIE _ _ _) (by rw [List.append_nil,← hmm]; rw [List.append_nil] at k2; exact k2.trans k4) ?_);rw [p2];simp only [R];exact ⟨b',sz,n',A,cap,by simp [G.lay],rfl,p3,p4⟩
      ·
       have hgt:cap < len+ys.length:=by omega
       have hfit:Builtin.nextslicecap (len+ys.length) cap*inf.bytes≤281474976710656:=growslice_fits hgt (by rw [hbt]; exact hbytes);have h63:((len+ys.length:Nat):Int)≤9223372036854775807:=by
        have:len+ys.length≤(len+ys.length)*bt:=Nat.le_mul_of_pos_right _ (by omega);omega
       have hold:(Builtin.firstCells inf.size len (.slice (some A) len cap)).run P w.drew=.ok az.toArray w.drew:=by
        rw [hsz];rcases p4 with ⟨rfl,p4⟩ | p4
        ·have hc:CAt w b' (0*sz) az:=⟨cs',el'.1,_,[],bs++post,z2,by rw [z7,s1]; simp,by simp⟩;exact run_firstCells_some w.drew sz len _ len cap az s2 (fun j u hu => by simpa using hc.cell' hu)
        ·have hl0:len=0:=by omega
         subst hl0;have:az=[]:=by simpa using s2
         subst this;exact run_firstCells_some w.drew sz 0 _ 0 cap [] (by simp) (by simp)
       have run:=run_append_grow_src (P:=P) (w:=w) t tx ty el inf zv ht hi hz (some A) len cap az hold (a.eval y) ys.length news (by rw [hsz]; exact src) hgt h63 hfit;rw [← p2] at run;obtain ⟨k1,k2⟩:=hs.kill id;have hge:=grownCap_ge w (len+ys.length) cap el;obtain ⟨k3,k4⟩:=k1.new_live (id:=H.n) (sz:=sz) (cs:=(az++news).toArray++Builtin.zeroCells zv.cells (grownCap w (len+ys.length) cap el - (len+ys.length))) (l:=l.take len++ys) (xs:=az++news) (post:=(Builtin.zeroCells zv.cells (grownCap w (len+ys.length) cap el - (len+ys.length))).toList) (Still.drewAlloc w _) rfl hfn (s3.append rl) hzz (by simp) (a3u hz1);refine a0y (start a w _ _ run) (hk' _ _ _ k3 (hIE _ _ _) (k2.trans k4) ?_);simp only [R];refine ⟨w.heap.size,sz,_,⟨w.heap.size,0,none⟩,grownCap w (len+ys.length) cap el,if_pos rfl,rfl,hge,.inl ⟨by simp, ?_⟩⟩;have hzc:(Builtin.zeroCells zv.cells (grownCap w (len+ys.length) cap el - (len+ys.length))).size=(grownCap w (len+ys.length) cap el - (len+ys.length))*sz:=by simp [Builtin.zeroCells,hzs]
       simp only [List.size_toArray,Array.size_append,List.length_append,hzc,s2,hnl,Nat.zero_add];rw [← Nat.add_mul,← Nat.add_mul]; exact Nat.mul_le_mul_right _ (by omega)
  ·
   rename_i st sz'' l;obtain ⟨rfl,hB⟩:=hB;cases ys with
   | nil =>
    refine a1s (by simp [Ins.kind]) hB fun m g a w hm hs hr => ?_;obtain ⟨r1,r2⟩:=rx hr;obtain ⟨news,src,rl,hzy,hcells⟩:=b2q hs r2 (agree hm) hk;simp only [RL] at rl; subst rl;have r1':=r1;simp only [R] at r1;obtain ⟨A,cap,xs,p1,p2,p3,p4,p5⟩:=r1;have run:=run_append_nothing (P:=P) w t tx ty el inf ht hi A l.length cap p4 (a.eval y) (by rw [hsz]; exact src);rw [← p1] at run;exact ⟨a.eval x,start a w w _ run,r1'⟩
   | cons y0 ys =>
    simp only at hB;obtain ⟨hst,hbytes,hK⟩:=hB;refine ⟨_,_,_,_,hK, ?_,by simp [Ins.kind],by simp [Ins.kind],fun m g w a hm hf hs hr ro Kc Q hk' => ?_⟩
    ·intro p hp;simp at hp; subst hp;exact .inr ⟨Nat.le_refl _,by simp⟩
    obtain ⟨r1,r2⟩:=rx hr;obtain ⟨news,src,rl,hzy,hcells⟩:=b2q hs r2 (agree hm) hk;simp only [R] at r1;obtain ⟨A,cap,xs,p1,p2,p3,p4,p5,p6,p7,p8⟩:=r1;have hcap:cap=l.length:=by
     cases st with
     | nil => have:=p5 (p6.1 rfl); omega
     | full => exact p7 rfl
     | loose => exact absurd rfl hst.1
     | nn => exact absurd rfl hst.2
    have hfn:g.ι H.n=none:=(hf H.n (Nat.le_refl _) (by omega)).1;have hIE:∀ b s n,IExt g (g.lay H.n b s n) H.n 1:=fun b s n i hi => by
     simp only [G.lay]; rw [if_neg (fun e => hi (by omega))]
    have hnl:=src.newsLen;have hgt:cap < l.length+(y0::ys).length:=by simp; omega
    have hfit:Builtin.nextslicecap (l.length+(y0::ys).length) cap*inf.bytes≤281474976710656:=growslice_fits hgt (by rw [hbt]; exact hbytes);have h63:((l.length+(y0::ys).length:Nat):Int)≤9223372036854775807:=by
     have:l.length+(y0::ys).length≤(l.length+(y0::ys).length)*bt:=Nat.le_mul_of_pos_right _ (by omega);omega
    have hxl:=p2.length p3;have hold:(Builtin.firstCells inf.size l.length (.slice A l.length cap)).run P w.drew=.ok xs.toArray w.drew:=by
     rw [hsz];cases A with
     | none =>
      have:l=[]:=by have:=p5 rfl; exact List.length_eq_zero_iff.1 (by omega)
      subst this;simp only [RL] at p2; subst p2;exact run_firstCells_none w.drew _ _ _ _
     | some q =>
      rcases p8 with rfl | ⟨b,o,hq,hF⟩
      ·simp only [RL] at p2; subst p2;exact run_firstCells_some w.drew _ 0 _ 0 cap [] (by simp) (by simp)
      ·simp at hq; subst hq;have hc:=hF.cells hs;exact run_firstCells_some w.drew _ _ _ _ cap xs hxl (fun j u hu => by simpa using hc.cell' hu)
    have run:=run_append_grow_src (P:=P) (w:=w) t tx ty el inf zv ht hi hz A l.length cap xs hold (a.eval y) (y0::ys).length news (by rw [hsz]; exact src) hgt h63 hfit;rw [← p1] at run;have hge:=grownCap_ge w (l.length+(y0::ys).length) cap el;obtain ⟨k3,k4⟩:=hs.new_live (id:=H.n) (sz:=sz'') (cs:=(xs++news).toArray++Builtin.zeroCells zv.cells (grownCap w (l.length+(y0::ys).length) cap el - (l.length+(y0::ys).length))) (l:=l++(y0::ys)) (xs:=xs++news)
     (post:=(Builtin.zeroCells zv.cells (grownCap w (l.length+(y0::ys).length) cap el - (l.length+(y0::ys).length))).toList) (Still.drewAlloc w _) rfl hfn (p2.append rl) (fun v hv => (List.mem_append.1 hv).elim (p3 v) (hzy v)) (by simp) (a3u hz1)
    refine a0y (start a w _ _ run) (hk' _ _ _ k3 (hIE _ _ _) k4 ?_);simp only [R];refine ⟨w.heap.size,sz'',_,⟨w.heap.size,0,none⟩,grownCap w (l.length+(y0::ys).length) cap el,if_pos rfl,rfl,hge,.inl ⟨by simp, ?_⟩⟩;generalize (y0::ys).length=nn at hge hnl ⊢;have hzc:(Builtin.zeroCells zv.cells (grownCap w (l.length+nn) cap el - (l.length+nn))).size=(grownCap w (l.length+nn) cap el - (l.length+nn))*sz'':=by simp [Builtin.zeroCells,hzs]
    simp only [List.size_toArray,Array.size_append,List.length_append,hzc,hxl,hnl,Nat.zero_add];rw [← Nat.add_mul,← Nat.add_mul]; exact Nat.mul_le_mul_right _ (by omega)
  ·
   rename_i id off len cap;cases ho:H.m id with
   | none => simp [ho] at hB
   | some o =>
    cases o with
    | mp l | md c bs l | it d c ss => simp [ho] at hB
    | arr sz l =>
     simp only [ho] at hB;obtain ⟨rfl,rfl,hpos,hB⟩:=hB;by_cases hroom:len+ys.length≤cap
     ·rw [if_pos hroom] at hB;obtain ⟨hlen,hK⟩:=hB;refine ⟨_,_,_,_,hK,by simp,by simp [Ins.kind],by simp [Ins.kind],fun m g w a hm hf hs hr ro Kc Q hk' => ?_⟩;obtain ⟨r1,r2⟩:=rx hr;have hmo:m id=some (.arr sz l):=(hm id (by simp)).trans ho;obtain ⟨news,src,rl,hzy,hcells⟩:=b2q hs r2 (agree fun i hi => hm i (by simp [hi])) hk;simp only [R] at r1;obtain ⟨b,sz2,n,A,p1,p2,p3,p4⟩:=r1;obtain ⟨b',n',cs',el',xs,post,z1,z2,z3,z4,z5,z6,z7,z8⟩:=a1e hs hmo;rw [z1] at p1; simp at p1; obtain ⟨rfl,rfl,rfl⟩:=p1;have hnl:=src.newsLen;rcases p4 with ⟨rfl,p4⟩ | p4
      ·simp only [Nat.zero_add,Nat.zero_mul] at p2 p4;have hfit:len*sz+news.length≤cs'.size:=by
        rw [hnl,← Nat.add_mul,z3]; exact Nat.le_trans (Nat.mul_le_mul_right _ hroom) p4
       have run:=run_append_room_src (P:=P) (w:=w) t tx ty el inf ht hi b' 0 len cap (a.eval y) ys.length news (by rw [hsz]; exact src) hroom
        (by intro j hj; simp [World.cell?,z2,hsz]; omega) (by intro j hj; exact frOk.frozen (by rw [z3]; exact z4.2) z2 (by rw [hsz]; simp at hj ⊢; omega))
       rw [← p2,hsz,Nat.zero_add,a9z (P:=P) z2 (by rw [z3]; exact z4.2) hfit src.one] at run;obtain ⟨az,bs,s1,s2,s3,s4⟩:=RL.split len z5 z6 (by omega);have hz4:∀ v∈l.drop len,v.size=sz:=fun v hv => z6 v (List.mem_of_mem_drop hv);obtain ⟨cs2,ds,t1,t2,t3,t4⟩:=RL.split ys.length s4 hz4 (by simp; omega);rw [List.drop_drop] at t4;have e0:cs'.toList=az++(cs2++(ds++post)):=by rw [z7,s1,t1]; simp
       have hlist:cs'.toList.take (len*sz)++news++cs'.toList.drop (len*sz+news.length)=(az++news++ds)++post:=by
        rw [e0,List.take_left' s2,show az++(cs2++(ds++post))=(az++cs2)++(ds++post) by simp,List.drop_left' (by simp [s2,t2,hnl])];simp
       have hl2:=congrArg List.length hlist;have hl3:=congrArg List.length e0;generalize cs'.toList.take (len*sz)++news++cs'.toList.drop (len*sz+news.length)=ws at run hlist hl2;obtain ⟨k1,k2⟩:=hs.put (w':=w.setRow b' ws.toArray) (l:=l.take len++ys++l.drop (len+ys.length)) (xs:=az++news++ds) (post:=post)
        (Still.row _ _ _) hmo z1 (setRow_heap w b' cs' _ el'.1 el'.2 z2) z4.2 (fun k hk => setRow_other w b' k _ hk) (by simp)
        (by simp only [List.length_append,Array.length_toList,List.size_toArray] at hl2 hl3 ⊢; omega)
        ((s3.append rl).append t4) (fun v hv => by
         rcases List.mem_append.1 hv with hv | hv
         ·rcases List.mem_append.1 hv with hv | hv
          ·exact z6 v (List.mem_of_mem_take hv)
          ·exact hzy v hv
         ·exact z6 v (List.mem_of_mem_drop hv)) (by simpa using hlist) z8
       refine a0y (start a w _ _ run) (hk' _ _ _ k1 (fun _ _ => rfl) k2 ?_);simp only [R];exact ⟨b',sz,n',⟨b',0,none⟩,z1,rfl,hroom,.inl ⟨by simp,by simpa using p4⟩⟩
      ·omega
     ·rw [if_neg hroom] at hB;obtain ⟨hlen,hbytes,hK⟩:=hB;refine ⟨_,_,_,_,hK, ?_,by simp [Ins.kind],by simp [Ins.kind],fun m g w a hm hf hs hr ro Kc Q hk' => ?_⟩
      ·intro p hp;simp at hp; subst hp;exact .inr ⟨Nat.le_refl _,by simp⟩
      obtain ⟨r1,r2⟩:=rx hr;have hmo:m id=some (.arr sz l):=(hm id (by simp)).trans ho;obtain ⟨news,src,rl,hzy,hcells⟩:=b2q hs r2 (agree fun i hi => hm i (by simp [hi])) hk;simp only [R] at r1;obtain ⟨b,sz2,n,A,p1,p2,p3,p4⟩:=r1;obtain ⟨b',n',cs',el',xs,post,z1,z2,z3,z4,z5,z6,z7,z8⟩:=a1e hs hmo;rw [z1] at p1; simp at p1; obtain ⟨rfl,rfl,rfl⟩:=p1;have hnl:=src.newsLen;have hfn:g.ι H.n=none:=(hf H.n (Nat.le_refl _) (by omega)).1;have hIE:∀ b s n,IExt g (g.lay H.n b s n) H.n 1:=fun b s n i hi => by
       simp only [G.lay]; rw [if_neg (fun e => hi (by omega))]
      obtain ⟨az,bs,s1,s2,s3,s4⟩:=RL.split len z5 z6 hlen;have hzz:∀ v∈l.take len++ys,v.size=sz:=fun v hv => (List.mem_append.1 hv).elim (fun h => z6 v (List.mem_of_mem_take h)) (hzy v);have hgt:cap < len+ys.length:=by omega
      have hfit:Builtin.nextslicecap (len+ys.length) cap*inf.bytes≤281474976710656:=growslice_fits hgt (by rw [hbt]; exact hbytes);have h63:((len+ys.length:Nat):Int)≤9223372036854775807:=by
       have:len+ys.length≤(len+ys.length)*bt:=Nat.le_mul_of_pos_right _ (by omega);omega
      have hold:(Builtin.firstCells inf.size len (.slice (some A) len cap)).run P w.drew=.ok az.toArray w.drew:=by
       rw [hsz];rcases p4 with ⟨rfl,p4⟩ | p4
       ·have hc:CAt w b' (0*sz) az:=⟨cs',el'.1,_,[],bs++post,z2,by rw [z7,s1]; simp,by simp⟩;exact run_firstCells_some w.drew sz len _ len cap az s2 (fun j u hu => by simpa using hc.cell' hu)
       ·have hl0:len=0:=by omega
        subst hl0;have:az=[]:=by simpa using s2
        subst this;exact run_firstCells_some w.drew sz 0 _ 0 cap [] (by simp) (by simp)
      have run:=run_append_grow_src (P:=P) (w:=w) t tx ty el inf zv ht hi hz (some A) len cap az hold (a.eval y) ys.length news (by rw [hsz]; exact src) hgt h63 hfit;rw [← p2] at run;have hge:=grownCap_ge w (len+ys.length) cap el;obtain ⟨k3,k4⟩:=hs.new_live (id:=H.n) (sz:=sz) (cs:=(az++news).toArray++Builtin.zeroCells zv.cells (grownCap w (len+ys.length) cap el - (len+ys.length))) (l:=l.take len++ys) (xs:=az++news) (post:=(Builtin.zeroCells zv.cells (grownCap w (len+ys.length) cap el - (len+ys.length))).toList) (Still.drewAlloc w _) rfl hfn (s3.append rl) hzz (by simp) (a3u hz1);refine a0y (start a w _ _ run) (hk' _ _ _ k3 (hIE _ _ _) k4 ?_);simp only [R];refine ⟨w.heap.size,sz,_,⟨w.heap.size,0,none⟩,grownCap w (len+ys.length) cap el,if_pos rfl,rfl,hge,.inl ⟨by simp, ?_⟩⟩;have hzc:(Builtin.zeroCells zv.cells (grownCap w (len+ys.length) cap el - (len+ys.length))).size=(grownCap w (len+ys.length) cap el - (len+ys.length))*sz:=by simp [Builtin.zeroCells,hzs]
      simp only [List.size_toArray,Array.size_append,List.length_append,hzc,s2,hnl,Nat.zero_add];rw [← Nat.add_mul,← Nat.add_mul]; exact Nat.mul_le_mul_right _ (by omega)
theorem e8u {t tx el:TypeId} {kn:IntKind} {sz bt:Nat} {inf:TypeInfo} {z:V} {zv:Value} {x y:Operand} {x' y':Src} (ht:P.underlying t=some (.slice el)) (htx:P.underlying tx=some (.int kn)) (hi:P.info? el=some inf) (hsz:inf.size=sz) (hbt:inf.bytes=bt) (hbt1:1≤bt) (hsz1:1≤sz) (hz:inf.zero=some zv) (hzs:zv.cells.size=sz) (hz1:zv.cells.toList.all Value.oneCell'=true)
  (hkz:kon z zv=true) (h1:cs dl x x'=true) (h2:cs dl y y'=true) (h:evI P L H K (.apz sz bt z x' y')) :
  a0m P dl L H ⟨dst,.call { callee:=.builtin .append,args:=#[x,y],argTypes:=#[t,tx] },ty,pos,after,gu⟩ (.apz sz bt z x' y') K:=by
 simp only [evI] at h; obtain ⟨u,e1,hA⟩:=a0f h; clear h; obtain ⟨v,e2,hB⟩:=a0f hA; clear hA;have start:∀ (a:Act) (w w':World) (r:Value),(Builtin.append_ #[t,tx] ty #[a.eval x,a.eval y]).run P w=.ok r w' →
   (execOp a.eval ⟨dst,.call { callee:=.builtin .append,args:=#[x,y],argTypes:=#[t,tx] },ty,pos,after,gu⟩).run P w=.ok (.value r) w':=fun a w w' r hr => by
  simp [execOp,resolve,invoke,builtin,hr]
 cases u<;>try exact False.elim hB
 rename_i id off len cap;cases v<;>try exact False.elim hB
 rename_i ki k;cases ki<;>try exact False.elim hB
 cases ho:H.m id with
 | none => simp [ho] at hB
 | some o =>
  cases o with
  | mp l | md c bs l | it d c ss => simp [ho] at hB
  | arr sz' l =>
   simp only [ho] at hB;obtain ⟨rfl,rfl,hlen,hk0,hcap,hbytes,hzz0,hze,hK⟩:=hB;obtain ⟨k,rfl⟩:=Int.eq_ofNat_of_zero_le hk0;simp only [Int.toNat_natCast] at hbytes hK;refine ⟨_,_,_,_,hK, ?_,by simp [Ins.kind],by simp [Ins.kind],fun m g w a hm hf hs hr ro Kc Q hk' => ?_⟩
   ·intro p hp;simp at hp; subst hp;exact .inr ⟨Nat.le_refl _,by simp⟩
   have r1:=hr x (by simp [Op.operands,Call.operands]) _ _ h1 e1;have r2:=hr y (by simp [Op.operands,Call.operands]) _ _ h2 e2;have hmo:m id=some (.arr sz' l):=(hm id (by simp)).trans ho;simp only [R] at r1 r2;obtain ⟨b,sz2,n,A,p1,p2,p3,p4⟩:=r1;obtain ⟨b',n',cs',el',xs,post,z1,z2,z3,z4,z5,z6,z7,z8⟩:=a1e hs hmo;rw [z1] at p1; simp at p1; obtain ⟨rfl,rfl,rfl⟩:=p1;have hfn:g.ι H.n=none:=(hf H.n (Nat.le_refl _) (by omega)).1;have hIE:∀ b s n,IExt g (g.lay H.n b s n) H.n 1:=fun b s n i hi => by
    simp only [G.lay]; rw [if_neg (fun e => hi (by omega))]
   obtain ⟨az,bs,s1,s2,s3,s4⟩:=RL.split len z5 z6 hlen;have hzz:∀ v∈l.take len++List.replicate k z,v.size=sz':=fun v hv => (List.mem_append.1 hv).elim (fun h => z6 v (List.mem_of_mem_take h)) (fun h => by rw [List.eq_of_mem_replicate h]; exact hzz0);have hgt:cap < len+k:=by omega
   have hfit:Builtin.nextslicecap (len+k) cap*inf.bytes≤281474976710656:=growslice_fits hgt (by rw [hbt]; exact hbytes);have hnb:len+k≤(len+k)*bt:=Nat.le_mul_of_pos_right _ (by omega);have h63:((len+k:Nat):Int)≤9223372036854775807:=by omega
   have hold:(Builtin.firstCells inf.size len (.slice (some A) len cap)).run P w.drew=.ok az.toArray w.drew:=by
    rw [hsz];rcases p4 with ⟨rfl,p4⟩ | p4
    ·have hc:CAt w b' (0*sz') az:=⟨cs',el'.1,_,[],bs++post,z2,by rw [z7,s1]; simp,by simp⟩;exact run_firstCells_some w.drew sz' len _ len cap az s2 (fun j u hu => by simpa using hc.cell' hu)
    ·have hl0:len=0:=by omega
     subst hl0;have:az=[]:=by simpa using s2
     subst this;exact run_firstCells_some w.drew sz' 0 _ 0 cap [] (by simp) (by simp)
   have hkb:k*bt≤(len+k)*bt:=Nat.mul_le_mul_right _ (by omega);have run:=Lib.run_append_grow_zeros (P:=P) w t tx ty el inf zv .i64 kn ht htx hi hz (some A) len cap az hold k (by omega) (by omega) hgt h63 (by rw [hbt]; omega) hfit;rw [← p2] at run;have hge:=grownCap_ge w (len+k) cap el;have rl:=RL.replicate (b3p g z zv hkz) hze k;have hzl:=a7j zv.cells k;obtain ⟨k3,k4⟩:=hs.new_live (id:=H.n) (sz:=sz') (cs:=az.toArray++Builtin.zeroCells zv.cells k++Builtin.zeroCells zv.cells (grownCap w (len+k) cap el - (len+k))) (l:=l.take len++List.replicate k z) (xs:=az++(List.replicate k zv.cells.toList).flatten) (post:=(Builtin.zeroCells zv.cells (grownCap w (len+k) cap el - (len+k))).toList) (Still.drewAlloc w _) rfl hfn (s3.append rl) hzz (by simp [hzl]) (a3u hz1);refine a0y (start a w _ _ (by rw [r2]; exact run)) (hk' _ _ _ k3 (hIE _ _ _) k4 ?_);simp only [R];refine ⟨w.heap.size,sz',_,⟨w.heap.size,0,none⟩,grownCap w (len+k) cap el,if_pos rfl,rfl,hge,.inl ⟨by simp, ?_⟩⟩;have hzc:∀ n,(Builtin.zeroCells zv.cells n).size=n*sz':=fun n => by simp [Builtin.zeroCells,hzs]
   simp only [List.size_toArray,Array.size_append,List.length_append,hzc,s2,Nat.zero_add];rw [← Nat.add_mul,← Nat.add_mul]; exact Nat.mul_le_mul_right _ (by omega)
theorem e8x {f:FuncId} {args:Array Operand} {ts:Array TypeId} {args':List Src} (h2:csL dl args.toList args'=true) (h:evI P L H K (.xcl f args')) :
  a0m P dl L H ⟨dst,.call { callee:=.value (.func f),args:=args,argTypes:=ts },ty,pos,after,gu⟩ (.xcl f args') K:=by
 simp only [evI] at h;obtain ⟨vs,hB,l,k⟩:=a4o h;obtain ⟨fp,r,hx,hK⟩:=hB;refine a1s (by simp [Ins.kind]) hK fun m g a w hm hs hr => ?_;have q2:=b2u hr h2 (fun y hy => by simp at hy; simp [Op.operands,Call.operands,hy]) l k;obtain ⟨x,e1,e2⟩:=hx m g w (args.map a.eval) hm hs (by simpa using q2);refine ⟨x, ?_,e2⟩;simp [execOp,resolve,Act.eval,Deferred.ofValue,invoke,e1]
theorem e7x {t el:TypeId} {sz bt:Nat} {inf:TypeInfo} {z:V} {zv:Value} {x:Operand} {x':Src} (ht:P.underlying t=some (.slice el)) (hi:P.info? el=some inf) (hsz:inf.size=sz) (hbt:inf.bytes=bt) (hz:inf.zero=some zv) (hzs:zv.cells.size=sz)
  (hk:kon z zv=true) {y:Operand} (h1:cs dl x x'=true) (h2:cs dl y x'=true) (h:evI P L H K (.mks sz bt z x')):a0m P dl L H ⟨dst,.makeSlice t x y,ty,pos,after,gu⟩ (.mks sz bt z x') K:=by
 simp only [evI] at h; obtain ⟨u,e1,hA⟩:=a0f h; clear h;split at hA
 ·rename_i n;obtain ⟨h0,h63,hb,hzz,hze,hK⟩:=hA;refine b6i rfl hK fun m g a w hs hr => ?_;have q:=hr x (by simp [Op.operands]) _ _ h1 e1;have q':=hr y (by simp [Op.operands]) _ _ h2 e1;simp only [R] at q q';have run:=run_make (P:=P) w t el inf zv ht hi hz .i64 .i64 n n h0 (Int.le_refl _) (by rw [hbt]; exact hb) h63;have hm:(madeCells zv.cells (n.toNat*inf.size)).toList=(List.replicate n.toNat zv.cells.toList).flatten:=by
   rw [hsz,← hzs]; exact a7q _ _
  refine ⟨.slice (some ⟨w.heap.size,0,none⟩) n.toNat n.toNat,_,madeCells zv.cells (n.toNat*inf.size),el,(List.replicate n.toNat zv.cells.toList).flatten,[], ?_,Still.alloc w (.cells (madeCells zv.cells (n.toNat*inf.size)) el),rfl,RL.replicate (b3p g z zv hk) hze _, ?_,by simpa using hm, ?_⟩
  ·simp only [execOp,q,q',Sem.run_bind,run,Result.andThen_ok,Sem.run_pure]
  ·intro v hv; rw [List.eq_of_mem_replicate hv]; exact hzz
  ·simp only [R];refine ⟨w.heap.size,sz,(madeCells zv.cells (n.toNat*inf.size)).size,_,n.toNat,by simp [G.lay],rfl,Nat.le_refl _,.inl ⟨by simp, ?_⟩⟩;rw [size_madeCells,hsz,Nat.zero_add]; exact Nat.le_refl _
 ·exact hA.elim
theorem e7e {t tx el:TypeId} {sz:Nat} {inf:TypeInfo} {x y:Operand} {x' y':Src} (ht:P.underlying t=some (.slice el)) (htx:∃ e',P.underlying tx=some (.slice e')) (hi:P.info? el=some inf) (hsz:inf.size=sz)
    (h1:cs dl x x'=true) (h2:cs dl y y'=true) (h:evI P L H K (.cpy sz x' y')) :
    a0m P dl L H ⟨dst,.call { callee:=.builtin .copy,args:=#[x,y],argTypes:=#[t,tx] },ty,pos,after,gu⟩ (.cpy sz x' y') K:=by
  simp only [evI] at h; obtain ⟨u0,e1,hA⟩:=a0f h; clear h; obtain ⟨v0,e2,hB⟩:=a0f hA; clear hA
  obtain ⟨e',hk⟩:=htx
  have start:∀ (a:Act) (w w':World) (r:Value),(Builtin.copy_ #[t,tx] ty #[a.eval x,a.eval y]).run P w=.ok r w' →
      (execOp a.eval ⟨dst,.call { callee:=.builtin .copy,args:=#[x,y],argTypes:=#[t,tx] },ty,pos,after,gu⟩).run P w=.ok (.value r) w':=fun a w w' r hr => by
    simp [execOp,resolve,invoke,builtin,hr]
  have rx:∀ {g:G} {a:Act},Rel dl L (⟨dst,.call { callee:=.builtin .copy,args:=#[x,y],argTypes:=#[t,tx] },ty,pos,after,gu⟩:Oper).op.operands.toList g a→R g (unS u0) (a.eval x)∧R g (unS v0) (a.eval y):=fun {g a} hr =>
    ⟨(hr x (by simp [Op.operands,Call.operands]) _ _ h1 e1).unS,(hr y (by simp [Op.operands,Call.operands]) _ _ h2 e2).unS⟩
  generalize unS u0=u at hB rx
  generalize unS v0=v at hB rx
  cases hd:rd H.m v with
  | none => simp [hd] at hB
  | some p =>
    obtain ⟨sz',ys⟩:=p
    simp only [hd] at hB
    obtain ⟨rfl,hB⟩:=hB
    have agree:∀ {m:Hm},(∀ id∈fpS v,m id=H.m id)→rd m v=some (sz',ys):=fun {m} hm => by
      cases v<;>simp only [rd] at hd ⊢<;>try exact hd
      rw [hm _ (by simp [fpS])]; exact hd
    have wpc:∀ {m:Hm} {g:G} {w:World} {a:Act} (k:Nat),RS g m w→R g v (a.eval y)→rd m v=some (sz',ys)→k≤ys.length →
        ∃ news,RL g ys news∧(∀ v∈ys,v.size=sz')∧(∀ u∈news,u.oneCell'=true)∧(Builtin.lenOf (a.eval y)).run P w=.ok ys.length w∧(Builtin.firstCells sz' k (a.eval y)).run P w=.ok (news.take (k*sz')).toArray w:=fun {m g w a} k hs r2 hrd hkl => by
      obtain ⟨news,src,rl,hzy,hcells⟩:=d9i hs r2 hrd hk
      refine ⟨news,rl,hzy,src.one,src.len w, ?_⟩
      have hnl:=src.newsLen
      have hlt:(news.take (k*sz')).length=k*sz':=by rw [List.length_take,hnl]; exact Nat.min_eq_left (Nat.mul_le_mul_right _ hkl)
      have hcl:=src.cells
      have hln:=src.len w
      clear src
      generalize a.eval y=yv at hcl hln r2 hcells ⊢
      cases yv<;>try (cases v<;>simp only [rd] at hrd<;>first | (simp at hrd; done) | (simp [R] at r2; done))
      rename_i A n cap
      have hn:n=ys.length:=by simpa [Builtin.lenOf] using hln
      subst hn
      cases A with
      | none =>
        simp [Builtin.firstCells] at hcl
        have:news=[]:=by cases news<;>simp at hcl ⊢
        subst this
        simp [Builtin.firstCells]
      | some A =>
        refine run_firstCells_some w sz' k A _ cap _ hlt fun j u hu => ?_
        have hj:news[j]?=some u:=by
          rw [List.getElem?_take] at hu; split at hu
          · exact hu
          · cases hu
        exact hcells A _ cap rfl j u hj
    cases u<;>try exact False.elim hB
    · rename_i id off len
      cases ho:H.m id with
      | none => simp [ho] at hB
      | some o =>
        cases o with
        | mp l | md c bs l | it d c ss => simp [ho] at hB
        | arr sz l =>
          simp only [ho] at hB
          obtain ⟨rfl,hfit,hK⟩:=hB
          refine ⟨_,_,_,_,hK,by simp,by simp [Ins.kind],by simp [Ins.kind],fun m g w a hm hf hs hr ro Kc Q hk' => ?_⟩
          obtain ⟨r1,r2⟩:=rx hr
          have hmo:m id=some (.arr sz l):=(hm id (by simp)).trans ho
          have hmin:min ys.length len≤ys.length:=Nat.min_le_left _ _
          obtain ⟨news,rl,hzy,hone,hlen,hcl⟩:=wpc (a:=a) (min ys.length len) hs r2 (agree fun i hi => hm i (by simp [hi])) hmin
          simp only [R] at r1
          obtain ⟨b,sz2,n,A,cap,p1,p2,p3,p4⟩:=r1
          obtain ⟨b',n',cs',el',xs,post,z1,z2,z3,z4,z5,z6,z7,z8⟩:=a1e hs hmo
          rw [z1] at p1; simp at p1; obtain ⟨rfl,rfl,rfl⟩:=p1
          have hxl:=z5.length z6
          have htl:(news.take (min ys.length len*sz)).length=min ys.length len*sz:=by
            rw [List.length_take,rl.length hzy]; exact Nat.min_eq_left (Nat.mul_le_mul_right _ hmin)
          have hst:∃ w',(storeCells A (news.take (min ys.length len*sz)) 0).run P w=.ok () w'∧RS g (upd m id (some (.arr sz (l.take off++ys.take len++l.drop (off+min ys.length len))))) w' ∧
              Ext g m w g (upd m id (some (.arr sz (l.take off++ys.take len++l.drop (off+min ys.length len))))) w':=by
            have hzz:∀ v∈l.take off++ys.take len++l.drop (off+min ys.length len),v.size=sz:=fun v hv => by
              rcases List.mem_append.1 hv with hv | hv
              · rcases List.mem_append.1 hv with hv | hv
                · exact z6 v (List.mem_of_mem_take hv)
                · exact hzy v (List.mem_of_mem_take hv)
              · exact z6 v (List.mem_of_mem_drop hv)
            have hyt:ys.take len=ys.take (min ys.length len):=by
              rw [List.take_eq_take_iff]; omega
            obtain ⟨az,bs,s1,s2,s3,s4⟩:=RL.split off z5 z6 (by omega)
            have hz4:∀ v∈l.drop off,v.size=sz:=fun v hv => z6 v (List.mem_of_mem_drop hv)
            obtain ⟨cs2,ds,t1,t2,t3,t4⟩:=RL.split (min ys.length len) s4 hz4 (by simp; omega)
            rw [List.drop_drop] at t4
            have hrl:RL g (l.take off++ys.take len++l.drop (off+min ys.length len)) (az++news.take (min ys.length len*sz)++ds):=by
              rw [hyt]; exact (s3.append (rl.take _ hzy hmin)).append t4
            by_cases h0:min ys.length len*sz=0
            · have hnil:news.take (min ys.length len*sz)=[]:=by rw [h0]; rfl
              rw [hnil] at hrl ⊢
              have hc2:cs2=[]:=by apply List.eq_nil_of_length_eq_zero; omega
              subst hc2
              obtain ⟨k1,k2⟩:=hs.put (w':=w) (xs:=az++[]++ds) (post:=post) ⟨rfl,rfl,rfl⟩ hmo z1 z2 z4.2 (fun _ _ => rfl) rfl z3 hrl hzz (by rw [z7,s1,t1]; simp) z8
              exact ⟨w,rfl,k1,k2⟩
            · have hlp:0 < len:=by
                rcases Nat.eq_zero_or_pos len with h | h
                · subst h; simp at h0
                · exact h
              rcases p4 with ⟨rfl,p4⟩ | p4
              · have hfit2:off*sz+(news.take (min ys.length len*sz)).length≤cs'.size:=by
                  rw [htl,← Nat.add_mul]
                  have h1:(off+min ys.length len)*sz≤l.length*sz:=Nat.mul_le_mul_right _ (by omega)
                  have h2:xs.length≤cs'.size:=by rw [← Array.length_toList,z7]; simp
                  omega
                have run:=a2i (P:=P) b' (off*sz) el'.1 el'.2 (news.take (min ys.length len*sz)) 0 cs' w (by rw [z3]; exact z4.2) z2 (by simpa using hfit2) (fun u hu => hone u (List.mem_of_mem_take hu))
                simp only [Nat.add_zero] at run
                have hlist:cs'.toList.take (off*sz)++news.take (min ys.length len*sz)++cs'.toList.drop (off*sz+(news.take (min ys.length len*sz)).length)=(az++news.take (min ys.length len*sz)++ds)++post:=by
                  rw [z7,s1,t1,htl]
                  rw [List.append_assoc az,List.append_assoc az,List.take_left' s2]
                  have:az++(cs2++ds++post)=(az++cs2)++(ds++post):=by simp
                  rw [show az++((cs2++ds)++post)=(az++cs2)++(ds++post) by simp,List.drop_left' (by simp [s2,t2])]
                  simp
                have hl2:=congrArg List.length hlist
                have hl3:=congrArg List.length z7
                rw [s1,t1] at hl3
                generalize cs'.toList.take (off*sz)++news.take (min ys.length len*sz)++cs'.toList.drop (off*sz+(news.take (min ys.length len*sz)).length)=ws at run hlist hl2
                obtain ⟨k1,k2⟩:=hs.put (w':=w.setRow b' ws.toArray) (xs:=az++news.take (min ys.length len*sz)++ds) (post:=post) (Still.row _ _ _) hmo z1 (setRow_heap w b' cs' _ el'.1 el'.2 z2) z4.2 (fun k hk => setRow_other w b' k _ hk) (by simp)
                  (by simp only [List.length_append,Array.length_toList,List.size_toArray,htl] at hl2 hl3 ⊢; omega) hrl hzz (by simpa using hlist) z8
                exact ⟨_,run,k1,k2⟩
              · omega
          obtain ⟨w',run,k1,k2⟩:=hst
          refine a0y (start a w w' (goInt ((min ys.length len:Nat):Int)) ?_) (hk' _ _ _ k1 (fun _ _ => rfl) k2 (by simp only [R,goInt]))
          rw [p2]
          have hmm:Nat.min ys.length len=min ys.length len:=rfl
          simp [Builtin.copy_,run_underlying ht,hlen,hmm,sizeOf,typeInfo,hi,hsz,hcl,run]
    · rename_i st sz2 l
      cases l with
      | cons _ _ => exact False.elim hB
      | nil =>
        simp only at hB
        refine a1s (by simp [Ins.kind]) hB fun m g a w hm hs hr => ?_
        obtain ⟨r1,r2⟩:=rx hr
        obtain ⟨news,rl,hzy,hone,hlen,hcl⟩:=wpc (a:=a) 0 hs r2 (agree hm) (Nat.zero_le _)
        simp only [R] at r1
        obtain ⟨A,cap,xs,p1,_⟩:=r1
        refine ⟨goInt 0,start a w w _ ?_,by simp [R,goInt]⟩
        rw [p1]
        have hmm:Nat.min ys.length 0=0:=Nat.min_zero _
        simp only [Nat.zero_mul,List.take_zero] at hcl
        cases A<;>simp [Builtin.copy_,run_underlying ht,hlen,hmm,sizeOf,typeInfo,hi,hsz,hcl,storeCells]
theorem e2g {f:Operand} {args:Array Operand} {ts:Array TypeId} {f':Src} {args':List Src} (h1:cs dl f f'=true) (h2:csL dl args.toList args'=true) (h:evI P L H K (.call true f' args')) :
  a0m P dl L H ⟨dst,.call { callee:=.value f,args:=args,argTypes:=ts },ty,pos,after,gu⟩ (.call true f' args') K:=by
 simp only [evI] at h; obtain ⟨u,e1,hA⟩:=a0f h; clear h;obtain ⟨vs,hB,l,k⟩:=a4o hA;cases u<;>try exact False.elim hB
 rename_i fn fs cs';simp only [if_true] at hB;obtain ⟨r,⟨⟨fd,hb1,hb2,hb3⟩,hp⟩,hK⟩:=hB;refine ⟨r,[],[],0,hK,by simp,fun _ => ⟨rfl,rfl,rfl⟩,fun _ => ⟨rfl,rfl⟩,fun m g w a hm hf hs hr ro Kc Q hk => ?_⟩;have q1:=hr f (by simp [Op.operands,Call.operands]) _ _ h1 e1;have q2:=b2u hr h2 (fun y hy => by simp at hy; simp [Op.operands,Call.operands,hy]) l k;simp only [R] at q1;obtain ⟨xs,ys,e2,e3,e4⟩:=q1;have hrc:RC g (fs++vs++cs') (xs++args.map a.eval++ys).toList:=by
  simp only [Array.toList_append,Array.toList_map]; exact (e3.append q2).append e4
 have run:(execOp a.eval ⟨dst,.call { callee:=.value f,args:=args,argTypes:=ts },ty,pos,after,gu⟩).run P w=.ok (.enter fn (xs++args.map a.eval++ys)) w:=by
  have hb2':fd.body≠none:=by intro e; rw [e] at hb2; cases hb2
  have hb3':¬ fd.name="runtime.NumGoroutine":=by simpa using hb3
  simp [execOp,resolve,e2,Deferred.ofValue,invoke,callFunc,hb1,hb3',hb2']
 refine b2v run ((hp m g w _ hs hrc).mono ?_);rintro e w' ⟨x,F',rfl,r1,r2,r3⟩;exact ⟨x,rfl,hk ⟨g.ι,F'⟩ x w' r2 (fun _ _ => rfl) r3 r1⟩
theorem e1i {f:Operand} {args:Array Operand} {ts:Array TypeId} {f':Src} {args':List Src} (h1:cs dl f f'=true) (h2:csL dl args.toList args'=true) (h:evI P L H K (.call false f' args')) :
  a0m P dl L H ⟨dst,.call { callee:=.value f,args:=args,argTypes:=ts },ty,pos,after,gu⟩ (.call false f' args') K:=by
 simp only [evI] at h; obtain ⟨u,e1,hA⟩:=a0f h; clear h;obtain ⟨vs,hB,l,k⟩:=a4o hA;cases u<;>try exact False.elim hB
 rename_i fn fs cs';simp only [Bool.false_eq_true,if_false] at hB;obtain ⟨fp,r,ds,kk,⟨⟨fd,hb1,hb2,hb3⟩,hds,hp⟩,hK⟩:=hB;refine ⟨r,fp,ds,kk,hK,hds,by simp [Ins.kind],by simp [Ins.kind],fun m g w a hm hf hs hr ro Kc Q hk => ?_⟩;have q1:=hr f (by simp [Op.operands,Call.operands]) _ _ h1 e1;have q2:=b2u hr h2 (fun y hy => by simp at hy; simp [Op.operands,Call.operands,hy]) l k;simp only [R] at q1;obtain ⟨xs,ys,e2,e3,e4⟩:=q1;have hrc:RC g (fs++vs++cs') (xs++args.map a.eval++ys).toList:=by
  simp only [Array.toList_append,Array.toList_map]; exact (e3.append q2).append e4
 have run:(execOp a.eval ⟨dst,.call { callee:=.value f,args:=args,argTypes:=ts },ty,pos,after,gu⟩).run P w=.ok (.enter fn (xs++args.map a.eval++ys)) w:=by
  have hb2':fd.body≠none:=by intro e; rw [e] at hb2; cases hb2
  have hb3':¬ fd.name="runtime.NumGoroutine":=by simpa using hb3
  simp [execOp,resolve,e2,Deferred.ofValue,invoke,callFunc,hb1,hb3',hb2']
 refine b2v run ((hp m g w _ hm hf hs hrc).mono ?_);rintro e w' ⟨x,g',rfl,r1,r2,r3,r4⟩;exact ⟨x,rfl,hk g' x w' r2 r3 r4 r1⟩
theorem e9g {src d e:TypeId} {x:Operand} {x':Src} (hsrc:P.underlying src=some (.slice e)) (he:P.underlying e=some (.int .u8)) (hd:P.underlying d=some .string) (h1:cs dl x x'=true) (h:evI P L H K (.bts x')) :
  a0m P dl L H ⟨dst,.convert src d x,ty,pos,after,gu⟩ (.bts x') K:=by
 simp only [evI] at h; obtain ⟨u,e1,hA⟩:=a0f h; clear h;cases hrd:rd H.m u with
 | none => simp [hrd] at hA
 | some p =>
  obtain ⟨sz,l⟩:=p;simp only [hrd] at hA;obtain ⟨rfl,s,rfl,hK⟩:=hA;refine a1s (by simp [Ins.kind]) hK fun m g a w hm hs hr => ?_;have q:=hr x (by simp [Op.operands]) _ _ h1 e1;have agree:rd m u=some (1,s.map fun b => V.int .u8 b.toNat):=by
   cases u<;>simp only [rd] at hrd ⊢<;>try exact hrd
   rw [hm _ (by simp [fpS])]; exact hrd
  obtain ⟨news,sr,rl,hzy,hcells⟩:=d9i hs q agree hsrc;have hn:news=(s.map fun b => (b.toNat:Int)).map (Value.int .u8):=by
   clear sr hcells hzy agree hrd e1 q hK
   induction s generalizing news with
   | nil => simpa [RL] using rl
   | cons b s ih =>
    simp only [List.map_cons,RL] at rl;obtain ⟨y,ys,rfl,⟨_,r1⟩,r2⟩:=rl;simp only [R] at r1; subst r1;simp [Value.cells,ih _ r2]
  refine ⟨.string ⟨s.toArray⟩, ?_,by simp [R]⟩;have hln:=sr.len w;have hfc:=sr.cells;have hx:∃ A n c,a.eval x=.slice A n c:=by
   cases u<;>simp only [rd] at agree<;>try (simp at agree; done)
   ·simp only [R] at q; obtain ⟨_,_,_,A,c,_,e,_⟩:=q; exact ⟨_,_,_,e⟩
   ·simp only [R] at q; obtain ⟨A,c,_,e,_⟩:=q; exact ⟨_,_,_,e⟩
  obtain ⟨A,n,c,ex⟩:=hx;rw [ex] at hln hfc;have hnl:n=s.length:=by simpa [Builtin.lenOf] using hln
  simp only [execOp,ex,Sem.run_bind,run_convert_bytes_string w src d e A n c hsrc he hd];cases A with
  | none =>
   simp [Builtin.firstCells] at hfc;have hs0:s=[]:=by
    have:news=[]:=by cases news<;>simp at hfc ⊢
    rw [hn] at this; simpa using this
   subst hs0;simp [Conv.bytesToString]; rfl
  | some A =>
   simp only [Builtin.firstCells,Nat.mul_one,List.length_map] at hfc;rw [← hnl,hn] at hfc;rw [run_bytesToString w A n c _ hfc,foldl_push_bytes];simp only [Result.andThen_ok,Sem.run_pure];congr 3;apply ByteArray.ext;simp [ByteArray.empty,ByteArray.emptyWithCapacity,List.map_map,Function.comp_def];rfl
theorem b3g {α:Type} (xs:Array α) (a:α) (f:α→α):(xs.push a).modify xs.size f=xs.push (f a):=by
 apply Array.ext
 ·simp
 ·intro i h1 h2;rw [Array.getElem_modify];by_cases h:xs.size=i
  ·subst h; simp
  ·have:i < xs.size:=by simp at h2; omega
   rw [if_neg h,Array.getElem_push_lt this,Array.getElem_push_lt this]
theorem e8j {src d e:TypeId} {ud:TypeDesc} {x:Operand} {x':Src} (hsrc:P.underlying src=some ud) (hd:P.underlying d=some (.slice e)) (he:P.underlying e=some (.int .u8)) (h1:cs dl x x'=true) (h:evI P L H K (.stb x')) :
  a0m P dl L H ⟨dst,.convert src d x,ty,pos,after,gu⟩ (.stb x') K:=by
 simp only [evI] at h; obtain ⟨u,e1,hA⟩:=a0f h; clear h;cases u<;>try exact False.elim hA
 rename_i s;simp only at hA;refine b3s hA fun m g a w hs hr => ?_;have q:=hr x (by simp [Op.operands]) _ _ h1 e1;simp only [R] at q;have hge:=grownCap_ge w s.length 0 e;have hsz:(⟨s.toArray⟩:ByteArray).size=s.length:=by simp [ByteArray.size]
 obtain ⟨cells,hcells⟩:∃ cells:Array Value,cells=(s.toArray.map fun b => Value.int .u8 (b.toNat:Int))++Array.replicate (grownCap w s.length 0 e - s.length) (.int .u8 0):=⟨_,rfl⟩;have hcs:cells.size=grownCap w s.length 0 e:=by rw [hcells]; simp; omega
 obtain ⟨W,hW⟩:∃ W:World,W={ w with drawn:=w.drawn+1,heap:=w.heap.push (.cells cells e (cells.size,cells.size+1)) }:=⟨_,rfl⟩;have run:(convert src d (.string ⟨s.toArray⟩)).run P w=.ok (.slice (some ⟨w.heap.size,0,none⟩) s.length (grownCap w s.length 0 e)) W:=by
  have e1:(convert src d (.string ⟨s.toArray⟩)).run P w=(Conv.stringToBytes e ⟨s.toArray⟩).run P w:=by
   cases ud<;>simp [convert,run_underlying hsrc,run_underlying hd,run_underlying he]
  rw [e1];simp only [Conv.stringToBytes,Sem.run_bind,run_choose,Question.forced,Bool.false_eq_true,if_false,Result.andThen_ok,hsz,newRow,run_newObj,Sem.run_pure,markStringish,run_shape];rw [show (Question.cut (.appendCap s.length 0 e) (w.tape w.drawn (.appendCap s.length 0 e)))=grownCap w s.length 0 e from rfl];rw [show (Array.map (fun b:UInt8 => Value.int IntKind.u8 (b.toNat:Int)) s.toArray++Array.replicate (grownCap w s.length 0 e - s.length) (Value.int IntKind.u8 0))=cells from hcells.symm];simp [World.shape?,World.freeze,hW];rw [b3g];simp
 refine ⟨.slice (some ⟨w.heap.size,0,none⟩) s.length (grownCap w s.length 0 e),W,cells,e,(cells.size,cells.size+1), ?_, ?_, ?_, ?_⟩
 ·simp only [execOp,q,Sem.run_bind,run,Result.andThen_ok,Sem.run_pure]
 ·rw [hW]; exact ⟨rfl,rfl,rfl⟩
 ·rw [hW]
 ·simp only [R];refine ⟨some ⟨w.heap.size,0,none⟩,grownCap w s.length 0 e,s.map fun b => Value.int .u8 (b.toNat:Int),by simp, ?_, ?_,by simpa using hge,by simp,by simp,by simp,.inr ⟨w.heap.size,0,rfl, ?_⟩⟩
  ·clear hcells hcs hW run hge hsz q e1 hA
   induction s with
   | nil => simp [RL]
   | cons b s ih => simp only [List.map_cons,RL]; exact ⟨.int .u8 b.toNat,_,rfl,⟨rfl,by simp [R]⟩,ih⟩
  ·intro v hv;obtain ⟨b,_,rfl⟩:=List.mem_map.1 hv; rfl
  ·refine ⟨[],List.replicate (grownCap w s.length 0 e - s.length) (.int .u8 0), ?_,rfl⟩;simp [G.froze,hcells]
theorem e9p {src d e:TypeId} {ud:TypeDesc} {x:Operand} {x':Src} (hsrc:P.underlying src=some ud) (hd:P.underlying d=some (.slice e)) (he:P.underlying e=some (.int .u8)) (h1:cs dl x x'=true) (h:evI P L H K (.sto x')) :
  a0m P dl L H ⟨dst,.convert src d x,ty,pos,after,gu⟩ (.sto x') K:=by
 simp only [evI] at h; obtain ⟨u,e1,hA⟩:=a0f h; clear h;cases u<;>try exact False.elim hA
 rename_i s;simp only at hA;refine ⟨_,[],[(H.n,some (.arr 1 (s.map fun b => .int .u8 b.toNat)))],1,hA,by simp,by simp [Ins.kind],by simp [Ins.kind],fun m g w a _ hf hs hr ro Kc Q hk => ?_⟩;have q:=hr x (by simp [Op.operands]) _ _ h1 e1;simp only [R] at q;have hge:=grownCap_ge w s.length 0 e;have hsz:(⟨s.toArray⟩:ByteArray).size=s.length:=by simp [ByteArray.size]
 obtain ⟨cells,hcells⟩:∃ cells:Array Value,cells=(s.toArray.map fun b => Value.int .u8 (b.toNat:Int))++Array.replicate (grownCap w s.length 0 e - s.length) (.int .u8 0):=⟨_,rfl⟩;have hcs:cells.size=grownCap w s.length 0 e:=by rw [hcells]; simp; omega
 obtain ⟨W,hW⟩:∃ W:World,W={ w with drawn:=w.drawn+1,heap:=w.heap.push (.cells cells e (cells.size,cells.size+1)) }:=⟨_,rfl⟩;have run:(convert src d (.string ⟨s.toArray⟩)).run P w=.ok (.slice (some ⟨w.heap.size,0,none⟩) s.length (grownCap w s.length 0 e)) W:=by
  have e1:(convert src d (.string ⟨s.toArray⟩)).run P w=(Conv.stringToBytes e ⟨s.toArray⟩).run P w:=by
   cases ud<;>simp [convert,run_underlying hsrc,run_underlying hd,run_underlying he]
  rw [e1];simp only [Conv.stringToBytes,Sem.run_bind,run_choose,Question.forced,Bool.false_eq_true,if_false,Result.andThen_ok,hsz,newRow,run_newObj,Sem.run_pure,markStringish,run_shape];rw [show (Question.cut (.appendCap s.length 0 e) (w.tape w.drawn (.appendCap s.length 0 e)))=grownCap w s.length 0 e from rfl];rw [show (Array.map (fun b:UInt8 => Value.int IntKind.u8 (b.toNat:Int)) s.toArray++Array.replicate (grownCap w s.length 0 e - s.length) (Value.int IntKind.u8 0))=cells from hcells.symm];simp [World.shape?,World.freeze,hW];rw [b3g];simp
 have hexec:(execOp a.eval ⟨dst,.convert src d x,ty,pos,after,gu⟩).run P w=.ok (.value (.slice (some ⟨w.heap.size,0,none⟩) s.length (grownCap w s.length 0 e))) W:=by
  simp only [execOp,q,Sem.run_bind,run,Result.andThen_ok,Sem.run_pure]
 have hRL:RL g (s.map fun b => V.int .u8 b.toNat) (s.map fun b => Value.int .u8 (b.toNat:Int)):=by
  clear hexec hcells hcs hW run hge hsz q e1 hA hk
  induction s with
  | nil => simp [RL]
  | cons b s ih => simp only [List.map_cons,RL]; exact ⟨.int .u8 b.toNat,_,rfl,⟨rfl,by simp [R]⟩,ih⟩
 obtain ⟨k1,k2⟩:=hs.new_live' (w':=W) (cs:=cells) (e:=e) (fr:=(cells.size,cells.size+1)) (id:=H.n) (sz:=1) (l:=s.map fun b => V.int .u8 b.toNat) (xs:=s.map fun b => Value.int .u8 (b.toNat:Int))
  (post:=List.replicate (grownCap w s.length 0 e - s.length) (.int .u8 0)) (by rw [hW]; exact ⟨rfl,rfl,rfl⟩) (.inr (Nat.le_refl _)) (by rw [hW]) (hf H.n (Nat.le_refl _) (by omega)).1 hRL
  (fun v hv => by obtain ⟨b,_,rfl⟩:=List.mem_map.1 hv; rfl) (by rw [hcells]; simp) ⟨fun h => absurd rfl h,fun u hu => by rw [List.eq_of_mem_replicate hu]; rfl⟩
 refine a0y hexec (hk _ _ _ k1 (fun id hid => ?_) k2 ?_)
 ·simp only [G.lay]; rw [if_neg (fun e => hid (by omega))]
 ·simp only [R];exact ⟨w.heap.size,1,cells.size,⟨w.heap.size,0,none⟩,grownCap w s.length 0 e,by simp [G.lay],rfl,by simpa using hge,.inl ⟨by simp,by rw [hcs]; omega⟩⟩
end
end
section
section
variable {P:Program} {dl:List (Option Nat)} {L:Src→Option V} {H:Hp} {K:KI} {dst:Option Tmp} {ty:TypeId} {pos:String} {after:Array Edge} {gu:Option (Nat×Bool)}
theorem a9c {g:G} {m:Hm} {w:World} (h:RS g m w) {id:Nat} {l:List (V×V)} (k:m id=some (.mp l)):∃ b es clock,g.ι id=some (b,0,0)∧w.heap[b]?=some (.map es clock)∧g.F b=none ∧
  RC g (l.map (·.1)) (es.toList.map (·.key))∧RC g (l.map (·.2)) (es.toList.map (·.val))∧es.toList.map (·.born)=List.range es.size∧clock=es.size:=h.live id _ k
theorem RS.putOb {g:G} {m:Hm} {w w':World} {id b:Nat} {o0 o:Ob} (h:RS g m w) (hs:Still w w')
    (hm:m id=some o0) (hi:g.ι id=some (b,0,0)) (ho:∀ k,k≠b→w'.heap[k]?=w.heap[k]?) (hsz:w'.heap.size=w.heap.size) (hrep:ORep g w' id o) :
    RS g (upd m id (some o)) w'∧Ext g m w g (upd m id (some o)) w':=by
  have own:Own g m b:=⟨id,_,0,0,hm,hi⟩
  have hF:=(h.live id _ hm).unF hi
  refine ⟨⟨?_, ?_, ?_,h.tab⟩,⟨by omega,fun k _ hk => ho k fun e => hk (e ▸ own),.refl g, ?_,fun _ _ k => .inl k,hs.os,hs.tape,hs.output⟩⟩
  · intro k ys hk
    obtain ⟨e',fr',k'⟩:=h.fro k ys hk
    exact ⟨e',fr',by rw [ho k (fun e => by rw [e,hF] at hk; cases hk)]; exact k'⟩
  · intro i o' k
    simp only [upd] at k
    split at k
    · rename_i hi'; subst hi'; simp at k; subst k
      exact hrep
    · rename_i hi'
      refine (h.live i o' k).keep (.refl g) fun b' s' n' hb' => ⟨ho b' fun e => ?_,(h.live i o' k).unF hb'⟩
      subst e; exact hi' (h.inj i id o' _ _ s' n' 0 0 k hm hb' hi)
  · intro i i' o o' b' s n s' n' k k' e1 e2
    have up:∀ i o1,upd m id (some o1) i=some o→∃ o',m i=some o':=fun i o1 k => by
      simp only [upd] at k; split at k
      · rename_i h; subst h; exact ⟨_,hm⟩
      · exact ⟨o,k⟩
    have up':∀ i o1,upd m id (some o1) i=some o'→∃ o',m i=some o':=fun i o1 k => by
      simp only [upd] at k; split at k
      · rename_i h; subst h; exact ⟨_,hm⟩
      · exact ⟨o',k⟩
    obtain ⟨o1,k1⟩:=up i _ k; obtain ⟨o2,k2⟩:=up' i' _ k'
    exact h.inj i i' o1 o2 b' s n s' n' k1 k2 e1 e2
  · rintro b' ⟨i,o',s,n,k,e1⟩
    simp only [upd] at k
    split at k
    · rename_i hi'; subst hi'; exact .inr ⟨i,_,s,n,hm,e1⟩
    · exact .inr ⟨i,o',s,n,k,e1⟩
theorem RS.putMap {g:G} {m:Hm} {w w':World} {id b:Nat} {l0 l:List (V×V)} {es:Array MapEntry} {clock:Nat} (h:RS g m w) (hs:Still w w')
  (hm:m id=some (.mp l0)) (hi:g.ι id=some (b,0,0)) (hb:w'.heap[b]?=some (.map es clock)) (ho:∀ k,k≠b→w'.heap[k]?=w.heap[k]?) (hsz:w'.heap.size=w.heap.size)
  (hk:RC g (l.map (·.1)) (es.toList.map (·.key))) (hv:RC g (l.map (·.2)) (es.toList.map (·.val))) (hc:es.toList.map (·.born)=List.range es.size) (hp:clock=es.size) :
  RS g (upd m id (some (.mp l))) w'∧Ext g m w g (upd m id (some (.mp l))) w' :=
 h.putOb hs hm hi ho hsz ⟨b,es,clock,hi,hb,(h.live id _ hm).unF hi,hk,hv,hc,hp⟩
theorem RS.newOb {g:G} {m:Hm} {w w':World} {id:Nat} {ob:Obj} {o:Ob} (h:RS g m w) (hs:Still w w') (hh:w'.heap=w.heap.push ob) (hf:g.ι id=none) (hrep:g.F w.heap.size=none→ORep (g.lay id w.heap.size 0 0) w' id o) :
  RS (g.lay id w.heap.size 0 0) (upd m id (some o)) w'∧Ext g m w (g.lay id w.heap.size 0 0) (upd m id (some o)) w':=by
 have hm:m id=none:=by
  cases hm:m id with
  | none => rfl
  | some o =>
   have:=h.live id o hm;cases o<;>(simp only [ORep] at this; obtain ⟨_,_,_,this⟩:=this; simp [hf] at this)
 have hle:g.le (g.lay id w.heap.size 0 0):=⟨fun i p k => by
  simp only [G.lay]; split
  ·rename_i hi; subst hi; rw [hf] at k; cases k
  ·exact k,fun _ _ k => k⟩
 have old:∀ b,b < w.heap.size→w'.heap[b]?=w.heap[b]?:=fun b hb => by rw [hh,Array.getElem?_push,if_neg (by omega)]
 have isnew:∀ i p,(g.lay id w.heap.size 0 0).ι i=some p→i≠id→g.ι i=some p:=fun i p k hi => by simpa [G.lay,hi] using k
 have self:(g.lay id w.heap.size 0 0).ι id=some (w.heap.size,0,0):=by simp [G.lay]
 refine ⟨⟨?_, ?_, ?_,h.tab⟩,⟨by rw [hh]; simp,fun b hb _ => old b hb,hle, ?_,fun b xs k => .inl k,hs.os,hs.tape,hs.output⟩⟩
 ·intro b xs k;obtain ⟨e',fr',k'⟩:=h.fro b xs k;exact ⟨e',fr',by rw [old b (h.fro_lt k)]; exact k'⟩
 ·intro i o k;simp only [upd] at k;split at k
  ·rename_i hi; subst hi; simp at k; subst k;refine hrep ?_;cases hF:g.F w.heap.size with
   | none => rfl
   | some q => have:=h.fro_lt hF; omega
  ·rename_i hi;refine (h.live i o k).keep hle fun b s n hb => ⟨old b ((h.live i o k).lt hb),(h.live i o k).unF hb⟩
 ·intro i i' o o' b s n s' n' k k' e1 e2;simp only [upd] at k k';split at k<;>split at k'
  ·rename_i h1 h2; rw [h1,h2]
  ·rename_i h1 h2;subst h1;rw [self] at e1; simp at e1; obtain ⟨rfl,_,_⟩:=e1;have:=(h.live i' o' k').lt (isnew _ _ e2 h2); omega
  ·rename_i h1 h2;subst h2;rw [self] at e2; simp at e2; obtain ⟨rfl,_,_⟩:=e2;have:=(h.live i o k).lt (isnew _ _ e1 h1); omega
  ·rename_i h1 h2;exact h.inj i i' o o' b s n s' n' k k' (isnew _ _ e1 h1) (isnew _ _ e2 h2)
 ·rintro b ⟨i,o,s,n,k,e⟩;simp only [upd] at k;split at k
  ·rename_i hi; subst hi; rw [self] at e; simp at e; exact .inl (by omega)
  ·rename_i hi; exact .inr ⟨i,o,s,n,k,isnew _ _ e hi⟩
theorem RS.newMap {g:G} {m:Hm} {w w':World} {id:Nat} (h:RS g m w) (hs:Still w w') (hh:w'.heap=w.heap.push (.map #[] 0)) (hf:g.ι id=none) :
  RS (g.lay id w.heap.size 0 0) (upd m id (some (.mp []))) w'∧Ext g m w (g.lay id w.heap.size 0 0) (upd m id (some (.mp []))) w' :=
 h.newOb hs hh hf fun hF => ⟨w.heap.size,#[],0,by simp [G.lay],by rw [hh,Array.getElem?_push,if_pos rfl],hF,by simp [RC],by simp [RC],by simp,by simp⟩
theorem b0s:∀ (ks:List Nat) (l l':List V) (r:Bool),eqF ks l l'=some r→keqL l l'=r∧(r=true→l=l')
 | ks,[],l',r,h => by
  cases ks<;>cases l'<;>simp [eqF] at h;subst h; exact ⟨rfl,fun _ => rfl⟩
 | [],u::l,l',r,h => by cases l'<;>simp [eqF] at h
 | k::ks,u::l,[],r,h => by simp [eqF] at h
 | k::ks,u::l,v::l',r,h => by
  unfold eqF at h;split at h
  ·rename_i e1 e2; cases e1
  ·rename_i q1 q2 q3 q4 q5 q6 q7 q8 q9 q10 e0 e1 e2;simp only [List.cons.injEq] at e1 e2;obtain ⟨rfl,rfl⟩:=e1; obtain ⟨rfl,rfl⟩:=e2;split at h
   ·rename_i r' hr;split at h
    ·rename_i hk; subst hk;obtain ⟨i1,i2⟩:=b0s _ _ _ _ hr;simp only [Option.some.injEq] at h; subst h;refine ⟨by simp only [keqL,keq1,i1]; rfl,fun hh => ?_⟩;simp only [Bool.and_eq_true,decide_eq_true_eq] at hh;rw [hh.1,i2 hh.2]
    ·cases h
   ·cases h
  ·rename_i q1 q2 q3 q4 q5 q6 q7 q8 e0 e1 e2;simp only [List.cons.injEq] at e1 e2;obtain ⟨rfl,rfl⟩:=e1; obtain ⟨rfl,rfl⟩:=e2;split at h
   ·rename_i r' hr;obtain ⟨i1,i2⟩:=b0s _ _ _ _ hr;simp only [Option.some.injEq] at h; subst h;refine ⟨by simp only [keqL,keq1,i1]; congr 1; rw [Bool.eq_iff_iff]; simp,fun hh => ?_⟩;simp only [Bool.and_eq_true,decide_eq_true_eq] at hh;rw [hh.1,i2 hh.2]
   ·cases h
  ·rename_i q1 q2 q3 q4 q5 q6 q7 q8 e0 e1 e2;simp only [List.cons.injEq] at e1 e2;obtain ⟨rfl,rfl⟩:=e1; obtain ⟨rfl,rfl⟩:=e2;split at h
   ·rename_i r' hr;obtain ⟨i1,i2⟩:=b0s _ _ _ _ hr;simp only [Option.some.injEq] at h; subst h;refine ⟨by simp only [keqL,keq1,i1],fun hh => ?_⟩;simp only [Bool.and_eq_true,beq_iff_eq] at hh;rw [hh.1,i2 hh.2]
   ·cases h
  ·cases h
theorem a6z:∀ (ks:List Nat) (l l':List V) (r:Bool),eqF ks l l'=some r→∀ v∈l,(∃ k n,v=.int k n)∨(∃ s,v=.str s)∨∃ b,v=.bool b
 | ks,[],l',r,h => by simp
 | [],u::l,l',r,h => by cases l'<;>simp [eqF] at h
 | k::ks,u::l,[],r,h => by simp [eqF] at h
 | k::ks,u::l,v::l',r,h => by
  unfold eqF at h;split at h
  ·rename_i e1 e2; cases e1
  ·rename_i q1 q2 q3 q4 q5 q6 q7 q8 q9 q10 e0 e1 e2;simp only [List.cons.injEq] at e1;obtain ⟨rfl,rfl⟩:=e1;split at h
   ·rename_i r' hr;intro v hv; rcases List.mem_cons.1 hv with rfl | hv
    ·exact .inl ⟨_,_,rfl⟩
    ·exact a6z _ _ _ _ hr v hv
   ·cases h
  ·rename_i q1 q2 q3 q4 q5 q6 q7 q8 e0 e1 e2;simp only [List.cons.injEq] at e1;obtain ⟨rfl,rfl⟩:=e1;split at h
   ·rename_i r' hr;intro v hv; rcases List.mem_cons.1 hv with rfl | hv
    ·exact .inr (.inl ⟨_,rfl⟩)
    ·exact a6z _ _ _ _ hr v hv
   ·cases h
  ·rename_i q1 q2 q3 q4 q5 q6 q7 q8 e0 e1 e2;simp only [List.cons.injEq] at e1;obtain ⟨rfl,rfl⟩:=e1;split at h
   ·rename_i r' hr;intro v hv; rcases List.mem_cons.1 hv with rfl | hv
    ·exact .inr (.inr ⟨_,rfl⟩)
    ·exact a6z _ _ _ _ hr v hv
   ·cases h
  ·cases h
theorem b5l {g:G} {v:V} (h:(∃ k n,v=.int k n)∨(∃ s,v=.str s)∨∃ b,v=.bool b) {x y:Value} (r:R g v x) (r':R g v y):x=y∧∀ n,Instr.sameBits n x x=true:=by
 rcases h with ⟨k,n,rfl⟩ | ⟨s,rfl⟩ | ⟨b,rfl⟩<;>simp only [R] at r r'<;>subst r<;>subst r'<;>refine ⟨rfl,fun n => ?_⟩<;>cases n<;>simp [Instr.sameBits,MapKept.bytes_beq]
theorem b3d {g:G}:∀ (l:List V),(∀ v∈l,(∃ k n,v=.int k n)∨(∃ s,v=.str s)∨∃ b,v=.bool b)→∀ {xs ys:List Value},RC g l xs→RC g l ys→xs=ys∧∀ n,(xs.zip xs).all (fun (x,y) => Instr.sameBits n x y)=true
 | [],_,xs,ys,h,h' => by
  simp only [RC] at h h'; subst h; subst h'; simp
 | v::l,hl,xs,ys,h,h' => by
  simp only [RC] at h h';obtain ⟨x,xr,rfl,r,h⟩:=h; obtain ⟨y,yr,rfl,r',h'⟩:=h';obtain ⟨rfl,e2⟩:=b5l (hl v (by simp)) r r';obtain ⟨rfl,e4⟩:=b3d l (fun v hv => hl v (by simp [hv])) h h';exact ⟨rfl,fun n => by simp [e2 n,e4 n]⟩
def KeyD (P:Program) (ks:List Nat) (kt:TypeId) (d:TypeDesc):Prop :=
 (ks=[8]∧d=.string)∨(ks=[7]∧∃ q,d=.int q)∨∃ fs,d=.struct fs∧ks≠[7]∧ks≠[8]∧b9v P kt ks=true
def Fnd (P:Program) (kt:TypeId) (d:TypeDesc) (kv:Value) (es:List MapEntry) (i:Nat) (o:Option (Nat×Value)):Prop :=
 ((∀ fs,d≠.struct fs)∧Instr.findNow d kv es i=some o)∨((∃ fs,d=.struct fs)∧∀ w,(Instr.findAsking kt kv es i).run P w=.ok o w)
theorem a7v {g:G} {ks:List Nat} {kt:TypeId} {k k':V} {kv kv':Value} {d:TypeDesc} (hu:P.underlying kt=some d) (hd:KeyD P ks kt d) (h:a2g ks k k'=true) (r:R g k kv) (r':R g k' kv') :
    (((∀ fs,d≠.struct fs)∧Instr.sameNow d kv kv'=some (keq k k'))∨((∃ fs,d=.struct fs)∧∀ w,(Op.equal kt kv kv').run P w=.ok (keq k k') w))∧(keq k k'=true→kv=kv'):=by
  rcases hd with ⟨rfl,rfl⟩ | ⟨rfl,q'',rfl⟩ | ⟨fs,rfl,n7,n8,ht⟩
  · cases k<;>cases k'<;>simp [a2g] at h
    rename_i s s'
    simp only [R] at r r'; subst r; subst r'
    have e:∀ (a b:List UInt8),((⟨a.toArray⟩:ByteArray) == ⟨b.toArray⟩)=(a == b):=fun a b => by
      rw [Bool.eq_iff_iff,MapKept.bytes_beq,beq_iff_eq]
      exact ⟨fun h => by simpa using congrArg ByteArray.data h,fun h => by rw [h]⟩
    refine ⟨.inl ⟨by simp,by simp only [Instr.sameNow,keq,e]⟩,fun h => by simp [keq] at h; rw [h]⟩
  · cases k<;>cases k'<;>simp [a2g] at h
    rename_i q n q' n'
    simp only [R] at r r'; subst r; subst r'; subst h
    refine ⟨.inl ⟨by simp,by simp [Instr.sameNow,keq]⟩,fun h => by simp [keq] at h; rw [h]⟩
  · cases k<;>cases k'<;>simp [a2g,n7,n8] at h
    rename_i l l'
    obtain ⟨b,hb⟩:=Option.isSome_iff_exists.1 h
    obtain ⟨e1,e2⟩:=b0s _ _ _ _ hb
    have lf:=a6z _ _ _ _ hb
    simp only [R] at r r'
    obtain ⟨xs,rfl,r1,_⟩:=r
    obtain ⟨ys,rfl,r2,_⟩:=r'
    have hk:keq (.agg l) (.agg l')=b:=e1
    unfold b9v at ht
    simp only [Bool.and_eq_true,Bool.not_eq_true',hu] at ht
    obtain ⟨⟨t1,t2⟩,hf⟩:=ht
    have hfo:P.fieldsOf kt=fs:=by simp [Program.fieldsOf,hu]
    refine ⟨.inr ⟨⟨fs,rfl⟩,fun w => ?_⟩,fun hh => ?_⟩
    · rw [hk]
      show (Op.equalIn 10000 kt (.agg xs) (.agg ys)).run P w=.ok b w
      rw [run_equalIn_agg w 9999 kt xs ys (by rw [hfo]; exact hu) t1,hfo]
      exact b6k (d:=9998) w fs.toList 0 ks l l' b xs ys hf hb (by simpa using r1) (by simpa using r2)
    · rw [hk] at hh
      have:=e2 hh; subst this
      rw [Array.toList_inj.1 (b3d l lf r1 r2).1]
theorem e2t {kt:TypeId} {d:TypeDesc} {kv:Value} {i:Nat}:Fnd P kt d kv [] i none:=by
 cases d
 case struct fs => exact .inr ⟨⟨_,rfl⟩,fun w => by simp [Instr.findAsking]⟩
 all_goals exact .inl ⟨by simp,rfl⟩
theorem e3u {g:G} {ks:List Nat} {kt:TypeId} {d:TypeDesc} {k k':V} {kv:Value} {e:MapEntry} {es:List MapEntry} {i:Nat} (hu:P.underlying kt=some d) (hd:KeyD P ks kt d) (h:a2g ks k k'=true) (r:R g k kv) (r':R g k' e.key) (hq:keq k k'=true) :
  Fnd P kt d kv (e::es) i (some (i,e.val)):=by
 rcases (a7v hu hd h r r').1 with ⟨a,b⟩ | ⟨a,b⟩
 ·exact .inl ⟨a,by simp [Instr.findNow,b,hq]⟩
 ·exact .inr ⟨a,fun w => by simp [Instr.findAsking,b,hq]⟩
theorem c2a {g:G} {ks:List Nat} {kt:TypeId} {d:TypeDesc} {k k':V} {kv:Value} {e:MapEntry} {es:List MapEntry} {i:Nat} {o:Option (Nat×Value)} (hu:P.underlying kt=some d) (hd:KeyD P ks kt d) (h:a2g ks k k'=true) (r:R g k kv) (r':R g k' e.key) (hq:keq k k'=false)
  (hf:Fnd P kt d kv es (i+1) o):Fnd P kt d kv (e::es) i o:=by
 rcases (a7v hu hd h r r').1 with ⟨a,b⟩ | ⟨a,b⟩
 ·rcases hf with ⟨_,f⟩ | ⟨⟨fs,f⟩,_⟩
  ·exact .inl ⟨a,by simp [Instr.findNow,b,hq,f]⟩
  ·exact absurd f (a fs)
 ·rcases hf with ⟨f,_⟩ | ⟨_,f⟩
  ·obtain ⟨fs,a⟩:=a; exact absurd a (f fs)
  ·exact .inr ⟨a,fun w => by simp [Instr.findAsking,b,hq,f]⟩
theorem a3w {g:G} {ks:List Nat} {kt:TypeId} {k:V} {kv:Value} {d:TypeDesc} (hu:P.underlying kt=some d) (hd:KeyD P ks kt d) (r:R g k kv) :
  ∀ (l:List (V×V)) (es:List MapEntry) (i0:Nat),(∀ p∈l,a2g ks k p.1=true)→RC g (l.map (·.1)) (es.map (·.key))→RC g (l.map (·.2)) (es.map (·.val)) →
  (mget l k=none∧mix l k=es.length∧Fnd P kt d kv es i0 none∧∀ v,mset l k v=l++[(k,v)]) ∨
  ∃ j val v old,mget l k=some v∧mix l k=j∧Fnd P kt d kv es i0 (some (i0+j,val))∧R g v val∧es[j]?=some old∧old.key=kv∧old.val=val ∧
   (∀ v' val',R g v' val'→RC g ((mset l k v').map (·.1)) ((es.modify j fun e => { e with key:=kv,val:=val' }).map (·.key))∧RC g ((mset l k v').map (·.2)) ((es.modify j fun e => { e with key:=kv,val:=val' }).map (·.val)))
 | [],es,i0,_,hk,hv => by
  simp only [List.map_nil,RC] at hk;have:es=[]:=by simpa using hk
  subst this;exact .inl ⟨rfl,rfl,e2t,fun _ => rfl⟩
 | (k',v')::l,es,i0,ha,hk,hv => by
  simp only [List.map_cons,RC] at hk hv;obtain ⟨y,ys,e1,r1,hk⟩:=hk;obtain ⟨z,zs,e2,r2,hv⟩:=hv;cases es with
  | nil => simp at e1
  | cons e es =>
   simp only [List.map_cons,List.cons.injEq] at e1 e2;obtain ⟨rfl,rfl⟩:=e1;obtain ⟨rfl,rfl⟩:=e2;have hkl:=ha (k',v') (by simp);cases hq:keq k k' with
   | true =>
    have hkv:=(a7v hu hd hkl r r1).2 hq;right;refine ⟨0,e.val,v',e,by simp [mget,hq],by simp [mix,hq],e3u hu hd hkl r r1 hq,r2,rfl,hkv.symm,rfl,fun v'' val'' hr => ?_⟩;simp only [mset,hq,if_true,List.modify_zero_cons,List.map_cons,RC];exact ⟨⟨_,_,rfl,r,hk⟩,⟨_,_,rfl,hr,hv⟩⟩
   | false =>
    rcases a3w hu hd r l es (i0+1) (fun p hp => ha p (by simp [hp])) hk hv with ⟨a1,a2,a3,a4⟩ | ⟨j,val,v,old,a1,a2,a3,a4,a5,a6,a7,a8⟩
    ·exact .inl ⟨by simp [mget,hq,a1],by simp [mix,hq,a2],c2a hu hd hkl r r1 hq a3,fun v => by simp [mset,hq,a4]⟩
    ·right;refine ⟨j+1,val,v,old,by simp [mget,hq,a1],by simp [mix,hq,a2],c2a hu hd hkl r r1 hq (by rw [show i0+(j+1)=i0+1+j by omega]; exact a3),a4,by simpa using a5,a6,a7,fun v'' val'' hr => ?_⟩;obtain ⟨b1,b2⟩:=a8 v'' val'' hr;simp only [mset,hq,if_false,Bool.false_eq_true,List.modify_succ_cons,List.map_cons,RC];exact ⟨⟨_,_,rfl,r1,b1⟩,⟨_,_,rfl,r2,b2⟩⟩
theorem b5f:∀ (fs:List Field) (i:Nat) (ks:List Nat),a5e P i fs ks=true→fs.length=ks.length
 | [],_,[],_ => rfl
 | [],_,_::_,h => by simp [a5e] at h
 | _::_,_,[],h => by simp [a5e] at h
 | f::fs,i,k::ks,h => by
  simp only [a5e,Bool.and_eq_true] at h;simp [b5f fs (i+1) ks h.2]
theorem d0v:∀ (ks:List Nat) (l l':List V) (r:Bool),eqF ks l l'=some r→l.length=ks.length
  | ks,[],l',r,h => by cases ks<;>cases l'<;>simp [eqF] at h; rfl
  | [],u::l,l',r,h => by cases l'<;>simp [eqF] at h
  | k::ks,u::l,[],r,h => by simp [eqF] at h
  | k::ks,u::l,v::l',r,h => by
    unfold eqF at h
    split at h
    · rename_i e1 e2; cases e1
    all_goals first
      | (split at h
         · rename_i e0 e1 e2 _ r' hr
           simp only [List.cons.injEq] at e0 e1 e2
           obtain ⟨rfl,rfl⟩:=e1; obtain ⟨rfl,rfl⟩:=e2; obtain ⟨_,rfl⟩:=e0
           simp [d0v _ _ _ _ hr]
         · cases h)
      | cases h
theorem a4h {ks:List Nat} {kt:TypeId} {d:TypeDesc} {k:V} {kv:Value} {w:World} {b:Bool} {g:G} (hk:P.underlying kt=some d) (hd:KeyD P ks kt d) (h1:a2g ks k k=true) (r:R g k kv):(Instr.checkKey b 10000 kt kv).run P w=.ok () w:=by
 rcases hd with ⟨_,rfl⟩ | ⟨_,q,rfl⟩ | ⟨fs,rfl,n7,n8,ht⟩
 ·rw [show (10000:Nat)=9999+1 from rfl]; unfold Instr.checkKey; simp only [Sem.run_bind,run_underlying hk,Result.andThen_ok,Sem.run_pure]
 ·rw [show (10000:Nat)=9999+1 from rfl]; unfold Instr.checkKey; simp only [Sem.run_bind,run_underlying hk,Result.andThen_ok,Sem.run_pure]
 ·cases k<;>simp [a2g,n7,n8] at h1;rename_i l;obtain ⟨c,hc⟩:=Option.isSome_iff_exists.1 h1;simp only [R] at r;obtain ⟨xs,rfl,r1,_⟩:=r;unfold b9v at ht;simp only [Bool.and_eq_true,Bool.not_eq_true',hk] at ht;have e1:=b5f _ _ _ ht.2;have e2:=d0v _ _ _ _ hc;have e3:=r1.length;rw [show (10000:Nat)=9999+1 from rfl]; unfold Instr.checkKey;simp only [Sem.run_bind,run_underlying hk,Result.andThen_ok];rw [← Array.forIn_toList];have hlen:0+fs.toList.length≤xs.size:=by simp only [Array.length_toList] at *; omega
  have hf:=ht.2;clear ht e1 e2 e3 hc h1 r1 n7 n8 hk;generalize fs.toList=L at hlen hf;revert hlen hf;generalize 0=i;intro hlen hf
  induction L generalizing i ks with
  | nil => simp
  | cons f L ih =>
   cases ks with
   | nil => simp [a5e] at hf
   | cons k ks =>
    simp only [a5e,Bool.and_eq_true,bne_iff_ne,ne_eq,beq_iff_eq] at hf;obtain ⟨⟨⟨hn,ho⟩,hk⟩,hf⟩:=hf;simp only [List.length_cons] at hlen;have hx:xs[f.offset]?=some (xs[f.offset]'(by omega)):=Array.getElem?_eq_getElem (by omega);have p1:=a2x hk hx w;have hc:(Instr.checkKey b 9999 f.type (xs[f.offset]'(by omega))).run P w=.ok () w:=by
     rw [show (9999:Nat)=9998+1 from rfl];unfold b0b at hk;unfold Instr.checkKey;split at hk<;>first | (rename_i hu; simp [run_underlying hu]) | cases hk
    simp only [List.forIn_cons,Sem.run_bind,hn,ne_eq,not_false_eq_true,if_true,Result.andThen_ok,p1,hc,Sem.run_pure];exact ih (i+1) (by omega) hf
theorem b7i:∀ (l:List V),(∀ v∈l,(∃ k n,v=.int k n)∨(∃ s,v=.str s)∨∃ b,v=.bool b)→keqL l l=true
 | [],_ => rfl
 | v::l,h => by
  simp only [keqL,b7i l (fun v hv => h v (by simp [hv])),Bool.and_true];rcases h v (by simp) with ⟨k,n,rfl⟩ | ⟨s,rfl⟩ | ⟨b,rfl⟩<;>simp [keq1]
theorem d7q {ks:List Nat} {k:V} (h:a2g ks k k=true):keq k k=true:=by
 cases k<;>simp only [a2g] at h<;>try (cases h; done)
 ·simp [keq]
 ·simp [keq]
 ·simp only [Bool.and_eq_true] at h;obtain ⟨c,hc⟩:=Option.isSome_iff_exists.1 h.2;exact b7i _ (a6z _ _ _ _ hc)
theorem a7o {k v:V} (h:keq k k=true):∀ l:List (V×V),mget (mset l k v) k=some v
 | [] => by simp [mset,mget,h]
 | (k',v')::l => by
  simp only [mset];split
  ·simp [mget,h]
  ·rename_i hn; simp [mget,hn,a7o h l]
theorem b9t {ks:List Nat} {k v:V} {l:List (V×V)} (h:a3r ks k l):a3r ks k (mset l k v):=by
 refine ⟨h.1, ?_⟩;have h2:=h.2
 induction l with
 | nil => intro p hp; simp [mset] at hp; subst hp; exact h.1
 | cons a l ih =>
  obtain ⟨k',v'⟩:=a;intro p hp;simp only [mset] at hp;split at hp
  ·rcases List.mem_cons.1 hp with rfl | hp
   ·exact h.1
   ·exact h2 p (by simp [hp])
  ·rcases List.mem_cons.1 hp with rfl | hp
   ·exact h2 _ (by simp)
   ·exact ih ⟨h.1,fun p hp => h2 p (by simp [hp])⟩ (fun p hp => h2 p (by simp [hp])) p hp
theorem a2l {kt:TypeId} {d:TypeDesc} {kv:Value} {w:World} {es:List MapEntry} {o:Option (Nat×Value)} (hk:P.underlying kt=some d) (h:Fnd P kt d kv es 0 o):(Instr.findKey kt kv es).run P w=.ok o w:=by
 rcases h with ⟨_,h⟩ | ⟨⟨fs,rfl⟩,h⟩
 ·simp [Instr.findKey,run_underlying hk,h]
 ·cases es with
  | nil => have:=h w; simp [Instr.findAsking] at this; subst this; simp [Instr.findKey,run_underlying hk,Instr.findNow]
  | cons e es => simp [Instr.findKey,run_underlying hk,Instr.findNow,Instr.sameNow,h]
theorem a1r {w:World} {r:Nat} {es:Array MapEntry} {clock:Nat} (hb:w.heap[r]?=some (.map es clock)):(getObj r).run P w=.ok (.map es clock) w:=MapKept.run_getObj_map hb
theorem e7j {t:TypeId} (h:evI P L H K .mkm):a0m P dl L H ⟨dst,.makeMap t none,ty,pos,after,gu⟩ .mkm K:=by
 simp only [evI] at h;refine ⟨_,_,_,_,h,by simp,by simp [Ins.kind],by simp [Ins.kind],fun m g w a hm hf hs hr ro Kc Q hk => ?_⟩;obtain ⟨k1,k2⟩:=hs.newMap (Still.alloc w (.map #[] 0)) rfl (hf H.n (Nat.le_refl _) (by omega)).1;have run:(execOp a.eval ⟨dst,.makeMap t none,ty,pos,after,gu⟩).run P w=.ok (.value (.map (some w.heap.size))) (w.alloc (.map #[] 0)):=by
  have:=RowKit.run_makeMap (P:=P) t w;simp only [execOp,Option.map_none,Sem.run_bind,this,Result.andThen_ok,Sem.run_pure]
 refine a0y run (hk _ _ _ k1 (fun id hid => ?_) k2 ?_)
 ·simp only [G.lay]; rw [if_neg (fun e => hid (by omega))]
 ·simp only [R,G.lay]; exact ⟨w.heap.size,by simp,rfl⟩
theorem e7s {t:TypeId} (h:evI P L H K .mkd):a0m P dl L H ⟨dst,.makeMap t none,ty,pos,after,gu⟩ .mkd K:=by
 simp only [evI] at h;refine ⟨_,_,_,_,h,by simp,by simp [Ins.kind],by simp [Ins.kind],fun m g w a hm hf hs hr ro Kc Q hk => ?_⟩;obtain ⟨k1,k2⟩:=hs.newOb (o:=.md 0 [] []) (Still.alloc w (.map #[] 0)) rfl (hf H.n (Nat.le_refl _) (by omega)).1 fun hF => ⟨w.heap.size,#[],0,by simp [G.lay],(MapKept.heap_alloc w _).1,hF,by simp [RC],by simp [RC],by simp,by simp⟩;have run:(execOp a.eval ⟨dst,.makeMap t none,ty,pos,after,gu⟩).run P w=.ok (.value (.map (some w.heap.size))) (w.alloc (.map #[] 0)):=by
  have:=RowKit.run_makeMap (P:=P) t w;simp only [execOp,Option.map_none,Sem.run_bind,this,Result.andThen_ok,Sem.run_pure]
 refine a0y run (hk _ _ _ k1 (fun id hid => ?_) k2 ?_)
 ·simp only [G.lay]; rw [if_neg (fun e => hid (by omega))]
 ·simp only [R,G.lay]; exact ⟨w.heap.size,by simp,rfl⟩
def KeyT (P:Program) (ks:List Nat) (kt:TypeId):Prop:=∃ d,P.underlying kt=some d∧KeyD P ks kt d
theorem e9h {t kt e:TypeId} {ok:Bool} {ks:List Nat} {z:V} {zv:Value} {inf:TypeInfo} {x k:Operand} {x' k':Src} (ht:P.underlying t=some (.map kt e)) (hkt:KeyT P ks kt) (hi:P.info? e=some inf) (hz:inf.zero=some zv) (hkon:kon z zv=true)
  (h1:cs dl x x'=true) (h2:cs dl k k'=true) (h:evI P L H K (.mlk ok ks z x' k')):a0m P dl L H ⟨dst,.lookup t x k ok,ty,pos,after,gu⟩ (.mlk ok ks z x' k') K:=by
 simp only [evI] at h; obtain ⟨u,e1,hA⟩:=a0f h; clear h; obtain ⟨kk,e2,hB⟩:=a0f hA; clear hA;obtain ⟨d,hd1,hd2⟩:=hkt;cases u<;>try exact hB.elim
 rename_i id;cases ho:H.m id with
 | none => simp [ho] at hB
 | some o =>
  cases o with
  | arr sz l | md c bs l | it d c ss => simp [ho] at hB
  | mp l =>
   simp only [ho] at hB;obtain ⟨⟨hk0,hk1⟩,hK⟩:=hB;refine a1s (by simp [Ins.kind]) hK fun m g a w hm hs hr => ?_;have qx:=hr x (by simp [Op.operands]) _ _ h1 e1;have qk:=hr k (by simp [Op.operands]) _ _ h2 e2;simp only [R] at qx;obtain ⟨b,q1,q2⟩:=qx;obtain ⟨b',es,clock,p1,p2,p3,p4,p5,p6,p7⟩:=a9c hs ((hm id (by simp)).trans ho);rw [p1] at q1; simp at q1; subst q1;have hz':(zeroValue e).run P w=.ok zv w:=by simp [zeroValue,typeInfo,hi,hz]
   have base:∀ (o:Option (Nat×Value)),Fnd P kt d (a.eval k) es.toList 0 o→(Instr.lookup t (a.eval x) (a.eval k) ok).run P w=.ok (if ok then .tuple #[(match o with | some (_,v) => v | none => zv),.bool o.isSome] else (match o with | some (_,v) => v | none => zv)) w:=fun o ho => by
    have c:=a4h (P:=P) (kv:=a.eval k) (w:=w) (b:=es.isEmpty) hd1 hd2 hk0 qk;have f:=a2l (P:=P) (w:=w) hd1 ho;cases o with
    | none => simp [Instr.lookup,run_underlying ht,q2,a1r p2,c,f,hz']
    | some o => obtain ⟨i,v⟩:=o; simp [Instr.lookup,run_underlying ht,q2,a1r p2,c,f]
   rcases a3w hd1 hd2 qk l es.toList 0 hk1 p4 p5 with ⟨a1,_,a2,_⟩ | ⟨j,val,v,old,a1,_,a2,a3,_⟩
   ·refine ⟨_,by simp only [execOp,Sem.run_bind,base _ a2,Result.andThen_ok,Sem.run_pure]; rfl, ?_⟩;rw [a1];cases ok
    ·simpa [mres] using b3p g z zv hkon
    ·simp only [mres,R,RC];exact ⟨_,rfl,_,_,rfl,b3p g z zv hkon,_,_,rfl,by simp [R],rfl⟩
   ·refine ⟨_,by simp only [execOp,Sem.run_bind,base _ a2,Result.andThen_ok,Sem.run_pure]; rfl, ?_⟩;rw [a1];cases ok
    ·simpa [mres] using a3
    ·simp only [mres,R,RC];exact ⟨_,rfl,_,_,rfl,a3,_,_,rfl,by simp [R],rfl⟩
theorem Still.heap (w:World) (hp:Array Obj):Still w { w with heap:=hp }:=⟨rfl,rfl,rfl⟩
theorem a5r {f:MapEntry→MapEntry} (l:List MapEntry) (j:Nat) (h:∀ e,(f e).born=e.born):(l.modify j f).map (·.born)=l.map (·.born):=by
 refine List.ext_getElem (by simp) fun i h1 h2 => ?_;simp only [List.getElem_map,List.getElem_modify];split<;>simp [h]
theorem b5u {ks:List Nat} {k:V} {kv:Value} {g:G} (h1:a2g ks k k=true) (r:R g k kv):Instr.sameBits 10000 kv kv=true:=by
 cases k<;>simp only [a2g] at h1<;>try (cases h1; done)
 ·exact (b5l (.inl ⟨_,_,rfl⟩) r r).2 _
 ·exact (b5l (.inr (.inl ⟨_,rfl⟩)) r r).2 _
 ·rename_i l;simp only [Bool.and_eq_true] at h1;obtain ⟨c,hc⟩:=Option.isSome_iff_exists.1 h1.2;simp only [R] at r;obtain ⟨xs,rfl,r1,_⟩:=r;have:=(b3d l (a6z _ _ _ _ hc) r1 r1).2 9999;rw [show (10000:Nat)=9999+1 from rfl]; simp only [Instr.sameBits,this,beq_self_eq_true,Bool.and_self]
theorem e9e {t kt e:TypeId} {ks:List Nat} {x k v:Operand} {x' k' v':Src} (ht:P.underlying t=some (.map kt e)) (hkt:KeyT P ks kt)
  (h1:cs dl x x'=true) (h2:cs dl k k'=true) (h3:cs dl v v'=true) (h:evI P L H K (.mup ks x' k' v')):a0m P dl L H ⟨dst,.mapUpdate t x k v,ty,pos,after,gu⟩ (.mup ks x' k' v') K:=by
 simp only [evI] at h; obtain ⟨u,e1,hA⟩:=a0f h; clear h; obtain ⟨kk,e2,hB⟩:=a0f hA; clear hA; obtain ⟨vv,e3,hC⟩:=a0f hB; clear hB;obtain ⟨d,hd1,hd2⟩:=hkt;cases u<;>try exact hC.elim
 rename_i id;cases ho:H.m id with
 | none => simp [ho] at hC
 | some o =>
  cases o with
  | arr sz l | it d c ss => simp [ho] at hC
  | mp l =>
   simp only [ho] at hC;obtain ⟨⟨hk0,hk1⟩,hK⟩:=hC;refine ⟨_,_,_,_,hK,by simp,by simp [Ins.kind],by simp [Ins.kind],fun m g w a hm hf hs hr ro Kc Q hk => ?_⟩;have hmo:=(hm id (by simp)).trans ho;have qx:=hr x (by simp [Op.operands]) _ _ h1 e1;have qk:=hr k (by simp [Op.operands]) _ _ h2 e2;have qv:=hr v (by simp [Op.operands]) _ _ h3 e3;simp only [R] at qx;obtain ⟨b,q1,q2⟩:=qx;obtain ⟨b',es,clock,p1,p2,p3,p4,p5,p6,p7⟩:=a9c hs hmo;rw [p1] at q1; simp at q1; subst q1;have hlt:b' < w.heap.size:=(Array.getElem?_eq_some_iff.1 p2).1;have c:=a4h (P:=P) (kv:=a.eval k) (w:=w) (b:=false) hd1 hd2 hk0 qk;have fin:∀ (es':Array MapEntry) (clock':Nat) (l':List (V×V)),(Instr.mapUpdate t (a.eval x) (a.eval k) (a.eval v)).run P w=.ok () { w with heap:=w.heap.setIfInBounds b' (.map es' clock') }→l'=mset l kk vv →
     RC g (l'.map (·.1)) (es'.toList.map (·.key))→RC g (l'.map (·.2)) (es'.toList.map (·.val))→es'.toList.map (·.born)=List.range es'.size→clock'=es'.size→(⟨dst,.mapUpdate t x k v,ty,pos,after,gu⟩:Oper).wpIn (Fw ro) 0 P a w Kc Q:=by
    intro es' clock' l' run hl r1 r2 r3 r4;subst hl;obtain ⟨k1,k2⟩:=hs.putMap (w':={ w with heap:=w.heap.setIfInBounds b' (.map es' clock') }) (Still.heap _ _) hmo p1 (by simp [hlt]) (fun k hk => by simp [Array.getElem?_setIfInBounds,Ne.symm hk]) (by simp) r1 r2 r3 r4;have hw:(execOp a.eval ⟨dst,.mapUpdate t x k v,ty,pos,after,gu⟩).run P w=.ok .skip { w with heap:=w.heap.setIfInBounds b' (.map es' clock') }:=by
     simp only [execOp,Sem.run_bind,run,Result.andThen_ok,Sem.run_pure]
    exact a7a hw <| hk g undef _ k1 (fun _ _ => rfl) k2 (by simp [R,undef,RC])
   rcases a3w hd1 hd2 qk l es.toList 0 hk1 p4 p5 with ⟨a1,a0,a2,a3⟩ | ⟨j,val,v0,old,a1,a0,a2,a3,a4,a5,a6,a7⟩
   ·have f:=a2l (P:=P) (w:=w) hd1 a2;refine fin (es.push { key:=a.eval k,val:=a.eval v,born:=clock }) (clock+1) (l++[(kk,vv)]) ?_ (a3 vv).symm ?_ ?_ ?_ ?_
    ·simp [Instr.mapUpdate,run_underlying ht,q2,a1r p2,c,f,MapKept.run_setObj_map _ p2]
    ·simp only [List.map_append,Array.toList_push];exact RC.append p4 (by simp only [List.map_cons,List.map_nil,RC]; exact ⟨_,_,rfl,qk,rfl⟩)
    ·simp only [List.map_append,Array.toList_push];exact RC.append p5 (by simp only [List.map_cons,List.map_nil,RC]; exact ⟨_,_,rfl,qv,rfl⟩)
    ·simp [p6,p7,List.range_succ]
    ·simp [p7]
   ·have f:=a2l (P:=P) (w:=w) hd1 a2;have hold:es[j]?=some old:=by simpa using a4
    have hsame:Instr.sameBits 10000 (a.eval k) (a.eval k)=true:=b5u hk0 qk;obtain ⟨b1,b2⟩:=a7 vv (a.eval v) qv;refine fin (es.modify j fun e => { e with key:=a.eval k,val:=a.eval v }) clock (mset l kk vv) ?_ rfl (by rw [Array.toList_modify]; exact b1) (by rw [Array.toList_modify]; exact b2) ?_ (by simpa using p7)
    ·simp [Instr.mapUpdate,run_underlying ht,q2,a1r p2,c,f,MapKept.run_setObj_map _ p2,Instr.keyThatStays,hold,a5,hsame]
    ·rw [Array.size_modify,Array.toList_modify,← p6]; exact a5r _ _ (fun _ => rfl)
  | md cl bs l =>
   simp only [ho] at hC;obtain ⟨⟨hk0,hk1⟩,hK⟩:=hC;refine ⟨_,_,_,_,hK,by simp,by simp [Ins.kind],by simp [Ins.kind],fun m g w a hm hf hs hr ro Kc Q hk => ?_⟩;have hmo:=(hm id (by simp)).trans ho;have qx:=hr x (by simp [Op.operands]) _ _ h1 e1;have qk:=hr k (by simp [Op.operands]) _ _ h2 e2;have qv:=hr v (by simp [Op.operands]) _ _ h3 e3;simp only [R] at qx;obtain ⟨b,q1,q2⟩:=qx;obtain ⟨b',es,clock,p1,p2,p3,p4,p5,p6,p7⟩:=hs.live id _ hmo;rw [p1] at q1; simp at q1; subst q1;have hlt:b' < w.heap.size:=(Array.getElem?_eq_some_iff.1 p2).1;have c:=a4h (P:=P) (kv:=a.eval k) (w:=w) (b:=false) hd1 hd2 hk0 qk;have fin:∀ (es':Array MapEntry) (c':Nat) (bs':List Nat) (l':List (V×V)),(Instr.mapUpdate t (a.eval x) (a.eval k) (a.eval v)).run P w=.ok () { w with heap:=w.heap.setIfInBounds b' (.map es' c') }→b1m cl bs l kk vv=.md c' bs' l' →
     RC g (l'.map (·.1)) (es'.toList.map (·.key))→RC g (l'.map (·.2)) (es'.toList.map (·.val))→es'.toList.map (·.born)=bs'→(⟨dst,.mapUpdate t x k v,ty,pos,after,gu⟩:Oper).wpIn (Fw ro) 0 P a w Kc Q:=by
    intro es' c' bs' l' run hl r1 r2 r3;rw [hl] at hk;obtain ⟨k1,k2⟩:=hs.putOb (o:=.md c' bs' l') (w':={ w with heap:=w.heap.setIfInBounds b' (.map es' c') }) (Still.heap _ _) hmo p1 (fun k hk => by simp [Array.getElem?_setIfInBounds,Ne.symm hk]) (by simp) ⟨b',es',c',p1,by simp [hlt],p3,r1,r2,r3,rfl⟩;have hw:(execOp a.eval ⟨dst,.mapUpdate t x k v,ty,pos,after,gu⟩).run P w=.ok .skip { w with heap:=w.heap.setIfInBounds b' (.map es' c') }:=by
     simp only [execOp,Sem.run_bind,run,Result.andThen_ok,Sem.run_pure]
    exact a7a hw <| hk g undef _ k1 (fun _ _ => rfl) k2 (by simp [R,undef,RC])
   rcases a3w hd1 hd2 qk l es.toList 0 hk1 p4 p5 with ⟨a1,a0,a2,a3⟩ | ⟨j,val,v0,old,a1,a0,a2,a3,a4,a5,a6,a7⟩
   ·have f:=a2l (P:=P) (w:=w) hd1 a2;refine fin (es.push { key:=a.eval k,val:=a.eval v,born:=clock }) (clock+1) (bs++[clock]) (l++[(kk,vv)]) ?_ (by simp only [b1m,a1,a3,p7]) ?_ ?_ ?_
    ·simp [Instr.mapUpdate,run_underlying ht,q2,a1r p2,c,f,MapKept.run_setObj_map _ p2]
    ·simp only [List.map_append,Array.toList_push];exact RC.append p4 (by simp only [List.map_cons,List.map_nil,RC]; exact ⟨_,_,rfl,qk,rfl⟩)
    ·simp only [List.map_append,Array.toList_push];exact RC.append p5 (by simp only [List.map_cons,List.map_nil,RC]; exact ⟨_,_,rfl,qv,rfl⟩)
    ·simp [p6]
   ·have f:=a2l (P:=P) (w:=w) hd1 a2;have hold:es[j]?=some old:=by simpa using a4
    have hsame:Instr.sameBits 10000 (a.eval k) (a.eval k)=true:=b5u hk0 qk;obtain ⟨b1,b2⟩:=a7 vv (a.eval v) qv;refine fin (es.modify j fun e => { e with key:=a.eval k,val:=a.eval v }) clock bs (mset l kk vv) ?_ (by simp only [b1m,a1,p7]) (by rw [Array.toList_modify]; exact b1) (by rw [Array.toList_modify]; exact b2) ?_
    ·simp [Instr.mapUpdate,run_underlying ht,q2,a1r p2,c,f,MapKept.run_setObj_map _ p2,Instr.keyThatStays,hold,a5,hsame]
    ·rw [Array.toList_modify,← p6]; exact a5r _ _ (fun _ => rfl)
theorem b6a {g:G}:∀ {l:List V} {xs:List Value} (j:Nat),RC g l xs→RC g (l.eraseIdx j) (xs.eraseIdx j)
 | [],_,_,h => by simp only [RC] at h; subst h; simp [RC]
 | v::vs,_,0,h => by
  simp only [RC] at h; obtain ⟨y,ys,rfl,h1,h2⟩:=h;simpa using h2
 | v::vs,_,j+1,h => by
  simp only [RC] at h; obtain ⟨y,ys,rfl,h1,h2⟩:=h;simp only [List.eraseIdx_cons_succ,RC];exact ⟨y,_,rfl,h1,b6a j h2⟩
theorem b9p {α β:Type} (f:α→β):∀ (l:List α) (j:Nat),(l.eraseIdx j).map f=(l.map f).eraseIdx j
 | [],_ => by simp
 | a::l,0 => by simp
 | a::l,j+1 => by simp [b9p f l j]
theorem e8p {t kt e:TypeId} {ks:List Nat} {x k:Operand} {x' k':Src} (ht:P.underlying t=some (.map kt e)) (hkt:KeyT P ks kt)
  (h1:cs dl x x'=true) (h2:cs dl k k'=true) (h:evI P L H K (.mdl ks x' k')):a0m P dl L H ⟨dst,.call { callee:=.builtin .delete,args:=#[x,k],argTypes:=#[t,kt] },ty,pos,after,gu⟩ (.mdl ks x' k') K:=by
 simp only [evI] at h; obtain ⟨u,e1,hA⟩:=a0f h; clear h; obtain ⟨kk,e2,hC⟩:=a0f hA; clear hA;obtain ⟨d,hd1,hd2⟩:=hkt;cases u<;>try exact hC.elim
 rename_i id;cases ho:H.m id with
 | none => simp [ho] at hC
 | some o =>
  cases o with
  | arr sz l | mp l | it d c ss => simp [ho] at hC
  | md cl bs l =>
   simp only [ho] at hC;obtain ⟨⟨hk0,hk1⟩,hK⟩:=hC;refine ⟨_,_,_,_,hK,by simp,by simp [Ins.kind],by simp [Ins.kind],fun m g w a hm hf hs hr ro Kc Q hk => ?_⟩;have hmo:=(hm id (by simp)).trans ho;have qx:=hr x (by simp [Op.operands,Call.operands]) _ _ h1 e1;have qk:=hr k (by simp [Op.operands,Call.operands]) _ _ h2 e2;simp only [R] at qx;obtain ⟨b,q1,q2⟩:=qx;obtain ⟨b',es,clock,p1,p2,p3,p4,p5,p6,p7⟩:=hs.live id _ hmo;rw [p1] at q1; simp at q1; subst q1;have hlt:b' < w.heap.size:=(Array.getElem?_eq_some_iff.1 p2).1;have c:=fun bb => a4h (P:=P) (kv:=a.eval k) (w:=w) (b:=bb) hd1 hd2 hk0 qk;have fin:∀ (es':Array MapEntry),(Builtin.delete_ #[t,kt] ty #[a.eval x,a.eval k]).run P w=.ok (.tuple #[]) { w with heap:=w.heap.setIfInBounds b' (.map es' clock) }→es'.toList=es.toList.eraseIdx (mix l kk) →
     (⟨dst,.call { callee:=.builtin .delete,args:=#[x,k],argTypes:=#[t,kt] },ty,pos,after,gu⟩:Oper).wpIn (Fw ro) 0 P a w Kc Q:=by
    intro es' run hl;obtain ⟨k1,k2⟩:=hs.putOb (o:=.md cl (bs.eraseIdx (mix l kk)) (l.eraseIdx (mix l kk))) (w':={ w with heap:=w.heap.setIfInBounds b' (.map es' clock) }) (Still.heap _ _) hmo p1 (fun k hk => by simp [Array.getElem?_setIfInBounds,Ne.symm hk]) (by simp)
     ⟨b',es',clock,p1,by simp [hlt],p3,by rw [hl,b9p,b9p]; exact b6a _ p4,by rw [hl,b9p,b9p]; exact b6a _ p5,by rw [hl,b9p,p6],p7⟩
    exact a0y (x:=.tuple #[]) (by simp [execOp,resolve,invoke,builtin,run]) (hk g _ _ k1 (fun _ _ => rfl) k2 (by simp [R,RC]))
   rcases a3w hd1 hd2 qk l es.toList 0 hk1 p4 p5 with ⟨a1,a0,a2,a3⟩ | ⟨j,val,v0,old,a1,a0,a2,a3,a4,a5,a6,a7⟩
   ·have f:=a2l (P:=P) (w:=w) hd1 a2;refine fin es ?_ (by rw [a0,List.eraseIdx_of_length_le (Nat.le_refl _)]);simp [Builtin.delete_,run_underlying ht,q2,a1r p2,c,f,MapKept.run_setObj_map _ p2,Result.andThen]
   ·have f:=a2l (P:=P) (w:=w) hd1 a2;have hjs:j < es.size:=by simpa using (List.getElem?_eq_some_iff.1 a4).1
    refine fin (es.eraseIdxIfInBounds j) ?_ (by rw [a0]; unfold Array.eraseIdxIfInBounds; rw [dif_pos hjs]; simp);simp [Builtin.delete_,run_underlying ht,q2,a1r p2,c,f,MapKept.run_setObj_map _ p2,Result.andThen]
theorem e9n {t kt e:TypeId} {x:Operand} {x':Src} (ht:P.underlying t=some (.map kt e)) (h1:cs dl x x'=true) (h:evI P L H K (.rng x')):a0m P dl L H ⟨dst,.range t x,ty,pos,after,gu⟩ (.rng x') K:=by
 simp only [evI] at h; obtain ⟨u,e1,hC⟩:=a0f h; clear h;cases u<;>try exact hC.elim
 rename_i id;cases ho:H.m id with
 | none => simp [ho] at hC
 | some o =>
  cases o with
  | arr sz l | mp l | it d c ss => simp [ho] at hC
  | md cl bs l =>
   simp only [ho] at hC;refine ⟨_,_,_,_,hC,by simp,by simp [Ins.kind],by simp [Ins.kind],fun m g w a hm hf hs hr ro Kc Q hk => ?_⟩;have hmo:=(hm id (by simp)).trans ho;have qx:=hr x (by simp [Op.operands]) _ _ h1 e1;simp only [R] at qx;obtain ⟨b,q1,q2⟩:=qx;obtain ⟨b',es,clock,p1,p2,p3,p4,p5,p6,p7⟩:=hs.live id _ hmo;rw [p1] at q1; simp at q1; subst q1; subst p7;have run:(execOp a.eval ⟨dst,.range t x,ty,pos,after,gu⟩).run P w=.ok (.value (.pointer (some ⟨w.heap.size,0,none⟩))) (w.alloc (.mapIter (some b') clock #[] clock)):=by
    have:=run_range_map (P:=P) w t kt e b' es clock ht p2;simp only [execOp,Sem.run_bind,q2,this,Result.andThen_ok,Sem.run_pure]
   have hne:id≠H.n:=fun e => by have:=(hf H.n (Nat.le_refl _) (by omega)).1; rw [← e,p1] at this; cases this
   obtain ⟨k1,k2⟩:=hs.newOb (o:=.it id clock []) (Still.alloc w (.mapIter (some b') clock #[] clock)) rfl (hf H.n (Nat.le_refl _) (by omega)).1 fun hF => ⟨w.heap.size,b',clock,by simp [G.lay],(MapKept.heap_alloc w _).1,hF,by simp only [G.lay]; rw [if_neg hne]; exact p1,rfl⟩;refine a0y run (hk _ _ _ k1 (fun id hid => ?_) k2 ?_)
   ·simp only [G.lay]; rw [if_neg (fun e => hid (by omega))]
   ·simp only [R,G.lay]; exact ⟨w.heap.size,0,0,by simp,rfl⟩
theorem b7z {g:G}:∀ (bs:List Nat) (l:List (V×V)) (es:List MapEntry) (b:Nat) (p:V×V),RC g (l.map (·.1)) (es.map (·.key))→RC g (l.map (·.2)) (es.map (·.val))→es.map (·.born)=bs→mdAt bs l b=some p →
  ∃ e,es.find? (·.born == b)=some e∧R g p.1 e.key∧R g p.2 e.val
 | [],l,es,b,p,_,_,_,h => by simp [mdAt] at h
 | b'::bs,[],es,b,p,_,_,_,h => by simp [mdAt] at h
 | b'::bs,q::l,es,b,p,h1,h2,h3,h => by
  cases es with
  | nil => simp at h3
  | cons e es =>
   simp only [List.map_cons,RC,List.cons.injEq] at h1 h2 h3;obtain ⟨_,_,⟨rfl,rfl⟩,r1,h1⟩:=h1;obtain ⟨_,_,⟨rfl,rfl⟩,r2,h2⟩:=h2;obtain ⟨rfl,h3⟩:=h3;simp only [mdAt] at h;by_cases hb:e.born=b
   ·rw [if_pos hb] at h;simp at h; subst h;exact ⟨e,by simp [List.find?_cons,hb],r1,r2⟩
   ·rw [if_neg hb] at h;obtain ⟨e',k1,k2⟩:=b7z bs l es b p h1 h2 h3 h;exact ⟨e',by rw [List.find?_cons,show (e.born == b)=false by simpa using hb]; exact k1,k2⟩
theorem e7i {x:Operand} {x':Src} (h1:cs dl x x'=true) (h:evI P L H K (.ent x')):a0m P dl L H ⟨dst,.entry x,ty,pos,after,gu⟩ (.ent x') K:=by
 simp only [evI] at h; obtain ⟨u,e1,hC⟩:=a0f h; clear h;split at hC
 ·rename_i id;split at hC
  ·rename_i mid c seen ho;split at hC
   ·rename_i c' bs l hm';split at hC
    ·rename_i p hp;obtain ⟨rfl,hK⟩:=hC;refine a1s (by simp [Ins.kind]) hK fun m g a w hm hs hr => ?_;have qx:=hr x (by simp [Op.operands]) _ _ h1 e1;simp only [R] at qx;obtain ⟨b0,sz,n,q1,q2⟩:=qx;obtain ⟨b,bm,c0,p1,p2,p3,p4,p5⟩:=hs.live id _ ((hm id (by simp)).trans ho);rw [p1] at q1; simp at q1; obtain ⟨rfl,rfl,rfl⟩:=q1;obtain ⟨bm',es,clock,k1,k2,_,k4,k5,k6,k7⟩:=hs.live mid _ ((hm mid (by simp)).trans hm');rw [p4] at k1; simp at k1; subst k1;subst p5 k7;unfold entO at hp;split at hp
     ·rename_i lb hlb;obtain ⟨e,f1,f2,f3⟩:=b7z bs l es.toList lb p k4 k5 k6 hp;have hf:es.find? (·.born == lb)=some e:=by rw [← Array.find?_toList]; exact f1
      have hbk:seen.toArray.back?=some lb:=by simpa using hlb
      have run:(Instr.entry (.pointer (some ⟨b,0,none⟩))).run P w=.ok (.tuple #[e.key,e.val]) w:=by
       simp only [Instr.entry,getObj,Sem.run_bind,Sem.run,p2,k2,Result.andThen,hbk,bne_self_eq_false,Bool.false_eq_true,if_false,hf];rfl
      refine ⟨_,by simp only [execOp,q2,Nat.zero_mul,Nat.add_zero,Sem.run_bind,run,Result.andThen_ok,Sem.run_pure]; rfl, ?_⟩;simp only [R,RC];exact ⟨_,rfl,_,_,rfl,f2,_,_,rfl,f3,rfl⟩
     ·cases hp
    ·exact hC.elim
   ·exact hC.elim
  ·exact hC.elim
 ·exact hC.elim
theorem e9b {t kt e:TypeId} {ks:List Nat} {z:V} {zv:Value} {inf:TypeInfo} {x k:Operand} {x' k':Src} (ht:P.underlying t=some (.map kt e)) (hkt:KeyT P ks kt) (hi:P.info? e=some inf) (hz:inf.zero=some zv) (hkon:kon z zv=true)
  (h1:cs dl x x'=true) (h2:cs dl k k'=true) (h:evI P L H K (.men ks z x' k')):a0m P dl L H ⟨dst,.mapEntry t x k,ty,pos,after,gu⟩ (.men ks z x' k') K:=by
 simp only [evI] at h; obtain ⟨u,e1,hA⟩:=a0f h; clear h; obtain ⟨kk,e2,hC⟩:=a0f hA; clear hA;obtain ⟨d,hd1,hd2⟩:=hkt;cases u<;>try exact hC.elim
 rename_i id;cases ho:H.m id with
 | none => simp [ho] at hC
 | some o =>
  cases o with
  | arr sz l | md c bs l | it d c ss => simp [ho] at hC
  | mp l =>
   simp only [ho] at hC;obtain ⟨⟨hk0,hk1⟩,hK⟩:=hC;refine ⟨_,_,_,_,hK,by simp,by simp [Ins.kind],by simp [Ins.kind],fun m g w a hm hf hs hr ro Kc Q hk => ?_⟩;have hmo:=(hm id (by simp)).trans ho;have qx:=hr x (by simp [Op.operands]) _ _ h1 e1;have qk:=hr k (by simp [Op.operands]) _ _ h2 e2;simp only [R] at qx;obtain ⟨b,q1,q2⟩:=qx;obtain ⟨b',es,clock,p1,p2,p3,p4,p5,p6,p7⟩:=a9c hs hmo;rw [p1] at q1; simp at q1; subst q1;have hlt:b' < w.heap.size:=(Array.getElem?_eq_some_iff.1 p2).1;have c:=a4h (P:=P) (kv:=a.eval k) (w:=w) (b:=false) hd1 hd2 hk0 qk;have hz':(zeroValue e).run P w=.ok zv w:=by simp [zeroValue,typeInfo,hi,hz]
   have fin:∀ (es':Array MapEntry) (clock':Nat) (l':List (V×V)) (vv:V) (val:Value) (n:Nat),(Instr.mapEntry t (a.eval x) (a.eval k)).run P w=.ok (.tuple #[val,goInt n]) { w with heap:=w.heap.setIfInBounds b' (.map es' clock') }→l'=mset l kk ((mget l kk).getD z) →
     RC g (l'.map (·.1)) (es'.toList.map (·.key))→RC g (l'.map (·.2)) (es'.toList.map (·.val))→es'.toList.map (·.born)=List.range es'.size→clock'=es'.size→vv=(mget l kk).getD z→R g vv val→n=mix l kk→(⟨dst,.mapEntry t x k,ty,pos,after,gu⟩:Oper).wpIn (Fw ro) 0 P a w Kc Q:=by
    intro es' clock' l' vv val n run hl r1 r2 r3 r4 hvv hval hn;subst hl; subst hvv; subst hn;obtain ⟨k1,k2⟩:=hs.putMap (w':={ w with heap:=w.heap.setIfInBounds b' (.map es' clock') }) (Still.heap _ _) hmo p1 (by simp [hlt]) (fun k hk => by simp [Array.getElem?_setIfInBounds,Ne.symm hk]) (by simp) r1 r2 r3 r4;refine a0y (x:=.tuple #[val,goInt (mix l kk)]) (by simp only [execOp,Sem.run_bind,run,Result.andThen_ok,Sem.run_pure]) (hk g _ _ k1 (fun _ _ => rfl) k2 ?_);simp only [R,RC];exact ⟨_,rfl,_,_,rfl,hval,_,_,rfl,rfl,rfl⟩
   rcases a3w hd1 hd2 qk l es.toList 0 hk1 p4 p5 with ⟨a1,a0,a2,a3⟩ | ⟨j,val,v0,old,a1,a0,a2,a3,a4,a5,a6,a7⟩
   ·have f:=a2l (P:=P) (w:=w) hd1 a2;refine fin (es.push { key:=a.eval k,val:=zv,born:=clock }) (clock+1) (l++[(kk,z)]) z zv clock ?_ (by rw [a1]; exact (a3 z).symm) ?_ ?_ ?_ ?_ (by rw [a1]; rfl) (b3p g z zv hkon) (by rw [a0,p7]; simp)
    ·simp [Instr.mapEntry,run_underlying ht,q2,a1r p2,c,f,hz',MapKept.run_setObj_map _ p2]
    ·simp only [List.map_append,Array.toList_push];exact RC.append p4 (by simp only [List.map_cons,List.map_nil,RC]; exact ⟨_,_,rfl,qk,rfl⟩)
    ·simp only [List.map_append,Array.toList_push];exact RC.append p5 (by simp only [List.map_cons,List.map_nil,RC]; exact ⟨_,_,rfl,b3p g z zv hkon,rfl⟩)
    ·simp [p6,p7,List.range_succ]
    ·simp [p7]
   ·have f:=a2l (P:=P) (w:=w) hd1 a2;have hold:es[j]?=some old:=by simpa using a4
    have hborn:old.born=j:=by
     have:=congrArg (fun q => q[j]?) p6;obtain ⟨hj,_⟩:=List.getElem?_eq_some_iff.1 a4;simp only [List.getElem?_map,a4,Option.map_some] at this;rw [List.getElem?_range (by simpa using hj)] at this;simpa using this
    have hsame:Instr.sameBits 10000 (a.eval k) (a.eval k)=true:=b5u hk0 qk;obtain ⟨b1,b2⟩:=a7 v0 val a3;have hmod:es.toList.modify j (fun e => { e with key:=a.eval k })=es.toList.modify j (fun e => { e with key:=a.eval k,val:=val }):=by
     refine List.ext_getElem? fun i => ?_;simp only [List.getElem?_modify];by_cases hij:j=i
     ·subst hij; simp [a4,a6]
     ·simp [hij]
    refine fin (es.modify j fun e => { e with key:=a.eval k }) clock (mset l kk v0) v0 val j ?_ (by rw [a1]; rfl) (by rw [Array.toList_modify,hmod]; exact b1) (by rw [Array.toList_modify,hmod]; exact b2) ?_ (by simpa using p7) (by rw [a1]; rfl) a3 a0.symm
    ·simp [Instr.mapEntry,run_underlying ht,q2,a1r p2,c,f,MapKept.run_setObj_map _ p2,Instr.keyThatStays,hold,a5,hsame,hborn]
    ·rw [Array.size_modify,Array.toList_modify,← p6]; exact a5r _ _ (fun _ => rfl)
theorem b7r:∀ (l:List MapEntry) (n0 i:Nat),l.map (·.born)=(List.range l.length).map (·+n0)→i < l.length→l.findIdx? (fun e => (e.born:Int) == ((n0+i:Nat):Int))=some i
 | [],_,i,_,h => by simp at h
 | e::l,n0,i,h,hi => by
  simp only [List.map_cons,List.length_cons,List.range_succ_eq_map,List.cons.injEq,List.map_map] at h;obtain ⟨h1,h2⟩:=h;cases i with
  | zero => simp [List.findIdx?_cons,h1]
  | succ i =>
   have ih:=b7r l (n0+1) i (by rw [h2]; apply List.map_congr_left; intro x _; simp only [Function.comp]; omega) (by simpa using hi);have hne:((e.born:Int) == ((n0+(i+1):Nat):Int))=false:=by simp only [beq_eq_false_iff_ne]; omega
   rw [List.findIdx?_cons,hne];simp only [Bool.false_eq_true,if_false];rw [show n0+(i+1)=n0+1+i by omega,ih]; rfl
theorem c9r {g:G}:∀ (l:List (V×V)) (es:List MapEntry) (i:Nat) (v:V) (val:Value),RC g (l.map (·.1)) (es.map (·.key))→RC g (l.map (·.2)) (es.map (·.val))→R g v val →
  RC g ((mput l i v).map (·.1)) ((es.modify i fun e => { e with val:=val }).map (·.key))∧RC g ((mput l i v).map (·.2)) ((es.modify i fun e => { e with val:=val }).map (·.val))
 | [],es,i,v,val,h1,h2,r => by
  simp only [List.map_nil,RC] at h1;have:es=[]:=by simpa using h1
  subst this; simp [mput,RC]
 | (k',v')::l,[],i,v,val,h1,h2,r => by simp only [List.map_cons,RC] at h1; obtain ⟨_,_,h,_⟩:=h1; simp at h
 | (k',v')::l,e::es,i,v,val,h1,h2,r => by
  simp only [List.map_cons,RC] at h1 h2;obtain ⟨y,ys,e1,r1,h1⟩:=h1;obtain ⟨z,zs,e2,r2,h2⟩:=h2;simp only [List.cons.injEq] at e1 e2;obtain ⟨rfl,rfl⟩:=e1; obtain ⟨rfl,rfl⟩:=e2;cases i with
  | zero => simp only [mput,List.modify_zero_cons,List.map_cons,RC]; exact ⟨⟨_,_,rfl,r1,h1⟩,⟨_,_,rfl,r,h2⟩⟩
  | succ i =>
   obtain ⟨b1,b2⟩:=c9r l es i v val h1 h2 r;simp only [mput,List.modify_succ_cons,List.map_cons,RC]; exact ⟨⟨_,_,rfl,r1,b1⟩,⟨_,_,rfl,r2,b2⟩⟩
theorem e9r {t:TypeId} {x s v:Operand} {x' s' v':Src} (h1:cs dl x x'=true) (h2:cs dl s s'=true) (h3:cs dl v v'=true) (h:evI P L H K (.mes x' s' v')):a0m P dl L H ⟨dst,.entryStore t x s v,ty,pos,after,gu⟩ (.mes x' s' v') K:=by
 simp only [evI] at h; obtain ⟨u,e1,hA⟩:=a0f h; clear h; obtain ⟨ss,e2,hB⟩:=a0f hA; clear hA; obtain ⟨vv,e3,hC⟩:=a0f hB; clear hB;split at hC
 ·rename_i id i;cases ho:H.m id with
  | none => simp [ho] at hC
  | some o =>
   cases o with
   | arr sz l | md c bs l | it d c ss => simp [ho] at hC
   | mp l =>
    simp only [ho] at hC;obtain ⟨⟨hi0,hi1⟩,hK⟩:=hC;refine ⟨_,_,_,_,hK,by simp,by simp [Ins.kind],by simp [Ins.kind],fun m g w a hm hf hs hr ro Kc Q hk => ?_⟩;have hmo:=(hm id (by simp)).trans ho;have qx:=hr x (by simp [Op.operands]) _ _ h1 e1;have qs:=hr s (by simp [Op.operands]) _ _ h2 e2;have qv:=hr v (by simp [Op.operands]) _ _ h3 e3;simp only [R] at qx qs;obtain ⟨b,q1,q2⟩:=qx;obtain ⟨b',es,clock,p1,p2,p3,p4,p5,p6,p7⟩:=a9c hs hmo;rw [p1] at q1; simp at q1; subst q1;have hlt:b' < w.heap.size:=(Array.getElem?_eq_some_iff.1 p2).1;have hl:es.size=l.length:=by have:=p4.length; simpa using this
    have hfi:es.findIdx? (fun e => (e.born:Int) == i)=some i.toNat:=by
     have:=b7r es.toList 0 i.toNat (by simpa using p6) (by simp only [Array.length_toList]; omega);rw [show ((0+i.toNat:Nat):Int)=i by omega] at this;cases es; simpa using this
    obtain ⟨b1,b2⟩:=c9r l es.toList i.toNat vv (a.eval v) p4 p5 qv;obtain ⟨k1,k2⟩:=hs.putMap (w':={ w with heap:=w.heap.setIfInBounds b' (.map (es.modify i.toNat fun e => { e with val:=a.eval v }) clock) }) (l:=mput l i.toNat vv) (es:=es.modify i.toNat fun e => { e with val:=a.eval v }) (clock:=clock) (Still.heap _ _) hmo p1 (by simp [hlt]) (fun k hk => by simp [Array.getElem?_setIfInBounds,Ne.symm hk]) (by simp)
     (by rw [Array.toList_modify]; exact b1) (by rw [Array.toList_modify]; exact b2) (by rw [Array.size_modify,Array.toList_modify,← p6]; exact a5r _ _ (fun _ => rfl)) (by simpa using p7)
    have run:(Instr.entryStore t (a.eval x) (a.eval s) (a.eval v)).run P w=.ok () { w with heap:=w.heap.setIfInBounds b' (.map (es.modify i.toNat fun e => { e with val:=a.eval v }) clock) }:=by
     simp [Instr.entryStore,q2,qs,a1r p2,asInt,asIntOf,hfi,MapKept.run_setObj_map _ p2]
    have hw:(execOp a.eval ⟨dst,.entryStore t x s v,ty,pos,after,gu⟩).run P w=.ok .skip { w with heap:=w.heap.setIfInBounds b' (.map (es.modify i.toNat fun e => { e with val:=a.eval v }) clock) }:=by
     simp only [execOp,Sem.run_bind,run,Result.andThen_ok,Sem.run_pure]
    exact a7a hw <| hk g undef _ k1 (fun _ _ => rfl) k2 (by simp [R,undef,RC])
 ·exact hC.elim
theorem e7h {t kt e:TypeId} {x:Operand} {x':Src} (ht:P.underlying t=some (.map kt e)) (h1:cs dl x x'=true) (h:evI P L H K (.mln x')):a0m P dl L H ⟨dst,.call { callee:=.builtin .len,args:=#[x],argTypes:=#[t] },ty,pos,after,gu⟩ (.mln x') K:=by
 simp only [evI] at h; obtain ⟨u,e1,hC⟩:=a0f h; clear h;cases u<;>try exact hC.elim
 rename_i id;cases ho:H.m id with
 | none => simp [ho] at hC
 | some o =>
  cases o with
  | arr sz l | md c bs l | it d c ss => simp [ho] at hC
  | mp l =>
   simp only [ho] at hC;refine a1s (by simp [Ins.kind]) hC fun m g a w hm hs hr => ?_;have qx:=hr x (by simp [Op.operands,Call.operands]) _ _ h1 e1;simp only [R] at qx;obtain ⟨b,q1,q2⟩:=qx;obtain ⟨b',es,clock,p1,p2,p3,p4,p5,p6,p7⟩:=a9c hs ((hm id (by simp)).trans ho);rw [p1] at q1; simp at q1; subst q1;have run:(Builtin.len_ #[t] ty #[a.eval x]).run P w=.ok (goInt es.size) w:=by
    simp [Builtin.len_,run_underlying ht,q2,a1r p2]
   have hl:es.size=l.length:=by have:=p4.length; simpa using this
   exact ⟨goInt es.size,by simp [execOp,resolve,invoke,builtin,run],by simp [R,goInt,hl]⟩
end
end
def a3q (P:Program) (t:TypeId):Option (TypeId×TypeInfo) :=
 match P.underlying t with
 | some (.slice e) => (match P.info? e with | some i => some (e,i) | none => none)
 | _ => none
theorem a1b {P:Program} {t e:TypeId} {i:TypeInfo} (h:a3q P t=some (e,i)):P.underlying t=some (.slice e)∧P.info? e=some i:=by
 unfold a3q at h;split at h
 ·rename_i e' hu;split at h
  ·rename_i i' hi; simp at h; obtain ⟨rfl,rfl⟩:=h; exact ⟨hu,hi⟩
  ·cases h
 ·cases h
def a9x (P:Program) (t:TypeId):Bool:=match P.underlying t with | some .string => true | _ => false
theorem a3f {P:Program} {t:TypeId} (h:a9x P t=true):P.underlying t=some .string:=by
 unfold a9x at h; split at h
 ·assumption
 ·cases h
def c9s (P:Program) (t:TypeId):Bool:=match P.underlying t with | some (.int .u8) => true | _ => false
theorem a9e {P:Program} {t:TypeId} (h:c9s P t=true):P.underlying t=some (.int .u8):=by
 unfold c9s at h; split at h
 ·assumption
 ·cases h
def c1y (P:Program) (t:TypeId) (k:IntKind):Bool:=match P.underlying t with | some (.int k') => k' == k | _ => false
theorem b2d {P:Program} {t:TypeId} {k:IntKind} (h:c1y P t k=true):P.underlying t=some (.int k):=by
 unfold c1y at h; split at h
 ·simp at h; subst h; assumption
 ·cases h
def b9n (P:Program) (t:TypeId):Bool:=match P.underlying t with | some (.interface _) => false | some _ => true | none => false
theorem b7w {P:Program} {t:TypeId} (h:b9n P t=true):∃ d,P.underlying t=some d∧∀ ms,d≠.interface ms:=by
 unfold b9n at h; split at h
 ·cases h
 ·rename_i d hd hu; exact ⟨d,hu,fun ms e => hd ms e⟩
 ·cases h
def mapT (P:Program) (t:TypeId):Option (TypeId×TypeId):=match P.underlying t with | some (.map k e) => some (k,e) | _ => none
theorem a5d {P:Program} {t:TypeId} {p:TypeId×TypeId} (h:mapT P t=some p):P.underlying t=some (.map p.1 p.2):=by
 unfold mapT at h; split at h
 ·rename_i k e hu; simp at h; subst h; exact hu
 ·cases h
def keyT (P:Program) (ks:List Nat) (t:TypeId):Bool:=match P.underlying t with | some .string => ks == [8] | some (.int _) => ks == [7] | some (.struct _) => ks != [7] && ks != [8] && b9v P t ks | _ => false
theorem a9b {P:Program} {t:TypeId} {ks:List Nat} (h:keyT P ks t=true):KeyT P ks t:=by
 unfold keyT at h; split at h
 ·rename_i hu; exact ⟨_,hu,.inl ⟨by simpa using h,rfl⟩⟩
 ·rename_i k hu; exact ⟨_,hu,.inr (.inl ⟨by simpa using h,k,rfl⟩)⟩
 ·rename_i fs hu; simp only [Bool.and_eq_true,bne_iff_ne,ne_eq] at h; exact ⟨_,hu,.inr (.inr ⟨fs,rfl,h.1.1,h.1.2,h.2⟩)⟩
 ·cases h
def chkI (P:Program) (dl:List (Option Nat)) (op:Op):Ins→Bool
 | .mov s => (match op with | .move x => cs dl x s | .assign x => cs dl x s | _ => false)
 | .same s => (match op with | .convert a b x => (P.underlying a).isSome && a9x P b && cs dl x s | _ => false)
 | .pick c a b => (match op with | .pick c' a' b' => cs dl c' c && cs dl a' a && cs dl b' b | _ => false)
 | .bin o x y => (match op with | .binOp o' _ x' y' _ => o == o' && cs dl x' x && cs dl y' y | _ => false)
 | .eqb neg x y => (match op with | .binOp o t x' y' _ => (o == if neg then .neq else .eql) && b9j P t && cs dl x' x && cs dl y' y | _ => false)
 | .eqn neg kd x => (match op with | .binOp o t x' (.const c) _ => (o == if neg then .neq else .eql) && nkOf P t c == some kd && cs dl x' x | _ => false)
 | .eqs neg ks x y => (match op with | .binOp o t x' y' _ => (o == if neg then .neq else .eql) && (b9v P t ks || d4q P t ks) && cs dl x' x && cs dl y' y | _ => false)
 | .un o x => (match op with | .unOp o' _ x' => o == o' && cs dl x' x | _ => false)
 | .cvt k x => (match op with | .convert a b x' => (P.underlying a).isSome && c1y P b k && cs dl x' x | _ => false)
 | .bts x => (match op with | .convert a b x' => (match a3q P a with | some (e,_) => c9s P e | none => false) && a9x P b && cs dl x' x | _ => false)
 | .stb x => (match op with | .convert a b x' => (P.underlying a).isSome && (match a3q P b with | some (e,_) => c9s P e | none => false) && cs dl x' x | _ => false)
 | .sto x => (match op with | .convert a b x' => (P.underlying a).isSome && (match a3q P b with | some (e,_) => c9s P e | none => false) && cs dl x' x | _ => false)
 | .alloc _ z => (match op with | .alloc el => (match P.info? el with | some i => (match i.zero with | some zv => kon z zv | none => false) | none => false) | _ => false)
 | .box _ x => (match op with | .box _ x' => cs dl x' x | _ => false)
 | .build z ps => (match op with
  | .build t parts => (match b6v P t parts.size,P.info? t with
   | some places,some i => (match i.zero with | some zv => konL z zv.cells.toList && z.all V.cell && a5q dl places parts.toList ps | none => false)
   | _,_ => false)
  | _ => false)
 | .bsl sz ps => (match op with
  | .buildSlice t len parts => (match a3q P t with | some (_,i) => i.size == sz && i.zero.isSome && sz != 0 && decide (len*sz≤16777216) && parts.size == len && a6j dl 0 parts.toList ps | none => false)
  | _ => false)
 | .load k a => (match op with | .load t a' => aggK P t == some k && cs dl a' a | _ => false)
 | .store k a x => (match op with | .store t a' x' => aggK P t == some k && cs dl a' a && cs dl x' x | _ => false)
 | .fad off x => (match op with | .fieldAddr s x' i => (match a7b P s i with | some (o,_) => o == off | none => false) && cs dl x' x | _ => false)
 | .fld off k x => (match op with | .field s x' i => (match a7b P s i with | some (o,t) => o == off && aggK P t == some k | none => false) && cs dl x' x | _ => false)
 | .iad sz x i => (match op with | .indexAddr t x' i' => (match a3q P t with | some (_,inf) => inf.size == sz | none => false) && cs dl x' x && cs dl i' i | _ => false)
 | .ixs x i => (match op with | .index t x' i' => a9x P t && cs dl x' x && cs dl i' i | _ => false)
 | .slc sz x lo hi mx => (match op with
  | .slice t x' lo' hi' mx' => (match a3q P t with | some (_,inf) => inf.size == sz | none => false) && cs dl x' x && csO dl lo' lo && csO dl hi' hi && csO dl mx' mx
  | _ => false)
 | .sls x lo hi => (match op with | .slice t x' lo' hi' none => a9x P t && cs dl x' x && csO dl lo' lo && csO dl hi' hi | _ => false)
 | .ext x i => (match op with | .extract x' i' => i == i' && cs dl x' x | _ => false)
 | .mkf f fs cs' => (match op with | .makeFunc (.func f') fs' cs'' => f == f' && csL dl fs'.toList fs && csL dl cs''.toList cs' | _ => false)
 | .mks sz bt z l => (match op with
  | .makeSlice t l' c' => (match a3q P t with
   | some (_,i) => (match i.zero with | some zv => i.size == sz && i.bytes == bt && zv.cells.size == sz && kon z zv && cs dl l' l && cs dl c' l | none => false)
   | none => false)
  | _ => false)
 | .nck x => (match op with | .nilCheck x' => cs dl x' x | _ => false)
 | .len str x => (match op with
  | .call ⟨.builtin .len,args,ts⟩ => (match args.toList,ts.toList with | [x'],[t] => (if str then a9x P t else (a3q P t).isSome) && cs dl x' x | _,_ => false)
  | _ => false)
 | .mnx mx x ys => (match op with
  | .call ⟨.builtin b,args,_⟩ => (b == if mx then .max else .min) && (match args.toList with | x'::ys' => cs dl x' x && csL dl ys' ys | _ => false)
  | _ => false)
 | .app sz bt x y => (match op with
  | .call ⟨.builtin .append,args,ts⟩ => (match args.toList,ts.toList with
   | [x',y'],[t,tx] => (match a3q P t with
    | some (_,i) => (match i.zero with | some zv => i.size == sz && i.bytes == bt && decide (1≤bt) && zv.cells.size == sz && zv.cells.toList.all Value.oneCell' && ((a3q P tx).isSome || a9x P tx) && cs dl x' x && cs dl y' y | none => false)
    | none => false)
   | _,_ => false)
  | _ => false)
 | .cpy sz x y => (match op with
  | .call ⟨.builtin .copy,args,ts⟩ => (match args.toList,ts.toList with
   | [x',y'],[t,tx] => (match a3q P t with | some (_,i) => i.size == sz | none => false) && (a3q P tx).isSome && cs dl x' x && cs dl y' y
   | _,_ => false)
  | _ => false)
 | .call _ f args => (match op with | .call ⟨.value f',args',_⟩ => cs dl f' f && csL dl args'.toList args | _ => false)
 | .mki t x => (match op with | .makeInterface t' x' => t == t' && b9n P t' && cs dl x' x | _ => false)
 | .mkm | .mkd => (match op with | .makeMap _ none => true | _ => false)
 | .mdl ks x k => (match op with
  | .call ⟨.builtin .delete,args,ts⟩ => (match args.toList,ts.toList with | [x',k'],[t,t'] => (match mapT P t with | some (kt,_) => kt == t' && keyT P ks kt && cs dl x' x && cs dl k' k | none => false) | _,_ => false)
  | _ => false)
 | .ent x => (match op with | .entry x' => cs dl x' x | _ => false)
 | .rng x => (match op with
  | .range t x' => (mapT P t).isSome && cs dl x' x
  | _ => false)
 | .mlk ok ks z x k => (match op with
  | .lookup t x' k' ok' => (match mapT P t with | some (kt,e) => keyT P ks kt && (match P.info? e with | some i => (match i.zero with | some zv => kon z zv | none => false) | none => false) && ok' == ok && cs dl x' x && cs dl k' k | none => false)
  | _ => false)
 | .mup ks x k v => (match op with
  | .mapUpdate t x' k' v' => (match mapT P t with | some (kt,_) => keyT P ks kt && cs dl x' x && cs dl k' k && cs dl v' v | none => false)
  | _ => false)
 | .men ks z x k => (match op with
  | .mapEntry t x' k' => (match mapT P t with | some (kt,e) => keyT P ks kt && (match P.info? e with | some i => (match i.zero with | some zv => kon z zv | none => false) | none => false) && cs dl x' x && cs dl k' k | none => false)
  | _ => false)
 | .mes x s v => (match op with
  | .entryStore t x' s' v' => (mapT P t).isSome && cs dl x' x && cs dl s' s && cs dl v' v
  | _ => false)
 | .mln x => (match op with
  | .call ⟨.builtin .len,args,ts⟩ => (match args.toList,ts.toList with | [x'],[t] => (mapT P t).isSome && cs dl x' x | _,_ => false)
  | _ => false)
 | .cap x => (match op with
  | .call ⟨.builtin .cap,args,ts⟩ => (match args.toList,ts.toList with | [x'],[t] => (a3q P t).isSome && cs dl x' x | _,_ => false)
  | _ => false)
 | .apz sz bt z x y => (match op with
  | .call ⟨.builtin .append,args,ts⟩ => (match args.toList,ts.toList with
   | [x',y'],[t,tx] => (match a3q P t with
    | some (_,i) => (match i.zero with | some zv => i.size == sz && i.bytes == bt && decide (1≤bt) && decide (1≤sz) && zv.cells.size == sz && zv.cells.toList.all Value.oneCell' && kon z zv && c1y P tx .i64 && cs dl x' x && cs dl y' y | none => false)
    | none => false)
   | _,_ => false)
  | _ => false)
 | .xcl f args => (match op with | .call ⟨.value (.func f'),args',_⟩ => f == f' && csL dl args'.toList args | _ => false)
theorem b1p {P:Program} {dl:List (Option Nat)} {L:Src→Option V} {H:Hp} {o:Oper} {i:Ins} {K:KI} (hc:chkI P dl o.op i=true) (h:evI P L H K i):a0m P dl L H o i K:=by
 obtain ⟨dst,op,ty,pos,after,gu⟩:=o;simp only at hc;cases i<;>simp only [chkI] at hc
 case mov s =>
  split at hc
  ·exact e8a hc h
  ·exact d7l hc h
  ·cases hc
 case same s =>
  split at hc
  ·simp only [Bool.and_eq_true] at hc; exact e6s hc.1.1 (a3f hc.1.2) hc.2 h
  ·cases hc
 case pick =>
  split at hc
  ·simp only [Bool.and_eq_true] at hc; exact e5g hc.1.1 hc.1.2 hc.2 h
  ·cases hc
 case bin =>
  split at hc
  ·simp only [Bool.and_eq_true,beq_iff_eq] at hc; obtain ⟨⟨rfl,h1⟩,h2⟩:=hc; exact e7g h1 h2 h
  ·cases hc
 case eqb =>
  split at hc
  ·simp only [Bool.and_eq_true] at hc; exact e7w hc.1.1.1 hc.1.1.2 hc.1.2 hc.2 h
  ·cases hc
 case eqn =>
  split at hc
  ·simp only [Bool.and_eq_true] at hc; exact e7m hc.1.1 (by simpa using hc.1.2) hc.2 h
  ·cases hc
 case eqs =>
  split at hc
  ·simp only [Bool.and_eq_true] at hc; exact e9f hc.1.1.1 hc.1.1.2 hc.1.2 hc.2 h
  ·cases hc
 case un =>
  split at hc
  ·simp only [Bool.and_eq_true,beq_iff_eq] at hc; obtain ⟨rfl,h1⟩:=hc; exact s_un h1 h
  ·cases hc
 case cvt =>
  split at hc
  ·simp only [Bool.and_eq_true] at hc;obtain ⟨ud,hu⟩:=Option.isSome_iff_exists.1 hc.1.1;exact e8s hu (b2d hc.1.2) hc.2 h
  ·cases hc
 case bts =>
  split at hc
  ·rename_i a b x';simp only [Bool.and_eq_true] at hc;obtain ⟨⟨h1,h2⟩,h3⟩:=hc;split at h1
   ·rename_i e inf he;obtain ⟨q1,q2⟩:=a1b he;exact e9g q1 (a9e h1) (a3f h2) h3 h
   ·cases h1
  ·cases hc
 case stb =>
  split at hc
  ·rename_i a b x';simp only [Bool.and_eq_true] at hc;obtain ⟨⟨h1,h2⟩,h3⟩:=hc;obtain ⟨ud,hu⟩:=Option.isSome_iff_exists.1 h1;split at h2
   ·rename_i e inf he;obtain ⟨q1,q2⟩:=a1b he;exact e8j hu q1 (a9e h2) h3 h
   ·cases h2
  ·cases hc
 case sto =>
  split at hc
  ·rename_i a b x';simp only [Bool.and_eq_true] at hc;obtain ⟨⟨h1,h2⟩,h3⟩:=hc;obtain ⟨ud,hu⟩:=Option.isSome_iff_exists.1 h1;split at h2
   ·rename_i e inf he;obtain ⟨q1,q2⟩:=a1b he;exact e9p hu q1 (a9e h2) h3 h
   ·cases h2
  ·cases hc
 case alloc =>
  split at hc
  ·split at hc
   ·rename_i inf hi;split at hc
    ·rename_i zv hz; exact e1j hi hz hc h
    ·cases hc
   ·cases hc
  ·cases hc
 case box =>
  split at hc
  ·exact e9s hc h
  ·cases hc
 case build =>
  split at hc
  ·split at hc
   ·rename_i places inf hp hi;split at hc
    ·rename_i zv hz;simp only [Bool.and_eq_true] at hc;exact e3o hp hi hz hc.1.1 hc.1.2 hc.2 h
    ·cases hc
   ·cases hc
  ·cases hc
 case bsl =>
  split at hc
  ·split at hc
   ·rename_i e inf he;obtain ⟨q1,q2⟩:=a1b he;simp only [Bool.and_eq_true,beq_iff_eq,decide_eq_true_eq,bne_iff_ne,ne_eq] at hc;obtain ⟨⟨⟨⟨⟨h1,h2⟩,h3⟩,h4⟩,h5⟩,h6⟩:=hc;obtain ⟨zv,hz⟩:=Option.isSome_iff_exists.1 h2;exact e8z q1 q2 h1 hz h3 h4 h5 h6 h
   ·cases hc
  ·cases hc
 case load =>
  split at hc
  ·simp only [Bool.and_eq_true,beq_iff_eq] at hc; exact e5v hc.1 hc.2 h
  ·cases hc
 case store =>
  split at hc
  ·simp only [Bool.and_eq_true,beq_iff_eq] at hc; exact e3i hc.1.1 hc.1.2 hc.2 h
  ·cases hc
 case fad =>
  split at hc
  ·simp only [Bool.and_eq_true] at hc;obtain ⟨h1,h2⟩:=hc;split at h1
   ·rename_i o t hf; simp at h1; subst h1; exact e8o hf h2 h
   ·cases h1
  ·cases hc
 case fld =>
  split at hc
  ·simp only [Bool.and_eq_true] at hc;obtain ⟨h1,h2⟩:=hc;split at h1
   ·rename_i o t hf; simp only [Bool.and_eq_true,beq_iff_eq] at h1; obtain ⟨rfl,h1⟩:=h1; exact e8m hf h1 h2 h
   ·cases h1
  ·cases hc
 case iad =>
  split at hc
  ·simp only [Bool.and_eq_true] at hc;obtain ⟨⟨h1,h2⟩,h3⟩:=hc;split at h1
   ·rename_i e inf he;obtain ⟨q1,q2⟩:=a1b he;exact e7t q1 q2 (by simpa using h1) h2 h3 h
   ·cases h1
  ·cases hc
 case ixs =>
  split at hc
  ·simp only [Bool.and_eq_true] at hc; exact e8d (a3f hc.1.1) hc.1.2 hc.2 h
  ·cases hc
 case slc =>
  split at hc
  ·simp only [Bool.and_eq_true] at hc;obtain ⟨⟨⟨⟨h1,h2⟩,h3⟩,h4⟩,h5⟩:=hc;split at h1
   ·rename_i e inf he;obtain ⟨q1,q2⟩:=a1b he;exact e8b q1 q2 (by simpa using h1) h2 h3 h4 h5 h
   ·cases h1
  ·cases hc
 case sls =>
  split at hc
  ·simp only [Bool.and_eq_true] at hc;exact e9d (a3f hc.1.1.1) hc.1.1.2 hc.1.2 hc.2 h
  ·cases hc
 case ext =>
  split at hc
  ·simp only [Bool.and_eq_true,beq_iff_eq] at hc; obtain ⟨rfl,h1⟩:=hc; exact e7z h1 h
  ·cases hc
 case mkf =>
  split at hc
  ·simp only [Bool.and_eq_true,beq_iff_eq] at hc; obtain ⟨⟨rfl,h1⟩,h2⟩:=hc; exact e8g h1 h2 h
  ·cases hc
 case mks =>
  split at hc
  ·split at hc
   ·rename_i e inf he;obtain ⟨q1,q2⟩:=a1b he;split at hc
    ·rename_i zv hz;simp only [Bool.and_eq_true,beq_iff_eq] at hc;obtain ⟨⟨⟨⟨⟨h1,h2⟩,h3⟩,h4⟩,h5⟩,h6⟩:=hc;exact e7x q1 q2 h1 h2 hz h3 h4 h5 h6 h
    ·cases hc
   ·cases hc
  ·cases hc
 case nck =>
  split at hc
  ·exact e8v hc h
  ·cases hc
 case len str x =>
  split at hc
  ·rename_i args ts;split at hc
   ·rename_i x' t ha hts;simp only [Bool.and_eq_true] at hc;have e1:args=#[x']:=by apply Array.ext'; simpa using ha
    have e2:ts=#[t]:=by apply Array.ext'; simpa using hts
    subst e1; subst e2;refine e9m ?_ hc.2 h;cases str
    ·simp only [Bool.false_eq_true,if_false] at hc ⊢;obtain ⟨⟨e,inf⟩,he⟩:=Option.isSome_iff_exists.1 hc.1;exact ⟨e,(a1b he).1⟩
    ·simp only [if_true] at hc ⊢; exact a3f hc.1
   ·cases hc
  ·cases hc
 case mnx mx x ys =>
  split at hc
  ·rename_i b args ts;simp only [Bool.and_eq_true] at hc;obtain ⟨h1,h2⟩:=hc;split at h2
   ·rename_i x' ys' ha;simp only [Bool.and_eq_true] at h2;have e1:args=(x'::ys').toArray:=by apply Array.ext'; simpa using ha
    subst e1;have e2:b=if mx then .max else .min:=by simpa using h1
    subst e2;exact e8w h2.1 h2.2 h
   ·cases h2
  ·cases hc
 case app =>
  split at hc
  ·rename_i args ts;split at hc
   ·rename_i x' y' t tx ha hts;have e1:args=#[x',y']:=by apply Array.ext'; simpa using ha
    have e2:ts=#[t,tx]:=by apply Array.ext'; simpa using hts
    subst e1; subst e2;split at hc
    ·rename_i e inf he;obtain ⟨q1,q2⟩:=a1b he;split at hc
     ·rename_i zv hz;simp only [Bool.and_eq_true,beq_iff_eq,decide_eq_true_eq] at hc;obtain ⟨⟨⟨⟨⟨⟨⟨h1,h2⟩,h3⟩,h4⟩,h8⟩,h5⟩,h6⟩,h7⟩:=hc;have hk:(∃ e',P.underlying tx=some (.slice e'))∨P.underlying tx=some .string:=by
       rcases (Bool.or_eq_true _ _).mp h5 with h5 | h5
       ·obtain ⟨⟨e',inf'⟩,he'⟩:=Option.isSome_iff_exists.1 h5; exact .inl ⟨e',(a1b he').1⟩
       ·exact .inr (a3f h5)
      exact e8n q1 hk q2 h1 h2 h3 hz h4 h8 h6 h7 h
     ·cases hc
    ·cases hc
   ·cases hc
  ·cases hc
 case cpy =>
  split at hc
  ·rename_i args ts;split at hc
   ·rename_i x' y' t tx ha hts;have e1:args=#[x',y']:=by apply Array.ext'; simpa using ha
    have e2:ts=#[t,tx]:=by apply Array.ext'; simpa using hts
    subst e1; subst e2;simp only [Bool.and_eq_true] at hc;obtain ⟨⟨⟨h1,h2⟩,h3⟩,h4⟩:=hc;obtain ⟨⟨e',inf'⟩,he'⟩:=Option.isSome_iff_exists.1 h2;split at h1
    ·rename_i e inf he;obtain ⟨q1,q2⟩:=a1b he;exact e7e q1 ⟨e',(a1b he').1⟩ q2 (by simpa using h1) h3 h4 h
    ·cases h1
   ·cases hc
  ·cases hc
 case call pure f args =>
  split at hc
  ·simp only [Bool.and_eq_true] at hc;cases pure
   ·exact e1i hc.1 hc.2 h
   ·exact e2g hc.1 hc.2 h
  ·cases hc
 case mki =>
  split at hc
  ·simp only [Bool.and_eq_true,beq_iff_eq] at hc;obtain ⟨⟨rfl,h1⟩,h2⟩:=hc;exact e9i (b7w h1) h2 h
  ·cases hc
 case mkm =>
  split at hc
  ·exact e7j h
  ·cases hc
 case mlk =>
  split at hc
  ·split at hc
   ·rename_i kt e hm;simp only [Bool.and_eq_true,beq_iff_eq] at hc;obtain ⟨⟨⟨⟨h1,h2⟩,rfl⟩,h4⟩,h5⟩:=hc;split at h2
    ·rename_i i hi;split at h2
     ·rename_i zv hz; exact e9h (a5d hm) (a9b h1) hi hz h2 h4 h5 h
     ·cases h2
    ·cases h2
   ·cases hc
  ·cases hc
 case mup =>
  split at hc
  ·split at hc
   ·rename_i kt e hm;simp only [Bool.and_eq_true] at hc;exact e9e (a5d hm) (a9b hc.1.1.1) hc.1.1.2 hc.1.2 hc.2 h
   ·cases hc
  ·cases hc
 case men =>
  split at hc
  ·split at hc
   ·rename_i kt e hm;simp only [Bool.and_eq_true] at hc;obtain ⟨⟨⟨h1,h2⟩,h4⟩,h5⟩:=hc;split at h2
    ·rename_i i hi;split at h2
     ·rename_i zv hz; exact e9b (a5d hm) (a9b h1) hi hz h2 h4 h5 h
     ·cases h2
    ·cases h2
   ·cases hc
  ·cases hc
 case mes =>
  split at hc
  ·simp only [Bool.and_eq_true] at hc;exact e9r hc.1.1.2 hc.1.2 hc.2 h
  ·cases hc
 case mkd =>
  split at hc
  ·exact e7s h
  ·cases hc
 case mdl =>
  split at hc
  ·rename_i args ts;split at hc
   ·rename_i x' k' t t' ha hts;have e1:args=#[x',k']:=by apply Array.ext'; simpa using ha
    have e2:ts=#[t,t']:=by apply Array.ext'; simpa using hts
    subst e1; subst e2;split at hc
    ·rename_i kt e hm;simp only [Bool.and_eq_true,beq_iff_eq] at hc;obtain ⟨⟨⟨rfl,h1⟩,h2⟩,h3⟩:=hc;exact e8p (a5d hm) (a9b h1) h2 h3 h
    ·cases hc
   ·cases hc
  ·cases hc
 case ent =>
  split at hc
  ·exact e7i hc h
  ·cases hc
 case rng =>
  split at hc
  ·simp only [Bool.and_eq_true] at hc;obtain ⟨p,hp⟩:=Option.isSome_iff_exists.1 hc.1;exact e9n (a5d hp) hc.2 h
  ·cases hc
 case mln =>
  split at hc
  ·rename_i args ts;split at hc
   ·rename_i x' t ha hts;have e1:args=#[x']:=by apply Array.ext'; simpa using ha
    have e2:ts=#[t]:=by apply Array.ext'; simpa using hts
    subst e1; subst e2;simp only [Bool.and_eq_true] at hc;obtain ⟨p,hp⟩:=Option.isSome_iff_exists.1 hc.1;exact e7h (a5d hp) hc.2 h
   ·cases hc
  ·cases hc
 case cap x =>
  split at hc
  ·rename_i args ts;split at hc
   ·rename_i x' t ha hts;have e1:args=#[x']:=by apply Array.ext'; simpa using ha
    have e2:ts=#[t]:=by apply Array.ext'; simpa using hts
    subst e1; subst e2;simp only [Bool.and_eq_true] at hc;obtain ⟨⟨e,inf⟩,he⟩:=Option.isSome_iff_exists.1 hc.1;exact e9c (a1b he).1 hc.2 h
   ·cases hc
  ·cases hc
 case apz sz bt z x y =>
  split at hc
  ·rename_i args ts;split at hc
   ·rename_i x' y' t tx ha hts;have e1:args=#[x',y']:=by apply Array.ext'; simpa using ha
    have e2:ts=#[t,tx]:=by apply Array.ext'; simpa using hts
    subst e1; subst e2;split at hc
    ·rename_i e inf he;obtain ⟨q1,q2⟩:=a1b he;split at hc
     ·rename_i zv hz;simp only [Bool.and_eq_true,beq_iff_eq,decide_eq_true_eq] at hc;obtain ⟨⟨⟨⟨⟨⟨⟨⟨⟨h1,h2⟩,h3⟩,h4⟩,h5⟩,h6⟩,h7⟩,h8⟩,h9⟩,h10⟩:=hc;exact e8u q1 (b2d h8) q2 h1 h2 h3 h4 hz h5 h6 h7 h9 h10 h
     ·cases hc
    ·cases hc
   ·cases hc
  ·cases hc
 case xcl f args =>
  split at hc
  ·simp only [Bool.and_eq_true,beq_iff_eq] at hc;obtain ⟨rfl,h2⟩:=hc;exact e8x h2 h
  ·cases hc
end Go.Proofs.YtgdhbegaejmljaaGreatDoor.Ev
