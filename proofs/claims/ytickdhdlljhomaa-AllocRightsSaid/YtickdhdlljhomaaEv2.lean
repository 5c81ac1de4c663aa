/-
  The compact code and its evaluator: what a region, a branch, a loop make of abstract values, as a condition on what comes of it.
-/
import Derived.Test.YtickdhdlljhomaaEv1
namespace Go.Proofs.Ytickdhdlljhomaa.Ev
open Go

inductive Src where
  | r (k : Nat)
  | v (t : Nat)
  | k (c : V)

/-- Kinds of nil. -/
inductive NK where
  | p | s | m | f | i
  deriving DecidableEq

inductive Ins where
  | mov (x : Src)
  | pick (c x y : Src)
  | bin (op : BinOp) (x y : Src)
  | eqb (neg : Bool) (x y : Src)
  | eqn (neg : Bool) (kd : NK) (x : Src)
  | un (op : UnOp) (x : Src)
  | cvt (k : IntKind) (x : Src)
  | bts (x : Src)
  | stb (x : Src)
  | same (x : Src)
  | alloc (sz : Nat) (z : V)
  | box (sz : Nat) (x : Src)
  | build (z : List V) (ps : List (Nat × Nat × Src))
  | bsl (sz : Nat) (ps : List Src)
  | load (k : Option Nat) (a : Src)
  | store (k : Option Nat) (a x : Src)
  | fad (off : Nat) (x : Src)
  | fld (off : Nat) (k : Option Nat) (x : Src)
  | iad (sz : Nat) (x i : Src)
  | ixs (x i : Src)
  | slc (sz : Nat) (x : Src) (lo hi mx : Option Src)
  | sls (x : Src) (lo hi : Option Src)
  | ext (x : Src) (i : Nat)
  | mkf (f : Nat) (fs cs : List Src)
  | mks (sz bt : Nat) (z : V) (l : Src)
  | nck (x : Src)
  | len (str : Bool) (x : Src)
  | mnx (mx : Bool) (x : Src) (ys : List Src)
  | app (sz bt : Nat) (x y : Src)
  | cpy (sz : Nat) (x y : Src)
  | call (pure : Bool) (f : Src) (args : List Src)
  | mki (t : Nat) (x : Src)

structure RI where
  i : Ins
  g : Option (Nat × Bool) := none
  u : List Nat := []

inductive C where
  | reg (draw : Bool) (is : List RI) (outs : List (Nat × Src))
  | seq (a b : C)
  | cut (a b : C)
  | cond (s : Src) (a b : C)
  | block (id : Nat) (a : C)
  | loop (a : C)
  | exit (id : Nat)
  | ret
  | skip
  | frz (a : C)

/-- The abstract heap: the next name, and what the names stand for. -/
structure Hp where
  n : Nat
  m : Hm

def upd (m : Hm) (id : Nat) (o : Option Ob) : Hm := fun i => if i = id then o else m i
def appd : List (Nat × Option Ob) → Hm → Hm
  | [], m => m
  | (id, o) :: ds, m => appd ds (upd m id o)

abbrev Sg := List (Nat × V)
def find (t : Nat) : Sg → Option V
  | [] => none
  | (t', v) :: r => if t = t' then some v else find t r
def nth : Nat → List V → Option V
  | _, [] => none
  | 0, v :: _ => some v
  | n + 1, _ :: r => nth n r

def look (σ : Sg) (env : List V) : Src → Option V
  | .r k => nth k env
  | .v t => find t σ
  | .k c => some c

abbrev KI := V → List Nat → List (Nat × Option Ob) → Nat → Prop

def wv (o : Option V) (K : V → Prop) : Prop := match o with | some v => K v | none => False
def wvs (L : Src → Option V) : List Src → (List V → Prop) → Prop
  | [], K => K []
  | s :: ss, K => wv (L s) fun v => wvs L ss fun vs => K (v :: vs)
def wo (L : Src → Option V) : Option Src → (Option V → Prop) → Prop
  | none, K => K none
  | some s, K => wv (L s) fun v => K (some v)

/-- What bits of whole numbers make, as the machine says. -/
def bits2 (op : BinOp) (k : IntKind) (x y : Int) : Int :=
  k.wrap (match op with
    | .and => (BitVec.ofInt k.bits x &&& BitVec.ofInt k.bits y).toNat
    | .or => (BitVec.ofInt k.bits x ||| BitVec.ofInt k.bits y).toNat
    | .xor => (BitVec.ofInt k.bits x ^^^ BitVec.ofInt k.bits y).toNat
    | _ => (BitVec.ofInt k.bits x &&& ~~~BitVec.ofInt k.bits y).toNat)

def intBin (op : BinOp) (k : IntKind) (a : Int) (k' : IntKind) (b : Int) (K : V → Prop) : Prop :=
  match op with
  | .shl => 0 ≤ b ∧ K (.int k (k.wrap (a * 2 ^ min b.toNat k.bits)))
  | .shr => 0 ≤ b ∧ K (.int k (a.fdiv (2 ^ min b.toNat k.bits)))
  | .add => k = k' ∧ K (.int k (k.wrap (a + b)))
  | .sub => k = k' ∧ K (.int k (k.wrap (a - b)))
  | .mul => k = k' ∧ K (.int k (k.wrap (a * b)))
  | .quo => k = k' ∧ b ≠ 0 ∧ K (.int k (k.wrap (a.tdiv b)))
  | .rem => k = k' ∧ b ≠ 0 ∧ K (.int k (a.tmod b))
  | .and => k = k' ∧ K (.int k (bits2 .and k a b))
  | .or => k = k' ∧ K (.int k (bits2 .or k a b))
  | .xor => k = k' ∧ K (.int k (bits2 .xor k a b))
  | .andNot => k = k' ∧ K (.int k (bits2 .andNot k a b))
  | .eql => k = k' ∧ K (.bool (a == b))
  | .neq => k = k' ∧ K (.bool (a != b))
  | .lss => k = k' ∧ K (.bool (decide (a < b)))
  | .leq => k = k' ∧ K (.bool (decide (a ≤ b)))
  | .gtr => k = k' ∧ K (.bool (decide (a > b)))
  | .geq => k = k' ∧ K (.bool (decide (a ≥ b)))

def strBin (op : BinOp) (a b : List UInt8) (K : V → Prop) : Prop :=
  match op with
  | .add => a.length + b.length ≤ 9223372036854775807 ∧ K (.str (a ++ b))
  | .eql => K (.bool (a == b))
  | .neq => K (.bool !(a == b))
  | .lss => K (.bool (Op.bytesLess a b))
  | .leq => K (.bool (Op.bytesLess a b || a == b))
  | .gtr => K (.bool !(Op.bytesLess a b || a == b))
  | .geq => K (.bool !(Op.bytesLess a b))
  | _ => False

def evBin (op : BinOp) (x y : V) (K : V → Prop) : Prop :=
  match x, y with
  | .int k a, .int k' b => intBin op k a k' b K
  | .str a, .str b => strBin op a b K
  | _, _ => False

/-- Is it nil? -/
def isNil : NK → V → Option Bool
  | .p, .nilp => some true
  | .p, .ptr _ _ _ => some false
  | .p, .fptr _ _ => some false
  | .f, .nilf => some true
  | .f, .fn _ _ _ => some false
  | .i, .nili => some true
  | .i, .ifc _ _ => some false
  | .m, .nilm => some true
  | .m, .map _ => some false
  | .s, .sl _ _ _ => some false
  | .s, .fsl st _ l => (match st with
    | .nil => some true
    | .nn => some false
    | _ => (match l with | _ :: _ => some false | [] => none))
  | _, _ => none

def getC : Option Nat → Nat → V → Option V
  | none, off, .agg l => l[off]?
  | none, 0, v => if v.cell then some v else none
  | some n, off, .agg l => if off + n ≤ l.length then some (.agg ((l.drop off).take n)) else none
  | _, _, _ => none

def setC : Option Nat → Nat → V → V → Option V
  | none, off, .agg l, x => if off < l.length ∧ x.cell = true then some (.agg (l.set off x)) else none
  | none, 0, v, x => if v.cell = true ∧ x.cell = true then some x else none
  | some n, off, .agg l, .agg y => if y.length = n ∧ off + n ≤ l.length then some (.agg (l.take off ++ y ++ l.drop (off + n))) else none
  | _, _, _, _ => none

def V.parts : V → List V
  | .agg l => l
  | v => [v]

def splice (cs : List V) (off : Nat) (l : List V) : List V := cs.take off ++ l ++ cs.drop (off + l.length)

def evBuild (L : Src → Option V) : List V → List (Nat × Nat × Src) → (V → Prop) → Prop
  | z, [], K => K (.agg z)
  | z, (off, sz, s) :: ps, K => wv (L s) fun v => v.size = sz ∧ v.parts.all V.cell = true ∧ off + sz ≤ z.length ∧ evBuild L (splice z off v.parts) ps K

def slSt (st : St) (len hi : Nat) (mx : Option Nat) : St :=
  match st with
  | .nil => .nil
  | .full => (match mx with | some m => if m = hi then .full else .loose | none => if hi = len then .full else .loose)
  | .loose => (match mx with | some m => if m = hi then .full else .loose | none => .loose)
  | .nn => .loose

/-- A bound of a slice expression. -/
def bnd (d : Nat) (o : Option V) (K : Nat → Prop) : Prop :=
  match o with
  | none => K d
  | some (.int _ n) => 0 ≤ n ∧ K n.toNat
  | _ => False

def evSlc (sz : Nat) (x : V) (lo hi mx : Option V) (K : V → Prop) : Prop :=
  match x with
  | .fsl st sz' l => sz' = sz ∧ bnd 0 lo fun a => bnd l.length hi fun b =>
      match mx with
      | none => a ≤ b ∧ b ≤ l.length ∧ K (.fsl (slSt st l.length b none) sz ((l.take b).drop a))
      | some (.int _ c) => 0 ≤ c ∧ hi ≠ none ∧ a ≤ b ∧ b ≤ c.toNat ∧ c.toNat ≤ l.length ∧ K (.fsl (slSt st l.length b (some c.toNat)) sz ((l.take b).drop a))
      | _ => False
  | .sl id off len =>
      match mx with
      | none => bnd 0 lo fun a => bnd len hi fun b => a ≤ b ∧ b ≤ len ∧ K (.sl id (off + a) (b - a))
      | some v => (∃ k, v = .int k 0) ∧ bnd 0 lo fun a => bnd 1 hi fun b => a = 0 ∧ b = 0 ∧ K (.fsl .full sz [])
  | _ => False

def evSls (x : V) (lo hi : Option V) (K : V → Prop) : Prop :=
  match x with
  | .str s => bnd 0 lo fun a => bnd s.length hi fun b => a ≤ b ∧ b ≤ s.length ∧ K (.str ((s.take b).drop a))
  | _ => False

def mnxV (mx : Bool) (x : V) : List V → (V → Prop) → Prop
  | [], K => K x
  | .int k b :: ys, K => (match x with | .int k' a => k' = k ∧ mnxV mx (.int k (if mx then (if b > a then b else a) else (if b < a then b else a))) ys K | _ => False)
  | _ :: _, _ => False

/-- What a slice holds. -/
def rd (m : Hm) : V → Option (Nat × List V)
  | .fsl _ sz l => some (sz, l)
  | .sl id off len => match m id with | some (.arr sz l) => if off + len ≤ l.length then some (sz, (l.drop off).take len) else none | _ => none
  | _ => none
def fpS : V → List Nat
  | .sl id _ _ => [id]
  | _ => []

/-- A function with a text of its own. -/
def HasBody (P : Program) (f : Nat) : Prop := ∃ fn, P.funcs[f]? = some fn ∧ fn.body.isSome = true ∧ (fn.name == "runtime.NumGoroutine") = false

def PCall (P : Program) (f : Nat) (vs : List V) (r : V) : Prop :=
  HasBody P f ∧ ∀ (m : Hm) (g : G) (w : World) (xs : Array Value), RS g m w → RC g vs xs.toList →
    Calls P f xs w fun e w' => ∃ x F', e = .returned x ∧ R ⟨g.ι, F'⟩ r x ∧ RS ⟨g.ι, F'⟩ m w' ∧ Ext g m w ⟨g.ι, F'⟩ m w'

/-- The names from n on, so many, are free. -/
def Fresh (g : G) (m : Hm) (n k : Nat) : Prop := ∀ id, n ≤ id → id < n + k → g.ι id = none ∧ m id = none
def IExt (g g' : G) (n k : Nat) : Prop := ∀ id, ¬ (n ≤ id ∧ id < n + k) → g'.ι id = g.ι id

def ACall (P : Program) (f : Nat) (vs : List V) (H : Hp) (fp : List Nat) (r : V) (ds : List (Nat × Option Ob)) (k : Nat) : Prop :=
  HasBody P f ∧ (∀ p ∈ ds, p.1 ∈ fp ∨ (H.n ≤ p.1 ∧ p.1 < H.n + k)) ∧
  ∀ (m : Hm) (g : G) (w : World) (xs : Array Value), (∀ id ∈ fp, m id = H.m id) → Fresh g m H.n k → RS g m w → RC g vs xs.toList →
    Calls P f xs w fun e w' => ∃ x g', e = .returned x ∧ R g' r x ∧ RS g' (appd ds m) w' ∧ IExt g g' H.n k ∧ Ext g m w g' (appd ds m) w'

def evI (P : Program) (L : Src → Option V) (H : Hp) (K : KI) : Ins → Prop
  | .mov x => wv (L x) fun v => K v [] [] 0
  | .same x => wv (L x) fun v => match v with
    | .str s => K (.str s) [] [] 0
    | _ => False
  | .pick c x y => wv (L c) fun c => match c with
    | .bool true => wv (L x) fun v => K v [] [] 0
    | .bool false => wv (L y) fun v => K v [] [] 0
    | _ => False
  | .bin op x y => wv (L x) fun a => wv (L y) fun b => evBin op a b fun v => K v [] [] 0
  | .eqb neg x y => wv (L x) fun a => wv (L y) fun b => match a, b with
    | .bool a, .bool b => K (.bool (if neg then !(a == b) else a == b)) [] [] 0
    | _, _ => False
  | .eqn neg kd x => wv (L x) fun a => match isNil kd a with
    | some b => K (.bool (if neg then !b else b)) [] [] 0
    | none => False
  | .un op x => wv (L x) fun a => match op, a with
    | .not, .bool b => K (.bool !b) [] [] 0
    | .neg, .int k n => K (.int k (k.wrap (0 - n))) [] [] 0
    | .xor, .int k n => K (.int k (bits2 .xor k (if k.signed then -1 else k.max) n)) [] [] 0
    | _, _ => False
  | .cvt k x => wv (L x) fun a => match a with
    | .int _ n => K (.int k (k.wrap n)) [] [] 0
    | _ => False
  | .bts x => wv (L x) fun a => match rd H.m a with
    | some (sz, l) => sz = 1 ∧ ∃ s : List UInt8, l = s.map (fun b => .int .u8 b.toNat) ∧ K (.str s) (fpS a) [] 0
    | none => False
  | .stb x => wv (L x) fun a => match a with
    | .str s => K (.fsl .loose 1 (s.map fun b => .int .u8 b.toNat)) [] [] 0
    | _ => False
  | .alloc sz z => z.size = sz ∧ z.isEl = true ∧ K (.ptr H.n 0 0) [] [(H.n, some (.arr sz [z]))] 1
  | .box sz x => wv (L x) fun v => v.size = sz ∧ v.isEl = true ∧ K (.ptr H.n 0 0) [] [(H.n, some (.arr sz [v]))] 1
  | .build z ps => evBuild L z ps fun v => K v [] [] 0
  | .bsl sz ps => wvs L ps fun vs => (∀ v ∈ vs, v.size = sz ∧ v.isEl = true) ∧ K (.fsl .full sz vs) [] [] 0
  | .load k a => wv (L a) fun a => match a with
    | .fptr e off => wv (getC k off e) fun v => K v [] [] 0
    | .ptr id i off => (match H.m id with
      | some (.arr _ l) => wv (l[i]?) fun e => wv (getC k off e) fun v => K v [id] [] 0
      | _ => False)
    | _ => False
  | .store k a x => wv (L a) fun a => wv (L x) fun x => match a with
    | .ptr id i off => (match H.m id with
      | some (.arr sz l) => wv (l[i]?) fun e => wv (setC k off e x) fun e' => K (.tup []) [id] [(id, some (.arr sz (l.set i e')))] 0
      | _ => False)
    | _ => False
  | .fad off x => wv (L x) fun a => match a with
    | .fptr e o => K (.fptr e (o + off)) [] [] 0
    | .ptr id i o => K (.ptr id i (o + off)) [] [] 0
    | _ => False
  | .fld off k x => wv (L x) fun a => match a with
    | .agg l => wv (getC k off (.agg l)) fun v => K v [] [] 0
    | _ => False
  | .iad sz x i => wv (L x) fun a => wv (L i) fun i => match i with
    | .int _ n => (match a with
      | .fsl _ sz' l => sz' = sz ∧ 0 ≤ n ∧ ∃ e, l[n.toNat]? = some e ∧ K (.fptr e 0) [] [] 0
      | .sl id off len => 0 ≤ n ∧ n < len ∧ (match H.m id with | some (.arr sz' _) => sz' = sz ∧ K (.ptr id (off + n.toNat) 0) [id] [] 0 | _ => False)
      | _ => False)
    | _ => False
  | .ixs x i => wv (L x) fun a => wv (L i) fun i => match a, i with
    | .str s, .int _ n => 0 ≤ n ∧ ∃ b, s[n.toNat]? = some b ∧ K (.int .u8 b.toNat) [] [] 0
    | _, _ => False
  | .slc sz x lo hi mx => wv (L x) fun a => wo L lo fun lo => wo L hi fun hi => wo L mx fun mx =>
      match a with
      | .sl id off len => (match H.m id with | some (.arr sz' _) => sz' = sz ∧ evSlc sz (.sl id off len) lo hi mx fun v => K v [id] [] 0 | _ => False)
      | a => evSlc sz a lo hi mx fun v => K v [] [] 0
  | .sls x lo hi => wv (L x) fun a => wo L lo fun lo => wo L hi fun hi => evSls a lo hi fun v => K v [] [] 0
  | .ext x i => wv (L x) fun a => match a with
    | .tup l => wv (l[i]?) fun v => K v [] [] 0
    | _ => False
  | .mkf f fs cs => wvs L fs fun fs => wvs L cs fun cs => K (.fn f fs cs) [] [] 0
  | .mks sz bt z l => wv (L l) fun l => match l with
    | .int .i64 n => 0 ≤ n ∧ n ≤ 9223372036854775807 ∧ bt * n ≤ 281474976710656 ∧ z.size = sz ∧ z.isEl = true ∧ K (.sl H.n 0 n.toNat) [] [(H.n, some (.arr sz (List.replicate n.toNat z)))] 1
    | _ => False
  | .nck x => wv (L x) fun a => match a with
    | .ptr .. | .fptr .. => K a [] [] 0
    | _ => False
  | .len str x => wv (L x) fun a => match str, a with
    | true, .str s => K (.int .i64 s.length) [] [] 0
    | false, .fsl _ _ l => K (.int .i64 l.length) [] [] 0
    | false, .sl _ _ len => K (.int .i64 len) [] [] 0
    | _, _ => False
  | .mnx mx x ys => wv (L x) fun x => wvs L ys fun ys => (∃ k n, x = .int k n) ∧ mnxV mx x ys fun v => K v [] [] 0
  | .app sz bt x y => wv (L x) fun x => wv (L y) fun y => match rd H.m y with
    | none => False
    | some (sz', ys) => sz' = sz ∧ (match x with
      | .fsl st sz'' l => sz'' = sz ∧ (match ys with
        | [] => K x (fpS y) [] 0
        | ys => (st ≠ .loose ∧ st ≠ .nn) ∧ (l.length + ys.length) * bt ≤ 140737488355328 ∧ K (.sl H.n 0 (l.length + ys.length)) (fpS y) [(H.n, some (.arr sz (l ++ ys)))] 1)
      | .sl id off len => (match H.m id with
        | some (.arr sz'' l) => sz'' = sz ∧ off = 0 ∧ len ≤ l.length ∧ (len + ys.length) * bt ≤ 140737488355328 ∧ K (.sl H.n 0 (len + ys.length)) (id :: fpS y) [(id, none), (H.n, some (.arr sz (l.take len ++ ys)))] 1
        | _ => False)
      | _ => False)
  | .cpy sz x y => wv (L x) fun x => wv (L y) fun y => match rd H.m y with
    | none => False
    | some (sz', ys) => sz' = sz ∧ (match x with
      | .sl id off len => (match H.m id with
        | some (.arr sz'' l) => sz'' = sz ∧ off + len ≤ l.length ∧
            K (.int .i64 ((min ys.length len : Nat) : Int)) (id :: fpS y) [(id, some (.arr sz (l.take off ++ ys.take len ++ l.drop (off + min ys.length len))))] 0
        | _ => False)
      | .fsl _ _ [] => K (.int .i64 0) (fpS y) [] 0
      | _ => False)
  | .call pure f args => wv (L f) fun f => wvs L args fun vs => match f with
    | .fn f fs cs => if pure = true then ∃ r, PCall P f (fs ++ vs ++ cs) r ∧ K r [] [] 0
        else ∃ fp r ds k, ACall P f (fs ++ vs ++ cs) H fp r ds k ∧ K r fp ds k
    | _ => False
  | .mki t x => wv (L x) fun v => K (.ifc t v) [] [] 0

/-- 0: it touches nothing; 1: it reads; 2: it may write. -/
def Ins.kind : Ins → Nat
  | .bts _ | .load _ _ | .iad _ _ _ | .slc _ _ _ _ _ => 1
  | .alloc _ _ | .box _ _ | .store _ _ _ | .mks _ _ _ _ | .app _ _ _ _ | .cpy _ _ _ | .call false _ _ => 2
  | _ => 0

def disj (a b : List Nat) : Bool := a.all fun x => !b.contains x
abbrev Lg := List (List Nat × List Nat)
def nthL : Nat → Lg → List Nat × List Nat
  | _, [] => ([], [])
  | 0, v :: _ => v
  | n + 1, _ :: r => nthL n r
/-- What an operation touches and writes does not meet what an earlier one, that may come behind it too, writes and touches. -/
def compat (u : List Nat) (lg : Lg) (fp : List Nat) (ds : List Nat) : Prop :=
  ∀ j ∈ u, disj (nthL j lg).2 (fp ++ ds) = true ∧ disj ds ((nthL j lg).1 ++ (nthL j lg).2) = true

def evR (P : Program) (σ : Sg) : List RI → List V → Lg → Hp → (List V → Hp → Prop) → Prop
  | [], env, _, H, K => K env H
  | i :: is, env, lg, H, K =>
    let run : Prop := evI P (look σ env) H (fun v fp ds k => compat i.u lg fp (ds.map (·.1)) ∧ evR P σ is (v :: env) ((fp, ds.map (·.1)) :: lg) ⟨H.n + k, appd ds H.m⟩ K) i.i
    let pass : Prop := evR P σ is (.tup [] :: env) (([], []) :: lg) H K
    match i.g with
    | none => run
    | some (d, b) => match nth d env with
      | some (.bool c) => if c = b then run else pass
      | _ => pass

inductive AEx where
  | norm | exit (id : Nat) | ret
  deriving DecidableEq

abbrev QA := AEx → Sg → Hp → Prop

def outsE (L : Src → Option V) : List (Nat × Src) → (Sg → Prop) → Prop
  | [], K => K []
  | (t, s) :: os, K => wv (L s) fun v => outsE L os fun σ => K ((t, v) :: σ)

def mapO (f : V → Option V) : List V → Option (List V)
  | [] => some []
  | v :: vs => match f v with | some u => (match mapO f vs with | some us => some (u :: us) | none => none) | none => none

/-- A value with what it hangs on told in full. -/
def snap : Nat → Hm → V → Option V
  | 0, _, v => if v.closed = true then some v else none
  | n + 1, m, v => if v.closed = true then some v else match v with
    | .sl id off len => (match m id with
      | some (.arr sz l) => if off + len ≤ l.length then (match mapO (snap n m) ((l.drop off).take len) with | some l' => some (.fsl .loose sz l') | none => none) else none
      | _ => none)
    | .agg l => (match mapO (snap n m) l with | some l' => some (.agg l') | none => none)
    | .tup l => (match mapO (snap n m) l with | some l' => some (.tup l') | none => none)
    | .fsl st sz l => (match mapO (snap n m) l with | some l' => some (.fsl st sz l') | none => none)
    | _ => none

/-- The heap of these names alone; without them. -/
def only (fz : List Nat) (m : Hm) : Hm := fun id => if id ∈ fz then m id else none
def without (fz : List Nat) (m : Hm) : Hm := fun id => if id ∈ fz then none else m id
def frzV (fz : List Nat) (m : Hm) (v : V) : V := match snap 4 (only fz m) v with | some u => u | none => v
def frzS (fz : List Nat) (m : Hm) : Sg → Sg
  | [] => []
  | (t, v) :: r => (t, frzV fz m v) :: frzS fz m r

def ev (P : Program) : C → Sg → Hp → QA → Prop
  | .reg _ is outs, σ, H, Q => evR P σ is [] [] H fun env H' => outsE (look σ env) outs fun σ' => Q .norm σ' H'
  | .seq a b, σ, H, Q => ev P a σ H fun e σ' H' => match e with | .norm => ev P b σ' H' Q | e => Q e σ' H'
  | .cut a b, σ, H, Q => ∃ M : Sg → Hp → Prop, (ev P a σ H fun e σ' H' => match e with | .norm => M σ' H' | e => Q e σ' H') ∧ ∀ σ' H', M σ' H' → ev P b σ' H' Q
  | .cond s a b, σ, H, Q => match look σ [] s with
    | some (.bool t) => (t = true → ev P a σ H Q) ∧ (t = false → ev P b σ H Q)
    | _ => False
  | .block id a, σ, H, Q => ev P a σ H fun e σ' H' => if e = .exit id then Q .norm σ' H' else Q e σ' H'
  | .loop a, σ, H, Q => ∃ (I : Sg → Hp → Prop) (μ : Sg → Hp → Nat), I σ H ∧ ∀ σ H, I σ H → ev P a σ H fun e σ' H' => match e with
    | .norm => I σ' H' ∧ μ σ' H' < μ σ H
    | e => Q e σ' H'
  | .exit id, σ, H, Q => Q (.exit id) σ H
  | .ret, σ, H, Q => Q .ret σ H
  | .skip, σ, H, Q => Q .norm σ H
  | .frz a, σ, H, Q => ev P a σ H Q ∨ ∃ fz : List Nat, ev P a (frzS fz H.m σ) ⟨H.n, without fz H.m⟩ Q

end Go.Proofs.Ytickdhdlljhomaa.Ev
