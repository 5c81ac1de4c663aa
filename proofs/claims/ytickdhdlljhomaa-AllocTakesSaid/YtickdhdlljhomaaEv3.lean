/-
  The operations that leave memory as it is: what the evaluator says of them, the machine does.
-/
import Derived.Test.YtickdhdlljhomaaEv2
import Derived.Laws.Strings
import Derived.Laws.Entries
import Derived.Laws.Small
import Derived.Laws.StructEq
set_option linter.unusedSimpArgs false
set_option linter.unusedVariables false
namespace Go.Proofs.Ytickdhdlljhomaa.Ev
open Go

/-- Where a temporary was last written in a region (counted back). -/
def fnd (t : Nat) : List (Option Nat) → Option Nat
  | [] => none
  | some t' :: r => if t = t' then some 0 else (fnd t r).map (· + 1)
  | none :: r => (fnd t r).map (· + 1)

mutual
/-- A constant, and the abstract value that it is. -/
def kon : V → Value → Bool
  | .bool c, x => (match x with | .bool b => b == c | _ => false)
  | .int k n, x => (match x with | .int k' n' => k' == k && n' == n | _ => false)
  | .str l, x => (match x with | .string s => s.data.toList == l | _ => false)
  | .nilp, x => (match x with | .pointer none => true | _ => false)
  | .nilf, x => (match x with | .nilFunc => true | _ => false)
  | .nili, x => (match x with | .nilIface => true | _ => false)
  | .nilm, x => (match x with | .map none => true | _ => false)
  | .fsl .nil _ [], x => (match x with | .slice none 0 0 => true | _ => false)
  | .agg l, x => (match x with | .agg xs => konL l xs.toList && l.all V.cell | _ => false)
  | .tup [], x => (match x with | .tuple xs => xs.size == 0 | _ => false)
  | _, _ => false
def konL : List V → List Value → Bool
  | [], xs => (match xs with | [] => true | _ => false)
  | v :: vs, xs => (match xs with | x :: xs => kon v x && konL vs xs | _ => false)
end

mutual
theorem kon_R (g : G) : ∀ (v : V) (x : Value), kon v x = true → R g v x
  | .bool c, x, h => by cases x <;> simp [kon] at h; subst h; simp [R]
  | .int k n, x, h => by cases x <;> simp [kon] at h; obtain ⟨rfl, rfl⟩ := h; simp [R]
  | .str l, x, h => by
    cases x <;> simp [kon] at h
    subst h; simp [R]
  | .nilp, x, h => by cases x <;> simp [kon] at h; rename_i a; cases a <;> simp [R] at h ⊢
  | .nilf, x, h => by cases x <;> simp [kon] at h; simp [R]
  | .nili, x, h => by cases x <;> simp [kon] at h; simp [R]
  | .nilm, x, h => by cases x <;> simp [kon] at h; rename_i a; cases a <;> simp [R] at h ⊢
  | .fsl .nil sz [], x, h => by
    cases x <;> try (simp [kon] at h)
    rename_i a len cap
    cases a <;> cases len <;> cases cap <;> simp at h
    simp only [R, RL]
    exact ⟨none, 0, [], by simp, rfl, by simp, by simp, by simp, by simp, by simp, by simp⟩
  | .agg l, x, h => by
    cases x <;> simp [kon] at h
    simp only [R]
    exact ⟨_, rfl, konL_R g _ _ h.1, h.2⟩
  | .tup [], x, h => by
    cases x <;> try (simp [kon] at h)
    simp [R, RC, h]
  | .ptr _ _ _, x, h | .fptr _ _, x, h | .sl _ _ _, x, h | .fn _ _ _, x, h | .ifc _ _, x, h | .map _, x, h | .tup (_ :: _), x, h | .fsl .full _ _, x, h | .fsl .loose _ _, x, h | .fsl .nn _ _, x, h | .fsl .nil _ (_ :: _), x, h => by simp [kon] at h
theorem konL_R (g : G) : ∀ (l : List V) (xs : List Value), konL l xs = true → RC g l xs
  | [], [], _ => by simp [RC]
  | v :: vs, x :: xs, h => by
    simp only [konL, Bool.and_eq_true] at h
    simp only [RC]; exact ⟨x, xs, rfl, kon_R g v x h.1, konL_R g vs xs h.2⟩
  | [], _ :: _, h => by simp [konL] at h
  | _ :: _, [], h => by simp [konL] at h
end

/-- The operand `x` is what the source `s` says. -/
def cs (dl : List (Option Nat)) : Operand → Src → Bool
  | .tmp t, .r d => fnd t dl == some d
  | .tmp t, .v t' => t == t' && (fnd t dl).isNone
  | .const c, .k v => kon v c
  | .func f, .k (.fn f' [] []) => f == f'
  | _, _ => false
def csL (dl : List (Option Nat)) : List Operand → List Src → Bool
  | [], [] => true
  | x :: xs, s :: ss => cs dl x s && csL dl xs ss
  | _, _ => false
def csO (dl : List (Option Nat)) : Option Operand → Option Src → Bool
  | none, none => true
  | some x, some s => cs dl x s
  | _, _ => false

/-- Each operand reads as its source. -/
def Rel (dl : List (Option Nat)) (L : Src → Option V) (xs : List Operand) (g : G) (a : Act) : Prop :=
  ∀ x ∈ xs, ∀ s v, cs dl x s = true → L s = some v → R g v (a.eval x)

def OpGood (P : Program) (dl : List (Option Nat)) (L : Src → Option V) (H : Hp) (o : Oper) (i : Ins) (K : KI) : Prop :=
  ∃ v fp ds k, K v fp ds k ∧ (∀ p ∈ ds, p.1 ∈ fp ∨ (H.n ≤ p.1 ∧ p.1 < H.n + k)) ∧ (i.kind = 0 → fp = [] ∧ ds = [] ∧ k = 0) ∧ (i.kind ≤ 1 → ds = [] ∧ k = 0) ∧
    ∀ m g w a, (∀ id ∈ fp, m id = H.m id) → Fresh g m H.n k → RS g m w → Rel dl L o.op.operands.toList g a →
      ∀ (Kc : Act → World → Prop) (Q : Exit → Act → World → Prop),
        (∀ g' x w', RS g' (appd ds m) w' → IExt g g' H.n k → Ext g m w g' (appd ds m) w' → R g' v x → Kc (a.put o.dst x) w') → o.wp P a w Kc Q

theorem wp_of_run {P : Program} {o : Oper} {a : Act} {w w' : World} {x : Value} {Kc : Act → World → Prop} {Q : Exit → Act → World → Prop}
    (h : (execOp a.eval o).run P w = .ok (.value x) w') (k : Kc (a.put o.dst x) w') : o.wp P a w Kc Q := by
  unfold Oper.wp; rw [h]; exact k

/-- An operation that only computes. -/
theorem good_pure {P : Program} {dl : List (Option Nat)} {L : Src → Option V} {H : Hp} {o : Oper} {i : Ins} {K : KI} {v : V} (hK : K v [] [] 0)
    (h : ∀ g a w, Rel dl L o.op.operands.toList g a → ∃ x, (execOp a.eval o).run P w = .ok (.value x) w ∧ R g v x) : OpGood P dl L H o i K := by
  refine ⟨v, [], [], 0, hK, by simp, fun _ => ⟨rfl, rfl, rfl⟩, fun _ => ⟨rfl, rfl⟩, fun m g w a _ _ hs hr Kc Q hk => ?_⟩
  obtain ⟨x, h1, h2⟩ := h g a w hr
  exact wp_of_run h1 (hk g x w hs (fun _ _ => rfl) (Ext.refl _ _ _) h2)

theorem wv_some {o : Option V} {K : V → Prop} (h : wv o K) : ∃ v, o = some v ∧ K v := by
  cases o with
  | none => exact h.elim
  | some v => exact ⟨v, rfl, h⟩

theorem wvs_some {L : Src → Option V} : ∀ {ss : List Src} {K : List V → Prop}, wvs L ss K → ∃ vs : List V, K vs ∧ vs.length = ss.length ∧ ∀ (i : Nat) s, ss[i]? = some s → ∃ v, vs[i]? = some v ∧ L s = some v
  | [], K, h => ⟨[], h, rfl, by simp⟩
  | s :: ss, K, h => by
    obtain ⟨v, e, h⟩ := wv_some h
    obtain ⟨vs, h, l, k⟩ := wvs_some h
    refine ⟨v :: vs, h, by simp [l], fun i s' hi => ?_⟩
    cases i with
    | zero => simp at hi; subst hi; exact ⟨v, rfl, e⟩
    | succ i => simp at hi; simpa using k i s' hi

/-- Sources and operands side by side. -/
theorem csL_RC {dl : List (Option Nat)} {L : Src → Option V} {g : G} {a : Act} {all : List Operand} (hr : Rel dl L all g a) :
    ∀ {xs : List Operand} {ss : List Src} {vs : List V}, csL dl xs ss = true → (∀ x ∈ xs, x ∈ all) → vs.length = ss.length → (∀ (i : Nat) s, ss[i]? = some s → ∃ v, vs[i]? = some v ∧ L s = some v) → RC g vs (xs.map a.eval)
  | [], [], vs, _, _, l, _ => by cases vs <;> simp at l; simp [RC]
  | x :: xs, s :: ss, vs, h, hm, l, k => by
    simp only [csL, Bool.and_eq_true] at h
    cases vs with
    | nil => simp at l
    | cons v vs =>
      obtain ⟨u, h1, h2⟩ := k 0 s rfl
      simp at h1; subst h1
      simp only [List.map_cons, RC]
      refine ⟨_, _, rfl, hr x (hm x (by simp)) s v h.1 h2, csL_RC hr h.2 (fun y hy => hm y (by simp [hy])) (by simpa using l) fun i s' hi => ?_⟩
      simpa using k (i + 1) s' (by simpa using hi)
  | [], _ :: _, _, h, _, _, _ => by simp [csL] at h
  | _ :: _, [], _, h, _, _, _ => by simp [csL] at h

section
variable {P : Program} {dl : List (Option Nat)} {L : Src → Option V} {H : Hp} {K : KI} {dst : Option Tmp} {ty : TypeId} {pos : String} {after : Array Edge} {gu : Option (Nat × Bool)}

theorem s_mov {x : Operand} {s : Src} (hc : cs dl x s = true) (h : evI P L H K (.mov s)) : OpGood P dl L H ⟨dst, .move x, ty, pos, after, gu⟩ (.mov s) K := by
  simp only [evI] at h; obtain ⟨v, e, h⟩ := wv_some h
  exact good_pure h fun g a w hr => ⟨a.eval x, rfl, hr x (by simp [Op.operands]) s v hc e⟩

theorem s_assign {x : Operand} {s : Src} (hc : cs dl x s = true) (h : evI P L H K (.mov s)) : OpGood P dl L H ⟨dst, .assign x, ty, pos, after, gu⟩ (.mov s) K := by
  simp only [evI] at h; obtain ⟨v, e, h⟩ := wv_some h
  exact good_pure h fun g a w hr => ⟨a.eval x, rfl, hr x (by simp [Op.operands]) s v hc e⟩

theorem s_pick {c x y : Operand} {c' x' y' : Src} (h1 : cs dl c c' = true) (h2 : cs dl x x' = true) (h3 : cs dl y y' = true) (h : evI P L H K (.pick c' x' y')) :
    OpGood P dl L H ⟨dst, .pick c x y, ty, pos, after, gu⟩ (.pick c' x' y') K := by
  simp only [evI] at h; obtain ⟨u, e, h⟩ := wv_some h
  cases u <;> try exact h.elim
  rename_i b
  cases b
  · obtain ⟨v, e2, h⟩ := wv_some h
    refine good_pure h fun g a w hr => ⟨a.eval y, ?_, hr y (by simp [Op.operands]) _ v h3 e2⟩
    have := hr c (by simp [Op.operands]) _ _ h1 e
    simp only [R] at this
    simp [execOp, this, asBool]
  · obtain ⟨v, e2, h⟩ := wv_some h
    refine good_pure h fun g a w hr => ⟨a.eval x, ?_, hr x (by simp [Op.operands]) _ v h2 e2⟩
    have := hr c (by simp [Op.operands]) _ _ h1 e
    simp only [R] at this
    simp [execOp, this, asBool]

theorem run_bin (op : BinOp) (t : TypeId) (x y : Operand) (yt : TypeId) (a : Act) (w : World) (r : Value)
    (hg : (eqGuard op t x y (a.eval x) (a.eval y)).run P w = .ok () w) (hb : (binOp op t (a.eval x) (a.eval y)).run P w = .ok r w) :
    (execOp a.eval ⟨dst, .binOp op t x y yt, ty, pos, after, gu⟩).run P w = .ok (.value r) w := by
  simp [execOp, hg, hb]

/-- The machine's value of a plain one. -/
def V.val : V → Value
  | .bool b => .bool b
  | .int k n => .int k n
  | .str s => .string ⟨s.toArray⟩
  | _ => undef
def V.plain : V → Bool
  | .bool _ | .int _ _ | .str _ => true
  | _ => false
theorem R_val {g : G} {v : V} (h : v.plain = true) : R g v v.val := by cases v <;> simp [V.plain] at h <;> simp [R, V.val]

theorem guard_plain (op : BinOp) (t : TypeId) (x y : Operand) (u v : Value) (w : World) (h : ∀ l, u ≠ .agg l) (h' : u ≠ .nilIface) : (eqGuard op t x y u v).run P w = .ok () w := by
  unfold eqGuard
  cases op <;> first
    | rfl
    | (cases u <;> first | rfl | exact absurd rfl (h _) | exact absurd rfl h')

theorem s_bin {op : BinOp} {t yt : TypeId} {x y : Operand} {x' y' : Src} (h1 : cs dl x x' = true) (h2 : cs dl y y' = true) (h : evI P L H K (.bin op x' y')) :
    OpGood P dl L H ⟨dst, .binOp op t x y yt, ty, pos, after, gu⟩ (.bin op x' y') K := by
  simp only [evI] at h; obtain ⟨u, e1, hA⟩ := wv_some h; clear h; obtain ⟨v, e2, h⟩ := wv_some hA; clear hA
  have key : ∀ g a, Rel dl L [x, y] g a → R g u (a.eval x) ∧ R g v (a.eval y) := fun g a hr => ⟨hr x (by simp) _ _ h1 e1, hr y (by simp) _ _ h2 e2⟩
  cases u <;> cases v <;> simp only [evBin] at h <;> try exact h.elim
  · rename_i k n k' n'
    have fin : ∀ r : V, K r [] [] 0 → r.plain = true → (∀ w : World, (binOp op t (.int k n) (.int k' n')).run P w = .ok r.val w) → OpGood P dl L H ⟨dst, .binOp op t x y yt, ty, pos, after, gu⟩ (.bin op x' y') K := by
      intro r hk hp hb
      refine good_pure hk fun g a w hr => ?_
      obtain ⟨k1, k2⟩ := key g a (by simpa [Op.operands] using hr)
      simp only [R] at k1 k2
      exact ⟨r.val, run_bin op t x y yt a w r.val (by rw [k1]; exact guard_plain _ _ _ _ _ _ _ (by simp) (by simp)) (by rw [k1, k2]; exact hb w), R_val hp⟩
    cases op <;> simp only [intBin] at h
    case shl => exact fin _ h.2 rfl fun w => by simp [binOp, Op.shift, show ¬ n' < 0 by omega, V.val]
    case shr => exact fin _ h.2 rfl fun w => by simp [binOp, Op.shift, show ¬ n' < 0 by omega, V.val]
    case quo => obtain ⟨rfl, h0, h⟩ := h; exact fin _ h rfl fun w => by simp [binOp, Op.intDiv, h0, V.val]
    case rem => obtain ⟨rfl, h0, h⟩ := h; exact fin _ h rfl fun w => by simp [binOp, Op.intDiv, h0, V.val]
    all_goals
      obtain ⟨rfl, h⟩ := h
      exact fin _ h rfl fun w => by simp [binOp, Op.intArith, Op.intBits, Op.intCmp, V.val, bits2]
  · rename_i s s'
    have fin : ∀ r : V, K r [] [] 0 → r.plain = true → (∀ w : World, (binOp op t (.string ⟨s.toArray⟩) (.string ⟨s'.toArray⟩)).run P w = .ok r.val w) → OpGood P dl L H ⟨dst, .binOp op t x y yt, ty, pos, after, gu⟩ (.bin op x' y') K := by
      intro r hk hp hb
      refine good_pure hk fun g a w hr => ?_
      obtain ⟨k1, k2⟩ := key g a (by simpa [Op.operands] using hr)
      simp only [R] at k1 k2
      exact ⟨r.val, run_bin op t x y yt a w r.val (by rw [k1]; exact guard_plain _ _ _ _ _ _ _ (by simp) (by simp)) (by rw [k1, k2]; exact hb w), R_val hp⟩
    cases op <;> simp only [strBin] at h <;> try exact h.elim
    case add =>
      refine fin _ h.2 rfl fun w => ?_
      have h0 : ¬ ((((⟨s.toArray⟩ : ByteArray).size + (⟨s'.toArray⟩ : ByteArray).size : Nat) : Int) > IntKind.i64.max) := by
        have := h.1
        have e1 : (⟨s.toArray⟩ : ByteArray).size = s.length := by simp [ByteArray.size]
        have e2 : (⟨s'.toArray⟩ : ByteArray).size = s'.length := by simp [ByteArray.size]
        rw [e1, e2]
        have e3 : IntKind.i64.max = 9223372036854775807 := by decide
        rw [e3]; omega
      simp only [binOp, Op.stringOp, if_neg h0, Sem.run_pure, V.val]
      congr 2
    all_goals exact fin _ h rfl fun w => by simp [binOp, Op.stringOp, V.val]


def isBoolT (P : Program) (t : TypeId) : Bool := match P.underlying t with | some .bool => true | _ => false

theorem s_eqb {neg : Bool} {op : BinOp} {t yt : TypeId} {x y : Operand} {x' y' : Src} (ho : (op == if neg then .neq else .eql) = true) (ht : isBoolT P t = true) (h1 : cs dl x x' = true) (h2 : cs dl y y' = true)
    (h : evI P L H K (.eqb neg x' y')) : OpGood P dl L H ⟨dst, .binOp op t x y yt, ty, pos, after, gu⟩ (.eqb neg x' y') K := by
  simp only [evI] at h; obtain ⟨u, e1, hA⟩ := wv_some h; clear h; obtain ⟨v, e2, h⟩ := wv_some hA; clear hA
  cases u <;> cases v <;> try exact h.elim
  rename_i b c
  refine good_pure h fun g a w hr => ?_
  have k1 := hr x (by simp [Op.operands]) _ _ h1 e1
  have k2 := hr y (by simp [Op.operands]) _ _ h2 e2
  simp only [R] at k1 k2
  have hu : P.underlying t = some .bool := by
    unfold isBoolT at ht; split at ht
    · assumption
    · cases ht
  refine ⟨.bool (if neg then !(b == c) else b == c), run_bin op t x y yt a w _ (by rw [k1]; exact guard_plain _ _ _ _ _ _ _ (by simp) (by simp)) ?_, by simp [R]⟩
  rw [k1, k2]
  cases neg <;> simp at ho <;> subst ho
  · exact run_eql_bool w t b c hu
  · exact run_neq_bool w t b c hu

def nkOf (P : Program) (t : TypeId) (c : Value) : Option NK :=
  match P.underlying t with
  | some (.pointer _) => (match c with | .pointer none => some .p | _ => none)
  | some (.slice _) => (match c with | .slice none 0 0 => some .s | _ => none)
  | some (.map _ _) => (match c with | .map none => some .m | _ => none)
  | some (.func _ _ _) => (match c with | .nilFunc => some .f | _ => none)
  | some (.interface _) => (match c with | .nilIface => some .i | _ => none)
  | _ => none

theorem run_equal_nil_at (q : Nat) {t : TypeId} {c : Value} {kd : NK} (h : nkOf P t c = some kd) {g : G} {v : V} {x : Value} {b : Bool} (hn : isNil kd v = some b) (r : R g v x) (w : World) :
    (Op.equalIn (q + 1) t x c).run P w = .ok b w := by
  unfold nkOf at h
  cases hu : P.underlying t with
  | none => simp [hu] at h
  | some d =>
    cases d with
    | pointer el =>
      simp only [hu] at h
      split at h <;> simp at h
      subst h
      cases v <;> simp [isNil] at hn
      · simp only [R] at r; subst hn; subst r; simp [Op.equalIn, run_underlying hu]
      · simp only [R] at r; subst hn; obtain ⟨_, _, _, _, rfl⟩ := r; simp [Op.equalIn, run_underlying hu]
      · simp only [R] at r; subst hn; obtain ⟨_, _, _, _, _, rfl⟩ := r; simp [Op.equalIn, run_underlying hu]
    | slice el =>
      simp only [hu] at h
      split at h <;> simp at h
      subst h
      cases v <;> simp [isNil] at hn
      · simp only [R] at r; subst hn; obtain ⟨_, _, _, _, _, _, rfl, _⟩ := r; simp [Op.equalIn, run_underlying hu]
      · rename_i st sz l
        simp only [R] at r
        obtain ⟨a, cap, xs, rfl, _, _, hle, h5, h6, _, h8⟩ := r
        cases st <;> cases l <;> simp at hn <;> subst hn <;> simp at h6 hle
        · subst h6; simp [Op.equalIn, run_underlying hu]
        · subst h6; simp [Op.equalIn, run_underlying hu]
        all_goals (simp at h8; obtain ⟨b, o, rfl, _⟩ := h8; simp [Op.equalIn, run_underlying hu])
    | map kt el =>
      simp only [hu] at h
      split at h <;> simp at h
      subst h
      cases v <;> simp [isNil] at hn
      · simp only [R] at r; subst hn; obtain ⟨_, _, rfl⟩ := r; simp [Op.equalIn, run_underlying hu]
      · simp only [R] at r; subst hn; subst r; simp [Op.equalIn, run_underlying hu]
    | func ps rs vr =>
      simp only [hu] at h
      split at h <;> simp at h
      subst h
      cases v <;> simp [isNil] at hn
      · simp only [R] at r; subst hn; obtain ⟨_, _, rfl, _⟩ := r; simp [Op.equalIn, run_underlying hu]
      · simp only [R] at r; subst hn; subst r; simp [Op.equalIn, run_underlying hu]
    | interface ms =>
      simp only [hu] at h
      split at h <;> simp at h
      subst h
      cases v <;> simp [isNil] at hn
      · simp only [R] at r; subst hn; obtain ⟨_, rfl, _⟩ := r; simp [Op.equalIn, run_underlying hu]
      · simp only [R] at r; subst hn; subst r; simp [Op.equalIn, run_underlying hu]
    | _ => simp [hu] at h

theorem run_equal_nil {t : TypeId} {c : Value} {kd : NK} (h : nkOf P t c = some kd) {g : G} {v : V} {x : Value} {b : Bool} (hn : isNil kd v = some b) (r : R g v x) (w : World) :
    (Op.equal t x c).run P w = .ok b w := run_equal_nil_at 9999 h hn r w

theorem s_eqn {neg : Bool} {op : BinOp} {t yt : TypeId} {x : Operand} {c : Value} {kd : NK} {x' : Src} (ho : (op == if neg then .neq else .eql) = true) (hk : nkOf P t c = some kd) (h1 : cs dl x x' = true)
    (h : evI P L H K (.eqn neg kd x')) : OpGood P dl L H ⟨dst, .binOp op t x (.const c) yt, ty, pos, after, gu⟩ (.eqn neg kd x') K := by
  simp only [evI] at h; obtain ⟨u, e1, hA⟩ := wv_some h; clear h
  cases hn : isNil kd u with
  | none => simp [hn] at hA
  | some b =>
    simp only [hn] at hA
    refine good_pure hA fun g a w hr => ?_
    have k1 := hr x (by simp [Op.operands]) _ _ h1 e1
    have he := run_equal_nil hk hn k1 w
    have hx : (∀ l, a.eval x ≠ .agg l) := by
      intro l e; rw [e] at k1
      cases kd <;> cases u <;> simp [isNil] at hn <;> simp [R] at k1
    refine ⟨.bool (if neg then !b else b), run_bin op t x (.const c) yt a w _ ?_ ?_, by simp [R]⟩
    · unfold eqGuard
      generalize a.eval x = z at hx ⊢
      cases neg <;> simp at ho <;> subst ho <;> cases z <;> first | rfl | (cases c <;> first | rfl | (simp [Act.eval]; done)) | exact absurd rfl (hx _)
    · have hc : (a.eval (.const c)) = c := rfl
      rw [hc]
      have hb : ∀ op', (op' = .eql ∨ op' = .neq) → binOp op' t (a.eval x) c = (match op' with | .eql => (do pure (.bool (← Op.equal t (a.eval x) c)) : Sem Value) | _ => (do pure (.bool (!(← Op.equal t (a.eval x) c))) : Sem Value)) := by
        generalize a.eval x = z at k1
        intro op' ho
        unfold nkOf at hk
        cases kd <;> cases u <;> simp [isNil] at hn <;> simp only [R] at k1 <;> (rcases ho with rfl | rfl) <;> (first | subst k1 | (obtain ⟨_, _, _, _, rfl⟩ := k1) | (obtain ⟨_, _, _, _, _, rfl⟩ := k1) | (obtain ⟨_, _, _, _, _, _, rfl, _⟩ := k1) | (obtain ⟨_, _, _, rfl, _⟩ := k1) | (obtain ⟨_, _, rfl, _⟩ := k1) | (obtain ⟨_, rfl, _⟩ := k1) | (obtain ⟨_, _, rfl⟩ := k1)) <;>
          (cases c <;> first | rfl | (split at hk <;> simp at hk))
      cases neg <;> simp at ho <;> subst ho
      · rw [hb _ (.inl rfl)]; simp [he]
      · rw [hb _ (.inr rfl)]; simp [he]

end
end Go.Proofs.Ytickdhdlljhomaa.Ev
