/-
  The other operations: what the evaluator says of them, the machine does.
-/
import Derived.Test.YtickdhdlljhomaaEv4
import Derived.Laws.Tables
import Derived.Great.BuildSlice
import Derived.Laws.BytesString
import Derived.Laws.BytesArg
set_option linter.unusedSimpArgs false
set_option linter.unusedVariables false
namespace Go.Proofs.Ytickdhdlljhomaa.Ev
open Go

section
variable {P : Program} {dl : List (Option Nat)} {L : Src → Option V} {H : Hp} {K : KI} {dst : Option Tmp} {ty : TypeId} {pos : String} {after : Array Edge} {gu : Option (Nat × Bool)}

theorem s_un {op : UnOp} {t : TypeId} {x : Operand} {x' : Src} (h1 : cs dl x x' = true) (h : evI P L H K (.un op x')) : OpGood P dl L H ⟨dst, .unOp op t x, ty, pos, after, gu⟩ (.un op x') K := by
  simp only [evI] at h; obtain ⟨u, e1, hA⟩ := wv_some h; clear h
  have key : ∀ r : V, K r [] [] 0 → r.plain = true → (∀ g (z : Value), R g u z → ∀ w, (Op.unary op z).run P w = .ok r.val w) → OpGood P dl L H ⟨dst, .unOp op t x, ty, pos, after, gu⟩ (.un op x') K := fun r hk hp hb =>
    good_pure hk fun g a w hr => ⟨r.val, by simp [execOp, hb g _ (hr x (by simp [Op.operands]) _ _ h1 e1) w], R_val hp⟩
  cases op <;> cases u <;> try exact hA.elim
  · exact key _ hA rfl fun g z r w => by simp only [R] at r; subst r; simp [Op.unary, Op.intArith, V.val]
  · exact key _ hA rfl fun g z r w => by simp only [R] at r; subst r; simp [Op.unary, Op.intBits, V.val, bits2]
  · exact key _ hA rfl fun g z r w => by simp only [R] at r; subst r; simp [Op.unary, V.val]

theorem s_cvt {src d : TypeId} {ud : TypeDesc} {k : IntKind} {x : Operand} {x' : Src} (hs : P.underlying src = some ud) (hd : P.underlying d = some (.int k)) (h1 : cs dl x x' = true) (h : evI P L H K (.cvt k x')) :
    OpGood P dl L H ⟨dst, .convert src d x, ty, pos, after, gu⟩ (.cvt k x') K := by
  simp only [evI] at h; obtain ⟨u, e1, hA⟩ := wv_some h; clear h
  cases u <;> try exact hA.elim
  refine good_pure hA fun g a w hr => ?_
  have := hr x (by simp [Op.operands]) _ _ h1 e1
  simp only [R] at this
  exact ⟨_, by simp [execOp, this, convert, run_underlying hs, run_underlying hd, Conv.intToInt]; rfl, by simp [R]⟩

theorem s_same {src d : TypeId} {x : Operand} {x' : Src} (hs : (P.underlying src).isSome = true) (hd : P.underlying d = some .string) (h1 : cs dl x x' = true) (h : evI P L H K (.same x')) :
    OpGood P dl L H ⟨dst, .convert src d x, ty, pos, after, gu⟩ (.same x') K := by
  simp only [evI] at h; obtain ⟨u, e1, hA⟩ := wv_some h; clear h
  cases u <;> try exact hA.elim
  rename_i s
  obtain ⟨ud, hu⟩ := Option.isSome_iff_exists.1 hs
  refine good_pure hA fun g a w hr => ?_
  have := hr x (by simp [Op.operands]) _ _ h1 e1
  simp only [R] at this
  exact ⟨_, by cases ud <;> simp [execOp, this, convert, run_underlying hu, run_underlying hd]; all_goals rfl, by simp [R]⟩

theorem s_mki {t : TypeId} {x : Operand} {x' : Src} (ht : ∃ d, P.underlying t = some d ∧ ∀ ms, d ≠ .interface ms) (h1 : cs dl x x' = true) (h : evI P L H K (.mki t x')) :
    OpGood P dl L H ⟨dst, .makeInterface t x, ty, pos, after, gu⟩ (.mki t x') K := by
  simp only [evI] at h; obtain ⟨u, e1, hA⟩ := wv_some h; clear h
  obtain ⟨d, hd, hi⟩ := ht
  refine good_pure hA fun g a w hr => ?_
  have := hr x (by simp [Op.operands]) _ _ h1 e1
  refine ⟨.iface t (a.eval x), ?_, by simp only [R]; exact ⟨_, rfl, this⟩⟩
  cases d <;> first | exact absurd rfl (hi _) | simp [execOp, Instr.makeInterface, run_underlying hd]

theorem s_ext {x : Operand} {x' : Src} {i : Nat} (h1 : cs dl x x' = true) (h : evI P L H K (.ext x' i)) : OpGood P dl L H ⟨dst, .extract x i, ty, pos, after, gu⟩ (.ext x' i) K := by
  simp only [evI] at h; obtain ⟨u, e1, hA⟩ := wv_some h; clear h
  cases u <;> try exact hA.elim
  obtain ⟨v, e2, hB⟩ := wv_some hA
  refine good_pure hB fun g a w hr => ?_
  have := hr x (by simp [Op.operands]) _ _ h1 e1
  simp only [R] at this
  obtain ⟨xs, e3, e4⟩ := this
  obtain ⟨y, e5, e6⟩ := e4.get e2
  exact ⟨y, by simp [execOp, e3, Instr.extract, show xs[i]? = some y by simpa using e5], e6⟩

theorem s_mkf {f : Nat} {fs cs' : Array Operand} {fs' cs'' : List Src} (h1 : csL dl fs.toList fs' = true) (h2 : csL dl cs'.toList cs'' = true) (h : evI P L H K (.mkf f fs' cs'')) :
    OpGood P dl L H ⟨dst, .makeFunc (.func f) fs cs', ty, pos, after, gu⟩ (.mkf f fs' cs'') K := by
  simp only [evI] at h
  obtain ⟨vs, hA, l1, k1⟩ := wvs_some h
  obtain ⟨us, hB, l2, k2⟩ := wvs_some hA
  refine good_pure hB fun g a w hr => ⟨.func (.func f) (fs.map a.eval) (cs'.map a.eval), by simp [execOp, Instr.makeFunc], ?_⟩
  simp only [R]
  refine ⟨_, _, rfl, ?_, ?_⟩
  · rw [Array.toList_map]; exact csL_RC hr h1 (fun y hy => by simp [Op.operands]; simp at hy; exact .inl hy) l1 k1
  · rw [Array.toList_map]; exact csL_RC hr h2 (fun y hy => by simp [Op.operands]; simp at hy; exact .inr hy) l2 k2

theorem s_nck {x : Operand} {x' : Src} (h1 : cs dl x x' = true) (h : evI P L H K (.nck x')) : OpGood P dl L H ⟨dst, .nilCheck x, ty, pos, after, gu⟩ (.nck x') K := by
  simp only [evI] at h; obtain ⟨u, e1, hA⟩ := wv_some h; clear h
  cases u <;> try exact hA.elim
  all_goals
    refine good_pure hA fun g a w hr => ?_
    have := hr x (by simp [Op.operands]) _ _ h1 e1
    refine ⟨a.eval x, ?_, this⟩
    simp only [R] at this
  · obtain ⟨b, sz, n, _, e⟩ := this; simp [execOp, e]
  · obtain ⟨b, o, y, _, _, e⟩ := this; simp [execOp, e]

theorem s_len {x : Operand} {x' : Src} {t : TypeId} {str : Bool} (ht : if str then P.underlying t = some .string else ∃ e, P.underlying t = some (.slice e))
    (h1 : cs dl x x' = true) (h : evI P L H K (.len str x')) : OpGood P dl L H ⟨dst, .call { callee := .builtin .len, args := #[x], argTypes := #[t] }, ty, pos, after, gu⟩ (.len str x') K := by
  simp only [evI] at h; obtain ⟨u, e1, hA⟩ := wv_some h; clear h
  have key : ∀ r : V, K r [] [] 0 → r.plain = true → (∀ g (z : Value), R g u z → ∀ w, (Builtin.len_ #[t] ty #[z]).run P w = .ok r.val w) →
      OpGood P dl L H ⟨dst, .call { callee := .builtin .len, args := #[x], argTypes := #[t] }, ty, pos, after, gu⟩ (.len str x') K := fun r hk hp hb =>
    good_pure hk fun g a w hr => ⟨r.val, by
      have := hb g _ (hr x (by simp [Op.operands, Call.operands]) _ _ h1 e1) w
      simp [execOp, resolve, invoke, builtin, this], R_val hp⟩
  cases str
  · simp only [Bool.false_eq_true, if_false] at ht
    obtain ⟨e, hu⟩ := ht
    cases u <;> try exact hA.elim
    · exact key _ hA rfl fun g z r w => by
        simp only [R] at r; obtain ⟨b, sz, n, q, cap, _, rfl, _⟩ := r
        simp [Builtin.len_, run_underlying hu, goInt, V.val]
    · exact key _ hA rfl fun g z r w => by
        simp only [R] at r; obtain ⟨q, cap, xs, rfl, _⟩ := r
        simp [Builtin.len_, run_underlying hu, goInt, V.val]
  · simp only [if_true] at ht
    cases u <;> try exact hA.elim
    exact key _ hA rfl fun g z r w => by
      simp only [R] at r; subst r
      simp only [Builtin.len_, V.val]
      simp [run_underlying ht, goInt]
      rfl

theorem s_mnx {mx : Bool} {x : Operand} {ys : List Operand} {x' : Src} {ys' : List Src} {ts : Array TypeId} (h1 : cs dl x x' = true) (h2 : csL dl ys ys' = true) (h : evI P L H K (.mnx mx x' ys')) :
    OpGood P dl L H ⟨dst, .call { callee := .builtin (if mx then .max else .min), args := (x :: ys).toArray, argTypes := ts }, ty, pos, after, gu⟩ (.mnx mx x' ys') K := by
  simp only [evI] at h; obtain ⟨u, e1, hA⟩ := wv_some h; clear h
  obtain ⟨vs, ⟨hi, hB⟩, l, k⟩ := wvs_some hA
  -- the answer hangs on the abstract values alone
  have ex : ∃ r : V, K r [] [] 0 ∧ r.plain = true ∧ ∀ (g : G) (z : Value) (zs : List Value) (w : World), R g u z → RC g vs zs → (zs.foldlM (if mx then Builtin.max2 else Builtin.min2) z).run P w = .ok r.val w := by
    clear hA k l e1 h1 h2
    induction vs generalizing u with
    | nil =>
      obtain ⟨k, n, rfl⟩ := hi
      exact ⟨_, hB, rfl, fun g z zs w r c => by simp only [RC] at c; subst c; simp only [R] at r; subst r; simp [V.val]⟩
    | cons y vs ih =>
      obtain ⟨k, n, rfl⟩ := hi
      cases y <;> try exact hB.elim
      rename_i k' b
      simp only [mnxV] at hB
      obtain ⟨rfl, hB⟩ := hB
      obtain ⟨r, h1, h2, h3⟩ := ih _ ⟨_, _, rfl⟩ hB
      refine ⟨r, h1, h2, fun g z zs w r' c => ?_⟩
      simp only [RC] at c; obtain ⟨q, qs, rfl, c1, c2⟩ := c
      simp only [R] at c1 r'; subst c1; subst r'
      have := h3 g _ qs w (by simp [R]; rfl) c2
      cases mx
      · simp only [Bool.false_eq_true, if_false, List.foldlM_cons, Sem.run_bind, Builtin.min2, Sem.run_pure, Result.andThen_ok] at this ⊢
        exact this
      · simp only [if_true, List.foldlM_cons, Sem.run_bind, Builtin.max2, Sem.run_pure, Result.andThen_ok] at this ⊢
        exact this
  obtain ⟨r, k1, k2, k3⟩ := ex
  refine good_pure k1 fun g a w hr => ⟨r.val, ?_, R_val k2⟩
  have q1 := hr x (by cases mx <;> simp [Op.operands, Call.operands]) _ _ h1 e1
  have q2 := csL_RC hr h2 (fun y hy => by cases mx <;> simp [Op.operands, Call.operands, hy]) l k
  have q3 := k3 g _ _ w q1 q2
  cases mx <;> simp at q3 <;> simp [execOp, resolve, invoke, builtin, Builtin.min_, Builtin.max_, q3]

/-- Where a field lies. -/
def fieldOff (P : Program) (s : TypeId) (i : Nat) : Option (Nat × TypeId) :=
  match P.underlying s with
  | some (.struct fs) => (match fs[i]? with
    | some f => (match P.info? f.type with | some inf => if inf.size = 0 then none else some (f.offset, f.type) | none => none)
    | none => none)
  | _ => none

theorem fieldOff_some {s : TypeId} {i off : Nat} {t : TypeId} (h : fieldOff P s i = some (off, t)) :
    ∃ fs f inf, P.underlying s = some (.struct fs) ∧ fs[i]? = some f ∧ f.offset = off ∧ f.type = t ∧ P.info? t = some inf ∧ inf.size ≠ 0 := by
  unfold fieldOff at h
  split at h
  · rename_i fs hu
    split at h
    · rename_i f hf
      split at h
      · rename_i inf hi
        split at h
        · cases h
        · rename_i hz
          simp at h; obtain ⟨rfl, rfl⟩ := h
          exact ⟨fs, f, inf, hu, hf, rfl, rfl, hi, hz⟩
      · cases h
    · cases h
  · cases h

theorem s_fad {s : TypeId} {i off : Nat} {t : TypeId} {x : Operand} {x' : Src} (hf : fieldOff P s i = some (off, t)) (h1 : cs dl x x' = true) (h : evI P L H K (.fad off x')) :
    OpGood P dl L H ⟨dst, .fieldAddr s x i, ty, pos, after, gu⟩ (.fad off x') K := by
  obtain ⟨fs, f, inf, hu, hfi, rfl, rfl, hi, hz⟩ := fieldOff_some hf
  have run : ∀ (b o : Nat) (w : World), (Instr.fieldAt s (.pointer (some ⟨b, o, none⟩)) i).run P w = .ok (.pointer (some ⟨b, o + f.offset, none⟩)) w := fun b o w => by
    simp [Instr.fieldAt, run_underlying hu, hfi, Instr.sureAddr, fieldPlace, sizeOf, typeInfo, hi, hz, add_plain]
  simp only [evI] at h; obtain ⟨u, e1, hA⟩ := wv_some h; clear h
  cases u <;> try exact hA.elim
  · refine good_pure hA fun g a w hr => ?_
    have := hr x (by simp [Op.operands]) _ _ h1 e1
    simp only [R] at this
    obtain ⟨b, sz, n, e2, e3⟩ := this
    exact ⟨_, by simp only [execOp, e3, Sem.run_bind, run, Result.andThen_ok]; rfl, by simp only [R]; exact ⟨b, sz, n, e2, by rw [Nat.add_assoc]⟩⟩
  · refine good_pure hA fun g a w hr => ?_
    have := hr x (by simp [Op.operands]) _ _ h1 e1
    simp only [R] at this
    obtain ⟨b, o, y, e2, e3, e4⟩ := this
    exact ⟨_, by simp only [execOp, e4, Sem.run_bind, run, Result.andThen_ok]; rfl, by simp only [R]; exact ⟨b, o, y, e2, e3, by rw [Nat.add_assoc]⟩⟩

/-- A field of a struct's value. -/
theorem s_fld {s : TypeId} {i off : Nat} {t : TypeId} {k : Option Nat} {x : Operand} {x' : Src} (hf : fieldOff P s i = some (off, t)) (hk : aggK P t = some k) (h1 : cs dl x x' = true) (h : evI P L H K (.fld off k x')) :
    OpGood P dl L H ⟨dst, .field s x i, ty, pos, after, gu⟩ (.fld off k x') K := by
  obtain ⟨fs, f, inf, hu, hfi, rfl, rfl, hi, hz⟩ := fieldOff_some hf
  simp only [evI] at h; obtain ⟨u, e1, hA⟩ := wv_some h; clear h
  cases u <;> try exact hA.elim
  rename_i l
  obtain ⟨v, e2, hB⟩ := wv_some hA
  refine good_pure hB fun g a w hr => ?_
  have he := hr x (by simp [Op.operands]) _ _ h1 e1
  simp only [R] at he
  obtain ⟨xs, e3, e4, e5⟩ := he
  cases k with
  | none =>
    obtain ⟨q1, q2⟩ := run_isAgg_none hk w
    simp only [getC] at e2
    obtain ⟨y, e6, e7⟩ := e4.get e2
    exact ⟨y, by simp [execOp, e3, Instr.field, run_underlying hu, hfi, asAgg, part, q1, show xs[f.offset]? = some y by simpa using e6], e7⟩
  | some n =>
    obtain ⟨q1, q2⟩ := run_isAgg_some hk w
    simp only [getC] at e2
    split at e2
    · rename_i hn
      simp at e2; subst e2
      refine ⟨.agg (xs.extract f.offset (f.offset + n)), by simp [execOp, e3, Instr.field, run_underlying hu, hfi, asAgg, part, q1, q2], ?_⟩
      simp only [R]
      refine ⟨_, rfl, ?_, fun v hv => e5 v (List.mem_of_mem_drop (List.mem_of_mem_take hv))⟩
      have := (e4.drop f.offset).take n
      rw [Array.toList_extract]
      rw [List.extract_eq_take_drop, show f.offset + n - f.offset = n by omega]
      exact this
    · cases e2

theorem s_ixs {t : TypeId} {x i : Operand} {x' i' : Src} (ht : P.underlying t = some .string) (h1 : cs dl x x' = true) (h2 : cs dl i i' = true) (h : evI P L H K (.ixs x' i')) :
    OpGood P dl L H ⟨dst, .index t x i, ty, pos, after, gu⟩ (.ixs x' i') K := by
  simp only [evI] at h; obtain ⟨u, e1, hA⟩ := wv_some h; clear h; obtain ⟨v, e2, hB⟩ := wv_some hA; clear hA
  cases u <;> cases v <;> try exact hB.elim
  rename_i s k n
  obtain ⟨h0, b, hb, hK⟩ := hB
  refine good_pure hK fun g a w hr => ?_
  have q1 := hr x (by simp [Op.operands]) _ _ h1 e1
  have q2 := hr i (by simp [Op.operands]) _ _ h2 e2
  simp only [R] at q1 q2
  have hb' : (⟨s.toArray⟩ : ByteArray)[n.toNat]? = some b := by
    have hl := (List.getElem?_eq_some_iff.1 hb).1
    have he := (List.getElem?_eq_some_iff.1 hb).2
    have hs : n.toNat < (⟨s.toArray⟩ : ByteArray).size := by simpa [ByteArray.size] using hl
    rw [getElem?_pos (⟨s.toArray⟩ : ByteArray) n.toNat hs]
    congr 1
  refine ⟨.int .u8 b.toNat, ?_, by simp [R]⟩
  simp [execOp, q1, q2, Instr.index, asIntOf, run_underlying ht, h0, hb']

theorem s_sls {t : TypeId} {x : Operand} {lo hi : Option Operand} {x' : Src} {lo' hi' : Option Src} (ht : P.underlying t = some .string) (h1 : cs dl x x' = true) (h2 : csO dl lo lo' = true) (h3 : csO dl hi hi' = true)
    (h : evI P L H K (.sls x' lo' hi')) : OpGood P dl L H ⟨dst, .slice t x lo hi none, ty, pos, after, gu⟩ (.sls x' lo' hi') K := by
  simp only [evI] at h; obtain ⟨u, e1, hA⟩ := wv_some h; clear h
  have ex : ∃ (s : List UInt8) (a b : Nat), u = .str s ∧ a ≤ b ∧ b ≤ s.length ∧ K (.str ((s.take b).drop a)) [] [] 0 ∧
      (∀ (σ : Act) (g : G), Rel dl L (lo.toList ++ hi.toList) g σ → ∀ w, (Instr.sliceBounds false s.length s.length (lo.map σ.eval) (hi.map σ.eval) none).run P w = .ok (a, b, s.length) w) := by
    cases lo' with
    | none =>
      cases lo <;> simp [csO] at h2
      simp only [wo] at hA
      cases hi' with
      | none =>
        cases hi <;> simp [csO] at h3
        simp only [wo] at hA
        cases u <;> simp only [evSls] at hA <;> try exact hA.elim
        rename_i s
        simp only [bnd] at hA
        exact ⟨s, 0, s.length, rfl, hA.1, hA.2.1, hA.2.2, fun σ g _ w => by simp [Instr.sliceBounds]⟩
      | some hi' =>
        cases hi <;> simp [csO] at h3
        rename_i hi
        simp only [wo] at hA
        obtain ⟨v, e3, hA'⟩ := wv_some hA; clear hA; have hA := hA'; clear hA'
        cases u <;> simp only [evSls] at hA <;> try exact hA.elim
        rename_i s
        cases v <;> simp only [bnd] at hA <;> try exact hA.elim
        rename_i k n
        obtain ⟨h0, q1, q2, q3⟩ := hA
        refine ⟨s, 0, n.toNat, rfl, q1, q2, q3, fun σ g hr w => ?_⟩
        have := hr hi (by simp) _ _ h3 e3
        simp only [R] at this
        simp [Instr.sliceBounds, Instr.sliceBound, this, asIntOf, h0, show n ≤ (s.length : Int) by omega]
    | some lo' =>
      cases lo <;> simp [csO] at h2
      rename_i lo
      simp only [wo] at hA
      obtain ⟨v, e3, hA'⟩ := wv_some hA; clear hA; have hA := hA'; clear hA'
      cases hi' with
      | none =>
        cases hi <;> simp [csO] at h3
        simp only [wo] at hA
        cases u <;> simp only [evSls] at hA <;> try exact hA.elim
        rename_i s
        cases v <;> simp only [bnd] at hA <;> try exact hA.elim
        rename_i k n
        obtain ⟨h0, q1, q2, q3⟩ := hA
        refine ⟨s, n.toNat, s.length, rfl, q1, q2, q3, fun σ g hr w => ?_⟩
        have := hr lo (by simp) _ _ h2 e3
        simp only [R] at this
        simp [Instr.sliceBounds, Instr.sliceBound, this, asIntOf, h0, show n ≤ (s.length : Int) by omega]
      | some hi' =>
        cases hi <;> simp [csO] at h3
        rename_i hi
        simp only [wo] at hA
        obtain ⟨v', e4, hA'⟩ := wv_some hA; clear hA; have hA := hA'; clear hA'
        cases u <;> simp only [evSls] at hA <;> try exact hA.elim
        rename_i s
        cases v <;> simp only [bnd] at hA <;> try exact hA.elim
        rename_i k n
        cases v' <;> simp only [bnd] at hA <;> try (exact hA.2.elim)
        rename_i k' n'
        obtain ⟨h0, h0', q1, q2, q3⟩ := hA
        refine ⟨s, n.toNat, n'.toNat, rfl, q1, q2, q3, fun σ g hr w => ?_⟩
        have t1 := hr lo (by simp) _ _ h2 e3
        have t2 := hr hi (by simp) _ _ h3 e4
        simp only [R] at t1 t2
        simp [Instr.sliceBounds, Instr.sliceBound, t1, t2, asIntOf, h0, h0', show n' ≤ (s.length : Int) by omega, show n ≤ ((n'.toNat : Nat) : Int) by omega]
        intro hh; omega
  obtain ⟨s, a, b, rfl, k1, k2, k3, k4⟩ := ex
  refine good_pure k3 fun g σ w hr => ?_
  have q1 := hr x (by simp [Op.operands]) _ _ h1 e1
  simp only [R] at q1
  have q2 := k4 σ g (fun y hy => hr y (by simp [Op.operands]; simp at hy; rcases hy with h | h <;> simp [h])) w
  refine ⟨.string ((⟨s.toArray⟩ : ByteArray).extract a b), ?_, ?_⟩
  · have hs : (⟨s.toArray⟩ : ByteArray).size = s.length := by simp [ByteArray.size]
    simp [execOp, q1, Instr.sliceAt, Instr.slice, run_underlying ht, hs, q2]
  · simp only [R]
    congr 1
    apply ByteArray.ext
    simp only [ByteArray.data_extract]
    apply Array.ext'
    simp [Array.toList_extract, List.extract_eq_take_drop, List.take_drop, Nat.add_sub_cancel' k1]

end
end Go.Proofs.Ytickdhdlljhomaa.Ev
