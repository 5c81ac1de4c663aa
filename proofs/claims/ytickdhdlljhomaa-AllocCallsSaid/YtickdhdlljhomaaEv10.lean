/-
  The check that compact code is what the program's code says, and what follows: operations, regions in the order of the text.
-/
import Derived.Test.YtickdhdlljhomaaEv9
set_option linter.unusedSimpArgs false
set_option linter.unusedVariables false
namespace Go.Proofs.Ytickdhdlljhomaa.Ev
open Go

def slElem (P : Program) (t : TypeId) : Option (TypeId × TypeInfo) :=
  match P.underlying t with
  | some (.slice e) => (match P.info? e with | some i => some (e, i) | none => none)
  | _ => none
theorem slElem_some {P : Program} {t e : TypeId} {i : TypeInfo} (h : slElem P t = some (e, i)) : P.underlying t = some (.slice e) ∧ P.info? e = some i := by
  unfold slElem at h
  split at h
  · rename_i e' hu
    split at h
    · rename_i i' hi; simp at h; obtain ⟨rfl, rfl⟩ := h; exact ⟨hu, hi⟩
    · cases h
  · cases h

def isStrT (P : Program) (t : TypeId) : Bool := match P.underlying t with | some .string => true | _ => false
theorem isStrT_some {P : Program} {t : TypeId} (h : isStrT P t = true) : P.underlying t = some .string := by
  unfold isStrT at h; split at h
  · assumption
  · cases h
def isU8T (P : Program) (t : TypeId) : Bool := match P.underlying t with | some (.int .u8) => true | _ => false
theorem isU8T_some {P : Program} {t : TypeId} (h : isU8T P t = true) : P.underlying t = some (.int .u8) := by
  unfold isU8T at h; split at h
  · assumption
  · cases h
def isIntT (P : Program) (t : TypeId) (k : IntKind) : Bool := match P.underlying t with | some (.int k') => k' == k | _ => false
theorem isIntT_some {P : Program} {t : TypeId} {k : IntKind} (h : isIntT P t k = true) : P.underlying t = some (.int k) := by
  unfold isIntT at h; split at h
  · simp at h; subst h; assumption
  · cases h
def isConcT (P : Program) (t : TypeId) : Bool := match P.underlying t with | some (.interface _) => false | some _ => true | none => false
theorem isConcT_some {P : Program} {t : TypeId} (h : isConcT P t = true) : ∃ d, P.underlying t = some d ∧ ∀ ms, d ≠ .interface ms := by
  unfold isConcT at h; split at h
  · cases h
  · rename_i d hd hu; exact ⟨d, hu, fun ms e => hd ms e⟩
  · cases h

/-- One operation of the program's code, and one of the compact code. -/
def chkI (P : Program) (dl : List (Option Nat)) (op : Op) : Ins → Bool
  | .mov s => (match op with | .move x => cs dl x s | .assign x => cs dl x s | _ => false)
  | .same s => (match op with | .convert a b x => (P.underlying a).isSome && isStrT P b && cs dl x s | _ => false)
  | .pick c a b => (match op with | .pick c' a' b' => cs dl c' c && cs dl a' a && cs dl b' b | _ => false)
  | .bin o x y => (match op with | .binOp o' _ x' y' _ => o == o' && cs dl x' x && cs dl y' y | _ => false)
  | .eqb neg x y => (match op with | .binOp o t x' y' _ => (o == if neg then .neq else .eql) && isBoolT P t && cs dl x' x && cs dl y' y | _ => false)
  | .eqn neg kd x => (match op with | .binOp o t x' (.const c) _ => (o == if neg then .neq else .eql) && nkOf P t c == some kd && cs dl x' x | _ => false)
  | .un o x => (match op with | .unOp o' _ x' => o == o' && cs dl x' x | _ => false)
  | .cvt k x => (match op with | .convert a b x' => (P.underlying a).isSome && isIntT P b k && cs dl x' x | _ => false)
  | .bts x => (match op with | .convert a b x' => (match slElem P a with | some (e, _) => isU8T P e | none => false) && isStrT P b && cs dl x' x | _ => false)
  | .stb x => (match op with | .convert a b x' => (P.underlying a).isSome && (match slElem P b with | some (e, _) => isU8T P e | none => false) && cs dl x' x | _ => false)
  | .alloc _ z => (match op with | .alloc el => (match P.info? el with | some i => (match i.zero with | some zv => kon z zv | none => false) | none => false) | _ => false)
  | .box _ x => (match op with | .box _ x' => cs dl x' x | _ => false)
  | .build z ps => (match op with
    | .build t parts => (match placesOf P t parts.size, P.info? t with
      | some places, some i => (match i.zero with | some zv => konL z zv.cells.toList && z.all V.cell && chkParts dl places parts.toList ps | none => false)
      | _, _ => false)
    | _ => false)
  | .bsl sz ps => (match op with
    | .buildSlice t len parts => (match slElem P t with | some (_, i) => i.size == sz && i.zero.isSome && sz != 0 && decide (len * sz ≤ 16777216) && parts.size == len && chkSeq dl 0 parts.toList ps | none => false)
    | _ => false)
  | .load k a => (match op with | .load t a' => aggK P t == some k && cs dl a' a | _ => false)
  | .store k a x => (match op with | .store t a' x' => aggK P t == some k && cs dl a' a && cs dl x' x | _ => false)
  | .fad off x => (match op with | .fieldAddr s x' i => (match fieldOff P s i with | some (o, _) => o == off | none => false) && cs dl x' x | _ => false)
  | .fld off k x => (match op with | .field s x' i => (match fieldOff P s i with | some (o, t) => o == off && aggK P t == some k | none => false) && cs dl x' x | _ => false)
  | .iad sz x i => (match op with | .indexAddr t x' i' => (match slElem P t with | some (_, inf) => inf.size == sz | none => false) && cs dl x' x && cs dl i' i | _ => false)
  | .ixs x i => (match op with | .index t x' i' => isStrT P t && cs dl x' x && cs dl i' i | _ => false)
  | .slc sz x lo hi mx => (match op with
    | .slice t x' lo' hi' mx' => (match slElem P t with | some (_, inf) => inf.size == sz | none => false) && cs dl x' x && csO dl lo' lo && csO dl hi' hi && csO dl mx' mx
    | _ => false)
  | .sls x lo hi => (match op with | .slice t x' lo' hi' none => isStrT P t && cs dl x' x && csO dl lo' lo && csO dl hi' hi | _ => false)
  | .ext x i => (match op with | .extract x' i' => i == i' && cs dl x' x | _ => false)
  | .mkf f fs cs' => (match op with | .makeFunc (.func f') fs' cs'' => f == f' && csL dl fs'.toList fs && csL dl cs''.toList cs' | _ => false)
  | .mks sz bt z l => (match op with
    | .makeSlice t l' c' => (match slElem P t with
      | some (_, i) => (match i.zero with | some zv => i.size == sz && i.bytes == bt && zv.cells.size == sz && kon z zv && cs dl l' l && cs dl c' l | none => false)
      | none => false)
    | _ => false)
  | .nck x => (match op with | .nilCheck x' => cs dl x' x | _ => false)
  | .len str x => (match op with
    | .call ⟨.builtin .len, args, ts⟩ => (match args.toList, ts.toList with | [x'], [t] => (if str then isStrT P t else (slElem P t).isSome) && cs dl x' x | _, _ => false)
    | _ => false)
  | .mnx mx x ys => (match op with
    | .call ⟨.builtin b, args, _⟩ => (b == if mx then .max else .min) && (match args.toList with | x' :: ys' => cs dl x' x && csL dl ys' ys | _ => false)
    | _ => false)
  | .app sz bt x y => (match op with
    | .call ⟨.builtin .append, args, ts⟩ => (match args.toList, ts.toList with
      | [x', y'], [t, tx] => (match slElem P t with
        | some (_, i) => (match i.zero with | some zv => i.size == sz && i.bytes == bt && decide (1 ≤ bt) && zv.cells.size == sz && (slElem P tx).isSome && cs dl x' x && cs dl y' y | none => false)
        | none => false)
      | _, _ => false)
    | _ => false)
  | .cpy sz x y => (match op with
    | .call ⟨.builtin .copy, args, ts⟩ => (match args.toList, ts.toList with
      | [x', y'], [t, tx] => (match slElem P t with | some (_, i) => i.size == sz | none => false) && (slElem P tx).isSome && cs dl x' x && cs dl y' y
      | _, _ => false)
    | _ => false)
  | .call _ f args => (match op with | .call ⟨.value f', args', _⟩ => cs dl f' f && csL dl args'.toList args | _ => false)
  | .mki t x => (match op with | .makeInterface t' x' => t == t' && isConcT P t' && cs dl x' x | _ => false)

theorem evI_sound {P : Program} {dl : List (Option Nat)} {L : Src → Option V} {H : Hp} {o : Oper} {i : Ins} {K : KI} (hc : chkI P dl o.op i = true) (h : evI P L H K i) : OpGood P dl L H o i K := by
  obtain ⟨dst, op, ty, pos, after, gu⟩ := o
  simp only at hc
  cases i <;> simp only [chkI] at hc
  case mov s =>
    split at hc
    · exact s_mov hc h
    · exact s_assign hc h
    · cases hc
  case same s =>
    split at hc
    · simp only [Bool.and_eq_true] at hc; exact s_same hc.1.1 (isStrT_some hc.1.2) hc.2 h
    · cases hc
  case pick =>
    split at hc
    · simp only [Bool.and_eq_true] at hc; exact s_pick hc.1.1 hc.1.2 hc.2 h
    · cases hc
  case bin =>
    split at hc
    · simp only [Bool.and_eq_true, beq_iff_eq] at hc; obtain ⟨⟨rfl, h1⟩, h2⟩ := hc; exact s_bin h1 h2 h
    · cases hc
  case eqb =>
    split at hc
    · simp only [Bool.and_eq_true] at hc; exact s_eqb hc.1.1.1 hc.1.1.2 hc.1.2 hc.2 h
    · cases hc
  case eqn =>
    split at hc
    · simp only [Bool.and_eq_true] at hc; exact s_eqn hc.1.1 (by simpa using hc.1.2) hc.2 h
    · cases hc
  case un =>
    split at hc
    · simp only [Bool.and_eq_true, beq_iff_eq] at hc; obtain ⟨rfl, h1⟩ := hc; exact s_un h1 h
    · cases hc
  case cvt =>
    split at hc
    · simp only [Bool.and_eq_true] at hc
      obtain ⟨ud, hu⟩ := Option.isSome_iff_exists.1 hc.1.1
      exact s_cvt hu (isIntT_some hc.1.2) hc.2 h
    · cases hc
  case bts =>
    split at hc
    · rename_i a b x'
      simp only [Bool.and_eq_true] at hc
      obtain ⟨⟨h1, h2⟩, h3⟩ := hc
      split at h1
      · rename_i e inf he
        obtain ⟨q1, q2⟩ := slElem_some he
        exact s_bts q1 (isU8T_some h1) (isStrT_some h2) h3 h
      · cases h1
    · cases hc
  case stb =>
    split at hc
    · rename_i a b x'
      simp only [Bool.and_eq_true] at hc
      obtain ⟨⟨h1, h2⟩, h3⟩ := hc
      obtain ⟨ud, hu⟩ := Option.isSome_iff_exists.1 h1
      split at h2
      · rename_i e inf he
        obtain ⟨q1, q2⟩ := slElem_some he
        exact s_stb hu q1 (isU8T_some h2) h3 h
      · cases h2
    · cases hc
  case alloc =>
    split at hc
    · split at hc
      · rename_i inf hi
        split at hc
        · rename_i zv hz; exact s_alloc hi hz hc h
        · cases hc
      · cases hc
    · cases hc
  case box =>
    split at hc
    · exact s_box hc h
    · cases hc
  case build =>
    split at hc
    · split at hc
      · rename_i places inf hp hi
        split at hc
        · rename_i zv hz
          simp only [Bool.and_eq_true] at hc
          exact s_build hp hi hz hc.1.1 hc.1.2 hc.2 h
        · cases hc
      · cases hc
    · cases hc
  case bsl =>
    split at hc
    · split at hc
      · rename_i e inf he
        obtain ⟨q1, q2⟩ := slElem_some he
        simp only [Bool.and_eq_true, beq_iff_eq, decide_eq_true_eq, bne_iff_ne, ne_eq] at hc
        obtain ⟨⟨⟨⟨⟨h1, h2⟩, h3⟩, h4⟩, h5⟩, h6⟩ := hc
        obtain ⟨zv, hz⟩ := Option.isSome_iff_exists.1 h2
        exact s_bsl q1 q2 h1 hz h3 h4 h5 h6 h
      · cases hc
    · cases hc
  case load =>
    split at hc
    · simp only [Bool.and_eq_true, beq_iff_eq] at hc; exact s_load hc.1 hc.2 h
    · cases hc
  case store =>
    split at hc
    · simp only [Bool.and_eq_true, beq_iff_eq] at hc; exact s_store hc.1.1 hc.1.2 hc.2 h
    · cases hc
  case fad =>
    split at hc
    · simp only [Bool.and_eq_true] at hc
      obtain ⟨h1, h2⟩ := hc
      split at h1
      · rename_i o t hf; simp at h1; subst h1; exact s_fad hf h2 h
      · cases h1
    · cases hc
  case fld =>
    split at hc
    · simp only [Bool.and_eq_true] at hc
      obtain ⟨h1, h2⟩ := hc
      split at h1
      · rename_i o t hf; simp only [Bool.and_eq_true, beq_iff_eq] at h1; obtain ⟨rfl, h1⟩ := h1; exact s_fld hf h1 h2 h
      · cases h1
    · cases hc
  case iad =>
    split at hc
    · simp only [Bool.and_eq_true] at hc
      obtain ⟨⟨h1, h2⟩, h3⟩ := hc
      split at h1
      · rename_i e inf he
        obtain ⟨q1, q2⟩ := slElem_some he
        exact s_iad q1 q2 (by simpa using h1) h2 h3 h
      · cases h1
    · cases hc
  case ixs =>
    split at hc
    · simp only [Bool.and_eq_true] at hc; exact s_ixs (isStrT_some hc.1.1) hc.1.2 hc.2 h
    · cases hc
  case slc =>
    split at hc
    · simp only [Bool.and_eq_true] at hc
      obtain ⟨⟨⟨⟨h1, h2⟩, h3⟩, h4⟩, h5⟩ := hc
      split at h1
      · rename_i e inf he
        obtain ⟨q1, q2⟩ := slElem_some he
        exact s_slc q1 q2 (by simpa using h1) h2 h3 h4 h5 h
      · cases h1
    · cases hc
  case sls =>
    split at hc
    · simp only [Bool.and_eq_true] at hc
      exact s_sls (isStrT_some hc.1.1.1) hc.1.1.2 hc.1.2 hc.2 h
    · cases hc
  case ext =>
    split at hc
    · simp only [Bool.and_eq_true, beq_iff_eq] at hc; obtain ⟨rfl, h1⟩ := hc; exact s_ext h1 h
    · cases hc
  case mkf =>
    split at hc
    · simp only [Bool.and_eq_true, beq_iff_eq] at hc; obtain ⟨⟨rfl, h1⟩, h2⟩ := hc; exact s_mkf h1 h2 h
    · cases hc
  case mks =>
    split at hc
    · split at hc
      · rename_i e inf he
        obtain ⟨q1, q2⟩ := slElem_some he
        split at hc
        · rename_i zv hz
          simp only [Bool.and_eq_true, beq_iff_eq] at hc
          obtain ⟨⟨⟨⟨⟨h1, h2⟩, h3⟩, h4⟩, h5⟩, h6⟩ := hc
          exact s_mks q1 q2 h1 h2 hz h3 h4 h5 h6 h
        · cases hc
      · cases hc
    · cases hc
  case nck =>
    split at hc
    · exact s_nck hc h
    · cases hc
  case len str x =>
    split at hc
    · rename_i args ts
      split at hc
      · rename_i x' t ha hts
        simp only [Bool.and_eq_true] at hc
        have e1 : args = #[x'] := by apply Array.ext'; simpa using ha
        have e2 : ts = #[t] := by apply Array.ext'; simpa using hts
        subst e1; subst e2
        refine s_len ?_ hc.2 h
        cases str
        · simp only [Bool.false_eq_true, if_false] at hc ⊢
          obtain ⟨⟨e, inf⟩, he⟩ := Option.isSome_iff_exists.1 hc.1
          exact ⟨e, (slElem_some he).1⟩
        · simp only [if_true] at hc ⊢; exact isStrT_some hc.1
      · cases hc
    · cases hc
  case mnx mx x ys =>
    split at hc
    · rename_i b args ts
      simp only [Bool.and_eq_true] at hc
      obtain ⟨h1, h2⟩ := hc
      split at h2
      · rename_i x' ys' ha
        simp only [Bool.and_eq_true] at h2
        have e1 : args = (x' :: ys').toArray := by apply Array.ext'; simpa using ha
        subst e1
        have e2 : b = if mx then .max else .min := by simpa using h1
        subst e2
        exact s_mnx h2.1 h2.2 h
      · cases h2
    · cases hc
  case app =>
    split at hc
    · rename_i args ts
      split at hc
      · rename_i x' y' t tx ha hts
        have e1 : args = #[x', y'] := by apply Array.ext'; simpa using ha
        have e2 : ts = #[t, tx] := by apply Array.ext'; simpa using hts
        subst e1; subst e2
        split at hc
        · rename_i e inf he
          obtain ⟨q1, q2⟩ := slElem_some he
          split at hc
          · rename_i zv hz
            simp only [Bool.and_eq_true, beq_iff_eq, decide_eq_true_eq] at hc
            obtain ⟨⟨⟨⟨⟨⟨h1, h2⟩, h3⟩, h4⟩, h5⟩, h6⟩, h7⟩ := hc
            obtain ⟨⟨e', inf'⟩, he'⟩ := Option.isSome_iff_exists.1 h5
            exact s_app q1 ⟨e', (slElem_some he').1⟩ q2 h1 h2 h3 hz h4 h6 h7 h
          · cases hc
        · cases hc
      · cases hc
    · cases hc
  case cpy =>
    split at hc
    · rename_i args ts
      split at hc
      · rename_i x' y' t tx ha hts
        have e1 : args = #[x', y'] := by apply Array.ext'; simpa using ha
        have e2 : ts = #[t, tx] := by apply Array.ext'; simpa using hts
        subst e1; subst e2
        simp only [Bool.and_eq_true] at hc
        obtain ⟨⟨⟨h1, h2⟩, h3⟩, h4⟩ := hc
        obtain ⟨⟨e', inf'⟩, he'⟩ := Option.isSome_iff_exists.1 h2
        split at h1
        · rename_i e inf he
          obtain ⟨q1, q2⟩ := slElem_some he
          exact s_cpy q1 ⟨e', (slElem_some he').1⟩ q2 (by simpa using h1) h3 h4 h
        · cases h1
      · cases hc
    · cases hc
  case call pure f args =>
    split at hc
    · simp only [Bool.and_eq_true] at hc
      cases pure
      · exact s_calli hc.1 hc.2 h
      · exact s_callp hc.1 hc.2 h
    · cases hc
  case mki =>
    split at hc
    · simp only [Bool.and_eq_true, beq_iff_eq] at hc
      obtain ⟨⟨rfl, h1⟩, h2⟩ := hc
      exact s_mki (isConcT_some h1) h2 h
    · cases hc

end Go.Proofs.Ytickdhdlljhomaa.Ev
