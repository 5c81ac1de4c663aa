/-
  The evaluator once more, in steps that rewrite well: no step hides the rest of the code under a binder.
-/
import Derived.Test.YtickdhdlljhomaaEv16
set_option linter.unusedSimpArgs false
set_option linter.unusedVariables false
namespace Go.Proofs.Ytickdhdlljhomaa.Ev
open Go

abbrev Rs := Option (Prop × V × List Nat × List (Nat × Option Ob) × Nat)
def okc (c : Prop) (v : V) : Rs := some (c, v, [], [], 0)
def fin (o : Rs) (K : KI) : Prop := match o with | some (c, v, fp, ds, k) => c ∧ K v fp ds k | none => False

def intO (op : BinOp) (k : IntKind) (a : Int) (k' : IntKind) (b : Int) : Rs :=
  match op with
  | .shl => okc (0 ≤ b) (.int k (k.wrap (a * 2 ^ min b.toNat k.bits)))
  | .shr => okc (0 ≤ b) (.int k (a.fdiv (2 ^ min b.toNat k.bits)))
  | .add => okc (k = k') (.int k (k.wrap (a + b)))
  | .sub => okc (k = k') (.int k (k.wrap (a - b)))
  | .mul => okc (k = k') (.int k (k.wrap (a * b)))
  | .quo => okc (k = k' ∧ b ≠ 0) (.int k (k.wrap (a.tdiv b)))
  | .rem => okc (k = k' ∧ b ≠ 0) (.int k (a.tmod b))
  | .and => okc (k = k') (.int k (bits2 .and k a b))
  | .or => okc (k = k') (.int k (bits2 .or k a b))
  | .xor => okc (k = k') (.int k (bits2 .xor k a b))
  | .andNot => okc (k = k') (.int k (bits2 .andNot k a b))
  | .eql => okc (k = k') (.bool (decide (a = b)))
  | .neq => okc (k = k') (.bool (!decide (a = b)))
  | .lss => okc (k = k') (.bool (decide (a < b)))
  | .leq => okc (k = k') (.bool (decide (a ≤ b)))
  | .gtr => okc (k = k') (.bool (decide (b < a)))
  | .geq => okc (k = k') (.bool (decide (b ≤ a)))

def strO (op : BinOp) (a b : List UInt8) : Rs :=
  match op with
  | .add => okc (a.length + b.length ≤ 9223372036854775807) (.str (a ++ b))
  | .eql => okc True (.bool (decide (a = b)))
  | .neq => okc True (.bool (!decide (a = b)))
  | .lss => okc True (.bool (Op.bytesLess a b))
  | .leq => okc True (.bool (Op.bytesLess a b || a == b))
  | .gtr => okc True (.bool !(Op.bytesLess a b || a == b))
  | .geq => okc True (.bool !(Op.bytesLess a b))
  | _ => none

def binO (op : BinOp) (x y : V) : Rs :=
  match x, y with
  | .int k a, .int k' b => intO op k a k' b
  | .str a, .str b => strO op a b
  | _, _ => none

def consL (o : Option V) (r : Option (List V)) : Option (List V) := match o with | some v => (match r with | some vs => some (v :: vs) | none => none) | none => none
theorem consL_s {v : V} {vs : List V} : consL (some v) (some vs) = some (v :: vs) := rfl
def lk (L : Src → Option V) : List Src → Option (List V)
  | [] => some []
  | s :: ss => consL (L s) (lk L ss)
/-- A bound that may be left out. -/
def lo1 (L : Src → Option V) : Option Src → Option (Option V)
  | none => some none
  | some s => match L s with | some v => some (some v) | none => none

def andO (c : Prop) (o : Option (Prop × V)) : Option (Prop × V) := match o with | some (c', r) => some (c ∧ c', r) | none => none
theorem andO_s {c c' : Prop} {r : V} : andO c (some (c', r)) = some (c ∧ c', r) := rfl
def bldV : List V → List (Nat × Nat × Src) → List V → Option (Prop × V)
  | z, [], _ => some (True, .agg z)
  | z, (off, sz, _) :: ps, v :: vs => andO (v.size = sz ∧ v.parts.all V.cell = true ∧ off + sz ≤ z.length) (bldV (splice z off v.parts) ps vs)
  | _, _ :: _, [] => none
def bldO (L : Src → Option V) (z : List V) (ps : List (Nat × Nat × Src)) : Option (Prop × V) :=
  match lk L (ps.map fun p => p.2.2) with | some vs => bldV z ps vs | none => none

def bndO (d : Int) : Option V → Option Int
  | none => some d
  | some (.int _ n) => some n
  | _ => none

def slcO (sz : Nat) (H : Hp) (x : V) (lo hi mx : Option V) : Rs :=
  match x with
  | .fsl st sz' l => (match bndO 0 lo with
    | some a => (match bndO l.length hi with
      | some b => (match mx with
        | none => okc (sz' = sz ∧ 0 ≤ a ∧ 0 ≤ b ∧ a ≤ b ∧ b ≤ l.length) (.fsl (slSt st l.length b.toNat none) sz ((l.take b.toNat).drop a.toNat))
        | some (.int _ c) => okc (sz' = sz ∧ 0 ≤ a ∧ 0 ≤ b ∧ 0 ≤ c ∧ hi ≠ none ∧ a ≤ b ∧ b ≤ c ∧ c ≤ l.length) (.fsl (slSt st l.length b.toNat (some c.toNat)) sz ((l.take b.toNat).drop a.toNat))
        | _ => none)
      | none => none)
    | none => none)
  | .sl id off len => (match H.m id with
    | some (.arr sz' _) => (match mx with
      | none => (match bndO 0 lo with
        | some a => (match bndO len hi with
          | some b => some (sz' = sz ∧ 0 ≤ a ∧ 0 ≤ b ∧ a ≤ b ∧ b ≤ len, .sl id (off + a.toNat) (b.toNat - a.toNat), [id], [], 0)
          | none => none)
        | none => none)
      | some _ => none)
    | _ => none)
  | _ => none

def slsO (x : V) (lo hi : Option V) : Rs :=
  match x with
  | .str s => (match bndO 0 lo with
    | some a => (match bndO s.length hi with
      | some b => okc (0 ≤ a ∧ 0 ≤ b ∧ a ≤ b ∧ b ≤ s.length) (.str ((s.take b.toNat).drop a.toNat))
      | none => none)
    | none => none)
  | _ => none

def mnxO (mx : Bool) (k : IntKind) (a : Int) : List V → Option Int
  | [] => some a
  | .int k' b :: ys => if k' = k then mnxO mx k (if mx then max a b else min a b) ys else none
  | _ :: _ => none

def appO (H : Hp) (sz bt : Nat) (x y : V) : Rs :=
  match rd H.m y with
  | none => none
  | some (sz', ys) => (match x with
    | .fsl st sz'' l => (match ys with
      | [] => some (sz' = sz ∧ sz'' = sz, x, fpS y, [], 0)
      | ys => some (sz' = sz ∧ sz'' = sz ∧ (st ≠ .loose ∧ st ≠ .nn) ∧ (l.length + ys.length) * bt ≤ 140737488355328, .sl H.n 0 (l.length + ys.length), fpS y, [(H.n, some (.arr sz (l ++ ys)))], 1))
    | .sl id off len => (match H.m id with
      | some (.arr sz'' l) => some (sz' = sz ∧ sz'' = sz ∧ off = 0 ∧ len ≤ l.length ∧ (len + ys.length) * bt ≤ 140737488355328, .sl H.n 0 (len + ys.length), id :: fpS y, [(id, none), (H.n, some (.arr sz (l.take len ++ ys)))], 1)
      | _ => none)
    | _ => none)

def cpyO (H : Hp) (sz : Nat) (x y : V) : Rs :=
  match rd H.m y with
  | none => none
  | some (sz', ys) => (match x with
    | .sl id off len => (match H.m id with
      | some (.arr sz'' l) => some (sz' = sz ∧ sz'' = sz ∧ off + len ≤ l.length, .int .i64 ((min ys.length len : Nat) : Int), id :: fpS y, [(id, some (.arr sz (l.take off ++ ys.take len ++ l.drop (off + min ys.length len))))], 0)
      | _ => none)
    | .fsl _ _ [] => some (sz' = sz, .int .i64 0, fpS y, [], 0)
    | _ => none)

def opI (L : Src → Option V) (H : Hp) : Ins → Rs
  | .mov x => (match L x with | some v => okc True v | none => none)
  | .same x => (match L x with | some (.str s) => okc True (.str s) | _ => none)
  | .pick c x y => (match L c with
    | some (.bool c) => (match L x, L y with
      | some (.bool a), some (.bool b) => okc True (.bool (if c = true then a else b))
      | some u, some v => (match c with | true => okc True u | false => okc True v)
      | _, _ => none)
    | _ => none)
  | .bin op x y => (match L x with | some a => (match L y with | some b => binO op a b | none => none) | none => none)
  | .eqb neg x y => (match L x, L y with
    | some (.bool a), some (.bool b) => okc True (.bool (if neg then !(a == b) else a == b))
    | _, _ => none)
  | .eqn neg kd x => (match L x with
    | some a => (match isNil kd a with
      | some b => okc True (.bool (if neg then !b else b))
      | none => none)
    | none => none)
  | .un op x => (match op, L x with
    | .not, some (.bool b) => okc True (.bool !b)
    | .neg, some (.int k n) => okc True (.int k (k.wrap (0 - n)))
    | .xor, some (.int k n) => okc True (.int k (bits2 .xor k (if k.signed then -1 else k.max) n))
    | _, _ => none)
  | .cvt k x => (match L x with | some (.int _ n) => okc True (.int k (k.wrap n)) | _ => none)
  | .stb x => (match L x with | some (.str s) => okc True (.fsl .loose 1 (s.map fun b => .int .u8 b.toNat)) | _ => none)
  | .alloc sz z => some (z.size = sz ∧ z.isEl = true, .ptr H.n 0 0, [], [(H.n, some (.arr sz [z]))], 1)
  | .box sz x => (match L x with | some v => some (v.size = sz ∧ v.isEl = true, .ptr H.n 0 0, [], [(H.n, some (.arr sz [v]))], 1) | none => none)
  | .build z ps => (match bldO L z ps with | some (c, v) => okc c v | none => none)
  | .bsl sz ps => (match lk L ps with | some vs => okc (∀ v ∈ vs, v.size = sz ∧ v.isEl = true) (.fsl .full sz vs) | none => none)
  | .load k a => (match L a with
    | some (.fptr e off) => (match getC k off e with | some v => okc True v | none => none)
    | some (.ptr id i off) => (match H.m id with
      | some (.arr _ l) => (match l[i]? with | some e => (match getC k off e with | some v => some (True, v, [id], [], 0) | none => none) | none => none)
      | _ => none)
    | _ => none)
  | .store k a x => (match L a, L x with
    | some (.ptr id i off), some x => (match H.m id with
      | some (.arr sz l) => (match l[i]? with | some e => (match setC k off e x with | some e' => some (True, .tup [], [id], [(id, some (.arr sz (l.set i e')))], 0) | none => none) | none => none)
      | _ => none)
    | _, _ => none)
  | .fad off x => (match L x with
    | some (.fptr e o) => okc True (.fptr e (o + off))
    | some (.ptr id i o) => okc True (.ptr id i (o + off))
    | _ => none)
  | .fld off k x => (match L x with
    | some (.agg l) => (match getC k off (.agg l) with | some v => okc True v | none => none)
    | _ => none)
  | .iad sz x i => (match L x, L i with
    | some (.fsl _ sz' l), some (.int _ n) => (match l[n.toNat]? with | some e => okc (sz' = sz ∧ 0 ≤ n) (.fptr e 0) | none => none)
    | some (.sl id off len), some (.int _ n) => (match H.m id with
      | some (.arr sz' _) => some (sz' = sz ∧ 0 ≤ n ∧ n < len, .ptr id (off + n.toNat) 0, [id], [], 0)
      | _ => none)
    | _, _ => none)
  | .ixs x i => (match L x, L i with
    | some (.str s), some (.int _ n) => (match s[n.toNat]? with | some b => okc (0 ≤ n) (.int .u8 b.toNat) | none => none)
    | _, _ => none)
  | .slc sz x lo hi mx => (match L x, lo1 L lo, lo1 L hi, lo1 L mx with
    | some x, some lo, some hi, some mx => slcO sz H x lo hi mx
    | _, _, _, _ => none)
  | .sls x lo hi => (match L x, lo1 L lo, lo1 L hi with
    | some x, some lo, some hi => slsO x lo hi
    | _, _, _ => none)
  | .ext x i => (match L x with
    | some (.tup l) => (match l[i]? with | some v => okc True v | none => none)
    | _ => none)
  | .mkf f fs cs => (match lk L fs, lk L cs with | some fs, some cs => okc True (.fn f fs cs) | _, _ => none)
  | .mks sz bt z l => (match L l with
    | some (.int .i64 n) => some (0 ≤ n ∧ n ≤ 9223372036854775807 ∧ bt * n ≤ 281474976710656 ∧ z.size = sz ∧ z.isEl = true, .sl H.n 0 n.toNat, [], [(H.n, some (.arr sz (List.replicate n.toNat z)))], 1)
    | _ => none)
  | .nck x => (match L x with
    | some (.ptr a b c) => okc True (.ptr a b c)
    | some (.fptr a b) => okc True (.fptr a b)
    | _ => none)
  | .len str x => (match str, L x with
    | true, some (.str s) => okc True (.int .i64 s.length)
    | false, some (.fsl _ _ l) => okc True (.int .i64 l.length)
    | false, some (.sl _ _ len) => okc True (.int .i64 len)
    | _, _ => none)
  | .mnx mx x ys => (match L x, lk L ys with
    | some (.int k n), some ys => (match mnxO mx k n ys with | some r => okc True (.int k r) | none => none)
    | _, _ => none)
  | .app sz bt x y => (match L x, L y with | some x, some y => appO H sz bt x y | _, _ => none)
  | .cpy sz x y => (match L x, L y with | some x, some y => cpyO H sz x y | _, _ => none)
  | .mki t x => (match L x with | some v => okc True (.ifc t v) | none => none)
  | .bts _ => none
  | .call _ _ _ => none

theorem lk_sound {L : Src → Option V} : ∀ {ss : List Src} {vs : List V} {K : List V → Prop}, lk L ss = some vs → K vs → wvs L ss K
  | [], vs, K, h, k => by simp [lk] at h; subst h; simpa [wvs] using k
  | s :: ss, vs, K, h, k => by
    simp only [lk, consL] at h
    split at h
    · rename_i v hv
      split at h
      · rename_i us hus
        simp at h; subst h
        simp only [wvs, hv, wv]
        exact lk_sound (K := fun us => K (v :: us)) hus k
      · cases h
    · cases h

theorem lo1_sound {L : Src → Option V} {o : Option Src} {v : Option V} {K : Option V → Prop} (h : lo1 L o = some v) (k : K v) : wo L o K := by
  cases o with
  | none => simp [lo1] at h; subst h; exact k
  | some s =>
    simp only [lo1] at h
    split at h
    · rename_i u hu; simp at h; subst h; simpa [wo, hu, wv] using k
    · cases h

theorem bldO_sound {L : Src → Option V} : ∀ {ps : List (Nat × Nat × Src)} {z : List V} {c : Prop} {v : V} {K : V → Prop}, bldO L z ps = some (c, v) → c → K v → evBuild L z ps K
  | [], z, c, v, K, h, _, k => by simp [bldO, lk, bldV] at h; obtain ⟨_, rfl⟩ := h; simpa [evBuild] using k
  | (off, sz, s) :: ps, z, c, v, K, h, hc, k => by
    simp only [bldO, List.map_cons, lk, consL] at h
    cases hu : L s with
    | none => simp [hu] at h
    | some u =>
      cases hr : lk L (ps.map fun p => p.2.2) with
      | none => simp [hu, hr] at h
      | some us =>
        simp only [hu, hr, bldV] at h
        cases hb : bldV (splice z off u.parts) ps us with
        | none => simp [hb, andO] at h
        | some q =>
          obtain ⟨c', r⟩ := q
          simp only [hb, andO, Option.some.injEq, Prod.mk.injEq] at h
          obtain ⟨rfl, rfl⟩ := h
          simp only [evBuild, hu, wv]
          exact ⟨hc.1.1, hc.1.2.1, hc.1.2.2, bldO_sound (by simp only [bldO, hr]; exact hb) hc.2 k⟩

theorem bndO_sound {d : Nat} {o : Option V} {a : Int} {K : Nat → Prop} (h : bndO d o = some a) (h0 : 0 ≤ a) (k : K a.toNat) : bnd d o K := by
  cases o with
  | none => simp [bndO] at h; subst h; simpa [bnd] using k
  | some v =>
    cases v <;> simp only [bndO] at h <;> try (cases h; done)
    simp at h; subst h; exact ⟨h0, k⟩

theorem mnxO_sound {mx : Bool} {K : V → Prop} {k : IntKind} : ∀ {ys : List V} {a r : Int}, mnxO mx k a ys = some r → K (.int k r) → mnxV mx (.int k a) ys K
  | [], a, r, h, hk => by simp [mnxO] at h; subst h; simpa [mnxV] using hk
  | y :: ys, a, r, h, hk => by
    cases y <;> simp only [mnxO] at h <;> try (cases h; done)
    rename_i k' b
    split at h
    · rename_i e; subst e
      simp only [mnxV]
      refine ⟨trivial, ?_⟩
      have e : (if mx = true then (if b > a then b else a) else (if b < a then b else a)) = (if mx = true then max a b else min a b) := by
        cases mx <;> simp <;> split <;> omega
      rw [e]
      exact mnxO_sound h hk
    · cases h

theorem beqd {α : Type} [BEq α] [LawfulBEq α] [DecidableEq α] (a b : α) : (a == b) = decide (a = b) := by
  by_cases h : a = b <;> simp [h]

theorem binO_sound {op : BinOp} {x y : V} {K : KI} (h : fin (binO op x y) K) : evBin op x y fun v => K v [] [] 0 := by
  unfold binO at h
  split at h
  · simp only [evBin]
    cases op <;> simpa [intO, intBin, fin, okc, and_assoc, beqd, bne] using h
  · simp only [evBin]
    cases op <;> first | exact h.elim | simpa [strO, strBin, fin, okc, and_assoc, beqd, bne] using h
  · exact h.elim

def slcP (sz : Nat) (H : Hp) (x : V) (lo hi mx : Option V) (K : KI) : Prop :=
  match x with
  | .sl id off len => (match H.m id with | some (.arr sz' _) => sz' = sz ∧ evSlc sz (.sl id off len) lo hi mx fun v => K v [id] [] 0 | _ => False)
  | a => evSlc sz a lo hi mx fun v => K v [] [] 0
theorem slcO_sound {sz : Nat} {H : Hp} {x : V} {lo hi mx : Option V} {K : KI} (h : fin (slcO sz H x lo hi mx) K) : slcP sz H x lo hi mx K := by
  cases x <;> simp only [slcO] at h <;> try exact h.elim
  · rename_i id off len
    simp only [slcP]
    split at h
    · rename_i sz' l hm
      split at h
      · split at h
        · rename_i a ha
          split at h
          · rename_i b hb
            simp only [fin] at h
            obtain ⟨⟨e1, e2, e3, e4, e5⟩, k⟩ := h
            refine ⟨e1, ?_⟩
            simp only [evSlc]
            exact bndO_sound ha e2 (bndO_sound hb e3 ⟨by omega, by omega, k⟩)
          · exact h.elim
        · exact h.elim
      · exact h.elim
    · exact h.elim
  · rename_i st sz' l
    simp only [slcP]
    split at h
    · rename_i a ha
      split at h
      · rename_i b hb
        split at h
        · simp only [fin, okc] at h
          obtain ⟨⟨e1, e2, e3, e4, e5⟩, k⟩ := h
          simp only [evSlc]
          exact ⟨e1, bndO_sound ha e2 (bndO_sound hb e3 ⟨by omega, by omega, k⟩)⟩
        · simp only [fin, okc] at h
          obtain ⟨⟨e1, e2, e3, e4, e5, e6, e7, e8⟩, k⟩ := h
          simp only [evSlc]
          exact ⟨e1, bndO_sound ha e2 (bndO_sound hb e3 ⟨e4, e5, by omega, by omega, by omega, k⟩)⟩
        · exact h.elim
      · exact h.elim
    · exact h.elim

theorem slsO_sound {x : V} {lo hi : Option V} {K : KI} (h : fin (slsO x lo hi) K) : evSls x lo hi fun v => K v [] [] 0 := by
  cases x <;> simp only [slsO] at h <;> try exact h.elim
  split at h
  · rename_i a ha
    split at h
    · rename_i b hb
      simp only [fin, okc] at h
      obtain ⟨⟨e2, e3, e4, e5⟩, k⟩ := h
      simp only [evSls]
      exact bndO_sound ha e2 (bndO_sound hb e3 ⟨by omega, by omega, k⟩)
    · exact h.elim
  · exact h.elim

theorem opI_sound {P : Program} {L : Src → Option V} {H : Hp} {K : KI} : ∀ (i : Ins), fin (opI L H i) K → evI P L H K i := by
  intro i h
  cases i <;> simp only [opI] at h <;> simp only [evI] <;> try exact h.elim
  case mov x => split at h; · rename_i v hv; simpa [hv, wv, fin, okc] using h
                · exact h.elim
  case same x => split at h; · rename_i v hv; simpa [hv, wv, fin, okc] using h
                 · exact h.elim
  case pick c x y =>
    split at h
    · rename_i c hc
      simp only [hc, wv]
      split at h
      · rename_i a b h1 h2
        cases c <;> simpa [h1, h2, wv, fin, okc] using h
      · rename_i u v hn h1 h2
        cases c <;> simpa [h1, h2, wv, fin, okc] using h
      · exact h.elim
    · exact h.elim
  case bin op x y =>
    split at h
    · rename_i a ha
      split at h
      · rename_i b hb
        simp only [ha, hb, wv]
        exact binO_sound h
      · exact h.elim
    · exact h.elim
  case eqb neg x y =>
    split at h
    · rename_i a b h1 h2; simpa [h1, h2, wv, fin, okc] using h
    · exact h.elim
  case eqn neg kd x =>
    split at h
    · rename_i a h1
      split at h
      · rename_i b h2; simpa [h1, h2, wv, fin, okc] using h
      · exact h.elim
    · exact h.elim
  case un op x =>
    split at h <;> first | exact h.elim | (rename_i h1; simpa [h1, wv, fin, okc] using h) | (rename_i h1 h2; simpa [h1, h2, wv, fin, okc] using h)
  case cvt k x =>
    split at h
    · rename_i h1; simpa [h1, wv, fin, okc] using h
    · exact h.elim
  case stb x =>
    split at h
    · rename_i h1; simpa [h1, wv, fin, okc] using h
    · exact h.elim
  case alloc sz z => simpa [fin, and_assoc] using h
  case box sz x =>
    split at h
    · rename_i h1; simpa [h1, wv, fin, and_assoc] using h
    · exact h.elim
  case build z ps =>
    split at h
    · rename_i c v h1
      simp only [fin, okc] at h
      exact bldO_sound h1 h.1 h.2
    · exact h.elim
  case bsl sz ps =>
    split at h
    · rename_i vs h1
      simp only [fin, okc] at h
      exact lk_sound h1 h
    · exact h.elim
  case load k a =>
    split at h
    · rename_i e off h1
      split at h
      · rename_i v h2; simpa [h1, h2, wv, fin, okc] using h
      · exact h.elim
    · rename_i id i off h1
      split at h
      · rename_i l h2
        split at h
        · rename_i e h3
          split at h
          · rename_i v h4; simpa [h1, h2, h3, h4, wv, fin, okc] using h
          · exact h.elim
        · exact h.elim
      · exact h.elim
    · exact h.elim
  case store k a x =>
    split at h
    · rename_i id i off x h1 h0
      split at h
      · rename_i l h2
        split at h
        · rename_i e h3
          split at h
          · rename_i v h4; simpa [h1, h0, h2, h3, h4, wv, fin, okc] using h
          · exact h.elim
        · exact h.elim
      · exact h.elim
    · exact h.elim
  case fad off x =>
    split at h
    · rename_i h1; simpa [h1, wv, fin, okc] using h
    · rename_i h1; simpa [h1, wv, fin, okc] using h
    · exact h.elim
  case fld off k x =>
    split at h
    · rename_i l h1
      split at h
      · rename_i v h2; simpa [h1, h2, wv, fin, okc] using h
      · exact h.elim
    · exact h.elim
  case iad sz x i =>
    split at h
    · rename_i h1 h2
      split at h
      · rename_i e h3; simpa [h1, h2, h3, wv, fin, okc, and_assoc] using h
      · exact h.elim
    · rename_i h1 h2
      split at h
      · rename_i h3
        simp only [fin] at h
        obtain ⟨⟨e1, e2, e3⟩, k⟩ := h
        simp only [h1, h2, wv]
        refine ⟨e2, e3, ?_⟩
        simp only [h3]
        exact ⟨e1, k⟩
      · exact h.elim
    · exact h.elim
  case ixs x i =>
    split at h
    · rename_i h1 h2
      split at h
      · rename_i b h3; simpa [h1, h2, h3, wv, fin, okc, and_assoc] using h
      · exact h.elim
    · exact h.elim
  case slc sz x lo hi mx =>
    split at h
    · rename_i x lo hi mx h1 h2 h3 h4
      simp only [h1, wv]
      refine lo1_sound h2 (lo1_sound h3 (lo1_sound h4 ?_))
      have k := slcO_sound h
      cases x <;> exact k
    · exact h.elim
  case sls x lo hi =>
    split at h
    · rename_i x lo hi h1 h2 h3
      simp only [h1, wv]
      exact lo1_sound h2 (lo1_sound h3 (slsO_sound h))
    · exact h.elim
  case ext x i =>
    split at h
    · rename_i l h1
      split at h
      · rename_i v h2; simpa [h1, h2, wv, fin, okc] using h
      · exact h.elim
    · exact h.elim
  case mkf f fs cs =>
    split at h
    · rename_i fs cs h1 h2
      simp only [fin, okc, true_and] at h
      exact lk_sound h1 (lk_sound h2 h)
    · exact h.elim
  case mks sz bt z l =>
    split at h
    · rename_i n h1
      simp only [fin] at h
      obtain ⟨⟨e1, e2, e3, e4, e5⟩, k⟩ := h
      simp only [h1, wv]
      exact ⟨e1, e2, e3, e4, e5, k⟩
    · exact h.elim
  case nck x =>
    split at h
    · rename_i h1; simpa [h1, wv, fin, okc] using h
    · rename_i h1; simpa [h1, wv, fin, okc] using h
    · exact h.elim
  case len str x =>
    split at h
    · rename_i h1; simpa [h1, wv, fin, okc] using h
    · rename_i h1; simpa [h1, wv, fin, okc] using h
    · rename_i h1; simpa [h1, wv, fin, okc] using h
    · exact h.elim
  case mnx mx x ys =>
    split at h
    · rename_i k n ys h1 h2
      split at h
      · rename_i r h3
        simp only [fin, okc, true_and] at h
        simp only [h1, wv]
        exact lk_sound h2 ⟨⟨k, n, rfl⟩, mnxO_sound h3 h⟩
      · exact h.elim
    · exact h.elim
  case app sz bt x y =>
    split at h
    · rename_i x y h1 h2
      simp only [h1, h2, wv]
      unfold appO at h
      split at h
      · exact h.elim
      · rename_i sz' ys h3
        simp only [h3]
        split at h
        · rename_i st sz'' l
          split at h
          · simp only [fin] at h
            exact ⟨h.1.1, h.1.2, h.2⟩
          · rename_i hne
            simp only [fin] at h
            obtain ⟨⟨e1, e2, e3, e4⟩, k⟩ := h
            refine ⟨e1, e2, ?_⟩
            cases ys with
            | nil => exact (hne rfl).elim
            | cons y ys => exact ⟨e3, e4, k⟩
        · rename_i id off len
          split at h
          · rename_i sz'' l h4
            simp only [fin] at h
            obtain ⟨⟨e1, e2, e3, e4, e5⟩, k⟩ := h
            simp only [h4]
            exact ⟨e1, e2, e3, e4, e5, k⟩
          · exact h.elim
        · exact h.elim
    · exact h.elim
  case cpy sz x y =>
    split at h
    · rename_i x y h1 h2
      simp only [h1, h2, wv]
      unfold cpyO at h
      split at h
      · exact h.elim
      · rename_i sz' ys h3
        simp only [h3]
        split at h
        · rename_i id off len
          split at h
          · rename_i sz'' l h4
            simp only [fin] at h
            obtain ⟨⟨e1, e2, e3⟩, k⟩ := h
            simp only [h4]
            exact ⟨e1, e2, e3, k⟩
          · exact h.elim
        · simp only [fin] at h
          exact ⟨h.1, h.2⟩
        · exact h.elim
    · exact h.elim
  case mki t x =>
    split at h
    · rename_i h1; simpa [h1, wv, fin, okc] using h
    · exact h.elim

end Go.Proofs.Ytickdhdlljhomaa.Ev
