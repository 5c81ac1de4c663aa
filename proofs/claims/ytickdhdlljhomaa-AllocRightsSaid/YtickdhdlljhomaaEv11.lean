/-
  Regions in the order of the text.
-/
import Derived.Test.YtickdhdlljhomaaEv10
set_option linter.unusedSimpArgs false
set_option linter.unusedVariables false
namespace Go.Proofs.Ytickdhdlljhomaa.Ev
open Go

/-- What the temporaries hold in a region. -/
structure RG (g : G) (σ : Sg) (dl : List (Option Nat)) (env : List V) (a : Act) (N : Nat) : Prop where
  eR : ∀ t d v, fnd t dl = some d → nth d env = some v → R g v (a.tmps.getD t undef)
  vR : ∀ t v, fnd t dl = none → find t σ = some v → R g v (a.tmps.getD t undef)
  lenE : env.length = dl.length
  sizeA : a.tmps.size = N
  defs : a.defers = []

theorem RG.rel {g : G} {σ : Sg} {dl : List (Option Nat)} {env : List V} {a : Act} {N : Nat} (h : RG g σ dl env a N) (xs : List Operand) : Rel dl (look σ env) xs g a := by
  intro x _ s v hc hl
  cases x with
  | tmp t =>
    cases s <;> simp only [cs] at hc <;> try (cases hc; done)
    · simp at hc; exact h.eR _ _ _ hc hl
    · simp at hc; obtain ⟨rfl, hc⟩ := hc; exact h.vR _ _ hc hl
  | const c =>
    cases s <;> simp only [cs] at hc <;> try (cases hc; done)
    simp only [look] at hl; cases hl; exact kon_R g _ _ hc
  | global _ => cases s <;> simp [cs] at hc
  | func f =>
    cases s <;> try (simp [cs] at hc; done)
    rename_i c
    simp only [look] at hl; cases hl
    cases v <;> try (simp [cs] at hc; done)
    rename_i f' fs cs'
    cases fs <;> cases cs' <;> simp [cs] at hc
    subst hc
    simp only [R, Act.eval]; exact ⟨#[], #[], rfl, by simp [RC], by simp [RC]⟩

theorem nth_lt {d : Nat} {env : List V} (h : d < env.length) : ∃ v, nth d env = some v := by
  induction env generalizing d with
  | nil => simp at h
  | cons v env ih => cases d with
    | zero => exact ⟨v, rfl⟩
    | succ d => simp at h; exact ih h

theorem fnd_lt {t d : Nat} {dl : List (Option Nat)} (h : fnd t dl = some d) : d < dl.length := by
  induction dl generalizing d with
  | nil => simp [fnd] at h
  | cons o dl ih =>
    cases o with
    | none =>
      simp only [fnd] at h
      cases hf : fnd t dl with
      | none => simp [hf] at h
      | some d' => simp [hf] at h; have := ih hf; simp; omega
    | some t' =>
      simp only [fnd] at h
      split at h
      · simp at h; subst h; simp
      · cases hf : fnd t dl with
        | none => simp [hf] at h
        | some d' => simp [hf] at h; have := ih hf; simp; omega

theorem put_getD_ne {a : Act} {d t : Nat} {x : Value} (h : t ≠ d) : (a.put (some d) x).tmps.getD t undef = a.tmps.getD t undef := by
  simp [Act.put, Array.getElem?_setIfInBounds_ne (Ne.symm h)]
theorem put_getD_eq {a : Act} {d : Nat} {x : Value} (h : d < a.tmps.size) : (a.put (some d) x).tmps.getD d undef = x := by
  simp [Act.put, h]
theorem put_size {a : Act} {d : Option Nat} {x : Value} : (a.put d x).tmps.size = a.tmps.size := by cases d <;> simp [Act.put]
theorem put_defers' {a : Act} {d : Option Nat} {x : Value} : (a.put d x).defers = a.defers := by cases d <;> simp [Act.put]

def dstOk (N : Nat) : Option Nat → Bool
  | none => true
  | some d => decide (d < N)

theorem RG.put {g g' : G} {σ : Sg} {dl : List (Option Nat)} {env : List V} {a : Act} {N : Nat} {dst : Option Nat} {v : V} {x : Value} (h : RG g σ dl env a N) (hle : g.le g') (hd : dstOk N dst = true) (hv : R g' v x) : RG g' σ (dst :: dl) (v :: env) (a.put dst x) N := by
  refine ⟨?_, ?_, by simp [h.lenE], by rw [put_size, h.sizeA], by rw [put_defers', h.defs]⟩
  · intro t d u hf hn
    cases dst with
    | none =>
      simp only [fnd] at hf
      cases hf' : fnd t dl with
      | none => simp [hf'] at hf
      | some d' =>
        simp [hf'] at hf; subst hf
        exact R.mono hle _ _ (h.eR t d' u hf' hn)
    | some t' =>
      simp only [fnd] at hf
      simp [dstOk] at hd
      split at hf
      · rename_i he; subst he
        simp at hf; subst hf
        simp [nth] at hn; subst hn
        rw [put_getD_eq (by rw [h.sizeA]; exact hd)]; exact hv
      · rename_i he
        cases hf' : fnd t dl with
        | none => simp [hf'] at hf
        | some d' =>
          simp [hf'] at hf; subst hf
          rw [put_getD_ne he]
          exact R.mono hle _ _ (h.eR t d' u hf' hn)
  · intro t u hf hn
    cases dst with
    | none =>
      simp only [fnd] at hf
      cases hf' : fnd t dl with
      | some d' => simp [hf'] at hf
      | none => exact R.mono hle _ _ (h.vR t u hf' hn)
    | some t' =>
      simp only [fnd] at hf
      split at hf
      · cases hf
      · rename_i he
        cases hf' : fnd t dl with
        | some d' => simp [hf'] at hf
        | none => rw [put_getD_ne he]; exact R.mono hle _ _ (h.vR t u hf' hn)

/-- A guard, and the place of what it reads. -/
def chkG (n : Nat) (dl : List (Option Nat)) : Option (Nat × Bool) → Option (Nat × Bool) → Bool
  | none, none => true
  | some (j, b), some (d, b') => b == b' && j + 1 + d == n && (match dl[d]? with | some (some t) => fnd t dl == some d | _ => false)
  | _, _ => false

def chkRs (P : Program) (N : Nat) : Nat → List (Option Nat) → List Oper → List RI → Bool
  | _, _, [], [] => true
  | n, dl, o :: os, i :: is => chkG n dl o.guard i.g && chkI P dl o.op i.i && dstOk N o.dst && chkRs P N (n + 1) (o.dst :: dl) os is
  | _, _, _, _ => false

def dlOf : List (Option Nat) → List Oper → List (Option Nat)
  | dl, [] => dl
  | dl, o :: os => dlOf (o.dst :: dl) os

theorem R_bool {g : G} {v : V} {b : Bool} (h : R g v (.bool b)) : v = .bool b := by
  cases v <;> simp [R] at h; subst h; rfl

/-- The guard as the machine asks it. -/
theorem guard_read {g : G} {σ : Sg} {dl : List (Option Nat)} {env : List V} {a : Act} {N n j d t : Nat} {ops : Array Oper} (h : RG g σ dl env a N) (hdl : ∀ t ∈ dl, dstOk N t = true)
    (hp : dl[d]? = (ops[j]?).map (·.dst)) (ht : dl[d]? = some (some t)) (hf : fnd t dl = some d) :
    ∃ v, nth d env = some v ∧ ∀ b, (yielded ops a.tmps j = some b ↔ v = .bool b) := by
  obtain ⟨v, hv⟩ := nth_lt (d := d) (env := env) (by rw [h.lenE]; exact fnd_lt hf)
  refine ⟨v, hv, fun b => ?_⟩
  have hr := h.eR t d v hf hv
  have htN : t < a.tmps.size := by
    have := hdl (some t) (List.mem_of_getElem? ht)
    simp [dstOk] at this; rw [h.sizeA]; exact this
  have hb : (ops[j]?).bind (·.dst) = some t := by
    rw [ht] at hp
    cases hoj : ops[j]? with
    | none => rw [hoj] at hp; cases hp
    | some o => rw [hoj] at hp; simp at hp; simp [hp]
  have hg : a.tmps[t]? = some (a.tmps.getD t undef) := by simp [htN]
  have hy : yielded ops a.tmps j = (match a.tmps.getD t undef with | .bool b => some b | _ => none) := by
    unfold yielded
    rw [hb, Option.bind_some, hg]
    cases a.tmps.getD t undef <;> rfl
  rw [hy]
  constructor
  · intro e
    split at e
    · rename_i b' hx
      simp at e; subst e
      rw [hx] at hr
      exact R_bool hr
    · cases e
  · rintro rfl
    simp only [R] at hr
    rw [hr]

/-- Which names are free behind, and which stand for what they stood for. -/
def Fr (g : G) (H : Hp) (g' : G) (H' : Hp) : Prop := (∀ id, H'.n ≤ id → g'.ι id = none) ∧ (∀ id, id < H.n → g'.ι id = g.ι id) ∧ H.n ≤ H'.n
theorem Fr.trans {g g' g'' : G} {H H' H'' : Hp} (h : Fr g H g' H') (k : Fr g' H' g'' H'') : Fr g H g'' H'' :=
  ⟨k.1, fun id hid => (k.2.1 id (Nat.lt_of_lt_of_le hid h.2.2)).trans (h.2.1 id hid), Nat.le_trans h.2.2 k.2.2⟩
theorem Fr.refl {g : G} {H : Hp} (h : ∀ id, H.n ≤ id → g.ι id = none) : Fr g H g H := ⟨h, fun _ _ => rfl, Nat.le_refl _⟩

theorem seq_sound {P : Program} {ops : Array Oper} {N : Nat} {σ : Sg} {Q : Exit → Act → World → Prop} : ∀ (is : List RI) (os : List Oper) (n : Nat) (dl : List (Option Nat)) (env : List V) (lg : Lg) (H : Hp) (K : List V → Hp → Prop) (a : Act) (w : World) (g : G),
    ops.toList.drop n = os → dl.length = n → (∀ j d, j + 1 + d = n → dl[d]? = (ops[j]?).map (·.dst)) → (∀ t ∈ dl, dstOk N t = true) → chkRs P N n dl os is = true → evR P σ is env lg H K →
    RS g H.m w → (∀ id, H.n ≤ id → g.ι id = none) → RG g σ dl env a N →
    (∀ env' H' g' a' w', K env' H' → RG g' σ (dlOf dl os) env' a' N → RS g' H'.m w' → Fr g H g' H' → Ext g H.m w g' H'.m w' → Q .normal a' w') →
    wpOps P ops Q (List.range' n os.length) a w
  | [], [], n, dl, env, lg, H, K, a, w, g, _, _, _, _, _, h, hs, hf, hr, hq => hq env H g a w h hr hs ⟨hf, fun _ _ => rfl, Nat.le_refl _⟩ (Ext.refl _ _ _)
  | i :: is, o :: os, n, dl, env, lg, H, K, a, w, g, hos, hn, hp, hdl, hc, h, hs, hf, hr, hq => by
    simp only [chkRs, Bool.and_eq_true] at hc
    obtain ⟨⟨⟨c1, c2⟩, c3⟩, c4⟩ := hc
    have hon : ops[n]? = some o := by
      have : ops.toList[n]? = some o := by
        have := congrArg (·[0]?) hos
        simpa using this
      simpa using this
    have hos' : ops.toList.drop (n + 1) = os := by
      have := congrArg (List.drop 1) hos
      simpa [List.drop_drop, Nat.add_comm] using this
    have hp' : ∀ j d, j + 1 + d = n + 1 → (o.dst :: dl)[d]? = (ops[j]?).map (·.dst) := by
      intro j d e
      cases d with
      | zero => have : j = n := by omega
                subst this; simp [hon]
      | succ d => simpa using hp j d (by omega)
    have hdl' : ∀ t ∈ o.dst :: dl, dstOk N t = true := by
      intro t ht
      cases ht with
      | head => exact c3
      | tail _ ht => exact hdl t ht
    rw [show List.range' n (o :: os).length = n :: List.range' (n + 1) os.length by simp [List.range'_succ]]
    simp only [wpOps, hon]
    -- the operation runs, or is passed over
    have run : ∀ (hh : evI P (look σ env) H (fun v fp ds k => compat i.u lg fp (ds.map (·.1)) ∧ evR P σ is (v :: env) ((fp, ds.map (·.1)) :: lg) ⟨H.n + k, appd ds H.m⟩ K) i.i), o.wp P a w (wpOps P ops Q (List.range' (n + 1) os.length)) Q := by
      intro hh
      obtain ⟨v, fp, ds, k, ⟨_, hK⟩, hds, _, _, hgo⟩ := evI_sound c2 hh
      refine hgo H.m g w a (fun _ _ => rfl) (fun id h1 _ => ⟨hf id h1, ?_⟩) hs (hr.rel _) _ Q fun g' x w' k1 k2 k3 k4 => ?_
      · cases hm : H.m id with
        | none => rfl
        | some ob =>
          have := hs.live id ob hm
          cases ob <;> (simp only [ORep] at this; obtain ⟨_, _, _, this⟩ := this; simp [hf id h1] at this)
      · refine seq_sound is os (n + 1) (o.dst :: dl) (v :: env) _ ⟨H.n + k, appd ds H.m⟩ K _ w' g' hos' (by simp [hn]) hp' hdl' c4 hK k1 (fun id hid => ?_) (hr.put k3.le c3 k4) ?_
        · rw [k2 id (by simp only at hid; omega)]; exact hf id (by simp only at hid; omega)
        · exact fun env' H' g'' a' w'' q1 q2 q3 q4 q5 => hq env' H' g'' a' w'' q1 q2 q3 ⟨q4.1, fun id hid => (q4.2.1 id (by simp only; omega)).trans (k2 id (by omega)), by have := q4.2.2; simp only at this; omega⟩ (k3.trans q5)
    have pass : ∀ (hh : evR P σ is (.tup [] :: env) (([], []) :: lg) H K), wpOps P ops Q (List.range' (n + 1) os.length) (a.put o.dst undef) w := by
      intro hh
      refine seq_sound is os (n + 1) (o.dst :: dl) (.tup [] :: env) _ H K _ w g hos' (by simp [hn]) hp' hdl' c4 hh hs hf (hr.put (.refl g) c3 (by simp [R, undef, RC])) ?_
      exact fun env' H' g'' a' w'' q1 q2 q3 q4 q5 => hq env' H' g'' a' w'' q1 q2 q3 q4 q5
    simp only [evR] at h
    unfold Region.wanted
    cases hgd : o.guard with
    | none =>
      cases hgi : i.g with
      | some p => rw [hgd, hgi] at c1; simp [chkG] at c1
      | none =>
        rw [hgi] at h
        simp only [if_true]
        exact .inl (run h)
    | some jb =>
      obtain ⟨j, b⟩ := jb
      cases hgi : i.g with
      | none => rw [hgd, hgi] at c1; simp [chkG] at c1
      | some p =>
        obtain ⟨d, b'⟩ := p
        rw [hgd, hgi] at c1
        simp only [chkG, Bool.and_eq_true, beq_iff_eq] at c1
        obtain ⟨⟨rfl, hjd⟩, c1⟩ := c1
        split at c1
        · rename_i t ht
          have hft : fnd t dl = some d := by simpa using c1
          obtain ⟨v, hv1, hv2⟩ := guard_read (ops := ops) (j := j) (n := n) hr hdl (hp j d hjd) ht hft
          rw [hgi] at h
          simp only [hv1] at h
          simp only
          by_cases hy : yielded ops a.tmps j = some b
          · have := (hv2 b).1 hy
            subst this
            simp only [if_true] at h
            rw [if_pos (by simp [hy])]
            exact .inl (run h)
          · have hne : (yielded ops a.tmps j == some b) = false := by simpa using hy
            rw [if_neg (by simp [hne])]
            cases v <;> try exact pass h
            rename_i c
            simp only at h
            have : c ≠ b := fun e => hy ((hv2 b).2 (by rw [e]))
            rw [if_neg this] at h
            exact pass h
        · cases c1
  | [], _ :: _, _, _, _, _, _, _, _, _, _, _, _, _, _, h, _, _, _, _, _ => by simp [chkRs] at h
  | _ :: _, [], _, _, _, _, _, _, _, _, _, _, _, _, _, h, _, _, _, _, _ => by simp [chkRs] at h

end Go.Proofs.Ytickdhdlljhomaa.Ev
