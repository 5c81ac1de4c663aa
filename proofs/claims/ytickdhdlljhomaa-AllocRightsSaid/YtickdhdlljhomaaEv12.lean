/-
  Regions that draw their order.
-/
import Derived.Test.YtickdhdlljhomaaEv11
set_option linter.unusedSimpArgs false
set_option linter.unusedVariables false
namespace Go.Proofs.Ytickdhdlljhomaa.Ev
open Go

/-- What one operation did in the order of the text. -/
structure Tr where
  v : V
  fp : List Nat
  ds : List (Nat × Option Ob)
  n : Nat
  k : Nat
  m : Hm

def appT : List Tr → Hm → Hm
  | [], m => m
  | t :: ts, m => appT ts (appd t.ds m)
def sumT : List Tr → Nat
  | [] => 0
  | t :: ts => t.k + sumT ts
def lgT (ts : List Tr) : Lg := ts.map fun t => (t.fp, t.ds.map (·.1))

def dom (ds : List (Nat × Option Ob)) : List Nat := ds.map (·.1)

theorem appd_ne : ∀ {ds : List (Nat × Option Ob)} {m : Hm} {id : Nat}, id ∉ dom ds → appd ds m id = m id
  | [], _, _, _ => rfl
  | (i, o) :: ds, m, id, h => by
    simp only [dom, List.map_cons, List.mem_cons, not_or] at h
    simp only [appd]; rw [appd_ne (by simpa [dom] using h.2)]
    simp [upd, h.1]
theorem appd_congr : ∀ {ds : List (Nat × Option Ob)} {m m' : Hm} {id : Nat}, m id = m' id → appd ds m id = appd ds m' id
  | [], _, _, _, h => h
  | (i, o) :: ds, m, m', id, h => by
    simp only [appd]; refine appd_congr ?_
    simp only [upd]; split
    · rfl
    · exact h
theorem appd_mem : ∀ {ds : List (Nat × Option Ob)} {m m' : Hm} {id : Nat}, id ∈ dom ds → appd ds m id = appd ds m' id
  | [], _, _, _, h => by cases h
  | (i, o) :: ds, m, m', id, h => by
    simp only [appd]
    by_cases hd : id ∈ dom ds
    · exact appd_mem hd
    · simp only [dom, List.map_cons, List.mem_cons] at h
      rcases h with rfl | h
      · exact appd_congr (by simp [upd])
      · exact absurd h hd

/-- What the operations that were carried out have made. -/
def mD (Ls : Nat → Bool) : Nat → List Tr → Hm → Hm
  | _, [], m => m
  | j, t :: ts, m => mD Ls (j + 1) ts (if Ls j then appd t.ds m else m)

theorem mD_congr {Ls : Nat → Bool} : ∀ {ts : List Tr} {j : Nat} {m m' : Hm} {id : Nat}, m id = m' id → mD Ls j ts m id = mD Ls j ts m' id
  | [], _, _, _, _, h => h
  | t :: ts, j, m, m', id, h => by
    simp only [mD]; refine mD_congr ?_
    split
    · exact appd_congr h
    · exact h

theorem appT_congr : ∀ {ts : List Tr} {m m' : Hm} {id : Nat}, m id = m' id → appT ts m id = appT ts m' id
  | [], _, _, _, h => h
  | t :: ts, m, m', id, h => by simp only [appT]; exact appT_congr (appd_congr h)

/-- Where just those ahead of i have written a place, what was made there is what the text's order made ahead of i. -/
theorem mD_at {Ls : Nat → Bool} {id : Nat} : ∀ {ts : List Tr} {j i : Nat} {m : Hm}, (∀ q t, ts[q]? = some t → id ∈ dom t.ds → (Ls (j + q) = true ↔ q < i)) → mD Ls j ts m id = appT (ts.take i) m id
  | [], _, _, _, _ => by simp [mD, appT]
  | t :: ts, j, 0, m, h => by
    simp only [mD, List.take_zero, appT]
    have hrest : mD Ls (j + 1) ts (if Ls j then appd t.ds m else m) id = appT (ts.take 0) (if Ls j then appd t.ds m else m) id := mD_at fun q t' hq hm => by
      have := h (q + 1) t' (by simpa using hq) hm
      rw [show j + (q + 1) = j + 1 + q by omega] at this
      constructor
      · intro e; have := this.1 e; omega
      · intro e; omega
    rw [hrest]
    simp only [List.take_zero, appT]
    split
    · rename_i hL
      refine appd_ne fun hm => ?_
      have := (h 0 t rfl hm).1 (by simpa using hL)
      omega
    · rfl
  | t :: ts, j, i + 1, m, h => by
    simp only [mD, List.take_succ_cons, appT]
    have hrest : mD Ls (j + 1) ts (if Ls j then appd t.ds m else m) id = appT (ts.take i) (if Ls j then appd t.ds m else m) id := mD_at fun q t' hq hm => by
      have := h (q + 1) t' (by simpa using hq) hm
      rw [show j + (q + 1) = j + 1 + q by omega] at this
      rw [this]; omega
    rw [hrest]
    refine appT_congr ?_
    split
    · rfl
    · rename_i hL
      by_cases hm : id ∈ dom t.ds
      · exact absurd ((h 0 t rfl hm).2 (by omega)) (by simpa using hL)
      · rw [appd_ne hm]

/-- One more is carried out: what it writes stands, as nobody behind it in the text has written there. -/
theorem mD_set {Ls Ls' : Nat → Bool} {id : Nat} : ∀ {ts : List Tr} {j i : Nat} {t : Tr} {m : Hm}, ts[i]? = some t → Ls (j + i) = false → (∀ q, Ls' q = (if q = j + i then true else Ls q)) →
    (∀ q u, ts[q]? = some u → i < q → Ls (j + q) = true → id ∈ dom t.ds → id ∉ dom u.ds) → mD Ls' j ts m id = appd t.ds (mD Ls j ts m) id
  | [], _, _, _, _, h, _, _, _ => by simp at h
  | u :: ts, j, 0, t, m, h, hL, hs, hn => by
    simp at h; subst h
    simp only [mD]
    have h1 : Ls' j = true := by rw [hs j]; simp
    have h2 : Ls j = false := by simpa using hL
    rw [h1, h2]
    simp only [if_true, Bool.false_eq_true, if_false]
    -- behind it the two runs read the same marks
    have same : ∀ (ts : List Tr) (j' : Nat) (m : Hm), j < j' → mD Ls' j' ts m id = mD Ls j' ts m id := by
      intro ts; induction ts with
      | nil => intros; rfl
      | cons v ts ih =>
        intro j' m hj
        simp only [mD]
        rw [show Ls' j' = Ls j' by rw [hs j', if_neg (by omega)]]
        exact ih (j' + 1) _ (by omega)
    rw [same ts (j + 1) _ (by omega)]
    by_cases hm : id ∈ dom u.ds
    · -- nobody behind writes there
      have keep : ∀ (ts' : List Tr) (j' : Nat) (m : Hm), (∀ q v, ts'[q]? = some v → Ls (j' + q) = true → id ∉ dom v.ds) → mD Ls j' ts' m id = m id := by
        intro ts'; induction ts' with
        | nil => intros; rfl
        | cons v ts' ih =>
          intro j' m hk
          simp only [mD]
          rw [ih (j' + 1) _ (fun q v hq hl => hk (q + 1) v (by simpa using hq) (by rwa [show j' + (q + 1) = j' + 1 + q by omega]))]
          split
          · rename_i hl; exact appd_ne (hk 0 v rfl (by simpa using hl))
          · rfl
      have hk : ∀ q v, ts[q]? = some v → Ls (j + 1 + q) = true → id ∉ dom v.ds := fun q v hq hl => hn (q + 1) v (by simpa using hq) (by omega) (by rwa [show j + (q + 1) = j + 1 + q by omega]) hm
      rw [keep ts (j + 1) _ hk]
      exact appd_mem hm
    · rw [appd_ne hm]; exact mD_congr (appd_ne hm)
  | u :: ts, j, i + 1, t, m, h, hL, hs, hn => by
    simp at h
    simp only [mD]
    rw [show Ls' j = Ls j by rw [hs j, if_neg (by omega)]]
    exact mD_set (j := j + 1) (i := i) h (by rwa [show j + 1 + i = j + (i + 1) by omega]) (fun q => by rw [hs q, show j + (i + 1) = j + 1 + i by omega])
      (fun q v hq hlt hl hm => hn (q + 1) v (by simpa using hq) (by omega) (by rwa [show j + (q + 1) = j + 1 + q by omega]) hm)

theorem mD_all {Ls : Nat → Bool} : ∀ {ts : List Tr} {j : Nat} {m : Hm}, (∀ q, q < ts.length → Ls (j + q) = true) → mD Ls j ts m = appT ts m
  | [], _, _, _ => rfl
  | t :: ts, j, m, h => by
    simp only [mD, appT]
    rw [if_pos (by simpa using h 0 (by simp))]
    exact mD_all fun q hq => by rw [show j + 1 + q = j + (q + 1) by omega]; exact h (q + 1) (by simpa using hq)
theorem mD_none {Ls : Nat → Bool} : ∀ {ts : List Tr} {j : Nat} {m : Hm}, (∀ q, q < ts.length → Ls (j + q) = false) → mD Ls j ts m = m
  | [], _, _, _ => rfl
  | t :: ts, j, m, h => by
    simp only [mD]
    rw [if_neg (by simpa using h 0 (by simp))]
    exact mD_none fun q hq => by rw [show j + 1 + q = j + (q + 1) by omega]; exact h (q + 1) (by simpa using hq)

/-! ### The check -/

def bindsOn (o : Oper) (j : Nat) : Bool := o.after.any fun e => Region.binds .any e && e.on == j
def edgesOk (n : Nat) (o : Oper) : Bool := o.after.all fun e => !Region.binds .any e || decide (e.on < n)
def opdOk (n : Nat) (dl : List (Option Nat)) (os : List Oper) (o : Oper) : Operand → Bool
  | .tmp t => (match fnd t dl with | some d => bindsOn o (n - 1 - d) | none => os.all fun o' => o'.dst != some t || bindsOn o' n)
  | _ => true
def confOk (n : Nat) (o : Oper) (i : RI) : Nat → List Ins → Bool
  | _, [] => true
  | d, p :: ps => (bindsOn o (n - 1 - d) || p.kind == 0 || i.i.kind == 0 || (decide (p.kind ≤ 1) && decide (i.i.kind ≤ 1)) || i.u.contains d) && confOk n o i (d + 1) ps
def chkD : Nat → List (Option Nat) → List Ins → List Oper → List RI → Bool
  | _, _, _, [], [] => true
  | n, dl, pv, o :: os, i :: is => edgesOk n o && o.op.operands.toList.all (opdOk n dl os o) && (match o.guard with | some (j, _) => bindsOn o j | none => true) &&
      (match o.dst with | some t => (fnd t dl).isNone | none => true) && confOk n o i 0 pv && chkD (n + 1) (o.dst :: dl) (i.i :: pv) os is
  | _, _, _, _, _ => false


theorem sumT_take {ts : List Tr} {i : Nat} {t : Tr} (h : ts[i]? = some t) : sumT (ts.take (i + 1)) = sumT (ts.take i) + t.k := by
  induction ts generalizing i with
  | nil => simp at h
  | cons u ts ih =>
    cases i with
    | zero => simp at h; subst h; simp [sumT]
    | succ i => simp at h; simp [sumT, ih h]; omega
theorem sumT_mono {ts : List Tr} {i j : Nat} (h : i ≤ j) : sumT (ts.take i) ≤ sumT (ts.take j) := by
  induction ts generalizing i j with
  | nil => simp [sumT]
  | cons u ts ih =>
    cases i with
    | zero => simp [sumT]
    | succ i =>
      cases j with
      | zero => omega
      | succ j => simp [sumT]; exact ih (by omega)

/-- One operation of a run in the text's order. -/
structure Step (P : Program) (σ : Sg) (ops : Array Oper) (N : Nat) (dl : List (Option Nat)) (env : List V) (lg : Lg) (m0 : Hm) (n0 : Nat) (o : Oper) (r : RI) (t : Tr) : Prop where
  m : t.m = m0
  n : t.n = n0
  comp : compat r.u lg t.fp (dom t.ds)
  new : ∀ p ∈ t.ds, p.1 ∈ t.fp ∨ (t.n ≤ p.1 ∧ p.1 < t.n + t.k)
  k0 : r.i.kind = 0 → t.fp = [] ∧ t.ds = [] ∧ t.k = 0
  k1 : r.i.kind ≤ 1 → t.ds = [] ∧ t.k = 0
  go : ∀ m g w a, (∀ id ∈ t.fp, m id = t.m id) → Fresh g m t.n t.k → RS g m w → Rel dl (look σ env) o.op.operands.toList g a →
    (∀ j b, o.guard = some (j, b) → ∃ d, r.g = some (d, b) ∧ ∀ c, yielded ops a.tmps j = some c ↔ nth d env = some (.bool c)) →
    ∀ (Kc : Act → World → Prop) (Q : Exit → Act → World → Prop),
      (∀ g' x w', RS g' (appd t.ds m) w' → IExt g g' t.n t.k → Ext g m w g' (appd t.ds m) w' → R g' t.v x → Kc (a.put o.dst x) w') →
      if Region.wanted o (yielded ops a.tmps) then o.wp P a w Kc Q ∨ (o.asks P a w ∧ LetsOut Q) else Kc (a.put o.dst undef) w

def envT (ts : List Tr) (env : List V) : List V := (ts.map (·.v)).reverse ++ env
def dlT (os : List Oper) (dl : List (Option Nat)) : List (Option Nat) := (os.map (·.dst)).reverse ++ dl

theorem trace {P : Program} {σ : Sg} {ops : Array Oper} {N : Nat} : ∀ {os : List Oper} {is : List RI} {n : Nat} {dl : List (Option Nat)} {env : List V} {lg : Lg} {H : Hp} {K : List V → Hp → Prop},
    chkRs P N n dl os is = true → evR P σ is env lg H K →
    ∃ ts : List Tr, ts.length = os.length ∧ K (envT ts env) ⟨H.n + sumT ts, appT ts H.m⟩ ∧
      ∀ i o r t, os[i]? = some o → is[i]? = some r → ts[i]? = some t →
        Step P σ ops N (dlT (os.take i) dl) (envT (ts.take i) env) ((lgT (ts.take i)).reverse ++ lg) (appT (ts.take i) H.m) (H.n + sumT (ts.take i)) o r t
  | [], [], n, dl, env, lg, H, K, _, h => ⟨[], rfl, by simpa [envT, sumT, appT, evR] using h, by simp⟩
  | o :: os, r :: is, n, dl, env, lg, H, K, hc, h => by
    simp only [chkRs, Bool.and_eq_true] at hc
    obtain ⟨⟨⟨c1, c2⟩, c3⟩, c4⟩ := hc
    simp only [evR] at h
    -- it ran, or was passed over
    have ex : ∃ t : Tr, evR P σ is (t.v :: env) ((t.fp, dom t.ds) :: lg) ⟨H.n + t.k, appd t.ds H.m⟩ K ∧ Step P σ ops N dl env lg H.m H.n o r t := by
      have runs : evI P (look σ env) H (fun v fp ds k => compat r.u lg fp (ds.map (·.1)) ∧ evR P σ is (v :: env) ((fp, ds.map (·.1)) :: lg) ⟨H.n + k, appd ds H.m⟩ K) r.i →
          (∀ j b, o.guard = some (j, b) → ∃ d, r.g = some (d, b) ∧ nth d env = some (.bool b)) →
          ∃ t : Tr, evR P σ is (t.v :: env) ((t.fp, dom t.ds) :: lg) ⟨H.n + t.k, appd t.ds H.m⟩ K ∧ Step P σ ops N dl env lg H.m H.n o r t := by
        intro hh hgu
        obtain ⟨v, fp, ds, k, ⟨hcomp, hK⟩, hds, hk0, hk1, hgo⟩ := evI_sound c2 hh
        refine ⟨⟨v, fp, ds, H.n, k, H.m⟩, hK, ⟨rfl, rfl, hcomp, hds, hk0, hk1, fun m g w a ha hf hs hr hg Kc Q hk => ?_⟩⟩
        have hw : Region.wanted o (yielded ops a.tmps) = true := by
          unfold Region.wanted
          cases hgd : o.guard with
          | none => rfl
          | some jb =>
            obtain ⟨j, b⟩ := jb
            obtain ⟨d, e1, e2⟩ := hg j b hgd
            obtain ⟨d', e3, e4⟩ := hgu j b hgd
            rw [e1] at e3; simp at e3; subst e3
            simp [(e2 b).2 e4]
        rw [if_pos hw]
        exact .inl (hgo m g w a ha hf hs hr Kc Q hk)
      have passes : evR P σ is (.tup [] :: env) (([], []) :: lg) H K → (∃ j b d, o.guard = some (j, b) ∧ r.g = some (d, b) ∧ nth d env ≠ some (.bool b)) →
          ∃ t : Tr, evR P σ is (t.v :: env) ((t.fp, dom t.ds) :: lg) ⟨H.n + t.k, appd t.ds H.m⟩ K ∧ Step P σ ops N dl env lg H.m H.n o r t := by
        rintro hh ⟨j, b, d, hg1, hg2, hg3⟩
        refine ⟨⟨.tup [], [], [], H.n, 0, H.m⟩, hh, ⟨rfl, rfl, fun j hj => by simp [disj, dom], by simp, by simp, by simp, fun m g w a ha hf hs hr hg Kc Q hk => ?_⟩⟩
        obtain ⟨d', e1, e2⟩ := hg j b hg1
        rw [e1] at hg2; simp at hg2; subst hg2
        have hw : ¬ Region.wanted o (yielded ops a.tmps) = true := by
          unfold Region.wanted
          rw [hg1]
          simp only [beq_iff_eq]
          exact fun e => hg3 ((e2 b).1 e)
        rw [if_neg hw]
        exact hk g undef w hs (fun _ _ => rfl) (Ext.refl _ _ _) (by simp [R, undef, RC])
      cases hgd : o.guard with
      | none =>
        cases hgi : r.g with
        | some p => rw [hgd, hgi] at c1; simp [chkG] at c1
        | none =>
          rw [hgi] at h
          exact runs h (by simp [hgd])
      | some jb =>
        obtain ⟨j, b⟩ := jb
        cases hgi : r.g with
        | none => rw [hgd, hgi] at c1; simp [chkG] at c1
        | some p =>
          obtain ⟨d, b'⟩ := p
          have hb : b = b' := by rw [hgd, hgi] at c1; simp only [chkG, Bool.and_eq_true, beq_iff_eq] at c1; exact c1.1.1
          subst hb
          rw [hgi] at h
          simp only at h
          cases hv : nth d env with
          | none => rw [hv] at h; exact passes h ⟨j, b, d, hgd, hgi, by simp [hv]⟩
          | some v =>
            rw [hv] at h
            by_cases hvb : v = .bool b
            · subst hvb
              simp only [if_true] at h
              exact runs h (fun j' b' e => by rw [hgd] at e; simp at e; obtain ⟨rfl, rfl⟩ := e; exact ⟨d, hgi, hv⟩)
            · cases v <;> try exact passes h ⟨j, b, d, hgd, hgi, by rw [hv]; simp⟩
              rename_i c
              simp only at h
              have hcb : c ≠ b := fun e => hvb (by rw [e])
              rw [if_neg hcb] at h
              exact passes h ⟨j, b, d, hgd, hgi, by rw [hv]; simpa using hcb⟩
    obtain ⟨t, hK, hst⟩ := ex
    obtain ⟨ts, l1, l2, l3⟩ := trace (ops := ops) c4 hK
    refine ⟨t :: ts, by simp [l1], ?_, ?_⟩
    · simpa [envT, sumT, appT, Nat.add_assoc] using l2
    · intro i o' r' t' h1 h2 h3
      cases i with
      | zero =>
        simp at h1 h2 h3; subst h1; subst h2; subst h3
        simpa [dlT, envT, lgT, appT, sumT] using hst
      | succ i =>
        simp at h1 h2 h3
        have := l3 i o' r' t' h1 h2 h3
        simpa [dlT, envT, lgT, appT, sumT, Nat.add_assoc, dom] using this
  | [], _ :: _, _, _, _, _, _, _, h, _ => by simp [chkRs] at h
  | _ :: _, [], _, _, _, _, _, _, h, _ => by simp [chkRs] at h

end Go.Proofs.Ytickdhdlljhomaa.Ev
