/-
  A region that draws its order does what it does in the order of the text.
-/
import Derived.Test.YtickdhdlljhomaaEv12
set_option linter.unusedSimpArgs false
set_option linter.unusedVariables false
namespace Go.Proofs.Ytickdhdlljhomaa.Ev
open Go

/-- What the check says of the operation at a place. -/
structure DOk (ops : Array Oper) (os : List Oper) (is : List RI) (i : Nat) (o : Oper) (r : RI) : Prop where
  edges : ∀ e ∈ o.after, Region.binds .any e = true → e.on < i
  opd : ∀ t, .tmp t ∈ o.op.operands.toList → (∀ d, fnd t (dlT (os.take i) []) = some d → bindsOn o (i - 1 - d) = true) ∧
    (fnd t (dlT (os.take i) []) = none → ∀ j o', i < j → os[j]? = some o' → o'.dst = some t → bindsOn o' i = true)
  guard : ∀ j b, o.guard = some (j, b) → bindsOn o j = true
  dst : ∀ t, o.dst = some t → fnd t (dlT (os.take i) []) = none
  conf : ∀ j r', j < i → is[j]? = some r' → bindsOn o j = true ∨ r'.i.kind = 0 ∨ r.i.kind = 0 ∨ (r'.i.kind ≤ 1 ∧ r.i.kind ≤ 1) ∨ (i - 1 - j) ∈ r.u

theorem confOk_spec {n : Nat} {o : Oper} {r : RI} : ∀ {pv : List Ins} {d : Nat}, confOk n o r d pv = true → ∀ q p, pv[q]? = some p →
    bindsOn o (n - 1 - (d + q)) = true ∨ p.kind = 0 ∨ r.i.kind = 0 ∨ (p.kind ≤ 1 ∧ r.i.kind ≤ 1) ∨ (d + q) ∈ r.u
  | [], _, _, q, p, h => by simp at h
  | p :: ps, d, h, q, p', hq => by
    simp only [confOk, Bool.and_eq_true, Bool.or_eq_true, beq_iff_eq, decide_eq_true_eq] at h
    cases q with
    | zero =>
      simp at hq; subst hq
      have hu : r.u.contains d = true → d ∈ r.u := by simp
      rcases h.1 with (((h1 | h1) | h1) | h1) | h1
      · exact .inl h1
      · exact .inr (.inl h1)
      · exact .inr (.inr (.inl h1))
      · exact .inr (.inr (.inr (.inl h1)))
      · exact .inr (.inr (.inr (.inr (hu h1))))
    | succ q =>
      simp at hq
      have := confOk_spec h.2 q p' hq
      rwa [show d + 1 + q = d + (q + 1) by omega] at this

theorem chkD_spec {ops : Array Oper} {os0 : List Oper} {is0 : List RI} : ∀ {os : List Oper} {is : List RI} {n : Nat} {dl : List (Option Nat)} {pv : List Ins}, chkD n dl pv os is = true → os0.drop n = os → is0.drop n = is → dl = dlT (os0.take n) [] →
    pv = ((is0.take n).map (·.i)).reverse → n ≤ is0.length → ∀ i o r, n ≤ i → os0[i]? = some o → is0[i]? = some r → DOk ops os0 is0 i o r
  | [], [], n, dl, pv, _, h1, h2, _, _, _, i, o, r, hi, ho, _ => by
    have : os0.length ≤ n := by
      have := congrArg List.length h1; simp at this; omega
    have := (List.getElem?_eq_some_iff.1 ho).1
    omega
  | o :: os, r :: is, n, dl, pv, h, h1, h2, h3, h4, h5, i, o', r', hi, ho, hr => by
    simp only [chkD, Bool.and_eq_true] at h
    obtain ⟨⟨⟨⟨⟨c1, c2⟩, c3⟩, c4⟩, c5⟩, c6⟩ := h
    have hon : os0[n]? = some o := by
      have := congrArg (·[0]?) h1; simp only [List.getElem?_drop] at this; simpa using this
    have hrn : is0[n]? = some r := by
      have := congrArg (·[0]?) h2; simp only [List.getElem?_drop] at this; simpa using this
    by_cases hin : i = n
    · subst hin
      rw [hon] at ho; simp at ho; subst ho
      rw [hrn] at hr; simp at hr; subst hr
      refine ⟨?_, ?_, ?_, ?_, ?_⟩
      · intro e he hb
        have := (Array.all_eq_true_iff_forall_mem.1 c1) e he
        simpa [hb] using this
      · intro t ht
        have := List.all_eq_true.1 c2 _ ht
        rw [h3] at this
        simp only [opdOk] at this
        constructor
        · intro d hd; rw [hd] at this; exact this
        · intro hd j o' hj hoj hdst
          rw [hd] at this
          simp only at this
          have hm : o' ∈ os := by
            have : os[j - i - 1]? = some o' := by
              have := congrArg (·[j - i]?) h1
              simp only [List.getElem?_drop] at this
              rw [show i + (j - i) = j by omega, hoj] at this
              rw [show j - i = (j - i - 1) + 1 by omega] at this
              simpa using this.symm
            exact List.mem_of_getElem? this
          have := List.all_eq_true.1 this _ hm
          simpa [hdst] using this
      · intro j b hg; rw [hg] at c3; exact c3
      · intro t ht; rw [ht, h3] at c4; simpa using c4
      · intro j r2 hj hr2
        have hq : pv[i - 1 - j]? = some r2.i := by
          rw [h4, List.getElem?_reverse (by simp; omega)]
          simp only [List.length_map, List.length_take, List.getElem?_map]
          rw [show min i is0.length - 1 - (i - 1 - j) = j by omega, List.getElem?_take_of_lt hj, hr2]; rfl
        have := confOk_spec c5 _ _ hq
        rw [Nat.zero_add, show i - 1 - (i - 1 - j) = j by omega] at this
        exact this
    · have hnl : n < is0.length := (List.getElem?_eq_some_iff.1 hrn).1
      refine chkD_spec c6 ?_ ?_ ?_ ?_ (by omega) i o' r' (by omega) ho hr
      · simpa [List.drop_drop, Nat.add_comm] using congrArg (List.drop 1) h1
      · simpa [List.drop_drop, Nat.add_comm] using congrArg (List.drop 1) h2
      · rw [h3]; simp only [dlT, List.append_nil]
        rw [List.take_add_one, hon]; simp
      · rw [h4, List.take_add_one, hrn]; simp
  | [], _ :: _, _, _, _, h, _, _, _, _, _, _, _, _, _, _, _ => by simp [chkD] at h
  | _ :: _, [], _, _, _, h, _, _, _, _, _, _, _, _, _, _, _ => by simp [chkD] at h

theorem fnd_some {t d : Nat} {os : List Oper} (h : fnd t (dlT os []) = some d) : ∃ o, os[os.length - 1 - d]? = some o ∧ o.dst = some t ∧ d < os.length := by
  have hd := fnd_lt h
  simp only [dlT, List.append_nil, List.length_reverse, List.length_map] at hd
  have key : ∀ (dl : List (Option Nat)) d, fnd t dl = some d → dl[d]? = some (some t) := by
    intro dl; induction dl with
    | nil => intro d h; simp [fnd] at h
    | cons o dl ih =>
      intro d h
      cases o with
      | none =>
        simp only [fnd] at h
        cases hf : fnd t dl with
        | none => simp [hf] at h
        | some d' => simp [hf] at h; subst h; simpa using ih d' hf
      | some t' =>
        simp only [fnd] at h
        split at h
        · rename_i e; subst e; simp at h; subst h; rfl
        · cases hf : fnd t dl with
          | none => simp [hf] at h
          | some d' => simp [hf] at h; subst h; simpa using ih d' hf
  have h1 := key _ _ h
  simp only [dlT, List.append_nil] at h1
  rw [List.getElem?_reverse (by simpa using hd)] at h1
  simp only [List.length_map, List.getElem?_map] at h1
  cases ho : os[os.length - 1 - d]? with
  | none => rw [ho] at h1; cases h1
  | some o => rw [ho] at h1; simp at h1; exact ⟨o, rfl, h1, hd⟩

theorem fnd_none {t : Nat} {os : List Oper} (h : fnd t (dlT os []) = none) : ∀ (j : Nat) o, os[j]? = some o → o.dst ≠ some t := by
  intro j o ho e
  have hm : some t ∈ dlT os [] := by
    simp only [dlT, List.append_nil, List.mem_reverse, List.mem_map]
    exact ⟨o, List.mem_of_getElem? ho, e⟩
  have key : ∀ dl : List (Option Nat), some t ∈ dl → fnd t dl ≠ none := by
    intro dl; induction dl with
    | nil => intro h; cases h
    | cons o dl ih =>
      intro h
      cases o with
      | none => simp only [fnd]; cases h with
        | tail _ h => simpa using ih h
      | some t' =>
        simp only [fnd]; split
        · simp
        · rename_i hne
          cases h with
          | head => exact absurd rfl hne
          | tail _ h => simpa using ih h
  exact key _ hm h

theorem nth_rev {ts : List Tr} {j : Nat} {t : Tr} (h : ts[j]? = some t) : nth (ts.length - 1 - j) (envT ts []) = some t.v := by
  have hj := (List.getElem?_eq_some_iff.1 h).1
  have key : ∀ (l : List V) q, nth q l = l[q]? := by
    intro l; induction l with
    | nil => intro q; cases q <;> rfl
    | cons v l ih => intro q; cases q with
      | zero => rfl
      | succ q => show nth q l = _; simpa using ih q
  rw [key]
  simp only [envT, List.append_nil]
  rw [List.getElem?_reverse (by simp; omega)]
  simp only [List.length_map, List.getElem?_map]
  rw [show ts.length - 1 - (ts.length - 1 - j) = j by omega, h]; rfl


/-- What holds while some of a region's operations have been carried out. -/
structure DInv (ops : Array Oper) (σ : Sg) (N : Nat) (ts : List Tr) (H : Hp) (g0 : G) (w0 : World) (Ls : Nat → Bool) (g : G) (a : Act) (w : World) : Prop where
  rs : RS g (mD Ls 0 ts H.m) w
  fresh : ∀ id p, g.ι id = some p → id < H.n ∨ ∃ j t, Ls j = true ∧ ts[j]? = some t ∧ t.n ≤ id ∧ id < t.n + t.k
  vals : ∀ j (o : Oper) t d, Ls j = true → ops[j]? = some o → ts[j]? = some t → o.dst = some d → R g t.v (a.tmps.getD d undef)
  vars : ∀ t v, find t σ = some v → (∀ j (o : Oper), Ls j = true → ops[j]? = some o → o.dst ≠ some t) → R g v (a.tmps.getD t undef)
  ext : Ext g0 H.m w0 g (mD Ls 0 ts H.m) w
  sizeA : a.tmps.size = N
  defs : a.defers = []
  down : ∀ j (o : Oper), Ls j = true → ops[j]? = some o → ∀ e ∈ o.after, Region.binds .any e = true → Ls e.on = true
  low : ∀ id, id < H.n → g.ι id = g0.ι id

theorem bindsOn_some {o : Oper} {j : Nat} (h : bindsOn o j = true) : ∃ e ∈ o.after, Region.binds .any e = true ∧ e.on = j := by
  unfold bindsOn at h
  obtain ⟨i, hi, h⟩ := Array.any_eq_true.1 h
  simp only [Bool.and_eq_true, beq_iff_eq] at h
  exact ⟨_, Array.getElem_mem hi, h⟩

theorem disj_not {a b : List Nat} (h : disj a b = true) {x : Nat} (hx : x ∈ a) : x ∉ b := by
  unfold disj at h
  have := List.all_eq_true.1 h x hx
  simpa using this

theorem lg_at {ts : List Tr} {i j : Nat} {t : Tr} (hj : j < i) (hi : i ≤ ts.length) (h : ts[j]? = some t) : nthL (i - 1 - j) ((lgT (ts.take i)).reverse ++ []) = (t.fp, dom t.ds) := by
  have key : ∀ (l : Lg) q p, l[q]? = some p → nthL q l = p := by
    intro l; induction l with
    | nil => intro q p h; simp at h
    | cons v l ih => intro q p h; cases q with
      | zero => simp at h; subst h; rfl
      | succ q => exact ih q p (by simpa using h)
  refine key _ _ _ ?_
  rw [List.append_nil, List.getElem?_reverse (by simp [lgT]; omega)]
  simp only [lgT, List.length_map, List.length_take, List.getElem?_map]
  rw [show min i ts.length - 1 - (i - 1 - j) = j by omega, List.getElem?_take_of_lt hj, h]; rfl

/-- One operation more. -/
theorem DInv.step {P : Program} {ops : Array Oper} {is : List RI} {σ : Sg} {N : Nat} {ts : List Tr} {H : Hp} {g0 : G} {w0 : World} {Ls : Nat → Bool} {g : G} {a : Act} {w : World} {Q : Exit → Act → World → Prop} {Kc : Act → World → Prop}
    (hlen : ts.length = ops.toList.length) (hils : is.length = ops.toList.length)
    (hsteps : ∀ (i : Nat) o r t, ops.toList[i]? = some o → is[i]? = some r → ts[i]? = some t → Step P σ ops N (dlT (ops.toList.take i) []) (envT (ts.take i) []) ((lgT (ts.take i)).reverse ++ []) (appT (ts.take i) H.m) (H.n + sumT (ts.take i)) o r t)
    (hok : ∀ (i : Nat) o r, ops.toList[i]? = some o → is[i]? = some r → DOk ops ops.toList is i o r)
    (hgs : ∀ (i : Nat) o r, ops.toList[i]? = some o → is[i]? = some r → chkG i (dlT (ops.toList.take i) []) o.guard r.g = true) (hdN : ∀ o ∈ ops.toList, dstOk N o.dst = true)
    (h : DInv ops σ N ts H g0 w0 Ls g a w) {i : Nat} {o : Oper} (ho : ops[i]? = some o) (hLi : Ls i = false) (hready : ∀ e ∈ o.after, Region.binds .any e = true → Ls e.on = true)
    (hk : ∀ Ls' g' a' w', (∀ q, Ls' q = (if q = i then true else Ls q)) → DInv ops σ N ts H g0 w0 Ls' g' a' w' → Kc a' w') : wpOp P ops Q i Kc a w := by
  have hol : ops.toList[i]? = some o := by simpa using ho
  have hio : i < ops.toList.length := (List.getElem?_eq_some_iff.1 hol).1
  obtain ⟨r, hr⟩ : ∃ r, is[i]? = some r := ⟨_, List.getElem?_eq_getElem (by omega)⟩
  obtain ⟨t, ht⟩ : ∃ t, ts[i]? = some t := ⟨_, List.getElem?_eq_getElem (by omega)⟩
  have st := hsteps i o r t hol hr ht
  have ok := hok i o r hol hr
  have listed : ∀ j, bindsOn o j = true → Ls j = true := fun j hj => by
    obtain ⟨e, he, hb, rfl⟩ := bindsOn_some hj; exact hready e he hb
  -- who writes where this one reads or writes comes ahead just if the text has it ahead
  have order : ∀ q u id, ts[q]? = some u → id ∈ dom u.ds → (id ∈ t.fp ∨ id ∈ dom t.ds) → q ≠ i → (Ls q = true ↔ q < i) := by
    intro q u id hq hu hid hne
    have hql : q < ops.toList.length := by have := (List.getElem?_eq_some_iff.1 hq).1; omega
    obtain ⟨o2, ho2⟩ : ∃ o2, ops.toList[q]? = some o2 := ⟨_, List.getElem?_eq_getElem hql⟩
    obtain ⟨r2, hr2⟩ : ∃ r2, is[q]? = some r2 := ⟨_, List.getElem?_eq_getElem (by omega)⟩
    have st2 := hsteps q o2 r2 u ho2 hr2 hq
    have w2 : ¬ r2.i.kind ≤ 1 := fun hk => by rw [(st2.k1 hk).1] at hu; cases hu
    rcases Nat.lt_or_ge q i with hlt | hge
    · refine ⟨fun _ => hlt, fun _ => ?_⟩
      rcases ok.conf q r2 hlt hr2 with c | c | c | c | c
      · exact listed q c
      · omega
      · have := st.k0 c; rcases hid with hid | hid
        · rw [this.1] at hid; cases hid
        · rw [this.2.1] at hid; cases hid
      · omega
      · have hc := st.comp _ c
        rw [lg_at hlt (by omega) hq] at hc
        rcases hid with hid | hid
        · exact absurd (List.mem_append.2 (.inl hid)) (disj_not hc.1 hu)
        · exact absurd (List.mem_append.2 (.inr hid)) (disj_not hc.1 hu)
    · have hgt : i < q := by omega
      refine ⟨fun hL => ?_, fun h => by omega⟩
      have ok2 := hok q o2 r2 ho2 hr2
      have : Ls i = true := by
        rcases ok2.conf i r hgt hr with c | c | c | c | c
        · obtain ⟨e, he, hb, rfl⟩ := bindsOn_some c
          exact h.down q o2 hL (by simpa using ho2) e he hb
        · have := st.k0 c; rcases hid with hid | hid
          · rw [this.1] at hid; cases hid
          · rw [this.2.1] at hid; cases hid
        · omega
        · omega
        · have hc := st2.comp _ c
          rw [lg_at hgt (by omega) ht] at hc
          rcases hid with hid | hid
          · exact absurd (List.mem_append.2 (.inl hid)) (disj_not hc.2 hu)
          · exact absurd (List.mem_append.2 (.inr hid)) (disj_not hc.2 hu)
      rw [hLi] at this; cases this
  have agree : ∀ id, id ∈ t.fp ∨ id ∈ dom t.ds → mD Ls 0 ts H.m id = t.m id := fun id hid => by
    rw [st.m]
    refine mD_at fun q u hq hu => ?_
    rw [Nat.zero_add]
    by_cases hqi : q = i
    · subst hqi; rw [hLi]; simp
    · exact order q u id hq hu hid hqi
  have hn0 : ∀ {j : Nat} {u : Tr}, ts[j]? = some u → u.n = H.n + sumT (ts.take j) := fun {j u} hj => by
    have hjl : j < ops.toList.length := by have := (List.getElem?_eq_some_iff.1 hj).1; omega
    exact (hsteps j _ _ u (List.getElem?_eq_getElem hjl) (List.getElem?_eq_getElem (by omega)) hj).n
  have free : Fresh g (mD Ls 0 ts H.m) t.n t.k := by
    intro id h1 h2
    have hι : g.ι id = none := by
      cases hp : g.ι id with
      | none => rfl
      | some p =>
        rcases h.fresh id p hp with h3 | ⟨j, u, hLj, hju, h3, h4⟩
        · rw [hn0 ht] at h1; omega
        · have hne : j ≠ i := fun e => by rw [e, hLi] at hLj; cases hLj
          rw [hn0 hju] at h3 h4; rw [hn0 ht] at h1 h2
          rcases Nat.lt_or_ge j i with hlt | hge
          · have e1 := sumT_take hju
            have e2 := sumT_mono (ts := ts) (show j + 1 ≤ i by omega)
            omega
          · have e1 := sumT_take ht
            have e2 := sumT_mono (ts := ts) (show i + 1 ≤ j by omega)
            omega
    refine ⟨hι, ?_⟩
    cases hm : mD Ls 0 ts H.m id with
    | none => rfl
    | some ob =>
      have := h.rs.live id ob hm
      cases ob <;> (simp only [ORep] at this; obtain ⟨_, _, _, this⟩ := this; simp [hι] at this)
  have htl : (ts.take i).length = i := by simp; omega
  have hol2 : (ops.toList.take i).length = i := by simp; simp at hio; omega
  -- the operands read as they do in the order of the text
  have atd : ∀ {tt d : Nat}, fnd tt (dlT (ops.toList.take i) []) = some d → ∃ (o2 : Oper) (u : Tr), i - 1 - d < i ∧ ops[i - 1 - d]? = some o2 ∧ o2.dst = some tt ∧ ts[i - 1 - d]? = some u ∧ nth d (envT (ts.take i) []) = some u.v := by
    intro tt d hd
    obtain ⟨o2, h1, h2, h3⟩ := fnd_some hd
    rw [hol2] at h1 h3
    have hlt : i - 1 - d < i := by omega
    rw [List.getElem?_take_of_lt hlt] at h1
    obtain ⟨u, hu⟩ : ∃ u, ts[i - 1 - d]? = some u := ⟨_, List.getElem?_eq_getElem (by omega)⟩
    have hu' : (ts.take i)[i - 1 - d]? = some u := by rw [List.getElem?_take_of_lt hlt]; exact hu
    have := nth_rev hu'
    rw [htl, show i - 1 - (i - 1 - d) = d by omega] at this
    exact ⟨o2, u, hlt, by simpa using h1, h2, hu, this⟩
  have hrel : Rel (dlT (ops.toList.take i) []) (look σ (envT (ts.take i) [])) o.op.operands.toList g a := by
    intro x hx s v hc hl
    cases x with
    | tmp tt =>
      obtain ⟨k1, k2⟩ := ok.opd tt hx
      cases s <;> simp only [cs] at hc <;> try (cases hc; done)
      · rename_i d
        simp at hc
        obtain ⟨o2, u, hlt, h1, h2, hu, h3⟩ := atd hc
        simp only [look] at hl
        rw [h3] at hl; simp at hl; subst hl
        exact h.vals _ o2 u tt (listed _ (k1 d hc)) h1 hu h2
      · simp at hc; obtain ⟨rfl, hc⟩ := hc
        refine h.vars _ _ hl fun j o2 hLj hj hdst => ?_
        rcases Nat.lt_trichotomy j i with hlt | rfl | hgt
        · exact fnd_none hc j o2 (by rw [List.getElem?_take_of_lt hlt]; simpa using hj) hdst
        · rw [hLi] at hLj; cases hLj
        · obtain ⟨e, he, hb, h5⟩ := bindsOn_some (k2 hc j o2 hgt (by simpa using hj) hdst)
          have := h.down j o2 hLj hj e he hb
          rw [h5, hLi] at this; cases this
    | const c =>
      cases s <;> simp only [cs] at hc <;> try (cases hc; done)
      simp only [look] at hl; cases hl; exact kon_R g _ _ hc
    | global _ => cases s <;> simp [cs] at hc
    | func f =>
      cases s <;> try (simp [cs] at hc; done)
      rename_i c
      simp only [look] at hl; cases hl
      cases v <;> try (simp [cs] at hc; done)
      rename_i f' fs cs'
      cases fs <;> cases cs' <;> simp [cs] at hc
      subst hc
      simp only [R, Act.eval]; exact ⟨#[], #[], rfl, by simp [RC], by simp [RC]⟩
  have hguard : ∀ j b, o.guard = some (j, b) → ∃ d, r.g = some (d, b) ∧ ∀ c, yielded ops a.tmps j = some c ↔ nth d (envT (ts.take i) []) = some (.bool c) := by
    intro j b hg
    have hcg := hgs i o r hol hr
    rw [hg] at hcg
    cases hrg : r.g with
    | none => rw [hrg] at hcg; simp [chkG] at hcg
    | some p =>
      obtain ⟨d, b'⟩ := p
      rw [hrg] at hcg
      simp only [chkG, Bool.and_eq_true, beq_iff_eq] at hcg
      obtain ⟨⟨rfl, hjd⟩, hm⟩ := hcg
      refine ⟨d, rfl, fun c => ?_⟩
      split at hm
      · rename_i tt htt
        have hft : fnd tt (dlT (ops.toList.take i) []) = some d := by simpa using hm
        obtain ⟨o2, u, hlt, h1, h2, hu, h3⟩ := atd hft
        have hji : i - 1 - d = j := by omega
        rw [hji] at h1 hu
        have hLj := listed j (ok.guard j b hg)
        have hv := h.vals j o2 u tt hLj h1 hu h2
        have htN : tt < a.tmps.size := by
          have := hdN o2 (List.mem_of_getElem? (by simpa using h1))
          rw [h2] at this; simp [dstOk] at this; rw [h.sizeA]; exact this
        have hgq : a.tmps[tt]? = some (a.tmps.getD tt undef) := by simp [htN]
        have hy : yielded ops a.tmps j = (match a.tmps.getD tt undef with | .bool b => some b | _ => none) := by
          unfold yielded
          rw [h1, Option.bind_some, h2, Option.bind_some, hgq]
          cases a.tmps.getD tt undef <;> rfl
        rw [hy, h3]
        constructor
        · intro e
          split at e
          · rename_i b' hx
            simp at e; subst e
            rw [hx] at hv
            rw [R_bool hv]
          · cases e
        · intro e
          simp at e
          rw [e] at hv
          simp only [R] at hv
          rw [hv]
      · cases hm
  have hgo := st.go (mD Ls 0 ts H.m) g w a (fun id hid => agree id (.inl hid)) free h.rs hrel hguard Kc Q
  unfold wpOp
  simp only [ho]
  refine hgo fun g' x w' k1 k2 k3 k4 => ?_
  obtain ⟨Ls', hLs'⟩ : ∃ Ls' : Nat → Bool, ∀ q, Ls' q = (if q = i then true else Ls q) := ⟨fun q => if q = i then true else Ls q, fun _ => rfl⟩
  refine hk Ls' g' (a.put o.dst x) w' hLs' ?_
  have hmD : mD Ls' 0 ts H.m = appd t.ds (mD Ls 0 ts H.m) := by
    funext id
    refine mD_set ht (by simpa using hLi) (fun q => by rw [hLs' q, Nat.zero_add]) fun q u hq hlt hl hm hmu => ?_
    rw [Nat.zero_add] at hl
    have := (order q u id hq hmu (.inr hm) (by omega)).1 hl
    omega
  have hsub : ∀ q, Ls q = true → Ls' q = true := fun q hq => by
    rw [hLs' q]
    by_cases hqi : q = i
    · rw [if_pos hqi]
    · rw [if_neg hqi]; exact hq
  have hback : ∀ q, Ls' q = true → q = i ∨ Ls q = true := fun q hq => by
    rw [hLs' q] at hq
    by_cases hqi : q = i
    · exact .inl hqi
    · rw [if_neg hqi] at hq; exact .inr hq
  -- no two of a region write one temporary
  have apart : ∀ (j : Nat) (o2 : Oper) d, j ≠ i → ops[j]? = some o2 → o2.dst = some d → o.dst ≠ some d := by
    intro j o2 d hne hj hd hod
    have hj' : ops.toList[j]? = some o2 := by simpa using hj
    rcases Nat.lt_or_ge j i with hlt | hge
    · exact fnd_none (ok.dst d hod) j o2 (by rw [List.getElem?_take_of_lt hlt]; exact hj') hd
    · have hjl := (List.getElem?_eq_some_iff.1 hj').1
      have ok2 := hok j o2 is[j] hj' (List.getElem?_eq_getElem (by omega))
      exact fnd_none (ok2.dst d hd) i o (by rw [List.getElem?_take_of_lt (by omega)]; exact hol) hod
  refine ⟨by rw [hmD]; exact k1, ?_, ?_, ?_, by rw [hmD]; exact h.ext.trans k3, by rw [put_size]; exact h.sizeA, by rw [put_defers']; exact h.defs, ?_, fun id hid => (k2 id (by have := st.n; omega)).trans (h.low id hid)⟩
  · intro id p hp
    by_cases hid : t.n ≤ id ∧ id < t.n + t.k
    · exact .inr ⟨i, t, by rw [hLs' i, if_pos rfl], ht, hid.1, hid.2⟩
    · rw [k2 id hid] at hp
      rcases h.fresh id p hp with h3 | ⟨j, u, hLj, hju, h3⟩
      · exact .inl h3
      · exact .inr ⟨j, u, hsub j hLj, hju, h3⟩
  · intro j o2 u d hLj hj hu hd
    by_cases hji : j = i
    · subst hji
      rw [ho] at hj; simp at hj; subst hj
      rw [ht] at hu; simp at hu; subst hu
      have := hdN o (List.mem_of_getElem? hol)
      rw [hd] at this; simp [dstOk] at this
      rw [hd, put_getD_eq (by rw [h.sizeA]; exact this)]; exact k4
    · have hL := (hback j hLj).resolve_left hji
      have hv := R.mono k3.le _ _ (h.vals j o2 u d hL hj hu hd)
      have hne := apart j o2 d hji hj hd
      cases hod : o.dst with
      | none => exact hv
      | some d' => rw [put_getD_ne (fun e => hne (by rw [hod, e]))]; exact hv
  · intro tt v hf hno
    have hv := R.mono k3.le _ _ (h.vars tt v hf fun j o2 hL hj => hno j o2 (hsub j hL) hj)
    have hne := hno i o (by rw [hLs' i, if_pos rfl]) ho
    cases hod : o.dst with
    | none => exact hv
    | some d' => rw [put_getD_ne (fun e => hne (by rw [hod, e]))]; exact hv
  · intro j o2 hLj hj e he hb
    by_cases hji : j = i
    · subst hji
      rw [ho] at hj; simp at hj; subst hj
      exact hsub _ (hready e he hb)
    · exact hsub _ (h.down j o2 ((hback j hLj).resolve_left hji) hj e he hb)

theorem countP_set {l : List Bool} : ∀ {i : Nat}, l[i]? = some false → (l.set i true).countP (!·) + 1 = l.countP (!·) := by
  induction l with
  | nil => intro i h; simp at h
  | cons b l ih =>
    intro i h
    cases i with
    | zero => simp at h; subst h; simp
    | succ i =>
      simp at h
      simp only [List.set_cons_succ, List.countP_cons]
      have := ih h; omega

/-- **A region that draws its order does what it does in the order of the text.** -/
theorem any_sound {P : Program} {ops : Array Oper} {is : List RI} {σ : Sg} {N : Nat} {ts : List Tr} {H : Hp} {g0 : G} {w0 : World} {Q : Exit → Act → World → Prop}
    (hlen : ts.length = ops.toList.length) (hils : is.length = ops.toList.length)
    (hsteps : ∀ (i : Nat) o r t, ops.toList[i]? = some o → is[i]? = some r → ts[i]? = some t → Step P σ ops N (dlT (ops.toList.take i) []) (envT (ts.take i) []) ((lgT (ts.take i)).reverse ++ []) (appT (ts.take i) H.m) (H.n + sumT (ts.take i)) o r t)
    (hok : ∀ (i : Nat) o r, ops.toList[i]? = some o → is[i]? = some r → DOk ops ops.toList is i o r)
    (hgs : ∀ (i : Nat) o r, ops.toList[i]? = some o → is[i]? = some r → chkG i (dlT (ops.toList.take i) []) o.guard r.g = true) (hdN : ∀ o ∈ ops.toList, dstOk N o.dst = true)
    (hq : ∀ g a w, DInv ops σ N ts H g0 w0 (fun i => decide (i < ops.size)) g a w → Q .normal a w) :
    ∀ (fuel : Nat) (ls : Array Bool) (g : G) (a : Act) (w : World), ls.size = ops.size → ls.toList.countP (!·) ≤ fuel → DInv ops σ N ts H g0 w0 (fun i => ls.getD i false) g a w → wpAny P .any ops Q fuel ls a w := by
  -- if none is ready, all are done
  have alld : ∀ (ls : Array Bool), ls.size = ops.size → Region.ready .any ops ls = [] → ∀ i, i < ops.size → ls.getD i false = true := by
    intro ls hsz hr i
    induction i using Nat.strongRecOn with
    | _ i ih =>
      intro hi
      by_cases hL : ls.getD i false = true
      · exact hL
      · exfalso
        have hil : i < ls.size := by omega
        have : i ∈ Region.ready .any ops ls := by
          rw [mem_ready]
          refine ⟨by simp [hil] at hL ⊢; exact hL, ops[i], by simp [hi], fun e he hb => ?_⟩
          have hil2 : i < is.length := by simp at hils; omega
          have ok := hok i ops[i] is[i] (by simp [hi]) (by simp [hil2])
          have := ok.edges e he hb
          exact ih e.on this (by omega)
        rw [hr] at this; cases this
  have fin : ∀ (ls : Array Bool) g a w, ls.size = ops.size → Region.ready .any ops ls = [] → DInv ops σ N ts H g0 w0 (fun i => ls.getD i false) g a w → Q .normal a w := by
    intro ls g a w hsz hr h
    have e : (fun i => ls.getD i false) = fun i => decide (i < ops.size) := by
      funext i
      by_cases hi : i < ops.size
      · rw [alld ls hsz hr i hi]; simp [hi]
      · simp [hi, show ¬ i < ls.size by omega]
    rw [e] at h
    exact hq g a w h
  intro fuel
  induction fuel with
  | zero =>
    intro ls g a w hsz hc h
    have hr : Region.ready .any ops ls = [] := by
      rw [List.eq_nil_iff_forall_not_mem]
      intro i hi
      obtain ⟨h1, o, ho, _⟩ := mem_ready.1 hi
      have hil : i < ls.size := by have := (Array.getElem?_eq_some_iff.1 ho).1; omega
      simp [hil] at h1
      have : ls.toList.countP (!·) ≠ 0 := by
        rw [Ne, List.countP_eq_zero]
        intro hall
        have := hall ls[i] (by simp)
        simp [h1] at this
      omega
    exact ⟨hr, fin ls g a w hsz hr h⟩
  | succ fuel ih =>
    intro ls g a w hsz hc h
    refine ⟨fun hr => fin ls g a w hsz hr h, fun i hi => ?_⟩
    obtain ⟨h1, o, ho, h2⟩ := mem_ready.1 hi
    have hio := (Array.getElem?_eq_some_iff.1 ho).1
    have hil : i < ls.size := by omega
    have h1' : ls[i]? = some false := by simp [hil] at h1 ⊢; exact h1
    refine DInv.step hlen hils hsteps hok hgs hdN h ho (by simp [hil] at h1 ⊢; exact h1) h2 fun Ls' g' a' w' hL h' => ?_
    refine ih (ls.setIfInBounds i true) g' a' w' (by simp [hsz]) ?_ ?_
    · have := countP_set (l := ls.toList) (i := i) (by simpa using h1')
      simp only [Array.toList_setIfInBounds]
      omega
    · have e : (fun q => (ls.setIfInBounds i true).getD q false) = Ls' := by
        funext q
        rw [hL q]
        by_cases hqi : q = i
        · subst hqi; simp [hil]
        · rw [if_neg hqi, getD_set_ne false (fun e => hqi e.symm)]
      rw [e]; exact h'

end Go.Proofs.Ytickdhdlljhomaa.Ev
