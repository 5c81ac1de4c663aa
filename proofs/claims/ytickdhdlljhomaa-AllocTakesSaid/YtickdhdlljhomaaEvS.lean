/-
  Freezing: what is told of an own block in full, once it is not written any more.
-/
import Derived.Test.YtickdhdlljhomaaEv13
set_option linter.unusedSimpArgs false
set_option linter.unusedVariables false
namespace Go.Proofs.Ytickdhdlljhomaa.Ev
open Go

/-- Of what room a slice has nothing is told any more. -/
def loose1 : V → V
  | .fsl _ sz l => .fsl .loose sz l
  | v => v
def loosen : V → V
  | .fsl _ sz l => .fsl .loose sz l
  | .agg l => .agg (l.map loose1)
  | .tup l => .tup (l.map fun v => match v with | .agg l => .agg (l.map loose1) | v => loose1 v)
  | v => v

open Classical in
theorem freezeAll {g : G} {m : Hm} {w : World} (h : RS g m w) : ∃ F', (∀ b cs, g.F b = some cs → F' b = some cs) ∧ (∀ b cs, F' b = some cs → g.F b = some cs ∨ Own g m b) ∧ (∀ ι', RS ⟨ι', F'⟩ (fun _ => none) w) ∧
    ∀ id sz l b n cs e fr, m id = some (.arr sz l) → g.ι id = some (b, sz, n) → w.heap[b]? = some (.cells cs e fr) → F' b = some cs.toList := by
  refine ⟨fun b => match g.F b with | some cs => some cs | none => if ∃ id sz l n, m id = some (.arr sz l) ∧ g.ι id = some (b, sz, n) then (match w.heap[b]? with | some (.cells cs _ _) => some cs.toList | _ => none) else none, ?_, ?_, ?_, ?_⟩
  · intro b cs k; simp only [k]
  · intro b cs k
    simp only at k
    split at k
    · rename_i cs' hF; simp at k; subst k; exact .inl hF
    · split at k
      · rename_i hex; obtain ⟨id, sz, l, n, h1, h2⟩ := hex; exact .inr ⟨id, _, _, _, h1, h2⟩
      · cases k
  · intro ι'
    refine ⟨?_, by simp, by simp⟩
    intro b cs k
    simp only at k
    split at k
    · rename_i cs' hF; simp at k; subst k; exact h.fro b _ hF
    · split at k
      · split at k
        · rename_i c e fr hb; simp at k; subst k; exact ⟨e, fr, by simpa using hb⟩
        · cases k
      · cases k
  · intro id sz l b n cs e fr h1 h2 h3
    have := (h.live id _ h1).unF h2
    simp only [this]
    rw [if_pos ⟨id, sz, l, n, h1, h2⟩, h3]

section
variable {g g' : G} {m : Hm} {w : World}

theorem mapO_RC {f : V → Option V} (hf : ∀ v x v', f v = some v' → R g v x → R g' v' x ∧ v'.size = v.size ∧ v'.isEl = v.isEl ∧ v'.cell = v.cell) : ∀ {l l' : List V} {xs : List Value}, mapO f l = some l' → RC g l xs → RC g' l' xs ∧ l'.length = l.length ∧ ((∀ v ∈ l, v.cell = true) → ∀ v ∈ l', v.cell = true)
  | [], l', xs, h, r => by simp [mapO] at h; subst h; simp only [RC] at r; subst r; simp [RC]
  | v :: vs, l', xs, h, r => by
    simp only [mapO] at h
    simp only [RC] at r; obtain ⟨y, ys, rfl, r1, r2⟩ := r
    cases h1 : f v with
    | none => simp [h1] at h
    | some u =>
      simp only [h1] at h
      cases h2 : mapO f vs with
      | none => simp [h2] at h
      | some us =>
        simp [h2] at h; subst h
        obtain ⟨k1, k2, k3, k4⟩ := hf v y u h1 r1
        obtain ⟨j1, j2, j3⟩ := mapO_RC hf h2 r2
        refine ⟨by simp only [RC]; exact ⟨y, ys, rfl, k1, j1⟩, by simp [j2], fun hc z hz => ?_⟩
        cases hz with
        | head => rw [k4]; exact hc v (by simp)
        | tail _ hz => exact j3 (fun a ha => hc a (by simp [ha])) z hz

theorem mapO_RL {f : V → Option V} (hf : ∀ v x v', f v = some v' → R g v x → R g' v' x ∧ v'.size = v.size ∧ v'.isEl = v.isEl ∧ v'.cell = v.cell) {sz : Nat} : ∀ {l l' : List V} {xs : List Value}, mapO f l = some l' → RL g l xs → (∀ v ∈ l, v.size = sz) → RL g' l' xs ∧ l'.length = l.length ∧ ∀ v ∈ l', v.size = sz
  | [], l', xs, h, r, _ => by simp [mapO] at h; subst h; simp only [RL] at r; subst r; simp [RL]
  | v :: vs, l', xs, h, r, hz => by
    simp only [mapO] at h
    simp only [RL] at r; obtain ⟨y, ys, rfl, ⟨r0, r1⟩, r2⟩ := r
    cases h1 : f v with
    | none => simp [h1] at h
    | some u =>
      simp only [h1] at h
      cases h2 : mapO f vs with
      | none => simp [h2] at h
      | some us =>
        simp [h2] at h; subst h
        obtain ⟨k1, k2, k3, k4⟩ := hf v y u h1 r1
        obtain ⟨j1, j2, j3⟩ := mapO_RL hf h2 r2 (fun a ha => hz a (by simp [ha]))
        refine ⟨by simp only [RL]; exact ⟨y, ys, rfl, ⟨by rw [k3]; exact r0, k1⟩, j1⟩, by simp [j2], fun a ha => ?_⟩
        cases ha with
        | head => rw [k2]; exact hz v (by simp)
        | tail _ ha => exact j3 a ha

theorem snap_sound (hs : RS g m w) (hF : ∀ b cs, g.F b = some cs → g'.F b = some cs)
    (hA : ∀ id sz l b n cs e fr, m id = some (.arr sz l) → g.ι id = some (b, sz, n) → w.heap[b]? = some (.cells cs e fr) → g'.F b = some cs.toList) :
    ∀ n v x v', snap n m v = some v' → R g v x → R g' v' x ∧ v'.size = v.size ∧ v'.isEl = v.isEl ∧ v'.cell = v.cell := by
  intro n
  induction n with
  | zero =>
    intro v x v' h r
    simp only [snap] at h
    split at h
    · rename_i hc; simp at h; subst h; exact ⟨R.closed hF v x hc r, rfl, rfl, rfl⟩
    · cases h
  | succ n ih =>
    intro v x v' h r
    simp only [snap] at h
    split at h
    · rename_i hc; simp at h; subst h; exact ⟨R.closed hF v x hc r, rfl, rfl, rfl⟩
    · rename_i hncl
      clear hncl
      cases v <;> simp only at h <;> try (cases h; done)
      · rename_i id off len
        split at h
        · rename_i sz l hm
          split at h
          · rename_i hlen
            split at h
            · rename_i l' hl'
              simp at h; subst h
              refine ⟨?_, rfl, rfl, rfl⟩
              simp only [R] at r ⊢
              obtain ⟨b, sz2, n2, a, cap, e1, rfl, e3, e4⟩ := r
              obtain ⟨b', n', cs, el, xs, post, p1, p2, p3, p4, p5, p6, p7⟩ := live_cells hs hm
              rw [p1] at e1; simp at e1; obtain ⟨rfl, rfl, rfl⟩ := e1
              obtain ⟨as, bs, q1, q2, q3, q4⟩ := RL.split off p5 p6 (by omega)
              obtain ⟨cs', ds, t1, t2, t3, t4⟩ := RL.split len q4 (fun v hv => p6 v (List.mem_of_mem_drop hv)) (by simp; omega)
              obtain ⟨j1, j2, j3⟩ := mapO_RL (g' := g') ih hl' t3 (fun v hv => p6 v (List.mem_of_mem_drop (List.mem_of_mem_take hv)))
              have hll : l'.length = len := by rw [j2]; simp; omega
              refine ⟨some a, cap, cs', by rw [hll], j1, j3, by omega, by simp, by simp, by simp, ?_⟩
              rcases e4 with ⟨rfl, _⟩ | h0
              · refine .inr ⟨b', off * sz, rfl, ?_⟩
                exact ⟨as, ds ++ post, by rw [hA id sz l b' n' cs el _ hm p1 p2, p7, q1, t1]; simp, q2⟩
              · exact .inl (List.eq_nil_of_length_eq_zero (by omega))
            · cases h
          · cases h
        · cases h
      · rename_i st sz l
        split at h
        · rename_i l' hl'
          simp at h; subst h
          refine ⟨?_, rfl, rfl, rfl⟩
          simp only [R] at r ⊢
          obtain ⟨a, cap, xs, rfl, e2, e3, e4, e5, e6, e7, e8⟩ := r
          obtain ⟨j1, j2, j3⟩ := mapO_RL (g' := g') ih hl' e2 e3
          refine ⟨a, cap, xs, by rw [j2], j1, j3, by omega, e5, e6, fun hst => by rw [j2]; exact e7 hst, ?_⟩
          rcases e8 with rfl | ⟨b, o, h1, pre, post, h2, h3⟩
          · exact .inl (List.eq_nil_of_length_eq_zero (by rw [j2]; rfl))
          · exact .inr ⟨b, o, h1, pre, post, hF _ _ h2, h3⟩
        · cases h
      · rename_i l
        split at h
        · rename_i l' hl'
          simp at h; subst h
          simp only [R] at r ⊢
          obtain ⟨xs, rfl, e2, e3⟩ := r
          obtain ⟨j1, j2, j3⟩ := mapO_RC (g' := g') ih hl' e2
          exact ⟨⟨xs, rfl, j1, j3 e3⟩, j2, rfl, rfl⟩
        · cases h
      · rename_i l
        split at h
        · rename_i l' hl'
          simp at h; subst h
          simp only [R] at r ⊢
          obtain ⟨xs, rfl, e2⟩ := r
          obtain ⟨j1, j2, j3⟩ := mapO_RC (g' := g') ih hl' e2
          exact ⟨⟨xs, rfl, j1⟩, rfl, rfl, rfl⟩
        · cases h

theorem loose1_R {v : V} {x : Value} (h : R g v x) : R g (loose1 v) x ∧ (loose1 v).cell = v.cell := by
  cases v <;> try exact ⟨h, rfl⟩
  refine ⟨?_, rfl⟩
  simp only [loose1, R] at h ⊢
  obtain ⟨a, cap, xs, e1, e2, e3, e4, e5, e6, e7, e8⟩ := h
  exact ⟨a, cap, xs, e1, e2, e3, e4, e5, by simp, by simp, e8⟩

theorem mapRC {f : V → V} (hf : ∀ v x, R g v x → R g (f v) x ∧ (f v).cell = v.cell) : ∀ {l : List V} {xs : List Value}, RC g l xs → RC g (l.map f) xs ∧ ((∀ v ∈ l, v.cell = true) → ∀ v ∈ l.map f, v.cell = true)
  | [], xs, h => by simp only [RC] at h; subst h; simp [RC]
  | v :: vs, xs, h => by
    simp only [RC] at h; obtain ⟨y, ys, rfl, h1, h2⟩ := h
    obtain ⟨k1, k2⟩ := hf v y h1
    obtain ⟨j1, j2⟩ := mapRC hf h2
    refine ⟨by simp only [List.map_cons, RC]; exact ⟨y, ys, rfl, k1, j1⟩, fun hc z hz => ?_⟩
    simp only [List.map_cons, List.mem_cons] at hz
    rcases hz with rfl | hz
    · rw [k2]; exact hc v (by simp)
    · exact j2 (fun a ha => hc a (by simp [ha])) z hz

theorem loosen_R {v : V} {x : Value} (h : R g v x) : R g (loosen v) x := by
  have ag : ∀ {l : List V} {x : Value}, R g (.agg l) x → R g (.agg (l.map loose1)) x ∧ (V.agg (l.map loose1)).cell = (V.agg l).cell := by
    intro l x h
    refine ⟨?_, rfl⟩
    simp only [R] at h ⊢
    obtain ⟨xs, rfl, e2, e3⟩ := h
    obtain ⟨k1, k2⟩ := mapRC (fun v x h => loose1_R h) e2
    exact ⟨xs, rfl, k1, k2 e3⟩
  cases v <;> try exact h
  · exact (loose1_R h).1
  · exact (ag h).1
  · rename_i l
    simp only [loosen, R] at h ⊢
    obtain ⟨xs, rfl, e2⟩ := h
    refine ⟨xs, rfl, (mapRC (fun v x h => ?_) e2).1⟩
    cases v <;> first | exact ag h | exact loose1_R h

end

mutual
/-- Of what room slices have nothing is told any more, however deep they lie. -/
def lo : V → V
  | .fsl _ sz l => .fsl .loose sz (loL l)
  | .agg l => .agg (loL l)
  | .tup l => .tup (loL l)
  | .bool b => .bool b
  | .int k n => .int k n
  | .str s => .str s
  | .nilp => .nilp
  | .ptr a b c => .ptr a b c
  | .fptr a b => .fptr a b
  | .sl a b c => .sl a b c
  | .fn a b c => .fn a b c
  | .nilf => .nilf
  | .ifc a b => .ifc a b
  | .nili => .nili
  | .map a => .map a
  | .nilm => .nilm
def loL : List V → List V
  | [] => []
  | v :: vs => lo v :: loL vs
end

theorem loL_len : ∀ l : List V, (loL l).length = l.length
  | [] => rfl
  | v :: vs => by simp [loL, loL_len vs]

mutual
theorem lo_R {g : G} : ∀ (v : V) (x : Value), R g v x → R g (lo v) x ∧ (lo v).cell = v.cell ∧ (lo v).size = v.size ∧ (lo v).isEl = v.isEl
  | .bool _, _, r | .int _ _, _, r | .str _, _, r | .nilp, _, r | .nilf, _, r | .nili, _, r | .nilm, _, r | .ptr _ _ _, _, r | .fptr _ _, _, r | .sl _ _ _, _, r | .fn _ _ _, _, r | .ifc _ _, _, r | .map _, _, r => by rw [lo]; exact ⟨r, rfl, rfl, rfl⟩
  | .fsl st sz l, _, r => by
    simp only [lo, R] at r ⊢
    obtain ⟨a, cap, xs, e1, e2, e3, e4, e5, e6, e7, e8⟩ := r
    obtain ⟨k1, k2⟩ := loL_RL l xs e2
    refine ⟨⟨a, cap, xs, by rw [loL_len]; exact e1, k1, k2 sz e3, by rw [loL_len]; exact e4, e5, by simp, by simp, ?_⟩, rfl, rfl, rfl⟩
    rcases e8 with rfl | h
    · exact .inl rfl
    · exact .inr h
  | .agg l, _, r => by
    simp only [lo, R] at r ⊢
    obtain ⟨xs, rfl, e2, e3⟩ := r
    obtain ⟨k1, k2⟩ := loL_RC l _ e2
    exact ⟨⟨xs, rfl, k1, k2 e3⟩, rfl, by simp [V.size, loL_len], rfl⟩
  | .tup l, _, r => by
    simp only [lo, R] at r ⊢
    obtain ⟨xs, rfl, e2⟩ := r
    exact ⟨⟨xs, rfl, (loL_RC l _ e2).1⟩, rfl, rfl, rfl⟩
theorem loL_RC {g : G} : ∀ (l : List V) (xs : List Value), RC g l xs → RC g (loL l) xs ∧ ((∀ v ∈ l, v.cell = true) → ∀ v ∈ loL l, v.cell = true)
  | [], _, r => by simp only [loL]; exact ⟨r, fun h => h⟩
  | v :: vs, _, r => by
    simp only [RC] at r; obtain ⟨y, ys, rfl, h1, h2⟩ := r
    obtain ⟨k1, k2, _⟩ := lo_R v y h1
    obtain ⟨j1, j2⟩ := loL_RC vs ys h2
    simp only [loL, RC]
    refine ⟨⟨y, ys, rfl, k1, j1⟩, fun hc z hz => ?_⟩
    rcases List.mem_cons.1 hz with rfl | hz
    · rw [k2]; exact hc v (by simp)
    · exact j2 (fun a ha => hc a (by simp [ha])) z hz
theorem loL_RL {g : G} : ∀ (l : List V) (xs : List Value), RL g l xs → RL g (loL l) xs ∧ (∀ sz, (∀ v ∈ l, v.size = sz) → ∀ v ∈ loL l, v.size = sz)
  | [], _, r => by simp only [loL]; exact ⟨r, fun _ h => h⟩
  | v :: vs, _, r => by
    simp only [RL] at r; obtain ⟨y, ys, rfl, ⟨h0, h1⟩, h2⟩ := r
    obtain ⟨k1, k2, k3, k4⟩ := lo_R v y h1
    obtain ⟨j1, j2⟩ := loL_RL vs ys h2
    simp only [loL, RL]
    refine ⟨⟨y, ys, rfl, ⟨by rw [k4]; exact h0, k1⟩, j1⟩, fun sz hc z hz => ?_⟩
    rcases List.mem_cons.1 hz with rfl | hz
    · rw [k3]; exact hc v (by simp)
    · exact j2 sz (fun a ha => hc a (by simp [ha])) z hz
end


open Classical in
theorem freezeSome {g : G} {m : Hm} {w : World} (h : RS g m w) (fz : List Nat) : ∃ F', (∀ b cs, g.F b = some cs → F' b = some cs) ∧ (∀ b cs, F' b = some cs → g.F b = some cs ∨ Own g m b) ∧ RS ⟨g.ι, F'⟩ (without fz m) w ∧
    ∀ id sz l b n cs e fr, only fz m id = some (.arr sz l) → g.ι id = some (b, sz, n) → w.heap[b]? = some (.cells cs e fr) → F' b = some cs.toList := by
  have hle : ∀ F' : Nat → Option (List Value), (∀ b cs, g.F b = some cs → F' b = some cs) → g.le ⟨g.ι, F'⟩ := fun F' hF => ⟨fun _ _ k => k, hF⟩
  refine ⟨fun b => match g.F b with | some cs => some cs | none => if ∃ id sz l n, only fz m id = some (.arr sz l) ∧ g.ι id = some (b, sz, n) then (match w.heap[b]? with | some (.cells cs _ _) => some cs.toList | _ => none) else none, ?_, ?_, ?_, ?_⟩
  · intro b cs k; simp only [k]
  · intro b cs k
    simp only at k
    split at k
    · rename_i cs' hF; simp at k; subst k; exact .inl hF
    · split at k
      · rename_i hex; obtain ⟨id, sz, l, n, h1, h2⟩ := hex
        simp only [only] at h1; split at h1
        · exact .inr ⟨id, _, _, _, h1, h2⟩
        · cases h1
      · cases k
  · refine ⟨?_, ?_, ?_⟩
    · intro b cs k
      simp only at k
      split at k
      · rename_i cs' hF; simp at k; subst k; exact h.fro b _ hF
      · split at k
        · split at k
          · rename_i c e fr hb; simp at k; subst k; exact ⟨e, fr, by simpa using hb⟩
          · cases k
        · cases k
    · intro id o k
      simp only [without] at k
      split at k
      · cases k
      · rename_i hid
        refine (h.live id o k).keep (hle _ (fun b cs k => by simp only [k])) fun b s n hb => ⟨rfl, ?_⟩
        have hu := (h.live id o k).unF hb
        simp only [hu]
        rw [if_neg]
        rintro ⟨id', sz, l, n', h1, h2⟩
        simp only [only] at h1; split at h1
        · rename_i hid'
          have := h.inj id id' o (.arr sz l) b s n sz n' k h1 hb h2
          subst this; exact hid hid'
        · cases h1
    · intro id id' o o' b s n s' n' h1 h2 h3 h4
      simp only [without] at h1 h2
      split at h1
      · cases h1
      split at h2
      · cases h2
      exact h.inj id id' o o' b s n s' n' h1 h2 h3 h4
  · intro id sz l b n cs e fr h1 h2 h3
    have h1' : m id = some (.arr sz l) := by simp only [only] at h1; split at h1; exact h1; cases h1
    have := (h.live id _ h1').unF h2
    simp only [this]
    rw [if_pos ⟨id, sz, l, n, h1, h2⟩, h3]

theorem RS.only {g : G} {m : Hm} {w : World} (h : RS g m w) (fz : List Nat) : RS g (only fz m) w := by
  have hs : ∀ id o, Ev.only fz m id = some o → m id = some o := fun id o k => by simp only [Ev.only] at k; split at k; exact k; cases k
  exact ⟨h.fro, fun id o k => h.live id o (hs id o k), fun id id' o o' b s n s' n' h1 h2 h3 h4 => h.inj id id' o o' b s n s' n' (hs _ _ h1) (hs _ _ h2) h3 h4⟩

theorem frzS_find {fz : List Nat} {m : Hm} {t : Nat} {v : V} : ∀ {σ : Sg}, find t (frzS fz m σ) = some v → ∃ u, find t σ = some u ∧ (v = u ∨ snap 4 (Ev.only fz m) u = some v)
  | [], h => by simp [frzS, find] at h
  | (t', u) :: r, h => by
    simp only [frzS, frzV, find] at h
    split at h
    · rename_i e; subst e
      refine ⟨u, by simp [find], ?_⟩
      split at h
      · rename_i hx; simp at h; subst h; exact .inr hx
      · simp at h; exact .inl h.symm
    · rename_i e
      obtain ⟨u', k1, k2⟩ := frzS_find h
      exact ⟨u', by simp [find, e, k1], k2⟩

end Go.Proofs.Ytickdhdlljhomaa.Ev
