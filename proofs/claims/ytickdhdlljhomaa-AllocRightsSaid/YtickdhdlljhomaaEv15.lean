/-
  Functions: contracts from the evaluator.
-/
import Derived.Test.YtickdhdlljhomaaEv14
set_option linter.unusedSimpArgs false
set_option linter.unusedVariables false
namespace Go.Proofs.Ytickdhdlljhomaa.Ev
open Go

/-- Where a result stands. -/
inductive RV where
  | t (n : Nat)
  | c (a : Nat) (k : Option Nat)

def loadO (k : Option Nat) (v : V) (m : Hm) : Option V :=
  match v with
  | .ptr id i off => (match m id with
    | some (.arr _ l) => (match l[i]? with | some e => getC k off e | none => none)
    | _ => none)
  | _ => none

def resE (σ : Sg) (m : Hm) : List RV → Option (List V)
  | [] => some []
  | .t n :: r => (match find n σ with | some v => (match resE σ m r with | some l => some (v :: l) | none => none) | none => none)
  | .c a k :: r => (match find a σ with | some p => (match loadO k p m with | some v => (match resE σ m r with | some l => some (v :: l) | none => none) | none => none) | none => none)

def pack : List V → V
  | [v] => v
  | l => .tup l

def chkRes (P : Program) : List ResultVar → List RV → Bool
  | [], [] => true
  | .tmp t :: r, .t n :: q => t == n && chkRes P r q
  | .cell a t :: r, .c a' k :: q => a == a' && aggK P t == some k && chkRes P r q
  | _, _ => false

/-- The end of a function that answers r. -/
def Fin (rvs : List RV) (r : V) : QA := fun e σ H => (e = .norm ∨ e = .ret) ∧ ∃ l, resE σ H.m rvs = some l ∧ ∃ v, snap 4 H.m (pack l) = some v ∧ (v = r ∨ loosen v = r ∨ lo v = r)

def argsE : Nat → List V → Sg
  | _, [] => []
  | k, v :: vs => (k, v) :: argsE (k + 1) vs

theorem find_args : ∀ {vs : List V} {k t : Nat} {v : V}, find t (argsE k vs) = some v → k ≤ t ∧ vs[t - k]? = some v
  | [], _, _, _, h => by simp [argsE, find] at h
  | u :: us, k, t, v, h => by
    simp only [argsE, find] at h
    split at h
    · rename_i e; subst e; simp at h; subst h; simp
    · obtain ⟨h1, h2⟩ := find_args h
      refine ⟨by omega, ?_⟩
      rw [show t - k = (t - (k + 1)) + 1 by omega]; simpa using h2

theorem load_sound {P : Program} {g : G} {m : Hm} {w : World} {t : TypeId} {k : Option Nat} {p v : V} {x : Value} (hs : RS g m w) (hk : aggK P t = some k) (hr : R g p x) (h : loadO k p m = some v) :
    ∃ a y, x = .pointer (some a) ∧ (loadVar t a).run P w = .ok y w ∧ R g v y := by
  unfold loadO at h
  cases p <;> simp only at h <;> try (cases h; done)
  rename_i id i off
  split at h
  · rename_i sz l hm
    split at h
    · rename_i e he
      simp only [R] at hr
      obtain ⟨b, sz', n, q1, q2⟩ := hr
      obtain ⟨b', n', cs, el, xs, post, p1, p2, p3, p4, p5, p6, p7⟩ := live_cells hs hm
      rw [p1] at q1; simp at q1; obtain ⟨rfl, rfl, rfl⟩ := q1
      obtain ⟨as, y, bs, r1, r2, r3, _⟩ := p5.get p6 he
      have hc : CAt w b' (i * sz) y.cells.toList := ⟨cs, el, _, as, bs ++ post, p2, by rw [p7, r1]; simp, r2⟩
      obtain ⟨z, z1, z2⟩ := getC_load (P := P) hk r3 hc h
      exact ⟨_, z, q2, z1, z2⟩
    · cases h
  · cases h

def resF (tmps : Array Value) : ResultVar → Sem Value
  | .tmp t => pure (tmps.getD t undef)
  | .cell c t => do loadVar t (← asAddr (tmps.getD c undef))

theorem res_list {P : Program} {g : G} {m : Hm} {w : World} {σ : Sg} {a : Act} {N : Nat} (hs : RS g m w) (hr : RA g σ a N) : ∀ {rs : List ResultVar} {rvs : List RV} {l : List V}, chkRes P rs rvs = true → resE σ m rvs = some l →
    ∃ xs, (rs.mapM (resF a.tmps)).run P w = .ok xs w ∧ RC g l xs
  | [], [], l, _, h => by simp [resE] at h; subst h; exact ⟨[], by simp, by simp [RC]⟩
  | .tmp t :: rs, .t n :: rvs, l, hc, h => by
    simp only [chkRes, Bool.and_eq_true, beq_iff_eq] at hc
    obtain ⟨rfl, hc⟩ := hc
    simp only [resE] at h
    split at h
    · rename_i v hv
      split at h
      · rename_i l' hl'
        simp at h; subst h
        obtain ⟨xs, k1, k2⟩ := res_list hs hr hc hl'
        exact ⟨_ :: xs, by simp only [List.mapM_cons, resF, Sem.run_bind, Sem.run_pure, Result.andThen_ok, k1]; rfl, by simp only [RC]; exact ⟨_, xs, rfl, hr.vR _ _ hv, k2⟩⟩
      · cases h
    · cases h
  | .cell c t :: rs, .c a' k :: rvs, l, hc, h => by
    simp only [chkRes, Bool.and_eq_true, beq_iff_eq] at hc
    obtain ⟨⟨rfl, hk⟩, hc⟩ := hc
    simp only [resE] at h
    split at h
    · rename_i p hp
      split at h
      · rename_i v hv
        split at h
        · rename_i l' hl'
          simp at h; subst h
          obtain ⟨xs, k1, k2⟩ := res_list hs hr hc hl'
          obtain ⟨ad, y, e1, e2, e3⟩ := load_sound (P := P) hs hk (hr.vR _ _ hp) hv
          refine ⟨y :: xs, ?_, by simp only [RC]; exact ⟨_, xs, rfl, e3, k2⟩⟩
          simp only [List.mapM_cons, resF, Sem.run_bind, e1, asAddr, Sem.run_pure, Result.andThen_ok, e2, k1]
        · cases h
      · cases h
    · cases h
  | [], _ :: _, _, h, _ => by simp [chkRes] at h
  | .tmp _ :: _, [], _, h, _ => by simp [chkRes] at h
  | .cell _ _ :: _, [], _, h, _ => by simp [chkRes] at h
  | .tmp _ :: _, .c _ _ :: _, _, h, _ => by simp [chkRes] at h
  | .cell _ _ :: _, .t _ :: _, _, h, _ => by simp [chkRes] at h

theorem res_sound {P : Program} {fn : Func} {g : G} {m : Hm} {w : World} {σ : Sg} {a : Act} {N : Nat} (hs : RS g m w) (hr : RA g σ a N) {rvs : List RV} {l : List V} (hc : chkRes P fn.results.toList rvs = true) (h : resE σ m rvs = some l) :
    ∃ x, (results fn a.tmps).run P w = .ok x w ∧ R g (pack l) x := by
  obtain ⟨xs, k1, k2⟩ := res_list (P := P) hs hr hc h
  have hm : (fn.results.mapM (resF a.tmps)).run P w = .ok xs.toArray w := by
    rw [Array.mapM_eq_mapM_toList, map_eq_pure_bind]
    simp only [Sem.run_bind, k1, Result.andThen_ok, Sem.run_pure]
  have he : results fn a.tmps = (do let vs ← fn.results.mapM (resF a.tmps); pure (if h : vs.size = 1 then vs[0] else .tuple vs)) := rfl
  rw [he]
  refine ⟨if h : xs.toArray.size = 1 then xs.toArray[0] else .tuple xs.toArray, by simp only [Sem.run_bind, hm, Result.andThen_ok, Sem.run_pure], ?_⟩
  have hlen := k2.length
  cases l with
  | nil =>
    simp only [RC] at k2; subst k2
    simp [pack, R, RC]
  | cons v l =>
    simp only [RC] at k2
    obtain ⟨y, ys, rfl, r1, r2⟩ := k2
    cases l with
    | nil => simp only [RC] at r2; subst r2; simpa [pack] using r1
    | cons u l =>
      simp only [RC] at r2
      obtain ⟨z, zs, rfl, r3, r4⟩ := r2
      simp only [pack, R]
      refine ⟨(y :: z :: zs).toArray, by rw [dif_neg (by simp)], ?_⟩
      simp only [RC]
      exact ⟨y, _, rfl, r1, z, zs, rfl, r3, r4⟩

/-- **A function's contract, from the evaluator.** -/
theorem enterP {P : Program} (hm : P.follows .mixedOrders = true) {f : Nat} {fn : Func} {c0 : Code} {c : C} {rvs : List RV} (hf : P.funcs[f]? = some fn) (hb : fn.body = some c0) (hn : (fn.name == "runtime.NumGoroutine") = false)
    (hc : chkC P fn.ntmps c0 c = true) (hr : chkRes P fn.results.toList rvs = true) {vs : List V} {r : V} (hlen : vs.length ≤ fn.ntmps) (hcl : closedL vs = true)
    (h : ev P c (argsE 0 vs) ⟨0, fun _ => none⟩ (Fin rvs r)) : PCall P f vs r := by
  refine ⟨⟨fn, hf, by rw [hb]; rfl, hn⟩, fun m g w xs hs hx => ?_⟩
  refine calls_of_wp hf hb ?_
  have hs0 : RS ⟨fun _ => none, g.F⟩ (fun _ => none) w := ⟨hs.fro, by simp, by simp⟩
  have hx0 : RC ⟨fun _ => none, g.F⟩ vs xs.toList := RC.closed (g := g) (g' := ⟨fun _ => none, g.F⟩) (fun _ _ k => k) _ _ hcl hx
  have hxl : xs.size = vs.length := by simpa using hx.length
  have ha0 : RA ⟨fun _ => none, g.F⟩ (argsE 0 vs) { tmps := xs ++ Array.replicate (fn.ntmps - xs.size) undef, defers := [] } fn.ntmps := by
    refine ⟨fun t v ht => ?_, by simp; omega, rfl⟩
    obtain ⟨_, h2⟩ := find_args ht
    obtain ⟨x, h3, h4⟩ := hx0.get h2
    have hlt : t < xs.size := by have := (List.getElem?_eq_some_iff.1 h2).1; omega
    have : (xs ++ Array.replicate (fn.ntmps - xs.size) undef).getD t undef = x := by
      simp only [Nat.sub_zero] at h3
      have h3' : xs[t]? = some x := by simpa using h3
      simp [Array.getElem?_append_left hlt, h3']
    rw [this]; exact h4
  refine wp_mono (ev_sound hm hc h hs0 (fun _ _ => rfl) ha0) ?_
  rintro e a' w' ⟨ae, σ', H', g', k1, ⟨hae, l, k2, v, k3, k4⟩, k5, k6, k7, k8⟩
  obtain ⟨x, q1, q2⟩ := res_sound (P := P) (fn := fn) k5 k7 hr k2
  obtain ⟨F', p1, p2, p3, p4⟩ := freezeAll k5
  have hsn := (snap_sound (g := g') (g' := ⟨g.ι, F'⟩) k5 p1 p4 4 _ x v k3 q2).1
  have hr2 : R ⟨g.ι, F'⟩ r x := by
    rcases k4 with rfl | rfl | rfl
    · exact hsn
    · exact loosen_R hsn
    · exact (lo_R _ _ hsn).1
  have hFg : ∀ b cs, g.F b = some cs → F' b = some cs := fun b cs hb' => p1 b cs (k8.le.F b cs hb')
  have hnew : ∀ b cs, F' b = some cs → g.F b = some cs ∨ w.heap.size ≤ b := by
    intro b cs hb'
    rcases p2 b cs hb' with h1 | h1
    · rcases k8.froz b cs h1 with h2 | h2 | ⟨_, _, _, _, h2, _⟩
      · exact .inl h2
      · exact .inr h2
      · cases h2
    · rcases k8.own b h1 with h2 | ⟨_, _, _, _, h2, _⟩
      · exact .inr h2
      · cases h2
  have hold : ∀ b, b < w.heap.size → w'.heap[b]? = w.heap[b]? := fun b hb' => k8.old b hb' (fun ⟨_, _, _, _, h2, _⟩ => by cases h2)
  have hle : g.le ⟨g.ι, F'⟩ := ⟨fun _ _ k => k, hFg⟩
  have hrs : RS ⟨g.ι, F'⟩ m w' := by
    refine ⟨(p3 g.ι).fro, fun id o k => ?_, hs.inj⟩
    refine (hs.live id o k).keep hle fun b s n hb' => ⟨hold b ((hs.live id o k).lt hb'), ?_⟩
    cases hF : F' b with
    | none => exact hF
    | some cs =>
      rcases hnew b cs hF with h1 | h1
      · have := (hs.live id o k).unF hb'; rw [this] at h1; cases h1
      · have := (hs.live id o k).lt hb'; omega
  have hext : Ext g m w ⟨g.ι, F'⟩ m w' :=
    ⟨k8.size, fun b hb' _ => hold b hb', hle, fun b hb' => .inr hb', fun b cs hb' => (hnew b cs hb').imp (fun h => h) .inl, k8.os, k8.tape, k8.output⟩
  rcases hae with rfl | rfl
  · cases e <;> simp only [AEx.is] at k1
    exact ⟨k7.defs, x, q1, x, F', rfl, hr2, hrs, hext⟩
  · cases e <;> simp only [AEx.is] at k1
    exact ⟨k7.defs, x, q1, x, F', rfl, hr2, hrs, hext⟩

end Go.Proofs.Ytickdhdlljhomaa.Ev
