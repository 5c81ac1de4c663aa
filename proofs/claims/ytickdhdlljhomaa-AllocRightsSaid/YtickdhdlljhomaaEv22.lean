/-
  Loops that count, rows of structures, and contracts that ask nothing of the room of slices.
-/
import Derived.Test.YtickdhdlljhomaaEv20
import Derived.Test.YtickdhdlljhomaaEv21
set_option linter.unusedSimpArgs false
set_option linter.unusedVariables false
namespace Go.Proofs.Ytickdhdlljhomaa.Ev
open Go

theorem ex_max {N : Nat} {p : Nat → Prop} : ∀ (d i : Nat), N - i ≤ d → i ≤ N → p i → ∃ m, m ≤ N ∧ p m ∧ i ≤ m ∧ ∀ j, j ≤ N → p j → j ≤ m
  | 0, i, hd, hi, hp => ⟨i, hi, hp, Nat.le_refl _, fun j hj _ => by omega⟩
  | d + 1, i, hd, hi, hp => by
    by_cases h : ∃ j, i < j ∧ j ≤ N ∧ p j
    · obtain ⟨j, h1, h2, h3⟩ := h
      obtain ⟨m, k1, k2, k3, k4⟩ := ex_max d j (by omega) h2 h3
      exact ⟨m, k1, k2, by omega, k4⟩
    · exact ⟨i, hi, hp, Nat.le_refl _, fun j hj hpj => by
        rcases Nat.lt_or_ge i j with h1 | h1
        · exact absurd ⟨j, h1, hj, hpj⟩ h
        · exact h1⟩

open Classical in
/-- A loop of at most so many rounds, each told by its number. -/
theorem x_it {P : Program} {σ : Sg} {H : Hp} {Q : QA} {a : C} (N : Nat) (I : Nat → Sg → Hp → Prop) (h0 : I 0 σ H)
    (h : ∀ (T : QA) (i : Nat) (σ : Sg) (H : Hp), i ≤ N → I i σ H → (∀ σ' H', i < N → I (i + 1) σ' H' → T .norm σ' H') → (∀ id σ' H', Q (.exit id) σ' H' → T (.exit id) σ' H') → (∀ σ' H', Q .ret σ' H' → T .ret σ' H') → evX P a σ H T) : evX P (.loop a) σ H Q := by
  have mx : ∀ σ H, (∃ i, i ≤ N ∧ I i σ H) → ∃ m, m ≤ N ∧ I m σ H ∧ ∀ j, j ≤ N → I j σ H → j ≤ m := by
    rintro σ H ⟨i, hi, hp⟩
    obtain ⟨m, k1, k2, _, k4⟩ := ex_max (p := fun i => I i σ H) N i (by omega) hi hp
    exact ⟨m, k1, k2, k4⟩
  let μ : Sg → Hp → Nat := fun σ H => if k : ∃ i, i ≤ N ∧ I i σ H then N - Classical.choose (mx σ H k) else 0
  refine x_lp (fun σ H => ∃ i, i ≤ N ∧ I i σ H) μ ⟨0, Nat.zero_le _, h0⟩ ?_
  intro T σ H hi hN hX hR
  obtain ⟨k1, k2, k3⟩ := Classical.choose_spec (mx σ H hi)
  have hμ : μ σ H = N - Classical.choose (mx σ H hi) := dif_pos hi
  refine h T _ σ H k1 k2 (fun σ' H' hlt hI => hN σ' H' ⟨_, hlt, hI⟩ ?_) hX hR
  have hi' : ∃ i, i ≤ N ∧ I i σ' H' := ⟨_, hlt, hI⟩
  obtain ⟨j1, j2, j3⟩ := Classical.choose_spec (mx σ' H' hi')
  have hμ' : μ σ' H' = N - Classical.choose (mx σ' H' hi') := dif_pos hi'
  have := j3 _ hlt hI
  omega

/-- A loop that leaves the heap alone, and of which the states are told. -/
theorem x_itp {P : Program} {σ : Sg} {H : Hp} {Q : QA} {a : C} (N : Nat) (p : Nat → Prop) (f : Nat → Sg) (hp : p 0) (h0 : σ = f 0)
    (h : ∀ (T : QA) (i : Nat), i ≤ N → p i → (∀ σ', i < N → p (i + 1) → σ' = f (i + 1) → T .norm σ' H) → (∀ id σ' H', Q (.exit id) σ' H' → T (.exit id) σ' H') → (∀ σ' H', Q .ret σ' H' → T .ret σ' H') → evX P a (f i) H T) : evX P (.loop a) σ H Q := by
  refine x_it N (fun i σ' H' => H' = H ∧ p i ∧ σ' = f i) ⟨rfl, hp, h0⟩ ?_
  rintro T i σ' H' hi ⟨rfl, hpi, rfl⟩ hN hX hR
  exact h T i hi hpi (fun σ' h1 h2 h3 => hN σ' _ h1 ⟨rfl, h2, h3⟩) hX hR

/-! Branches and guards that may go both ways, by the shape of what they ask. -/
theorem c_get {P : Program} {σ : Sg} {H : Hp} {Q : QA} {a b : C} {l : List Bool} {k : Nat} {hk : k < l.length} : evC P a b σ H Q (some (.bool (l[k]))) = ((l[k] = true → evX P a σ H Q) ∧ (l[k] = false → evX P b σ H Q)) := rfl
theorem g_get {P : Program} {σ : Sg} {H : Hp} {env : List V} {lg : Lg} {K : List V → Hp → Prop} {is : List RI} {i : Ins} {u : List Nat} {d : Nat} {b : Bool} {l : List Bool} {k : Nat} {hk : k < l.length} : evG P σ is env lg H u K i d b (some (.bool (l[k]))) = ((l[k] = b → opX P (look σ (setN d (.bool b) env)) H (Nx P σ is (setN d (.bool b) env) lg H u K) i) ∧ (l[k] = !b → evX1 P σ is (.tup [] :: setN d (.bool !b) env) (([], []) :: lg) H K)) := rfl
theorem c_gD {P : Program} {σ : Sg} {H : Hp} {Q : QA} {a b : C} {l : List Bool} {k : Nat} : evC P a b σ H Q (some (.bool (l.getD k false))) = ((l.getD k false = true → evX P a σ H Q) ∧ (l.getD k false = false → evX P b σ H Q)) := rfl
theorem g_gD {P : Program} {σ : Sg} {H : Hp} {env : List V} {lg : Lg} {K : List V → Hp → Prop} {is : List RI} {i : Ins} {u : List Nat} {d : Nat} {b : Bool} {l : List Bool} {k : Nat} : evG P σ is env lg H u K i d b (some (.bool (l.getD k false))) = ((l.getD k false = b → opX P (look σ (setN d (.bool b) env)) H (Nx P σ is (setN d (.bool b) env) lg H u K) i) ∧ (l.getD k false = !b → evX1 P σ is (.tup [] :: setN d (.bool !b) env) (([], []) :: lg) H K)) := rfl
theorem c_and {P : Program} {σ : Sg} {H : Hp} {Q : QA} {a b : C} {x y : Bool} : evC P a b σ H Q (some (.bool ((x && y)))) = (((x && y) = true → evX P a σ H Q) ∧ ((x && y) = false → evX P b σ H Q)) := rfl
theorem g_and {P : Program} {σ : Sg} {H : Hp} {env : List V} {lg : Lg} {K : List V → Hp → Prop} {is : List RI} {i : Ins} {u : List Nat} {d : Nat} {b : Bool} {x y : Bool} : evG P σ is env lg H u K i d b (some (.bool ((x && y)))) = (((x && y) = b → opX P (look σ (setN d (.bool b) env)) H (Nx P σ is (setN d (.bool b) env) lg H u K) i) ∧ ((x && y) = !b → evX1 P σ is (.tup [] :: setN d (.bool !b) env) (([], []) :: lg) H K)) := rfl
theorem c_or {P : Program} {σ : Sg} {H : Hp} {Q : QA} {a b : C} {x y : Bool} : evC P a b σ H Q (some (.bool ((x || y)))) = (((x || y) = true → evX P a σ H Q) ∧ ((x || y) = false → evX P b σ H Q)) := rfl
theorem g_or {P : Program} {σ : Sg} {H : Hp} {env : List V} {lg : Lg} {K : List V → Hp → Prop} {is : List RI} {i : Ins} {u : List Nat} {d : Nat} {b : Bool} {x y : Bool} : evG P σ is env lg H u K i d b (some (.bool ((x || y)))) = (((x || y) = b → opX P (look σ (setN d (.bool b) env)) H (Nx P σ is (setN d (.bool b) env) lg H u K) i) ∧ ((x || y) = !b → evX1 P σ is (.tup [] :: setN d (.bool !b) env) (([], []) :: lg) H K)) := rfl
theorem c_ite {P : Program} {σ : Sg} {H : Hp} {Q : QA} {a b : C} {q : Prop} [Decidable q] {x y : Bool} : evC P a b σ H Q (some (.bool ((if q then x else y)))) = (((if q then x else y) = true → evX P a σ H Q) ∧ ((if q then x else y) = false → evX P b σ H Q)) := rfl
theorem g_ite {P : Program} {σ : Sg} {H : Hp} {env : List V} {lg : Lg} {K : List V → Hp → Prop} {is : List RI} {i : Ins} {u : List Nat} {d : Nat} {b : Bool} {q : Prop} [Decidable q] {x y : Bool} : evG P σ is env lg H u K i d b (some (.bool ((if q then x else y)))) = (((if q then x else y) = b → opX P (look σ (setN d (.bool b) env)) H (Nx P σ is (setN d (.bool b) env) lg H u K) i) ∧ ((if q then x else y) = !b → evX1 P σ is (.tup [] :: setN d (.bool !b) env) (([], []) :: lg) H K)) := rfl

theorem nlt0 {i : Nat} : ((i : Int) < 0) = False := by simp

/-- Rows of values. -/
def mv {α : Type} (f : α → V) (l : List α) : List V := l.map f
section
variable {α : Type} {f : α → V} {l : List α}
theorem mv_len : (mv f l).length = l.length := by simp [mv]
theorem mv_nil : mv f [] = [] := rfl
theorem mv_cons {a : α} : mv f (a :: l) = f a :: mv f l := rfl
theorem mv_get {i : Nat} (h : i < l.length) : (mv f l)[i]? = some (f l[i]) := by simp [mv, h]
theorem mv_none {i : Nat} (h : l.length ≤ i) : (mv f l)[i]? = none := by simp [mv, h]
theorem mv_set {i : Nat} {a : α} : (mv f l).set i (f a) = mv f (l.set i a) := by simp [mv, List.map_set]
theorem mv_app {m : List α} : mv f l ++ mv f m = mv f (l ++ m) := by simp [mv]
theorem mv_app1 {a : α} : mv f l ++ [f a] = mv f (l ++ [a]) := by simp [mv]
theorem mv_take {n : Nat} : (mv f l).take n = mv f (l.take n) := by simp [mv]
theorem mv_drop {n : Nat} : (mv f l).drop n = mv f (l.drop n) := by simp [mv]
theorem mv_rep {n : Nat} {a : α} : List.replicate n (f a) = mv f (List.replicate n a) := by simp [mv]
theorem mv_closed (h : ∀ a, (f a).closed = true) : closedL (mv f l) = true := by
  rw [closedL_iff]; intro v hv
  simp only [mv, List.mem_map] at hv
  obtain ⟨a, _, rfl⟩ := hv; exact h a
theorem mv_lo (h : ∀ a, lo (f a) = f a) : loL (mv f l) = mv f l := by
  induction l with
  | nil => rfl
  | cons a l ih => simp only [mv_cons, loL, h, ih]
theorem mv_mem {v : V} (h : v ∈ mv f l) : ∃ a, a ∈ l ∧ f a = v := by simpa [mv] using h
end

section
variable {P : Program} {f : Nat} {vs : List V} {r : V}
/-- What a contract tells of arguments of any room holds of all. -/
theorem PCall.lo_args (h : PCall P f (loL vs) r) : PCall P f vs r :=
  ⟨h.1, fun m g w xs hs hx => h.2 m g w xs hs (loL_RC _ _ hx).1⟩
theorem PCall.lo_res {v : V} (h : PCall P f vs v) (e : lo v = r) : PCall P f vs r :=
  ⟨h.1, fun m g w xs hs hx => (h.2 m g w xs hs hx).mono fun e' w' ⟨x, F', h1, h2, h3⟩ => ⟨x, F', h1, e ▸ (lo_R _ _ h2).1, h3⟩⟩
theorem PCall.of_eq {us : List V} (h : PCall P f us r) (e : us = loL vs) : PCall P f vs r := (e ▸ h : PCall P f (loL vs) r).lo_args
variable {H : Hp} {fp : List Nat} {ds : List (Nat × Option Ob)} {k : Nat}
theorem ACall.lo_args (h : ACall P f (loL vs) H fp r ds k) : ACall P f vs H fp r ds k :=
  ⟨h.1, h.2.1, fun m g w xs h1 h2 hs hx => h.2.2 m g w xs h1 h2 hs (loL_RC _ _ hx).1⟩
theorem ACall.of_eq {us : List V} (h : ACall P f us H fp r ds k) (e : us = loL vs) : ACall P f vs H fp r ds k := (e ▸ h : ACall P f (loL vs) H fp r ds k).lo_args
theorem ACall.first {sz : Nat} {l : List V} (h1 : l = [] → ACall P f (.fsl .nil sz [] :: vs) H fp r ds k) (h2 : ACall P f (.fsl .nn sz l :: vs) H fp r ds k) : ACall P f (.fsl .loose sz l :: vs) H fp r ds k := by
  refine ⟨h2.1, h2.2.1, fun m g w xs ha hb hs hx => ?_⟩
  simp only [RC] at hx
  obtain ⟨y, ys, e1, e2, e3⟩ := hx
  rcases nil_or e2 with ⟨k, rfl⟩ | k
  · exact (h1 rfl).2.2 m g w xs ha hb hs (by simp only [RC]; exact ⟨y, ys, e1, k, e3⟩)
  · exact h2.2.2 m g w xs ha hb hs (by simp only [RC]; exact ⟨y, ys, e1, k, e3⟩)
theorem ACall.any_st {sz : Nat} {l : List V} {st : St} (h : ACall P f (.fsl .loose sz l :: vs) H fp r ds k) : ACall P f (.fsl st sz l :: vs) H fp r ds k := by
  refine ⟨h.1, h.2.1, fun m g w xs ha hb hs hx => ?_⟩
  simp only [RC] at hx
  obtain ⟨y, ys, e1, e2, e3⟩ := hx
  exact h.2.2 m g w xs ha hb hs (by simp only [RC]; exact ⟨y, ys, e1, (loose1_R e2).1, e3⟩)
/-- A contract without a footprint serves where one with a footprint is asked. -/
theorem CallA.of {K : KI} (h : ACall P f vs H fp r ds k) (hk : K r fp ds k) : CallA P f vs H K := ⟨_, _, _, _, h, hk⟩
theorem PCall.any_st1 {sz : Nat} {l : List V} {st : St} (h : PCall P f (.fsl .loose sz l :: vs) r) : PCall P f (.fsl st sz l :: vs) r := by
  refine ⟨h.1, fun m g w xs hs hx => ?_⟩
  simp only [RC] at hx
  obtain ⟨y, ys, e1, e2, e3⟩ := hx
  exact h.2 m g w xs hs (by simp only [RC]; exact ⟨y, ys, e1, (loose1_R e2).1, e3⟩)
end

/-- A row: of no elements, in memory or not; or an own block. -/
def Own1 (H : Hp) (sz : Nat) (v : V) (l : List V) : Prop :=
  (∃ st, v = .fsl st sz [] ∧ l = []) ∨ ∃ id, id < H.n ∧ v = .sl id 0 l.length ∧ H.m id = some (.arr sz l)
theorem Own1.frz {H : Hp} {sz : Nat} {v : V} {l : List V} (h : Own1 H sz v l) (hc : closedL l = true) : ∃ fz st, frzV fz H.m v = .fsl st sz l := by
  rcases h with ⟨st, rfl, rfl⟩ | ⟨id, h1, rfl, h2⟩
  · exact ⟨[], st, frz_f rfl⟩
  · exact ⟨[id], .loose, by rw [frz_sl h2 (by simp) (by simp) hc]; simp⟩
theorem Buf.own {H : Hp} {sz : Nat} {v : V} {l : List V} (h : Buf H sz v l) : Own1 H sz v l := by
  rcases h with ⟨st, _, h1, h2⟩ | h
  · exact .inl ⟨st, h1, h2⟩
  · exact .inr h

/-- What slices.Clone answers. -/
def CloneOK (P : Program) (f sz bt : Nat) : Prop :=
  (∀ H, ACall P f [.fsl .nil sz []] H [] (.fsl .loose sz []) [] 0) ∧ (∀ H, ACall P f [.fsl .nn sz []] H [] (.fsl .loose sz []) [] 0) ∧
  ∀ H v l, closedL (v :: l) = true → (l.length + 1) * bt ≤ 140737488355328 → ACall P f [.fsl .nn sz (v :: l)] H [] (.sl H.n 0 (l.length + 1)) [(H.n, some (.arr sz (v :: l)))] 1
theorem CloneOK.call {P : Program} {f sz bt : Nat} (h : CloneOK P f sz bt) {H : Hp} {K : KI} {st : St} {l : List V} (hc : closedL l = true) (hl : l.length * bt ≤ 140737488355328)
    (k : ∀ v ds k, Own1 ⟨H.n + k, appd ds H.m⟩ sz v l → (∀ id, id < H.n → appd ds H.m id = H.m id) → K v [] ds k) : CallA P f [.fsl st sz l] H K := by
  cases l with
  | nil => exact .of (ACall.any_st (.first (fun _ => h.1 H) (h.2.1 H))) (k _ _ _ (.inl ⟨_, rfl, rfl⟩) fun _ _ => rfl)
  | cons v l =>
    refine .of (ACall.any_st (.first (fun e => by cases e) (h.2.2 H v l hc (by simpa using hl)))) (k _ _ _ (.inr ⟨H.n, by simp, by simp, by simp [appd, upd]⟩) fun id hid => ?_)
    have : id ≠ H.n := by omega
    simp [appd, upd, this]

theorem frz_row {fz : List Nat} {m : Hm} {id len sz : Nat} {l : List V} (h : m id = some (.arr sz l)) (hi : id ∈ fz) (hl : len = l.length) (hc : closedL l = true) : frzV fz m (.sl id 0 len) = .fsl .loose sz l := by
  subst hl; rw [frz_sl h hi (by simp) hc]; simp
theorem frz_p {fz : List Nat} {m : Hm} {a b c : Nat} : frzV fz m (.ptr a b c) = .ptr a b c := by simp [frzV, snap, V.closed]
theorem wo_0 {m : Hm} : without [] m = m := by funext i; simp [without]
theorem wo_1 {m : Hm} {a i : Nat} (h : i ≠ a) : without [a] m i = m i := by simp [without, h]
theorem wo_2 {m : Hm} {a b i : Nat} (h : i ≠ a) (h' : i ≠ b) : without [a, b] m i = m i := by simp [without, h, h']

section
variable {n : Nat} {m : Hm}
theorem snap_cl {v : V} (h : v.closed = true) : snap n m v = some v := by cases n <;> simp [snap, h]
theorem mapO_c {f : V → Option V} {v u : V} {vs us : List V} (h1 : f v = some u) (h2 : mapO f vs = some us) : mapO f (v :: vs) = some (u :: us) := by simp [mapO, h1, h2]
theorem snap_agg {l l' : List V} (h : mapO (snap n m) l = some l') : snap (n + 1) m (.agg l) = some (.agg l') := by
  by_cases hc : closedL l = true
  · rw [mapO_closed hc] at h; simp at h; subst h; exact snap_cl (by simpa [V.closed] using hc)
  · simp [snap, V.closed, hc, h]
theorem snap_tup {l l' : List V} (h : mapO (snap n m) l = some l') : snap (n + 1) m (.tup l) = some (.tup l') := by
  by_cases hc : closedL l = true
  · rw [mapO_closed hc] at h; simp at h; subst h; exact snap_cl (by simpa [V.closed] using hc)
  · simp [snap, V.closed, hc, h]
theorem snap_sl {id sz len : Nat} {l : List V} (h : m id = some (.arr sz l)) (hc : closedL l = true) (hl : len = l.length) : snap (n + 1) m (.sl id 0 len) = some (.fsl .loose sz l) := by
  subst hl
  simp [snap, V.closed, h, mapO_closed hc]
theorem snap_own {H : Hp} {sz : Nat} {v : V} {l : List V} (h : Own1 H sz v l) (hc : closedL l = true) : ∃ st, snap (n + 1) H.m v = some (.fsl st sz l) := by
  rcases h with ⟨st, rfl, rfl⟩ | ⟨id, h1, rfl, h2⟩
  · exact ⟨st, snap_cl rfl⟩
  · exact ⟨.loose, snap_sl h2 hc rfl⟩
end
/-- The end, where what is told names own rows. -/
theorem fin_y {rvs : List RV} {r v : V} {σ : Sg} {H : Hp} {l : List V} (hl : resE σ H.m rvs = some l) (hs : snap 4 H.m (pack l) = some v) (hr : lo v = r) : Fin rvs r .ret σ H :=
  ⟨.inr rfl, l, hl, v, hs, .inr (.inr hr)⟩

theorem fin_x {rvs : List RV} {r : V} {σ : Sg} {H : Hp} {l : List V} (hl : resE σ H.m rvs = some l) (hc : (pack l).closed = true) (hr : lo (pack l) = r) : Fin rvs r .ret σ H := fin_c hl hc (.inr (.inr hr))

end Go.Proofs.Ytickdhdlljhomaa.Ev
