/-
  Arguments of laws, of any plain type (whole numbers, truth values, texts, rows, structures): what a reading of one tells of its value.
-/
import Derived.Test.YtickdhdlljhomaaEv22
import Derived.Deep.Slices
import Derived.Deep.Grids
import Derived.ChangeArms
import Derived.DataElems
import Derived.SizedLaws
import Derived.WideShapes
set_option linter.unusedSimpArgs false
set_option linter.unusedVariables false
namespace Go.Proofs.Ytickdhdlljhomaa.Ev
open Go

/-- Plain types: a row has so many cells and bytes for each element; a structure is a chain of its fields. -/
inductive Ty where
  | b | i (k : IntKind) | s | l (sz bt : Nat) (e : Ty) | st (r : Ty) | nil | cons (a r : Ty)

def Ty.cells : Ty → Nat
  | .b => 1
  | .i _ => 1
  | .s => 1
  | .l _ _ _ => 1
  | .st r => r.cells
  | .nil => 0
  | .cons a r => a.cells + r.cells
def Ty.whole : Ty → Bool
  | .nil | .cons _ _ => false
  | _ => true

mutual
def tyOk (P : Program) : Ty → TypeId → Bool
  | .b, t => match P.underlying t with | some .bool => true | _ => false
  | .i k, t => match P.underlying t with | some (.int k') => decide (k' = k) | _ => false
  | .s, t => match P.underlying t with | some .string => true | _ => false
  | .l sz bt e, t => match P.underlying t with | some (.slice u) => decide (P.cellsOf u = sz) && (decide (P.bytesOf u = bt) && (decide (sz ≠ 0) && (decide (e.cells = sz) && (e.whole && tyOk P e u)))) | _ => false
  | .st r, t => match P.underlying t with | some (.struct fs) => decide (P.cellsOf t = r.cells) && fldOk P r 0 fs.toList | _ => false
  | .nil, _ => false
  | .cons _ _, _ => false
def fldOk (P : Program) : Ty → Nat → List Field → Bool
  | .nil, _, [] => true
  | .cons a r, off, f :: fs => decide (f.offset = off) && (decide (P.cellsOf f.type = a.cells) && (tyOk P a f.type && fldOk P r (off + a.cells) fs))
  | _, _, _ => false
end

def el : Ty → List V → V
  | .st _, us => .agg us
  | _, [v] => v
  | _, _ => .tup []

/-- What cells of a type hold. -/
def TyV : Ty → List V → Prop
  | .b, vs => ∃ x, vs = [.bool x]
  | .i k, vs => ∃ n, vs = [.int k n] ∧ k.min ≤ n ∧ n ≤ k.max
  | .s, vs => ∃ x, vs = [.str x] ∧ x.length ≤ reachBytes
  | .l sz bt e, vs => ∃ l, vs = [.fsl .loose sz l] ∧ l.length * bt ≤ reachBytes ∧ ∀ v ∈ l, ∃ us, v = el e us ∧ TyV e us
  | .st r, vs => TyV r vs
  | .nil, vs => vs = []
  | .cons a r, vs => ∃ us ws, vs = us ++ ws ∧ TyV a us ∧ TyV r ws

theorem TyV.shape : ∀ {T : Ty} {vs : List V}, TyV T vs → vs.length = T.cells ∧ ∀ v ∈ vs, v.cell = true
  | .b, _, h => by obtain ⟨x, rfl⟩ := h; simp [Ty.cells, V.cell]
  | .i _, _, h => by obtain ⟨x, rfl, _⟩ := h; simp [Ty.cells, V.cell]
  | .s, _, h => by obtain ⟨x, rfl, _⟩ := h; simp [Ty.cells, V.cell]
  | .l _ _ _, _, h => by obtain ⟨x, rfl, _⟩ := h; simp [Ty.cells, V.cell]
  | .st r, _, h => by simp only [TyV] at h; simpa [Ty.cells] using TyV.shape (T := r) h
  | .nil, _, h => by simp only [TyV] at h; subst h; simp [Ty.cells]
  | .cons a r, _, h => by
    simp only [TyV] at h
    obtain ⟨us, ws, rfl, h1, h2⟩ := h
    obtain ⟨a1, a2⟩ := TyV.shape h1
    obtain ⟨b1, b2⟩ := TyV.shape h2
    refine ⟨by simp [Ty.cells, a1, b1], fun v hv => ?_⟩
    rcases List.mem_append.1 hv with hv | hv
    · exact a2 v hv
    · exact b2 v hv

theorem el_R {g : G} : ∀ {T : Ty} {vs : List V} {cs : List Value}, T.whole = true → TyV T vs → RC g vs cs → (∃ x, x.cells.toList = cs ∧ R g (el T vs) x) ∧ (el T vs).size = T.cells ∧ (el T vs).isEl = true
  | .b, _, cs, _, h, hr => by
    obtain ⟨x, rfl⟩ := h
    simp only [RC] at hr; obtain ⟨y, ys, rfl, h1, rfl⟩ := hr
    refine ⟨⟨y, ?_, h1⟩, rfl, rfl⟩
    simp only [R] at h1; subst h1; rfl
  | .i _, _, cs, _, h, hr => by
    obtain ⟨x, rfl, _⟩ := h
    simp only [RC] at hr; obtain ⟨y, ys, rfl, h1, rfl⟩ := hr
    refine ⟨⟨y, ?_, h1⟩, rfl, rfl⟩
    simp only [R] at h1; subst h1; rfl
  | .s, _, cs, _, h, hr => by
    obtain ⟨x, rfl, _⟩ := h
    simp only [RC] at hr; obtain ⟨y, ys, rfl, h1, rfl⟩ := hr
    refine ⟨⟨y, ?_, h1⟩, rfl, rfl⟩
    simp only [R] at h1; subst h1; rfl
  | .l _ _ _, _, cs, _, h, hr => by
    obtain ⟨x, rfl, _⟩ := h
    simp only [RC] at hr; obtain ⟨y, ys, rfl, h1, rfl⟩ := hr
    refine ⟨⟨y, ?_, h1⟩, rfl, rfl⟩
    simp only [R] at h1; obtain ⟨_, _, _, rfl, _⟩ := h1; rfl
  | .st r, vs, cs, _, h, hr => by
    obtain ⟨h1, h2⟩ := TyV.shape (T := .st r) h
    refine ⟨⟨.agg cs.toArray, by simp [Value.cells], ?_⟩, by simpa [el, V.size, Ty.cells] using h1, rfl⟩
    simp only [el, R]
    exact ⟨cs.toArray, rfl, by simpa using hr, h2⟩

theorem mem_weightsAll {H : Type} {P : Program} {e : TypeId} : ∀ {ds : List (DataW H)} {d : DataW H} {n : Nat}, d ∈ ds → n ∈ d.weights P e → n ∈ DataW.weightsAll P e ds
  | d' :: ds, d, n, hd, hn => by
    simp only [DataW.weightsAll, List.mem_append]
    rcases List.mem_cons.1 hd with rfl | hd
    · exact .inl hn
    · exact .inr (mem_weightsAll hd hn)

theorem flat_blocks {α : Type} (sz : Nat) (hsz : 0 < sz) (f : Nat → List α) (d : α) : ∀ len : Nat, (∀ i, i < len → (f i).length = sz) →
    (List.range len).flatMap f = (List.range (len * sz)).map fun k => (f (k / sz)).getD (k % sz) d
  | 0, _ => by simp
  | len + 1, h => by
    rw [List.range_succ, List.flatMap_append, flat_blocks sz hsz f d len (fun i hi => h i (by omega)), Nat.succ_mul, List.range_add, List.map_append, List.map_map]
    congr 1
    simp only [List.flatMap_cons, List.flatMap_nil, List.append_nil]
    have hl := h len (by omega)
    refine List.ext_getElem (by simp [hl]) fun j h1 h2 => ?_
    rw [hl] at h1
    have e1 : (len * sz + j) / sz = len := by rw [Nat.mul_comm, Nat.mul_add_div hsz, Nat.div_eq_of_lt h1]; omega
    have e2 : (len * sz + j) % sz = j := by rw [Nat.mul_comm, Nat.mul_add_mod, Nat.mod_eq_of_lt h1]
    simp [Function.comp, e1, e2, List.getD_eq_getElem?_getD, hl, h1]

section
variable {H : Type} {enc : TypeId × Value → H} {P : Program} {w : World}

theorem cells_get {a : Addr} {n : Nat} {cs : List Value} {base : Nat} (h : w.cells? base a n = some cs) : cs.length = n ∧ ∀ j, j < n → w.cell? (a.add j) = some (cs.getD j undef) := by
  unfold World.cells? at h
  split at h
  · have hl : cs.length = n := by simpa using mapM_some_length h
    refine ⟨hl, fun j hj => ?_⟩
    have := mapM_some_get h j j (by simp [hj])
    rw [this]
    simp [List.getD_eq_getElem?_getD, hl, hj]
  · cases h

mutual
theorem open_ty : ∀ (T : Ty) (t : TypeId), tyOk P T t = true → ∀ (fuel : Nat) (cs : List Value) (x : DataW H × List MemPlace), DataW.trod enc P w 0 (fun _ => true) true fuel t cs = some x →
    (∀ n ∈ x.1.weights P t, n ≤ reachBytes) → ∃ vs, RC (gW w) vs cs ∧ TyV T vs
  | .b, t, h, fuel, cs, x, hd, hw => by
    simp only [tyOk] at h; split at h
    · rename_i hu
      obtain ⟨b, rfl, rfl⟩ := DataW.trod_bool hu hd
      exact ⟨[.bool b], by simp [RC, R], b, rfl⟩
    · cases h
  | .i k, t, h, fuel, cs, x, hd, hw => by
    simp only [tyOk] at h; split at h
    · rename_i k' hu
      simp only [decide_eq_true_eq] at h; subst h
      obtain ⟨n, rfl, rfl, hwf⟩ := DataW.trod_int hu hd
      simp only [Lit.wf, Bool.and_eq_true, decide_eq_true_eq] at hwf
      exact ⟨[.int k' n], by simp [RC, R], n, rfl, hwf⟩
    · cases h
  | .s, t, h, fuel, cs, x, hd, hw => by
    simp only [tyOk] at h; split at h
    · rename_i hu
      obtain ⟨b, rfl, rfl, hs⟩ := DataW.trod_string hu hd
      exact ⟨[.str b.data.toList], by simp [RC, R], b.data.toList, rfl, hw _ (by simp [DataW.weights])⟩
    · cases h
  | .l sz bt e, t, h, fuel, cs, x, hd, hw => by
    simp only [tyOk] at h; split at h
    · rename_i u hu
      simp only [Bool.and_eq_true, decide_eq_true_eq] at h
      obtain ⟨h1, h2, h3, h4, h5, h6⟩ := h
      rcases Deep.open_slice hu hd with ⟨rfl, rfl⟩ | ⟨a, len, cap, m, n, D, Pl, rfl, hb, hl, hm, hmm, rfl, hx⟩
      · exact ⟨[.fsl .loose sz []], by simp only [RC, R]; exact ⟨_, _, rfl, ⟨none, 0, [], rfl, by simp [RL], by simp, by simp, by simp, by simp, by simp, by simp⟩, rfl⟩, [], rfl, by simp, by simp⟩
      · simp only [if_true] at hmm; subst hmm
        simp only [DataW.weights, hu] at hw
        have hlen : len * bt ≤ reachBytes := by
          have := hw _ (List.mem_cons_self ..)
          simp only [List.length_map, List.length_range, h2] at this
          exact Nat.le_trans (Nat.mul_le_mul_right _ (by omega)) this
        have each : ∀ i, ∃ y : List V × List Value, i < len → RC (gW w) y.1 y.2 ∧ TyV e y.1 ∧ y.2.length = sz ∧ ∀ j, j < sz → w.cell? (a.add (i * sz + j)) = some (y.2.getD j undef) := by
          intro i
          by_cases hi : i < len
          · obtain ⟨cs', c1, c2⟩ := hx i (by omega)
            rw [h1] at c1
            obtain ⟨l1, l2⟩ := cells_get c1
            obtain ⟨us, k1, k2⟩ := open_ty e u h6 n cs' (D i, Pl i) c2 (fun q hq => hw q (List.mem_cons_of_mem _ (List.mem_append_left _ (mem_weightsAll (d := D i) (by simp; exact ⟨i, hi, rfl⟩) hq))))
            exact ⟨(us, cs'), fun _ => ⟨k1, k2, l1, fun j hj => by rw [← Addr.add_add]; exact l2 j hj⟩⟩
          · exact ⟨([], []), fun h => absurd h hi⟩
        obtain ⟨Y, hY⟩ := Classical.axiomOfChoice each
        refine ⟨[.fsl .loose sz ((List.range len).map fun i => el e (Y i).1)], ?_, _, rfl, by simpa using hlen, ?_⟩
        · simp only [RC, R]
          refine ⟨_, _, rfl, ⟨some a, m, (List.range len).flatMap fun i => (Y i).2, by simp, ?_, ?_, by simpa using hl, by simp, by simp, by simp, ?_⟩, rfl⟩
          · have : ∀ l : List Nat, (∀ i ∈ l, i < len) → RL (gW w) (l.map fun i => el e (Y i).1) (l.flatMap fun i => (Y i).2) := by
              intro l
              induction l with
              | nil => intro _; simp [RL]
              | cons i l ih =>
                intro hl
                obtain ⟨y1, y2, y3, y4⟩ := hY i (hl i (by simp))
                obtain ⟨⟨x, x1, x2⟩, x3, x4⟩ := el_R h5 y2 y1
                simp only [List.map_cons, List.flatMap_cons, RL]
                exact ⟨x, _, by rw [x1], ⟨x4, x2⟩, ih fun j hj => hl j (by simp [hj])⟩
            exact this _ fun i hi => by simpa using hi
          · intro v hv
            simp only [List.mem_map, List.mem_range] at hv
            obtain ⟨i, hi, rfl⟩ := hv
            obtain ⟨y1, y2, y3, y4⟩ := hY i hi
            rw [(el_R h5 y2 y1).2.1, h4]
          · by_cases h0 : len = 0
            · left; subst h0; rfl
            · right
              have hsz : 0 < sz := by omega
              have hc : ∀ k, k < len * sz → w.cell? (a.add k) = some (((Y (k / sz)).2).getD (k % sz) undef) := by
                intro k hk
                have q1 : k / sz < len := (Nat.div_lt_iff_lt_mul hsz).2 hk
                have q2 : k % sz < sz := Nat.mod_lt _ hsz
                have := (hY (k / sz) q1).2.2.2 (k % sz) q2
                rwa [show k / sz * sz + k % sz = k by rw [Nat.mul_comm]; exact Nat.div_add_mod k sz] at this
              obtain ⟨e1, e2⟩ := fat_of_cells (fun k => ((Y (k / sz)).2).getD (k % sz) undef) (Nat.mul_pos (by omega) hsz) hc
              rw [← flat_blocks sz hsz (fun i => (Y i).2) undef len (fun i hi => (hY i hi).2.2.1)] at e2
              exact ⟨a.block, a.off, by rw [← e1], e2⟩
        · intro v hv
          simp only [List.mem_map, List.mem_range] at hv
          obtain ⟨i, hi, rfl⟩ := hv
          exact ⟨_, rfl, (hY i hi).2.1⟩
    · cases h
  | .st r, t, h, fuel, cs, x, hd, hw => by
    simp only [tyOk] at h; split at h
    · rename_i fs hu
      simp only [Bool.and_eq_true, decide_eq_true_eq] at h
      obtain ⟨xs, n, _, rfl, hl, hxl, hx⟩ := DataW.trod_struct hu hd
      simp only [DataW.weights, hu] at hw
      obtain ⟨vs, k1, k2⟩ := open_fld r 0 fs.toList h.2 n cs xs (by simpa using hxl) (fun i f hf => hx i f (by simpa using hf)) hw
      rw [List.drop_zero, List.take_of_length_le (by omega)] at k1
      exact ⟨vs, k1, k2⟩
    · cases h
  | .nil, t, h, _, _, _, _, _ => by simp [tyOk] at h
  | .cons _ _, t, h, _, _, _, _, _ => by simp [tyOk] at h
theorem open_fld : ∀ (T : Ty) (off : Nat) (fs : List Field), fldOk P T off fs = true → ∀ (n : Nat) (cs : List Value) (xs : List (DataW H × List MemPlace)), xs.length = fs.length →
    (∀ (i : Nat) (f : Field), fs[i]? = some f → DataW.trod enc P w 0 (fun _ => true) true n f.type ((cs.drop f.offset).take (P.cellsOf f.type)) = xs[i]?) →
    (∀ q ∈ DataW.weightsEach P (fs.map (·.type)) (xs.map (·.1)), q ≤ reachBytes) → ∃ vs, RC (gW w) vs ((cs.drop off).take T.cells) ∧ TyV T vs
  | .nil, off, [], h, n, cs, xs, hl, hx, hw => ⟨[], by simp [RC, Ty.cells], rfl⟩
  | .cons a r, off, f :: fs, h, n, cs, xs, hl, hx, hw => by
    simp only [fldOk, Bool.and_eq_true, decide_eq_true_eq] at h
    obtain ⟨rfl, h2, h3, h4⟩ := h
    cases xs with
    | nil => simp at hl
    | cons y ys =>
      simp only [List.map_cons, DataW.weightsEach] at hw
      have h0 := hx 0 f rfl
      simp only [List.getElem?_cons_zero, h2] at h0
      obtain ⟨us, k1, k2⟩ := open_ty a f.type h3 n _ y h0 (fun q hq => hw q (List.mem_append_left _ hq))
      obtain ⟨ws, j1, j2⟩ := open_fld r (f.offset + a.cells) fs h4 n cs ys (by simpa using hl) (fun i g hg => by simpa using hx (i + 1) g (by simpa using hg)) (fun q hq => hw q (List.mem_append_right _ hq))
      refine ⟨us ++ ws, ?_, us, ws, rfl, k2, j2⟩
      rw [Ty.cells, List.take_add, List.drop_drop]
      exact RC.append k1 j1
  | .nil, _, _ :: _, h, _, _, _, _, _, _ => by simp [fldOk] at h
  | .cons _ _, _, [], h, _, _, _, _, _, _ => by simp [fldOk] at h
  | .b, _, _, h, _, _, _, _, _, _ => by simp [fldOk] at h
  | .i _, _, _, h, _, _, _, _, _, _ => by simp [fldOk] at h
  | .s, _, _, h, _, _, _, _, _, _ => by simp [fldOk] at h
  | .l _ _ _, _, _, h, _, _, _, _, _, _ => by simp [fldOk] at h
  | .st _, _, _, h, _, _, _, _, _, _ => by simp [fldOk] at h
end

/-- An argument of a law, by its type. -/
theorem open_arg {T : Ty} {t : TypeId} {v : Value} {d : DataW H} {ps : List MemPlace} {r : Reach} {base : Nat} (ht : tyOk P T t = true) (hv : Value.okWide P w r base t v) (h : DataW.Trod enc P w 0 (fun _ => true) true t v d ps)
    (hw : ∀ n ∈ d.weights P t, n ≤ reachBytes) : ∃ vs, R (gW w) (el T vs) v ∧ TyV T vs := by
  obtain ⟨fuel, hf⟩ := h
  obtain ⟨vs, h1, h2⟩ := open_ty T t ht fuel _ _ hf hw
  refine ⟨vs, ?_, h2⟩
  have one : ∀ u, vs = [u] → v.cells = #[v] → R (gW w) u v := fun u e hc => by
    rw [e, hc] at h1
    simp only [RC] at h1
    obtain ⟨y, ys, e1, e2, _⟩ := h1
    simp at e1; rw [e1.1]; exact e2
  have sc : ∀ (hu : ∀ fs, P.underlying t ≠ some (.struct fs)) (hu' : ∀ n e, P.underlying t ≠ some (.array n e)), ∀ cs, v = .agg cs → False := by
    intro hu hu' cs e
    subst e
    unfold Value.okWide at hv
    split at hv
    · rename_i fs hh; exact hu _ hh
    · rename_i n e' hh; exact hu' _ _ hh
    · unfold Cell.okWide at hv
      split at hv <;> first | (rename_i hh; cases hh; done) | skip
      all_goals first | (simp at *; done) | (unfold Cell.ok at hv; split at hv <;> simp_all)
  have sv : (∀ cs, v = .agg cs → False) → v.cells = #[v] := fun h => by cases v <;> first | rfl | exact (h _ rfl).elim
  cases T with
  | b =>
    obtain ⟨x, rfl⟩ := h2
    simp only [tyOk] at ht; split at ht
    · rename_i hu; exact one _ rfl (sv (sc (by simp [hu]) (by simp [hu])))
    · cases ht
  | i k =>
    obtain ⟨x, rfl, _⟩ := h2
    simp only [tyOk] at ht; split at ht
    · rename_i hu; exact one _ rfl (sv (sc (by simp [hu]) (by simp [hu])))
    · cases ht
  | s =>
    obtain ⟨x, rfl, _⟩ := h2
    simp only [tyOk] at ht; split at ht
    · rename_i hu; exact one _ rfl (sv (sc (by simp [hu]) (by simp [hu])))
    · cases ht
  | l sz bt e =>
    obtain ⟨x, rfl, _⟩ := h2
    simp only [tyOk] at ht; split at ht
    · rename_i hu; exact one _ rfl (sv (sc (by simp [hu]) (by simp [hu])))
    · cases ht
  | st r =>
    simp only [tyOk] at ht; split at ht
    · rename_i fs hu
      simp only [Value.okWide, hu] at hv
      obtain ⟨cs, rfl, _⟩ := hv
      simp only [el, R]
      exact ⟨cs, rfl, by simpa [Value.cells] using h1, (TyV.shape (T := .st r) h2).2⟩
    · cases ht
  | nil => simp [tyOk] at ht
  | cons a r => simp [tyOk] at ht

/-- A row of things that are told of one by one. -/
theorem list_of {α : Type} {f : α → V} {q : α → Prop} {sz bt : Nat} {e : Ty} (he : ∀ us, TyV e us → ∃ a, el e us = f a ∧ q a) {vs : List V} (h : TyV (.l sz bt e) vs) : ∃ l : List α, vs = [.fsl .loose sz (mv f l)] ∧ l.length * bt ≤ reachBytes ∧ ∀ a ∈ l, q a := by
  obtain ⟨l, rfl, h1, h2⟩ := h
  have : ∀ l : List V, (∀ v ∈ l, ∃ us, v = el e us ∧ TyV e us) → ∃ m : List α, l = mv f m ∧ ∀ a ∈ m, q a := by
    intro l
    induction l with
    | nil => intro _; exact ⟨[], rfl, by simp⟩
    | cons v l ih =>
      intro h
      obtain ⟨us, rfl, hx⟩ := h v (by simp)
      obtain ⟨a, e1, ha⟩ := he us hx
      obtain ⟨m, rfl, hm⟩ := ih fun u hu => h u (by simp [hu])
      refine ⟨a :: m, by rw [e1]; rfl, fun n hn => ?_⟩
      rcases List.mem_cons.1 hn with rfl | hn
      · exact ha
      · exact hm n hn
  obtain ⟨m, rfl, hm⟩ := this l h2
  exact ⟨m, rfl, by simpa [mv_len] using h1, hm⟩

theorem sized_at {ts : List TypeId} {ds : List (DataW H)} (h : (DataW.weightsEach P ts ds).all (· ≤ reachBytes) = true) {j : Nat} {t : TypeId} {d : DataW H} (ht : ts[j]? = some t) (hd : ds[j]? = some d) : ∀ n ∈ d.weights P t, n ≤ reachBytes := fun n hn => by
  simpa using List.all_eq_true.1 h _ (DataW.weights_mem_each ht hd n hn)
end

end Go.Proofs.Ytickdhdlljhomaa.Ev
