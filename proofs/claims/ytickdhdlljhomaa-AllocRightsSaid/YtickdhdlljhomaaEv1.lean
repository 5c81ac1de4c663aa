/-
  The abstract values of the evaluator, and how they stand to the machine's values: definitions and their first laws.
-/
import Derived.Orders
import Derived.Below
import Derived.Laws.Cells
namespace Go.Proofs.Ytickdhdlljhomaa.Ev
open Go

/-- What is known of a slice that is never written any more: nil; of no spare room; of any room. -/
inductive St where
  | nil | full | loose | nn
  deriving DecidableEq

/-- Abstract values. `ptr`, `sl`, `map` name an object of the abstract heap; `fptr`, `fsl` bear what stands in memory that nobody writes any more. -/
inductive V where
  | bool (b : Bool)
  | int (k : IntKind) (n : Int)
  | str (s : List UInt8)
  | nilp
  | ptr (id i off : Nat)
  | fptr (e : V) (off : Nat)
  | sl (id off len : Nat)
  | fsl (st : St) (sz : Nat) (l : List V)
  | fn (f : Nat) (fs cs : List V)
  | nilf
  | ifc (t : Nat) (v : V)
  | nili
  | agg (l : List V)
  | tup (l : List V)
  | map (id : Nat)
  | nilm

def V.size : V → Nat
  | .agg l => l.length
  | _ => 1

def V.cell : V → Bool
  | .agg _ | .tup _ => false
  | _ => true

/-- It may be an element of a row. -/
def V.isEl : V → Bool
  | .tup _ => false
  | _ => true

/-- Where objects lie (block, cells of an element, cells in all), and what blocks hold that nobody writes any more. -/
structure G where
  ι : Nat → Option (Nat × Nat × Nat)
  F : Nat → Option (List Value)

/-- The cells `xs` stand in the block `b` from `o` on, for good. -/
def FAt (g : G) (b o : Nat) (xs : List Value) : Prop := ∃ pre post, g.F b = some (pre ++ xs ++ post) ∧ pre.length = o

mutual
def R (g : G) : V → Value → Prop
  | .bool b, x => x = .bool b
  | .int k n, x => x = .int k n
  | .str s, x => x = .string ⟨s.toArray⟩
  | .nilp, x => x = .pointer none
  | .ptr id i off, x => ∃ b sz n, g.ι id = some (b, sz, n) ∧ x = .pointer (some ⟨b, i * sz + off, none⟩)
  | .fptr e off, x => ∃ b o y, R g e y ∧ FAt g b o y.cells.toList ∧ x = .pointer (some ⟨b, o + off, none⟩)
  | .sl id off len, x => ∃ b sz n a cap, g.ι id = some (b, sz, n) ∧ x = .slice (some a) len cap ∧ len ≤ cap ∧ ((a = ⟨b, off * sz, none⟩ ∧ (off + cap) * sz ≤ n) ∨ cap = 0)
  | .fsl st sz l, x => ∃ a cap xs, x = .slice a l.length cap ∧ RL g l xs ∧ (∀ v ∈ l, v.size = sz) ∧ l.length ≤ cap ∧ (a = none → cap = 0) ∧
      ((st = .nil → a = none) ∧ (st = .nn → a ≠ none)) ∧ (st = .full → cap = l.length) ∧ (l = [] ∨ ∃ b o, a = some ⟨b, o, none⟩ ∧ FAt g b o xs)
  | .fn f fs cs, x => ∃ xs ys, x = .func (.func f) xs ys ∧ RC g fs xs.toList ∧ RC g cs ys.toList
  | .nilf, x => x = .nilFunc
  | .ifc t v, x => ∃ y, x = .iface t y ∧ R g v y
  | .nili, x => x = .nilIface
  | .agg l, x => ∃ xs, x = .agg xs ∧ RC g l xs.toList ∧ ∀ v ∈ l, v.cell = true
  | .tup l, x => ∃ xs, x = .tuple xs ∧ RC g l xs.toList
  | .map id, x => ∃ b, g.ι id = some (b, 0, 0) ∧ x = .map (some b)
  | .nilm, x => x = .map none
/-- One for one. -/
def RC (g : G) : List V → List Value → Prop
  | [], xs => xs = []
  | v :: vs, xs => ∃ y ys, xs = y :: ys ∧ R g v y ∧ RC g vs ys
/-- Elements, one behind the other, as cells. -/
def RL (g : G) : List V → List Value → Prop
  | [], xs => xs = []
  | v :: vs, xs => ∃ y ys, xs = y.cells.toList ++ ys ∧ (v.isEl = true ∧ R g v y) ∧ RL g vs ys
end

structure G.le (g g' : G) : Prop where
  ι : ∀ id p, g.ι id = some p → g'.ι id = some p
  F : ∀ b cs, g.F b = some cs → g'.F b = some cs

theorem G.le.refl (g : G) : g.le g := ⟨fun _ _ h => h, fun _ _ h => h⟩
theorem G.le.trans {a b c : G} (h : a.le b) (k : b.le c) : a.le c := ⟨fun _ _ e => k.ι _ _ (h.ι _ _ e), fun _ _ e => k.F _ _ (h.F _ _ e)⟩
theorem FAt.mono {g g' : G} (h : g.le g') {b o : Nat} {xs : List Value} (k : FAt g b o xs) : FAt g' b o xs :=
  let ⟨pre, post, e, l⟩ := k; ⟨pre, post, h.F _ _ e, l⟩

mutual
theorem R.mono {g g' : G} (h : g.le g') : ∀ (v : V) (x : Value), R g v x → R g' v x
  | .bool _, _, r | .int _ _, _, r | .str _, _, r | .nilp, _, r | .nilf, _, r | .nili, _, r | .nilm, _, r => by simpa only [R] using r
  | .ptr _ _ _, _, r => by simp only [R] at r ⊢; obtain ⟨b, sz, n, e, k⟩ := r; exact ⟨b, sz, n, h.ι _ _ e, k⟩
  | .fptr e _, _, r => by simp only [R] at r ⊢; obtain ⟨b, o, y, e1, e2, e3⟩ := r; exact ⟨b, o, y, R.mono h e y e1, e2.mono h, e3⟩
  | .sl _ _ _, _, r => by simp only [R] at r ⊢; obtain ⟨b, sz, n, a, cap, e, k⟩ := r; exact ⟨b, sz, n, a, cap, h.ι _ _ e, k⟩
  | .fsl _ _ l, _, r => by
    simp only [R] at r ⊢
    obtain ⟨a, cap, xs, e1, e2, e3, e4, e5, e6, e7, e8⟩ := r
    exact ⟨a, cap, xs, e1, RL.mono h l xs e2, e3, e4, e5, e6, e7, e8.imp id fun ⟨b, o, i, j⟩ => ⟨b, o, i, j.mono h⟩⟩
  | .fn _ fs cs, _, r => by simp only [R] at r ⊢; obtain ⟨xs, ys, e1, e2, e3⟩ := r; exact ⟨xs, ys, e1, RC.mono h fs _ e2, RC.mono h cs _ e3⟩
  | .ifc _ v, _, r => by simp only [R] at r ⊢; obtain ⟨y, e1, e2⟩ := r; exact ⟨y, e1, R.mono h v y e2⟩
  | .agg l, _, r => by simp only [R] at r ⊢; obtain ⟨xs, e1, e2, e3⟩ := r; exact ⟨xs, e1, RC.mono h l _ e2, e3⟩
  | .tup l, _, r => by simp only [R] at r ⊢; obtain ⟨xs, e1, e2⟩ := r; exact ⟨xs, e1, RC.mono h l _ e2⟩
  | .map _, _, r => by simp only [R] at r ⊢; obtain ⟨b, e, k⟩ := r; exact ⟨b, h.ι _ _ e, k⟩
theorem RC.mono {g g' : G} (h : g.le g') : ∀ (l : List V) (xs : List Value), RC g l xs → RC g' l xs
  | [], _, r => by simpa only [RC] using r
  | v :: vs, _, r => by simp only [RC] at r ⊢; obtain ⟨y, ys, e, e1, e2⟩ := r; exact ⟨y, ys, e, R.mono h v y e1, RC.mono h vs ys e2⟩
theorem RL.mono {g g' : G} (h : g.le g') : ∀ (l : List V) (xs : List Value), RL g l xs → RL g' l xs
  | [], _, r => by simpa only [RL] using r
  | v :: vs, _, r => by simp only [RL] at r ⊢; obtain ⟨y, ys, e, ⟨e0, e1⟩, e2⟩ := r; exact ⟨y, ys, e, ⟨e0, R.mono h v y e1⟩, RL.mono h vs ys e2⟩
end

mutual
/-- It names no object of the abstract heap. -/
def V.closed : V → Bool
  | .ptr _ _ _ | .sl _ _ _ | .map _ => false
  | .fptr e _ => e.closed
  | .fsl _ _ l => closedL l
  | .fn _ fs cs => closedL fs && closedL cs
  | .ifc _ v => v.closed
  | .agg l => closedL l
  | .tup l => closedL l
  | _ => true
def closedL : List V → Bool
  | [] => true
  | v :: vs => v.closed && closedL vs
end

theorem closedL_iff : ∀ {l : List V}, closedL l = true ↔ ∀ v ∈ l, v.closed = true
  | [] => by simp [closedL]
  | v :: vs => by simp [closedL, closedL_iff (l := vs)]

mutual
theorem R.closed {g g' : G} (h : ∀ b cs, g.F b = some cs → g'.F b = some cs) : ∀ (v : V) (x : Value), v.closed = true → R g v x → R g' v x
  | .bool _, _, _, r | .int _ _, _, _, r | .str _, _, _, r | .nilp, _, _, r | .nilf, _, _, r | .nili, _, _, r | .nilm, _, _, r => by simpa only [R] using r
  | .fptr e _, _, c, r => by
    simp only [R] at r ⊢; obtain ⟨b, o, y, e1, ⟨pre, post, e2, e2'⟩, e3⟩ := r
    exact ⟨b, o, y, R.closed h e y (by simpa only [V.closed] using c) e1, ⟨pre, post, h _ _ e2, e2'⟩, e3⟩
  | .fsl _ _ l, _, c, r => by
    simp only [R] at r ⊢
    obtain ⟨a, cap, xs, e1, e2, e3, e4, e5, e6, e7, e8⟩ := r
    exact ⟨a, cap, xs, e1, RL.closed h l xs (by simpa only [V.closed] using c) e2, e3, e4, e5, e6, e7, e8.imp id fun ⟨b, o, i, pre, post, j, j'⟩ => ⟨b, o, i, pre, post, h _ _ j, j'⟩⟩
  | .fn _ fs cs, _, c, r => by
    simp only [V.closed, Bool.and_eq_true] at c
    simp only [R] at r ⊢; obtain ⟨xs, ys, e1, e2, e3⟩ := r; exact ⟨xs, ys, e1, RC.closed h fs _ c.1 e2, RC.closed h cs _ c.2 e3⟩
  | .ifc _ v, _, c, r => by simp only [R] at r ⊢; obtain ⟨y, e1, e2⟩ := r; exact ⟨y, e1, R.closed h v y (by simpa only [V.closed] using c) e2⟩
  | .agg l, _, c, r => by simp only [R] at r ⊢; obtain ⟨xs, e1, e2, e3⟩ := r; exact ⟨xs, e1, RC.closed h l _ (by simpa only [V.closed] using c) e2, e3⟩
  | .tup l, _, c, r => by simp only [R] at r ⊢; obtain ⟨xs, e1, e2⟩ := r; exact ⟨xs, e1, RC.closed h l _ (by simpa only [V.closed] using c) e2⟩
theorem RC.closed {g g' : G} (h : ∀ b cs, g.F b = some cs → g'.F b = some cs) : ∀ (l : List V) (xs : List Value), closedL l = true → RC g l xs → RC g' l xs
  | [], _, _, r => by simpa only [RC] using r
  | v :: vs, _, c, r => by
    simp only [closedL, Bool.and_eq_true] at c
    simp only [RC] at r ⊢; obtain ⟨y, ys, e, e1, e2⟩ := r; exact ⟨y, ys, e, R.closed h v y c.1 e1, RC.closed h vs ys c.2 e2⟩
theorem RL.closed {g g' : G} (h : ∀ b cs, g.F b = some cs → g'.F b = some cs) : ∀ (l : List V) (xs : List Value), closedL l = true → RL g l xs → RL g' l xs
  | [], _, _, r => by simpa only [RL] using r
  | v :: vs, _, c, r => by
    simp only [closedL, Bool.and_eq_true] at c
    simp only [RL] at r ⊢; obtain ⟨y, ys, e, ⟨e0, e1⟩, e2⟩ := r; exact ⟨y, ys, e, ⟨e0, R.closed h v y c.1 e1⟩, RL.closed h vs ys c.2 e2⟩
end

/-- A value's cells are as many as its size says. -/
theorem R.cells_size {g : G} : ∀ {v : V} {x : Value}, R g v x → x.cells.size = v.size := by
  intro v x r
  cases v <;> simp only [R] at r
  case agg l =>
    obtain ⟨xs, rfl, e, _⟩ := r
    simp only [Value.cells, V.size]
    have : ∀ (l : List V) (xs : List Value), RC g l xs → xs.length = l.length := by
      intro l; induction l with
      | nil => intro xs h; simp only [RC] at h; simp [h]
      | cons v vs ih => intro xs h; simp only [RC] at h; obtain ⟨y, ys, rfl, _, h2⟩ := h; simp [ih _ h2]
    simpa using this _ _ e
  all_goals first
    | (subst r; rfl)
    | (obtain ⟨_, _, _, _, rfl⟩ := r; rfl)
    | (obtain ⟨_, _, _, _, _, rfl⟩ := r; rfl)
    | (obtain ⟨_, _, _, _, _, _, rfl, _⟩ := r; rfl)
    | (obtain ⟨_, _, _, rfl, _⟩ := r; rfl)
    | (obtain ⟨_, _, rfl, _⟩ := r; rfl)
    | (obtain ⟨_, rfl, _⟩ := r; rfl)
    | (obtain ⟨_, _, rfl⟩ := r; rfl)

theorem RC.length {g : G} : ∀ {l : List V} {xs : List Value}, RC g l xs → xs.length = l.length
  | [], _, h => by simp only [RC] at h; simp [h]
  | v :: vs, _, h => by simp only [RC] at h; obtain ⟨y, ys, rfl, _, h2⟩ := h; simp [RC.length h2]

theorem RC.get {g : G} : ∀ {l : List V} {xs : List Value} {i : Nat} {v : V}, RC g l xs → l[i]? = some v → ∃ x, xs[i]? = some x ∧ R g v x
  | [], _, _, _, _, e => by simp at e
  | v :: vs, _, i, u, h, e => by
    simp only [RC] at h; obtain ⟨y, ys, rfl, h1, h2⟩ := h
    cases i with
    | zero => simp at e; subst e; exact ⟨y, rfl, h1⟩
    | succ i => simp at e; simpa using RC.get h2 e

theorem RC.append {g : G} : ∀ {l l' : List V} {xs ys : List Value}, RC g l xs → RC g l' ys → RC g (l ++ l') (xs ++ ys)
  | [], _, _, _, h, h' => by simp only [RC] at h; subst h; simpa using h'
  | v :: vs, _, _, _, h, h' => by
    simp only [RC] at h; obtain ⟨y, ys, rfl, h1, h2⟩ := h
    simp only [List.cons_append, RC]; exact ⟨y, _, rfl, h1, RC.append h2 h'⟩

theorem RL.append {g : G} : ∀ {l l' : List V} {xs ys : List Value}, RL g l xs → RL g l' ys → RL g (l ++ l') (xs ++ ys)
  | [], _, _, _, h, h' => by simp only [RL] at h; subst h; simpa using h'
  | v :: vs, _, _, _, h, h' => by
    simp only [RL] at h; obtain ⟨y, ys, rfl, h1, h2⟩ := h
    simp only [List.cons_append, RL]; exact ⟨y, _, by simp, h1, RL.append h2 h'⟩

theorem RL.length {g : G} {sz : Nat} : ∀ {l : List V} {xs : List Value}, RL g l xs → (∀ v ∈ l, v.size = sz) → xs.length = l.length * sz
  | [], _, h, _ => by simp only [RL] at h; simp [h]
  | v :: vs, _, h, k => by
    simp only [RL] at h; obtain ⟨y, ys, rfl, h1, h2⟩ := h
    have := RL.length h2 fun u hu => k u (by simp [hu])
    have h3 := h1.2.cells_size
    rw [k v (by simp)] at h3
    simp [this, h3, Nat.add_mul]; omega

/-- Split at an element. -/
theorem RL.split {g : G} {sz : Nat} : ∀ {l : List V} {xs : List Value} (i : Nat), RL g l xs → (∀ v ∈ l, v.size = sz) → i ≤ l.length →
    ∃ as bs, xs = as ++ bs ∧ as.length = i * sz ∧ RL g (l.take i) as ∧ RL g (l.drop i) bs
  | l, xs, 0, h, _, _ => ⟨[], xs, rfl, by simp, by simp [RL], by simpa using h⟩
  | [], _, i + 1, _, _, hi => by simp at hi
  | v :: vs, _, i + 1, h, k, hi => by
    simp only [RL] at h; obtain ⟨y, ys, rfl, h1, h2⟩ := h
    obtain ⟨as, bs, rfl, e, p, q⟩ := RL.split i h2 (fun u hu => k u (by simp [hu])) (by simpa using hi)
    have h3 := h1.2.cells_size
    rw [k v (by simp)] at h3
    refine ⟨y.cells.toList ++ as, bs, by simp, ?_, ?_, by simpa using q⟩
    · simp [e, h3, Nat.add_mul]; omega
    · simp only [List.take_succ_cons, RL]; exact ⟨y, as, rfl, h1, p⟩

theorem RL.get {g : G} {sz : Nat} {l : List V} {xs : List Value} {i : Nat} {v : V} (h : RL g l xs) (k : ∀ v ∈ l, v.size = sz) (e : l[i]? = some v) :
    ∃ as y bs, xs = as ++ y.cells.toList ++ bs ∧ as.length = i * sz ∧ R g v y ∧ RL g (l.take i) as ∧ RL g (l.drop (i + 1)) bs := by
  have hi : i < l.length := (List.getElem?_eq_some_iff.1 e).1
  obtain ⟨as, bs, rfl, e1, p, q⟩ := RL.split i h k (by omega)
  have : l.drop i = v :: l.drop (i + 1) := by
    rw [List.drop_eq_getElem_cons hi]; congr 1; exact (List.getElem?_eq_some_iff.1 e).2
  rw [this] at q
  simp only [RL] at q; obtain ⟨y, ys, rfl, q1, q2⟩ := q
  exact ⟨as, y, ys, by simp, e1, q1.2, p, q2⟩

/-- Objects of the abstract heap. -/
inductive Ob where
  | arr (sz : Nat) (l : List V)
  | mp (l : List (V × V))

/-- How one lies in memory. -/
def ORep (g : G) (w : World) (id : Nat) : Ob → Prop
  | .arr sz l => ∃ b n cs e xs post, g.ι id = some (b, sz, n) ∧ w.heap[b]? = some (.cells cs e (0, 0)) ∧ cs.size = n ∧ g.F b = none ∧
      RL g l xs ∧ (∀ v ∈ l, v.size = sz) ∧ cs.toList = xs ++ post
  | .mp l => ∃ b es clock, g.ι id = some (b, 0, 0) ∧ w.heap[b]? = some (.map es clock) ∧ g.F b = none ∧ RC g (l.map (·.1)) (es.toList.map (·.key)) ∧ RC g (l.map (·.2)) (es.toList.map (·.val)) ∧
      (∀ e ∈ es.toList, e.born < clock) ∧ (es.toList.map (·.born)).Pairwise (· < ·)

abbrev Hm := Nat → Option Ob

/-- The abstract heap stands in the world. -/
structure RS (g : G) (m : Hm) (w : World) : Prop where
  fro : ∀ b cs, g.F b = some cs → ∃ e fr, w.heap[b]? = some (.cells cs.toArray e fr)
  live : ∀ id o, m id = some o → ORep g w id o
  inj : ∀ id id' o o' b s n s' n', m id = some o → m id' = some o' → g.ι id = some (b, s, n) → g.ι id' = some (b, s', n') → id = id'

/-- A block is that of a live object. -/
def Own (g : G) (m : Hm) (b : Nat) : Prop := ∃ id o s n, m id = some o ∧ g.ι id = some (b, s, n)

/-- What a step may turn: blocks of live objects, and new ones. -/
structure Ext (g : G) (m : Hm) (w : World) (g' : G) (m' : Hm) (w' : World) : Prop where
  size : w.heap.size ≤ w'.heap.size
  old : ∀ b, b < w.heap.size → ¬ Own g m b → w'.heap[b]? = w.heap[b]?
  le : g.le g'
  own : ∀ b, Own g' m' b → w.heap.size ≤ b ∨ Own g m b
  froz : ∀ b cs, g'.F b = some cs → g.F b = some cs ∨ w.heap.size ≤ b ∨ Own g m b
  os : w'.os = w.os
  tape : w'.tape = w.tape
  output : w'.output = w.output

theorem Ext.refl (g : G) (m : Hm) (w : World) : Ext g m w g m w :=
  ⟨Nat.le_refl _, fun _ _ _ => rfl, .refl g, fun _ h => .inr h, fun _ _ h => .inl h, rfl, rfl, rfl⟩

theorem Ext.trans {g g' g'' : G} {m m' m'' : Hm} {w w' w'' : World} (h : Ext g m w g' m' w') (k : Ext g' m' w' g'' m'' w'') : Ext g m w g'' m'' w'' where
  size := Nat.le_trans h.size k.size
  old b hb ho := by
    rw [k.old b (Nat.lt_of_lt_of_le hb h.size) fun hh => (h.own b hh).elim (fun e => by omega) ho]; exact h.old b hb ho
  le := h.le.trans k.le
  own b hb := by
    rcases k.own b hb with e | e
    · exact .inl (Nat.le_trans h.size e)
    · exact h.own b e
  froz b cs hb := by
    rcases k.froz b cs hb with e | e | e
    · exact h.froz b cs e
    · exact .inr (.inl (Nat.le_trans h.size e))
    · exact .inr (h.own b e)
  os := k.os.trans h.os
  tape := k.tape.trans h.tape
  output := k.output.trans h.output

theorem ORep.lt {g : G} {w : World} {id b s n : Nat} {o : Ob} (h : ORep g w id o) (e : g.ι id = some (b, s, n)) : b < w.heap.size := by
  cases o with
  | arr sz l =>
    obtain ⟨b', n', cs, e', xs, post, h1, h2, _⟩ := h
    rw [h1] at e; simp at e; obtain ⟨rfl, _, _⟩ := e
    exact (Array.getElem?_eq_some_iff.1 h2).1
  | mp l =>
    obtain ⟨b', es, clock, h1, h2, _⟩ := h
    rw [h1] at e; simp at e; obtain ⟨rfl, _, _⟩ := e
    exact (Array.getElem?_eq_some_iff.1 h2).1

theorem RS.own_lt {g : G} {m : Hm} {w : World} (h : RS g m w) {b : Nat} (k : Own g m b) : b < w.heap.size := by
  obtain ⟨id, o, s, n, h1, h2⟩ := k
  exact (h.live id o h1).lt h2

theorem ORep.unF {g : G} {w : World} {id b s n : Nat} {o : Ob} (h : ORep g w id o) (e : g.ι id = some (b, s, n)) : g.F b = none := by
  cases o with
  | arr sz l =>
    obtain ⟨b', n', cs, e', xs, post, h1, h2, _, h3, _⟩ := h
    rw [h1] at e; simp at e; obtain ⟨rfl, _, _⟩ := e; exact h3
  | mp l =>
    obtain ⟨b', es, clock, h1, h2, h3, _⟩ := h
    rw [h1] at e; simp at e; obtain ⟨rfl, _, _⟩ := e; exact h3

theorem RS.fro_lt {g : G} {m : Hm} {w : World} (h : RS g m w) {b : Nat} {cs : List Value} (k : g.F b = some cs) : b < w.heap.size := by
  obtain ⟨e, fr, h1⟩ := h.fro b cs k
  exact (Array.getElem?_eq_some_iff.1 h1).1

/-- An object whose block stays as it is goes on to stand for what it stood for. -/
theorem ORep.keep {g g' : G} {w w' : World} {id : Nat} {o : Ob} (h : ORep g w id o) (hle : g.le g')
    (hb : ∀ b s n, g.ι id = some (b, s, n) → w'.heap[b]? = w.heap[b]? ∧ g'.F b = none) : ORep g' w' id o := by
  cases o with
  | arr sz l =>
    obtain ⟨b, n, cs, e, xs, post, h1, h2, h3, h4, h6, h7, h8⟩ := h
    obtain ⟨k1, k2⟩ := hb b sz n h1
    exact ⟨b, n, cs, e, xs, post, hle.ι _ _ h1, k1.trans h2, h3, k2, RL.mono hle _ _ h6, h7, h8⟩
  | mp l =>
    obtain ⟨b, es, clock, h1, h2, h3, h4, h5, h6⟩ := h
    obtain ⟨k1, k2⟩ := hb b 0 0 h1
    exact ⟨b, es, clock, hle.ι _ _ h1, k1.trans h2, k2, RC.mono hle _ _ h4, RC.mono hle _ _ h5, h6⟩

/-- A step with a part of the heap is a step with all of it. -/
theorem frame {g g' : G} {m m1 m1' : Hm} {w w' : World} (hs : RS g m w) (hsub : ∀ id o, m1 id = some o → m id = some o)
    (hs1 : RS g' m1' w') (hx : Ext g m1 w g' m1' w') :
    let m' : Hm := fun id => match m1' id with | some o => some o | none => if m1 id = none then m id else none
    (∀ id o, m1' id = some o → (m id = none ∨ m1 id ≠ none)) → RS g' m' w' ∧ Ext g m w g' m' w' := by
  intro m' hnew
  have rest : ∀ id o, m' id = some o → m1' id = some o ∨ (m1' id = none ∧ m1 id = none ∧ m id = some o) := by
    intro id o h
    simp only [m'] at h
    cases h1 : m1' id with
    | some o' => rw [h1] at h; exact .inl h
    | none =>
      rw [h1] at h; simp only at h
      by_cases h2 : m1 id = none
      · rw [if_pos h2] at h; exact .inr ⟨rfl, h2, h⟩
      · rw [if_neg h2] at h; cases h
  have notown : ∀ id o b s n, m id = some o → m1 id = none → g.ι id = some (b, s, n) → ¬ Own g m1 b := by
    rintro id o b s n h1 h2 h3 ⟨id', o', s', n', k1, k2⟩
    have := hs.inj id id' o o' b s n s' n' h1 (hsub _ _ k1) h3 k2
    subst this; rw [h2] at k1; cases k1
  have ownsub : ∀ b, Own g m1 b → Own g m b := fun b ⟨id, o, s, n, h1, h2⟩ => ⟨id, o, s, n, hsub _ _ h1, h2⟩
  refine ⟨⟨hs1.fro, ?_, ?_⟩, ⟨hx.size, fun b hb ho => hx.old b hb fun h => ho (ownsub b h), hx.le, ?_, ?_, hx.os, hx.tape, hx.output⟩⟩
  · intro id o h
    rcases rest id o h with h | ⟨h1, h2, h3⟩
    · exact hs1.live id o h
    · refine (hs.live id o h3).keep hx.le fun b s n e => ⟨hx.old b ((hs.live id o h3).lt e) (notown id o b s n h3 h2 e), ?_⟩
      cases hF : g'.F b with
      | none => rfl
      | some cs =>
        rcases hx.froz b cs hF with k | k | k
        · have := (hs.live id o h3).unF e; rw [this] at k; cases k
        · have := (hs.live id o h3).lt e; omega
        · exact (notown id o b s n h3 h2 e k).elim
  · intro id id' o o' b s n s' n' h h' e e'
    have old : ∀ id o, m id = some o → m1 id = none → ∀ b s n, g'.ι id = some (b, s, n) → g.ι id = some (b, s, n) := by
      intro id o h1 h2 b s n e
      have hr := hs.live id o h1
      cases hι : g.ι id with
      | none => cases o <;> simp only [ORep] at hr <;> (obtain ⟨_, _, _, hr⟩ := hr; simp [hι] at hr)
      | some p => rw [← hx.le.ι _ _ hι, e]
    rcases rest id o h with k | ⟨k1, k2, k3⟩ <;> rcases rest id' o' h' with j | ⟨j1, j2, j3⟩
    · exact hs1.inj id id' o o' b s n s' n' k j e e'
    · have e2 := old id' o' j3 j2 b s' n' e'
      rcases hx.own b ⟨id, o, s, n, k, e⟩ with q | q
      · have := (hs.live id' o' j3).lt e2; omega
      · exact (notown id' o' b s' n' j3 j2 e2 q).elim
    · have e2 := old id o k3 k2 b s n e
      rcases hx.own b ⟨id', o', s', n', j, e'⟩ with q | q
      · have := (hs.live id o k3).lt e2; omega
      · exact (notown id o b s n k3 k2 e2 q).elim
    · exact hs.inj id id' o o' b s n s' n' k3 j3 (old id o k3 k2 b s n e) (old id' o' j3 j2 b s' n' e')
  · rintro b ⟨id, o, s, n, h, e⟩
    rcases rest id o h with k | ⟨k1, k2, k3⟩
    · exact (hx.own b ⟨id, o, s, n, k, e⟩).imp (fun h => h) (ownsub b)
    · refine .inr ⟨id, o, s, n, k3, ?_⟩
      have hr := hs.live id o k3
      cases hι : g.ι id with
      | none => cases o <;> simp only [ORep] at hr <;> (obtain ⟨_, _, _, hr⟩ := hr; simp [hι] at hr)
      | some p => rw [← hx.le.ι _ _ hι, e]
  · intro b cs h
    exact (hx.froz b cs h).imp (fun h => h) (fun h => h.imp (fun h => h) (ownsub b))

end Go.Proofs.Ytickdhdlljhomaa.Ev
