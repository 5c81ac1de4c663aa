/-
  Steps of the world, and what becomes of the abstract heap by them; reading and writing cells.
-/
import Derived.Test.YtickdhdlljhomaaEv3
import Derived.Deep.AppendSrc
import Derived.Deep.Upon
import Derived.Laws.CopyRow
import Derived.Laws.MakeOwn
set_option linter.unusedSimpArgs false
set_option linter.unusedVariables false
namespace Go.Proofs.Ytickdhdlljhomaa.Ev
open Go

/-- A new block, of cells that nobody writes any more. -/
def G.froze (g : G) (b : Nat) (xs : List Value) : G := ⟨g.ι, fun b' => if b' = b then some xs else g.F b'⟩
/-- An object that lies in a block. -/
def G.lay (g : G) (id b sz n : Nat) : G := ⟨fun i => if i = id then some (b, sz, n) else g.ι i, g.F⟩

/-- The streams, and the tape, are as they were. -/
structure Still (w w' : World) : Prop where
  os : w'.os = w.os
  tape : w'.tape = w.tape
  output : w'.output = w.output

theorem RS.new_froze {g : G} {m : Hm} {w w' : World} {cs : Array Value} {e : TypeId} {fr : Nat × Nat} (h : RS g m w) (hs : Still w w') (hh : w'.heap = w.heap.push (.cells cs e fr)) :
    RS (g.froze w.heap.size cs.toList) m w' ∧ Ext g m w (g.froze w.heap.size cs.toList) m w' := by
  have hle : g.le (g.froze w.heap.size cs.toList) := ⟨fun _ _ k => k, fun b xs k => by
    have := h.fro_lt k
    simp only [G.froze]; rw [if_neg (by omega)]; exact k⟩
  have old : ∀ b, b < w.heap.size → w'.heap[b]? = w.heap[b]? := fun b hb => by rw [hh, Array.getElem?_push, if_neg (by omega)]
  refine ⟨⟨?_, ?_, ?_⟩, ⟨by rw [hh]; simp, fun b hb _ => old b hb, hle, fun b k => .inr k, ?_, hs.os, hs.tape, hs.output⟩⟩
  · intro b xs k
    simp only [G.froze] at k
    split at k
    · rename_i hb; subst hb; simp at k; subst k
      exact ⟨e, fr, by rw [hh, Array.getElem?_push, if_pos rfl]⟩
    · obtain ⟨e', fr', k'⟩ := h.fro b xs k
      exact ⟨e', fr', by rw [old b (h.fro_lt k)]; exact k'⟩
  · intro id o k
    refine (h.live id o k).keep hle fun b s n hb => ?_
    have hlt := (h.live id o k).lt hb
    refine ⟨old b hlt, ?_⟩
    simp only [G.froze]; rw [if_neg (by omega)]
    exact (h.live id o k).unF hb
  · exact fun id id' o o' b s n s' n' k k' e e' => h.inj id id' o o' b s n s' n' k k' e e'
  · intro b xs k
    simp only [G.froze] at k
    split at k
    · rename_i hb; exact .inr (.inl (by omega))
    · exact .inl k

theorem FAt.froze (g : G) (b : Nat) (pre xs post : List Value) : FAt (g.froze b (pre ++ xs ++ post)) b pre.length xs :=
  ⟨pre, post, by simp [G.froze], rfl⟩

/-- A new block for a new object. -/
theorem RS.new_live {g : G} {m : Hm} {w w' : World} {cs : Array Value} {e : TypeId} {id sz : Nat} {l : List V} {xs post : List Value} (h : RS g m w) (hs : Still w w')
    (hh : w'.heap = w.heap.push (.cells cs e (0, 0))) (hf : g.ι id = none) (hl : RL g l xs) (hz : ∀ v ∈ l, v.size = sz) (hc : cs.toList = xs ++ post) :
    RS (g.lay id w.heap.size sz cs.size) (upd m id (some (.arr sz l))) w' ∧ Ext g m w (g.lay id w.heap.size sz cs.size) (upd m id (some (.arr sz l))) w' := by
  have hm : m id = none := by
    cases hm : m id with
    | none => rfl
    | some o =>
      have := h.live id o hm
      cases o <;> (simp only [ORep] at this; obtain ⟨_, _, _, this⟩ := this; simp [hf] at this)
  have hle : g.le (g.lay id w.heap.size sz cs.size) := ⟨fun i p k => by
    simp only [G.lay]; split
    · rename_i hi; subst hi; rw [hf] at k; cases k
    · exact k, fun _ _ k => k⟩
  have old : ∀ b, b < w.heap.size → w'.heap[b]? = w.heap[b]? := fun b hb => by rw [hh, Array.getElem?_push, if_neg (by omega)]
  have isnew : ∀ i p, (g.lay id w.heap.size sz cs.size).ι i = some p → i ≠ id → g.ι i = some p := fun i p k hi => by simpa [G.lay, hi] using k
  have self : (g.lay id w.heap.size sz cs.size).ι id = some (w.heap.size, sz, cs.size) := by simp [G.lay]
  refine ⟨⟨?_, ?_, ?_⟩, ⟨by rw [hh]; simp, fun b hb _ => old b hb, hle, ?_, fun b xs k => .inl k, hs.os, hs.tape, hs.output⟩⟩
  · intro b xs k
    obtain ⟨e', fr', k'⟩ := h.fro b xs k
    exact ⟨e', fr', by rw [old b (h.fro_lt k)]; exact k'⟩
  · intro i o k
    simp only [upd] at k
    split at k
    · rename_i hi; subst hi; simp at k; subst k
      refine ⟨w.heap.size, cs.size, cs, e, xs, post, self, by rw [hh, Array.getElem?_push, if_pos rfl], rfl, ?_, RL.mono hle _ _ hl, hz, hc⟩
      cases hF : g.F w.heap.size with
      | none => exact hF
      | some q => have := h.fro_lt hF; omega
    · rename_i hi
      refine (h.live i o k).keep hle fun b s n hb => ⟨old b ((h.live i o k).lt hb), (h.live i o k).unF hb⟩
  · intro i i' o o' b s n s' n' k k' e1 e2
    simp only [upd] at k k'
    by_cases hi : i = id <;> by_cases hi' : i' = id
    · rw [hi, hi']
    · subst hi; rw [self] at e1; simp at e1
      rw [if_neg hi'] at k'
      have := (h.live i' o' k').lt (isnew _ _ e2 hi'); omega
    · subst hi'; rw [self] at e2; simp at e2
      rw [if_neg hi] at k
      have := (h.live i o k).lt (isnew _ _ e1 hi); omega
    · rw [if_neg hi] at k; rw [if_neg hi'] at k'
      exact h.inj i i' o o' b s n s' n' k k' (isnew _ _ e1 hi) (isnew _ _ e2 hi')
  · rintro b ⟨i, o, s, n, k, e1⟩
    simp only [upd] at k
    by_cases hi : i = id
    · subst hi; rw [self] at e1; simp at e1; exact .inl (by omega)
    · rw [if_neg hi] at k; exact .inr ⟨i, o, s, n, k, isnew _ _ e1 hi⟩

/-- An object's block is written. -/
theorem RS.put {g : G} {m : Hm} {w w' : World} {id sz sz' b n : Nat} {l0 l : List V} {cs : Array Value} {e : TypeId} {xs post : List Value} (h : RS g m w) (hs : Still w w')
    (hm : m id = some (.arr sz' l0)) (hi : g.ι id = some (b, sz, n)) (hb : w'.heap[b]? = some (.cells cs e (0, 0))) (ho : ∀ k, k ≠ b → w'.heap[k]? = w.heap[k]?) (hsz : w'.heap.size = w.heap.size)
    (hn : cs.size = n) (hl : RL g l xs) (hz : ∀ v ∈ l, v.size = sz) (hc : cs.toList = xs ++ post) :
    RS g (upd m id (some (.arr sz l))) w' ∧ Ext g m w g (upd m id (some (.arr sz l))) w' := by
  have own : Own g m b := ⟨id, _, sz, n, hm, hi⟩
  have hF := (h.live id _ hm).unF hi
  refine ⟨⟨?_, ?_, ?_⟩, ⟨by omega, fun k _ hk => ho k fun e => hk (e ▸ own), .refl g, ?_, fun _ _ k => .inl k, hs.os, hs.tape, hs.output⟩⟩
  · intro k ys hk
    obtain ⟨e', fr', k'⟩ := h.fro k ys hk
    exact ⟨e', fr', by rw [ho k (fun e => by rw [e, hF] at hk; cases hk)]; exact k'⟩
  · intro i o k
    simp only [upd] at k
    split at k
    · rename_i hi'; subst hi'; simp at k; subst k
      exact ⟨b, n, cs, e, xs, post, hi, hb, hn, hF, hl, hz, hc⟩
    · rename_i hi'
      refine (h.live i o k).keep (.refl g) fun b' s' n' hb' => ⟨ho b' fun e => ?_, (h.live i o k).unF hb'⟩
      subst e; exact hi' (h.inj i id o _ _ s' n' sz n k hm hb' hi)
  · intro i i' o o' b' s n s' n' k k' e1 e2
    have up : ∀ i o, upd m id (some (.arr sz l)) i = some o → ∃ o', m i = some o' := fun i o k => by
      simp only [upd] at k; split at k
      · rename_i h; subst h; exact ⟨_, hm⟩
      · exact ⟨o, k⟩
    obtain ⟨o1, k1⟩ := up i o k; obtain ⟨o2, k2⟩ := up i' o' k'
    exact h.inj i i' o1 o2 b' s n s' n' k1 k2 e1 e2
  · rintro b' ⟨i, o, s, n, k, e1⟩
    simp only [upd] at k
    split at k
    · rename_i hi'; subst hi'; exact .inr ⟨i, _, s, n, hm, e1⟩
    · exact .inr ⟨i, o, s, n, k, e1⟩

/-- An object goes. -/
theorem RS.kill {g : G} {m : Hm} {w : World} (h : RS g m w) (id : Nat) : RS g (upd m id none) w ∧ Ext g m w g (upd m id none) w := by
  have up : ∀ i o, upd m id none i = some o → m i = some o := fun i o k => by
    simp only [upd] at k; split at k
    · cases k
    · exact k
  refine ⟨⟨h.fro, fun i o k => h.live i o (up i o k), fun i i' o o' b s n s' n' k k' => h.inj i i' o o' b s n s' n' (up _ _ k) (up _ _ k')⟩,
    ⟨Nat.le_refl _, fun _ _ _ => rfl, .refl g, ?_, fun _ _ k => .inl k, rfl, rfl, rfl⟩⟩
  rintro b ⟨i, o, s, n, k, e⟩; exact .inr ⟨i, o, s, n, up i o k, e⟩

/-- An object gets another name. -/
theorem RS.rename {g : G} {m : Hm} {w : World} {id id' b sz n : Nat} {l : List V} (h : RS g m w) (hm : m id = some (.arr sz l)) (hi : g.ι id = some (b, sz, n)) (hf : g.ι id' = none) :
    RS (g.lay id' b sz n) (upd (upd m id none) id' (some (.arr sz l))) w ∧ Ext g m w (g.lay id' b sz n) (upd (upd m id none) id' (some (.arr sz l))) w := by
  have hne : id ≠ id' := fun e => by rw [e, hf] at hi; cases hi
  have hle : g.le (g.lay id' b sz n) := ⟨fun i p k => by
    simp only [G.lay]; split
    · rename_i hi; subst hi; rw [hf] at k; cases k
    · exact k, fun _ _ k => k⟩
  have isnew : ∀ i p, (g.lay id' b sz n).ι i = some p → i ≠ id' → g.ι i = some p := fun i p k hi => by simpa [G.lay, hi] using k
  have self : (g.lay id' b sz n).ι id' = some (b, sz, n) := by simp [G.lay]
  have up : ∀ i o, upd (upd m id none) id' (some (.arr sz l)) i = some o → i = id' ∧ o = .arr sz l ∨ i ≠ id' ∧ i ≠ id ∧ m i = some o := fun i o k => by
    simp only [upd] at k; split at k
    · rename_i h; simp at k; exact .inl ⟨h, k.symm⟩
    · rename_i h; split at k
      · cases k
      · rename_i h'; exact .inr ⟨h, h', k⟩
  refine ⟨⟨h.fro, ?_, ?_⟩, ⟨Nat.le_refl _, fun _ _ _ => rfl, hle, ?_, fun _ _ k => .inl k, rfl, rfl, rfl⟩⟩
  · intro i o k
    rcases up i o k with ⟨rfl, rfl⟩ | ⟨h1, h2, k⟩
    · obtain ⟨b', n', cs, e, xs, post, q1, q2, q3, q4, q5, q6, q7⟩ := h.live id _ hm
      rw [hi] at q1; simp at q1; obtain ⟨rfl, rfl⟩ := q1
      exact ⟨b, n, cs, e, xs, post, self, q2, q3, q4, RL.mono hle _ _ q5, q6, q7⟩
    · exact (h.live i o k).keep hle fun b' s' n' hb' => ⟨rfl, (h.live i o k).unF hb'⟩
  · intro i i' o o' b' s n s' n' k k' e1 e2
    rcases up i o k with ⟨rfl, rfl⟩ | ⟨h1, h2, q⟩ <;> rcases up i' o' k' with ⟨rfl, rfl⟩ | ⟨h1', h2', q'⟩
    · rfl
    · rw [self] at e1; simp at e1; obtain ⟨rfl, rfl, rfl⟩ := e1
      exact (h2' (h.inj i' id o' _ _ _ _ _ _ q' hm (isnew _ _ e2 h1') hi)).elim
    · rw [self] at e2; simp at e2; obtain ⟨rfl, rfl, rfl⟩ := e2
      exact (h2 (h.inj i id o _ _ _ _ _ _ q hm (isnew _ _ e1 h1) hi)).elim
    · exact h.inj i i' o o' b' s n s' n' q q' (isnew _ _ e1 h1) (isnew _ _ e2 h1')
  · rintro b' ⟨i, o, s, n, k, e⟩
    rcases up i o k with ⟨rfl, rfl⟩ | ⟨h1, h2, k⟩
    · rw [self] at e; simp at e; obtain ⟨rfl, rfl, rfl⟩ := e; exact .inr ⟨id, _, sz, _, hm, hi⟩
    · exact .inr ⟨i, o, s, n, k, isnew _ _ e h1⟩

/-- The world may draw: nothing of it stands in the heap. -/
theorem RS.heap {g : G} {m : Hm} {w w' : World} (h : RS g m w) (hs : Still w w') (hh : w'.heap = w.heap) : RS g m w' ∧ Ext g m w g m w' := by
  refine ⟨⟨fun b cs k => by rw [hh]; exact h.fro b cs k, fun id o k => ?_, h.inj⟩, ⟨by rw [hh]; exact Nat.le_refl _, fun _ _ _ => by rw [hh], .refl g, fun _ k => .inr k, fun _ _ k => .inl k, hs.os, hs.tape, hs.output⟩⟩
  exact (h.live id o k).keep (.refl g) fun b s n hb => ⟨by rw [hh], (h.live id o k).unF hb⟩

/-! ### Cells -/

/-- The cells `xs` stand at a place. -/
def CAt (w : World) (b o : Nat) (xs : List Value) : Prop := ∃ cs e fr pre post, w.heap[b]? = some (.cells cs e fr) ∧ cs.toList = pre ++ xs ++ post ∧ pre.length = o

theorem FAt.cells {g : G} {m : Hm} {w : World} (h : RS g m w) {b o : Nat} {xs : List Value} (k : FAt g b o xs) : CAt w b o xs := by
  obtain ⟨pre, post, e, l⟩ := k
  obtain ⟨t, fr, h1⟩ := h.fro b _ e
  exact ⟨_, t, fr, pre, post, h1, by simp, l⟩

theorem FAt.sub {g : G} {b o : Nat} {as xs bs : List Value} (k : FAt g b o (as ++ xs ++ bs)) : FAt g b (o + as.length) xs := by
  obtain ⟨pre, post, e, l⟩ := k
  exact ⟨pre ++ as, bs ++ post, by simpa using e, by simp [l]⟩

theorem CAt.sub {w : World} {b o : Nat} {as xs bs : List Value} (k : CAt w b o (as ++ xs ++ bs)) : CAt w b (o + as.length) xs := by
  obtain ⟨cs, e, fr, pre, post, h, h1, l⟩ := k
  exact ⟨cs, e, fr, pre ++ as, bs ++ post, h, by simpa using h1, by simp [l]⟩

theorem add_plain (b o n : Nat) : (⟨b, o, none⟩ : Addr).add n = ⟨b, o + n, none⟩ := by unfold Addr.add; split <;> simp_all

theorem CAt.cell {w : World} {b o : Nat} {xs : List Value} (k : CAt w b o xs) {j : Nat} {v : Value} (h : xs[j]? = some v) : w.cell? ⟨b, o + j, none⟩ = some v := by
  obtain ⟨cs, e, fr, pre, post, h1, h2, l⟩ := k
  simp only [World.cell?, h1]
  have : cs[o + j]? = cs.toList[o + j]? := by simp
  simp only [Option.isSome_none, Bool.false_eq_true, if_false]
  rw [this, h2, List.append_assoc, ← l, List.getElem?_append_right (by omega)]
  have hj : j < xs.length := (List.getElem?_eq_some_iff.1 h).1
  rw [show pre.length + j - pre.length = j by omega, List.getElem?_append_left hj]; exact h

theorem CAt.cell' {w : World} {b o : Nat} {xs : List Value} (k : CAt w b o xs) {j : Nat} {v : Value} (h : xs[j]? = some v) : w.cell? ((⟨b, o, none⟩ : Addr).add j) = some v := by
  rw [add_plain]; exact k.cell h

theorem CAt.load {P : Program} {w : World} {b o : Nat} {x : Value} (k : CAt w b o [x]) : (Go.load ⟨b, o, none⟩).run P w = .ok x w := by
  have := k.cell (j := 0) rfl
  simp only [Nat.add_zero] at this
  simp [this]

theorem CAt.loads {P : Program} {w : World} {b o : Nat} {xs : List Value} (k : CAt w b o xs) : (loadCells ⟨b, o, none⟩ xs.length).run P w = .ok xs.toArray w :=
  run_loadCells_list w _ xs fun _ _ h => k.cell' h

/-- Of how many cells a type's value is, if it is a struct or an array. -/
def aggK (P : Program) (t : TypeId) : Option (Option Nat) :=
  match P.underlying t with
  | some (.struct _) | some (.array _ _) => (P.info? t).map fun i => some i.size
  | some _ => if (P.info? t).map (·.size) = some 1 then some none else none
  | none => none

theorem aggK_some {P : Program} {t : TypeId} {n : Nat} (h : aggK P t = some (some n)) :
    ∃ i d, P.info? t = some i ∧ i.size = n ∧ P.underlying t = some d ∧ ((∃ fs, d = .struct fs) ∨ ∃ k e, d = .array k e) := by
  unfold aggK at h
  split at h
  · rename_i fs hu
    cases hi : P.info? t with
    | none => simp [hi] at h
    | some i => simp [hi] at h; exact ⟨i, _, rfl, h, hu, .inl ⟨_, rfl⟩⟩
  · rename_i k e hu
    cases hi : P.info? t with
    | none => simp [hi] at h
    | some i => simp [hi] at h; exact ⟨i, _, rfl, h, hu, .inr ⟨_, _, rfl⟩⟩
  · split at h <;> simp at h
  · simp at h

theorem aggK_none {P : Program} {t : TypeId} (h : aggK P t = some none) :
    ∃ i d, P.info? t = some i ∧ i.size = 1 ∧ P.underlying t = some d ∧ (∀ fs, d ≠ .struct fs) ∧ ∀ k e, d ≠ .array k e := by
  unfold aggK at h
  split at h
  · simp at h
  · simp at h
  · rename_i d hd1 hd2 hu
    split at h
    · rename_i h1
      cases hi : P.info? t with
      | none => simp [hi] at h1
      | some i => simp [hi] at h1; exact ⟨i, _, rfl, h1, hu, fun fs e => hd1 fs e, fun k e e' => hd2 k e e'⟩
    · simp at h
  · simp at h

theorem run_isAgg_some {P : Program} {t : TypeId} {n : Nat} (h : aggK P t = some (some n)) (w : World) : (isAgg t).run P w = .ok true w ∧ (sizeOf t).run P w = .ok n w := by
  obtain ⟨i, d, h1, h2, h3, h4⟩ := aggK_some h
  constructor
  · rcases h4 with ⟨fs, rfl⟩ | ⟨k, e, rfl⟩ <;> simp [isAgg, run_underlying h3]
  · simp [sizeOf, typeInfo, h1, h2]
theorem run_isAgg_none {P : Program} {t : TypeId} (h : aggK P t = some none) (w : World) : (isAgg t).run P w = .ok false w ∧ (sizeOf t).run P w = .ok 1 w := by
  obtain ⟨i, d, h1, h2, h3, h4, h5⟩ := aggK_none h
  constructor
  · cases d <;> simp_all [isAgg, run_underlying h3]
  · simp [sizeOf, typeInfo, h1, h2]

theorem RC.drop {g : G} : ∀ {l : List V} {xs : List Value} (k : Nat), RC g l xs → RC g (l.drop k) (xs.drop k)
  | l, xs, 0, h => by simpa using h
  | [], _, k + 1, h => by simp only [RC] at h; subst h; simp [RC]
  | v :: vs, _, k + 1, h => by simp only [RC] at h; obtain ⟨y, ys, rfl, _, h2⟩ := h; simpa using RC.drop k h2
theorem RC.take {g : G} : ∀ {l : List V} {xs : List Value} (k : Nat), RC g l xs → RC g (l.take k) (xs.take k)
  | l, xs, 0, h => by simp [RC]
  | [], _, k + 1, h => by simp only [RC] at h; subst h; simp [RC]
  | v :: vs, _, k + 1, h => by
    simp only [RC] at h; obtain ⟨y, ys, rfl, h1, h2⟩ := h
    simp only [List.take_succ_cons, RC]; exact ⟨y, _, rfl, h1, RC.take k h2⟩

theorem list_seg {α : Type} (xs : List α) (off n : Nat) (h : off + n ≤ xs.length) : xs = xs.take off ++ (xs.drop off).take n ++ xs.drop (off + n) := by
  rw [List.append_assoc, ← List.drop_drop, List.take_append_drop, List.take_append_drop]

/-- A part of an element is read. -/
theorem getC_load {P : Program} {g : G} {w : World} {b o off : Nat} {e v : V} {y : Value} {k : Option Nat} {t : TypeId} (hk : aggK P t = some k) (he : R g e y) (hc : CAt w b o y.cells.toList)
    (h : getC k off e = some v) : ∃ x, (loadVar t ⟨b, o + off, none⟩).run P w = .ok x w ∧ R g v x := by
  cases k with
  | none =>
    obtain ⟨h1, h2⟩ := run_isAgg_none hk w
    cases e with
    | agg l =>
      simp only [getC] at h
      simp only [R] at he
      obtain ⟨xs, rfl, e1, e2⟩ := he
      obtain ⟨x, e3, e4⟩ := e1.get h
      refine ⟨x, ?_, e4⟩
      have e5 := hc.cell (j := off) (v := x) (by simpa [Value.cells] using e3)
      simp [loadVar, h1, e5]
    | _ =>
      cases off <;> simp only [getC] at h <;> simp at h
      all_goals
        obtain ⟨_, rfl⟩ := h
        refine ⟨y, ?_, he⟩
        have hs := he.cells_size
        have hy : y.cells.toList = [y] := by
          cases y <;> first | rfl | (simp [R] at he)
        have e5 := hc.cell (j := 0) (v := y) (by rw [hy]; rfl)
        simp only [Nat.add_zero] at e5
        simp [loadVar, h1, e5]
  | some n =>
    obtain ⟨h1, h2⟩ := run_isAgg_some hk w
    cases e with
    | agg l =>
      simp only [getC] at h
      split at h
      · rename_i hn
        simp at h; subst h
        simp only [R] at he
        obtain ⟨xs, rfl, e1, e2⟩ := he
        have hl := e1.length
        have hc' : CAt w b (o + off) ((xs.toList.drop off).take n) := by
          have := hc
          simp only [Value.cells] at this
          rw [list_seg xs.toList off n (by omega)] at this
          have := this.sub
          rwa [List.length_take, Nat.min_eq_left (by omega)] at this
        have hlen : ((xs.toList.drop off).take n).length = n := by rw [List.length_take, List.length_drop]; omega
        have h3 := hc'.loads (P := P)
        rw [hlen] at h3
        refine ⟨.agg ((xs.toList.drop off).take n).toArray, by simp [loadVar, h1, h2, h3], ?_⟩
        simp only [R]
        exact ⟨_, rfl, by simpa using (e1.drop off).take n, fun v hv => e2 v (List.mem_of_mem_drop (List.mem_of_mem_take hv))⟩
      · cases h
    | _ => cases off <;> simp [getC] at h

end Go.Proofs.Ytickdhdlljhomaa.Ev
