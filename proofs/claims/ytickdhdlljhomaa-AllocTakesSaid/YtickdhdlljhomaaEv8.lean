/-
  Literals, make, append, copy, bytes and texts, calls.
-/
import Derived.Test.YtickdhdlljhomaaEv7
set_option linter.unusedSimpArgs false
set_option linter.unusedVariables false
namespace Go.Proofs.Ytickdhdlljhomaa.Ev
open Go

/-- A value's cells written over a row, one by one. -/
theorem fold_set (off : Nat) : ∀ (vs : List Value) (k : Nat) (cells : Array Value), off + k + vs.length ≤ cells.size →
    ((vs.zipIdx k).foldl (fun cs (x : Value × Nat) => cs.setIfInBounds (off + x.2) x.1) cells).toList = cells.toList.take (off + k) ++ vs ++ cells.toList.drop (off + k + vs.length)
  | [], k, cells, _ => by simp
  | v :: vs, k, cells, h => by
    simp only [List.length_cons] at h
    have ih := fold_set off vs (k + 1) (cells.setIfInBounds (off + k) v) (by simp; omega)
    simp only [List.zipIdx_cons, List.foldl_cons]
    rw [ih]
    have := list_seg_step cells.toList (off + k) v vs (by simp; omega)
    simpa [Nat.add_assoc] using this

theorem fold_set_array (off : Nat) (vs cells : Array Value) (h : off + vs.size ≤ cells.size) :
    (vs.zipIdx.foldl (fun cs (x : Value × Nat) => cs.setIfInBounds (off + x.2) x.1) cells).toList = cells.toList.take off ++ vs.toList ++ cells.toList.drop (off + vs.size) := by
  have := fold_set off vs.toList 0 cells (by simpa using h)
  rw [← Array.foldl_toList]
  simpa using this

theorem isEl_cells {g : G} {v : V} {x : Value} (h : R g v x) (he : v.isEl = true) : ∀ y ∈ x.cells.toList, y.oneCell' = true := by
  apply okElem_cells h
  cases v <;> first | exact .inl rfl | exact .inr ⟨_, rfl⟩ | cases he

theorem isEl_parts {g : G} {v : V} {x : Value} (h : R g v x) (he : v.isEl = true) : RC g v.parts x.cells.toList ∧ v.parts.length = v.size ∧ ∀ u ∈ v.parts, u.cell = true := by
  cases v with
  | agg l =>
    simp only [R] at h
    obtain ⟨xs, rfl, e1, e2⟩ := h
    exact ⟨e1, rfl, e2⟩
  | tup l => cases he
  | _ =>
    all_goals
      obtain ⟨_, h2⟩ := cell_one h rfl
      refine ⟨?_, rfl, by simp [V.parts, V.cell]⟩
      rw [h2]; simp only [V.parts, RC]; exact ⟨x, [], rfl, h, rfl⟩

/-- The parts of a literal, beside the operands. -/
def chkParts (dl : List (Option Nat)) (places : List (Nat × Nat)) : List (Nat × Operand) → List (Nat × Nat × Src) → Bool
  | [], [] => true
  | (i, x) :: r, (off, sz, s) :: q => (match places[i]? with | some (o, z) => o == off && z == sz | none => false) && cs dl x s && chkParts dl places r q
  | _, _ => false
def chkSeq (dl : List (Option Nat)) : Nat → List (Nat × Operand) → List Src → Bool
  | _, [], [] => true
  | k, (i, x) :: r, s :: q => i == k && cs dl x s && chkSeq dl (k + 1) r q
  | _, _, _ => false

section
variable {P : Program} {dl : List (Option Nat)} {L : Src → Option V} {H : Hp} {K : KI} {dst : Option Tmp} {ty : TypeId} {pos : String} {after : Array Edge} {gu : Option (Nat × Bool)}

theorem build_fill {all : List Operand} {places : List (Nat × Nat)} : ∀ {parts : List (Nat × Operand)} {ps : List (Nat × Nat × Src)} {z : List V} {K : V → Prop}, chkParts dl places parts ps = true → (∀ x ∈ parts.map (·.2), x ∈ all) → evBuild L z ps K → (∀ v ∈ z, v.cell = true) →
    ∃ r, K r ∧ ∀ g a (cells : Array Value), Rel dl L all g a → RC g z cells.toList → ∃ cells', Instr.fill (places.toArray[·]?) cells (parts.map fun p => (p.1, a.eval p.2)) = some cells' ∧ R g r (.agg cells')
  | [], [], z, K, _, _, h, hz => ⟨.agg z, h, fun g a cells _ hc => ⟨cells, rfl, by simp only [R]; exact ⟨cells, rfl, hc, hz⟩⟩⟩
  | (i, x) :: r, (off, sz, s) :: q, z, K, hc, hm, h, hz => by
    simp only [chkParts, Bool.and_eq_true] at hc
    obtain ⟨⟨c1, c2⟩, c3⟩ := hc
    simp only [evBuild] at h
    obtain ⟨v, e1, h1, h2, h3, h4⟩ := wv_some h
    have hpl : places[i]? = some (off, sz) := by
      split at c1
      · rename_i o z' heq
        simp at c1; rw [heq, c1.1, c1.2]
      · cases c1
    have hcell : ∀ u ∈ v.parts, u.cell = true := by simpa using h2
    have h2 : v.isEl = true := by cases v <;> first | rfl | (simp [V.parts, V.cell] at h2)
    have hlen : v.parts.length = sz := by
      rw [← h1]; cases v <;> first | rfl | cases h2
    obtain ⟨w, k1, k2⟩ := build_fill c3 (fun y hy => hm y (by simp at hy ⊢; exact .inr hy)) h4 (by
      intro u hu
      simp only [splice] at hu
      rcases List.mem_append.1 hu with hu | hu
      · rcases List.mem_append.1 hu with hu | hu
        · exact hz u (List.mem_of_mem_take hu)
        · exact hcell u hu
      · exact hz u (List.mem_of_mem_drop hu))
    refine ⟨w, k1, fun g a cells hr hc => ?_⟩
    have q1 := hr x (hm x (by simp)) _ _ c2 e1
    obtain ⟨p1, p2, p3⟩ := isEl_parts q1 h2
    have hsz : (a.eval x).cells.size = sz := by rw [q1.cells_size, h1]
    have hcl := hc.length
    have hfit : off + (a.eval x).cells.size ≤ cells.size := by
      have : cells.size = z.length := by simpa using hcl
      omega
    have hfold := fold_set_array off (a.eval x).cells cells hfit
    obtain ⟨cells', f1, f2⟩ := k2 g a ((a.eval x).cells.zipIdx.foldl (fun cs (x : Value × Nat) => cs.setIfInBounds (off + x.2) x.1) cells) hr (by
      rw [hfold, splice, hlen, hsz]
      exact ((hc.take off).append p1).append (hc.drop (off + sz)))
    refine ⟨cells', ?_, f2⟩
    simp only [List.map_cons, Instr.fill]
    rw [show places.toArray[i]? = some (off, sz) by simpa using hpl]
    simp only [hsz, ne_eq, not_true_eq_false, decide_false, Bool.false_or]
    rw [if_neg (by simp; omega)]
    exact f1
  | [], _ :: _, _, _, h, _, _, _ => by simp [chkParts] at h
  | _ :: _, [], _, _, h, _, _, _ => by simp [chkParts] at h


/-- Where the parts of a struct's or an array's literal lie. -/
def placesOf (P : Program) (t : TypeId) (n : Nat) : Option (List (Nat × Nat)) :=
  match P.underlying t with
  | some (.struct fields) => fields.toList.mapM (fun f => (P.info? f.type).map fun i => (f.offset, i.size))
  | _ => none

theorem s_build {t : TypeId} {parts : Array (Nat × Operand)} {z : List V} {ps : List (Nat × Nat × Src)} {places : List (Nat × Nat)} {inf : TypeInfo} {zv : Value} (hp : placesOf P t parts.size = some places) (hi : P.info? t = some inf) (hz : inf.zero = some zv)
    (hk : konL z zv.cells.toList = true) (hzc : z.all V.cell = true) (hc : chkParts dl places parts.toList ps = true) (h : evI P L H K (.build z ps)) : OpGood P dl L H ⟨dst, .build t parts, ty, pos, after, gu⟩ (.build z ps) K := by
  simp only [evI] at h
  obtain ⟨r, h1, h2⟩ := build_fill (all := (⟨dst, .build t parts, ty, pos, after, gu⟩ : Oper).op.operands.toList) hc (fun x hx => by simpa [Op.operands] using hx) h (by simpa using hzc)
  refine good_pure h1 fun g a w hr => ?_
  obtain ⟨cells', f1, f2⟩ := h2 g a zv.cells hr (konL_R g _ _ hk)
  refine ⟨.agg cells', ?_, f2⟩
  have hb : P.built t (parts.map fun (i, x) => (i, a.eval x)).toList = some cells' := by
    unfold placesOf at hp
    split at hp
    · rename_i fields hu
      simp only [Program.built, hi, hu, hz, hp]
      simpa [Array.toList_map] using f1
    · cases hp
  simp only [execOp, Sem.run_bind, run_build w t _ cells' hb, Result.andThen_ok, Sem.run_pure]

theorem bsl_fill {all : List Operand} {sz : Nat} : ∀ {parts : List (Nat × Operand)} {ps : List Src} {vs : List V} (k : Nat), chkSeq dl k parts ps = true → (∀ x ∈ parts.map (·.2), x ∈ all) → vs.length = ps.length →
    (∀ (i : Nat) s, ps[i]? = some s → ∃ v, vs[i]? = some v ∧ L s = some v) → (∀ v ∈ vs, v.size = sz ∧ v.isEl = true) → ∀ (g : G) (a : Act) (cells : Array Value), Rel dl L all g a → cells.size = (k + parts.length) * sz →
      ∃ cells' xs, Instr.fill (fun i => some (i * sz, sz)) cells (parts.map fun p => (p.1, a.eval p.2)) = some cells' ∧ RL g vs xs ∧ cells'.toList = cells.toList.take (k * sz) ++ xs
  | [], [], vs, k, _, _, hl, _, _, g, a, cells, _, hs => by
    cases vs <;> simp at hl
    refine ⟨cells, [], rfl, by simp [RL], ?_⟩
    rw [List.take_of_length_le (by simp at hs; simp [hs])]; simp
  | (i, x) :: r, s :: q, vs, k, hc, hm, hl, hv, hz, g, a, cells, hr, hs => by
    simp only [chkSeq, Bool.and_eq_true, beq_iff_eq] at hc
    obtain ⟨⟨rfl, c2⟩, c3⟩ := hc
    cases vs with
    | nil => simp at hl
    | cons v vs =>
      obtain ⟨u, h1, h2⟩ := hv 0 s rfl
      simp at h1; subst h1
      have q1 := hr x (hm x (by simp)) _ _ c2 h2
      obtain ⟨z1, z2⟩ := hz v (by simp)
      have hsz : (a.eval x).cells.size = sz := by rw [q1.cells_size, z1]
      simp only [List.length_cons] at hs
      have hm2 : (i + (r.length + 1)) * sz = i * sz + sz + r.length * sz := by rw [← Nat.add_assoc, Nat.add_right_comm]; simp only [Nat.add_mul, Nat.one_mul]
      have hfit : i * sz + (a.eval x).cells.size ≤ cells.size := by omega
      have hfold := fold_set_array (i * sz) (a.eval x).cells cells hfit
      obtain ⟨cells', xs, f1, f2, f3⟩ := bsl_fill (i + 1) c3 (fun y hy => hm y (by simp at hy ⊢; exact .inr hy)) (by simpa using hl) (fun j s' hj => by simpa using hv (j + 1) s' (by simpa using hj)) (fun w hw => hz w (by simp [hw])) g a
        ((a.eval x).cells.zipIdx.foldl (fun cs (x : Value × Nat) => cs.setIfInBounds (i * sz + x.2) x.1) cells) hr (by
          have := congrArg List.length hfold
          simp only [Array.length_toList, List.length_append, List.length_take, List.length_drop] at this
          rw [this, Nat.add_mul, Nat.add_mul]; omega)
      refine ⟨cells', (a.eval x).cells.toList ++ xs, ?_, ?_, ?_⟩
      · simp only [List.map_cons, Instr.fill]
        simp only [hsz, ne_eq, not_true_eq_false, decide_false, Bool.false_or]
        rw [if_neg (by simp; omega)]
        exact f1
      · simp only [RL]; exact ⟨a.eval x, xs, rfl, ⟨z2, q1⟩, f2⟩
      · rw [f3, hfold, Nat.add_mul, Nat.one_mul]
        rw [List.take_append_of_le_length (by simp only [List.length_append, List.length_take, Array.length_toList]; omega), List.take_of_length_le (by simp only [List.length_append, List.length_take, Array.length_toList]; omega)]
        simp
  | [], _ :: _, _, _, h, _, _, _, _, _, _, _, _, _ => by simp [chkSeq] at h
  | _ :: _, [], _, _, h, _, _, _, _, _, _, _, _, _ => by simp [chkSeq] at h

theorem s_bsl {t el : TypeId} {len sz : Nat} {parts : Array (Nat × Operand)} {ps : List Src} {inf : TypeInfo} {zv : Value} (ht : P.underlying t = some (.slice el)) (hi : P.info? el = some inf) (hsz : inf.size = sz) (hz : inf.zero = some zv)
    (hpos : sz ≠ 0) (hsmall : len * sz ≤ 16777216) (hlen : parts.size = len) (hc : chkSeq dl 0 parts.toList ps = true) (h : evI P L H K (.bsl sz ps)) : OpGood P dl L H ⟨dst, .buildSlice t len parts, ty, pos, after, gu⟩ (.bsl sz ps) K := by
  simp only [evI] at h
  obtain ⟨vs, ⟨hv, hK⟩, hl, hL⟩ := wvs_some h
  refine good_froze hK fun m g a w hs hr => ?_
  by_cases h0 : len = 0
  · subst h0
    have hp : parts = #[] := by simpa using hlen
    subst hp
    have hps : ps = [] := by cases ps <;> simp [chkSeq] at hc; rfl
    subst hps
    cases vs <;> simp at hl
    refine ⟨.slice (some ⟨w.heap.size, 0, none⟩) 0 0, w.alloc (.cells #[] el), #[], el, (0, 0), ?_, Still.alloc _ _, rfl, ?_⟩
    · have e0 : (Array.map (fun _ : Nat => (default : Value)) (Array.range 0)) = #[] := by simp
      simp [execOp, Instr.buildSlice, run_underlying ht, sizeOf, typeInfo, hi, Instr.fill, newRow]
      exact congrArg (fun c => w.alloc (.cells c el)) (by simp)
    · simp only [R, RL]
      exact ⟨_, 0, [], rfl, rfl, by simp, by simp, by simp, by simp, by simp, by simp⟩
  · have hsp : ¬ len * inf.size > 2 ^ 24 := by rw [hsz]; omega
    have hne : ¬ len * inf.size = 0 := by rw [hsz]; exact fun e => (Nat.mul_eq_zero.1 e).elim h0 hpos
    obtain ⟨cells', xs, f1, f2, f3⟩ := bsl_fill (all := (⟨dst, .buildSlice t len parts, ty, pos, after, gu⟩ : Oper).op.operands.toList) 0 hc (fun x hx => by simpa [Op.operands] using hx) hl hL hv g a ((Array.range (len * inf.size)).map (zv.cells[· % zv.cells.size]!)) hr (by simp [hsz, hlen])
    simp at f3
    have run := run_buildSlice (P := P) w t el len (parts.map fun (i, x) => (i, a.eval x)) cells' inf zv ht hi hz hsp hne (by rw [hsz] at *; simpa [Array.toList_map] using f1)
    have hvl : vs.length = len := by
      have : parts.toList.length = ps.length := by
        clear f1 f2 f3 run h hK hL hv hl
        generalize parts.toList = pl at hc
        have : ∀ (pl : List (Nat × Operand)) (ps : List Src) k, chkSeq dl k pl ps = true → pl.length = ps.length := by
          intro pl; induction pl with
          | nil => intro ps k h; cases ps <;> simp [chkSeq] at h; rfl
          | cons p pl ih => intro ps k h; cases ps <;> simp [chkSeq] at h; simp [ih _ _ h.2]
        exact this _ _ _ hc
      simp at this; omega
    refine ⟨.slice (some ⟨w.heap.size, 0, none⟩) len len, w.alloc (.cells cells' el), cells', el, (0, 0), ?_, Still.alloc _ _, rfl, ?_⟩
    · simp only [execOp, Sem.run_bind, run, Result.andThen_ok, Sem.run_pure]
    · simp only [R]
      have hF := FAt.froze g w.heap.size [] xs []
      simp only [List.nil_append, List.append_nil, List.length_nil] at hF
      refine ⟨some ⟨w.heap.size, 0, none⟩, len, xs, by rw [hvl], ?_, fun v hv' => (hv v hv').1, by omega, by simp, by simp, by simp [hvl], .inr ⟨w.heap.size, 0, rfl, by rw [f3]; exact hF⟩⟩
      have hle : g.le (g.froze w.heap.size cells'.toList) := ⟨fun _ _ k => k, fun b cs k => by
        have := hs.fro_lt k
        simp only [G.froze]; rw [if_neg (by omega)]; exact k⟩
      exact RL.mono hle _ _ f2


/-- What a slice's cells are, to the machine's append and copy. -/
theorem src_of {m : Hm} {g : G} {w : World} {v : V} {x : Value} {sz : Nat} {ys : List V} {tx e' : TypeId} (hs : RS g m w) (hr : R g v x) (hd : rd m v = some (sz, ys)) (hk : P.underlying tx = some (.slice e')) :
    ∃ news, Go.Src P sz tx x ys.length news w ∧ RL g ys news ∧ (∀ v ∈ ys, v.size = sz) ∧ ∀ A n c, x = .slice (some A) n c → ∀ (j : Nat) u, news[j]? = some u → w.cell? (A.add j) = some u := by
  have one : ∀ {l : List V} {xs : List Value}, RL g l xs → ∀ u ∈ xs, u.oneCell' = true := by
    intro l; induction l with
    | nil => intro xs h u hu; simp only [RL] at h; subst h; cases hu
    | cons v l ih =>
      intro xs h u hu
      simp only [RL] at h; obtain ⟨y, ys, rfl, ⟨h0, h1⟩, h2⟩ := h
      rcases List.mem_append.1 hu with hu | hu
      · exact isEl_cells h1 h0 u hu
      · exact ih h2 u hu
  cases v <;> simp only [rd] at hd <;> try (simp at hd; done)
  · rename_i id off len
    split at hd
    · rename_i sz' l hm
      split at hd
      · rename_i hlen
        simp at hd; obtain ⟨rfl, rfl⟩ := hd
        simp only [R] at hr
        obtain ⟨b, sz2, n, a, cap, e1, rfl, e3, e4⟩ := hr
        obtain ⟨b', n', cs, el, xs, post, p1, p2, p3, p4, p5, p6, p7⟩ := live_cells hs hm
        rw [p1] at e1; simp at e1; obtain ⟨rfl, rfl, rfl⟩ := e1
        obtain ⟨as, bs, q1, q2, q3, q4⟩ := RL.split off p5 p6 (by omega)
        obtain ⟨cs', ds, t1, t2, t3, t4⟩ := RL.split len q4 (fun v hv => p6 v (List.mem_of_mem_drop hv)) (by simp; omega)
        have hl : ((l.drop off).take len).length = len := by simp; omega
        have hl2 : ∀ v ∈ (l.drop off).take len, v.size = sz' := fun v hv => p6 v (List.mem_of_mem_drop (List.mem_of_mem_take hv))
        rcases e4 with ⟨rfl, _⟩ | h0
        · have hc : CAt w b' (off * sz') cs' := ⟨cs, el, _, as, ds ++ post, p2, by rw [p7, q1, t1]; simp, q2⟩
          refine ⟨cs', ?_, t3, hl2, fun A n c e j u hu => ?_⟩
          · rw [hl]; exact Go.Src.ofSlice w hk _ _ _ _ t2 (fun j u hu => hc.cell' hu) (one t3)
          · simp at e; obtain ⟨rfl, rfl, rfl⟩ := e; exact hc.cell' hu
        · have : len = 0 := by omega
          subst this
          have : cs' = [] := by simpa using t2
          subst this
          refine ⟨[], ?_, t3, hl2, fun A n c e j u hu => by simp at hu⟩
          rw [hl]; exact Go.Src.ofSlice w hk _ _ _ _ (by simp) (by simp) (by simp)
      · cases hd
    · cases hd
  · rename_i st sz' l
    simp at hd; obtain ⟨rfl, rfl⟩ := hd
    simp only [R] at hr
    obtain ⟨a, cap, xs, rfl, e2, e3, e4, e5, e6, e7, e8⟩ := hr
    have hl := e2.length e3
    rcases e8 with rfl | ⟨b, o, rfl, hF⟩
    · simp only [RL] at e2; subst e2
      refine ⟨[], ?_, by simp [RL], e3, fun A n c e j u hu => by simp at hu⟩
      cases a with
      | none => exact Go.Src.ofNil w hk _
      | some a => exact Go.Src.ofSlice w hk _ _ _ _ (by simp) (by simp) (by simp)
    · have hc := hF.cells hs
      refine ⟨xs, ?_, e2, e3, fun A n c e j u hu => ?_⟩
      · exact Go.Src.ofSlice w hk _ _ _ _ hl (fun j u hu => hc.cell' hu) (one e2)
      · simp at e; obtain ⟨rfl, rfl, rfl⟩ := e; exact hc.cell' hu

end
end Go.Proofs.Ytickdhdlljhomaa.Ev
