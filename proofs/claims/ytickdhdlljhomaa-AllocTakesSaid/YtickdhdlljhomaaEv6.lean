/-
  The operations that read and write memory, and calls.
-/
import Derived.Test.YtickdhdlljhomaaEv5
set_option linter.unusedSimpArgs false
set_option linter.unusedVariables false
namespace Go.Proofs.Ytickdhdlljhomaa.Ev
open Go

theorem disj_one {ids : List Nat} {p : Nat × Option Ob} {n k : Nat} (h : p.1 ∈ ids ∨ (n ≤ p.1 ∧ p.1 < n + k)) : p.1 ∈ ids ∨ (n ≤ p.1 ∧ p.1 < n + k) := h

section
variable {P : Program} {dl : List (Option Nat)} {L : Src → Option V} {H : Hp} {K : KI} {dst : Option Tmp} {ty : TypeId} {pos : String} {after : Array Edge} {gu : Option (Nat × Bool)}

/-- An operation that reads objects of the heap. -/
theorem good_read {o : Oper} {i : Ins} {v : V} {fp : List Nat} (hk : i.kind ≠ 0) (hK : K v fp [] 0)
    (h : ∀ m g a w, (∀ id ∈ fp, m id = H.m id) → RS g m w → Rel dl L o.op.operands.toList g a → ∃ x, (execOp a.eval o).run P w = .ok (.value x) w ∧ R g v x) : OpGood P dl L H o i K := by
  refine ⟨v, fp, [], 0, hK, by simp, fun e => absurd e hk, fun _ => ⟨rfl, rfl⟩, fun m g w a ha _ hs hr Kc Q hk => ?_⟩
  obtain ⟨x, h1, h2⟩ := h m g a w ha hs hr
  exact wp_of_run h1 (hk g x w hs (fun _ _ => rfl) (Ext.refl _ _ _) h2)

/-- One that makes a block of what nobody writes any more. -/
theorem good_froze {o : Oper} {i : Ins} {v : V} (hK : K v [] [] 0)
    (h : ∀ m g a w, RS g m w → Rel dl L o.op.operands.toList g a → ∃ x w' cs e fr, (execOp a.eval o).run P w = .ok (.value x) w' ∧ Still w w' ∧ w'.heap = w.heap.push (.cells cs e fr) ∧ R (g.froze w.heap.size cs.toList) v x) :
    OpGood P dl L H o i K := by
  refine ⟨v, [], [], 0, hK, by simp, fun _ => ⟨rfl, rfl, rfl⟩, fun _ => ⟨rfl, rfl⟩, fun m g w a _ _ hs hr Kc Q hk => ?_⟩
  obtain ⟨x, w', cs, e, fr, h1, h2, h3, h4⟩ := h m g a w hs hr
  obtain ⟨k1, k2⟩ := hs.new_froze h2 h3
  exact wp_of_run h1 (hk _ x w' k1 (fun _ _ => rfl) k2 h4)

/-- One that makes an object. -/
theorem good_new {o : Oper} {i : Ins} {v : V} {sz : Nat} {l : List V} (hi : i.kind = 2) (hK : K v [] [(H.n, some (.arr sz l))] 1)
    (h : ∀ m g a w, RS g m w → Rel dl L o.op.operands.toList g a → ∃ x w' cs e xs post, (execOp a.eval o).run P w = .ok (.value x) w' ∧ Still w w' ∧ w'.heap = w.heap.push (.cells cs e (0, 0)) ∧
      RL g l xs ∧ (∀ v ∈ l, v.size = sz) ∧ cs.toList = xs ++ post ∧ R (g.lay H.n w.heap.size sz cs.size) v x) :
    OpGood P dl L H o i K := by
  refine ⟨v, [], [(H.n, some (.arr sz l))], 1, hK, by simp, fun e => by omega, fun e => by omega, fun m g w a _ hf hs hr Kc Q hk => ?_⟩
  obtain ⟨x, w', cs, e, xs, post, h1, h2, h3, h4, h5, h6, h7⟩ := h m g a w hs hr
  obtain ⟨k1, k2⟩ := hs.new_live h2 h3 (hf H.n (Nat.le_refl _) (by omega)).1 h4 h5 h6
  refine wp_of_run h1 (hk _ x w' k1 (fun id hid => ?_) k2 h7)
  simp only [G.lay]; rw [if_neg (fun e => hid (by omega))]

theorem live_cells {g : G} {m : Hm} {w : World} (h : RS g m w) {id sz : Nat} {l : List V} (k : m id = some (.arr sz l)) : ∃ b n cs e xs post, g.ι id = some (b, sz, n) ∧ w.heap[b]? = some (.cells cs e (0, 0)) ∧ cs.size = n ∧ g.F b = none ∧
      RL g l xs ∧ (∀ v ∈ l, v.size = sz) ∧ cs.toList = xs ++ post := h.live id _ k

theorem s_load {t : TypeId} {k : Option Nat} {x : Operand} {x' : Src} (ht : aggK P t = some k) (h1 : cs dl x x' = true) (h : evI P L H K (.load k x')) : OpGood P dl L H ⟨dst, .load t x, ty, pos, after, gu⟩ (.load k x') K := by
  simp only [evI] at h; obtain ⟨u, e1, hA⟩ := wv_some h; clear h
  cases u <;> try exact hA.elim
  · rename_i id i off
    cases ho : H.m id with
    | none => simp [ho] at hA
    | some o =>
      cases o with
      | mp l => simp [ho] at hA
      | arr sz l =>
        simp only [ho] at hA
        obtain ⟨e, e2, hB⟩ := wv_some hA
        obtain ⟨v, e3, hC⟩ := wv_some hB
        refine good_read (by simp [Ins.kind]) hC fun m g a w hm hs hr => ?_
        have q := hr x (by simp [Op.operands]) _ _ h1 e1
        simp only [R] at q
        obtain ⟨b, sz', n, q1, q2⟩ := q
        obtain ⟨b', n', cs, el, xs, post, p1, p2, p3, p4, p5, p6, p7⟩ := live_cells hs ((hm id (by simp)).trans ho)
        rw [p1] at q1; simp at q1; obtain ⟨rfl, rfl, rfl⟩ := q1
        obtain ⟨as, y, bs, r1, r2, r3, _⟩ := p5.get p6 e2
        have hc : CAt w b' (i * sz) y.cells.toList := ⟨cs, el, _, as, bs ++ post, p2, by rw [p7, r1]; simp, r2⟩
        obtain ⟨z, z1, z2⟩ := getC_load (P := P) ht r3 hc e3
        exact ⟨z, by simp [execOp, q2, Instr.loadAt, Instr.sureAddr, z1], z2⟩
  · obtain ⟨v, e3, hC⟩ := wv_some hA
    refine good_read (by simp [Ins.kind]) hC fun m g a w hm hs hr => ?_
    have q := hr x (by simp [Op.operands]) _ _ h1 e1
    simp only [R] at q
    obtain ⟨b, o, y, q1, q2, q3⟩ := q
    obtain ⟨z, z1, z2⟩ := getC_load (P := P) ht q1 (q2.cells hs) e3
    exact ⟨z, by simp [execOp, q3, Instr.loadAt, Instr.sureAddr, z1], z2⟩

theorem RC.set {g : G} : ∀ {l : List V} {xs : List Value} (i : Nat) {v : V} {x : Value}, RC g l xs → R g v x → RC g (l.set i v) (xs.set i x)
  | [], _, _, _, _, h, _ => by simp only [RC] at h; subst h; simp [RC]
  | u :: us, _, 0, v, x, h, r => by simp only [RC] at h; obtain ⟨y, ys, rfl, h1, h2⟩ := h; simp only [List.set_cons_zero, RC]; exact ⟨x, ys, rfl, r, h2⟩
  | u :: us, _, i + 1, v, x, h, r => by
    simp only [RC] at h; obtain ⟨y, ys, rfl, h1, h2⟩ := h
    simp only [List.set_cons_succ, RC]; exact ⟨y, _, rfl, h1, RC.set i h2 r⟩

theorem cell_one {g : G} {v : V} {x : Value} (h : R g v x) (hc : v.cell = true) : x.oneCell' = true ∧ x.cells.toList = [x] := by
  cases v <;> simp [V.cell] at hc <;> simp only [R] at h
  all_goals first
    | (subst h; exact ⟨rfl, rfl⟩)
    | (obtain ⟨_, _, _, _, rfl⟩ := h; exact ⟨rfl, rfl⟩)
    | (obtain ⟨_, _, _, _, _, rfl⟩ := h; exact ⟨rfl, rfl⟩)
    | (obtain ⟨_, _, _, _, _, _, rfl, _⟩ := h; exact ⟨rfl, rfl⟩)
    | (obtain ⟨_, _, _, rfl, _⟩ := h; exact ⟨rfl, rfl⟩)
    | (obtain ⟨_, _, rfl, _⟩ := h; exact ⟨rfl, rfl⟩)
    | (obtain ⟨_, rfl, _⟩ := h; exact ⟨rfl, rfl⟩)
    | (obtain ⟨_, _, rfl⟩ := h; exact ⟨rfl, rfl⟩)

theorem RC.cells {g : G} : ∀ {l : List V} {xs : List Value}, RC g l xs → (∀ v ∈ l, v.cell = true) → ∀ x ∈ xs, x.oneCell' = true
  | [], _, h, _, x, hx => by simp only [RC] at h; subst h; cases hx
  | v :: vs, _, h, k, x, hx => by
    simp only [RC] at h; obtain ⟨y, ys, rfl, h1, h2⟩ := h
    cases hx with
    | head => exact (cell_one h1 (k v (by simp))).1
    | tail _ hx => exact RC.cells h2 (fun u hu => k u (by simp [hu])) x hx

/-- A cell, or a row of cells. -/
def V.okElem (v : V) : Prop := v.cell = true ∨ ∃ l, v = .agg l

theorem okElem_cells {g : G} {v : V} {x : Value} (h : R g v x) (hv : v.okElem) : ∀ y ∈ x.cells.toList, y.oneCell' = true := by
  rcases hv with hv | ⟨l, rfl⟩
  · obtain ⟨h1, h2⟩ := cell_one h hv
    rw [h2]; simp [h1]
  · simp only [R] at h
    obtain ⟨xs, rfl, e1, e2⟩ := h
    exact e1.cells e2

/-- A part of an element is written: what of its cells is turned. -/
theorem setC_store {g : G} {off : Nat} {e v e' : V} {y x : Value} {k : Option Nat} (he : R g e y) (hv : R g v x) (h : setC k off e v = some e') :
    ∃ y', R g e' y' ∧ e'.size = e.size ∧ (∀ u ∈ x.cells.toList, u.oneCell' = true) ∧ x.cells.size = k.getD 1 ∧
      ∃ p q r, y.cells.toList = p ++ q ++ r ∧ p.length = off ∧ q.length = k.getD 1 ∧ y'.cells.toList = p ++ x.cells.toList ++ r := by
  cases k with
  | none =>
    cases e with
    | agg l =>
      simp only [setC] at h
      split at h
      · rename_i hc
        simp at h; subst h
        simp only [R] at he
        obtain ⟨xs, rfl, e1, e2⟩ := he
        have hl : xs.size = l.length := by simpa using e1.length
        obtain ⟨c1, c2⟩ := cell_one hv hc.2
        refine ⟨.agg (xs.toList.set off x).toArray, ?_, by simp [V.size], by rw [c2]; simp [c1], by rw [← Array.length_toList, c2]; rfl, xs.toList.take off, (xs.toList.drop off).take 1, xs.toList.drop (off + 1), ?_, ?_, ?_, ?_⟩
        · simp only [R]
          refine ⟨_, rfl, by simpa using e1.set off hv, fun u hu => ?_⟩
          rcases List.mem_or_eq_of_mem_set hu with hu | rfl
          · exact e2 u hu
          · exact hc.2
        · simpa [Value.cells] using list_seg xs.toList off 1 (by simp; omega)
        · simp; omega
        · simp; omega
        · rw [c2]
          show xs.toList.set off x = _
          rw [List.set_eq_take_append_cons_drop, if_pos (by simp; omega)]
          simp
      · cases h
    | _ =>
      cases off <;> simp only [setC] at h <;> simp at h
      all_goals
        obtain ⟨⟨hc, hc'⟩, rfl⟩ := h
        obtain ⟨c1, c2⟩ := cell_one hv hc'
        obtain ⟨d1, d2⟩ := cell_one he hc
        refine ⟨x, hv, ?_, by rw [c2]; simp [c1], by rw [← Array.length_toList, c2]; rfl, [], [y], [], by simpa using d2, rfl, rfl, by simp⟩
        cases v <;> simp [V.cell] at hc' <;> simp [V.size]
  | some n =>
    cases e <;> try (cases off <;> simp [setC] at h; done)
    rename_i l
    cases v <;> try (simp [setC] at h; done)
    rename_i ys
    simp only [setC] at h
    split at h
    · rename_i hc
      simp at h; subst h
      simp only [R] at he hv
      obtain ⟨xs, rfl, e1, e2⟩ := he
      obtain ⟨zs, rfl, d1, d2⟩ := hv
      have hl : xs.size = l.length := by simpa using e1.length
      have hl2 : zs.size = ys.length := by simpa using d1.length
      refine ⟨.agg (xs.toList.take off ++ zs.toList ++ xs.toList.drop (off + n)).toArray, ?_, ?_, d1.cells d2, by simp only [Value.cells, Option.getD_some]; omega, xs.toList.take off, (xs.toList.drop off).take n, xs.toList.drop (off + n), ?_, ?_, ?_, ?_⟩
      · simp only [R]
        refine ⟨_, rfl, by simpa using ((e1.take off).append d1).append (e1.drop (off + n)), fun u hu => ?_⟩
        rcases List.mem_append.1 hu with hu | hu
        · exact e2 u (List.mem_of_mem_take hu)
        · rcases List.mem_append.1 hu with hu | hu
          · exact d2 u hu
          · exact e2 u (List.mem_of_mem_drop hu)
      · simp [V.size]; omega
      · simpa [Value.cells] using list_seg xs.toList off n (by simp; omega)
      · simp; omega
      · simp; omega
      · simp [Value.cells]
    · cases h

theorem setC_isEl {off : Nat} {e v e' : V} {k : Option Nat} (h : setC k off e v = some e') : e'.isEl = true := by
  cases k with
  | none =>
    cases e with
    | agg l => simp only [setC] at h; split at h <;> simp at h; subst h; rfl
    | _ =>
      cases off <;> simp only [setC] at h <;> simp at h
      all_goals (obtain ⟨⟨_, hc⟩, rfl⟩ := h; cases v <;> first | rfl | cases hc)
  | some n =>
    cases e <;> try (cases off <;> simp [setC] at h; done)
    cases v <;> try (simp [setC] at h; done)
    simp only [setC] at h; split at h <;> simp at h; subst h; rfl

theorem RL.set {g : G} {sz : Nat} {l : List V} {as bs : List Value} {i : Nat} {v : V} {y : Value} (he : v.isEl = true) (h1 : RL g (l.take i) as) (h2 : RL g (l.drop (i + 1)) bs) (hv : R g v y) (hi : i < l.length) : RL g (l.set i v) (as ++ y.cells.toList ++ bs) := by
  rw [List.set_eq_take_append_cons_drop, if_pos hi]
  rw [List.append_assoc]
  refine h1.append ?_
  simp only [RL]; exact ⟨y, bs, rfl, ⟨he, hv⟩, h2⟩

theorem Still.row (w : World) (b : Nat) (cs : Array Value) : Still w (w.setRow b cs) := ⟨rfl, rfl, rfl⟩
theorem Still.alloc (w : World) (o : Obj) : Still w (w.alloc o) := ⟨rfl, rfl, rfl⟩
theorem Still.drewAlloc (w : World) (o : Obj) : Still w (w.drew.alloc o) := ⟨rfl, rfl, rfl⟩

theorem run_storeVar {t : TypeId} {k : Option Nat} (ht : aggK P t = some k) {w : World} {b o : Nat} {cs : Array Value} {e : TypeId} {x : Value} (hb : w.heap[b]? = some (.cells cs e (0, 0))) (hx : x.cells.size = k.getD 1) (h1 : ∀ u ∈ x.cells.toList, u.oneCell' = true)
    (hfit : o + x.cells.size ≤ cs.size) : (storeVar t ⟨b, o, none⟩ x).run P w = .ok () (w.setRow b (cs.toList.take o ++ x.cells.toList ++ cs.toList.drop (o + x.cells.size)).toArray) := by
  have hs : (sizeOf t).run P w = .ok (k.getD 1) w := by
    cases k with
    | none => exact (run_isAgg_none ht w).2
    | some n => exact (run_isAgg_some ht w).2
  have hst := run_storeCells_at P b o e x.cells.toList 0 cs w hb (by simpa using hfit) h1
  simp only [Nat.add_zero, Array.length_toList] at hst
  simp [storeVar, hs, hx, hst]

theorem s_store {t : TypeId} {k : Option Nat} {x y : Operand} {x' y' : Src} (ht : aggK P t = some k) (h1 : cs dl x x' = true) (h2 : cs dl y y' = true) (h : evI P L H K (.store k x' y')) :
    OpGood P dl L H ⟨dst, .store t x y, ty, pos, after, gu⟩ (.store k x' y') K := by
  simp only [evI] at h; obtain ⟨u, e1, hA⟩ := wv_some h; clear h; obtain ⟨v, e2, hB⟩ := wv_some hA; clear hA
  cases u <;> try exact hB.elim
  rename_i id i off
  cases ho : H.m id with
  | none => simp [ho] at hB
  | some o =>
    cases o with
    | mp l => simp [ho] at hB
    | arr sz l =>
      simp only [ho] at hB
      obtain ⟨e, e3, hC⟩ := wv_some hB
      obtain ⟨e', e4, hD⟩ := wv_some hC
      refine ⟨_, _, _, _, hD, by simp, by simp [Ins.kind], by simp [Ins.kind], fun m g w a hm hf hs hr Kc Q hk => ?_⟩
      have q := hr x (by simp [Op.operands]) _ _ h1 e1
      have qv := hr y (by simp [Op.operands]) _ _ h2 e2
      simp only [R] at q
      obtain ⟨b, sz', n, q1, q2⟩ := q
      have hmo := (hm id (by simp)).trans ho
      obtain ⟨b', n', cs, el, xs, post, p1, p2, p3, p4, p5, p6, p7⟩ := live_cells hs hmo
      rw [p1] at q1; simp at q1; obtain ⟨rfl, rfl, rfl⟩ := q1
      obtain ⟨as, yv, bs, r1, r2, r3, r4, r5⟩ := p5.get p6 e3
      obtain ⟨y2, s1, s2, s3, s4, p, qq, r, s5, s6, s7, s8⟩ := setC_store r3 qv e4
      have hcs : cs.toList = (as ++ p) ++ qq ++ (r ++ bs ++ post) := by rw [p7, r1, s5]; simp
      have hlen : (as ++ p).length = i * sz + off := by simp [r2, s6]
      have hfit : i * sz + off + (a.eval y).cells.size ≤ cs.size := by
        have := congrArg List.length hcs
        simp only [Array.length_toList, List.length_append] at this
        simp only [List.length_append] at hlen
        rw [s4, ← s7]; omega
      have run := run_storeVar (P := P) ht p2 s4 s3 hfit
      have hcs' : cs.toList.take (i * sz + off) ++ (a.eval y).cells.toList ++ cs.toList.drop (i * sz + off + (a.eval y).cells.size) = (as ++ y2.cells.toList ++ bs) ++ post := by
        rw [hcs, List.append_assoc (as ++ p), List.take_left' hlen, s8, ← List.append_assoc, List.drop_left' (by simp only [List.length_append] at hlen ⊢; rw [s4, ← s7]; omega)]
        simp
      have hi : i < l.length := (List.getElem?_eq_some_iff.1 e3).1
      have hl2 := congrArg List.length hcs'
      have hl3 := congrArg List.length hcs
      generalize cs.toList.take (i * sz + off) ++ (a.eval y).cells.toList ++ cs.toList.drop (i * sz + off + (a.eval y).cells.size) = ws at run hcs' hl2
      obtain ⟨k1, k2⟩ := hs.put (w' := w.setRow b' ws.toArray) (l := l.set i e') (xs := as ++ y2.cells.toList ++ bs) (post := post)
        (Still.row _ _ _) hmo p1 (setRow_heap w b' cs _ el (0, 0) p2) (fun k hk => setRow_other w b' k _ hk) (by simp)
        (by
          have hy2 := congrArg List.length s8
          simp only [List.length_append, Array.length_toList, List.size_toArray] at hl2 hl3 hy2 ⊢
          omega)
        (RL.set (sz := sz) (setC_isEl e4) r4 r5 s1 hi)
        (fun v hv => by
          rcases List.mem_or_eq_of_mem_set hv with hv | rfl
          · exact p6 v hv
          · rw [s2]; exact p6 e (List.mem_of_getElem? e3))
        (by simpa using hcs')
      have hw : (execOp a.eval ⟨dst, .store t x y, ty, pos, after, gu⟩).run P w = .ok .skip (w.setRow b' ws.toArray) := by
        simp only [execOp, q2, Instr.storeAt, Instr.sureAddr, Sem.run_bind, Sem.run_pure, Result.andThen_ok, run]
      unfold Oper.wp; rw [hw]
      exact hk g undef _ k1 (fun _ _ => rfl) k2 (by simp [R, undef, RC])

theorem s_alloc {el : TypeId} {sz : Nat} {z : V} {inf : TypeInfo} {zv : Value} (hi : P.info? el = some inf) (hz : inf.zero = some zv) (hk : kon z zv = true) (h : evI P L H K (.alloc sz z)) :
    OpGood P dl L H ⟨dst, .alloc el, ty, pos, after, gu⟩ (.alloc sz z) K := by
  simp only [evI] at h
  refine good_new rfl h.2.2 fun m g a w hs hr => ⟨.pointer (some ⟨w.heap.size, 0, none⟩), w.alloc (.cells zv.cells el), zv.cells, el, zv.cells.toList, [], ?_, Still.alloc _ _, rfl, ?_, by simpa using h.1, by simp, ?_⟩
  · simp [execOp, Instr.alloc, zeroValue, typeInfo, hi, hz, newVar, newRow]
  · simp only [RL]; exact ⟨zv, [], by simp, ⟨h.2.1, kon_R g z zv hk⟩, rfl⟩
  · simp only [R, G.lay]; exact ⟨w.heap.size, sz, zv.cells.size, by simp, by simp⟩

theorem s_box {el : TypeId} {sz : Nat} {x : Operand} {x' : Src} (h1 : cs dl x x' = true) (h : evI P L H K (.box sz x')) : OpGood P dl L H ⟨dst, .box el x, ty, pos, after, gu⟩ (.box sz x') K := by
  simp only [evI] at h; obtain ⟨u, e1, hA⟩ := wv_some h; clear h
  refine good_new rfl hA.2.2 fun m g a w hs hr => ?_
  have q := hr x (by simp [Op.operands]) _ _ h1 e1
  refine ⟨.pointer (some ⟨w.heap.size, 0, none⟩), w.alloc (.cells (a.eval x).cells el), (a.eval x).cells, el, (a.eval x).cells.toList, [], ?_, Still.alloc _ _, rfl, ?_, by simpa using hA.1, by simp, ?_⟩
  · simp [execOp, Instr.box, newVar, newRow]
  · simp only [RL]; exact ⟨a.eval x, [], by simp, ⟨hA.2.1, q⟩, rfl⟩
  · simp only [R, G.lay]; exact ⟨w.heap.size, sz, (a.eval x).cells.size, by simp, by simp⟩

theorem s_iad {t : TypeId} {el : TypeId} {sz : Nat} {x i : Operand} {x' i' : Src} {inf : TypeInfo} (ht : P.underlying t = some (.slice el)) (hi : P.info? el = some inf) (hsz : inf.size = sz) (h1 : cs dl x x' = true) (h2 : cs dl i i' = true) (h : evI P L H K (.iad sz x' i')) :
    OpGood P dl L H ⟨dst, .indexAddr t x i, ty, pos, after, gu⟩ (.iad sz x' i') K := by
  have run : ∀ (b o len cap : Nat) (k : IntKind) (n : Int) (w : World), 0 ≤ n → n < len → (Instr.indexAt t (.slice (some ⟨b, o, none⟩) len cap) (.int k n)).run P w = .ok (.pointer (some ⟨b, o + n.toNat * sz, none⟩)) w := fun b o len cap k n w h0 hl => by
    simp [Instr.indexAt, asIntOf, run_underlying ht, sizeOf, typeInfo, hi, hsz, h0, hl, add_plain]
  simp only [evI] at h; obtain ⟨u, e1, hA⟩ := wv_some h; clear h; obtain ⟨v, e2, hB⟩ := wv_some hA; clear hA
  cases v <;> try exact hB.elim
  rename_i k n
  cases u <;> try exact hB.elim
  · rename_i id off len
    obtain ⟨h0, hl, hC⟩ := hB
    cases ho : H.m id with
    | none => simp [ho] at hC
    | some o =>
      cases o with
      | mp l => simp [ho] at hC
      | arr sz' l =>
        simp only [ho] at hC
        obtain ⟨rfl, hC⟩ := hC
        refine good_read (by simp [Ins.kind]) hC fun m g a w hm hs hr => ?_
        have q1 := hr x (by simp [Op.operands]) _ _ h1 e1
        have q2 := hr i (by simp [Op.operands]) _ _ h2 e2
        simp only [R] at q1 q2
        obtain ⟨b, sz2, n2, q, cap, e3, e4, e5, e6⟩ := q1
        obtain ⟨b', n', cs, el', xs, post, p1, p2, p3, p4, p5, p6, p7⟩ := live_cells hs ((hm id (by simp)).trans ho)
        rw [p1] at e3; simp at e3; obtain ⟨rfl, rfl, rfl⟩ := e3
        rcases e6 with ⟨rfl, _⟩ | rfl
        · refine ⟨.pointer (some ⟨b', off * sz' + n.toNat * sz', none⟩), ?_, ?_⟩
          · simp only [execOp, e4, q2, Sem.run_bind, run _ _ _ _ _ _ w h0 hl, Result.andThen_ok, Sem.run_pure]
          · simp only [R]; exact ⟨b', sz', n', p1, by rw [Nat.add_mul]; simp⟩
        · omega
  · rename_i st sz' l
    obtain ⟨rfl, h0, e, e3, hC⟩ := hB
    refine good_read (by simp [Ins.kind]) hC fun m g a w hm hs hr => ?_
    have q1 := hr x (by simp [Op.operands]) _ _ h1 e1
    have q2 := hr i (by simp [Op.operands]) _ _ h2 e2
    simp only [R] at q1 q2
    obtain ⟨a', cap, xs, e4, e5, e6, e7, e8, e9, e10, e11⟩ := q1
    have hl : n.toNat < l.length := (List.getElem?_eq_some_iff.1 e3).1
    rcases e11 with rfl | ⟨b, o, rfl, hF⟩
    · simp at hl
    · obtain ⟨as, y, bs, r1, r2, r3, _⟩ := e5.get e6 e3
      refine ⟨.pointer (some ⟨b, o + n.toNat * sz', none⟩), ?_, ?_⟩
      · simp only [execOp, e4, q2, Sem.run_bind, run _ _ _ _ _ _ w h0 (show n < ((l.length : Nat) : Int) by omega), Result.andThen_ok, Sem.run_pure]
      · simp only [R]
        refine ⟨b, o + n.toNat * sz', y, r3, ?_, by simp⟩
        rw [r1] at hF
        have := hF.sub
        rwa [r2] at this

end
end Go.Proofs.Ytickdhdlljhomaa.Ev
