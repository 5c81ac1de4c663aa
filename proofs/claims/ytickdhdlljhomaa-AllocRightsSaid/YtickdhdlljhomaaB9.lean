/-
  Rows of rows: whether one of them is so; how long the longest is.
-/
import Derived.Test.YtickdhdlljhomaaB8
import Derived.Test.YtickdhdlljhomaaBC3
set_option linter.unusedSimpArgs false
set_option maxRecDepth 10000
namespace Go.Proofs.Ytickdhdlljhomaa.Ev
open Go

/-- What a function value answers of each element, whatever else there is. -/
def Ans (g : Nat) (fs cs : List V) (H : Hp) (fp : List Nat) (rows : List V) (q : V → Bool) : Prop :=
  ∀ e ∈ rows, ∀ H' : Hp, H'.n = H.n → (∀ id ∈ fp, H'.m id = H.m id) → ACall Try.prog g (fs ++ [e] ++ cs) H' fp (.bool (q e)) [] 0

def idxV (rows : List V) (q : V → Bool) : Int := match rows.findIdx? q with | some i => i | none => -1

theorem idx52 {st : St} {rows fs cs : List V} {g : Nat} {q : V → Bool} {H : Hp} {fp : List Nat} (hr : closedL rows = true) (hel : ∀ e ∈ rows, getC none 0 e = some e) (hn : rows.length ≤ 1000000) (hl : lowL H.n fs = true) (hl' : lowL H.n cs = true)
    (hfp : ∀ id ∈ fp, id < H.n ∧ ∀ o, H.m id = some o → o.low H.n = true) (hg : Ans g fs cs H fp rows q) : ACall Try.prog 52 [.fsl st 1 rows, .fn g fs cs] H fp (.int .i64 (idxV rows q)) [] 0 := by
  refine ena52 (by simp) (by simp [lowL, V.low, hl, hl', lowL_closed _ hr]) hfp (by simp) ?_
  simp (maxSteps := 1000000) (disch := omega) only [xr, vr, opX, opI, look, nth, setN, find_n, find_c, pkF_t, pkF_f, Nat.reduceBEq, outO, binO, intO, strO, argsE, appd, cpyO, slcO, slsO, bndO, lo1, mnxO, bldO, bldV, andO_s, consL_s, consO_s, splice, rd, fpS, lk, isNil, AEx.exit.injEq, V.bool.injEq, List.map_nil, List.map_cons, List.nil_append, List.cons_append, List.append_nil, List.getElem?_cons_zero, List.getElem?_cons_succ, List.set_cons_zero, List.set_cons_succ, List.length_map, List.length_nil, List.length_cons, Nat.reduceEqDiff, Nat.reduceAdd, Nat.add_zero, Nat.zero_add, Int.reduceEq, Int.reduceLT, Int.reduceLE, Int.toNat_natCast, Int.natCast_nonneg, Int.reduceToNat, if_true, if_false, reduceIte, reduceCtorEq, Bool.not_true, Bool.not_false, Bool.false_eq_true, Bool.true_eq_false, true_and, and_true, and_self, ne_eq, not_false_eq_true, not_true_eq_false, false_imp_iff, true_imp_iff, imp_self, List.not_mem_nil, implies_true, List.mem_cons, forall_eq_or_imp, forall_eq, or_false, decide_eq_true_eq, decide_eq_false_iff_not, decide_true, decide_false, Bool.not_eq_true', Bool.not_eq_false', Bool.not_eq_eq_eq_not, wrap_i64, tdivn, tmodn, c52]
  refine x_lp (fun σ H' => H' = ⟨H.n, only fp H.m⟩ ∧ ∃ i : Nat, i ≤ rows.length ∧ (∀ e ∈ rows.take i, q e = false) ∧ σ = [(0, .fsl st 1 rows), (1, .fn g fs cs), (7, .int .i64 rows.length), (8, .int .i64 i)])
    (fun σ _ => match find 8 σ with | some (.int _ n) => (rows.length - n).toNat | _ => 0) ⟨rfl, 0, by omega, by simp, rfl⟩ ?_
  rintro T σ H' ⟨rfl, i, hi, hf, rfl⟩ hN hX hR
  simp (maxSteps := 1000000) (disch := omega) only [xr, vr, opX, opI, look, nth, setN, find_n, find_c, pkF_t, pkF_f, Nat.reduceBEq, outO, binO, intO, strO, argsE, appd, cpyO, slcO, slsO, bndO, lo1, mnxO, bldO, bldV, andO_s, consL_s, consO_s, splice, rd, fpS, lk, isNil, AEx.exit.injEq, V.bool.injEq, List.map_nil, List.map_cons, List.nil_append, List.cons_append, List.append_nil, List.getElem?_cons_zero, List.getElem?_cons_succ, List.set_cons_zero, List.set_cons_succ, List.length_map, List.length_nil, List.length_cons, Nat.reduceEqDiff, Nat.reduceAdd, Nat.add_zero, Nat.zero_add, Int.reduceEq, Int.reduceLT, Int.reduceLE, Int.toNat_natCast, Int.natCast_nonneg, Int.reduceToNat, if_true, if_false, reduceIte, reduceCtorEq, Bool.not_true, Bool.not_false, Bool.false_eq_true, Bool.true_eq_false, true_and, and_true, and_self, ne_eq, not_false_eq_true, not_true_eq_false, false_imp_iff, true_imp_iff, imp_self, List.not_mem_nil, implies_true, List.mem_cons, forall_eq_or_imp, forall_eq, or_false, decide_eq_true_eq, decide_eq_false_iff_not, decide_true, decide_false, Bool.not_eq_true', Bool.not_eq_false', Bool.not_eq_eq_eq_not, wrap_i64, tdivn, tmodn]
  refine ⟨fun h => ?_, fun h => ?_⟩
  · have h1 : i < rows.length := by omega
    have hget : rows[i]? = some rows[i] := by simp [h1]
    simp (maxSteps := 1000000) (disch := omega) only [xr, vr, opX, opI, look, nth, setN, find_n, find_c, pkF_t, pkF_f, Nat.reduceBEq, outO, binO, intO, strO, argsE, appd, cpyO, slcO, slsO, bndO, lo1, mnxO, bldO, bldV, andO_s, consL_s, consO_s, splice, rd, fpS, lk, isNil, AEx.exit.injEq, V.bool.injEq, List.map_nil, List.map_cons, List.nil_append, List.cons_append, List.append_nil, List.getElem?_cons_zero, List.getElem?_cons_succ, List.set_cons_zero, List.set_cons_succ, List.length_map, List.length_nil, List.length_cons, Nat.reduceEqDiff, Nat.reduceAdd, Nat.add_zero, Nat.zero_add, Int.reduceEq, Int.reduceLT, Int.reduceLE, Int.toNat_natCast, Int.natCast_nonneg, Int.reduceToNat, if_true, if_false, reduceIte, reduceCtorEq, Bool.not_true, Bool.not_false, Bool.false_eq_true, Bool.true_eq_false, true_and, and_true, and_self, ne_eq, not_false_eq_true, not_true_eq_false, false_imp_iff, true_imp_iff, imp_self, List.not_mem_nil, implies_true, List.mem_cons, forall_eq_or_imp, forall_eq, or_false, decide_eq_true_eq, decide_eq_false_iff_not, decide_true, decide_false, Bool.not_eq_true', Bool.not_eq_false', Bool.not_eq_eq_eq_not, wrap_i64, tdivn, tmodn, hget, hel rows[i] (List.getElem_mem h1)]
    refine ⟨_, _, _, _, hg rows[i] (List.getElem_mem h1) _ rfl (fun id hid => by simp [only, hid]), ?_⟩
    simp (maxSteps := 1000000) (disch := omega) only [xr, vr, opX, opI, look, nth, setN, find_n, find_c, pkF_t, pkF_f, Nat.reduceBEq, outO, binO, intO, strO, argsE, appd, cpyO, slcO, slsO, bndO, lo1, mnxO, bldO, bldV, andO_s, consL_s, consO_s, splice, rd, fpS, lk, isNil, AEx.exit.injEq, V.bool.injEq, List.map_nil, List.map_cons, List.nil_append, List.cons_append, List.append_nil, List.getElem?_cons_zero, List.getElem?_cons_succ, List.set_cons_zero, List.set_cons_succ, List.length_map, List.length_nil, List.length_cons, Nat.reduceEqDiff, Nat.reduceAdd, Nat.add_zero, Nat.zero_add, Int.reduceEq, Int.reduceLT, Int.reduceLE, Int.toNat_natCast, Int.natCast_nonneg, Int.reduceToNat, if_true, if_false, reduceIte, reduceCtorEq, Bool.not_true, Bool.not_false, Bool.false_eq_true, Bool.true_eq_false, true_and, and_true, and_self, ne_eq, not_false_eq_true, not_true_eq_false, false_imp_iff, true_imp_iff, imp_self, List.not_mem_nil, implies_true, List.mem_cons, forall_eq_or_imp, forall_eq, or_false, decide_eq_true_eq, decide_eq_false_iff_not, decide_true, decide_false, Bool.not_eq_true', Bool.not_eq_false', Bool.not_eq_eq_eq_not, wrap_i64, tdivn, tmodn, c_b]
    refine ⟨fun hq => ?_, fun hq => ?_⟩
    · refine hR _ _ ?_
      simp (maxSteps := 1000000) (disch := omega) only [xr, vr, opX, opI, look, nth, setN, find_n, find_c, pkF_t, pkF_f, Nat.reduceBEq, outO, binO, intO, strO, argsE, appd, cpyO, slcO, slsO, bndO, lo1, mnxO, bldO, bldV, andO_s, consL_s, consO_s, splice, rd, fpS, lk, isNil, AEx.exit.injEq, V.bool.injEq, List.map_nil, List.map_cons, List.nil_append, List.cons_append, List.append_nil, List.getElem?_cons_zero, List.getElem?_cons_succ, List.set_cons_zero, List.set_cons_succ, List.length_map, List.length_nil, List.length_cons, Nat.reduceEqDiff, Nat.reduceAdd, Nat.add_zero, Nat.zero_add, Int.reduceEq, Int.reduceLT, Int.reduceLE, Int.toNat_natCast, Int.natCast_nonneg, Int.reduceToNat, if_true, if_false, reduceIte, reduceCtorEq, Bool.not_true, Bool.not_false, Bool.false_eq_true, Bool.true_eq_false, true_and, and_true, and_self, ne_eq, not_false_eq_true, not_true_eq_false, false_imp_iff, true_imp_iff, imp_self, List.not_mem_nil, implies_true, List.mem_cons, forall_eq_or_imp, forall_eq, or_false, decide_eq_true_eq, decide_eq_false_iff_not, decide_true, decide_false, Bool.not_eq_true', Bool.not_eq_false', Bool.not_eq_eq_eq_not, wrap_i64, tdivn, tmodn]
      have hi2 : idxV rows q = i := by
        have : rows.findIdx? q = some i := by
          rw [List.findIdx?_eq_some_iff_getElem]
          refine ⟨h1, hq, fun j hj => ?_⟩
          have := hf rows[j] (by rw [List.mem_take_iff_getElem]; exact ⟨j, by omega, rfl⟩)
          simp [this]
        simp [idxV, this]
      exact fin_a (l := [.int .i64 i]) rfl (.inl (by rw [hi2]; rfl)) (by simp) (fun id => .inr rfl)
    · refine hN _ _ ⟨rfl, i + 1, by omega, ?_, rfl⟩ (by simp [find]; omega)
      intro e he
      rw [List.take_succ_eq_append_getElem h1] at he
      rcases List.mem_append.1 he with he | he
      · exact hf e he
      · simp at he; subst he; exact hq
  · have : i = rows.length := by omega
    subst this
    rw [List.take_length] at hf
    refine hX _ _ _ ?_
    simp (maxSteps := 1000000) (disch := omega) only [xr, vr, opX, opI, look, nth, setN, find_n, find_c, pkF_t, pkF_f, Nat.reduceBEq, outO, binO, intO, strO, argsE, appd, cpyO, slcO, slsO, bndO, lo1, mnxO, bldO, bldV, andO_s, consL_s, consO_s, splice, rd, fpS, lk, isNil, AEx.exit.injEq, V.bool.injEq, List.map_nil, List.map_cons, List.nil_append, List.cons_append, List.append_nil, List.getElem?_cons_zero, List.getElem?_cons_succ, List.set_cons_zero, List.set_cons_succ, List.length_map, List.length_nil, List.length_cons, Nat.reduceEqDiff, Nat.reduceAdd, Nat.add_zero, Nat.zero_add, Int.reduceEq, Int.reduceLT, Int.reduceLE, Int.toNat_natCast, Int.natCast_nonneg, Int.reduceToNat, if_true, if_false, reduceIte, reduceCtorEq, Bool.not_true, Bool.not_false, Bool.false_eq_true, Bool.true_eq_false, true_and, and_true, and_self, ne_eq, not_false_eq_true, not_true_eq_false, false_imp_iff, true_imp_iff, imp_self, List.not_mem_nil, implies_true, List.mem_cons, forall_eq_or_imp, forall_eq, or_false, decide_eq_true_eq, decide_eq_false_iff_not, decide_true, decide_false, Bool.not_eq_true', Bool.not_eq_false', Bool.not_eq_eq_eq_not, wrap_i64, tdivn, tmodn]
    refine x_frz0 ?_
    simp (maxSteps := 1000000) (disch := omega) only [xr, vr, opX, opI, look, nth, setN, find_n, find_c, pkF_t, pkF_f, Nat.reduceBEq, outO, binO, intO, strO, argsE, appd, cpyO, slcO, slsO, bndO, lo1, mnxO, bldO, bldV, andO_s, consL_s, consO_s, splice, rd, fpS, lk, isNil, AEx.exit.injEq, V.bool.injEq, List.map_nil, List.map_cons, List.nil_append, List.cons_append, List.append_nil, List.getElem?_cons_zero, List.getElem?_cons_succ, List.set_cons_zero, List.set_cons_succ, List.length_map, List.length_nil, List.length_cons, Nat.reduceEqDiff, Nat.reduceAdd, Nat.add_zero, Nat.zero_add, Int.reduceEq, Int.reduceLT, Int.reduceLE, Int.toNat_natCast, Int.natCast_nonneg, Int.reduceToNat, if_true, if_false, reduceIte, reduceCtorEq, Bool.not_true, Bool.not_false, Bool.false_eq_true, Bool.true_eq_false, true_and, and_true, and_self, ne_eq, not_false_eq_true, not_true_eq_false, false_imp_iff, true_imp_iff, imp_self, List.not_mem_nil, implies_true, List.mem_cons, forall_eq_or_imp, forall_eq, or_false, decide_eq_true_eq, decide_eq_false_iff_not, decide_true, decide_false, Bool.not_eq_true', Bool.not_eq_false', Bool.not_eq_eq_eq_not, wrap_i64, tdivn, tmodn]
    have hi2 : idxV rows q = -1 := by
      have : rows.findIdx? q = none := by rw [List.findIdx?_eq_none_iff]; exact hf
      simp [idxV, this]
    exact fin_a (l := [.int .i64 (-1)]) rfl (.inl (by rw [hi2]; rfl)) (by simp) (fun id => .inr rfl)

theorem only_only (fp : List Nat) (m : Hm) : only fp (only fp m) = only fp m := by
  funext id; by_cases h : id ∈ fp <;> simp [only, h]

theorem idx_ge {rows : List V} {q : V → Bool} : decide (0 ≤ idxV rows q) = rows.any q := by
  unfold idxV
  cases h : rows.findIdx? q with
  | none =>
    rw [List.findIdx?_eq_none_iff] at h
    have : rows.any q = false := by rw [List.any_eq_false]; simpa using h
    simp [this]
  | some i =>
    rw [List.findIdx?_eq_some_iff_getElem] at h
    obtain ⟨h1, h2, _⟩ := h
    have : rows.any q = true := List.any_eq_true.2 ⟨rows[i], List.getElem_mem h1, h2⟩
    simp [this]

theorem con45 {st : St} {rows fs cs : List V} {g : Nat} {q : V → Bool} {H : Hp} {fp : List Nat} (hr : closedL rows = true) (hel : ∀ e ∈ rows, getC none 0 e = some e) (hn : rows.length ≤ 1000000) (hl : lowL H.n fs = true) (hl' : lowL H.n cs = true)
    (hfp : ∀ id ∈ fp, id < H.n ∧ ∀ o, H.m id = some o → o.low H.n = true) (hg : Ans g fs cs H fp rows q) : ACall Try.prog 45 [.fsl st 1 rows, .fn g fs cs] H fp (.bool (rows.any q)) [] 0 := by
  refine ena45 (by simp) (by simp [lowL, V.low, hl, hl', lowL_closed _ hr]) hfp (by simp) ?_
  simp (maxSteps := 1000000) (disch := omega) only [xr, vr, opX, opI, look, nth, setN, find_n, find_c, pkF_t, pkF_f, Nat.reduceBEq, outO, binO, intO, strO, argsE, appd, cpyO, slcO, slsO, bndO, lo1, mnxO, bldO, bldV, andO_s, consL_s, consO_s, splice, rd, fpS, lk, isNil, AEx.exit.injEq, V.bool.injEq, List.map_nil, List.map_cons, List.nil_append, List.cons_append, List.append_nil, List.getElem?_cons_zero, List.getElem?_cons_succ, List.set_cons_zero, List.set_cons_succ, List.length_map, List.length_nil, List.length_cons, Nat.reduceEqDiff, Nat.reduceAdd, Nat.add_zero, Nat.zero_add, Int.reduceEq, Int.reduceLT, Int.reduceLE, Int.toNat_natCast, Int.natCast_nonneg, Int.reduceToNat, if_true, if_false, reduceIte, reduceCtorEq, Bool.not_true, Bool.not_false, Bool.false_eq_true, Bool.true_eq_false, true_and, and_true, and_self, ne_eq, not_false_eq_true, not_true_eq_false, false_imp_iff, true_imp_iff, imp_self, List.not_mem_nil, implies_true, List.mem_cons, forall_eq_or_imp, forall_eq, or_false, decide_eq_true_eq, decide_eq_false_iff_not, decide_true, decide_false, Bool.not_eq_true', Bool.not_eq_false', Bool.not_eq_eq_eq_not, wrap_i64, tdivn, tmodn, c45]
  refine ⟨_, _, _, _, idx52 (q := q) (fp := fp) hr hel hn hl hl' (fun id hid => ⟨(hfp id hid).1, fun o ho => (hfp id hid).2 o (by simpa [only, hid] using ho)⟩) (fun e he H' h1 h2 => hg e he H' h1 (fun id hid => by rw [h2 id hid]; simp [only, hid])), ?_⟩
  simp (maxSteps := 1000000) (disch := omega) only [xr, vr, opX, opI, look, nth, setN, find_n, find_c, pkF_t, pkF_f, Nat.reduceBEq, outO, binO, intO, strO, argsE, appd, cpyO, slcO, slsO, bndO, lo1, mnxO, bldO, bldV, andO_s, consL_s, consO_s, splice, rd, fpS, lk, isNil, AEx.exit.injEq, V.bool.injEq, List.map_nil, List.map_cons, List.nil_append, List.cons_append, List.append_nil, List.getElem?_cons_zero, List.getElem?_cons_succ, List.set_cons_zero, List.set_cons_succ, List.length_map, List.length_nil, List.length_cons, Nat.reduceEqDiff, Nat.reduceAdd, Nat.add_zero, Nat.zero_add, Int.reduceEq, Int.reduceLT, Int.reduceLE, Int.toNat_natCast, Int.natCast_nonneg, Int.reduceToNat, if_true, if_false, reduceIte, reduceCtorEq, Bool.not_true, Bool.not_false, Bool.false_eq_true, Bool.true_eq_false, true_and, and_true, and_self, ne_eq, not_false_eq_true, not_true_eq_false, false_imp_iff, true_imp_iff, imp_self, List.not_mem_nil, implies_true, List.mem_cons, forall_eq_or_imp, forall_eq, or_false, decide_eq_true_eq, decide_eq_false_iff_not, decide_true, decide_false, Bool.not_eq_true', Bool.not_eq_false', Bool.not_eq_eq_eq_not, wrap_i64, tdivn, tmodn]
  exact fin_a (l := [.bool (rows.any q)]) (by simp [resE, r45, find, idx_ge]) (.inl rfl) (by simp) (fun id => .inr rfl)

end Go.Proofs.Ytickdhdlljhomaa.Ev
