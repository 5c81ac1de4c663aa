/-
  The statement BitsCounts: what its function answers.
-/
import Derived.Test.YtickdhdlljhomaaB12
set_option linter.unusedSimpArgs false
set_option maxRecDepth 10000
set_option linter.unusedVariables false
namespace Go.Proofs.Ytickdhdlljhomaa.Ev
open Go

def ct (l : List Bool) : Nat := l.count true
theorem how_one (s : St) (l : List Bool) (i : Nat) : how [(s, l)] i = if l.getD i false = true then 1 else 0 := by
  simp [how, bit, List.countP_cons]
theorem range_count (l : List Bool) : (List.range l.length).countP (fun i => l.getD i false) = ct l := by
  have : l = (List.range l.length).map fun i => l.getD i false := by
    refine List.ext_getElem? fun i => ?_
    by_cases h : i < l.length <;> simp [h, List.getD_eq_getElem?_getD]
  rw [ct, List.count_eq_countP]
  conv => rhs; rw [this, List.countP_map]
  congr 1; funext i; simp [Function.comp]
theorem cnt_one (s : St) (l : List Bool) : cnt [(s, l)] (lng [(s, l)]) = ct l := by
  have : lng [(s, l)] = l.length := by simp [lng]
  rw [this, ← range_count, cnt]
  refine List.countP_congr fun i _ => ?_
  rw [how_one]
  cases l.getD i false <;> simp
theorem cnt_two (s s' : St) (l w : List Bool) (hl : w.length = l.length) (h : ∀ i : Nat, w.getD i false = true → l.getD i false = true) : cnt [(s, l), (s', w)] (lng [(s, l), (s', w)]) = ct w := by
  have : lng [(s, l), (s', w)] = w.length := by simp [lng, hl]
  rw [this, ← range_count, cnt]
  refine List.countP_congr fun i _ => ?_
  have hw : bit i (s', w) = true → bit i (s, l) = true := h i
  have e : w.getD i false = bit i (s', w) := rfl
  rw [e]
  simp only [how, List.countP_cons, List.countP_nil, List.length_cons, List.length_nil]
  by_cases h1 : bit i (s', w) = true
  · rw [if_pos h1, if_pos (hw h1)]; simp [h1]
  · rw [if_neg h1]
    by_cases h2 : bit i (s, l) = true
    · rw [if_pos h2]; simp [h1]
    · rw [if_neg h2]; simp [h1]

theorem ct_set {l : List Bool} {k : Nat} (h : k < l.length) : ct (l.set k true) = ct (l.set k false) + 1 := by
  simp only [ct, List.count_set h]
  cases hk : l[k] with
  | false => simp
  | true =>
    have : 0 < l.count true := List.count_pos_iff.2 (hk ▸ List.getElem_mem h)
    simp
    try omega

theorem wi_one (m : List Bool) (b : Bool) (k : Nat) (h : k < m.length) : wiV m b [(k : Int)] = .tup [.fsl .loose 1 (bv (m.set k b)), .int .i64 0] := by
  have : okP m.length [(k : Int)] = true := by simp [okP, h]
  simp [wiV, WI, this, setP]

theorem law8 (st : St) (l : List Bool) (a : Int) (ha : -9223372036854775808 ≤ a ∧ a ≤ 9223372036854775807) : PCall Try.prog 8 [.fsl st 1 (bv l), .int .i64 a] (.bool true) := by
  refine en8 (by simp) (by simp [closedL, V.closed, bv_closed]) ?_
  simp (maxSteps := 1000000) (disch := omega) only [xr, vr, opX, opI, look, nth, setN, find_n, find_c, pkF_t, pkF_f, Nat.reduceBEq, outO, binO, intO, strO, argsE, appd, cpyO, slcO, slsO, bndO, lo1, mnxO, bldO, bldV, andO_s, consL_s, consO_s, splice, rd, fpS, lk, isNil, AEx.exit.injEq, V.bool.injEq, List.map_nil, List.map_cons, List.nil_append, List.cons_append, List.append_nil, List.getElem?_cons_zero, List.getElem?_cons_succ, List.set_cons_zero, List.set_cons_succ, List.length_map, List.length_nil, List.length_cons, Nat.reduceEqDiff, Nat.reduceAdd, Nat.add_zero, Nat.zero_add, Int.reduceEq, Int.reduceLT, Int.reduceLE, Int.toNat_natCast, Int.natCast_nonneg, Int.reduceToNat, if_true, if_false, reduceIte, reduceCtorEq, Bool.not_true, Bool.not_false, Bool.false_eq_true, Bool.true_eq_false, true_and, and_true, and_self, ne_eq, not_false_eq_true, not_true_eq_false, false_imp_iff, true_imp_iff, imp_self, List.not_mem_nil, implies_true, List.mem_cons, forall_eq_or_imp, forall_eq, or_false, decide_eq_true_eq, decide_eq_false_iff_not, decide_true, decide_false, Bool.not_eq_true', Bool.not_eq_false', Bool.not_eq_eq_eq_not, wrap_i64, tdivn, tmodn, c8, bv_len]
  have e1 : List.drop 0 (List.take (min (l.length : Int) 300).toNat (bv l)) = bv (l.take 300) := take_min l 300
  rw [e1]
  refine ⟨by omega, ?_⟩
  have hm : (l.take 300).length ≤ 300 := by simp; omega
  generalize l.take 300 = m at hm
  generalize slSt st l.length (min (l.length : Int) 300).toNat none = s1
  have c1 := count25 .full [(s1, m)] (by simp) (by simp; omega)
  have f1 := first23 .full [(s1, m)] 0 (by omega) (by simp) (by simp; omega)
  rw [cnt_one] at c1
  simp only [rv, List.map_cons, List.map_nil] at c1 f1
  refine ⟨_, c1, ?_⟩
  simp (maxSteps := 1000000) (disch := omega) only [xr, vr, opX, opI, look, nth, setN, find_n, find_c, pkF_t, pkF_f, Nat.reduceBEq, outO, binO, intO, strO, argsE, appd, cpyO, slcO, slsO, bndO, lo1, mnxO, bldO, bldV, andO_s, consL_s, consO_s, splice, rd, fpS, lk, isNil, AEx.exit.injEq, V.bool.injEq, List.map_nil, List.map_cons, List.nil_append, List.cons_append, List.append_nil, List.getElem?_cons_zero, List.getElem?_cons_succ, List.set_cons_zero, List.set_cons_succ, List.length_map, List.length_nil, List.length_cons, Nat.reduceEqDiff, Nat.reduceAdd, Nat.add_zero, Nat.zero_add, Int.reduceEq, Int.reduceLT, Int.reduceLE, Int.toNat_natCast, Int.natCast_nonneg, Int.reduceToNat, if_true, if_false, reduceIte, reduceCtorEq, Bool.not_true, Bool.not_false, Bool.false_eq_true, Bool.true_eq_false, true_and, and_true, and_self, ne_eq, not_false_eq_true, not_true_eq_false, false_imp_iff, true_imp_iff, imp_self, List.not_mem_nil, implies_true, List.mem_cons, forall_eq_or_imp, forall_eq, or_false, decide_eq_true_eq, decide_eq_false_iff_not, decide_true, decide_false, Bool.not_eq_true', Bool.not_eq_false', Bool.not_eq_eq_eq_not, wrap_i64, tdivn, tmodn]
  refine ⟨_, f1, ?_⟩
  simp (maxSteps := 1000000) (disch := omega) only [xr, vr, opX, opI, look, nth, setN, find_n, find_c, pkF_t, pkF_f, Nat.reduceBEq, outO, binO, intO, strO, argsE, appd, cpyO, slcO, slsO, bndO, lo1, mnxO, bldO, bldV, andO_s, consL_s, consO_s, splice, rd, fpS, lk, isNil, AEx.exit.injEq, V.bool.injEq, List.map_nil, List.map_cons, List.nil_append, List.cons_append, List.append_nil, List.getElem?_cons_zero, List.getElem?_cons_succ, List.set_cons_zero, List.set_cons_succ, List.length_map, List.length_nil, List.length_cons, Nat.reduceEqDiff, Nat.reduceAdd, Nat.add_zero, Nat.zero_add, Int.reduceEq, Int.reduceLT, Int.reduceLE, Int.toNat_natCast, Int.natCast_nonneg, Int.reduceToNat, if_true, if_false, reduceIte, reduceCtorEq, Bool.not_true, Bool.not_false, Bool.false_eq_true, Bool.true_eq_false, true_and, and_true, and_self, ne_eq, not_false_eq_true, not_true_eq_false, false_imp_iff, true_imp_iff, imp_self, List.not_mem_nil, implies_true, List.mem_cons, forall_eq_or_imp, forall_eq, or_false, decide_eq_true_eq, decide_eq_false_iff_not, decide_true, decide_false, Bool.not_eq_true', Bool.not_eq_false', Bool.not_eq_eq_eq_not, wrap_i64, tdivn, tmodn, bv_len]
  refine ⟨fun h0 => ?_, fun h0 => ?_⟩
  · have hm0 : m = [] := List.eq_nil_of_length_eq_zero (by omega)
    subst hm0
    have hf : fst [(s1, ([] : List Bool))] 0 = -1 := fst_none (fun j h1 h2 => by simp [lng] at h1)
    refine ⟨_, alive17, ?_⟩
    simp (maxSteps := 1000000) (disch := omega) only [xr, vr, opX, opI, look, nth, setN, find_n, find_c, pkF_t, pkF_f, Nat.reduceBEq, outO, binO, intO, strO, argsE, appd, cpyO, slcO, slsO, bndO, lo1, mnxO, bldO, bldV, andO_s, consL_s, consO_s, splice, rd, fpS, lk, isNil, AEx.exit.injEq, V.bool.injEq, List.map_nil, List.map_cons, List.nil_append, List.cons_append, List.append_nil, List.getElem?_cons_zero, List.getElem?_cons_succ, List.set_cons_zero, List.set_cons_succ, List.length_map, List.length_nil, List.length_cons, Nat.reduceEqDiff, Nat.reduceAdd, Nat.add_zero, Nat.zero_add, Int.reduceEq, Int.reduceLT, Int.reduceLE, Int.toNat_natCast, Int.natCast_nonneg, Int.reduceToNat, if_true, if_false, reduceIte, reduceCtorEq, Bool.not_true, Bool.not_false, Bool.false_eq_true, Bool.true_eq_false, true_and, and_true, and_self, ne_eq, not_false_eq_true, not_true_eq_false, false_imp_iff, true_imp_iff, imp_self, List.not_mem_nil, implies_true, List.mem_cons, forall_eq_or_imp, forall_eq, or_false, decide_eq_true_eq, decide_eq_false_iff_not, decide_true, decide_false, Bool.not_eq_true', Bool.not_eq_false', Bool.not_eq_eq_eq_not, wrap_i64, tdivn, tmodn, hf, ct]
    refine ⟨fun _ => fin_c (l := [.bool true]) rfl rfl (.inl rfl), fun h => absurd (by simp) h⟩
  · have hpos : (0 : Int) < m.length := by omega
    have t1 := Int.tmod_lt_of_pos a hpos
    have t2 := Int.lt_tmod_of_pos a hpos
    simp (maxSteps := 1000000) (disch := omega) only [xr, vr, opX, opI, look, nth, setN, find_n, find_c, pkF_t, pkF_f, Nat.reduceBEq, outO, binO, intO, strO, argsE, appd, cpyO, slcO, slsO, bndO, lo1, mnxO, bldO, bldV, andO_s, consL_s, consO_s, splice, rd, fpS, lk, isNil, AEx.exit.injEq, V.bool.injEq, List.map_nil, List.map_cons, List.nil_append, List.cons_append, List.append_nil, List.getElem?_cons_zero, List.getElem?_cons_succ, List.set_cons_zero, List.set_cons_succ, List.length_map, List.length_nil, List.length_cons, Nat.reduceEqDiff, Nat.reduceAdd, Nat.add_zero, Nat.zero_add, Int.reduceEq, Int.reduceLT, Int.reduceLE, Int.toNat_natCast, Int.natCast_nonneg, Int.reduceToNat, if_true, if_false, reduceIte, reduceCtorEq, Bool.not_true, Bool.not_false, Bool.false_eq_true, Bool.true_eq_false, true_and, and_true, and_self, ne_eq, not_false_eq_true, not_true_eq_false, false_imp_iff, true_imp_iff, imp_self, List.not_mem_nil, implies_true, List.mem_cons, forall_eq_or_imp, forall_eq, or_false, decide_eq_true_eq, decide_eq_false_iff_not, decide_true, decide_false, Bool.not_eq_true', Bool.not_eq_false', Bool.not_eq_eq_eq_not, wrap_i64, tdivn, tmodn]
    generalize a.tmod (m.length : Int) = t at t1 t2
    have hk0 : 0 ≤ (t + m.length) % (m.length : Int) := Int.emod_nonneg _ h0
    have hk1 : (t + m.length) % (m.length : Int) < m.length := Int.emod_lt_of_pos _ hpos
    obtain ⟨k, hk⟩ : ∃ k : Nat, (t + m.length) % (m.length : Int) = k := ⟨((t + m.length) % (m.length : Int)).toNat, by omega⟩
    rw [hk] at hk0 hk1
    simp (maxSteps := 1000000) (disch := omega) only [xr, vr, opX, opI, look, nth, setN, find_n, find_c, pkF_t, pkF_f, Nat.reduceBEq, outO, binO, intO, strO, argsE, appd, cpyO, slcO, slsO, bndO, lo1, mnxO, bldO, bldV, andO_s, consL_s, consO_s, splice, rd, fpS, lk, isNil, AEx.exit.injEq, V.bool.injEq, List.map_nil, List.map_cons, List.nil_append, List.cons_append, List.append_nil, List.getElem?_cons_zero, List.getElem?_cons_succ, List.set_cons_zero, List.set_cons_succ, List.length_map, List.length_nil, List.length_cons, Nat.reduceEqDiff, Nat.reduceAdd, Nat.add_zero, Nat.zero_add, Int.reduceEq, Int.reduceLT, Int.reduceLE, Int.toNat_natCast, Int.natCast_nonneg, Int.reduceToNat, if_true, if_false, reduceIte, reduceCtorEq, Bool.not_true, Bool.not_false, Bool.false_eq_true, Bool.true_eq_false, true_and, and_true, and_self, ne_eq, not_false_eq_true, not_true_eq_false, false_imp_iff, true_imp_iff, imp_self, List.not_mem_nil, implies_true, List.mem_cons, forall_eq_or_imp, forall_eq, or_false, decide_eq_true_eq, decide_eq_false_iff_not, decide_true, decide_false, Bool.not_eq_true', Bool.not_eq_false', Bool.not_eq_eq_eq_not, wrap_i64, tdivn, tmodn, hk]
    have hkm : k < m.length := by omega
    have w1 := with21 s1 .full m true [(k : Int)] (by omega) (by simp)
    have w0 := with21 s1 .full m false [(k : Int)] (by omega) (by simp)
    rw [wi_one m _ k hkm] at w1 w0
    refine ⟨h0, h0, _, w1, ?_⟩
    simp (maxSteps := 1000000) (disch := omega) only [xr, vr, opX, opI, look, nth, setN, find_n, find_c, pkF_t, pkF_f, Nat.reduceBEq, outO, binO, intO, strO, argsE, appd, cpyO, slcO, slsO, bndO, lo1, mnxO, bldO, bldV, andO_s, consL_s, consO_s, splice, rd, fpS, lk, isNil, AEx.exit.injEq, V.bool.injEq, List.map_nil, List.map_cons, List.nil_append, List.cons_append, List.append_nil, List.getElem?_cons_zero, List.getElem?_cons_succ, List.set_cons_zero, List.set_cons_succ, List.length_map, List.length_nil, List.length_cons, Nat.reduceEqDiff, Nat.reduceAdd, Nat.add_zero, Nat.zero_add, Int.reduceEq, Int.reduceLT, Int.reduceLE, Int.toNat_natCast, Int.natCast_nonneg, Int.reduceToNat, if_true, if_false, reduceIte, reduceCtorEq, Bool.not_true, Bool.not_false, Bool.false_eq_true, Bool.true_eq_false, true_and, and_true, and_self, ne_eq, not_false_eq_true, not_true_eq_false, false_imp_iff, true_imp_iff, imp_self, List.not_mem_nil, implies_true, List.mem_cons, forall_eq_or_imp, forall_eq, or_false, decide_eq_true_eq, decide_eq_false_iff_not, decide_true, decide_false, Bool.not_eq_true', Bool.not_eq_false', Bool.not_eq_eq_eq_not, wrap_i64, tdivn, tmodn]
    refine ⟨_, w0, ?_⟩
    simp (maxSteps := 1000000) (disch := omega) only [xr, vr, opX, opI, look, nth, setN, find_n, find_c, pkF_t, pkF_f, Nat.reduceBEq, outO, binO, intO, strO, argsE, appd, cpyO, slcO, slsO, bndO, lo1, mnxO, bldO, bldV, andO_s, consL_s, consO_s, splice, rd, fpS, lk, isNil, AEx.exit.injEq, V.bool.injEq, List.map_nil, List.map_cons, List.nil_append, List.cons_append, List.append_nil, List.getElem?_cons_zero, List.getElem?_cons_succ, List.set_cons_zero, List.set_cons_succ, List.length_map, List.length_nil, List.length_cons, Nat.reduceEqDiff, Nat.reduceAdd, Nat.add_zero, Nat.zero_add, Int.reduceEq, Int.reduceLT, Int.reduceLE, Int.toNat_natCast, Int.natCast_nonneg, Int.reduceToNat, if_true, if_false, reduceIte, reduceCtorEq, Bool.not_true, Bool.not_false, Bool.false_eq_true, Bool.true_eq_false, true_and, and_true, and_self, ne_eq, not_false_eq_true, not_true_eq_false, false_imp_iff, true_imp_iff, imp_self, List.not_mem_nil, implies_true, List.mem_cons, forall_eq_or_imp, forall_eq, or_false, decide_eq_true_eq, decide_eq_false_iff_not, decide_true, decide_false, Bool.not_eq_true', Bool.not_eq_false', Bool.not_eq_eq_eq_not, wrap_i64, tdivn, tmodn]
    have d1 := count25 .full [(.loose, m.set k true)] (by simp) (by simp; omega)
    have d0 := count25 .full [(.loose, m.set k false)] (by simp) (by simp; omega)
    have d2 := count25 .full [(s1, m), (.loose, m.set k false)] (by simp) (by simp; omega)
    rw [cnt_one] at d1 d0
    rw [cnt_two s1 .loose m (m.set k false) (by simp) (fun i hi => by
      by_cases e : k = i
      · subst e; simp [List.getD_eq_getElem?_getD, hkm] at hi
      · simpa [List.getD_eq_getElem?_getD, List.getElem?_set_ne e] using hi)] at d2
    simp only [rv, List.map_cons, List.map_nil] at d1 d0 d2
    have hct := ct_set hkm
    refine ⟨_, d1, ?_⟩
    simp (maxSteps := 1000000) (disch := omega) only [xr, vr, opX, opI, look, nth, setN, find_n, find_c, pkF_t, pkF_f, Nat.reduceBEq, outO, binO, intO, strO, argsE, appd, cpyO, slcO, slsO, bndO, lo1, mnxO, bldO, bldV, andO_s, consL_s, consO_s, splice, rd, fpS, lk, isNil, AEx.exit.injEq, V.bool.injEq, List.map_nil, List.map_cons, List.nil_append, List.cons_append, List.append_nil, List.getElem?_cons_zero, List.getElem?_cons_succ, List.set_cons_zero, List.set_cons_succ, List.length_map, List.length_nil, List.length_cons, Nat.reduceEqDiff, Nat.reduceAdd, Nat.add_zero, Nat.zero_add, Int.reduceEq, Int.reduceLT, Int.reduceLE, Int.toNat_natCast, Int.natCast_nonneg, Int.reduceToNat, if_true, if_false, reduceIte, reduceCtorEq, Bool.not_true, Bool.not_false, Bool.false_eq_true, Bool.true_eq_false, true_and, and_true, and_self, ne_eq, not_false_eq_true, not_true_eq_false, false_imp_iff, true_imp_iff, imp_self, List.not_mem_nil, implies_true, List.mem_cons, forall_eq_or_imp, forall_eq, or_false, decide_eq_true_eq, decide_eq_false_iff_not, decide_true, decide_false, Bool.not_eq_true', Bool.not_eq_false', Bool.not_eq_eq_eq_not, wrap_i64, tdivn, tmodn]
    refine ⟨_, d0, ?_⟩
    have hb : ct (m.set k false) ≤ 300 := by
      have := List.count_le_length (a := true) (l := m.set k false)
      simp only [List.length_set] at this; unfold ct; omega
    simp (maxSteps := 1000000) (disch := omega) only [xr, vr, opX, opI, look, nth, setN, find_n, find_c, pkF_t, pkF_f, Nat.reduceBEq, outO, binO, intO, strO, argsE, appd, cpyO, slcO, slsO, bndO, lo1, mnxO, bldO, bldV, andO_s, consL_s, consO_s, splice, rd, fpS, lk, isNil, AEx.exit.injEq, V.bool.injEq, List.map_nil, List.map_cons, List.nil_append, List.cons_append, List.append_nil, List.getElem?_cons_zero, List.getElem?_cons_succ, List.set_cons_zero, List.set_cons_succ, List.length_map, List.length_nil, List.length_cons, Nat.reduceEqDiff, Nat.reduceAdd, Nat.add_zero, Nat.zero_add, Int.reduceEq, Int.reduceLT, Int.reduceLE, Int.toNat_natCast, Int.natCast_nonneg, Int.reduceToNat, if_true, if_false, reduceIte, reduceCtorEq, Bool.not_true, Bool.not_false, Bool.false_eq_true, Bool.true_eq_false, true_and, and_true, and_self, ne_eq, not_false_eq_true, not_true_eq_false, false_imp_iff, true_imp_iff, imp_self, List.not_mem_nil, implies_true, List.mem_cons, forall_eq_or_imp, forall_eq, or_false, decide_eq_true_eq, decide_eq_false_iff_not, decide_true, decide_false, Bool.not_eq_true', Bool.not_eq_false', Bool.not_eq_eq_eq_not, wrap_i64, tdivn, tmodn]
    refine ⟨fun _ => ?_, fun h => absurd (by omega) h⟩
    refine ⟨_, d2, ?_⟩
    simp (maxSteps := 1000000) (disch := omega) only [xr, vr, opX, opI, look, nth, setN, find_n, find_c, pkF_t, pkF_f, Nat.reduceBEq, outO, binO, intO, strO, argsE, appd, cpyO, slcO, slsO, bndO, lo1, mnxO, bldO, bldV, andO_s, consL_s, consO_s, splice, rd, fpS, lk, isNil, AEx.exit.injEq, V.bool.injEq, List.map_nil, List.map_cons, List.nil_append, List.cons_append, List.append_nil, List.getElem?_cons_zero, List.getElem?_cons_succ, List.set_cons_zero, List.set_cons_succ, List.length_map, List.length_nil, List.length_cons, Nat.reduceEqDiff, Nat.reduceAdd, Nat.add_zero, Nat.zero_add, Int.reduceEq, Int.reduceLT, Int.reduceLE, Int.toNat_natCast, Int.natCast_nonneg, Int.reduceToNat, if_true, if_false, reduceIte, reduceCtorEq, Bool.not_true, Bool.not_false, Bool.false_eq_true, Bool.true_eq_false, true_and, and_true, and_self, ne_eq, not_false_eq_true, not_true_eq_false, false_imp_iff, true_imp_iff, imp_self, List.not_mem_nil, implies_true, List.mem_cons, forall_eq_or_imp, forall_eq, or_false, decide_eq_true_eq, decide_eq_false_iff_not, decide_true, decide_false, Bool.not_eq_true', Bool.not_eq_false', Bool.not_eq_eq_eq_not, wrap_i64, tdivn, tmodn]
    refine ⟨_, d0, ?_⟩
    simp (maxSteps := 1000000) (disch := omega) only [xr, vr, opX, opI, look, nth, setN, find_n, find_c, pkF_t, pkF_f, Nat.reduceBEq, outO, binO, intO, strO, argsE, appd, cpyO, slcO, slsO, bndO, lo1, mnxO, bldO, bldV, andO_s, consL_s, consO_s, splice, rd, fpS, lk, isNil, AEx.exit.injEq, V.bool.injEq, List.map_nil, List.map_cons, List.nil_append, List.cons_append, List.append_nil, List.getElem?_cons_zero, List.getElem?_cons_succ, List.set_cons_zero, List.set_cons_succ, List.length_map, List.length_nil, List.length_cons, Nat.reduceEqDiff, Nat.reduceAdd, Nat.add_zero, Nat.zero_add, Int.reduceEq, Int.reduceLT, Int.reduceLE, Int.toNat_natCast, Int.natCast_nonneg, Int.reduceToNat, if_true, if_false, reduceIte, reduceCtorEq, Bool.not_true, Bool.not_false, Bool.false_eq_true, Bool.true_eq_false, true_and, and_true, and_self, ne_eq, not_false_eq_true, not_true_eq_false, false_imp_iff, true_imp_iff, imp_self, List.not_mem_nil, implies_true, List.mem_cons, forall_eq_or_imp, forall_eq, or_false, decide_eq_true_eq, decide_eq_false_iff_not, decide_true, decide_false, Bool.not_eq_true', Bool.not_eq_false', Bool.not_eq_eq_eq_not, wrap_i64, tdivn, tmodn]
    refine ⟨_, alive17, ?_⟩
    simp (maxSteps := 1000000) (disch := omega) only [xr, vr, opX, opI, look, nth, setN, find_n, find_c, pkF_t, pkF_f, Nat.reduceBEq, outO, binO, intO, strO, argsE, appd, cpyO, slcO, slsO, bndO, lo1, mnxO, bldO, bldV, andO_s, consL_s, consO_s, splice, rd, fpS, lk, isNil, AEx.exit.injEq, V.bool.injEq, List.map_nil, List.map_cons, List.nil_append, List.cons_append, List.append_nil, List.getElem?_cons_zero, List.getElem?_cons_succ, List.set_cons_zero, List.set_cons_succ, List.length_map, List.length_nil, List.length_cons, Nat.reduceEqDiff, Nat.reduceAdd, Nat.add_zero, Nat.zero_add, Int.reduceEq, Int.reduceLT, Int.reduceLE, Int.toNat_natCast, Int.natCast_nonneg, Int.reduceToNat, if_true, if_false, reduceIte, reduceCtorEq, Bool.not_true, Bool.not_false, Bool.false_eq_true, Bool.true_eq_false, true_and, and_true, and_self, ne_eq, not_false_eq_true, not_true_eq_false, false_imp_iff, true_imp_iff, imp_self, List.not_mem_nil, implies_true, List.mem_cons, forall_eq_or_imp, forall_eq, or_false, decide_eq_true_eq, decide_eq_false_iff_not, decide_true, decide_false, Bool.not_eq_true', Bool.not_eq_false', Bool.not_eq_eq_eq_not, wrap_i64, tdivn, tmodn, bv_len]
    refine x_lp (fun σ _ => ∃ i : Nat, i ≤ m.length ∧ (∀ j : Nat, j < i → m.getD j false = true) ∧ σ = [(0, .fsl s1 1 (bv m)), (5, .int .i64 (ct m)), (6, .int .i64 (fst [(s1, m)] 0)), (90, .fsl s1 1 (bv m)), (91, .int .i64 m.length), (92, .int .i64 i)])
      (fun σ _ => match find 92 σ with | some (.int _ n) => (m.length - n).toNat | _ => 0) ⟨0, by omega, by simp, rfl⟩ ?_
    rintro T σ ⟨n, m'⟩ ⟨i, hi, hf, rfl⟩ hN hX hR
    simp (maxSteps := 1000000) (disch := omega) only [xr, vr, opX, opI, look, nth, setN, find_n, find_c, pkF_t, pkF_f, Nat.reduceBEq, outO, binO, intO, strO, argsE, appd, cpyO, slcO, slsO, bndO, lo1, mnxO, bldO, bldV, andO_s, consL_s, consO_s, splice, rd, fpS, lk, isNil, AEx.exit.injEq, V.bool.injEq, List.map_nil, List.map_cons, List.nil_append, List.cons_append, List.append_nil, List.getElem?_cons_zero, List.getElem?_cons_succ, List.set_cons_zero, List.set_cons_succ, List.length_map, List.length_nil, List.length_cons, Nat.reduceEqDiff, Nat.reduceAdd, Nat.add_zero, Nat.zero_add, Int.reduceEq, Int.reduceLT, Int.reduceLE, Int.toNat_natCast, Int.natCast_nonneg, Int.reduceToNat, if_true, if_false, reduceIte, reduceCtorEq, Bool.not_true, Bool.not_false, Bool.false_eq_true, Bool.true_eq_false, true_and, and_true, and_self, ne_eq, not_false_eq_true, not_true_eq_false, false_imp_iff, true_imp_iff, imp_self, List.not_mem_nil, implies_true, List.mem_cons, forall_eq_or_imp, forall_eq, or_false, decide_eq_true_eq, decide_eq_false_iff_not, decide_true, decide_false, Bool.not_eq_true', Bool.not_eq_false', Bool.not_eq_eq_eq_not, wrap_i64, tdivn, tmodn]
    refine ⟨fun h => ?_, fun h => ?_⟩
    · have h1 : i < m.length := by omega
      simp (maxSteps := 1000000) (disch := omega) only [xr, vr, opX, opI, look, nth, setN, find_n, find_c, pkF_t, pkF_f, Nat.reduceBEq, outO, binO, intO, strO, argsE, appd, cpyO, slcO, slsO, bndO, lo1, mnxO, bldO, bldV, andO_s, consL_s, consO_s, splice, rd, fpS, lk, isNil, AEx.exit.injEq, V.bool.injEq, List.map_nil, List.map_cons, List.nil_append, List.cons_append, List.append_nil, List.getElem?_cons_zero, List.getElem?_cons_succ, List.set_cons_zero, List.set_cons_succ, List.length_map, List.length_nil, List.length_cons, Nat.reduceEqDiff, Nat.reduceAdd, Nat.add_zero, Nat.zero_add, Int.reduceEq, Int.reduceLT, Int.reduceLE, Int.toNat_natCast, Int.natCast_nonneg, Int.reduceToNat, if_true, if_false, reduceIte, reduceCtorEq, Bool.not_true, Bool.not_false, Bool.false_eq_true, Bool.true_eq_false, true_and, and_true, and_self, ne_eq, not_false_eq_true, not_true_eq_false, false_imp_iff, true_imp_iff, imp_self, List.not_mem_nil, implies_true, List.mem_cons, forall_eq_or_imp, forall_eq, or_false, decide_eq_true_eq, decide_eq_false_iff_not, decide_true, decide_false, Bool.not_eq_true', Bool.not_eq_false', Bool.not_eq_eq_eq_not, wrap_i64, tdivn, tmodn, bv_get, c_b]
      refine ⟨fun hmi => ?_, fun hmi => ?_⟩
      · refine hR _ _ ?_
        simp (maxSteps := 1000000) (disch := omega) only [xr, vr, opX, opI, look, nth, setN, find_n, find_c, pkF_t, pkF_f, Nat.reduceBEq, outO, binO, intO, strO, argsE, appd, cpyO, slcO, slsO, bndO, lo1, mnxO, bldO, bldV, andO_s, consL_s, consO_s, splice, rd, fpS, lk, isNil, AEx.exit.injEq, V.bool.injEq, List.map_nil, List.map_cons, List.nil_append, List.cons_append, List.append_nil, List.getElem?_cons_zero, List.getElem?_cons_succ, List.set_cons_zero, List.set_cons_succ, List.length_map, List.length_nil, List.length_cons, Nat.reduceEqDiff, Nat.reduceAdd, Nat.add_zero, Nat.zero_add, Int.reduceEq, Int.reduceLT, Int.reduceLE, Int.toNat_natCast, Int.natCast_nonneg, Int.reduceToNat, if_true, if_false, reduceIte, reduceCtorEq, Bool.not_true, Bool.not_false, Bool.false_eq_true, Bool.true_eq_false, true_and, and_true, and_self, ne_eq, not_false_eq_true, not_true_eq_false, false_imp_iff, true_imp_iff, imp_self, List.not_mem_nil, implies_true, List.mem_cons, forall_eq_or_imp, forall_eq, or_false, decide_eq_true_eq, decide_eq_false_iff_not, decide_true, decide_false, Bool.not_eq_true', Bool.not_eq_false', Bool.not_eq_eq_eq_not, wrap_i64, tdivn, tmodn]
        have hfst : fst [(s1, m)] 0 = i := by
          refine fst_some (by simp [lng]; omega) (by omega) (by rw [how_one]; simp [List.getD_eq_getElem?_getD, h1, hmi]) (fun j hj _ => by rw [how_one, if_pos (hf j hj)]; simp)
        exact fin_c (l := [.bool true]) (by simp [resE, r8, find, hfst]) rfl (.inl rfl)
      · refine hN _ _ ⟨i + 1, by omega, fun j hj => ?_, rfl⟩ (by simp [find]; omega)
        by_cases e : j = i
        · subst e; simp [List.getD_eq_getElem?_getD, h1, hmi]
        · exact hf j (by omega)
    · have hil : i = m.length := by omega
      subst hil
      have hfst : fst [(s1, m)] 0 = -1 := fst_none (fun j hj _ => by rw [how_one, if_pos (hf j (by simpa [lng] using hj))]; simp)
      have hcm : ct m = m.length := by
        rw [ct, List.count_eq_length]
        intro b hb
        obtain ⟨j, hj, rfl⟩ := List.getElem_of_mem hb
        have := hf j hj
        simpa [List.getD_eq_getElem?_getD, hj] using this.symm
      refine hX _ _ _ ?_
      simp (maxSteps := 1000000) (disch := omega) only [xr, vr, opX, opI, look, nth, setN, find_n, find_c, pkF_t, pkF_f, Nat.reduceBEq, outO, binO, intO, strO, argsE, appd, cpyO, slcO, slsO, bndO, lo1, mnxO, bldO, bldV, andO_s, consL_s, consO_s, splice, rd, fpS, lk, isNil, AEx.exit.injEq, V.bool.injEq, List.map_nil, List.map_cons, List.nil_append, List.cons_append, List.append_nil, List.getElem?_cons_zero, List.getElem?_cons_succ, List.set_cons_zero, List.set_cons_succ, List.length_map, List.length_nil, List.length_cons, Nat.reduceEqDiff, Nat.reduceAdd, Nat.add_zero, Nat.zero_add, Int.reduceEq, Int.reduceLT, Int.reduceLE, Int.toNat_natCast, Int.natCast_nonneg, Int.reduceToNat, if_true, if_false, reduceIte, reduceCtorEq, Bool.not_true, Bool.not_false, Bool.false_eq_true, Bool.true_eq_false, true_and, and_true, and_self, ne_eq, not_false_eq_true, not_true_eq_false, false_imp_iff, true_imp_iff, imp_self, List.not_mem_nil, implies_true, List.mem_cons, forall_eq_or_imp, forall_eq, or_false, decide_eq_true_eq, decide_eq_false_iff_not, decide_true, decide_false, Bool.not_eq_true', Bool.not_eq_false', Bool.not_eq_eq_eq_not, wrap_i64, tdivn, tmodn]
      refine x_frz0 ?_
      simp (maxSteps := 1000000) (disch := omega) only [xr, vr, opX, opI, look, nth, setN, find_n, find_c, pkF_t, pkF_f, Nat.reduceBEq, outO, binO, intO, strO, argsE, appd, cpyO, slcO, slsO, bndO, lo1, mnxO, bldO, bldV, andO_s, consL_s, consO_s, splice, rd, fpS, lk, isNil, AEx.exit.injEq, V.bool.injEq, List.map_nil, List.map_cons, List.nil_append, List.cons_append, List.append_nil, List.getElem?_cons_zero, List.getElem?_cons_succ, List.set_cons_zero, List.set_cons_succ, List.length_map, List.length_nil, List.length_cons, Nat.reduceEqDiff, Nat.reduceAdd, Nat.add_zero, Nat.zero_add, Int.reduceEq, Int.reduceLT, Int.reduceLE, Int.toNat_natCast, Int.natCast_nonneg, Int.reduceToNat, if_true, if_false, reduceIte, reduceCtorEq, Bool.not_true, Bool.not_false, Bool.false_eq_true, Bool.true_eq_false, true_and, and_true, and_self, ne_eq, not_false_eq_true, not_true_eq_false, false_imp_iff, true_imp_iff, imp_self, List.not_mem_nil, implies_true, List.mem_cons, forall_eq_or_imp, forall_eq, or_false, decide_eq_true_eq, decide_eq_false_iff_not, decide_true, decide_false, Bool.not_eq_true', Bool.not_eq_false', Bool.not_eq_eq_eq_not, wrap_i64, tdivn, tmodn, hfst, hcm, bv_len]
      exact fin_c (l := [.bool true]) rfl rfl (.inl rfl)

end Go.Proofs.Ytickdhdlljhomaa.Ev
