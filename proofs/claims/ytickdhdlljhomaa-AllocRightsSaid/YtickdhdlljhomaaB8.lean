/-
  The statement BitsSets: what its function answers.
-/
import Derived.Test.YtickdhdlljhomaaB7
set_option linter.unusedSimpArgs false
set_option maxRecDepth 10000
namespace Go.Proofs.Ytickdhdlljhomaa.Ev
open Go

theorem app_copy {H : Hp} {sz bt : Nat} {st : St} {ys : List V} {K : KI} (hl : ys.length * bt ≤ 140737488355328)
    (k : ∀ v fp ds k, Buf ⟨H.n + k, appd ds H.m⟩ sz v ys → K v fp ds k) : fin (appO H sz bt (.fsl .full sz []) (.fsl st sz ys)) K := by
  cases ys with
  | nil => exact ⟨⟨rfl, rfl⟩, k _ _ _ _ (.inl ⟨.full, by decide, rfl, rfl⟩)⟩
  | cons y ys => exact app_buf (l := []) (Buf.start (st := .full) (by decide)) rfl (by simp) (by simpa using hl) fun v fp ds h _ => k _ _ _ _ h

theorem take_min (l : List Bool) (k : Nat) : List.drop 0 (List.take (min (l.length : Int) k).toNat (bv l)) = bv (l.take k) := by
  rw [List.drop_zero, bv_take]
  congr 1
  by_cases h : l.length ≤ k
  · rw [List.take_of_length_le (by omega), List.take_of_length_le (by omega)]
  · rw [show (min (l.length : Int) k).toNat = k by omega]
theorem take_minI (l : List Int) (k : Nat) : List.drop 0 (List.take (min (l.length : Int) k).toNat (iv l)) = iv (l.take k) := by
  rw [List.drop_zero, show ∀ n, (iv l).take n = iv (l.take n) by simp [iv]]
  congr 1
  by_cases h : l.length ≤ k
  · rw [List.take_of_length_le (by omega), List.take_of_length_le (by omega)]
  · rw [show (min (l.length : Int) k).toNat = k by omega]

theorem law5 (s0 st : St) (l : List Bool) (is : Bool) (ps : List Int) : PCall Try.prog 5 [.fsl s0 1 (bv l), .bool is, .fsl st 1 (iv ps)] (.bool true) := by
  refine en5 (by simp) (by simp [closedL, V.closed, bv_closed, iv_closed]) ?_
  simp (maxSteps := 1000000) (disch := omega) only [xr, vr, opX, opI, look, nth, setN, find_n, find_c, pkF_t, pkF_f, Nat.reduceBEq, outO, binO, intO, strO, argsE, appd, cpyO, slcO, slsO, bndO, lo1, mnxO, bldO, bldV, andO_s, consL_s, consO_s, splice, rd, fpS, lk, isNil, AEx.exit.injEq, V.bool.injEq, List.map_nil, List.map_cons, List.nil_append, List.cons_append, List.append_nil, List.getElem?_cons_zero, List.getElem?_cons_succ, List.set_cons_zero, List.set_cons_succ, List.length_map, List.length_nil, List.length_cons, Nat.reduceEqDiff, Nat.reduceAdd, Nat.add_zero, Nat.zero_add, Int.reduceEq, Int.reduceLT, Int.reduceLE, Int.toNat_natCast, Int.natCast_nonneg, Int.reduceToNat, if_true, if_false, reduceIte, reduceCtorEq, Bool.not_true, Bool.not_false, Bool.false_eq_true, Bool.true_eq_false, true_and, and_true, and_self, ne_eq, not_false_eq_true, not_true_eq_false, false_imp_iff, true_imp_iff, imp_self, List.not_mem_nil, implies_true, List.mem_cons, forall_eq_or_imp, forall_eq, or_false, decide_eq_true_eq, decide_eq_false_iff_not, decide_true, decide_false, Bool.not_eq_true', Bool.not_eq_false', Bool.not_eq_eq_eq_not, wrap_i64, tdivn, tmodn, c5, bv_len, iv_len]
  have e1 : List.drop 0 (List.take (min (l.length : Int) 300).toNat (bv l)) = bv (l.take 300) := take_min l 300
  have e2 : List.drop 0 (List.take (min (ps.length : Int) 20).toNat (iv ps)) = iv (ps.take 20) := take_minI ps 20
  rw [e1, e2]
  refine ⟨by omega, by omega, ?_⟩
  have hm : (l.take 300).length ≤ 300 := by simp; omega
  have hq : (ps.take 20).length ≤ 20 := by simp; omega
  generalize l.take 300 = m at hm
  generalize ps.take 20 = qs at hq
  generalize slSt s0 l.length (min (l.length : Int) 300).toNat none = s1
  generalize slSt st ps.length (min (ps.length : Int) 20).toNat none = s2
  refine app_copy (by rw [bv_len]; omega) fun v fp ds k hb => ?_
  simp (maxSteps := 1000000) (disch := omega) only [xr, vr, opX, opI, look, nth, setN, find_n, find_c, pkF_t, pkF_f, Nat.reduceBEq, outO, binO, intO, strO, argsE, appd, cpyO, slcO, slsO, bndO, lo1, mnxO, bldO, bldV, andO_s, consL_s, consO_s, splice, rd, fpS, lk, isNil, AEx.exit.injEq, V.bool.injEq, List.map_nil, List.map_cons, List.nil_append, List.cons_append, List.append_nil, List.getElem?_cons_zero, List.getElem?_cons_succ, List.set_cons_zero, List.set_cons_succ, List.length_map, List.length_nil, List.length_cons, Nat.reduceEqDiff, Nat.reduceAdd, Nat.add_zero, Nat.zero_add, Int.reduceEq, Int.reduceLT, Int.reduceLE, Int.toNat_natCast, Int.natCast_nonneg, Int.reduceToNat, if_true, if_false, reduceIte, reduceCtorEq, Bool.not_true, Bool.not_false, Bool.false_eq_true, Bool.true_eq_false, true_and, and_true, and_self, ne_eq, not_false_eq_true, not_true_eq_false, false_imp_iff, true_imp_iff, imp_self, List.not_mem_nil, implies_true, List.mem_cons, forall_eq_or_imp, forall_eq, or_false, decide_eq_true_eq, decide_eq_false_iff_not, decide_true, decide_false, Bool.not_eq_true', Bool.not_eq_false', Bool.not_eq_eq_eq_not, wrap_i64, tdivn, tmodn]
  obtain ⟨fz, s3, hz⟩ := hb.frz (bv_closed m)
  refine x_frz fz ?_
  simp (maxSteps := 1000000) (disch := omega) only [xr, vr, opX, opI, look, nth, setN, find_n, find_c, pkF_t, pkF_f, Nat.reduceBEq, outO, binO, intO, strO, argsE, appd, cpyO, slcO, slsO, bndO, lo1, mnxO, bldO, bldV, andO_s, consL_s, consO_s, splice, rd, fpS, lk, isNil, AEx.exit.injEq, V.bool.injEq, List.map_nil, List.map_cons, List.nil_append, List.cons_append, List.append_nil, List.getElem?_cons_zero, List.getElem?_cons_succ, List.set_cons_zero, List.set_cons_succ, List.length_map, List.length_nil, List.length_cons, Nat.reduceEqDiff, Nat.reduceAdd, Nat.add_zero, Nat.zero_add, Int.reduceEq, Int.reduceLT, Int.reduceLE, Int.toNat_natCast, Int.natCast_nonneg, Int.reduceToNat, if_true, if_false, reduceIte, reduceCtorEq, Bool.not_true, Bool.not_false, Bool.false_eq_true, Bool.true_eq_false, true_and, and_true, and_self, ne_eq, not_false_eq_true, not_true_eq_false, false_imp_iff, true_imp_iff, imp_self, List.not_mem_nil, implies_true, List.mem_cons, forall_eq_or_imp, forall_eq, or_false, decide_eq_true_eq, decide_eq_false_iff_not, decide_true, decide_false, Bool.not_eq_true', Bool.not_eq_false', Bool.not_eq_eq_eq_not, wrap_i64, tdivn, tmodn, hz, frz_f (bv_closed m), frz_f (iv_closed qs)]
  refine ⟨_, with21 s3 s2 m is qs (by omega) (by omega), ?_⟩
  simp (maxSteps := 1000000) (disch := omega) only [xr, vr, opX, opI, look, nth, setN, find_n, find_c, pkF_t, pkF_f, Nat.reduceBEq, outO, binO, intO, strO, argsE, appd, cpyO, slcO, slsO, bndO, lo1, mnxO, bldO, bldV, andO_s, consL_s, consO_s, splice, rd, fpS, lk, isNil, AEx.exit.injEq, V.bool.injEq, List.map_nil, List.map_cons, List.nil_append, List.cons_append, List.append_nil, List.getElem?_cons_zero, List.getElem?_cons_succ, List.set_cons_zero, List.set_cons_succ, List.length_map, List.length_nil, List.length_cons, Nat.reduceEqDiff, Nat.reduceAdd, Nat.add_zero, Nat.zero_add, Int.reduceEq, Int.reduceLT, Int.reduceLE, Int.toNat_natCast, Int.natCast_nonneg, Int.reduceToNat, if_true, if_false, reduceIte, reduceCtorEq, Bool.not_true, Bool.not_false, Bool.false_eq_true, Bool.true_eq_false, true_and, and_true, and_self, ne_eq, not_false_eq_true, not_true_eq_false, false_imp_iff, true_imp_iff, imp_self, List.not_mem_nil, implies_true, List.mem_cons, forall_eq_or_imp, forall_eq, or_false, decide_eq_true_eq, decide_eq_false_iff_not, decide_true, decide_false, Bool.not_eq_true', Bool.not_eq_false', Bool.not_eq_eq_eq_not, wrap_i64, tdivn, tmodn, wiV]
  refine ⟨_, with22 s1 s2 m is qs (by omega) (by omega), ?_⟩
  simp (maxSteps := 1000000) (disch := omega) only [xr, vr, opX, opI, look, nth, setN, find_n, find_c, pkF_t, pkF_f, Nat.reduceBEq, outO, binO, intO, strO, argsE, appd, cpyO, slcO, slsO, bndO, lo1, mnxO, bldO, bldV, andO_s, consL_s, consO_s, splice, rd, fpS, lk, isNil, AEx.exit.injEq, V.bool.injEq, List.map_nil, List.map_cons, List.nil_append, List.cons_append, List.append_nil, List.getElem?_cons_zero, List.getElem?_cons_succ, List.set_cons_zero, List.set_cons_succ, List.length_map, List.length_nil, List.length_cons, Nat.reduceEqDiff, Nat.reduceAdd, Nat.add_zero, Nat.zero_add, Int.reduceEq, Int.reduceLT, Int.reduceLE, Int.toNat_natCast, Int.natCast_nonneg, Int.reduceToNat, if_true, if_false, reduceIte, reduceCtorEq, Bool.not_true, Bool.not_false, Bool.false_eq_true, Bool.true_eq_false, true_and, and_true, and_self, ne_eq, not_false_eq_true, not_true_eq_false, false_imp_iff, true_imp_iff, imp_self, List.not_mem_nil, implies_true, List.mem_cons, forall_eq_or_imp, forall_eq, or_false, decide_eq_true_eq, decide_eq_false_iff_not, decide_true, decide_false, Bool.not_eq_true', Bool.not_eq_false', Bool.not_eq_eq_eq_not, wrap_i64, tdivn, tmodn, wiV]
  refine ⟨_, alive17, ?_⟩
  simp (maxSteps := 1000000) (disch := omega) only [xr, vr, opX, opI, look, nth, setN, find_n, find_c, pkF_t, pkF_f, Nat.reduceBEq, outO, binO, intO, strO, argsE, appd, cpyO, slcO, slsO, bndO, lo1, mnxO, bldO, bldV, andO_s, consL_s, consO_s, splice, rd, fpS, lk, isNil, AEx.exit.injEq, V.bool.injEq, List.map_nil, List.map_cons, List.nil_append, List.cons_append, List.append_nil, List.getElem?_cons_zero, List.getElem?_cons_succ, List.set_cons_zero, List.set_cons_succ, List.length_map, List.length_nil, List.length_cons, Nat.reduceEqDiff, Nat.reduceAdd, Nat.add_zero, Nat.zero_add, Int.reduceEq, Int.reduceLT, Int.reduceLE, Int.toNat_natCast, Int.natCast_nonneg, Int.reduceToNat, if_true, if_false, reduceIte, reduceCtorEq, Bool.not_true, Bool.not_false, Bool.false_eq_true, Bool.true_eq_false, true_and, and_true, and_self, ne_eq, not_false_eq_true, not_true_eq_false, false_imp_iff, true_imp_iff, imp_self, List.not_mem_nil, implies_true, List.mem_cons, forall_eq_or_imp, forall_eq, or_false, decide_eq_true_eq, decide_eq_false_iff_not, decide_true, decide_false, Bool.not_eq_true', Bool.not_eq_false', Bool.not_eq_eq_eq_not, wrap_i64, tdivn, tmodn]
  have hw : (WI m is qs).1.length ≤ 300 := by
    unfold WI; split
    · simp only [setP_len]; exact hm
    · simp
  refine ⟨_, same20 .loose .loose (WI m is qs).1 (WI m is qs).1 (by omega), ?_⟩
  simp (maxSteps := 1000000) (disch := omega) only [xr, vr, opX, opI, look, nth, setN, find_n, find_c, pkF_t, pkF_f, Nat.reduceBEq, outO, binO, intO, strO, argsE, appd, cpyO, slcO, slsO, bndO, lo1, mnxO, bldO, bldV, andO_s, consL_s, consO_s, splice, rd, fpS, lk, isNil, AEx.exit.injEq, V.bool.injEq, List.map_nil, List.map_cons, List.nil_append, List.cons_append, List.append_nil, List.getElem?_cons_zero, List.getElem?_cons_succ, List.set_cons_zero, List.set_cons_succ, List.length_map, List.length_nil, List.length_cons, Nat.reduceEqDiff, Nat.reduceAdd, Nat.add_zero, Nat.zero_add, Int.reduceEq, Int.reduceLT, Int.reduceLE, Int.toNat_natCast, Int.natCast_nonneg, Int.reduceToNat, if_true, if_false, reduceIte, reduceCtorEq, Bool.not_true, Bool.not_false, Bool.false_eq_true, Bool.true_eq_false, true_and, and_true, and_self, ne_eq, not_false_eq_true, not_true_eq_false, false_imp_iff, true_imp_iff, imp_self, List.not_mem_nil, implies_true, List.mem_cons, forall_eq_or_imp, forall_eq, or_false, decide_eq_true_eq, decide_eq_false_iff_not, decide_true, decide_false, Bool.not_eq_true', Bool.not_eq_false', Bool.not_eq_eq_eq_not, wrap_i64, tdivn, tmodn]
  refine ⟨_, same20 s3 s1 m m (by omega), ?_⟩
  simp (maxSteps := 1000000) (disch := omega) only [xr, vr, opX, opI, look, nth, setN, find_n, find_c, pkF_t, pkF_f, Nat.reduceBEq, outO, binO, intO, strO, argsE, appd, cpyO, slcO, slsO, bndO, lo1, mnxO, bldO, bldV, andO_s, consL_s, consO_s, splice, rd, fpS, lk, isNil, AEx.exit.injEq, V.bool.injEq, List.map_nil, List.map_cons, List.nil_append, List.cons_append, List.append_nil, List.getElem?_cons_zero, List.getElem?_cons_succ, List.set_cons_zero, List.set_cons_succ, List.length_map, List.length_nil, List.length_cons, Nat.reduceEqDiff, Nat.reduceAdd, Nat.add_zero, Nat.zero_add, Int.reduceEq, Int.reduceLT, Int.reduceLE, Int.toNat_natCast, Int.natCast_nonneg, Int.reduceToNat, if_true, if_false, reduceIte, reduceCtorEq, Bool.not_true, Bool.not_false, Bool.false_eq_true, Bool.true_eq_false, true_and, and_true, and_self, ne_eq, not_false_eq_true, not_true_eq_false, false_imp_iff, true_imp_iff, imp_self, List.not_mem_nil, implies_true, List.mem_cons, forall_eq_or_imp, forall_eq, or_false, decide_eq_true_eq, decide_eq_false_iff_not, decide_true, decide_false, Bool.not_eq_true', Bool.not_eq_false', Bool.not_eq_eq_eq_not, wrap_i64, tdivn, tmodn]
  exact fin_c (l := [.bool true]) rfl rfl (.inl rfl)

end Go.Proofs.Ytickdhdlljhomaa.Ev
