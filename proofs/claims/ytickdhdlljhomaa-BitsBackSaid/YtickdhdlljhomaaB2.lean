/-
  Packing by the document.
-/
import Derived.Test.YtickdhdlljhomaaB1
set_option linter.unusedSimpArgs false
set_option maxRecDepth 10000
namespace Go.Proofs.Ytickdhdlljhomaa.Ev
open Go

theorem at42 (st : St) (l : List Bool) (i : Nat) : PCall Try.prog 42 [.fsl st 1 (bv l), .int .i64 i] (.bool (l.getD i false)) := by
  refine en42 (by simp) (by simp [closedL, V.closed, bv_closed]) ?_
  simp (disch := omega) only [xr, vr, opX, opI, look, nth, setN, find, outO, binO, intO, strO, argsE, appd, cpyO, slcO, slsO, bndO, lo1, mnxO, bldO, splice, rd, fpS, lk, isNil, AEx.exit.injEq, V.bool.injEq, List.map_nil, List.map_cons, List.nil_append, List.cons_append, List.append_nil, List.getElem?_cons_zero, List.getElem?_cons_succ, List.length_map, List.length_nil, List.length_cons, Nat.reduceEqDiff, Nat.reduceAdd, Nat.add_zero, Nat.zero_add, Int.reduceEq, Int.reduceLT, Int.reduceLE, Int.toNat_natCast, Int.natCast_nonneg, Int.reduceToNat, if_true, if_false, reduceIte, reduceCtorEq, Bool.not_true, Bool.not_false, Bool.false_eq_true, Bool.true_eq_false, true_and, and_true, and_self, ne_eq, not_false_eq_true, not_true_eq_false, false_imp_iff, true_imp_iff, imp_self, List.not_mem_nil, implies_true, List.mem_cons, forall_eq_or_imp, forall_eq, or_false, decide_eq_true_eq, decide_eq_false_iff_not, decide_true, decide_false, Bool.not_eq_true', Bool.not_eq_false', Bool.not_eq_eq_eq_not, wrap_i64, tdivn, tmodn, c42, bv_len]
  refine ⟨fun h => ?_, fun h => ?_⟩
  · have h' : i < l.length := by omega
    simp (disch := omega) only [xr, vr, opX, opI, look, nth, setN, find, outO, binO, intO, strO, argsE, appd, cpyO, slcO, slsO, bndO, lo1, mnxO, bldO, splice, rd, fpS, lk, isNil, AEx.exit.injEq, V.bool.injEq, List.map_nil, List.map_cons, List.nil_append, List.cons_append, List.append_nil, List.getElem?_cons_zero, List.getElem?_cons_succ, List.length_map, List.length_nil, List.length_cons, Nat.reduceEqDiff, Nat.reduceAdd, Nat.add_zero, Nat.zero_add, Int.reduceEq, Int.reduceLT, Int.reduceLE, Int.toNat_natCast, Int.natCast_nonneg, Int.reduceToNat, if_true, if_false, reduceIte, reduceCtorEq, Bool.not_true, Bool.not_false, Bool.false_eq_true, Bool.true_eq_false, true_and, and_true, and_self, ne_eq, not_false_eq_true, not_true_eq_false, false_imp_iff, true_imp_iff, imp_self, List.not_mem_nil, implies_true, List.mem_cons, forall_eq_or_imp, forall_eq, or_false, decide_eq_true_eq, decide_eq_false_iff_not, decide_true, decide_false, Bool.not_eq_true', Bool.not_eq_false', Bool.not_eq_eq_eq_not, wrap_i64, tdivn, tmodn, bv_get]
    exact fin_c (l := [.bool (l.getD i false)]) (by simp [resE, r42, find, List.getD_eq_getElem?_getD, h']) rfl (.inl rfl)
  · have h' : l.length ≤ i := by omega
    exact fin_c (l := [.bool (l.getD i false)]) (by simp [resE, r42, find, List.getD_eq_getElem?_getD, h']) rfl (.inl rfl)

theorem shr_step (x k : Nat) : x >>> k = 2 * (x >>> (k + 1)) + (x.testBit k).toNat := by
  rw [Nat.shiftRight_succ, Nat.testBit_eq_decide_div_mod_eq, Nat.shiftRight_eq_div_pow]
  generalize x / 2 ^ k = y
  by_cases h : y % 2 = 1 <;> simp [h] <;> omega

theorem wrap_u8 {n : Nat} (h : n < 256) : IntKind.wrap .u8 (n : Int) = n := by
  simp only [IntKind.wrap, IntKind.bits, IntKind.signed]
  simp
  omega

theorem u8_map {f : Nat → Nat} (hf : ∀ j, f j < 256) (n : Nat) : ((List.range n).map fun j => UInt8.ofNat (f j)).map (fun b => V.int .u8 b.toNat) = (List.range n).map fun j => V.int .u8 (f j) := by
  rw [List.map_map]
  refine List.map_congr_left fun j _ => ?_
  simp only [Function.comp, V.int.injEq, true_and]
  rw [UInt8.toNat_ofNat_of_lt' (by simpa [UInt8.size] using hf j)]

theorem pack19 (st : St) (l : List Bool) (hl : l.length ≤ 1000000) : PCall Try.prog 19 [.fsl st 1 (bv l)] (.str (pk l)) := by
  refine en19 (by simp) (by simp [closedL, V.closed, bv_closed]) ?_
  simp (disch := omega) only [xr, vr, opX, opI, look, nth, setN, find, outO, binO, intO, strO, argsE, appd, cpyO, slcO, slsO, bndO, lo1, mnxO, bldO, splice, rd, fpS, lk, isNil, AEx.exit.injEq, V.bool.injEq, List.map_nil, List.map_cons, List.nil_append, List.cons_append, List.append_nil, List.getElem?_cons_zero, List.getElem?_cons_succ, List.length_map, List.length_nil, List.length_cons, Nat.reduceEqDiff, Nat.reduceAdd, Nat.add_zero, Nat.zero_add, Int.reduceEq, Int.reduceLT, Int.reduceLE, Int.toNat_natCast, Int.natCast_nonneg, Int.reduceToNat, if_true, if_false, reduceIte, reduceCtorEq, Bool.not_true, Bool.not_false, Bool.false_eq_true, Bool.true_eq_false, true_and, and_true, and_self, ne_eq, not_false_eq_true, not_true_eq_false, false_imp_iff, true_imp_iff, imp_self, List.not_mem_nil, implies_true, List.mem_cons, forall_eq_or_imp, forall_eq, or_false, decide_eq_true_eq, decide_eq_false_iff_not, decide_true, decide_false, Bool.not_eq_true', Bool.not_eq_false', Bool.not_eq_eq_eq_not, wrap_i64, tdivn, tmodn, c19, bv_len]
  refine x_loop (fun σ H => ∃ i v, 8 * i < l.length + 8 ∧ σ = [(0, .fsl st 1 (bv l)), (3, v), (4, .int .i64 (8 * i : Nat))] ∧ Buf H 1 v ((List.range i).map fun j => .int .u8 (byteAt l j)))
    (fun σ _ => match find 4 σ with | some (.int _ n) => (l.length + 8 - n).toNat | _ => 0) ⟨0, _, by omega, rfl, Buf.start (st := .full) (by decide)⟩ ?_
  rintro σ ⟨n, m⟩ ⟨i, v, hi, rfl, hb⟩
  simp (disch := omega) only [xr, vr, opX, opI, look, nth, setN, find, outO, binO, intO, strO, argsE, appd, cpyO, slcO, slsO, bndO, lo1, mnxO, bldO, splice, rd, fpS, lk, isNil, AEx.exit.injEq, V.bool.injEq, List.map_nil, List.map_cons, List.nil_append, List.cons_append, List.append_nil, List.getElem?_cons_zero, List.getElem?_cons_succ, List.length_map, List.length_nil, List.length_cons, Nat.reduceEqDiff, Nat.reduceAdd, Nat.add_zero, Nat.zero_add, Int.reduceEq, Int.reduceLT, Int.reduceLE, Int.toNat_natCast, Int.natCast_nonneg, Int.reduceToNat, if_true, if_false, reduceIte, reduceCtorEq, Bool.not_true, Bool.not_false, Bool.false_eq_true, Bool.true_eq_false, true_and, and_true, and_self, ne_eq, not_false_eq_true, not_true_eq_false, false_imp_iff, true_imp_iff, imp_self, List.not_mem_nil, implies_true, List.mem_cons, forall_eq_or_imp, forall_eq, or_false, decide_eq_true_eq, decide_eq_false_iff_not, decide_true, decide_false, Bool.not_eq_true', Bool.not_eq_false', Bool.not_eq_eq_eq_not, wrap_i64, tdivn, tmodn, bv_len]
  refine ⟨fun h => ?_, fun h => ?_⟩
  · refine x_loop (fun σ H => H = ⟨n, m⟩ ∧ ∃ c : Nat, c ≤ 8 ∧ σ = [(0, .fsl st 1 (bv l)), (3, v), (4, .int .i64 (8 * i : Nat)), (5, .int .i64 ((byteAt l i) >>> c : Nat)), (6, .int .i64 (c - 1))])
      (fun σ _ => match find 6 σ with | some (.int _ n) => (n + 1).toNat | _ => 0) ⟨rfl, 8, by omega, ?_⟩ ?_
    · have : byteAt l i >>> 8 = 0 := by rw [Nat.shiftRight_eq_div_pow]; exact Nat.div_eq_of_lt (byteAt_lt l i)
      rw [this]; rfl
    · rintro σ H ⟨rfl, c, hc, rfl⟩
      have hs : byteAt l i >>> c < 256 := Nat.lt_of_le_of_lt (Nat.shiftRight_le _ _) (byteAt_lt l i)
      simp (disch := omega) only [xr, vr, opX, opI, look, nth, setN, find, outO, binO, intO, strO, argsE, appd, cpyO, slcO, slsO, bndO, lo1, mnxO, bldO, splice, rd, fpS, lk, isNil, AEx.exit.injEq, V.bool.injEq, List.map_nil, List.map_cons, List.nil_append, List.cons_append, List.append_nil, List.getElem?_cons_zero, List.getElem?_cons_succ, List.length_map, List.length_nil, List.length_cons, Nat.reduceEqDiff, Nat.reduceAdd, Nat.add_zero, Nat.zero_add, Int.reduceEq, Int.reduceLT, Int.reduceLE, Int.toNat_natCast, Int.natCast_nonneg, Int.reduceToNat, if_true, if_false, reduceIte, reduceCtorEq, Bool.not_true, Bool.not_false, Bool.false_eq_true, Bool.true_eq_false, true_and, and_true, and_self, ne_eq, not_false_eq_true, not_true_eq_false, false_imp_iff, true_imp_iff, imp_self, List.not_mem_nil, implies_true, List.mem_cons, forall_eq_or_imp, forall_eq, or_false, decide_eq_true_eq, decide_eq_false_iff_not, decide_true, decide_false, Bool.not_eq_true', Bool.not_eq_false', Bool.not_eq_eq_eq_not, wrap_i64, tdivn, tmodn]
      refine ⟨fun h => ?_, fun h => ?_⟩
      · obtain ⟨k, rfl⟩ : ∃ k, c = k + 1 := ⟨c - 1, by omega⟩
        have hk : (((8 * i : Nat) : Int) + (((k + 1 : Nat) : Int) - 1)) = ((8 * i + k : Nat) : Int) := by omega
        have e := shr_step (byteAt l i) k
        rw [byteAt_bit] at e
        have hk8 : k < 8 := by omega
        simp only [hk8, decide_true, Bool.true_and] at e
        generalize byteAt l i >>> (k + 1) = b at hs e
        simp (disch := omega) only [xr, vr, opX, opI, look, nth, setN, find, outO, binO, intO, strO, argsE, appd, cpyO, slcO, slsO, bndO, lo1, mnxO, bldO, splice, rd, fpS, lk, isNil, AEx.exit.injEq, V.bool.injEq, List.map_nil, List.map_cons, List.nil_append, List.cons_append, List.append_nil, List.getElem?_cons_zero, List.getElem?_cons_succ, List.length_map, List.length_nil, List.length_cons, Nat.reduceEqDiff, Nat.reduceAdd, Nat.add_zero, Nat.zero_add, Int.reduceEq, Int.reduceLT, Int.reduceLE, Int.toNat_natCast, Int.natCast_nonneg, Int.reduceToNat, if_true, if_false, reduceIte, reduceCtorEq, Bool.not_true, Bool.not_false, Bool.false_eq_true, Bool.true_eq_false, true_and, and_true, and_self, ne_eq, not_false_eq_true, not_true_eq_false, false_imp_iff, true_imp_iff, imp_self, List.not_mem_nil, implies_true, List.mem_cons, forall_eq_or_imp, forall_eq, or_false, decide_eq_true_eq, decide_eq_false_iff_not, decide_true, decide_false, Bool.not_eq_true', Bool.not_eq_false', Bool.not_eq_eq_eq_not, wrap_i64, tdivn, tmodn, hk]
        refine ⟨_, at42 st l (8 * i + k), ?_⟩
        simp (disch := omega) only [xr, vr, opX, opI, look, nth, setN, find, outO, binO, intO, strO, argsE, appd, cpyO, slcO, slsO, bndO, lo1, mnxO, bldO, splice, rd, fpS, lk, isNil, AEx.exit.injEq, V.bool.injEq, List.map_nil, List.map_cons, List.nil_append, List.cons_append, List.append_nil, List.getElem?_cons_zero, List.getElem?_cons_succ, List.length_map, List.length_nil, List.length_cons, Nat.reduceEqDiff, Nat.reduceAdd, Nat.add_zero, Nat.zero_add, Int.reduceEq, Int.reduceLT, Int.reduceLE, Int.toNat_natCast, Int.natCast_nonneg, Int.reduceToNat, if_true, if_false, reduceIte, reduceCtorEq, Bool.not_true, Bool.not_false, Bool.false_eq_true, Bool.true_eq_false, true_and, and_true, and_self, ne_eq, not_false_eq_true, not_true_eq_false, false_imp_iff, true_imp_iff, imp_self, List.not_mem_nil, implies_true, List.mem_cons, forall_eq_or_imp, forall_eq, or_false, decide_eq_true_eq, decide_eq_false_iff_not, decide_true, decide_false, Bool.not_eq_true', Bool.not_eq_false', Bool.not_eq_eq_eq_not, wrap_i64, tdivn, tmodn, c_b]
        have e6 : (((k + 1 : Nat) : Int) - 1 - 1) = ((k : Nat) : Int) - 1 := by omega
        refine ⟨fun ht => ⟨⟨k, by omega, ?_⟩, by omega⟩, fun ht => ⟨⟨k, by omega, ?_⟩, by omega⟩⟩
        · rw [e6, e, ht]; simp; omega
        · rw [e6, e, ht]; simp; omega
      · have hc0 : c = 0 := by omega
        subst hc0
        simp only [Nat.shiftRight_zero] at hs ⊢
        refine x_frz0 ?_
        simp (disch := omega) only [xr, vr, opX, opI, look, nth, setN, find, outO, binO, intO, strO, argsE, appd, cpyO, slcO, slsO, bndO, lo1, mnxO, bldO, splice, rd, fpS, lk, isNil, AEx.exit.injEq, V.bool.injEq, List.map_nil, List.map_cons, List.nil_append, List.cons_append, List.append_nil, List.getElem?_cons_zero, List.getElem?_cons_succ, List.length_map, List.length_nil, List.length_cons, Nat.reduceEqDiff, Nat.reduceAdd, Nat.add_zero, Nat.zero_add, Int.reduceEq, Int.reduceLT, Int.reduceLE, Int.toNat_natCast, Int.natCast_nonneg, Int.reduceToNat, if_true, if_false, reduceIte, reduceCtorEq, Bool.not_true, Bool.not_false, Bool.false_eq_true, Bool.true_eq_false, true_and, and_true, and_self, ne_eq, not_false_eq_true, not_true_eq_false, false_imp_iff, true_imp_iff, imp_self, List.not_mem_nil, implies_true, List.mem_cons, forall_eq_or_imp, forall_eq, or_false, decide_eq_true_eq, decide_eq_false_iff_not, decide_true, decide_false, Bool.not_eq_true', Bool.not_eq_false', Bool.not_eq_eq_eq_not, wrap_i64, tdivn, tmodn, wrap_u8 hs]
        refine app_buf hb (ys := [.int .u8 (byteAt l i)]) rfl (by simp) (by simp; omega) fun v' fp ds hb' _ => ?_
        simp (disch := omega) only [xr, vr, opX, opI, look, nth, setN, find, outO, binO, intO, strO, argsE, appd, cpyO, slcO, slsO, bndO, lo1, mnxO, bldO, splice, rd, fpS, lk, isNil, AEx.exit.injEq, V.bool.injEq, List.map_nil, List.map_cons, List.nil_append, List.cons_append, List.append_nil, List.getElem?_cons_zero, List.getElem?_cons_succ, List.length_map, List.length_nil, List.length_cons, Nat.reduceEqDiff, Nat.reduceAdd, Nat.add_zero, Nat.zero_add, Int.reduceEq, Int.reduceLT, Int.reduceLE, Int.toNat_natCast, Int.natCast_nonneg, Int.reduceToNat, if_true, if_false, reduceIte, reduceCtorEq, Bool.not_true, Bool.not_false, Bool.false_eq_true, Bool.true_eq_false, true_and, and_true, and_self, ne_eq, not_false_eq_true, not_true_eq_false, false_imp_iff, true_imp_iff, imp_self, List.not_mem_nil, implies_true, List.mem_cons, forall_eq_or_imp, forall_eq, or_false, decide_eq_true_eq, decide_eq_false_iff_not, decide_true, decide_false, Bool.not_eq_true', Bool.not_eq_false', Bool.not_eq_eq_eq_not, wrap_i64, tdivn, tmodn]
        refine x_frz0 ?_
        simp (disch := omega) only [xr, vr, opX, opI, look, nth, setN, find, outO, binO, intO, strO, argsE, appd, cpyO, slcO, slsO, bndO, lo1, mnxO, bldO, splice, rd, fpS, lk, isNil, AEx.exit.injEq, V.bool.injEq, List.map_nil, List.map_cons, List.nil_append, List.cons_append, List.append_nil, List.getElem?_cons_zero, List.getElem?_cons_succ, List.length_map, List.length_nil, List.length_cons, Nat.reduceEqDiff, Nat.reduceAdd, Nat.add_zero, Nat.zero_add, Int.reduceEq, Int.reduceLT, Int.reduceLE, Int.toNat_natCast, Int.natCast_nonneg, Int.reduceToNat, if_true, if_false, reduceIte, reduceCtorEq, Bool.not_true, Bool.not_false, Bool.false_eq_true, Bool.true_eq_false, true_and, and_true, and_self, ne_eq, not_false_eq_true, not_true_eq_false, false_imp_iff, true_imp_iff, imp_self, List.not_mem_nil, implies_true, List.mem_cons, forall_eq_or_imp, forall_eq, or_false, decide_eq_true_eq, decide_eq_false_iff_not, decide_true, decide_false, Bool.not_eq_true', Bool.not_eq_false', Bool.not_eq_eq_eq_not, wrap_i64, tdivn, tmodn]
        refine ⟨⟨i + 1, v', by omega, ?_, ?_⟩, by omega⟩
        · simp; omega
        · rw [List.range_succ, List.map_append]; exact hb'
  · obtain ⟨fz, st', hz⟩ := hb.frz (by rw [closedL_iff]; intro v hv; simp only [List.mem_map] at hv; obtain ⟨_, _, rfl⟩ := hv; rfl)
    refine x_frz fz ?_
    have hn : i = (l.length + 7) / 8 := by omega
    subst hn
    simp (disch := omega) only [xr, vr, opX, opI, look, nth, setN, find, outO, binO, intO, strO, argsE, appd, cpyO, slcO, slsO, bndO, lo1, mnxO, bldO, splice, rd, fpS, lk, isNil, AEx.exit.injEq, V.bool.injEq, List.map_nil, List.map_cons, List.nil_append, List.cons_append, List.append_nil, List.getElem?_cons_zero, List.getElem?_cons_succ, List.length_map, List.length_nil, List.length_cons, Nat.reduceEqDiff, Nat.reduceAdd, Nat.add_zero, Nat.zero_add, Int.reduceEq, Int.reduceLT, Int.reduceLE, Int.toNat_natCast, Int.natCast_nonneg, Int.reduceToNat, if_true, if_false, reduceIte, reduceCtorEq, Bool.not_true, Bool.not_false, Bool.false_eq_true, Bool.true_eq_false, true_and, and_true, and_self, ne_eq, not_false_eq_true, not_true_eq_false, false_imp_iff, true_imp_iff, imp_self, List.not_mem_nil, implies_true, List.mem_cons, forall_eq_or_imp, forall_eq, or_false, decide_eq_true_eq, decide_eq_false_iff_not, decide_true, decide_false, Bool.not_eq_true', Bool.not_eq_false', Bool.not_eq_eq_eq_not, wrap_i64, tdivn, tmodn, frz_f (bv_closed l), hz]
    refine ⟨pk l, by rw [pk, u8_map (byteAt_lt l)], ?_⟩
    simp (disch := omega) only [xr, vr, opX, opI, look, nth, setN, find, outO, binO, intO, strO, argsE, appd, cpyO, slcO, slsO, bndO, lo1, mnxO, bldO, splice, rd, fpS, lk, isNil, AEx.exit.injEq, V.bool.injEq, List.map_nil, List.map_cons, List.nil_append, List.cons_append, List.append_nil, List.getElem?_cons_zero, List.getElem?_cons_succ, List.length_map, List.length_nil, List.length_cons, Nat.reduceEqDiff, Nat.reduceAdd, Nat.add_zero, Nat.zero_add, Int.reduceEq, Int.reduceLT, Int.reduceLE, Int.toNat_natCast, Int.natCast_nonneg, Int.reduceToNat, if_true, if_false, reduceIte, reduceCtorEq, Bool.not_true, Bool.not_false, Bool.false_eq_true, Bool.true_eq_false, true_and, and_true, and_self, ne_eq, not_false_eq_true, not_true_eq_false, false_imp_iff, true_imp_iff, imp_self, List.not_mem_nil, implies_true, List.mem_cons, forall_eq_or_imp, forall_eq, or_false, decide_eq_true_eq, decide_eq_false_iff_not, decide_true, decide_false, Bool.not_eq_true', Bool.not_eq_false', Bool.not_eq_eq_eq_not, wrap_i64, tdivn, tmodn]
    exact fin_c (l := [.str (pk l)]) rfl rfl (.inl rfl)

end Go.Proofs.Ytickdhdlljhomaa.Ev
