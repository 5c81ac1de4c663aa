/-
  Places set: in the program and by the document.
-/
import Derived.Test.YtickdhdlljhomaaB5
import Derived.Test.YtickdhdlljhomaaBC2
import Derived.Test.YtickdhdlljhomaaBR
set_option linter.unusedSimpArgs false
set_option maxRecDepth 10000
namespace Go.Proofs.Ytickdhdlljhomaa.Ev
open Go

/-- The end of a function with a footprint. -/
theorem fin_a {rvs : List RV} {r : V} {σ : Sg} {H : Hp} {l : List V} {m0 : Hm} {n k : Nat} {ds : List (Nat × Option Ob)} (hl : resE σ H.m rvs = some l) (hr : pack l = r ∨ loosen (pack l) = r ∨ lo (pack l) = r) (hk : H.n ≤ n + k) (hm : ∀ id, appd ds m0 id = none ∨ appd ds m0 id = H.m id) : FinA rvs m0 n r ds k .ret σ H :=
  ⟨.inr rfl, ⟨l, hl, hr⟩, hk, hm⟩

theorem clone_nil (H : Hp) : ACall Try.prog 43 [.fsl .nil 1 []] H [] (.fsl .nil 1 []) [] 0 := by
  refine ena43 (by simp) (by simp [lowL, V.low]) (by simp) (by simp) ?_
  simp (maxSteps := 1000000) (disch := omega) only [xr, vr, opX, opI, look, nth, setN, find_n, find_c, pkF_t, pkF_f, Nat.reduceBEq, outO, binO, intO, strO, argsE, appd, cpyO, slcO, slsO, bndO, lo1, mnxO, bldO, bldV, andO_s, consL_s, consO_s, splice, rd, fpS, lk, isNil, AEx.exit.injEq, V.bool.injEq, List.map_nil, List.map_cons, List.nil_append, List.cons_append, List.append_nil, List.getElem?_cons_zero, List.getElem?_cons_succ, List.set_cons_zero, List.set_cons_succ, List.length_map, List.length_nil, List.length_cons, Nat.reduceEqDiff, Nat.reduceAdd, Nat.add_zero, Nat.zero_add, Int.reduceEq, Int.reduceLT, Int.reduceLE, Int.toNat_natCast, Int.natCast_nonneg, Int.reduceToNat, if_true, if_false, reduceIte, reduceCtorEq, Bool.not_true, Bool.not_false, Bool.false_eq_true, Bool.true_eq_false, true_and, and_true, and_self, ne_eq, not_false_eq_true, not_true_eq_false, false_imp_iff, true_imp_iff, imp_self, List.not_mem_nil, implies_true, List.mem_cons, forall_eq_or_imp, forall_eq, or_false, decide_eq_true_eq, decide_eq_false_iff_not, decide_true, decide_false, Bool.not_eq_true', Bool.not_eq_false', Bool.not_eq_eq_eq_not, wrap_i64, tdivn, tmodn, c43]
  exact fin_a (l := [.fsl .nil 1 []]) rfl (.inl rfl) (by simp) (by simp [appd, only])

theorem clone_nn0 (H : Hp) : ACall Try.prog 43 [.fsl .nn 1 []] H [] (.fsl .full 1 []) [] 0 := by
  refine ena43 (by simp) (by simp [lowL, V.low]) (by simp) (by simp) ?_
  simp (maxSteps := 1000000) (disch := omega) only [xr, vr, opX, opI, look, nth, setN, find_n, find_c, pkF_t, pkF_f, Nat.reduceBEq, outO, binO, intO, strO, argsE, appd, cpyO, slcO, slsO, bndO, lo1, mnxO, bldO, bldV, andO_s, consL_s, consO_s, splice, rd, fpS, lk, isNil, AEx.exit.injEq, V.bool.injEq, List.map_nil, List.map_cons, List.nil_append, List.cons_append, List.append_nil, List.getElem?_cons_zero, List.getElem?_cons_succ, List.set_cons_zero, List.set_cons_succ, List.length_map, List.length_nil, List.length_cons, Nat.reduceEqDiff, Nat.reduceAdd, Nat.add_zero, Nat.zero_add, Int.reduceEq, Int.reduceLT, Int.reduceLE, Int.toNat_natCast, Int.natCast_nonneg, Int.reduceToNat, if_true, if_false, reduceIte, reduceCtorEq, Bool.not_true, Bool.not_false, Bool.false_eq_true, Bool.true_eq_false, true_and, and_true, and_self, ne_eq, not_false_eq_true, not_true_eq_false, false_imp_iff, true_imp_iff, imp_self, List.not_mem_nil, implies_true, List.mem_cons, forall_eq_or_imp, forall_eq, or_false, decide_eq_true_eq, decide_eq_false_iff_not, decide_true, decide_false, Bool.not_eq_true', Bool.not_eq_false', Bool.not_eq_eq_eq_not, wrap_i64, tdivn, tmodn, c43, appO]
  exact fin_a (l := [.fsl .full 1 []]) rfl (.inl rfl) (by simp) (by simp [appd, only])

theorem clone_nn (H : Hp) (b : Bool) (l : List Bool) (hl : l.length ≤ 1000000) : ACall Try.prog 43 [.fsl .nn 1 (bv (b :: l))] H [] (.sl H.n 0 (l.length + 1)) [(H.n, some (.arr 1 (bv (b :: l))))] 1 := by
  refine ena43 (by simp) (by simp [lowL, V.low, lowL_closed _ (bv_closed _)]) (by simp) (by simp) ?_
  simp (maxSteps := 1000000) (disch := omega) only [xr, vr, opX, opI, look, nth, setN, find_n, find_c, pkF_t, pkF_f, Nat.reduceBEq, outO, binO, intO, strO, argsE, appd, cpyO, slcO, slsO, bndO, lo1, mnxO, bldO, bldV, andO_s, consL_s, consO_s, splice, rd, fpS, lk, isNil, AEx.exit.injEq, V.bool.injEq, List.map_nil, List.map_cons, List.nil_append, List.cons_append, List.append_nil, List.getElem?_cons_zero, List.getElem?_cons_succ, List.set_cons_zero, List.set_cons_succ, List.length_map, List.length_nil, List.length_cons, Nat.reduceEqDiff, Nat.reduceAdd, Nat.add_zero, Nat.zero_add, Int.reduceEq, Int.reduceLT, Int.reduceLE, Int.toNat_natCast, Int.natCast_nonneg, Int.reduceToNat, if_true, if_false, reduceIte, reduceCtorEq, Bool.not_true, Bool.not_false, Bool.false_eq_true, Bool.true_eq_false, true_and, and_true, and_self, ne_eq, not_false_eq_true, not_true_eq_false, false_imp_iff, true_imp_iff, imp_self, List.not_mem_nil, implies_true, List.mem_cons, forall_eq_or_imp, forall_eq, or_false, decide_eq_true_eq, decide_eq_false_iff_not, decide_true, decide_false, Bool.not_eq_true', Bool.not_eq_false', Bool.not_eq_eq_eq_not, wrap_i64, tdivn, tmodn, c43, appO, bv]
  exact ⟨by omega, fin_a (l := [.sl H.n 0 (l.length + 1)]) rfl (.inl rfl) (by simp) (fun id => .inr rfl)⟩

def okP (n : Nat) (ps : List Int) : Bool := ps.all fun p => decide (0 ≤ p) && decide (p < n)
def setP (l : List Bool) (is : Bool) (ps : List Int) : List Bool := ps.foldl (fun l p => l.set p.toNat is) l
def WI (l : List Bool) (is : Bool) (ps : List Int) : List Bool × Int := if okP l.length ps = true then (setP l is ps, 0) else ([], 1)
def wiV (l : List Bool) (is : Bool) (ps : List Int) : V := .tup [.fsl .loose 1 (bv (WI l is ps).1), .int .i64 (WI l is ps).2]

theorem iv_len (l : List Int) : (iv l).length = l.length := by simp [iv]
theorem iv_get {l : List Int} {i : Nat} (h : i < l.length) : (iv l)[i]? = some (.int .i64 l[i]) := by simp [iv, h]
theorem iv_closed (l : List Int) : closedL (iv l) = true := by
  rw [closedL_iff]; intro v hv
  simp only [iv, List.mem_map] at hv
  obtain ⟨b, _, rfl⟩ := hv; rfl
theorem okP_take {n i : Nat} {ps : List Int} (h : i < ps.length) : okP n (ps.take (i + 1)) = (okP n (ps.take i) && (decide (0 ≤ ps[i]) && decide (ps[i] < n))) := by
  rw [List.take_succ_eq_append_getElem h, okP, List.all_append]
  simp [okP]
theorem okP_false {n i : Nat} {ps : List Int} (h : i < ps.length) (hb : ¬ (0 ≤ ps[i] ∧ ps[i] < n)) : okP n ps = false := by
  simp only [okP, List.all_eq_false]
  exact ⟨ps[i], List.getElem_mem h, by simpa using hb⟩
theorem setP_take {l : List Bool} {is : Bool} {i : Nat} {ps : List Int} (h : i < ps.length) : setP l is (ps.take (i + 1)) = (setP l is (ps.take i)).set ps[i].toNat is := by
  rw [List.take_succ_eq_append_getElem h, setP, List.foldl_append]
  rfl
theorem setP_len {is : Bool} : ∀ {ps : List Int} {l : List Bool}, (setP l is ps).length = l.length
  | [], l => rfl
  | p :: ps, l => by
    have := setP_len (is := is) (ps := ps) (l := l.set p.toNat is)
    simp [setP] at this ⊢; exact this
theorem bv_set (l : List Bool) (i : Nat) (b : Bool) : (bv l).set i (.bool b) = bv (l.set i b) := by simp [bv, List.map_set]

theorem with_err {l : List Bool} {is : Bool} {ps : List Int} {σ : Sg} {H : Hp} (h1 : okP l.length ps = false) (h2 : resE σ H.m r21 = some [.fsl .nil 1 [], .int .i64 1]) : Fin r21 (wiV l is ps) .ret σ H :=
  fin_c (l := [.fsl .nil 1 [], .int .i64 1]) h2 rfl (.inr (.inl (by simp [wiV, WI, h1, loosen, pack, loose1, bv])))

theorem with_nn (st : St) (b : Bool) (l : List Bool) (is : Bool) (ps : List Int) (hl : l.length ≤ 100000) (hp : ps.length ≤ 1000) : PCall Try.prog 21 [.fsl .nn 1 (bv (b :: l)), .bool is, .fsl st 1 (iv ps)] (wiV (b :: l) is ps) := by
  have hc := clone_nn ⟨0, fun _ => none⟩ b l (by omega)
  have hlen : (b :: l).length = l.length + 1 := rfl
  generalize hL : (b :: l) = L at hc hlen ⊢
  refine en21 (by simp) (by simp [closedL, V.closed, bv_closed, iv_closed]) ?_
  simp (maxSteps := 1000000) (disch := omega) only [xr, vr, opX, opI, look, nth, setN, find_n, find_c, pkF_t, pkF_f, Nat.reduceBEq, outO, binO, intO, strO, argsE, appd, cpyO, slcO, slsO, bndO, lo1, mnxO, bldO, bldV, andO_s, consL_s, consO_s, splice, rd, fpS, lk, isNil, AEx.exit.injEq, V.bool.injEq, List.map_nil, List.map_cons, List.nil_append, List.cons_append, List.append_nil, List.getElem?_cons_zero, List.getElem?_cons_succ, List.set_cons_zero, List.set_cons_succ, List.length_map, List.length_nil, List.length_cons, Nat.reduceEqDiff, Nat.reduceAdd, Nat.add_zero, Nat.zero_add, Int.reduceEq, Int.reduceLT, Int.reduceLE, Int.toNat_natCast, Int.natCast_nonneg, Int.reduceToNat, if_true, if_false, reduceIte, reduceCtorEq, Bool.not_true, Bool.not_false, Bool.false_eq_true, Bool.true_eq_false, true_and, and_true, and_self, ne_eq, not_false_eq_true, not_true_eq_false, false_imp_iff, true_imp_iff, imp_self, List.not_mem_nil, implies_true, List.mem_cons, forall_eq_or_imp, forall_eq, or_false, decide_eq_true_eq, decide_eq_false_iff_not, decide_true, decide_false, Bool.not_eq_true', Bool.not_eq_false', Bool.not_eq_eq_eq_not, wrap_i64, tdivn, tmodn, c21]
  refine ⟨_, _, _, _, hc, ?_⟩
  simp (maxSteps := 1000000) (disch := omega) only [xr, vr, opX, opI, look, nth, setN, find_n, find_c, pkF_t, pkF_f, Nat.reduceBEq, outO, binO, intO, strO, argsE, appd, cpyO, slcO, slsO, bndO, lo1, mnxO, bldO, bldV, andO_s, consL_s, consO_s, splice, rd, fpS, lk, isNil, AEx.exit.injEq, V.bool.injEq, List.map_nil, List.map_cons, List.nil_append, List.cons_append, List.append_nil, List.getElem?_cons_zero, List.getElem?_cons_succ, List.set_cons_zero, List.set_cons_succ, List.length_map, List.length_nil, List.length_cons, Nat.reduceEqDiff, Nat.reduceAdd, Nat.add_zero, Nat.zero_add, Int.reduceEq, Int.reduceLT, Int.reduceLE, Int.toNat_natCast, Int.natCast_nonneg, Int.reduceToNat, if_true, if_false, reduceIte, reduceCtorEq, Bool.not_true, Bool.not_false, Bool.false_eq_true, Bool.true_eq_false, true_and, and_true, and_self, ne_eq, not_false_eq_true, not_true_eq_false, false_imp_iff, true_imp_iff, imp_self, List.not_mem_nil, implies_true, List.mem_cons, forall_eq_or_imp, forall_eq, or_false, decide_eq_true_eq, decide_eq_false_iff_not, decide_true, decide_false, Bool.not_eq_true', Bool.not_eq_false', Bool.not_eq_eq_eq_not, wrap_i64, tdivn, tmodn, iv_len]
  refine x_loop (fun σ H => ∃ i : Nat, i ≤ ps.length ∧ okP L.length (ps.take i) = true ∧ σ = [(0, .fsl .nn 1 (bv L)), (1, .bool is), (8, .sl 0 0 (l.length + 1)), (13, .fsl st 1 (iv ps)), (14, .int .i64 ps.length), (15, .int .i64 i)] ∧ H.n = 1 ∧ H.m 0 = some (.arr 1 (bv (setP L is (ps.take i)))))
    (fun σ _ => match find 15 σ with | some (.int _ n) => (ps.length - n).toNat | _ => 0) ⟨0, by omega, rfl, rfl, rfl, by simp [upd_eq, setP]⟩ ?_
  rintro σ ⟨n, m⟩ ⟨i, hi, hok, rfl, rfl, hm⟩
  simp only at hm
  simp (maxSteps := 1000000) (disch := omega) only [xr, vr, opX, opI, look, nth, setN, find_n, find_c, pkF_t, pkF_f, Nat.reduceBEq, outO, binO, intO, strO, argsE, appd, cpyO, slcO, slsO, bndO, lo1, mnxO, bldO, bldV, andO_s, consL_s, consO_s, splice, rd, fpS, lk, isNil, AEx.exit.injEq, V.bool.injEq, List.map_nil, List.map_cons, List.nil_append, List.cons_append, List.append_nil, List.getElem?_cons_zero, List.getElem?_cons_succ, List.set_cons_zero, List.set_cons_succ, List.length_map, List.length_nil, List.length_cons, Nat.reduceEqDiff, Nat.reduceAdd, Nat.add_zero, Nat.zero_add, Int.reduceEq, Int.reduceLT, Int.reduceLE, Int.toNat_natCast, Int.natCast_nonneg, Int.reduceToNat, if_true, if_false, reduceIte, reduceCtorEq, Bool.not_true, Bool.not_false, Bool.false_eq_true, Bool.true_eq_false, true_and, and_true, and_self, ne_eq, not_false_eq_true, not_true_eq_false, false_imp_iff, true_imp_iff, imp_self, List.not_mem_nil, implies_true, List.mem_cons, forall_eq_or_imp, forall_eq, or_false, decide_eq_true_eq, decide_eq_false_iff_not, decide_true, decide_false, Bool.not_eq_true', Bool.not_eq_false', Bool.not_eq_eq_eq_not, wrap_i64, tdivn, tmodn]
  refine ⟨fun h => ?_, fun h => ?_⟩
  · have h1 : i < ps.length := by omega
    simp (maxSteps := 1000000) (disch := omega) only [xr, vr, opX, opI, look, nth, setN, find_n, find_c, pkF_t, pkF_f, Nat.reduceBEq, outO, binO, intO, strO, argsE, appd, cpyO, slcO, slsO, bndO, lo1, mnxO, bldO, bldV, andO_s, consL_s, consO_s, splice, rd, fpS, lk, isNil, AEx.exit.injEq, V.bool.injEq, List.map_nil, List.map_cons, List.nil_append, List.cons_append, List.append_nil, List.getElem?_cons_zero, List.getElem?_cons_succ, List.set_cons_zero, List.set_cons_succ, List.length_map, List.length_nil, List.length_cons, Nat.reduceEqDiff, Nat.reduceAdd, Nat.add_zero, Nat.zero_add, Int.reduceEq, Int.reduceLT, Int.reduceLE, Int.toNat_natCast, Int.natCast_nonneg, Int.reduceToNat, if_true, if_false, reduceIte, reduceCtorEq, Bool.not_true, Bool.not_false, Bool.false_eq_true, Bool.true_eq_false, true_and, and_true, and_self, ne_eq, not_false_eq_true, not_true_eq_false, false_imp_iff, true_imp_iff, imp_self, List.not_mem_nil, implies_true, List.mem_cons, forall_eq_or_imp, forall_eq, or_false, decide_eq_true_eq, decide_eq_false_iff_not, decide_true, decide_false, Bool.not_eq_true', Bool.not_eq_false', Bool.not_eq_eq_eq_not, wrap_i64, tdivn, tmodn, iv_get, bv_len]
    refine ⟨fun h2 => ⟨fun h3 => ?_, fun h3 => ?_⟩, fun h2 => ?_⟩
    · exact with_err (okP_false h1 (by omega)) rfl
    · have hlt : ps[i].toNat < (setP L is (ps.take i)).length := by rw [setP_len]; omega
      simp (maxSteps := 1000000) (disch := omega) only [xr, vr, opX, opI, look, nth, setN, find_n, find_c, pkF_t, pkF_f, Nat.reduceBEq, outO, binO, intO, strO, argsE, appd, cpyO, slcO, slsO, bndO, lo1, mnxO, bldO, bldV, andO_s, consL_s, consO_s, splice, rd, fpS, lk, isNil, AEx.exit.injEq, V.bool.injEq, List.map_nil, List.map_cons, List.nil_append, List.cons_append, List.append_nil, List.getElem?_cons_zero, List.getElem?_cons_succ, List.set_cons_zero, List.set_cons_succ, List.length_map, List.length_nil, List.length_cons, Nat.reduceEqDiff, Nat.reduceAdd, Nat.add_zero, Nat.zero_add, Int.reduceEq, Int.reduceLT, Int.reduceLE, Int.toNat_natCast, Int.natCast_nonneg, Int.reduceToNat, if_true, if_false, reduceIte, reduceCtorEq, Bool.not_true, Bool.not_false, Bool.false_eq_true, Bool.true_eq_false, true_and, and_true, and_self, ne_eq, not_false_eq_true, not_true_eq_false, false_imp_iff, true_imp_iff, imp_self, List.not_mem_nil, implies_true, List.mem_cons, forall_eq_or_imp, forall_eq, or_false, decide_eq_true_eq, decide_eq_false_iff_not, decide_true, decide_false, Bool.not_eq_true', Bool.not_eq_false', Bool.not_eq_eq_eq_not, wrap_i64, tdivn, tmodn, hm, bv_get hlt]
      refine ⟨by omega, ⟨i + 1, by omega, ?_, rfl, ?_⟩, by omega⟩
      · rw [okP_take h1, hok]; simp; omega
      · rw [setP_take h1, bv_set]
    · exact with_err (okP_false h1 (by omega)) rfl
  · have hi' : i = ps.length := by omega
    subst hi'
    rw [List.take_length] at hok hm
    refine x_frz [0] ?_
    have hsl : (bv (setP L is ps)).length = l.length + 1 := by rw [bv_len, setP_len, hlen]
    have hz : frzV [0] m (.sl 0 0 (l.length + 1)) = .fsl .loose 1 (bv (setP L is ps)) := by
      rw [frz_sl hm (by simp) (by omega) (bv_closed _), List.drop_zero, List.take_of_length_le (by omega)]
    simp (maxSteps := 1000000) (disch := omega) only [xr, vr, opX, opI, look, nth, setN, find_n, find_c, pkF_t, pkF_f, Nat.reduceBEq, outO, binO, intO, strO, argsE, appd, cpyO, slcO, slsO, bndO, lo1, mnxO, bldO, bldV, andO_s, consL_s, consO_s, splice, rd, fpS, lk, isNil, AEx.exit.injEq, V.bool.injEq, List.map_nil, List.map_cons, List.nil_append, List.cons_append, List.append_nil, List.getElem?_cons_zero, List.getElem?_cons_succ, List.set_cons_zero, List.set_cons_succ, List.length_map, List.length_nil, List.length_cons, Nat.reduceEqDiff, Nat.reduceAdd, Nat.add_zero, Nat.zero_add, Int.reduceEq, Int.reduceLT, Int.reduceLE, Int.toNat_natCast, Int.natCast_nonneg, Int.reduceToNat, if_true, if_false, reduceIte, reduceCtorEq, Bool.not_true, Bool.not_false, Bool.false_eq_true, Bool.true_eq_false, true_and, and_true, and_self, ne_eq, not_false_eq_true, not_true_eq_false, false_imp_iff, true_imp_iff, imp_self, List.not_mem_nil, implies_true, List.mem_cons, forall_eq_or_imp, forall_eq, or_false, decide_eq_true_eq, decide_eq_false_iff_not, decide_true, decide_false, Bool.not_eq_true', Bool.not_eq_false', Bool.not_eq_eq_eq_not, wrap_i64, tdivn, tmodn, hz, frz_f (bv_closed L), frz_f (iv_closed ps)]
    exact fin_c (l := [.fsl .loose 1 (bv (setP L is ps)), .int .i64 0]) rfl (by simp [pack, V.closed, closedL, bv_closed]) (.inl (by simp [wiV, WI, hok, pack]))

theorem with_0 (s0 s1 st : St) (is : Bool) (ps : List Int) (hp : ps.length ≤ 1000) (hcl : ∀ H, ACall Try.prog 43 [.fsl s0 1 []] H [] (.fsl s1 1 []) [] 0) : PCall Try.prog 21 [.fsl s0 1 (bv []), .bool is, .fsl st 1 (iv ps)] (wiV [] is ps) := by
  refine en21 (by simp) (by simp [closedL, V.closed, bv_closed, iv_closed]) ?_
  simp (maxSteps := 1000000) (disch := omega) only [xr, vr, opX, opI, look, nth, setN, find_n, find_c, pkF_t, pkF_f, Nat.reduceBEq, outO, binO, intO, strO, argsE, appd, cpyO, slcO, slsO, bndO, lo1, mnxO, bldO, bldV, andO_s, consL_s, consO_s, splice, rd, fpS, lk, isNil, AEx.exit.injEq, V.bool.injEq, List.map_nil, List.map_cons, List.nil_append, List.cons_append, List.append_nil, List.getElem?_cons_zero, List.getElem?_cons_succ, List.set_cons_zero, List.set_cons_succ, List.length_map, List.length_nil, List.length_cons, Nat.reduceEqDiff, Nat.reduceAdd, Nat.add_zero, Nat.zero_add, Int.reduceEq, Int.reduceLT, Int.reduceLE, Int.toNat_natCast, Int.natCast_nonneg, Int.reduceToNat, if_true, if_false, reduceIte, reduceCtorEq, Bool.not_true, Bool.not_false, Bool.false_eq_true, Bool.true_eq_false, true_and, and_true, and_self, ne_eq, not_false_eq_true, not_true_eq_false, false_imp_iff, true_imp_iff, imp_self, List.not_mem_nil, implies_true, List.mem_cons, forall_eq_or_imp, forall_eq, or_false, decide_eq_true_eq, decide_eq_false_iff_not, decide_true, decide_false, Bool.not_eq_true', Bool.not_eq_false', Bool.not_eq_eq_eq_not, wrap_i64, tdivn, tmodn, c21, bv]
  refine ⟨_, _, _, _, hcl _, ?_⟩
  simp (maxSteps := 1000000) (disch := omega) only [xr, vr, opX, opI, look, nth, setN, find_n, find_c, pkF_t, pkF_f, Nat.reduceBEq, outO, binO, intO, strO, argsE, appd, cpyO, slcO, slsO, bndO, lo1, mnxO, bldO, bldV, andO_s, consL_s, consO_s, splice, rd, fpS, lk, isNil, AEx.exit.injEq, V.bool.injEq, List.map_nil, List.map_cons, List.nil_append, List.cons_append, List.append_nil, List.getElem?_cons_zero, List.getElem?_cons_succ, List.set_cons_zero, List.set_cons_succ, List.length_map, List.length_nil, List.length_cons, Nat.reduceEqDiff, Nat.reduceAdd, Nat.add_zero, Nat.zero_add, Int.reduceEq, Int.reduceLT, Int.reduceLE, Int.toNat_natCast, Int.natCast_nonneg, Int.reduceToNat, if_true, if_false, reduceIte, reduceCtorEq, Bool.not_true, Bool.not_false, Bool.false_eq_true, Bool.true_eq_false, true_and, and_true, and_self, ne_eq, not_false_eq_true, not_true_eq_false, false_imp_iff, true_imp_iff, imp_self, List.not_mem_nil, implies_true, List.mem_cons, forall_eq_or_imp, forall_eq, or_false, decide_eq_true_eq, decide_eq_false_iff_not, decide_true, decide_false, Bool.not_eq_true', Bool.not_eq_false', Bool.not_eq_eq_eq_not, wrap_i64, tdivn, tmodn, iv_len]
  refine x_loop (fun σ H => H.n = 0 ∧ σ = [(0, .fsl s0 1 []), (1, .bool is), (8, .fsl s1 1 []), (13, .fsl st 1 (iv ps)), (14, .int .i64 ps.length), (15, .int .i64 0)])
    (fun σ _ => 0) ⟨rfl, rfl⟩ ?_
  rintro σ ⟨n, m⟩ ⟨rfl, rfl⟩
  simp (maxSteps := 1000000) (disch := omega) only [xr, vr, opX, opI, look, nth, setN, find_n, find_c, pkF_t, pkF_f, Nat.reduceBEq, outO, binO, intO, strO, argsE, appd, cpyO, slcO, slsO, bndO, lo1, mnxO, bldO, bldV, andO_s, consL_s, consO_s, splice, rd, fpS, lk, isNil, AEx.exit.injEq, V.bool.injEq, List.map_nil, List.map_cons, List.nil_append, List.cons_append, List.append_nil, List.getElem?_cons_zero, List.getElem?_cons_succ, List.set_cons_zero, List.set_cons_succ, List.length_map, List.length_nil, List.length_cons, Nat.reduceEqDiff, Nat.reduceAdd, Nat.add_zero, Nat.zero_add, Int.reduceEq, Int.reduceLT, Int.reduceLE, Int.toNat_natCast, Int.natCast_nonneg, Int.reduceToNat, if_true, if_false, reduceIte, reduceCtorEq, Bool.not_true, Bool.not_false, Bool.false_eq_true, Bool.true_eq_false, true_and, and_true, and_self, ne_eq, not_false_eq_true, not_true_eq_false, false_imp_iff, true_imp_iff, imp_self, List.not_mem_nil, implies_true, List.mem_cons, forall_eq_or_imp, forall_eq, or_false, decide_eq_true_eq, decide_eq_false_iff_not, decide_true, decide_false, Bool.not_eq_true', Bool.not_eq_false', Bool.not_eq_eq_eq_not, wrap_i64, tdivn, tmodn]
  refine ⟨fun h => ?_, fun h => ?_⟩
  · have h1 : 0 < ps.length := by omega
    simp (maxSteps := 1000000) (disch := omega) only [xr, vr, opX, opI, look, nth, setN, find_n, find_c, pkF_t, pkF_f, Nat.reduceBEq, outO, binO, intO, strO, argsE, appd, cpyO, slcO, slsO, bndO, lo1, mnxO, bldO, bldV, andO_s, consL_s, consO_s, splice, rd, fpS, lk, isNil, AEx.exit.injEq, V.bool.injEq, List.map_nil, List.map_cons, List.nil_append, List.cons_append, List.append_nil, List.getElem?_cons_zero, List.getElem?_cons_succ, List.set_cons_zero, List.set_cons_succ, List.length_map, List.length_nil, List.length_cons, Nat.reduceEqDiff, Nat.reduceAdd, Nat.add_zero, Nat.zero_add, Int.reduceEq, Int.reduceLT, Int.reduceLE, Int.toNat_natCast, Int.natCast_nonneg, Int.reduceToNat, if_true, if_false, reduceIte, reduceCtorEq, Bool.not_true, Bool.not_false, Bool.false_eq_true, Bool.true_eq_false, true_and, and_true, and_self, ne_eq, not_false_eq_true, not_true_eq_false, false_imp_iff, true_imp_iff, imp_self, List.not_mem_nil, implies_true, List.mem_cons, forall_eq_or_imp, forall_eq, or_false, decide_eq_true_eq, decide_eq_false_iff_not, decide_true, decide_false, Bool.not_eq_true', Bool.not_eq_false', Bool.not_eq_eq_eq_not, wrap_i64, tdivn, tmodn, iv_get h1]
    refine ⟨fun h2 => ⟨fun h3 => ?_, fun h3 => ?_⟩, fun h2 => ?_⟩
    · exact with_err (okP_false h1 (by simp <;> omega)) rfl
    · exfalso; simp at h3 <;> omega
    · exact with_err (okP_false h1 (by omega)) rfl
  · have : ps = [] := List.eq_nil_of_length_eq_zero (by omega)
    subst this
    refine x_frz0 ?_
    simp (maxSteps := 1000000) (disch := omega) only [xr, vr, opX, opI, look, nth, setN, find_n, find_c, pkF_t, pkF_f, Nat.reduceBEq, outO, binO, intO, strO, argsE, appd, cpyO, slcO, slsO, bndO, lo1, mnxO, bldO, bldV, andO_s, consL_s, consO_s, splice, rd, fpS, lk, isNil, AEx.exit.injEq, V.bool.injEq, List.map_nil, List.map_cons, List.nil_append, List.cons_append, List.append_nil, List.getElem?_cons_zero, List.getElem?_cons_succ, List.set_cons_zero, List.set_cons_succ, List.length_map, List.length_nil, List.length_cons, Nat.reduceEqDiff, Nat.reduceAdd, Nat.add_zero, Nat.zero_add, Int.reduceEq, Int.reduceLT, Int.reduceLE, Int.toNat_natCast, Int.natCast_nonneg, Int.reduceToNat, if_true, if_false, reduceIte, reduceCtorEq, Bool.not_true, Bool.not_false, Bool.false_eq_true, Bool.true_eq_false, true_and, and_true, and_self, ne_eq, not_false_eq_true, not_true_eq_false, false_imp_iff, true_imp_iff, imp_self, List.not_mem_nil, implies_true, List.mem_cons, forall_eq_or_imp, forall_eq, or_false, decide_eq_true_eq, decide_eq_false_iff_not, decide_true, decide_false, Bool.not_eq_true', Bool.not_eq_false', Bool.not_eq_eq_eq_not, wrap_i64, tdivn, tmodn]
    exact fin_c (l := [.fsl s1 1 [], .int .i64 0]) rfl (by simp [pack, V.closed, closedL]) (.inr (.inl (by simp [wiV, WI, okP, setP, pack, loosen, loose1, bv])))

theorem any_st {P : Program} {f sz : Nat} {l vs : List V} {r : V} {st : St} (h : PCall P f (.fsl .loose sz l :: vs) r) : PCall P f (.fsl st sz l :: vs) r := by
  refine ⟨h.1, fun m g w xs hs hx => ?_⟩
  simp only [RC] at hx
  obtain ⟨y, ys, e1, e2, e3⟩ := hx
  exact h.2 m g w xs hs (by simp only [RC]; exact ⟨y, ys, e1, (loose1_R e2).1, e3⟩)

theorem with21 (s0 st : St) (l : List Bool) (is : Bool) (ps : List Int) (hl : l.length ≤ 100000) (hp : ps.length ≤ 1000) : PCall Try.prog 21 [.fsl s0 1 (bv l), .bool is, .fsl st 1 (iv ps)] (wiV l is ps) := by
  refine any_st (.first (fun h => ?_) ?_)
  · have : l = [] := by simpa [bv] using h
    subst this
    exact with_0 .nil .nil st is ps hp clone_nil
  · cases l with
    | nil => exact with_0 .nn .full st is ps hp clone_nn0
    | cons b l => exact with_nn st b l is ps (by simp at hl; omega) hp

end Go.Proofs.Ytickdhdlljhomaa.Ev
