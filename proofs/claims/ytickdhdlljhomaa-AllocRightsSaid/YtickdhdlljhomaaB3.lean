/-
  Unpacking, in the program and by the document.
-/
import Derived.Test.YtickdhdlljhomaaB2
set_option linter.unusedSimpArgs false
set_option maxRecDepth 10000
namespace Go.Proofs.Ytickdhdlljhomaa.Ev
open Go

def bitOf (s : List UInt8) (i : Nat) : Bool := (s.getD (i / 8) 0).toNat.testBit (i % 8)
def un (s : List UInt8) (n : Nat) : List Bool := (List.range n).map (bitOf s)
def UN (s : List UInt8) (n : Int) : List Bool × Int :=
  if n < 0 ∨ 2048 < n then ([], 1) else if 8 * (s.length : Int) < n then ([], 3) else if pk (un s n.toNat) = s then (un s n.toNat, 0) else ([], 4)
def unV (s : List UInt8) (n : Int) : V := .tup [.fsl .loose 1 (bv (UN s n).1), .int .i64 (UN s n).2]

theorem un_len (s : List UInt8) (n : Nat) : (un s n).length = n := by simp [un]
theorem shr8 {x i : Nat} : ((x : Int)).fdiv (2 ^ min ((i : Int) % 8).toNat (IntKind.bits .u8)) = ((x >>> (i % 8) : Nat) : Int) := by
  have e : ((i : Int) % 8).toNat = i % 8 := by omega
  have h8 : IntKind.bits .u8 = 8 := rfl
  have h : min (i % 8) 8 = i % 8 := by omega
  rw [e, h8, h, Nat.shiftRight_eq_div_pow]
  rw [Int.fdiv_eq_ediv_of_nonneg _ (by exact Int.le_of_lt (Int.pow_pos (by decide)))]
  norm_cast
theorem and1 {a : Nat} (ha : a < 256) : bits2 .and .u8 (a : Int) 1 = ((a % 2 : Nat) : Int) := by
  show IntKind.wrap .u8 (((BitVec.ofInt 8 (a : Int) &&& BitVec.ofInt 8 1).toNat : Nat) : Int) = _
  have e : (BitVec.ofInt 8 (a : Int) &&& BitVec.ofInt 8 1).toNat = a % 2 := by
    rw [BitVec.toNat_and, BitVec.toNat_ofInt, BitVec.toNat_ofInt]
    have e1 : ((a : Int) % ((2 ^ 8 : Nat) : Int)).toNat = a := by omega
    have e2 : ((1 : Int) % ((2 ^ 8 : Nat) : Int)).toNat = 1 := by decide
    rw [e1, e2, Nat.and_one_is_mod]
  rw [e]
  exact wrap_u8 (by omega)
theorem bitI {x i : Nat} : decide ((((x >>> i) % 2 : Nat) : Int) = 1) = x.testBit i := by
  rw [Nat.testBit_eq_decide_div_mod_eq, Nat.shiftRight_eq_div_pow]
  have e : (((x / 2 ^ i % 2 : Nat) : Int) = 1) ↔ x / 2 ^ i % 2 = 1 := by omega
  simp only [e]
theorem u8_lt (b : UInt8) : b.toNat < 256 := b.toNat_lt

theorem unpack15 (s : List UInt8) (n : Int) (hs : s.length ≤ 1000000000000000) (hn : -9223372036854775808 ≤ n ∧ n ≤ 9223372036854775807) : PCall Try.prog 15 [.str s, .int .i64 n] (unV s n) := by
  refine en15 (by simp) (by simp [closedL, V.closed]) ?_
  simp (maxSteps := 1000000) (disch := omega) only [xr, vr, opX, opI, look, nth, setN, find_n, find_c, pkF_t, pkF_f, Nat.reduceBEq, outO, binO, intO, strO, argsE, appd, cpyO, slcO, slsO, bndO, lo1, mnxO, bldO, bldV, andO_s, consL_s, consO_s, splice, rd, fpS, lk, isNil, AEx.exit.injEq, V.bool.injEq, List.map_nil, List.map_cons, List.nil_append, List.cons_append, List.append_nil, List.getElem?_cons_zero, List.getElem?_cons_succ, List.set_cons_zero, List.set_cons_succ, List.length_map, List.length_nil, List.length_cons, Nat.reduceEqDiff, Nat.reduceAdd, Nat.add_zero, Nat.zero_add, Int.reduceEq, Int.reduceLT, Int.reduceLE, Int.toNat_natCast, Int.natCast_nonneg, Int.reduceToNat, if_true, if_false, reduceIte, reduceCtorEq, Bool.not_true, Bool.not_false, Bool.false_eq_true, Bool.true_eq_false, true_and, and_true, and_self, ne_eq, not_false_eq_true, not_true_eq_false, false_imp_iff, true_imp_iff, imp_self, List.not_mem_nil, implies_true, List.mem_cons, forall_eq_or_imp, forall_eq, or_false, decide_eq_true_eq, decide_eq_false_iff_not, decide_true, decide_false, Bool.not_eq_true', Bool.not_eq_false', Bool.not_eq_eq_eq_not, wrap_i64, tdivn, tmodn, c15]
  refine ⟨fun h0 => ⟨fun h1 => ?_, fun h1 => ?_⟩, fun h0 => ?_⟩
  · exact fin_c (l := [.fsl .nil 1 [], .int .i64 1]) rfl rfl (.inr (.inl (by simp [unV, UN, h1, loosen, pack, loose1, bv])))
  · obtain ⟨k, rfl⟩ : ∃ k : Nat, n = k := ⟨n.toNat, by omega⟩
    have hk : k ≤ 2048 := by omega
    simp (maxSteps := 1000000) (disch := omega) only [xr, vr, opX, opI, look, nth, setN, find_n, find_c, pkF_t, pkF_f, Nat.reduceBEq, outO, binO, intO, strO, argsE, appd, cpyO, slcO, slsO, bndO, lo1, mnxO, bldO, bldV, andO_s, consL_s, consO_s, splice, rd, fpS, lk, isNil, AEx.exit.injEq, V.bool.injEq, List.map_nil, List.map_cons, List.nil_append, List.cons_append, List.append_nil, List.getElem?_cons_zero, List.getElem?_cons_succ, List.set_cons_zero, List.set_cons_succ, List.length_map, List.length_nil, List.length_cons, Nat.reduceEqDiff, Nat.reduceAdd, Nat.add_zero, Nat.zero_add, Int.reduceEq, Int.reduceLT, Int.reduceLE, Int.toNat_natCast, Int.natCast_nonneg, Int.reduceToNat, if_true, if_false, reduceIte, reduceCtorEq, Bool.not_true, Bool.not_false, Bool.false_eq_true, Bool.true_eq_false, true_and, and_true, and_self, ne_eq, not_false_eq_true, not_true_eq_false, false_imp_iff, true_imp_iff, imp_self, List.not_mem_nil, implies_true, List.mem_cons, forall_eq_or_imp, forall_eq, or_false, decide_eq_true_eq, decide_eq_false_iff_not, decide_true, decide_false, Bool.not_eq_true', Bool.not_eq_false', Bool.not_eq_eq_eq_not, wrap_i64, tdivn, tmodn]
    refine ⟨fun h2 => ?_, fun h2 => ⟨by omega, ?_⟩⟩
    · have h3 : 8 * (s.length : Int) < k := by omega
      exact fin_c (l := [.fsl .nil 1 [], .int .i64 3]) rfl rfl (.inr (.inl (by simp [unV, UN, h0, h1, h3, loosen, pack, loose1, bv])))
    · have h3 : ¬ (8 * (s.length : Int) < k) := by omega
      refine x_loop (fun σ H => ∃ i : Nat, i ≤ k ∧ σ = [(0, .str s), (6, .sl 0 0 k), (25, .int .i64 k), (26, .int .i64 i)] ∧ H.n = 1 ∧
          H.m 0 = some (.arr 1 ((List.range k).map fun j => .bool (decide (j < i) && bitOf s j))))
        (fun σ _ => match find 26 σ with | some (.int _ n) => (k - n).toNat | _ => 0) ⟨0, by omega, rfl, rfl, ?_⟩ ?_
      · simp only [upd_eq]
        refine congrArg some (congrArg (Ob.arr 1) (List.ext_getElem? fun i => ?_))
        by_cases h : i < k <;> simp [h]
      · rintro σ ⟨n, m⟩ ⟨i, hi, rfl, rfl, hm⟩
        simp only at hm
        simp (maxSteps := 1000000) (disch := omega) only [xr, vr, opX, opI, look, nth, setN, find_n, find_c, pkF_t, pkF_f, Nat.reduceBEq, outO, binO, intO, strO, argsE, appd, cpyO, slcO, slsO, bndO, lo1, mnxO, bldO, bldV, andO_s, consL_s, consO_s, splice, rd, fpS, lk, isNil, AEx.exit.injEq, V.bool.injEq, List.map_nil, List.map_cons, List.nil_append, List.cons_append, List.append_nil, List.getElem?_cons_zero, List.getElem?_cons_succ, List.set_cons_zero, List.set_cons_succ, List.length_map, List.length_nil, List.length_cons, Nat.reduceEqDiff, Nat.reduceAdd, Nat.add_zero, Nat.zero_add, Int.reduceEq, Int.reduceLT, Int.reduceLE, Int.toNat_natCast, Int.natCast_nonneg, Int.reduceToNat, if_true, if_false, reduceIte, reduceCtorEq, Bool.not_true, Bool.not_false, Bool.false_eq_true, Bool.true_eq_false, true_and, and_true, and_self, ne_eq, not_false_eq_true, not_true_eq_false, false_imp_iff, true_imp_iff, imp_self, List.not_mem_nil, implies_true, List.mem_cons, forall_eq_or_imp, forall_eq, or_false, decide_eq_true_eq, decide_eq_false_iff_not, decide_true, decide_false, Bool.not_eq_true', Bool.not_eq_false', Bool.not_eq_eq_eq_not, wrap_i64, tdivn, tmodn]
        refine ⟨fun h => ?_, fun h => ?_⟩
        · have hik : i < k := by omega
          have hs8 : i / 8 < s.length := by omega
          have hsg : s[i / 8]? = some s[i / 8] := by simp [hs8]
          simp (maxSteps := 1000000) (disch := omega) only [xr, vr, opX, opI, look, nth, setN, find_n, find_c, pkF_t, pkF_f, Nat.reduceBEq, outO, binO, intO, strO, argsE, appd, cpyO, slcO, slsO, bndO, lo1, mnxO, bldO, bldV, andO_s, consL_s, consO_s, splice, rd, fpS, lk, isNil, AEx.exit.injEq, V.bool.injEq, List.map_nil, List.map_cons, List.nil_append, List.cons_append, List.append_nil, List.getElem?_cons_zero, List.getElem?_cons_succ, List.set_cons_zero, List.set_cons_succ, List.length_map, List.length_nil, List.length_cons, Nat.reduceEqDiff, Nat.reduceAdd, Nat.add_zero, Nat.zero_add, Int.reduceEq, Int.reduceLT, Int.reduceLE, Int.toNat_natCast, Int.natCast_nonneg, Int.reduceToNat, if_true, if_false, reduceIte, reduceCtorEq, Bool.not_true, Bool.not_false, Bool.false_eq_true, Bool.true_eq_false, true_and, and_true, and_self, ne_eq, not_false_eq_true, not_true_eq_false, false_imp_iff, true_imp_iff, imp_self, List.not_mem_nil, implies_true, List.mem_cons, forall_eq_or_imp, forall_eq, or_false, decide_eq_true_eq, decide_eq_false_iff_not, decide_true, decide_false, Bool.not_eq_true', Bool.not_eq_false', Bool.not_eq_eq_eq_not, wrap_i64, tdivn, tmodn, div8, hsg, hm, shr8]
          have hlt : s[i / 8].toNat >>> (i % 8) < 256 := Nat.lt_of_le_of_lt (Nat.shiftRight_le _ _) (u8_lt _)
          simp (maxSteps := 1000000) (disch := omega) only [xr, vr, opX, opI, look, nth, setN, find_n, find_c, pkF_t, pkF_f, Nat.reduceBEq, outO, binO, intO, strO, argsE, appd, cpyO, slcO, slsO, bndO, lo1, mnxO, bldO, bldV, andO_s, consL_s, consO_s, splice, rd, fpS, lk, isNil, AEx.exit.injEq, V.bool.injEq, List.map_nil, List.map_cons, List.nil_append, List.cons_append, List.append_nil, List.getElem?_cons_zero, List.getElem?_cons_succ, List.set_cons_zero, List.set_cons_succ, List.length_map, List.length_nil, List.length_cons, Nat.reduceEqDiff, Nat.reduceAdd, Nat.add_zero, Nat.zero_add, Int.reduceEq, Int.reduceLT, Int.reduceLE, Int.toNat_natCast, Int.natCast_nonneg, Int.reduceToNat, if_true, if_false, reduceIte, reduceCtorEq, Bool.not_true, Bool.not_false, Bool.false_eq_true, Bool.true_eq_false, true_and, and_true, and_self, ne_eq, not_false_eq_true, not_true_eq_false, false_imp_iff, true_imp_iff, imp_self, List.not_mem_nil, implies_true, List.mem_cons, forall_eq_or_imp, forall_eq, or_false, decide_eq_true_eq, decide_eq_false_iff_not, decide_true, decide_false, Bool.not_eq_true', Bool.not_eq_false', Bool.not_eq_eq_eq_not, wrap_i64, tdivn, tmodn, and1 hlt, hm, get_range, bitI]
          refine ⟨by omega, by omega, by omega, ⟨i + 1, by omega, rfl, ?_⟩, by omega⟩
          refine congrArg some (congrArg (Ob.arr 1) (set_range fun j hj => ?_))
          by_cases e : j = i
          · subst e
            have : bitOf s j = s[j / 8].toNat.testBit (j % 8) := by simp [bitOf, List.getD_eq_getElem?_getD, hs8]
            simp [this]
          · have : (j < i + 1) = (j < i) := by simp; omega
            simp [this, e]
        · have hik : i = k := by omega
          subst hik
          have hc : ((List.range i).map fun j => V.bool (decide (j < i) && bitOf s j)) = bv (un s i) := by
            rw [bv, un, List.map_map]
            refine List.map_congr_left fun j hj => ?_
            have : j < i := by simpa using hj
            simp [this]
          rw [hc] at hm
          refine x_frz [0] ?_
          have hz : frzV [0] m (.sl 0 0 i) = .fsl .loose 1 (bv (un s i)) := by
            rw [frz_sl hm (by simp) (by simp [bv, un]) (bv_closed _), List.drop_zero, List.take_of_length_le (by simp [bv, un])]
          simp (maxSteps := 1000000) (disch := omega) only [xr, vr, opX, opI, look, nth, setN, find_n, find_c, pkF_t, pkF_f, Nat.reduceBEq, outO, binO, intO, strO, argsE, appd, cpyO, slcO, slsO, bndO, lo1, mnxO, bldO, bldV, andO_s, consL_s, consO_s, splice, rd, fpS, lk, isNil, AEx.exit.injEq, V.bool.injEq, List.map_nil, List.map_cons, List.nil_append, List.cons_append, List.append_nil, List.getElem?_cons_zero, List.getElem?_cons_succ, List.set_cons_zero, List.set_cons_succ, List.length_map, List.length_nil, List.length_cons, Nat.reduceEqDiff, Nat.reduceAdd, Nat.add_zero, Nat.zero_add, Int.reduceEq, Int.reduceLT, Int.reduceLE, Int.toNat_natCast, Int.natCast_nonneg, Int.reduceToNat, if_true, if_false, reduceIte, reduceCtorEq, Bool.not_true, Bool.not_false, Bool.false_eq_true, Bool.true_eq_false, true_and, and_true, and_self, ne_eq, not_false_eq_true, not_true_eq_false, false_imp_iff, true_imp_iff, imp_self, List.not_mem_nil, implies_true, List.mem_cons, forall_eq_or_imp, forall_eq, or_false, decide_eq_true_eq, decide_eq_false_iff_not, decide_true, decide_false, Bool.not_eq_true', Bool.not_eq_false', Bool.not_eq_eq_eq_not, wrap_i64, tdivn, tmodn, hz]
          refine ⟨_, pack18 .loose (un s i) (by rw [un_len]; omega), ?_⟩
          simp (maxSteps := 1000000) (disch := omega) only [xr, vr, opX, opI, look, nth, setN, find_n, find_c, pkF_t, pkF_f, Nat.reduceBEq, outO, binO, intO, strO, argsE, appd, cpyO, slcO, slsO, bndO, lo1, mnxO, bldO, bldV, andO_s, consL_s, consO_s, splice, rd, fpS, lk, isNil, AEx.exit.injEq, V.bool.injEq, List.map_nil, List.map_cons, List.nil_append, List.cons_append, List.append_nil, List.getElem?_cons_zero, List.getElem?_cons_succ, List.set_cons_zero, List.set_cons_succ, List.length_map, List.length_nil, List.length_cons, Nat.reduceEqDiff, Nat.reduceAdd, Nat.add_zero, Nat.zero_add, Int.reduceEq, Int.reduceLT, Int.reduceLE, Int.toNat_natCast, Int.natCast_nonneg, Int.reduceToNat, if_true, if_false, reduceIte, reduceCtorEq, Bool.not_true, Bool.not_false, Bool.false_eq_true, Bool.true_eq_false, true_and, and_true, and_self, ne_eq, not_false_eq_true, not_true_eq_false, false_imp_iff, true_imp_iff, imp_self, List.not_mem_nil, implies_true, List.mem_cons, forall_eq_or_imp, forall_eq, or_false, decide_eq_true_eq, decide_eq_false_iff_not, decide_true, decide_false, Bool.not_eq_true', Bool.not_eq_false', Bool.not_eq_eq_eq_not, wrap_i64, tdivn, tmodn]
          refine ⟨fun h => ?_, fun h => ?_⟩
          · have h' : ¬ pk (un s i) = s := by simpa using h
            exact fin_c (l := [.fsl .nil 1 [], .int .i64 4]) rfl rfl (.inr (.inl (by simp [unV, UN, h0, h1, h3, h', loosen, pack, loose1, bv])))
          · have h' : pk (un s i) = s := by simpa using h
            exact fin_c (l := [.fsl .loose 1 (bv (un s i)), .int .i64 0]) rfl (by simp [pack, V.closed, closedL, bv_closed]) (.inl (by simp [unV, UN, h0, h1, h3, h', pack]))
  · exact fin_c (l := [.fsl .nil 1 [], .int .i64 1]) rfl rfl (.inr (.inl (by simp [unV, UN, h0, loosen, pack, loose1, bv])))

theorem wrap_u64 {n : Int} (h : 0 ≤ n) (h1 : n ≤ 9223372036854775807) : IntKind.wrap .u64 n = n := by
  simp only [IntKind.wrap, IntKind.bits, IntKind.signed]
  simp
  omega

theorem tm2 {x : Nat} : (x : Int).tmod 2 = ((x % 2 : Nat) : Int) := by
  rw [Int.tmod_eq_emod_of_nonneg (by omega)]; omega

theorem unpack16 (s : List UInt8) (n : Int) (hs : s.length ≤ 1000000000000000) (hn : -9223372036854775808 ≤ n ∧ n ≤ 9223372036854775807) : PCall Try.prog 16 [.str s, .int .i64 n] (unV s n) := by
  refine en16 (by simp) (by simp [closedL, V.closed]) ?_
  simp (maxSteps := 1000000) (disch := omega) only [xr, vr, opX, opI, look, nth, setN, find_n, find_c, pkF_t, pkF_f, Nat.reduceBEq, outO, binO, intO, strO, argsE, appd, cpyO, slcO, slsO, bndO, lo1, mnxO, bldO, bldV, andO_s, consL_s, consO_s, splice, rd, fpS, lk, isNil, AEx.exit.injEq, V.bool.injEq, List.map_nil, List.map_cons, List.nil_append, List.cons_append, List.append_nil, List.getElem?_cons_zero, List.getElem?_cons_succ, List.set_cons_zero, List.set_cons_succ, List.length_map, List.length_nil, List.length_cons, Nat.reduceEqDiff, Nat.reduceAdd, Nat.add_zero, Nat.zero_add, Int.reduceEq, Int.reduceLT, Int.reduceLE, Int.toNat_natCast, Int.natCast_nonneg, Int.reduceToNat, if_true, if_false, reduceIte, reduceCtorEq, Bool.not_true, Bool.not_false, Bool.false_eq_true, Bool.true_eq_false, true_and, and_true, and_self, ne_eq, not_false_eq_true, not_true_eq_false, false_imp_iff, true_imp_iff, imp_self, List.not_mem_nil, implies_true, List.mem_cons, forall_eq_or_imp, forall_eq, or_false, decide_eq_true_eq, decide_eq_false_iff_not, decide_true, decide_false, Bool.not_eq_true', Bool.not_eq_false', Bool.not_eq_eq_eq_not, wrap_i64, tdivn, tmodn, c16]
  refine ⟨fun h0 => ⟨fun h1 => ?_, fun h1 => ?_⟩, fun h0 => ?_⟩
  · exact fin_c (l := [.fsl .nil 1 [], .int .i64 1]) rfl rfl (.inr (.inl (by simp [unV, UN, h1, loosen, pack, loose1, bv])))
  · obtain ⟨k, rfl⟩ : ∃ k : Nat, n = k := ⟨n.toNat, by omega⟩
    have hk : k ≤ 2048 := by omega
    refine ⟨fun h2 => ?_, fun h2 => ?_⟩
    · have h3 : 8 * (s.length : Int) < k := by omega
      exact fin_c (l := [.fsl .nil 1 [], .int .i64 3]) rfl rfl (.inr (.inl (by simp [unV, UN, h0, h1, h3, loosen, pack, loose1, bv])))
    · have h3 : ¬ (8 * (s.length : Int) < k) := by omega
      refine x_loop (fun σ H => ∃ (i : Nat) (v : V), i ≤ k ∧ σ = [(0, .str s), (1, .int .i64 k), (6, v), (7, .int .i64 i)] ∧ Buf H 1 v (bv (un s i)))
        (fun σ _ => match find 7 σ with | some (.int _ n) => (k - n).toNat | _ => 0) ⟨0, _, by omega, rfl, Buf.start (st := .full) (by decide)⟩ ?_
      rintro σ ⟨n, m⟩ ⟨i, v, hi, rfl, hb⟩
      simp (maxSteps := 1000000) (disch := omega) only [xr, vr, opX, opI, look, nth, setN, find_n, find_c, pkF_t, pkF_f, Nat.reduceBEq, outO, binO, intO, strO, argsE, appd, cpyO, slcO, slsO, bndO, lo1, mnxO, bldO, bldV, andO_s, consL_s, consO_s, splice, rd, fpS, lk, isNil, AEx.exit.injEq, V.bool.injEq, List.map_nil, List.map_cons, List.nil_append, List.cons_append, List.append_nil, List.getElem?_cons_zero, List.getElem?_cons_succ, List.set_cons_zero, List.set_cons_succ, List.length_map, List.length_nil, List.length_cons, Nat.reduceEqDiff, Nat.reduceAdd, Nat.add_zero, Nat.zero_add, Int.reduceEq, Int.reduceLT, Int.reduceLE, Int.toNat_natCast, Int.natCast_nonneg, Int.reduceToNat, if_true, if_false, reduceIte, reduceCtorEq, Bool.not_true, Bool.not_false, Bool.false_eq_true, Bool.true_eq_false, true_and, and_true, and_self, ne_eq, not_false_eq_true, not_true_eq_false, false_imp_iff, true_imp_iff, imp_self, List.not_mem_nil, implies_true, List.mem_cons, forall_eq_or_imp, forall_eq, or_false, decide_eq_true_eq, decide_eq_false_iff_not, decide_true, decide_false, Bool.not_eq_true', Bool.not_eq_false', Bool.not_eq_eq_eq_not, wrap_i64, tdivn, tmodn]
      refine ⟨fun h => ?_, fun h => ?_⟩
      · have hik : i < k := by omega
        have hs8 : i / 8 < s.length := by omega
        have hsg : s[i / 8]? = some s[i / 8] := by simp [hs8]
        have hlt : s[i / 8].toNat >>> (i % 8) < 256 := Nat.lt_of_le_of_lt (Nat.shiftRight_le _ _) (u8_lt _)
        simp (maxSteps := 1000000) (disch := omega) only [xr, vr, opX, opI, look, nth, setN, find_n, find_c, pkF_t, pkF_f, Nat.reduceBEq, outO, binO, intO, strO, argsE, appd, cpyO, slcO, slsO, bndO, lo1, mnxO, bldO, bldV, andO_s, consL_s, consO_s, splice, rd, fpS, lk, isNil, AEx.exit.injEq, V.bool.injEq, List.map_nil, List.map_cons, List.nil_append, List.cons_append, List.append_nil, List.getElem?_cons_zero, List.getElem?_cons_succ, List.set_cons_zero, List.set_cons_succ, List.length_map, List.length_nil, List.length_cons, Nat.reduceEqDiff, Nat.reduceAdd, Nat.add_zero, Nat.zero_add, Int.reduceEq, Int.reduceLT, Int.reduceLE, Int.toNat_natCast, Int.natCast_nonneg, Int.reduceToNat, if_true, if_false, reduceIte, reduceCtorEq, Bool.not_true, Bool.not_false, Bool.false_eq_true, Bool.true_eq_false, true_and, and_true, and_self, ne_eq, not_false_eq_true, not_true_eq_false, false_imp_iff, true_imp_iff, imp_self, List.not_mem_nil, implies_true, List.mem_cons, forall_eq_or_imp, forall_eq, or_false, decide_eq_true_eq, decide_eq_false_iff_not, decide_true, decide_false, Bool.not_eq_true', Bool.not_eq_false', Bool.not_eq_eq_eq_not, wrap_i64, tdivn, tmodn, div8, hsg, wrap_u64, shr8]
        rw [tm2, bitI]
        have hbit : bitOf s i = s[i / 8].toNat.testBit (i % 8) := by simp [bitOf, List.getD_eq_getElem?_getD, hs8]
        rw [← hbit]
        refine ⟨by omega, by omega, app_buf hb (ys := [.bool (bitOf s i)]) rfl (by simp) (by simp [bv, un]; omega) fun v' fp ds hb' _ => ?_⟩
        simp (maxSteps := 1000000) (disch := omega) only [xr, vr, opX, opI, look, nth, setN, find_n, find_c, pkF_t, pkF_f, Nat.reduceBEq, outO, binO, intO, strO, argsE, appd, cpyO, slcO, slsO, bndO, lo1, mnxO, bldO, bldV, andO_s, consL_s, consO_s, splice, rd, fpS, lk, isNil, AEx.exit.injEq, V.bool.injEq, List.map_nil, List.map_cons, List.nil_append, List.cons_append, List.append_nil, List.getElem?_cons_zero, List.getElem?_cons_succ, List.set_cons_zero, List.set_cons_succ, List.length_map, List.length_nil, List.length_cons, Nat.reduceEqDiff, Nat.reduceAdd, Nat.add_zero, Nat.zero_add, Int.reduceEq, Int.reduceLT, Int.reduceLE, Int.toNat_natCast, Int.natCast_nonneg, Int.reduceToNat, if_true, if_false, reduceIte, reduceCtorEq, Bool.not_true, Bool.not_false, Bool.false_eq_true, Bool.true_eq_false, true_and, and_true, and_self, ne_eq, not_false_eq_true, not_true_eq_false, false_imp_iff, true_imp_iff, imp_self, List.not_mem_nil, implies_true, List.mem_cons, forall_eq_or_imp, forall_eq, or_false, decide_eq_true_eq, decide_eq_false_iff_not, decide_true, decide_false, Bool.not_eq_true', Bool.not_eq_false', Bool.not_eq_eq_eq_not, wrap_i64, tdivn, tmodn]
        refine ⟨⟨i + 1, v', by omega, rfl, ?_⟩, by omega⟩
        simpa [un, bv, List.range_succ] using hb'
      · have hik : i = k := by omega
        subst hik
        obtain ⟨fz, st', hz⟩ := hb.frz (bv_closed _)
        refine x_frz fz ?_
        simp (maxSteps := 1000000) (disch := omega) only [xr, vr, opX, opI, look, nth, setN, find_n, find_c, pkF_t, pkF_f, Nat.reduceBEq, outO, binO, intO, strO, argsE, appd, cpyO, slcO, slsO, bndO, lo1, mnxO, bldO, bldV, andO_s, consL_s, consO_s, splice, rd, fpS, lk, isNil, AEx.exit.injEq, V.bool.injEq, List.map_nil, List.map_cons, List.nil_append, List.cons_append, List.append_nil, List.getElem?_cons_zero, List.getElem?_cons_succ, List.set_cons_zero, List.set_cons_succ, List.length_map, List.length_nil, List.length_cons, Nat.reduceEqDiff, Nat.reduceAdd, Nat.add_zero, Nat.zero_add, Int.reduceEq, Int.reduceLT, Int.reduceLE, Int.toNat_natCast, Int.natCast_nonneg, Int.reduceToNat, if_true, if_false, reduceIte, reduceCtorEq, Bool.not_true, Bool.not_false, Bool.false_eq_true, Bool.true_eq_false, true_and, and_true, and_self, ne_eq, not_false_eq_true, not_true_eq_false, false_imp_iff, true_imp_iff, imp_self, List.not_mem_nil, implies_true, List.mem_cons, forall_eq_or_imp, forall_eq, or_false, decide_eq_true_eq, decide_eq_false_iff_not, decide_true, decide_false, Bool.not_eq_true', Bool.not_eq_false', Bool.not_eq_eq_eq_not, wrap_i64, tdivn, tmodn, hz]
        refine ⟨_, pack19 st' (un s i) (by rw [un_len]; omega), ?_⟩
        simp (maxSteps := 1000000) (disch := omega) only [xr, vr, opX, opI, look, nth, setN, find_n, find_c, pkF_t, pkF_f, Nat.reduceBEq, outO, binO, intO, strO, argsE, appd, cpyO, slcO, slsO, bndO, lo1, mnxO, bldO, bldV, andO_s, consL_s, consO_s, splice, rd, fpS, lk, isNil, AEx.exit.injEq, V.bool.injEq, List.map_nil, List.map_cons, List.nil_append, List.cons_append, List.append_nil, List.getElem?_cons_zero, List.getElem?_cons_succ, List.set_cons_zero, List.set_cons_succ, List.length_map, List.length_nil, List.length_cons, Nat.reduceEqDiff, Nat.reduceAdd, Nat.add_zero, Nat.zero_add, Int.reduceEq, Int.reduceLT, Int.reduceLE, Int.toNat_natCast, Int.natCast_nonneg, Int.reduceToNat, if_true, if_false, reduceIte, reduceCtorEq, Bool.not_true, Bool.not_false, Bool.false_eq_true, Bool.true_eq_false, true_and, and_true, and_self, ne_eq, not_false_eq_true, not_true_eq_false, false_imp_iff, true_imp_iff, imp_self, List.not_mem_nil, implies_true, List.mem_cons, forall_eq_or_imp, forall_eq, or_false, decide_eq_true_eq, decide_eq_false_iff_not, decide_true, decide_false, Bool.not_eq_true', Bool.not_eq_false', Bool.not_eq_eq_eq_not, wrap_i64, tdivn, tmodn]
        refine ⟨fun h => ?_, fun h => ?_⟩
        · have h' : ¬ pk (un s i) = s := by simpa using h
          exact fin_c (l := [.fsl .nil 1 [], .int .i64 4]) rfl rfl (.inr (.inl (by simp [unV, UN, h0, h1, h3, h', loosen, pack, loose1, bv])))
        · have h' : pk (un s i) = s := by simpa using h
          exact fin_c (l := [.fsl st' 1 (bv (un s i)), .int .i64 0]) rfl (by simp [pack, V.closed, closedL, bv_closed]) (.inr (.inl (by simp [unV, UN, h0, h1, h3, h', pack, loosen, loose1])))
  · exact fin_c (l := [.fsl .nil 1 [], .int .i64 1]) rfl rfl (.inr (.inl (by simp [unV, UN, h0, loosen, pack, loose1, bv])))

theorem same20 (st st' : St) (a b : List Bool) (ha : a.length ≤ 1000000000000) : PCall Try.prog 20 [.fsl st 1 (bv a), .fsl st' 1 (bv b)] (.bool (decide (a = b))) := by
  refine en20 (by simp) (by simp [closedL, V.closed, bv_closed]) ?_
  simp (maxSteps := 1000000) (disch := omega) only [xr, vr, opX, opI, look, nth, setN, find_n, find_c, pkF_t, pkF_f, Nat.reduceBEq, outO, binO, intO, strO, argsE, appd, cpyO, slcO, slsO, bndO, lo1, mnxO, bldO, bldV, andO_s, consL_s, consO_s, splice, rd, fpS, lk, isNil, AEx.exit.injEq, V.bool.injEq, List.map_nil, List.map_cons, List.nil_append, List.cons_append, List.append_nil, List.getElem?_cons_zero, List.getElem?_cons_succ, List.set_cons_zero, List.set_cons_succ, List.length_map, List.length_nil, List.length_cons, Nat.reduceEqDiff, Nat.reduceAdd, Nat.add_zero, Nat.zero_add, Int.reduceEq, Int.reduceLT, Int.reduceLE, Int.toNat_natCast, Int.natCast_nonneg, Int.reduceToNat, if_true, if_false, reduceIte, reduceCtorEq, Bool.not_true, Bool.not_false, Bool.false_eq_true, Bool.true_eq_false, true_and, and_true, and_self, ne_eq, not_false_eq_true, not_true_eq_false, false_imp_iff, true_imp_iff, imp_self, List.not_mem_nil, implies_true, List.mem_cons, forall_eq_or_imp, forall_eq, or_false, decide_eq_true_eq, decide_eq_false_iff_not, decide_true, decide_false, Bool.not_eq_true', Bool.not_eq_false', Bool.not_eq_eq_eq_not, wrap_i64, tdivn, tmodn, c20, bv_len]
  refine ⟨fun h => ?_, fun h => ?_⟩
  · have : ¬ a = b := by rintro rfl; simp at h
    exact fin_c (l := [.bool (decide (a = b))]) (by simp [resE, r20, find, this]) rfl (.inl rfl)
  · have h' : a.length = b.length := by omega
    refine x_loop (fun σ _ => ∃ i : Nat, i ≤ a.length ∧ a.take i = b.take i ∧ σ = [(0, .fsl st 1 (bv a)), (1, .fsl st' 1 (bv b)), (12, .int .i64 a.length), (13, .int .i64 i)])
      (fun σ _ => match find 13 σ with | some (.int _ n) => (a.length - n).toNat | _ => 0) ⟨0, by omega, rfl, rfl⟩ ?_
    rintro σ ⟨n, m⟩ ⟨i, hi, ht, rfl⟩
    simp (maxSteps := 1000000) (disch := omega) only [xr, vr, opX, opI, look, nth, setN, find_n, find_c, pkF_t, pkF_f, Nat.reduceBEq, outO, binO, intO, strO, argsE, appd, cpyO, slcO, slsO, bndO, lo1, mnxO, bldO, bldV, andO_s, consL_s, consO_s, splice, rd, fpS, lk, isNil, AEx.exit.injEq, V.bool.injEq, List.map_nil, List.map_cons, List.nil_append, List.cons_append, List.append_nil, List.getElem?_cons_zero, List.getElem?_cons_succ, List.set_cons_zero, List.set_cons_succ, List.length_map, List.length_nil, List.length_cons, Nat.reduceEqDiff, Nat.reduceAdd, Nat.add_zero, Nat.zero_add, Int.reduceEq, Int.reduceLT, Int.reduceLE, Int.toNat_natCast, Int.natCast_nonneg, Int.reduceToNat, if_true, if_false, reduceIte, reduceCtorEq, Bool.not_true, Bool.not_false, Bool.false_eq_true, Bool.true_eq_false, true_and, and_true, and_self, ne_eq, not_false_eq_true, not_true_eq_false, false_imp_iff, true_imp_iff, imp_self, List.not_mem_nil, implies_true, List.mem_cons, forall_eq_or_imp, forall_eq, or_false, decide_eq_true_eq, decide_eq_false_iff_not, decide_true, decide_false, Bool.not_eq_true', Bool.not_eq_false', Bool.not_eq_eq_eq_not, wrap_i64, tdivn, tmodn]
    refine ⟨fun h => ?_, fun h => ?_⟩
    · have h1 : i < a.length := by omega
      have h2 : i < b.length := by omega
      simp (maxSteps := 1000000) (disch := omega) only [xr, vr, opX, opI, look, nth, setN, find_n, find_c, pkF_t, pkF_f, Nat.reduceBEq, outO, binO, intO, strO, argsE, appd, cpyO, slcO, slsO, bndO, lo1, mnxO, bldO, bldV, andO_s, consL_s, consO_s, splice, rd, fpS, lk, isNil, AEx.exit.injEq, V.bool.injEq, List.map_nil, List.map_cons, List.nil_append, List.cons_append, List.append_nil, List.getElem?_cons_zero, List.getElem?_cons_succ, List.set_cons_zero, List.set_cons_succ, List.length_map, List.length_nil, List.length_cons, Nat.reduceEqDiff, Nat.reduceAdd, Nat.add_zero, Nat.zero_add, Int.reduceEq, Int.reduceLT, Int.reduceLE, Int.toNat_natCast, Int.natCast_nonneg, Int.reduceToNat, if_true, if_false, reduceIte, reduceCtorEq, Bool.not_true, Bool.not_false, Bool.false_eq_true, Bool.true_eq_false, true_and, and_true, and_self, ne_eq, not_false_eq_true, not_true_eq_false, false_imp_iff, true_imp_iff, imp_self, List.not_mem_nil, implies_true, List.mem_cons, forall_eq_or_imp, forall_eq, or_false, decide_eq_true_eq, decide_eq_false_iff_not, decide_true, decide_false, Bool.not_eq_true', Bool.not_eq_false', Bool.not_eq_eq_eq_not, wrap_i64, tdivn, tmodn, bv_get]
      refine ⟨fun he => ?_, fun he => ⟨⟨i + 1, by omega, ?_, rfl⟩, by omega⟩⟩
      · have hne : ¬ a = b := by rintro rfl; simp at he
        exact fin_c (l := [.bool (decide (a = b))]) (by simp [resE, r20, find, hne]) rfl (.inl rfl)
      · rw [List.take_succ_eq_append_getElem h1, List.take_succ_eq_append_getElem h2, ht]
        rw [show a[i] = b[i] by simpa using he]
    · refine x_frz0 ?_
      simp (maxSteps := 1000000) (disch := omega) only [xr, vr, opX, opI, look, nth, setN, find_n, find_c, pkF_t, pkF_f, Nat.reduceBEq, outO, binO, intO, strO, argsE, appd, cpyO, slcO, slsO, bndO, lo1, mnxO, bldO, bldV, andO_s, consL_s, consO_s, splice, rd, fpS, lk, isNil, AEx.exit.injEq, V.bool.injEq, List.map_nil, List.map_cons, List.nil_append, List.cons_append, List.append_nil, List.getElem?_cons_zero, List.getElem?_cons_succ, List.set_cons_zero, List.set_cons_succ, List.length_map, List.length_nil, List.length_cons, Nat.reduceEqDiff, Nat.reduceAdd, Nat.add_zero, Nat.zero_add, Int.reduceEq, Int.reduceLT, Int.reduceLE, Int.toNat_natCast, Int.natCast_nonneg, Int.reduceToNat, if_true, if_false, reduceIte, reduceCtorEq, Bool.not_true, Bool.not_false, Bool.false_eq_true, Bool.true_eq_false, true_and, and_true, and_self, ne_eq, not_false_eq_true, not_true_eq_false, false_imp_iff, true_imp_iff, imp_self, List.not_mem_nil, implies_true, List.mem_cons, forall_eq_or_imp, forall_eq, or_false, decide_eq_true_eq, decide_eq_false_iff_not, decide_true, decide_false, Bool.not_eq_true', Bool.not_eq_false', Bool.not_eq_eq_eq_not, wrap_i64, tdivn, tmodn]
      have : a = b := by
        rw [List.take_of_length_le (by omega), List.take_of_length_le (by omega)] at ht; exact ht
      exact fin_c (l := [.bool (decide (a = b))]) (by simp [resE, r20, find, this]) rfl (.inl rfl)

end Go.Proofs.Ytickdhdlljhomaa.Ev
