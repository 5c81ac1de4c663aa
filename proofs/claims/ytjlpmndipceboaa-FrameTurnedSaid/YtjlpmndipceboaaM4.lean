/-
  Part 4 of what the proof of the statement FrameTurned leans on: the evaluator, the functions in compact form, and what they answer.
-/
import Derived.Test.YtjlpmndipceboaaM3
section
set_option linter.unusedSimpArgs false
set_option linter.unusedVariables false
set_option maxRecDepth 10000
namespace Go.Proofs.Ytjlpmndipceboaa.Ev
open Go

abbrev B32 := BitVec 32
def poly : B32 := 0x82f63b78#32
def stepB (c : B32) : B32 := (c >>> 1) ^^^ (if c.getLsbD 0 then poly else 0#32)
def stepsB : Nat → B32 → B32
  | 0, c => c
  | n + 1, c => stepB (stepsB n c)
def byte32 (b : UInt8) : B32 := BitVec.ofNat 32 b.toNat
def byteB (c : B32) (b : UInt8) : B32 := stepsB 8 (c ^^^ byte32 b)
def bitB (c : B32) (t : Bool) : B32 := (c >>> 1) ^^^ (if c.getLsbD 0 != t then poly else 0#32)
def bitsB (b : UInt8) : Nat → B32 → B32
  | 0, c => c
  | n + 1, c => bitB (bitsB b n c) ((byte32 b).getLsbD n)
theorem bits_steps (c : B32) (b : UInt8) : ∀ n, stepsB n (c ^^^ byte32 b) = bitsB b n c ^^^ (byte32 b >>> n)
  | 0 => by simp [stepsB, bitsB]
  | n + 1 => by
    rw [stepsB, bits_steps c b n, stepB, bitsB, bitB, BitVec.ushiftRight_xor_distrib, BitVec.getLsbD_xor, BitVec.shiftRight_add]
    simp only [BitVec.getLsbD_ushiftRight, Nat.add_zero]
    rw [show ((bitsB b n c).getLsbD 0 ^^ (byte32 b).getLsbD n) = ((bitsB b n c).getLsbD 0 != (byte32 b).getLsbD n) from rfl, BitVec.xor_assoc, BitVec.xor_assoc]
    congr 1
    rw [BitVec.xor_comm]
theorem byte32_shift (b : UInt8) : byte32 b >>> 8 = 0#32 := by
  have := b.toNat_lt
  apply BitVec.eq_of_toNat_eq
  simp [byte32, Nat.shiftRight_eq_div_pow]; omega
theorem bits_byte (c : B32) (b : UInt8) : bitsB b 8 c = byteB c b := by
  rw [byteB, bits_steps, byte32_shift]; simp
def onS (c : B32) (s : Str) : B32 := ~~~ (s.foldl byteB (~~~ c))
def crcS (s : Str) : B32 := onS 0#32 s

def w32 (c : B32) : V := .int .u32 c.toNat
theorem wrap_32 (c : B32) : IntKind.u32.wrap (c.toNat : Int) = c.toNat := by
  have := c.isLt
  simp [IntKind.wrap, IntKind.bits, IntKind.signed]; omega
theorem bits_xor (a b : B32) : bits2 .xor .u32 (a.toNat : Int) (b.toNat : Int) = ((a ^^^ b).toNat : Int) := by
  show IntKind.u32.wrap (((BitVec.ofInt 32 (a.toNat : Int) ^^^ BitVec.ofInt 32 (b.toNat : Int)) : BitVec 32).toNat : Int) = _
  rw [BitVec.ofInt_natCast, BitVec.ofInt_natCast, BitVec.ofNat_toNat, BitVec.ofNat_toNat, BitVec.setWidth_eq, BitVec.setWidth_eq]
  exact wrap_32 _
theorem bits_and (a b : B32) : bits2 .and .u32 (a.toNat : Int) (b.toNat : Int) = ((a &&& b).toNat : Int) := by
  show IntKind.u32.wrap (((BitVec.ofInt 32 (a.toNat : Int) &&& BitVec.ofInt 32 (b.toNat : Int)) : BitVec 32).toNat : Int) = _
  rw [BitVec.ofInt_natCast, BitVec.ofInt_natCast, BitVec.ofNat_toNat, BitVec.ofNat_toNat, BitVec.setWidth_eq, BitVec.setWidth_eq]
  exact wrap_32 _

theorem low_bit (c : B32) : (c &&& 1#32) = if c.getLsbD 0 then 1#32 else 0#32 := by
  apply BitVec.eq_of_toNat_eq
  have h : c.getLsbD 0 = decide (c.toNat % 2 = 1) := by simp [BitVec.getLsbD, Nat.testBit_zero]
  rw [h]
  simp only [BitVec.toNat_and, BitVec.toNat_ofNat]
  have : c.toNat &&& 1 = c.toNat % 2 := Nat.and_one_is_mod _
  by_cases k : c.toNat % 2 = 1
  · simp [k, this]
  · simp [k, this]; omega
theorem neg_bit (c : B32) : IntKind.u32.wrap (0 - ((c &&& 1#32).toNat : Int)) = ((if c.getLsbD 0 then BitVec.allOnes 32 else 0#32).toNat : Int) := by
  rw [low_bit]
  cases c.getLsbD 0 <;> rfl
theorem half (c : B32) : ((c.toNat : Int).fdiv (2 ^ min 1 32)) = ((c >>> 1).toNat : Int) := by
  simp [Nat.shiftRight_eq_div_pow, Int.fdiv_eq_ediv_of_nonneg]
theorem step_eq (c : B32) : ((c >>> 1) ^^^ (poly &&& (if c.getLsbD 0 then BitVec.allOnes 32 else 0#32))) = stepB c := by
  unfold stepB
  cases c.getLsbD 0
  · show (c >>> 1) ^^^ (poly &&& 0#32) = _; rw [BitVec.and_zero]; rfl
  · show (c >>> 1) ^^^ (poly &&& BitVec.allOnes 32) = _; rw [BitVec.and_allOnes]; rfl
theorem byte_cast (b : UInt8) : IntKind.u32.wrap (b.toNat : Int) = ((byte32 b).toNat : Int) := by
  have := b.toNat_lt
  simp [byte32, IntKind.wrap, IntKind.bits, IntKind.signed]; omega
theorem poly_val : ((2197175160 : Int)) = (poly.toNat : Int) := rfl
theorem one_val : ((1 : Int)) = ((1#32).toNat : Int) := rfl
theorem not_32 (c : B32) : bits2 .xor .u32 (4294967295 : Int) (c.toNat : Int) = ((~~~ c).toNat : Int) := by
  rw [show (4294967295 : Int) = ((BitVec.allOnes 32).toNat : Int) from rfl, bits_xor, BitVec.allOnes_xor]

theorem max_32 : (2 ^ 32 - 1 : Int) = 4294967295 := rfl
theorem sum_on (c : B32) (s : Str) (hs : s.length ≤ 1000000000) : PCall Try.prog 87 [w32 c, .str s] (w32 (onS c s)) := by
  refine en87 (by simp) (by simp [closedL, V.closed, w32]) ?_
  simp (maxSteps := 1000000) (disch := omega) only [rg, gD, Nat.reduceBEq, Nat.reduceEqDiff, Nat.reduceAdd, Int.reduceEq, Int.reduceLT, Int.reduceLE, Int.reduceToNat, reduceIte, reduceCtorEq, Nat.reduceLeDiff, Nat.reduceLT, Nat.reduceMul, Nat.reduceSub, c87, w32, u8_fold, u8V_len, IntKind.signed, IntKind.max, IntKind.bits, max_32, not_32]
  refine x_itp s.length (fun _ => True) (fun i => [(5, .int .u32 (((s.take i).foldl byteB (~~~ c)).toNat)), (11, .fsl .loose 1 (u8V s)), (12, .int .i64 s.length), (13, .int .i64 i)]) trivial rfl ?_
  intro T i hi _ hN hX hR
  simp (maxSteps := 1000000) (disch := omega) only [rg, gD, Nat.reduceBEq, Nat.reduceEqDiff, Nat.reduceAdd, Int.reduceEq, Int.reduceLT, Int.reduceLE, Int.reduceToNat, reduceIte, reduceCtorEq, Nat.reduceLeDiff, Nat.reduceLT, Nat.reduceMul, Nat.reduceSub]
  refine ⟨fun h => ?_, fun h => ?_⟩
  · have i1 : i < s.length := by omega
    simp (maxSteps := 1000000) (disch := omega) only [rg, gD, Nat.reduceBEq, Nat.reduceEqDiff, Nat.reduceAdd, Int.reduceEq, Int.reduceLT, Int.reduceLE, Int.reduceToNat, reduceIte, reduceCtorEq, Nat.reduceLeDiff, Nat.reduceLT, Nat.reduceMul, Nat.reduceSub, u8V_get, byte_cast, bits_xor]
    refine x_itp 8 (fun _ => True) (fun j => [(5, .int .u32 ((stepsB j (((s.take i).foldl byteB (~~~ c)) ^^^ byte32 s[i])).toNat)), (11, .fsl .loose 1 (u8V s)), (12, .int .i64 s.length), (13, .int .i64 i), (21, .int .i64 j)]) trivial rfl ?_
    intro T2 j hj _ hN2 hX2 hR2
    have hstep : stepsB (j + 1) (((s.take i).foldl byteB (~~~ c)) ^^^ byte32 s[i]) = stepB (stepsB j (((s.take i).foldl byteB (~~~ c)) ^^^ byte32 s[i])) := rfl
    generalize hd : stepsB j (((s.take i).foldl byteB (~~~ c)) ^^^ byte32 s[i]) = d at hstep ⊢
    have e1 : bits2 .and .u32 (d.toNat : Int) 1 = ((d &&& 1#32).toNat : Int) := bits_and d 1#32
    have e2 := half d
    have e3 : ∀ x : B32, bits2 .and .u32 2197175160 (x.toNat : Int) = ((poly &&& x).toNat : Int) := fun x => bits_and poly x
    simp (maxSteps := 1000000) (disch := omega) only [rg, gD, Nat.reduceBEq, Nat.reduceEqDiff, Nat.reduceAdd, Int.reduceEq, Int.reduceLT, Int.reduceLE, Int.reduceToNat, reduceIte, reduceCtorEq, Nat.reduceLeDiff, Nat.reduceLT, Nat.reduceMul, Nat.reduceSub]
    refine ⟨fun h2 => ?_, fun h2 => ?_⟩
    · simp (maxSteps := 1000000) (disch := omega) only [rg, gD, Nat.reduceBEq, Nat.reduceEqDiff, Nat.reduceAdd, Int.reduceEq, Int.reduceLT, Int.reduceLE, Int.reduceToNat, reduceIte, reduceCtorEq, Nat.reduceLeDiff, Nat.reduceLT, Nat.reduceMul, Nat.reduceSub, e1, neg_bit, e3, IntKind.bits, show (1 : Int).toNat = 1 from rfl, e2, bits_xor, step_eq]
      exact hN2 _ (by omega) trivial (by rw [hstep]; rfl)
    · obtain rfl : j = 8 := by omega
      refine hX2 _ _ _ ?_
      simp (maxSteps := 1000000) (disch := omega) only [rg, gD, Nat.reduceBEq, Nat.reduceEqDiff, Nat.reduceAdd, Int.reduceEq, Int.reduceLT, Int.reduceLE, Int.reduceToNat, reduceIte, reduceCtorEq, Nat.reduceLeDiff, Nat.reduceLT, Nat.reduceMul, Nat.reduceSub]
      refine x_frz0 ?_
      simp (maxSteps := 1000000) (disch := omega) only [rg, gD, Nat.reduceBEq, Nat.reduceEqDiff, Nat.reduceAdd, Int.reduceEq, Int.reduceLT, Int.reduceLE, Int.reduceToNat, reduceIte, reduceCtorEq, Nat.reduceLeDiff, Nat.reduceLT, Nat.reduceMul, Nat.reduceSub]
      refine hN _ i1 trivial ?_
      rw [List.take_succ_eq_append_getElem i1, List.foldl_append]
      show _ = [(5, V.int .u32 ((byteB _ s[i]).toNat : Int)), _, _, _]
      rw [byteB, hd]
      rfl
  · obtain rfl : i = s.length := by omega
    rw [List.take_length]
    refine hX _ _ _ ?_
    simp (maxSteps := 1000000) (disch := omega) only [rg, gD, Nat.reduceBEq, Nat.reduceEqDiff, Nat.reduceAdd, Int.reduceEq, Int.reduceLT, Int.reduceLE, Int.reduceToNat, reduceIte, reduceCtorEq, Nat.reduceLeDiff, Nat.reduceLT, Nat.reduceMul, Nat.reduceSub]
    refine x_frz0 ?_
    simp (maxSteps := 1000000) (disch := omega) only [rg, gD, Nat.reduceBEq, Nat.reduceEqDiff, Nat.reduceAdd, Int.reduceEq, Int.reduceLT, Int.reduceLE, Int.reduceToNat, reduceIte, reduceCtorEq, Nat.reduceLeDiff, Nat.reduceLT, Nat.reduceMul, Nat.reduceSub, IntKind.signed, IntKind.max, IntKind.bits, max_32, not_32]
    (refine fin_x rfl ?_ ?_ <;> simp [pack, lo, loL, V.closed, closedL, mv_closed, onS])

theorem sum_of (st : St) (l : List Str) (hl : l.length ≤ 1000) (hs : ∀ s ∈ l, s.length ≤ 1000000000) : PCall Try.prog 80 [.fsl st 1 (vS l)] (w32 (l.foldl onS 0#32)) := by
  refine en80 (by simp) (by simp [closedL, V.closed, vS_closed]) ?_
  simp (maxSteps := 1000000) (disch := omega) only [rg, gD, Nat.reduceBEq, Nat.reduceEqDiff, Nat.reduceAdd, Int.reduceEq, Int.reduceLT, Int.reduceLE, Int.reduceToNat, reduceIte, reduceCtorEq, Nat.reduceLeDiff, Nat.reduceLT, Nat.reduceMul, Nat.reduceSub, c80, vS]
  refine x_itp l.length (fun _ => True) (fun i => [(3, w32 ((l.take i).foldl onS 0#32)), (6, .fsl st 1 (mv V.str l)), (7, .int .i64 l.length), (8, .int .i64 i)]) trivial rfl ?_
  intro T i hi _ hN hX hR
  simp (maxSteps := 1000000) (disch := omega) only [rg, gD, Nat.reduceBEq, Nat.reduceEqDiff, Nat.reduceAdd, Int.reduceEq, Int.reduceLT, Int.reduceLE, Int.reduceToNat, reduceIte, reduceCtorEq, Nat.reduceLeDiff, Nat.reduceLT, Nat.reduceMul, Nat.reduceSub]
  refine ⟨fun h => ?_, fun h => ?_⟩
  · have i1 : i < l.length := by omega
    simp (maxSteps := 1000000) (disch := omega) only [rg, gD, Nat.reduceBEq, Nat.reduceEqDiff, Nat.reduceAdd, Int.reduceEq, Int.reduceLT, Int.reduceLE, Int.reduceToNat, reduceIte, reduceCtorEq, Nat.reduceLeDiff, Nat.reduceLT, Nat.reduceMul, Nat.reduceSub]
    refine ⟨_, sum_on _ l[i] (hs _ (List.getElem_mem i1)), ?_⟩
    simp (maxSteps := 1000000) (disch := omega) only [rg, gD, Nat.reduceBEq, Nat.reduceEqDiff, Nat.reduceAdd, Int.reduceEq, Int.reduceLT, Int.reduceLE, Int.reduceToNat, reduceIte, reduceCtorEq, Nat.reduceLeDiff, Nat.reduceLT, Nat.reduceMul, Nat.reduceSub]
    refine hN _ i1 trivial ?_
    rw [List.take_succ_eq_append_getElem i1, List.foldl_append]
    rfl
  · obtain rfl : i = l.length := by omega
    rw [List.take_length]
    refine hX _ _ _ ?_
    simp (maxSteps := 1000000) (disch := omega) only [rg, gD, Nat.reduceBEq, Nat.reduceEqDiff, Nat.reduceAdd, Int.reduceEq, Int.reduceLT, Int.reduceLE, Int.reduceToNat, reduceIte, reduceCtorEq, Nat.reduceLeDiff, Nat.reduceLT, Nat.reduceMul, Nat.reduceSub]
    refine x_frz0 ?_
    simp (maxSteps := 1000000) (disch := omega) only [rg, gD, Nat.reduceBEq, Nat.reduceEqDiff, Nat.reduceAdd, Int.reduceEq, Int.reduceLT, Int.reduceLE, Int.reduceToNat, reduceIte, reduceCtorEq, Nat.reduceLeDiff, Nat.reduceLT, Nat.reduceMul, Nat.reduceSub]
    (refine fin_x rfl ?_ ?_ <;> simp [pack, lo, loL, V.closed, closedL, mv_closed, w32])

def le4 (c : B32) : Str := [UInt8.ofNat (c.toNat % 256), UInt8.ofNat (c.toNat / 256 % 256), UInt8.ofNat (c.toNat / 65536 % 256), UInt8.ofNat (c.toNat / 16777216 % 256)]
def sealS (s : Str) : Str := s ++ le4 (crcS s)
def openS (s : Str) : Str × Int := if s.length < 4 then ([], 3) else if sealS (s.take (s.length - 4)) ≠ s then ([], 41) else (s.take (s.length - 4), 0)

theorem sum_seal (s : Str) (hs : s.length ≤ 1000000000) : PCall Try.prog 56 [.str s] (.str (sealS s)) := by
  refine en56 (by simp) (by simp [closedL, V.closed]) ?_
  simp (maxSteps := 1000000) (disch := omega) only [rg, gD, Nat.reduceBEq, Nat.reduceEqDiff, Nat.reduceAdd, Int.reduceEq, Int.reduceLT, Int.reduceLE, Int.reduceToNat, reduceIte, reduceCtorEq, Nat.reduceLeDiff, Nat.reduceLT, Nat.reduceMul, Nat.reduceSub, c56]
  refine ⟨_, sum_of .full [s] (by simp) (by simpa using hs), ?_⟩
  simp only [List.foldl_cons, List.foldl_nil]
  have hc : onS 0#32 s = crcS s := rfl
  rw [hc]
  have h := (crcS s).isLt
  have hle : (le4 (crcS s)).length = 4 := rfl
  have q0 : IntKind.u8.wrap ((crcS s).toNat : Int) = ((UInt8.ofNat ((crcS s).toNat % 256)).toNat : Int) := wrap_u8 _
  have q1 : IntKind.u8.wrap (((crcS s).toNat : Int).fdiv (2 ^ min 8 32)) = ((UInt8.ofNat ((crcS s).toNat / 256 % 256)).toNat : Int) := by
    rw [← wrap_u8, Int.fdiv_eq_ediv_of_nonneg _ (by simp)]; simp
  have q2 : IntKind.u8.wrap (((crcS s).toNat : Int).fdiv (2 ^ min 16 32)) = ((UInt8.ofNat ((crcS s).toNat / 65536 % 256)).toNat : Int) := by
    rw [← wrap_u8, Int.fdiv_eq_ediv_of_nonneg _ (by simp)]; simp
  have q3 : IntKind.u8.wrap (((crcS s).toNat : Int).fdiv (2 ^ min 24 32)) = ((UInt8.ofNat ((crcS s).toNat / 16777216 % 256)).toNat : Int) := by
    rw [← wrap_u8, Int.fdiv_eq_ediv_of_nonneg _ (by simp)]; simp
  simp (maxSteps := 1000000) (disch := omega) only [rg, gD, Nat.reduceBEq, Nat.reduceEqDiff, Nat.reduceAdd, Int.reduceEq, Int.reduceLT, Int.reduceLE, Int.reduceToNat, reduceIte, reduceCtorEq, Nat.reduceLeDiff, Nat.reduceLT, Nat.reduceMul, Nat.reduceSub, w32, IntKind.bits, q0, q1, q2, q3]
  refine ⟨le4 (crcS s), rfl, ?_⟩
  simp (maxSteps := 1000000) (disch := omega) only [rg, gD, Nat.reduceBEq, Nat.reduceEqDiff, Nat.reduceAdd, Int.reduceEq, Int.reduceLT, Int.reduceLE, Int.reduceToNat, reduceIte, reduceCtorEq, Nat.reduceLeDiff, Nat.reduceLT, Nat.reduceMul, Nat.reduceSub]
  refine ⟨_, code_all .full [s, le4 (crcS s)] (by simp) (by simp [hle]; omega), ?_⟩
  simp (maxSteps := 1000000) (disch := omega) only [rg, gD, Nat.reduceBEq, Nat.reduceEqDiff, Nat.reduceAdd, Int.reduceEq, Int.reduceLT, Int.reduceLE, Int.reduceToNat, reduceIte, reduceCtorEq, Nat.reduceLeDiff, Nat.reduceLT, Nat.reduceMul, Nat.reduceSub]
  (refine fin_x rfl ?_ ?_ <;> simp [pack, lo, loL, V.closed, closedL, mv_closed, sealS])

theorem sum_open (s : Str) (hs : s.length ≤ 1000000000) : PCall Try.prog 63 [.str s] (sV (openS s)) := by
  refine en63 (by simp) (by simp [closedL, V.closed]) ?_
  simp (maxSteps := 1000000) (disch := omega) only [rg, gD, Nat.reduceBEq, Nat.reduceEqDiff, Nat.reduceAdd, Int.reduceEq, Int.reduceLT, Int.reduceLE, Int.reduceToNat, reduceIte, reduceCtorEq, Nat.reduceLeDiff, Nat.reduceLT, Nat.reduceMul, Nat.reduceSub, c63]
  refine ⟨fun h => ?_, fun h => ?_⟩
  · (refine fin_x rfl ?_ ?_ <;> simp [pack, lo, loL, V.closed, closedL, mv_closed, sV, openS, show s.length < 4 by omega])
  · have h4 : ¬ s.length < 4 := by omega
    have e : ((s.length : Int) - 4).toNat = s.length - 4 := by omega
    simp (maxSteps := 1000000) (disch := omega) only [rg, gD, Nat.reduceBEq, Nat.reduceEqDiff, Nat.reduceAdd, Int.reduceEq, Int.reduceLT, Int.reduceLE, Int.reduceToNat, reduceIte, reduceCtorEq, Nat.reduceLeDiff, Nat.reduceLT, Nat.reduceMul, Nat.reduceSub, e]
    refine ⟨by omega, _, sum_seal (s.take (s.length - 4)) (by simp; omega), ?_⟩
    simp (maxSteps := 1000000) (disch := omega) only [rg, gD, Nat.reduceBEq, Nat.reduceEqDiff, Nat.reduceAdd, Int.reduceEq, Int.reduceLT, Int.reduceLE, Int.reduceToNat, reduceIte, reduceCtorEq, Nat.reduceLeDiff, Nat.reduceLT, Nat.reduceMul, Nat.reduceSub]
    refine ⟨fun h2 => ?_, fun h2 => ?_⟩
    · (refine fin_x rfl ?_ ?_ <;> simp [pack, lo, loL, V.closed, closedL, mv_closed, sV, openS, h4, h2])
    · refine ⟨by omega, ?_⟩
      (refine fin_x rfl ?_ ?_ <;> simp [pack, lo, loL, V.closed, closedL, mv_closed, sV, openS, h4, h2, e])

theorem byte32_toNat (b : UInt8) : (byte32 b).toNat = b.toNat := by
  have := b.toNat_lt
  simp [byte32]
theorem bit_cast (b : UInt8) (k : Nat) (hk : k < 8) : (((byte32 b).toNat : Int).fdiv (2 ^ min (IntKind.u64.wrap (k : Int)).toNat 32)).tmod 2 = if (byte32 b).getLsbD k then 1 else 0 := by
  have hw : IntKind.u64.wrap (k : Int) = k := by simp [IntKind.wrap, IntKind.bits, IntKind.signed]; omega
  rw [hw, byte32_toNat, show min (k : Int).toNat 32 = k by omega, Int.fdiv_eq_ediv_of_nonneg _ (Int.pow_nonneg (by omega)), Int.tmod_eq_emod_of_nonneg (Int.ediv_nonneg (by omega) (Int.pow_nonneg (by omega)))]
  have e : (byte32 b).getLsbD k = decide (b.toNat / 2 ^ k % 2 = 1) := by
    simp only [byte32, BitVec.getLsbD_ofNat, Nat.testBit_eq_decide_div_mod_eq]
    simp; omega
  rw [e, show ((b.toNat : Int) / 2 ^ k % 2) = ((b.toNat / 2 ^ k % 2 : Nat) : Int) by norm_cast]
  by_cases h : b.toNat / 2 ^ k % 2 = 1
  · simp [h]
  · have : b.toNat / 2 ^ k % 2 = 0 := by omega
    simp [this]
theorem low_cast (c : B32) : ((c.toNat : Int) % 2) = if c.getLsbD 0 then 1 else 0 := by
  have h : c.getLsbD 0 = decide (c.toNat % 2 = 1) := by simp [BitVec.getLsbD, Nat.testBit_zero]
  rw [h]
  by_cases k : c.toNat % 2 = 1
  · simp [k]; omega
  · simp [k]; omega
theorem half2 (c : B32) : (Nat.cast c.toNat : Int) / (2 : Int) = ((c >>> 1).toNat : Int) := by
  simp [Nat.shiftRight_eq_div_pow]
theorem not_sub (c : B32) : (4294967295 : Int) - (c.toNat : Int) = ((~~~ c).toNat : Int) := by
  have := c.isLt
  rw [BitVec.toNat_not]; omega
theorem xor_poly (c : B32) : bits2 .xor .u32 (c.toNat : Int) 2197175160 = ((c ^^^ poly).toNat : Int) := bits_xor c poly

theorem ref_on (c : B32) (s : Str) (hs : s.length ≤ 1000000000) : PCall Try.prog 82 [w32 c, .str s] (w32 (onS c s)) := by
  refine en82 (by simp) (by simp [closedL, V.closed, w32]) ?_
  simp (maxSteps := 1000000) (disch := omega) only [rg, gD, Nat.reduceBEq, Nat.reduceEqDiff, Nat.reduceAdd, Int.reduceEq, Int.reduceLT, Int.reduceLE, Int.reduceToNat, reduceIte, reduceCtorEq, Nat.reduceLeDiff, Nat.reduceLT, Nat.reduceMul, Nat.reduceSub, c82, w32, not_sub, wrap_32]
  refine x_itp s.length (fun _ => True) (fun i => [(1, .str s), (5, .int .u32 (((s.take i).foldl byteB (~~~ c)).toNat)), (6, .int .i64 i)]) trivial rfl ?_
  intro T i hi _ hN hX hR
  simp (maxSteps := 1000000) (disch := omega) only [rg, gD, Nat.reduceBEq, Nat.reduceEqDiff, Nat.reduceAdd, Int.reduceEq, Int.reduceLT, Int.reduceLE, Int.reduceToNat, reduceIte, reduceCtorEq, Nat.reduceLeDiff, Nat.reduceLT, Nat.reduceMul, Nat.reduceSub]
  refine ⟨fun h => ?_, fun h => ?_⟩
  · have i1 : i < s.length := by omega
    refine x_itp 8 (fun _ => True) (fun j => [(1, .str s), (5, .int .u32 ((bitsB s[i] j ((s.take i).foldl byteB (~~~ c))).toNat)), (6, .int .i64 i), (7, .int .i64 j)]) trivial rfl ?_
    intro T2 j hj _ hN2 hX2 hR2
    have hstep : bitsB s[i] (j + 1) ((s.take i).foldl byteB (~~~ c)) = bitB (bitsB s[i] j ((s.take i).foldl byteB (~~~ c))) ((byte32 s[i]).getLsbD j) := rfl
    generalize hd : bitsB s[i] j ((s.take i).foldl byteB (~~~ c)) = d at hstep ⊢
    have hget : s[i]? = some s[i] := by simp [i1]
    simp (maxSteps := 1000000) (disch := omega) only [rg, gD, Nat.reduceBEq, Nat.reduceEqDiff, Nat.reduceAdd, Int.reduceEq, Int.reduceLT, Int.reduceLE, Int.reduceToNat, reduceIte, reduceCtorEq, Nat.reduceLeDiff, Nat.reduceLT, Nat.reduceMul, Nat.reduceSub]
    refine ⟨fun h2 => ?_, fun h2 => ?_⟩
    · have hj8 : j < 8 := by omega
      have hw : 0 ≤ IntKind.u64.wrap (j : Int) := by simp [IntKind.wrap, IntKind.bits, IntKind.signed]; omega
      simp (maxSteps := 1000000) (disch := omega) only [rg, gD, Nat.reduceBEq, Nat.reduceEqDiff, Nat.reduceAdd, Int.reduceEq, Int.reduceLT, Int.reduceLE, Int.reduceToNat, reduceIte, reduceCtorEq, Nat.reduceLeDiff, Nat.reduceLT, Nat.reduceMul, Nat.reduceSub, hget, byte_cast, IntKind.bits]
      refine ⟨hw, fun h3 => ?_, fun h3 => ?_⟩
      · rw [low_cast, bit_cast _ _ hj8] at h3
        rw [half2, wrap_32, xor_poly]
        refine hN2 _ hj8 trivial ?_
        have hc : (d.getLsbD 0 != (byte32 s[i]).getLsbD j) = true := by revert h3; cases d.getLsbD 0 <;> cases (byte32 s[i]).getLsbD j <;> simp
        rw [hstep, bitB, hc]
        rfl
      · rw [low_cast, bit_cast _ _ hj8] at h3
        rw [half2, wrap_32]
        refine hN2 _ hj8 trivial ?_
        have hc : (d.getLsbD 0 != (byte32 s[i]).getLsbD j) = false := by revert h3; cases d.getLsbD 0 <;> cases (byte32 s[i]).getLsbD j <;> simp
        rw [hstep, bitB, hc]
        rw [if_neg (by simp), BitVec.xor_zero]; rfl
    · obtain rfl : j = 8 := by omega
      refine hX2 _ _ _ ?_
      simp (maxSteps := 1000000) (disch := omega) only [rg, gD, Nat.reduceBEq, Nat.reduceEqDiff, Nat.reduceAdd, Int.reduceEq, Int.reduceLT, Int.reduceLE, Int.reduceToNat, reduceIte, reduceCtorEq, Nat.reduceLeDiff, Nat.reduceLT, Nat.reduceMul, Nat.reduceSub]
      refine x_frz0 ?_
      simp (maxSteps := 1000000) (disch := omega) only [rg, gD, Nat.reduceBEq, Nat.reduceEqDiff, Nat.reduceAdd, Int.reduceEq, Int.reduceLT, Int.reduceLE, Int.reduceToNat, reduceIte, reduceCtorEq, Nat.reduceLeDiff, Nat.reduceLT, Nat.reduceMul, Nat.reduceSub]
      refine hN _ i1 trivial ?_
      rw [List.take_succ_eq_append_getElem i1, List.foldl_append]
      show _ = [_, (5, V.int .u32 ((byteB _ s[i]).toNat : Int)), _]
      rw [← bits_byte, hd]
      rfl
  · obtain rfl : i = s.length := by omega
    rw [List.take_length]
    refine hX _ _ _ ?_
    simp (maxSteps := 1000000) (disch := omega) only [rg, gD, Nat.reduceBEq, Nat.reduceEqDiff, Nat.reduceAdd, Int.reduceEq, Int.reduceLT, Int.reduceLE, Int.reduceToNat, reduceIte, reduceCtorEq, Nat.reduceLeDiff, Nat.reduceLT, Nat.reduceMul, Nat.reduceSub]
    refine x_frz0 ?_
    simp (maxSteps := 1000000) (disch := omega) only [rg, gD, Nat.reduceBEq, Nat.reduceEqDiff, Nat.reduceAdd, Int.reduceEq, Int.reduceLT, Int.reduceLE, Int.reduceToNat, reduceIte, reduceCtorEq, Nat.reduceLeDiff, Nat.reduceLT, Nat.reduceMul, Nat.reduceSub, not_sub, wrap_32]
    (refine fin_x rfl ?_ ?_ <;> simp [pack, lo, loL, V.closed, closedL, mv_closed, onS])

theorem ref_of (s : Str) (hs : s.length ≤ 1000000000) : PCall Try.prog 62 [.str s] (w32 (crcS s)) := by
  refine en62 (by simp) (by simp [closedL, V.closed]) ?_
  have k := ref_on 0#32 s hs
  simp (maxSteps := 1000000) (disch := omega) only [rg, gD, Nat.reduceBEq, Nat.reduceEqDiff, Nat.reduceAdd, Int.reduceEq, Int.reduceLT, Int.reduceLE, Int.reduceToNat, reduceIte, reduceCtorEq, Nat.reduceLeDiff, Nat.reduceLT, Nat.reduceMul, Nat.reduceSub, c62]
  refine ⟨_, k, ?_⟩
  simp (maxSteps := 1000000) (disch := omega) only [rg, gD, Nat.reduceBEq, Nat.reduceEqDiff, Nat.reduceAdd, Int.reduceEq, Int.reduceLT, Int.reduceLE, Int.reduceToNat, reduceIte, reduceCtorEq, Nat.reduceLeDiff, Nat.reduceLT, Nat.reduceMul, Nat.reduceSub]
  (refine fin_x rfl ?_ ?_ <;> simp [pack, lo, loL, V.closed, closedL, mv_closed, w32, crcS])

theorem ref_seal (s : Str) (hs : s.length ≤ 1000000000) : PCall Try.prog 33 [.str s] (.str (sealS s)) := by
  refine en33 (by simp) (by simp [closedL, V.closed]) ?_
  simp (maxSteps := 1000000) (disch := omega) only [rg, gD, Nat.reduceBEq, Nat.reduceEqDiff, Nat.reduceAdd, Int.reduceEq, Int.reduceLT, Int.reduceLE, Int.reduceToNat, reduceIte, reduceCtorEq, Nat.reduceLeDiff, Nat.reduceLT, Nat.reduceMul, Nat.reduceSub, c33]
  refine ⟨_, ref_of s hs, ?_⟩
  have h := (crcS s).isLt
  have q0 : IntKind.u8.wrap (((crcS s).toNat : Int) % 256) = ((UInt8.ofNat ((crcS s).toNat % 256)).toNat : Int) := by
    rw [show (((crcS s).toNat : Int) % 256) = (((crcS s).toNat % 256 : Nat) : Int) by omega, wrap_u8, Nat.mod_mod]
  have q1 : IntKind.u8.wrap (((crcS s).toNat : Int) / 256 % 256) = ((UInt8.ofNat ((crcS s).toNat / 256 % 256)).toNat : Int) := by
    rw [show (((crcS s).toNat : Int) / 256 % 256) = (((crcS s).toNat / 256 % 256 : Nat) : Int) by omega, wrap_u8, Nat.mod_mod]
  have q2 : IntKind.u8.wrap (((crcS s).toNat : Int) / 65536 % 256) = ((UInt8.ofNat ((crcS s).toNat / 65536 % 256)).toNat : Int) := by
    rw [show (((crcS s).toNat : Int) / 65536 % 256) = (((crcS s).toNat / 65536 % 256 : Nat) : Int) by omega, wrap_u8, Nat.mod_mod]
  have q3 : IntKind.u8.wrap (((crcS s).toNat : Int) / 16777216) = ((UInt8.ofNat ((crcS s).toNat / 16777216 % 256)).toNat : Int) := by
    rw [show (((crcS s).toNat : Int) / 16777216) = (((crcS s).toNat / 16777216 : Nat) : Int) by omega, wrap_u8]
  have e1 : IntKind.u32.wrap (((crcS s).toNat : Int) / 256) = ((crcS s).toNat : Int) / 256 := by simp [IntKind.wrap, IntKind.bits, IntKind.signed]; omega
  have e2 : IntKind.u32.wrap (((crcS s).toNat : Int) / 65536) = ((crcS s).toNat : Int) / 65536 := by simp [IntKind.wrap, IntKind.bits, IntKind.signed]; omega
  have e3 : IntKind.u32.wrap (((crcS s).toNat : Int) / 16777216) = ((crcS s).toNat : Int) / 16777216 := by simp [IntKind.wrap, IntKind.bits, IntKind.signed]; omega
  simp (maxSteps := 1000000) (disch := omega) only [rg, gD, Nat.reduceBEq, Nat.reduceEqDiff, Nat.reduceAdd, Int.reduceEq, Int.reduceLT, Int.reduceLE, Int.reduceToNat, reduceIte, reduceCtorEq, Nat.reduceLeDiff, Nat.reduceLT, Nat.reduceMul, Nat.reduceSub, w32, e1, e2, e3, q0, q1, q2, q3]
  refine ⟨le4 (crcS s), rfl, ?_⟩
  simp (maxSteps := 1000000) (disch := omega) only [rg, gD, Nat.reduceBEq, Nat.reduceEqDiff, Nat.reduceAdd, Int.reduceEq, Int.reduceLT, Int.reduceLE, Int.reduceToNat, reduceIte, reduceCtorEq, Nat.reduceLeDiff, Nat.reduceLT, Nat.reduceMul, Nat.reduceSub]
  refine ⟨by simp [le4]; omega, ?_⟩
  (refine fin_x rfl ?_ ?_ <;> simp [pack, lo, loL, V.closed, closedL, mv_closed, sealS])

theorem ref_open (s : Str) (hs : s.length ≤ 1000000000) : PCall Try.prog 39 [.str s] (sV (openS s)) := by
  refine en39 (by simp) (by simp [closedL, V.closed]) ?_
  simp (maxSteps := 1000000) (disch := omega) only [rg, gD, Nat.reduceBEq, Nat.reduceEqDiff, Nat.reduceAdd, Int.reduceEq, Int.reduceLT, Int.reduceLE, Int.reduceToNat, reduceIte, reduceCtorEq, Nat.reduceLeDiff, Nat.reduceLT, Nat.reduceMul, Nat.reduceSub, c39]
  refine ⟨fun h => ?_, fun h => ?_⟩
  · (refine fin_x rfl ?_ ?_ <;> simp [pack, lo, loL, V.closed, closedL, mv_closed, sV, openS, show s.length < 4 by omega])
  · have h4 : ¬ s.length < 4 := by omega
    have e : ((s.length : Int) - 4).toNat = s.length - 4 := by omega
    simp (maxSteps := 1000000) (disch := omega) only [rg, gD, Nat.reduceBEq, Nat.reduceEqDiff, Nat.reduceAdd, Int.reduceEq, Int.reduceLT, Int.reduceLE, Int.reduceToNat, reduceIte, reduceCtorEq, Nat.reduceLeDiff, Nat.reduceLT, Nat.reduceMul, Nat.reduceSub, e]
    refine ⟨by omega, _, ref_seal (s.take (s.length - 4)) (by simp; omega), ?_⟩
    simp (maxSteps := 1000000) (disch := omega) only [rg, gD, Nat.reduceBEq, Nat.reduceEqDiff, Nat.reduceAdd, Int.reduceEq, Int.reduceLT, Int.reduceLE, Int.reduceToNat, reduceIte, reduceCtorEq, Nat.reduceLeDiff, Nat.reduceLT, Nat.reduceMul, Nat.reduceSub]
    refine ⟨fun h2 => ?_, fun h2 => ?_⟩
    · (refine fin_x rfl ?_ ?_ <;> simp [pack, lo, loL, V.closed, closedL, mv_closed, sV, openS, h4, h2])
    · (refine fin_x rfl ?_ ?_ <;> simp [pack, lo, loL, V.closed, closedL, mv_closed, sV, openS, h4, h2])

end Go.Proofs.Ytjlpmndipceboaa.Ev
end
section
set_option linter.unusedSimpArgs false
set_option linter.unusedVariables false
set_option maxRecDepth 10000
namespace Go.Proofs.Ytjlpmndipceboaa.Ev
open Go

def bit1 (t : Bool) : B32 := if t then 1#32 else 0#32
theorem bit1_xor (a b : Bool) : bit1 (a ^^ b) = bit1 a ^^^ bit1 b := by cases a <;> cases b <;> rfl
theorem xor_mid (x y p : B32) : (x ^^^ y) = (x ^^^ p) ^^^ (y ^^^ p) := by
  apply BitVec.eq_of_getLsbD_eq
  intro i hi
  simp only [BitVec.getLsbD_xor]
  cases x.getLsbD i <;> cases y.getLsbD i <;> cases p.getLsbD i <;> rfl
theorem stepB_xor (a b : B32) : stepB (a ^^^ b) = stepB a ^^^ stepB b := by
  unfold stepB
  rw [BitVec.ushiftRight_xor_distrib, BitVec.getLsbD_xor]
  apply BitVec.eq_of_getLsbD_eq
  intro i hi
  cases a.getLsbD 0 <;> cases b.getLsbD 0 <;> simp only [BitVec.getLsbD_xor, Bool.false_eq_true, if_true, if_false, Bool.xor_true, Bool.xor_false, Bool.not_true, Bool.not_false, BitVec.getLsbD_zero] <;>
    cases (a >>> 1).getLsbD i <;> cases (b >>> 1).getLsbD i <;> cases poly.getLsbD i <;> rfl
theorem stepB_0 : stepB 0#32 = 0#32 := rfl
theorem bit1_0 (t : Bool) : (bit1 t).getLsbD 0 = t := by cases t <;> rfl
theorem bit1_sh (t : Bool) : bit1 t >>> 1 = 0#32 := by cases t <;> rfl
theorem bitB_eq (c : B32) (t : Bool) : bitB c t = stepB (c ^^^ bit1 t) := by
  unfold bitB stepB
  rw [BitVec.ushiftRight_xor_distrib, BitVec.getLsbD_xor, bit1_0, bit1_sh, BitVec.xor_zero]
theorem stepB_zero {c : B32} (h : stepB c = 0#32) : c = 0#32 := by
  unfold stepB at h
  cases hc : c.getLsbD 0 with
  | true =>
    rw [hc] at h
    have := congrArg (fun x => BitVec.getLsbD x 31) h
    simp only [if_true, BitVec.getLsbD_xor, BitVec.getLsbD_ushiftRight] at this
    rw [BitVec.getLsbD_of_ge c (1 + 31) (by omega)] at this
    exact absurd this (by decide)
  | false =>
    rw [hc] at h
    simp only [Bool.false_eq_true, if_false, BitVec.xor_zero] at h
    apply BitVec.eq_of_getLsbD_eq
    intro i hi
    rw [BitVec.getLsbD_zero]
    cases i with
    | zero => exact hc
    | succ i =>
      have := congrArg (fun x => BitVec.getLsbD x i) h
      simp only [BitVec.getLsbD_ushiftRight, BitVec.getLsbD_zero] at this
      rw [Nat.add_comm]; exact this

/-- Bits, one behind the other. -/
def Fb (f : Nat → Bool) : Nat → B32 → B32
  | 0, c => c
  | n + 1, c => stepB (Fb f n c ^^^ bit1 (f n))
theorem Fb_xor (f g : Nat → Bool) (c d : B32) : ∀ n, Fb (fun k => f k ^^ g k) n (c ^^^ d) = Fb f n c ^^^ Fb g n d
  | 0 => rfl
  | n + 1 => by
    rw [Fb, Fb, Fb, Fb_xor f g c d n, bit1_xor, ← stepB_xor]
    congr 1
    rw [BitVec.xor_assoc, BitVec.xor_assoc]
    congr 1
    rw [← BitVec.xor_assoc, ← BitVec.xor_assoc, BitVec.xor_comm (Fb g n d)]
theorem Fb_congr {f g : Nat → Bool} {c : B32} : ∀ {n : Nat}, (∀ k, k < n → f k = g k) → Fb f n c = Fb g n c
  | 0, _ => rfl
  | n + 1, h => by rw [Fb, Fb, Fb_congr (n := n) fun k hk => h k (by omega), h n (by omega)]
theorem Fb_add (f : Nat → Bool) (m : Nat) (c : B32) : ∀ n, Fb f (m + n) c = Fb (fun k => f (m + k)) n (Fb f m c)
  | 0 => rfl
  | n + 1 => by rw [← Nat.add_assoc, Fb, Fb, Fb_add f m c n]
theorem Fb_zero (c : B32) : ∀ n, Fb (fun _ => false) n c = stepsB n c
  | 0 => rfl
  | n + 1 => by rw [Fb, Fb_zero c n, stepsB]; simp [bit1]
theorem stepsB_xor (a b : B32) : ∀ n, stepsB n (a ^^^ b) = stepsB n a ^^^ stepsB n b
  | 0 => rfl
  | n + 1 => by rw [stepsB, stepsB, stepsB, stepsB_xor a b n, stepB_xor]
theorem stepsB_zero {c : B32} : ∀ {n : Nat}, stepsB n c = 0#32 → c = 0#32
  | 0, h => h
  | n + 1, h => stepsB_zero (n := n) (stepB_zero h)
theorem stepsB_0 : ∀ n, stepsB n 0#32 = 0#32
  | 0 => rfl
  | n + 1 => by rw [stepsB, stepsB_0 n]; rfl
theorem steps_pow : ∀ n, n < 32 → stepsB n (BitVec.twoPow 32 n) = 1#32 := by decide +kernel

def lowB (f : Nat → Bool) : Nat → B32
  | 0 => 0#32
  | n + 1 => lowB f n ^^^ (if f n then BitVec.twoPow 32 n else 0#32)
theorem Fb_low (f : Nat → Bool) : ∀ n, n ≤ 32 → Fb f n 0#32 = stepsB n (lowB f n)
  | 0, _ => rfl
  | n + 1, h => by
    rw [Fb, Fb_low f n (by omega), lowB, stepsB, stepsB_xor]
    cases f n
    · simp only [Bool.false_eq_true, if_false, bit1]; rw [stepsB_0]
    · simp only [if_true, bit1]; rw [steps_pow n (by omega)]
theorem lowB_get (f : Nat → Bool) (i : Nat) : ∀ n, n ≤ 32 → (lowB f n).getLsbD i = (decide (i < n) && f i)
  | 0, _ => by simp [lowB]
  | n + 1, h => by
    rw [lowB, BitVec.getLsbD_xor, lowB_get f i n (by omega)]
    by_cases e : i = n
    · subst e
      cases hf : f i
      · simp [hf]
      · simp [hf, BitVec.getLsbD_twoPow]; omega
    · have h1 : decide (i < n + 1) = decide (i < n) := by by_cases k : i < n <;> simp [k] <;> omega
      rw [h1]
      cases f n
      · simp
      · simp [BitVec.getLsbD_twoPow, show ¬ n = i by omega]

/-! Bits of bytes. -/
def bitAt (s : Str) (k : Nat) : Bool := (byte32 (s.getD (k / 8) 0)).getLsbD (k % 8)
theorem bitsB_Fb (b : UInt8) (c : B32) : ∀ n, bitsB b n c = Fb (fun k => (byte32 b).getLsbD k) n c
  | 0 => rfl
  | n + 1 => by rw [bitsB, bitB_eq, bitsB_Fb b c n]; rfl
theorem fold_Fb (c : B32) : ∀ (s : Str), s.foldl byteB c = Fb (bitAt s) (8 * s.length) c := by
  intro s
  have : ∀ n, n ≤ s.length → (s.take n).foldl byteB c = Fb (bitAt s) (8 * n) c := by
    intro n
    induction n with
    | zero => intro _; rfl
    | succ n ih =>
      intro h
      rw [List.take_succ_eq_append_getElem (by omega), List.foldl_append, ih (by omega), Nat.mul_succ, Fb_add]
      simp only [List.foldl_cons, List.foldl_nil]
      rw [← bits_byte, bitsB_Fb]
      refine Fb_congr fun k hk => ?_
      simp only [bitAt]
      rw [show (8 * n + k) / 8 = n by omega, show (8 * n + k) % 8 = k by omega]
      simp [List.getD_eq_getElem?_getD, show n < s.length by omega]
  rw [← this s.length (Nat.le_refl _), List.take_length]
theorem byte_bit (n k : Nat) (hk : k < 8) : (byte32 (UInt8.ofNat (n % 256))).getLsbD k = n.testBit k := by
  simp only [byte32, BitVec.getLsbD_ofNat]
  rw [show (UInt8.ofNat (n % 256)).toNat = n % 256 by simp, show (256 : Nat) = 2 ^ 8 from rfl, Nat.testBit_mod_two_pow]
  simp [hk]; omega
theorem le4_bit (x : B32) (k : Nat) (hk : k < 32) : bitAt (le4 x) k = x.getLsbD k := by
  have h : k / 8 = 0 ∨ k / 8 = 1 ∨ k / 8 = 2 ∨ k / 8 = 3 := by omega
  have e : x.getLsbD k = x.toNat.testBit k := rfl
  have e2 : ∀ j : Nat, x.toNat.testBit (8 * j + k % 8) = (x.toNat / 256 ^ j).testBit (k % 8) := by
    intro j
    rw [show (256 : Nat) ^ j = 2 ^ (8 * j) by rw [Nat.pow_mul], Nat.testBit_div_two_pow, Nat.add_comm]
  rw [e, bitAt]
  rcases h with h | h | h | h
  · rw [show k = 8 * 0 + k % 8 by omega, e2, show (8 * 0 + k % 8) / 8 = 0 by omega, show (8 * 0 + k % 8) % 8 = k % 8 by omega]
    simp only [le4, List.getD_cons_zero]
    rw [byte_bit _ _ (by omega)]; try simp
  · rw [show k = 8 * 1 + k % 8 by omega, e2, show (8 * 1 + k % 8) / 8 = 1 by omega, show (8 * 1 + k % 8) % 8 = k % 8 by omega]
    simp only [le4, List.getD_cons_succ, List.getD_cons_zero]
    rw [byte_bit _ _ (by omega)]; try simp
  · rw [show k = 8 * 2 + k % 8 by omega, e2, show (8 * 2 + k % 8) / 8 = 2 by omega, show (8 * 2 + k % 8) % 8 = k % 8 by omega]
    simp only [le4, List.getD_cons_succ, List.getD_cons_zero]
    rw [byte_bit _ _ (by omega)]
  · rw [show k = 8 * 3 + k % 8 by omega, e2, show (8 * 3 + k % 8) / 8 = 3 by omega, show (8 * 3 + k % 8) % 8 = k % 8 by omega]
    simp only [le4, List.getD_cons_succ, List.getD_cons_zero]
    rw [byte_bit _ _ (by omega)]

/-- What is sealed comes to one and the same. -/
theorem seal_Fb (p : Str) : (sealS p).foldl byteB (~~~ 0#32) = stepsB 32 (BitVec.allOnes 32) := by
  rw [sealS, List.foldl_append, fold_Fb _ (le4 _)]
  have hc : ∀ c x : B32, Fb (bitAt (le4 x)) (8 * (le4 x).length) c = stepsB 32 (c ^^^ x) := by
    intro c x
    show Fb (bitAt (le4 x)) 32 c = _
    rw [Fb_congr (g := fun k => (fun _ => false) k ^^ x.getLsbD k) (fun k hk => by rw [le4_bit x k hk]; simp)]
    have := Fb_xor (fun _ => false) (fun k => x.getLsbD k) c 0#32 32
    rw [BitVec.xor_zero] at this
    rw [this, Fb_zero, Fb_low _ 32 (Nat.le_refl _), ← stepsB_xor]
    congr 2
    apply BitVec.eq_of_getLsbD_eq
    intro i hi
    rw [lowB_get _ _ _ (Nat.le_refl _)]
    simp [hi]
  rw [hc]
  congr 1
  simp only [crcS, onS]
  generalize p.foldl byteB (~~~ 0#32) = c
  apply BitVec.eq_of_getLsbD_eq
  intro i hi
  rw [BitVec.getLsbD_xor, BitVec.getLsbD_not, BitVec.getLsbD_allOnes]
  cases c.getLsbD i <;> simp [hi]

theorem byte_ext {a b : UInt8} (h : ∀ k, k < 8 → (byte32 a).getLsbD k = (byte32 b).getLsbD k) : a = b := by
  apply UInt8.toNat_inj.1
  apply Nat.eq_of_testBit_eq
  intro i
  have ha := a.toNat_lt
  have hb := b.toNat_lt
  rcases Nat.lt_or_ge i 8 with hi | hi
  · have := h i hi
    simp only [byte32, BitVec.getLsbD_ofNat] at this
    simpa [show i < 32 by omega] using this
  · have e : 2 ^ 8 ≤ 2 ^ i := Nat.pow_le_pow_right (by omega) hi
    rw [Nat.testBit_lt_two_pow (by omega), Nat.testBit_lt_two_pow (by omega)]
theorem str_ext {s t : Str} (hl : s.length = t.length) (h : ∀ k, k < 8 * s.length → bitAt s k = bitAt t k) : s = t := by
  refine List.ext_getElem hl fun i h1 h2 => byte_ext fun k hk => ?_
  have := h (8 * i + k) (by omega)
  simp only [bitAt] at this
  rw [show (8 * i + k) / 8 = i by omega, show (8 * i + k) % 8 = k by omega] at this
  simpa [List.getD_eq_getElem?_getD, h1, h2] using this

/-- **Bits that are turned within 32 places do not go unseen.** -/
theorem burst {s t p q : Str} (from_ : Nat) (g : Nat → Bool) (hl : s.length = t.length) (hs : s = sealS p) (ht : t = sealS q)
    (h : ∀ k, k < 8 * s.length → bitAt t k = (bitAt s k ^^ (decide (from_ ≤ k ∧ k < from_ + 32) && g (k - from_)))) : t = s := by
  have e1 := seal_Fb p
  have e2 := seal_Fb q
  rw [← hs, fold_Fb] at e1
  rw [← ht, fold_Fb, ← hl] at e2
  generalize hN : 8 * s.length = N at *
  let d : Nat → Bool := fun k => decide (from_ ≤ k ∧ k < from_ + 32) && g (k - from_)
  have e3 : Fb (bitAt t) N (~~~ 0#32) = Fb (bitAt s) N (~~~ 0#32) ^^^ Fb d N 0#32 := by
    have := Fb_xor (bitAt s) d (~~~ 0#32) 0#32 N
    rw [BitVec.xor_zero] at this
    rw [← this]
    exact Fb_congr h
  have e4 : Fb d N 0#32 = 0#32 := by
    rw [e1, e2] at e3
    have := congrArg (fun x => x ^^^ stepsB 32 (BitVec.allOnes 32)) e3
    simp only [BitVec.xor_self] at this
    rw [BitVec.xor_comm, ← BitVec.xor_assoc, BitVec.xor_self, BitVec.zero_xor] at this
    exact this.symm
  have hd : ∀ k, k < N → d k = false := by
    rcases Nat.lt_or_ge N from_ with hc | hc
    · intro k hk
      simp only [d, Bool.and_eq_false_iff, decide_eq_false_iff_not]
      left; omega
    · have z : Fb d from_ 0#32 = 0#32 := by
        rw [Fb_congr (g := fun _ => false) (fun k hk => by simp only [d, Bool.and_eq_false_iff, decide_eq_false_iff_not]; left; omega), Fb_zero, stepsB_0]
      obtain ⟨j, m, hj, hjm, hjl⟩ : ∃ j m, j ≤ 32 ∧ N = from_ + j + m ∧ (m = 0 ∨ j = 32) := by
        rcases Nat.lt_or_ge (N - from_) 32 with h' | h'
        · exact ⟨N - from_, 0, by omega, by omega, .inl rfl⟩
        · exact ⟨32, N - from_ - 32, by omega, by omega, .inr rfl⟩
      rw [hjm, Fb_add, Fb_add, z] at e4
      have z2 : ∀ c, Fb (fun k => d (from_ + j + k)) m c = stepsB m c := fun c => by
        rw [← Fb_zero]
        refine Fb_congr fun k hk => ?_
        simp only [d, Bool.and_eq_false_iff, decide_eq_false_iff_not]
        left; omega
      rw [z2] at e4
      have e5 := stepsB_zero e4
      rw [Fb_low _ j hj] at e5
      have e6 := stepsB_zero e5
      intro k hk
      by_cases hk1 : from_ ≤ k ∧ k < from_ + j
      · have := congrArg (fun x => BitVec.getLsbD x (k - from_)) e6
        simp only [lowB_get _ _ _ hj, BitVec.getLsbD_zero] at this
        rw [show from_ + (k - from_) = k by omega] at this
        simpa [show k - from_ < j by omega] using this
      · simp only [d, Bool.and_eq_false_iff, decide_eq_false_iff_not]
        left; omega
  refine (str_ext hl fun k hk => ?_).symm
  have := h k (by omega)
  rw [this]
  have := hd k (by omega)
  simp only [d] at this
  rw [this, Bool.xor_false]

end Go.Proofs.Ytjlpmndipceboaa.Ev
end
section
set_option linter.unusedSimpArgs false
set_option linter.unusedVariables false
set_option maxRecDepth 10000
namespace Go.Proofs.Ytjlpmndipceboaa.Ev
open Go

def flipS (b : Str) (k : Nat) : Str := b.set (k / 8) (b.getD (k / 8) 0 ^^^ UInt8.ofNat (2 ^ (k % 8)))
def turnK (s : Str) (f : Nat) (p : B32) : Nat → Str
  | 0 => s
  | i + 1 => if f + i < 8 * s.length ∧ p.getLsbD i = true then flipS (turnK s f p i) (f + i) else turnK s f p i
theorem turnK_len (s : Str) (f : Nat) (p : B32) : ∀ n, (turnK s f p n).length = s.length
  | 0 => rfl
  | n + 1 => by rw [turnK]; split <;> simp [flipS, turnK_len s f p n]
theorem pow_bit : ∀ k, k < 8 → ∀ j, j < 8 → (byte32 (UInt8.ofNat (2 ^ k))).getLsbD j = decide (j = k) := by decide +kernel
theorem byte32_xor (a b : UInt8) : byte32 (a ^^^ b) = byte32 a ^^^ byte32 b := by
  apply BitVec.eq_of_toNat_eq
  rw [BitVec.toNat_xor, byte32_toNat, byte32_toNat, byte32_toNat, UInt8.toNat_xor]
theorem flip_bit {b : Str} {k j : Nat} (hk : k < 8 * b.length) (hj : j < 8 * b.length) : bitAt (flipS b k) j = (bitAt b j ^^ decide (j = k)) := by
  unfold bitAt flipS
  have h1 : k / 8 < b.length := by omega
  have h2 : j / 8 < b.length := by omega
  by_cases e : j / 8 = k / 8
  · rw [List.getD_eq_getElem?_getD, e, List.getElem?_set_self h1, Option.getD_some, byte32_xor, BitVec.getLsbD_xor, pow_bit _ (by omega) _ (by omega)]
    have : decide (j % 8 = k % 8) = decide (j = k) := by by_cases q : j = k <;> simp [q] <;> omega
    rw [this]
  · rw [List.getD_eq_getElem?_getD, List.getElem?_set_ne (by omega), ← List.getD_eq_getElem?_getD]
    simp [show ¬ j = k by rintro rfl; exact e rfl]
theorem turn_bit (s : Str) (f : Nat) (p : B32) : ∀ n j, j < 8 * s.length → bitAt (turnK s f p n) j = (bitAt s j ^^ (decide (f ≤ j ∧ j < f + n) && p.getLsbD (j - f)))
  | 0, j, hj => by
    have z : decide (f ≤ j ∧ j < f + 0) = false := decide_eq_false (by omega)
    rw [z]; simp [turnK]
  | n + 1, j, hj => by
    have ih := turn_bit s f p n j hj
    rw [turnK]
    by_cases e : j = f + n
    · subst e
      have z : decide (f ≤ f + n ∧ f + n < f + n) = false := by simp
      rw [z] at ih
      by_cases c : p.getLsbD n = true
      · rw [if_pos ⟨hj, c⟩, flip_bit (by rw [turnK_len]; exact hj) (by rw [turnK_len]; exact hj), ih]
        simp [c]
      · rw [if_neg (fun h => c h.2), ih]
        simp at c
        simp [c]
    · have z : decide (f ≤ j ∧ j < f + (n + 1)) = decide (f ≤ j ∧ j < f + n) := by rw [decide_eq_decide]; omega
      rw [z]
      split
      · rename_i h
        rw [flip_bit (by rw [turnK_len]; exact h.1) (by rw [turnK_len]; exact hj), ih]
        simp [e]
      · exact ih

theorem wrap_u64 {n : Int} (h1 : 0 ≤ n) (h2 : n ≤ 9223372036854775807) : IntKind.u64.wrap n = n := by
  simp [IntKind.wrap, IntKind.bits, IntKind.signed]; omega
theorem shift_bit (p : B32) (i : Nat) (hi : i < 32) : (((p.toNat : Int).fdiv (2 ^ min i 32)).tmod 2 = 1) = (p.getLsbD i = true) := by
  rw [show min i 32 = i by omega, Int.fdiv_eq_ediv_of_nonneg _ (Int.pow_nonneg (by omega)), Int.tmod_eq_emod_of_nonneg (Int.ediv_nonneg (by omega) (Int.pow_nonneg (by omega)))]
  have e : p.getLsbD i = decide (p.toNat / 2 ^ i % 2 = 1) := by
    rw [BitVec.getLsbD, Nat.testBit_eq_decide_div_mod_eq]
  rw [e, show ((p.toNat : Int) / 2 ^ i % 2) = ((p.toNat / 2 ^ i % 2 : Nat) : Int) by norm_cast]
  simp only [decide_eq_true_eq, eq_iff_iff]; omega
theorem xor_u8 : ∀ b : _root_.Fin 256, ∀ k : _root_.Fin 8, bits2 .xor .u8 (b.val : Int) (IntKind.u8.wrap (1 * 2 ^ min k.val 8)) = (((UInt8.ofNat b.val) ^^^ UInt8.ofNat (2 ^ k.val)).toNat : Int) := by decide +kernel

theorem ref_turned (s : Str) (f : Nat) (p : B32) (hs : s.length ≤ 1000000000) (hf : f ≤ 10000000000) : PCall Try.prog 14 [.str s, .int .i64 f, w32 p] (.str (turnK s f p 32)) := by
  refine en14 (by simp) (by simp [closedL, V.closed, w32]) ?_
  simp (maxSteps := 1000000) (disch := omega) only [rg, gD, Nat.reduceBEq, Nat.reduceEqDiff, Nat.reduceAdd, Int.reduceEq, Int.reduceLT, Int.reduceLE, Int.reduceToNat, reduceIte, reduceCtorEq, Nat.reduceLeDiff, Nat.reduceLT, Nat.reduceMul, Nat.reduceSub, c14, w32]
  refine x_it 32 (fun i σ H => H.m 0 = some (.arr 1 (u8V (turnK s f p i))) ∧ σ = [(1, .int .i64 f), (2, .int .u32 p.toNat), (7, .sl 0 0 s.length), (8, .int .i64 i)]) ⟨(by simp (disch := omega) only [upd_eq, upd_ne, wo_0, wo_1, wo_2, u8V, mv, turnK]), rfl⟩ ?_
  rintro T i σ ⟨q, m⟩ hi ⟨e0, rfl⟩ hN hX hR
  simp only at e0
  have hl := turnK_len s f p i
  by_cases h : i < 32
  · have c0 : (0 : Int) ≤ (f : Int) + i := by omega
    have hsb := shift_bit p i h
    by_cases c1 : f + i < 8 * s.length
    · have g1 : ((f : Int) + (i : Int)) / 8 = (((f + i) / 8 : Nat) : Int) := by omega
      have g2 : ((f : Int) + (i : Int)) % 8 = (((f + i) % 8 : Nat) : Int) := by omega
      have hK : (f + i) / 8 < (turnK s f p i).length := by omega
      cases hb : p.getLsbD i with
      | true =>
        have hx := xor_u8 ⟨((turnK s f p i)[(f + i) / 8]).toNat, UInt8.toNat_lt _⟩ ⟨(f + i) % 8, by omega⟩
        simp only [UInt8.ofNat_toNat] at hx
        have hnx : turnK s f p (i + 1) = (turnK s f p i).set ((f + i) / 8) ((turnK s f p i)[(f + i) / 8] ^^^ UInt8.ofNat (2 ^ ((f + i) % 8))) := by
          rw [turnK, if_pos ⟨c1, hb⟩, flipS]
          simp [List.getD_eq_getElem?_getD, hK]
        simp (maxSteps := 1000000) (disch := omega) only [rg, gD, Nat.reduceBEq, Nat.reduceEqDiff, Nat.reduceAdd, Int.reduceEq, Int.reduceLT, Int.reduceLE, Int.reduceToNat, reduceIte, reduceCtorEq, Nat.reduceLeDiff, Nat.reduceLT, Nat.reduceMul, Nat.reduceSub, show (i : Int) < 32 by omega, c0, show (f : Int) + (i : Int) < 8 * (s.length : Int) by omega, wrap_u64, IntKind.bits, hsb, hb, decide_true, e0, g1, g2, Int.toNat_natCast, Nat.zero_add, u8V_get, hx]
        refine ⟨by omega, by omega, hN _ _ h ⟨?_, rfl⟩⟩
        rw [hnx]
        simp only [upd_eq, u8V]
        rw [← mv_set]
      | false =>
        have hnx : turnK s f p (i + 1) = turnK s f p i := by rw [turnK, if_neg (fun h => by rw [hb] at h; exact absurd h.2 (by simp))]
        simp (maxSteps := 1000000) (disch := omega) only [rg, gD, Nat.reduceBEq, Nat.reduceEqDiff, Nat.reduceAdd, Int.reduceEq, Int.reduceLT, Int.reduceLE, Int.reduceToNat, reduceIte, reduceCtorEq, Nat.reduceLeDiff, Nat.reduceLT, Nat.reduceMul, Nat.reduceSub, show (i : Int) < 32 by omega, c0, show (f : Int) + (i : Int) < 8 * (s.length : Int) by omega, wrap_u64, IntKind.bits, hsb, hb, Bool.false_eq_true, decide_false]
        exact hN _ _ h ⟨by rw [hnx]; exact e0, rfl⟩
    · have hnx : turnK s f p (i + 1) = turnK s f p i := by rw [turnK, if_neg (fun h => c1 h.1)]
      simp (maxSteps := 1000000) (disch := omega) only [rg, gD, Nat.reduceBEq, Nat.reduceEqDiff, Nat.reduceAdd, Int.reduceEq, Int.reduceLT, Int.reduceLE, Int.reduceToNat, reduceIte, reduceCtorEq, Nat.reduceLeDiff, Nat.reduceLT, Nat.reduceMul, Nat.reduceSub, show (i : Int) < 32 by omega, c0, show ¬ (f : Int) + (i : Int) < 8 * (s.length : Int) by omega]
      exact hN _ _ h ⟨by rw [hnx]; exact e0, rfl⟩
  · obtain rfl : i = 32 := by omega
    simp (maxSteps := 1000000) (disch := omega) only [rg, gD, Nat.reduceBEq, Nat.reduceEqDiff, Nat.reduceAdd, Int.reduceEq, Int.reduceLT, Int.reduceLE, Int.reduceToNat, reduceIte, reduceCtorEq, Nat.reduceLeDiff, Nat.reduceLT, Nat.reduceMul, Nat.reduceSub, show ¬ ((32 : Nat) : Int) < 32 by omega]
    refine hX _ _ _ ?_
    simp (maxSteps := 1000000) (disch := omega) only [rg, gD, Nat.reduceBEq, Nat.reduceEqDiff, Nat.reduceAdd, Int.reduceEq, Int.reduceLT, Int.reduceLE, Int.reduceToNat, reduceIte, reduceCtorEq, Nat.reduceLeDiff, Nat.reduceLT, Nat.reduceMul, Nat.reduceSub]
    refine x_frz0 ?_
    simp (maxSteps := 1000000) (disch := omega) only [rg, gD, Nat.reduceBEq, Nat.reduceEqDiff, Nat.reduceAdd, Int.reduceEq, Int.reduceLT, Int.reduceLE, Int.reduceToNat, reduceIte, reduceCtorEq, Nat.reduceLeDiff, Nat.reduceLT, Nat.reduceMul, Nat.reduceSub, e0]
    rw [if_pos (by rw [u8V_len, hl]; exact Nat.le_refl _), List.take_of_length_le (by rw [u8V_len, hl]; exact Nat.le_refl _)]
    refine ⟨turnK s f p 32, rfl, ?_⟩
    simp (maxSteps := 1000000) (disch := omega) only [rg, gD, Nat.reduceBEq, Nat.reduceEqDiff, Nat.reduceAdd, Int.reduceEq, Int.reduceLT, Int.reduceLE, Int.reduceToNat, reduceIte, reduceCtorEq, Nat.reduceLeDiff, Nat.reduceLT, Nat.reduceMul, Nat.reduceSub]
    (refine fin_x rfl ?_ ?_ <;> simp [pack, lo, loL, V.closed, closedL, mv_closed])

end Go.Proofs.Ytjlpmndipceboaa.Ev
end
section
set_option linter.unusedSimpArgs false
set_option linter.unusedVariables false
set_option maxRecDepth 10000
namespace Go.Proofs.Ytjlpmndipceboaa.Ev
open Go

def riseS : Int → List Int → Int → Bool
  | _, [], _ => true
  | last, x :: xs, n => !decide (x ≤ last) && (!decide (n ≤ x) && riseS x xs n)
def taskNumS (t : Task) : Bool := decide (1 ≤ t.tries ∧ t.tries ≤ 8 ∧ 0 ≤ t.wait ∧ t.wait ≤ 1048576 ∧ 1 ≤ t.lease ∧ t.lease ≤ 1048576)
def taskOkS (t : Task) (n : Int) : Bool := riseS (-1) t.needs n && taskNumS t

theorem vI_len (l : List Int) : (vI l).length = l.length := mv_len
theorem vI_get {l : List Int} {i : Nat} (h : i < l.length) : (vI l)[i]? = some (.int .i64 l[i]) := mv_get h
theorem vB_len (l : List Bool) : (vB l).length = l.length := mv_len
theorem vB_get {l : List Bool} {i : Nat} (h : i < l.length) : (vB l)[i]? = some (.bool l[i]) := mv_get h

theorem dag_task (t : Task) (n : Int) (hl : t.needs.length ≤ 4611686018427387904) : PCall Try.prog 75 [taskV t, .int .i64 n] (.bool (taskOkS t n)) := by
  refine en75 (by simp) (by simp [closedL, V.closed, taskV_closed]) ?_
  simp (maxSteps := 1000000) (disch := omega) only [rg, gD, Nat.reduceBEq, Nat.reduceEqDiff, Nat.reduceAdd, Int.reduceEq, Int.reduceLT, Int.reduceLE, Int.reduceToNat, reduceIte, reduceCtorEq, Nat.reduceLeDiff, Nat.reduceLT, Nat.reduceMul, Nat.reduceSub, c75, taskV, vI_len]
  refine x_it t.needs.length (fun i σ H => H.m 0 = some (.arr 4 [.agg [.fsl .loose 1 (vI t.needs), .int .i64 t.tries, .int .i64 t.wait, .int .i64 t.lease]]) ∧ ∃ last, riseS (-1) t.needs n = riseS last (t.needs.drop i) n ∧ σ = [(1, .int .i64 n), (2, .ptr 0 0 0), (5, .int .i64 last), (9, .fsl .loose 1 (vI t.needs)), (10, .int .i64 t.needs.length), (11, .int .i64 i)]) ⟨by simp [upd], -1, by simp, rfl⟩ ?_
  rintro T i σ ⟨q, m⟩ hi ⟨e0, last, hr, rfl⟩ hN hX hR
  simp only at e0
  simp (maxSteps := 1000000) (disch := omega) only [rg, gD, Nat.reduceBEq, Nat.reduceEqDiff, Nat.reduceAdd, Int.reduceEq, Int.reduceLT, Int.reduceLE, Int.reduceToNat, reduceIte, reduceCtorEq, Nat.reduceLeDiff, Nat.reduceLT, Nat.reduceMul, Nat.reduceSub]
  refine ⟨fun h => ?_, fun h => ?_⟩
  · have i1 : i < t.needs.length := by omega
    have hd : t.needs.drop i = t.needs[i] :: t.needs.drop (i + 1) := List.drop_eq_getElem_cons i1
    rw [hd, riseS] at hr
    simp (maxSteps := 1000000) (disch := omega) only [rg, gD, Nat.reduceBEq, Nat.reduceEqDiff, Nat.reduceAdd, Int.reduceEq, Int.reduceLT, Int.reduceLE, Int.reduceToNat, reduceIte, reduceCtorEq, Nat.reduceLeDiff, Nat.reduceLT, Nat.reduceMul, Nat.reduceSub, vI_get]
    by_cases c1 : t.needs[i] ≤ last
    · simp (maxSteps := 1000000) (disch := omega) only [rg, gD, Nat.reduceBEq, Nat.reduceEqDiff, Nat.reduceAdd, Int.reduceEq, Int.reduceLT, Int.reduceLE, Int.reduceToNat, reduceIte, reduceCtorEq, Nat.reduceLeDiff, Nat.reduceLT, Nat.reduceMul, Nat.reduceSub, c1]
      refine hR _ _ ?_
      simp (maxSteps := 1000000) (disch := omega) only [rg, gD, Nat.reduceBEq, Nat.reduceEqDiff, Nat.reduceAdd, Int.reduceEq, Int.reduceLT, Int.reduceLE, Int.reduceToNat, reduceIte, reduceCtorEq, Nat.reduceLeDiff, Nat.reduceLT, Nat.reduceMul, Nat.reduceSub]
      (refine fin_x rfl ?_ ?_ <;> simp [pack, lo, loL, V.closed, closedL, mv_closed, taskOkS, hr, c1])
    · by_cases c2 : n ≤ t.needs[i]
      · simp (maxSteps := 1000000) (disch := omega) only [rg, gD, Nat.reduceBEq, Nat.reduceEqDiff, Nat.reduceAdd, Int.reduceEq, Int.reduceLT, Int.reduceLE, Int.reduceToNat, reduceIte, reduceCtorEq, Nat.reduceLeDiff, Nat.reduceLT, Nat.reduceMul, Nat.reduceSub, c1, c2]
        refine hR _ _ ?_
        simp (maxSteps := 1000000) (disch := omega) only [rg, gD, Nat.reduceBEq, Nat.reduceEqDiff, Nat.reduceAdd, Int.reduceEq, Int.reduceLT, Int.reduceLE, Int.reduceToNat, reduceIte, reduceCtorEq, Nat.reduceLeDiff, Nat.reduceLT, Nat.reduceMul, Nat.reduceSub]
        (refine fin_x rfl ?_ ?_ <;> simp [pack, lo, loL, V.closed, closedL, mv_closed, taskOkS, hr, c1, c2])
      · simp (maxSteps := 1000000) (disch := omega) only [rg, gD, Nat.reduceBEq, Nat.reduceEqDiff, Nat.reduceAdd, Int.reduceEq, Int.reduceLT, Int.reduceLE, Int.reduceToNat, reduceIte, reduceCtorEq, Nat.reduceLeDiff, Nat.reduceLT, Nat.reduceMul, Nat.reduceSub, c1, c2]
        exact hN _ _ i1 ⟨e0, t.needs[i], by rw [hr]; simp [c1, c2], rfl⟩
  · obtain rfl : i = t.needs.length := by omega
    rw [List.drop_length, riseS] at hr
    refine hX _ _ _ ?_
    simp (maxSteps := 1000000) (disch := omega) only [rg, gD, Nat.reduceBEq, Nat.reduceEqDiff, Nat.reduceAdd, Int.reduceEq, Int.reduceLT, Int.reduceLE, Int.reduceToNat, reduceIte, reduceCtorEq, Nat.reduceLeDiff, Nat.reduceLT, Nat.reduceMul, Nat.reduceSub]
    refine x_frz0 ?_
    by_cases c1 : 1 ≤ t.tries
    · by_cases c2 : t.tries ≤ 8
      · by_cases c3 : 0 ≤ t.wait
        · by_cases c4 : t.wait ≤ 1048576
          · by_cases c5 : 1 ≤ t.lease
            · by_cases c6 : t.lease ≤ 1048576
              · simp (maxSteps := 1000000) (disch := omega) only [rg, gD, Nat.reduceBEq, Nat.reduceEqDiff, Nat.reduceAdd, Int.reduceEq, Int.reduceLT, Int.reduceLE, Int.reduceToNat, reduceIte, reduceCtorEq, Nat.reduceLeDiff, Nat.reduceLT, Nat.reduceMul, Nat.reduceSub, e0, c1, c2, c3, c4, c5, c6]
                (refine fin_x rfl ?_ ?_ <;> simp [pack, lo, loL, V.closed, closedL, mv_closed, taskOkS, taskNumS, hr, c1, c2, c3, c4, c5, c6])
              · simp (maxSteps := 1000000) (disch := omega) only [rg, gD, Nat.reduceBEq, Nat.reduceEqDiff, Nat.reduceAdd, Int.reduceEq, Int.reduceLT, Int.reduceLE, Int.reduceToNat, reduceIte, reduceCtorEq, Nat.reduceLeDiff, Nat.reduceLT, Nat.reduceMul, Nat.reduceSub, e0, c1, c2, c3, c4, c5, c6]
                (refine fin_x rfl ?_ ?_ <;> simp [pack, lo, loL, V.closed, closedL, mv_closed, taskOkS, taskNumS, hr, c6])
            · simp (maxSteps := 1000000) (disch := omega) only [rg, gD, Nat.reduceBEq, Nat.reduceEqDiff, Nat.reduceAdd, Int.reduceEq, Int.reduceLT, Int.reduceLE, Int.reduceToNat, reduceIte, reduceCtorEq, Nat.reduceLeDiff, Nat.reduceLT, Nat.reduceMul, Nat.reduceSub, e0, c1, c2, c3, c4, c5]
              (refine fin_x rfl ?_ ?_ <;> simp [pack, lo, loL, V.closed, closedL, mv_closed, taskOkS, taskNumS, hr, c5])
          · simp (maxSteps := 1000000) (disch := omega) only [rg, gD, Nat.reduceBEq, Nat.reduceEqDiff, Nat.reduceAdd, Int.reduceEq, Int.reduceLT, Int.reduceLE, Int.reduceToNat, reduceIte, reduceCtorEq, Nat.reduceLeDiff, Nat.reduceLT, Nat.reduceMul, Nat.reduceSub, e0, c1, c2, c3, c4]
            (refine fin_x rfl ?_ ?_ <;> simp [pack, lo, loL, V.closed, closedL, mv_closed, taskOkS, taskNumS, hr, c4])
        · simp (maxSteps := 1000000) (disch := omega) only [rg, gD, Nat.reduceBEq, Nat.reduceEqDiff, Nat.reduceAdd, Int.reduceEq, Int.reduceLT, Int.reduceLE, Int.reduceToNat, reduceIte, reduceCtorEq, Nat.reduceLeDiff, Nat.reduceLT, Nat.reduceMul, Nat.reduceSub, e0, c1, c2, c3]
          (refine fin_x rfl ?_ ?_ <;> simp [pack, lo, loL, V.closed, closedL, mv_closed, taskOkS, taskNumS, hr, c3])
      · simp (maxSteps := 1000000) (disch := omega) only [rg, gD, Nat.reduceBEq, Nat.reduceEqDiff, Nat.reduceAdd, Int.reduceEq, Int.reduceLT, Int.reduceLE, Int.reduceToNat, reduceIte, reduceCtorEq, Nat.reduceLeDiff, Nat.reduceLT, Nat.reduceMul, Nat.reduceSub, e0, c1, c2]
        (refine fin_x rfl ?_ ?_ <;> simp [pack, lo, loL, V.closed, closedL, mv_closed, taskOkS, taskNumS, hr, c2])
    · simp (maxSteps := 1000000) (disch := omega) only [rg, gD, Nat.reduceBEq, Nat.reduceEqDiff, Nat.reduceAdd, Int.reduceEq, Int.reduceLT, Int.reduceLE, Int.reduceToNat, reduceIte, reduceCtorEq, Nat.reduceLeDiff, Nat.reduceLT, Nat.reduceMul, Nat.reduceSub, e0, c1]
      (refine fin_x rfl ?_ ?_ <;> simp [pack, lo, loL, V.closed, closedL, mv_closed, taskOkS, taskNumS, hr, c1])

/-- What can be done next. -/
def freeB (t : Task) (done : List Bool) (i : Nat) : Bool := !done.getD i false && t.needs.all fun x => done.getD x.toNat false
def freeS (ts : List Task) (done : List Bool) (k : Nat) : List Int := (((ts.take k).zipIdx).filter fun p => freeB p.1 done p.2).map fun p => (p.2 : Int)
theorem freeS_succ {ts : List Task} {done : List Bool} {k : Nat} (h : k < ts.length) : freeS ts done (k + 1) = if freeB ts[k] done k = true then freeS ts done k ++ [(k : Int)] else freeS ts done k := by
  rw [freeS, List.take_succ_eq_append_getElem h, List.zipIdx_append, List.filter_append, List.map_append]
  have : min k ts.length = k := by omega
  simp only [List.length_take, this, List.zipIdx_cons, List.zipIdx_nil, List.filter_cons, List.filter_nil, Nat.zero_add]
  split <;> simp [freeS]
theorem freeS_len (ts : List Task) (done : List Bool) (k : Nat) : (freeS ts done k).length ≤ k := by
  simp only [freeS, List.length_map]
  refine Nat.le_trans (List.length_filter_le _ _) ?_
  simp; omega

theorem free_clo (H : Hp) (b d : Nat) (done : List Bool) (i : Int) (hb : b < H.n) (hd : d < H.n) (h1 : H.m b = some (.arr 1 [.sl d 0 done.length])) (h2 : H.m d = some (.arr 1 (vB done))) (hi : 0 ≤ i ∧ i < done.length) :
    ACall Try.prog 88 [.int .i64 i, .ptr b 0 0] H [b, d] (.bool (!done.getD i.toNat false)) [] 0 := by
  have hne : b ≠ d := by rintro rfl; rw [h1] at h2; cases done with
    | nil => simp [vB, mv] at h2
    | cons x l => simp [vB, mv] at h2
  refine ena88 (by simp) (by simp [lowL, V.low, hb]) (fun id hid => ?_) (by simp) ?_
  · simp at hid
    rcases hid with rfl | rfl
    · exact ⟨hb, fun o ho => by rw [h1] at ho; simp at ho; subst ho; simp [Ob.low, lowL, V.low, hd]⟩
    · exact ⟨hd, fun o ho => by rw [h2] at ho; simp at ho; subst ho; exact lowL_closed _ vB_closed⟩
  have q1 : only [b, d] H.m b = some (.arr 1 [.sl d 0 done.length]) := by simp [only, h1]
  have q2 : only [b, d] H.m d = some (.arr 1 (vB done)) := by simp [only, h2]
  have hlt : i.toNat < done.length := by omega
  simp (maxSteps := 1000000) (disch := omega) only [rg, gD, Nat.reduceBEq, Nat.reduceEqDiff, Nat.reduceAdd, Int.reduceEq, Int.reduceLT, Int.reduceLE, Int.reduceToNat, reduceIte, reduceCtorEq, Nat.reduceLeDiff, Nat.reduceLT, Nat.reduceMul, Nat.reduceSub, c88, q1, q2, vB_get]
  refine ⟨by omega, fin_A (l := [.bool (!done[i.toNat])]) rfl (.inl (by simp [pack, List.getD_eq_getElem?_getD, hlt])) (by simp) (fun id => .inr rfl)⟩

theorem con_ints {st : St} {rows : List Int} {fs cs : List V} {g : Nat} {q : Int → Bool} {H : Hp} {fp : List Nat} {kk : Nat} (hn : rows.length ≤ 1000000) (hl : lowL H.n fs = true) (hl' : lowL H.n cs = true) (hfp : FpOk H fp)
    (hg : ∀ x ∈ rows, ∀ H' : Hp, H.n ≤ H'.n → (∀ id ∈ fp, H'.m id = H.m id) → ACall Try.prog g (fs ++ [.int .i64 x] ++ cs) H' fp (.bool (q x)) [] kk) :
    ACall Try.prog 89 [.fsl st 1 (vI rows), .fn g fs cs] H fp (.bool (rows.any q)) [] (rows.length * kk) := by
  have := con_gen (f := 89) (f2 := 92) (sz := 1) (k := none) (st := st) (rows := vI rows) (fs := fs) (cs := cs) (g := g) (q := fun v => match v with | .int _ n => q n | _ => false) (H := H) (fp := fp) (kk := kk)
    ena89 ena92 (by decide) (by decide) vI_closed (fun e he => by obtain ⟨a, _, rfl⟩ := mv_mem he; rfl) (by rw [vI_len]; omega) hl hl' hfp
    (fun e he H' h1 h2 => by obtain ⟨a, ha, rfl⟩ := mv_mem he; exact hg a ha H' h1 h2)
  rw [vI_len] at this
  have e : (vI rows).any (fun v => match v with | .int _ n => q n | _ => false) = rows.any q := by simp [vI, mv, List.any_map]; rfl
  rwa [e] at this

def inR (ts : List Task) (n : Nat) : Prop := ∀ t ∈ ts, ∀ x ∈ t.needs, 0 ≤ x ∧ x < n
theorem dag_free (st : St) (ts : List Task) (done : List Bool) (d : Nat) (H : Hp) (hn : ts.length = done.length) (hl : ts.length ≤ 10) (hnl : ∀ t ∈ ts, t.needs.length ≤ 1000000) (hin : inR ts done.length) (hd : d < H.n) (hm : H.m d = some (.arr 1 (vB done))) :
    ACall Try.prog 84 [.fsl st 4 (mv taskV ts), .sl d 0 done.length] H [d] (.fsl .loose 1 (vI (freeS ts done ts.length))) [] 100 := by
  refine ena84 (by simp) (by simp [lowL, V.low, hd, lowL_closed _ (mv_closed taskV_closed)]) (fun id hid => ?_) (by simp) ?_
  · simp at hid; subst hid
    exact ⟨hd, fun o ho => by rw [hm] at ho; simp at ho; subst ho; exact lowL_closed _ vB_closed⟩
  have q2 : only [d] H.m d = some (.arr 1 (vB done)) := by simp [only, hm]
  have hdn : d ≠ H.n := by omega
  simp (maxSteps := 1000000) (disch := omega) only [rg, gD, Nat.reduceBEq, Nat.reduceEqDiff, Nat.reduceAdd, Int.reduceEq, Int.reduceLT, Int.reduceLE, Int.reduceToNat, reduceIte, reduceCtorEq, Nat.reduceLeDiff, Nat.reduceLT, Nat.reduceMul, Nat.reduceSub, c84]
  refine x_it ts.length (fun i σ H' => H'.n ≤ H.n + 1 + 2 * i ∧ H.n + 1 ≤ H'.n ∧ H'.m H.n = some (.arr 1 [.sl d 0 done.length]) ∧ H'.m d = some (.arr 1 (vB done)) ∧ ∃ v, σ = [(5, .fn 88 [] [.ptr H.n 0 0]), (6, v), (10, .fsl st 4 (mv taskV ts)), (11, .int .i64 ts.length), (12, .int .i64 i)] ∧
    ((v = .fsl .nil 1 [] ∧ freeS ts done i = []) ∨ ∃ id, H.n < id ∧ id < H'.n ∧ v = .sl id 0 (freeS ts done i).length ∧ H'.m id = some (.arr 1 (vI (freeS ts done i))))) ?_ ?_
  · exact ⟨by simp, by simp, by simp [upd], by simp only [upd_ne hdn]; exact q2, _, rfl, .inl ⟨rfl, rfl⟩⟩
  rintro T i σ ⟨n', m⟩ hi ⟨hb1, hb2, e0, e1, v, rfl, hv⟩ hN hX hR
  simp only at hb1 hb2 e0 e1 hv
  simp (maxSteps := 1000000) (disch := omega) only [rg, gD, Nat.reduceBEq, Nat.reduceEqDiff, Nat.reduceAdd, Int.reduceEq, Int.reduceLT, Int.reduceLE, Int.reduceToNat, reduceIte, reduceCtorEq, Nat.reduceLeDiff, Nat.reduceLT, Nat.reduceMul, Nat.reduceSub]
  refine ⟨fun h => ?_, fun h => ?_⟩
  · have i1 : i < ts.length := by omega
    have hns := freeS_succ (done := done) i1
    have ht := hin ts[i] (List.getElem_mem i1)
    have hl1 := hnl ts[i] (List.getElem_mem i1)
    have hfl := freeS_len ts done i
    have hno : ∀ b : Bool, freeB ts[i] done i = false → freeS ts done (i + 1) = freeS ts done i := fun _ hb => by rw [hns, if_neg (by rw [hb]; simp)]
    have hne1 : H.n ≠ n' := by omega
    have hne2 : d ≠ n' := by omega
    simp (maxSteps := 1000000) (disch := omega) only [rg, gD, Nat.reduceBEq, Nat.reduceEqDiff, Nat.reduceAdd, Int.reduceEq, Int.reduceLT, Int.reduceLE, Int.reduceToNat, reduceIte, reduceCtorEq, Nat.reduceLeDiff, Nat.reduceLT, Nat.reduceMul, Nat.reduceSub, taskV]
    refine ⟨_, _, _, _, free_clo _ H.n d done i (by simp only []; omega) (by simp only []; omega) (by simp (disch := omega) only [upd_eq, upd_ne, wo_0, wo_1, wo_2, e0]) (by simp (disch := omega) only [upd_eq, upd_ne, wo_0, wo_1, wo_2, e1]) (by omega), ?_⟩
    cases hdi : done.getD i false with
    | true =>
      have hfb : freeB ts[i] done i = false := by simp only [freeB, hdi]; rfl
      simp (maxSteps := 1000000) (disch := omega) only [rg, gD, Nat.reduceBEq, Nat.reduceEqDiff, Nat.reduceAdd, Int.reduceEq, Int.reduceLT, Int.reduceLE, Int.reduceToNat, reduceIte, reduceCtorEq, Nat.reduceLeDiff, Nat.reduceLT, Nat.reduceMul, Nat.reduceSub, hdi]
      refine hN _ _ i1 ⟨by simp only []; omega, by simp only []; omega, (by simp (disch := omega) only [upd_eq, upd_ne, wo_0, wo_1, wo_2, e0]), (by simp (disch := omega) only [upd_eq, upd_ne, wo_0, wo_1, wo_2, e1]), _, rfl, ?_⟩
      rw [hno true hfb]
      rcases hv with ⟨rfl, he⟩ | ⟨id, h1, h2, rfl, h3⟩
      · exact .inl ⟨rfl, he⟩
      · exact .inr ⟨id, h1, by simp only []; omega, rfl, (by simp (disch := omega) only [upd_eq, upd_ne, wo_0, wo_1, wo_2, h3])⟩
    | false =>
      simp (maxSteps := 1000000) (disch := omega) only [rg, gD, Nat.reduceBEq, Nat.reduceEqDiff, Nat.reduceAdd, Int.reduceEq, Int.reduceLT, Int.reduceLE, Int.reduceToNat, reduceIte, reduceCtorEq, Nat.reduceLeDiff, Nat.reduceLT, Nat.reduceMul, Nat.reduceSub, hdi]
      have hall : (ts[i].needs.any fun x => !done.getD x.toNat false) = !(ts[i].needs.all fun x => done.getD x.toNat false) := by rw [List.not_all_eq_any_not]
      refine ⟨_, _, _, _, con_ints (rows := ts[i].needs) (q := fun x => !done.getD x.toNat false) (fp := [H.n, d]) (kk := 0) (by omega) rfl (by simp [lowL, V.low]; omega) (fun id hid => ?_) (fun x hx H' h1 h2 => ?_), ?_⟩
      · simp at hid
        rcases hid with rfl | rfl
        · exact ⟨by simp only []; omega, fun o ho => by simp only [upd_ne hne1, e0] at ho; simp at ho; subst ho; simp [Ob.low, lowL, V.low]; omega⟩
        · exact ⟨by simp only []; omega, fun o ho => by simp only [upd_ne hne2, e1] at ho; simp at ho; subst ho; exact lowL_closed _ vB_closed⟩
      · exact free_clo H' H.n d done x (by simp only [] at h1; omega) (by simp only [] at h1; omega) (by rw [h2 _ (by simp)]; exact (by simp (disch := omega) only [upd_eq, upd_ne, wo_0, wo_1, wo_2, e0])) (by rw [h2 _ (by simp)]; exact (by simp (disch := omega) only [upd_eq, upd_ne, wo_0, wo_1, wo_2, e1])) (ht x hx)
      · rw [hall]
        cases ha : ts[i].needs.all fun x => done.getD x.toNat false with
        | false =>
          have hfb : freeB ts[i] done i = false := by simp only [freeB, ha]; simp
          simp (maxSteps := 1000000) (disch := omega) only [rg, gD, Nat.reduceBEq, Nat.reduceEqDiff, Nat.reduceAdd, Int.reduceEq, Int.reduceLT, Int.reduceLE, Int.reduceToNat, reduceIte, reduceCtorEq, Nat.reduceLeDiff, Nat.reduceLT, Nat.reduceMul, Nat.reduceSub]
          refine hN _ _ i1 ⟨by simp only []; omega, by simp only []; omega, (by simp (disch := omega) only [upd_eq, upd_ne, wo_0, wo_1, wo_2, e0]), (by simp (disch := omega) only [upd_eq, upd_ne, wo_0, wo_1, wo_2, e1]), _, rfl, ?_⟩
          rw [hno true hfb]
          rcases hv with ⟨rfl, he⟩ | ⟨id, h1, h2, rfl, h3⟩
          · exact .inl ⟨rfl, he⟩
          · exact .inr ⟨id, h1, by simp only []; omega, rfl, (by simp (disch := omega) only [upd_eq, upd_ne, wo_0, wo_1, wo_2, h3])⟩
        | true =>
          have hfb : freeB ts[i] done i = true := by simp only [freeB, ha, hdi]; rfl
          have hs2 : vI (freeS ts done i) ++ [.int .i64 i] = vI (freeS ts done (i + 1)) := by rw [hns, if_pos hfb]; exact mv_app1
          have hl3 : (freeS ts done (i + 1)).length = (freeS ts done i).length + 1 := by rw [hns, if_pos hfb]; simp
          have ht3 : List.take (freeS ts done i).length (vI (freeS ts done i)) = vI (freeS ts done i) := List.take_of_length_le (by rw [vI_len]; omega)
          rcases hv with ⟨rfl, he⟩ | ⟨id, h1, h2, rfl, h3⟩
          · simp (maxSteps := 1000000) (disch := omega) only [rg, gD, Nat.reduceBEq, Nat.reduceEqDiff, Nat.reduceAdd, Int.reduceEq, Int.reduceLT, Int.reduceLE, Int.reduceToNat, reduceIte, reduceCtorEq, Nat.reduceLeDiff, Nat.reduceLT, Nat.reduceMul, Nat.reduceSub, appO, Nat.mul_zero]
            refine hN _ _ i1 ⟨by simp only []; omega, by simp only []; omega, (by simp (disch := omega) only [upd_eq, upd_ne, wo_0, wo_1, wo_2, e0]), (by simp (disch := omega) only [upd_eq, upd_ne, wo_0, wo_1, wo_2, e1]), _, rfl, .inr ⟨n' + 1, by omega, by simp, by rw [hl3, he]; rfl, by rw [← hs2, he]; simp [upd, vI, mv]⟩⟩
          · simp (maxSteps := 1000000) (disch := omega) only [rg, gD, Nat.reduceBEq, Nat.reduceEqDiff, Nat.reduceAdd, Int.reduceEq, Int.reduceLT, Int.reduceLE, Int.reduceToNat, reduceIte, reduceCtorEq, Nat.reduceLeDiff, Nat.reduceLT, Nat.reduceMul, Nat.reduceSub, appO, h3, hs2, ht3, vI_len, Nat.mul_zero]
            exact ⟨by omega, hN _ _ i1 ⟨by simp only []; omega, by simp only []; omega, (by simp (disch := omega) only [upd_eq, upd_ne, wo_0, wo_1, wo_2, e0]), (by simp (disch := omega) only [upd_eq, upd_ne, wo_0, wo_1, wo_2, e1]), _, rfl, .inr ⟨n' + 1, by omega, by simp, by rw [hl3], (by simp (disch := omega) only [upd_eq, upd_ne, wo_0, wo_1, wo_2])⟩⟩⟩
  · obtain rfl : i = ts.length := by omega
    refine hX _ _ _ ?_
    simp (maxSteps := 1000000) (disch := omega) only [rg, gD, Nat.reduceBEq, Nat.reduceEqDiff, Nat.reduceAdd, Int.reduceEq, Int.reduceLT, Int.reduceLE, Int.reduceToNat, reduceIte, reduceCtorEq, Nat.reduceLeDiff, Nat.reduceLT, Nat.reduceMul, Nat.reduceSub]
    rcases hv with ⟨rfl, he⟩ | ⟨id, h1, h2, rfl, h3⟩
    · refine x_frz0 ?_
      simp (maxSteps := 1000000) (disch := omega) only [rg, gD, Nat.reduceBEq, Nat.reduceEqDiff, Nat.reduceAdd, Int.reduceEq, Int.reduceLT, Int.reduceLE, Int.reduceToNat, reduceIte, reduceCtorEq, Nat.reduceLeDiff, Nat.reduceLT, Nat.reduceMul, Nat.reduceSub]
      exact fin_A (l := [.fsl .nil 1 []]) rfl (.inr (.inl (by rw [he]; rfl))) (by simp only []; omega) (fun j => by
        by_cases hj : j = d
        · subst hj; right; simp only [appd, q2, e1]
        · left; simp [appd, only, hj])
    · refine x_frz [id] ?_; simp only [vr, frz_p]; rw [frz_row (id := id) (sz := 1) (l := vI (freeS ts done ts.length)) (by first | assumption | (simp [upd]; done) | (simp [upd, *]; done)) (by simp) (by first | rfl | (simp [mv_len, vI_len, vI_closed] <;> omega)) (by simp [mv_closed, V.closed, vI_len, vI_closed])]
      simp (maxSteps := 1000000) (disch := omega) only [rg, gD, Nat.reduceBEq, Nat.reduceEqDiff, Nat.reduceAdd, Int.reduceEq, Int.reduceLT, Int.reduceLE, Int.reduceToNat, reduceIte, reduceCtorEq, Nat.reduceLeDiff, Nat.reduceLT, Nat.reduceMul, Nat.reduceSub]
      exact fin_A (l := [.fsl .loose 1 (vI (freeS ts done ts.length))]) rfl (.inl rfl) (by simp only []; omega) (fun j => by
        by_cases hj : j = d
        · subst hj; right
          simp only [appd, q2]
          rw [wo_1 (by omega)]; exact e1.symm
        · left; simp [appd, only, hj])

end Go.Proofs.Ytjlpmndipceboaa.Ev
end
section
set_option linter.unusedSimpArgs false
set_option linter.unusedVariables false
set_option maxRecDepth 10000
namespace Go.Proofs.Ytjlpmndipceboaa.Ev
open Go

def orderS (ts : List Task) : Nat → List Bool → List Int → List Int
  | 0, _, out => out
  | k + 1, done, out => match freeS ts done ts.length with | [] => out | i :: _ => orderS ts k (done.set i.toNat true) (out ++ [i])
theorem freeS_mem {ts : List Task} {done : List Bool} {x : Int} (h : x ∈ freeS ts done ts.length) : ∃ i : Nat, x = i ∧ ∃ hi : i < ts.length, freeB ts[i] done i = true := by
  simp only [freeS, List.mem_map, List.mem_filter, List.take_length] at h
  obtain ⟨⟨t, i⟩, ⟨h1, h2⟩, rfl⟩ := h
  obtain ⟨_, h3, h4⟩ := List.mem_zipIdx h1
  simp at h3 h4
  exact ⟨i, rfl, h3, by rw [← h4]; exact h2⟩
theorem freeS_full {ts : List Task} {done : List Bool} (hl : ts.length = done.length) (h : done.count true = done.length) : freeS ts done ts.length = [] := by
  cases hf : freeS ts done ts.length with
  | nil => rfl
  | cons x l =>
    obtain ⟨i, rfl, hi, hb⟩ := freeS_mem (x := x) (by rw [hf]; simp)
    have hd : done.getD i false = true := by
      have := (List.count_eq_length.1 h) done[i] (List.getElem_mem (by omega))
      rw [List.getD_eq_getElem?_getD]; simp [show i < done.length by omega, ← this]
    rw [freeB, hd] at hb; simp at hb
theorem count_set {done : List Bool} {i : Nat} (hi : i < done.length) (h : done.getD i false = false) : (done.set i true).count true = done.count true + 1 := by
  rw [List.count_set hi]
  have : done[i] = false := by simpa [List.getD_eq_getElem?_getD, hi] using h
  simp [this]

def orderF (ts : List Task) : List Int := orderS ts (ts.length + 1) (List.replicate ts.length false) []

theorem dag_order (st : St) (ts : List Task) (hl : ts.length ≤ 10) (hnl : ∀ t ∈ ts, t.needs.length ≤ 1000000) (hin : inR ts ts.length) : PCall Try.prog 76 [.fsl st 4 (mv taskV ts)] (.fsl .loose 1 (vI (orderF ts))) := by
  refine en76 (by simp) (by simp [closedL, V.closed, mv_closed taskV_closed]) ?_
  simp (maxSteps := 1000000) (disch := omega) only [rg, gD, Nat.reduceBEq, Nat.reduceEqDiff, Nat.reduceAdd, Int.reduceEq, Int.reduceLT, Int.reduceLE, Int.reduceToNat, reduceIte, reduceCtorEq, Nat.reduceLeDiff, Nat.reduceLT, Nat.reduceMul, Nat.reduceSub, c76]
  refine ⟨by omega, ?_⟩
  refine x_it ts.length (fun i σ H => 1 ≤ H.n ∧ ∃ done out v, done.length = ts.length ∧ done.count true = i ∧ out.length = i ∧ orderF ts = orderS ts (ts.length + 1 - i) done out ∧ H.m 0 = some (.arr 1 (vB done)) ∧ σ = [(0, .fsl st 4 (mv taskV ts)), (3, .sl 0 0 ts.length), (4, v)] ∧
    ((v = .fsl .nil 1 [] ∧ out = []) ∨ ∃ id, 1 ≤ id ∧ id < H.n ∧ v = .sl id 0 out.length ∧ H.m id = some (.arr 1 (vI out)))) ?_ ?_
  · exact ⟨Nat.le_refl 1, List.replicate ts.length false, [], _, by simp, by simp [List.count_replicate], rfl, rfl, by simp [upd, vB, mv], rfl, .inl ⟨rfl, rfl⟩⟩
  rintro T i σ ⟨q, m⟩ hi ⟨hq, done, out, v, h1, h2, h3, h4, e0, rfl, hv⟩ hN hX hR
  simp only at hq e0 hv
  have fr := dag_free st ts done 0 ⟨q, m⟩ (by omega) hl hnl (by rw [h1]; exact hin) hq e0
  rw [h1] at fr
  have h5 : ts.length + 1 - i = (ts.length - i) + 1 := by omega
  rw [h5, orderS] at h4
  simp (maxSteps := 1000000) (disch := omega) only [rg, gD, Nat.reduceBEq, Nat.reduceEqDiff, Nat.reduceAdd, Int.reduceEq, Int.reduceLT, Int.reduceLE, Int.reduceToNat, reduceIte, reduceCtorEq, Nat.reduceLeDiff, Nat.reduceLT, Nat.reduceMul, Nat.reduceSub]
  refine ⟨_, _, _, _, fr, ?_⟩
  cases hf : freeS ts done ts.length with
  | nil =>
    rw [hf] at h4; simp only at h4
    simp (maxSteps := 1000000) (disch := omega) only [rg, gD, Nat.reduceBEq, Nat.reduceEqDiff, Nat.reduceAdd, Int.reduceEq, Int.reduceLT, Int.reduceLE, Int.reduceToNat, reduceIte, reduceCtorEq, Nat.reduceLeDiff, Nat.reduceLT, Nat.reduceMul, Nat.reduceSub, vI_len, Int.natCast_zero]
    refine hR _ _ ?_
    simp (maxSteps := 1000000) (disch := omega) only [rg, gD, Nat.reduceBEq, Nat.reduceEqDiff, Nat.reduceAdd, Int.reduceEq, Int.reduceLT, Int.reduceLE, Int.reduceToNat, reduceIte, reduceCtorEq, Nat.reduceLeDiff, Nat.reduceLT, Nat.reduceMul, Nat.reduceSub]
    rcases hv with ⟨rfl, rfl⟩ | ⟨id, g1, g2, rfl, g3⟩
    · (refine fin_x rfl ?_ ?_ <;> simp [pack, lo, loL, V.closed, closedL, mv_closed, h4, vI, mv])
    · refine fin_y (v := .fsl .loose 1 (vI out)) rfl (snap_sl g3 vI_closed (vI_len out).symm) (by simp [lo, vI_lo, h4])
  | cons x l =>
    obtain ⟨k, hk, hk1, hk2⟩ := freeS_mem (x := x) (by rw [hf]; simp)
    subst hk
    rw [hf] at h4; simp only at h4
    simp only [freeB, Bool.and_eq_true, Bool.not_eq_true'] at hk2
    have hdk : k < done.length := by omega
    have hc := count_set hdk hk2.1
    have hlt : i < ts.length := by
      rcases Nat.lt_or_ge i ts.length with h | h
      · exact h
      · have := freeS_full (ts := ts) (by omega) (show done.count true = done.length by omega)
        rw [this] at hf; cases hf
    have hpos : ¬ ((l.length + 1 : Nat) : Int) = 0 := by omega
    have hg0 : (vI ((k : Int) :: l))[0]? = some (.int .i64 k) := rfl
    simp (maxSteps := 1000000) (disch := omega) only [rg, gD, Nat.reduceBEq, Nat.reduceEqDiff, Nat.reduceAdd, Int.reduceEq, Int.reduceLT, Int.reduceLE, Int.reduceToNat, reduceIte, reduceCtorEq, Nat.reduceLeDiff, Nat.reduceLT, Nat.reduceMul, Nat.reduceSub, vI_len, hpos, hg0, show (0 : Int).toNat = 0 from rfl, e0, vB_get hdk, h1]
    refine ⟨by omega, ?_⟩
    have hset : (vB done).set k (.bool true) = vB (done.set k true) := mv_set
    have e6 : ts.length + 1 - (i + 1) = ts.length - i := by omega
    have hl3 : (out ++ [(k : Int)]).length = out.length + 1 := by simp
    have ho : vI out ++ [.int .i64 k] = vI (out ++ [(k : Int)]) := mv_app1
    rcases hv with ⟨rfl, rfl⟩ | ⟨id, g1, g2, rfl, g3⟩
    · simp (maxSteps := 1000000) (disch := omega) only [rg, gD, Nat.reduceBEq, Nat.reduceEqDiff, Nat.reduceAdd, Int.reduceEq, Int.reduceLT, Int.reduceLE, Int.reduceToNat, reduceIte, reduceCtorEq, Nat.reduceLeDiff, Nat.reduceLT, Nat.reduceMul, Nat.reduceSub, appO, hset]
      exact hN _ _ hlt ⟨by simp only []; omega, done.set k true, [] ++ [(k : Int)], _, by simpa using h1, by rw [hc, h2], by simp at h3 ⊢; omega, by rw [e6]; simpa using h4, (by simp (disch := omega) only [upd_eq, upd_ne, wo_0, wo_1, wo_2]), rfl, .inr ⟨q + 100, by omega, by simp, rfl, by rw [← ho]; simp [upd, vI, mv]⟩⟩
    · have ht3 : List.take out.length (vI out) = vI out := List.take_of_length_le (by rw [vI_len]; omega)
      have hid : id ≠ 0 := by omega
      simp (maxSteps := 1000000) (disch := omega) only [rg, gD, Nat.reduceBEq, Nat.reduceEqDiff, Nat.reduceAdd, Int.reduceEq, Int.reduceLT, Int.reduceLE, Int.reduceToNat, reduceIte, reduceCtorEq, Nat.reduceLeDiff, Nat.reduceLT, Nat.reduceMul, Nat.reduceSub, appO, hset, g3, vI_len, ht3, ho]
      exact ⟨by omega, hN _ _ hlt ⟨by simp only []; omega, done.set k true, out ++ [(k : Int)], _, by simpa using h1, by rw [hc, h2], by rw [hl3, h3], by rw [e6]; simpa using h4, (by simp (disch := omega) only [upd_eq, upd_ne, wo_0, wo_1, wo_2]), rfl, .inr ⟨q + 100, by omega, by simp, by rw [hl3], (by simp (disch := omega) only [upd_eq, upd_ne, wo_0, wo_1, wo_2])⟩⟩⟩

def dagRightS (d : Dag) : Int :=
  if 10 < d.tasks.length then 2 else if d.tasks.length < 1 ∨ d.name.length < 1 ∨ 16 < d.name.length ∨ (d.tasks.any fun t => !taskOkS t d.tasks.length) = true then 1 else if (orderF d.tasks).length < d.tasks.length then 160 else 0

theorem rise_range : ∀ {l : List Int} {last n : Int}, riseS last l n = true → -1 ≤ last → (∀ x ∈ l, 0 ≤ x ∧ x < n) ∧ (l.length : Int) ≤ max (n - 1 - last) 0
  | [], last, n, _, _ => ⟨by simp, by simp; omega⟩
  | x :: xs, last, n, h, h0 => by
    simp only [riseS, Bool.and_eq_true, Bool.not_eq_true', decide_eq_false_iff_not] at h
    obtain ⟨h1, h2, h3⟩ := h
    obtain ⟨k1, k2⟩ := rise_range h3 (by omega)
    refine ⟨fun y hy => ?_, by simp; omega⟩
    rcases List.mem_cons.1 hy with rfl | hy
    · omega
    · exact k1 y hy

theorem right_clo (H : Hp) (b : Nat) (t : Task) (n : Int) (hb : b < H.n) (h1 : H.m b = some (.arr 1 [.int .i64 n])) (hl : t.needs.length ≤ 4611686018427387904) :
    ACall Try.prog 74 [taskV t, .ptr b 0 0] H [b] (.bool (!taskOkS t n)) [] 1 := by
  refine ena74 (by simp) (by simp [lowL, V.low, hb, V.low_closed _ (taskV_closed t)]) (fun id hid => ?_) (by simp) ?_
  · simp at hid; subst hid
    exact ⟨hb, fun o ho => by rw [h1] at ho; simp at ho; subst ho; rfl⟩
  have q1 : only [b] H.m b = some (.arr 1 [.int .i64 n]) := by simp [only, h1]
  have hne : b ≠ H.n := by omega
  have k := dag_task t n hl
  unfold taskV at k ⊢
  simp (maxSteps := 1000000) (disch := omega) only [rg, gD, Nat.reduceBEq, Nat.reduceEqDiff, Nat.reduceAdd, Int.reduceEq, Int.reduceLT, Int.reduceLE, Int.reduceToNat, reduceIte, reduceCtorEq, Nat.reduceLeDiff, Nat.reduceLT, Nat.reduceMul, Nat.reduceSub, c74, q1]
  refine ⟨_, k, ?_⟩
  simp (maxSteps := 1000000) (disch := omega) only [rg, gD, Nat.reduceBEq, Nat.reduceEqDiff, Nat.reduceAdd, Int.reduceEq, Int.reduceLT, Int.reduceLE, Int.reduceToNat, reduceIte, reduceCtorEq, Nat.reduceLeDiff, Nat.reduceLT, Nat.reduceMul, Nat.reduceSub]
  refine fin_A (l := [.bool (!taskOkS t n)]) rfl (.inl rfl) (by simp) (fun j => ?_)
  by_cases hj : j = H.n
  · subst hj; left; simp [appd, only]; omega
  · right; simp [appd, upd, hj]

def unI : V → Int
  | .int _ n => n
  | _ => 0
theorem unI_map : ∀ l : List Int, (vI l).map unI = l
  | [] => rfl
  | a :: l => by show a :: (vI l).map unI = _; rw [unI_map l]
theorem con_tasks {st : St} {rows : List Task} {fs cs : List V} {g : Nat} {q : Task → Bool} {H : Hp} {fp : List Nat} {kk : Nat} (hn : rows.length ≤ 1000000) (hl : lowL H.n fs = true) (hl' : lowL H.n cs = true) (hfp : FpOk H fp)
    (hg : ∀ x ∈ rows, ∀ H' : Hp, H.n ≤ H'.n → (∀ id ∈ fp, H'.m id = H.m id) → ACall Try.prog g (fs ++ [taskV x] ++ cs) H' fp (.bool (q x)) [] kk) :
    ACall Try.prog 73 [.fsl st 4 (mv taskV rows), .fn g fs cs] H fp (.bool (rows.any q)) [] (rows.length * kk) := by
  let un : V → Task := fun v => match v with | .agg [.fsl _ _ l, .int _ a, .int _ b, .int _ c] => ⟨l.map unI, a, b, c⟩ | _ => ⟨[], 0, 0, 0⟩
  have hun : ∀ t, un (taskV t) = t := fun t => by
    simp only [un, taskV]
    rw [unI_map]
  have := con_gen (f := 73) (f2 := 83) (sz := 4) (k := some 4) (st := st) (rows := mv taskV rows) (fs := fs) (cs := cs) (g := g) (q := fun v => q (un v)) (H := H) (fp := fp) (kk := kk)
    ena73 ena83 (by decide) (by decide) (mv_closed taskV_closed) (fun e he => by obtain ⟨a, _, rfl⟩ := mv_mem he; rfl) (by rw [mv_len]; omega) hl hl' hfp
    (fun e he H' h1 h2 => by obtain ⟨a, ha, rfl⟩ := mv_mem he; simp only [hun]; exact hg a ha H' h1 h2)
  rw [mv_len] at this
  have e : (mv taskV rows).any (fun v => q (un v)) = rows.any q := by
    rw [mv, List.any_map]; congr 1; funext t; exact congrArg q (hun t)
  rwa [e] at this

theorem dag_right (d : Dag) (hd : ∀ t ∈ d.tasks, t.needs.length ≤ 4611686018427387904) (hn : d.tasks.length ≤ 4611686018427387904) : PCall Try.prog 52 [dagV d] (.int .i64 (dagRightS d)) := by
  refine en52 (by simp) (by simp [closedL, V.closed, dagV_closed]) ?_
  simp (maxSteps := 1000000) (disch := omega) only [rg, gD, Nat.reduceBEq, Nat.reduceEqDiff, Nat.reduceAdd, Int.reduceEq, Int.reduceLT, Int.reduceLE, Int.reduceToNat, reduceIte, reduceCtorEq, Nat.reduceLeDiff, Nat.reduceLT, Nat.reduceMul, Nat.reduceSub, c52, dagV, tasksV]
  by_cases c0 : 10 < d.tasks.length
  · simp (maxSteps := 1000000) (disch := omega) only [rg, gD, Nat.reduceBEq, Nat.reduceEqDiff, Nat.reduceAdd, Int.reduceEq, Int.reduceLT, Int.reduceLE, Int.reduceToNat, reduceIte, reduceCtorEq, Nat.reduceLeDiff, Nat.reduceLT, Nat.reduceMul, Nat.reduceSub, show (10 : Int) < d.tasks.length by omega]
    (refine fin_x rfl ?_ ?_ <;> simp [pack, lo, loL, V.closed, closedL, mv_closed, dagRightS, c0])
  by_cases c1 : d.tasks.length < 1
  · simp (maxSteps := 1000000) (disch := omega) only [rg, gD, Nat.reduceBEq, Nat.reduceEqDiff, Nat.reduceAdd, Int.reduceEq, Int.reduceLT, Int.reduceLE, Int.reduceToNat, reduceIte, reduceCtorEq, Nat.reduceLeDiff, Nat.reduceLT, Nat.reduceMul, Nat.reduceSub, show ¬ (10 : Int) < d.tasks.length by omega, show (d.tasks.length : Int) < 1 by omega]
    (refine fin_x rfl ?_ ?_ <;> simp [pack, lo, loL, V.closed, closedL, mv_closed, dagRightS, c0, c1])
  by_cases c2 : d.name.length < 1
  · simp (maxSteps := 1000000) (disch := omega) only [rg, gD, Nat.reduceBEq, Nat.reduceEqDiff, Nat.reduceAdd, Int.reduceEq, Int.reduceLT, Int.reduceLE, Int.reduceToNat, reduceIte, reduceCtorEq, Nat.reduceLeDiff, Nat.reduceLT, Nat.reduceMul, Nat.reduceSub, show ¬ (10 : Int) < d.tasks.length by omega, show ¬ (d.tasks.length : Int) < 1 by omega, show (d.name.length : Int) < 1 by omega]
    (refine fin_x rfl ?_ ?_ <;> simp [pack, lo, loL, V.closed, closedL, mv_closed, dagRightS, c0, c2])
  by_cases c3 : 16 < d.name.length
  · simp (maxSteps := 1000000) (disch := omega) only [rg, gD, Nat.reduceBEq, Nat.reduceEqDiff, Nat.reduceAdd, Int.reduceEq, Int.reduceLT, Int.reduceLE, Int.reduceToNat, reduceIte, reduceCtorEq, Nat.reduceLeDiff, Nat.reduceLT, Nat.reduceMul, Nat.reduceSub, show ¬ (10 : Int) < d.tasks.length by omega, show ¬ (d.tasks.length : Int) < 1 by omega, show ¬ (d.name.length : Int) < 1 by omega, show (16 : Int) < d.name.length by omega]
    (refine fin_x rfl ?_ ?_ <;> simp [pack, lo, loL, V.closed, closedL, mv_closed, dagRightS, c0, c3])
  simp (maxSteps := 1000000) (disch := omega) only [rg, gD, Nat.reduceBEq, Nat.reduceEqDiff, Nat.reduceAdd, Int.reduceEq, Int.reduceLT, Int.reduceLE, Int.reduceToNat, reduceIte, reduceCtorEq, Nat.reduceLeDiff, Nat.reduceLT, Nat.reduceMul, Nat.reduceSub, show ¬ (10 : Int) < d.tasks.length by omega, show ¬ (d.tasks.length : Int) < 1 by omega, show ¬ (d.name.length : Int) < 1 by omega, show ¬ (16 : Int) < d.name.length by omega]
  refine ⟨_, _, _, _, con_tasks (rows := d.tasks) (q := fun t => !taskOkS t d.tasks.length) (fp := [1]) (kk := 1) (by omega) rfl (by simp [lowL, V.low]) (fun id hid => ?_) (fun t ht H' h1 h2 => ?_), ?_⟩
  · simp at hid; subst hid
    exact ⟨by simp, fun o ho => by simp only [upd_eq] at ho; simp at ho; subst ho; rfl⟩
  · exact right_clo H' 1 t _ (by simp only [] at h1; omega) (by rw [h2 1 (by simp)]; exact (by simp (disch := omega) only [upd_eq, upd_ne, wo_0, wo_1, wo_2])) (hd t ht)
  cases ha : d.tasks.any fun t => !taskOkS t d.tasks.length with
  | true =>
    simp (maxSteps := 1000000) (disch := omega) only [rg, gD, Nat.reduceBEq, Nat.reduceEqDiff, Nat.reduceAdd, Int.reduceEq, Int.reduceLT, Int.reduceLE, Int.reduceToNat, reduceIte, reduceCtorEq, Nat.reduceLeDiff, Nat.reduceLT, Nat.reduceMul, Nat.reduceSub]
    (refine fin_x rfl ?_ ?_ <;> simp [pack, lo, loL, V.closed, closedL, mv_closed, dagRightS, c0, c1, c2, c3, ha])
  | false =>
    have hall : ∀ t ∈ d.tasks, taskOkS t d.tasks.length = true := fun t ht => by
      have := List.any_eq_false.1 ha t ht; simpa using this
    have hrg : ∀ t ∈ d.tasks, (∀ x ∈ t.needs, 0 ≤ x ∧ x < d.tasks.length) ∧ (t.needs.length : Int) ≤ max ((d.tasks.length : Int) - 1 - (-1)) 0 := fun t ht => by
      have := hall t ht
      simp only [taskOkS, Bool.and_eq_true] at this
      exact rise_range this.1 (by omega)
    simp (maxSteps := 1000000) (disch := omega) only [rg, gD, Nat.reduceBEq, Nat.reduceEqDiff, Nat.reduceAdd, Int.reduceEq, Int.reduceLT, Int.reduceLE, Int.reduceToNat, reduceIte, reduceCtorEq, Nat.reduceLeDiff, Nat.reduceLT, Nat.reduceMul, Nat.reduceSub]
    refine ⟨_, dag_order .loose d.tasks (by omega) (fun t ht => by have := (hrg t ht).2; omega) (fun t ht => (hrg t ht).1), ?_⟩
    simp (maxSteps := 1000000) (disch := omega) only [rg, gD, Nat.reduceBEq, Nat.reduceEqDiff, Nat.reduceAdd, Int.reduceEq, Int.reduceLT, Int.reduceLE, Int.reduceToNat, reduceIte, reduceCtorEq, Nat.reduceLeDiff, Nat.reduceLT, Nat.reduceMul, Nat.reduceSub, vI_len]
    refine ⟨fun h => ?_, fun h => ?_⟩
    · (refine fin_x rfl ?_ ?_ <;> simp [pack, lo, loL, V.closed, closedL, mv_closed, dagRightS, c0, c1, c2, c3, ha, show (orderF d.tasks).length < d.tasks.length by omega])
    · (refine fin_x rfl ?_ ?_ <;> simp [pack, lo, loL, V.closed, closedL, mv_closed, dagRightS, c0, c1, c2, c3, ha, show ¬ (orderF d.tasks).length < d.tasks.length by omega])

end Go.Proofs.Ytjlpmndipceboaa.Ev
end
section
set_option linter.unusedSimpArgs false
set_option linter.unusedVariables false
set_option maxRecDepth 10000
namespace Go.Proofs.Ytjlpmndipceboaa.Ev
open Go

def needsOf (ts : List Task) (k : Nat) : List Int := match ts[k]? with | some t => t.needs | none => []
theorem needsOf_get {ts : List Task} {k : Nat} (h : k < ts.length) : needsOf ts k = ts[k].needs := by simp [needsOf, h]
def markS (l : List Int) (o : List Bool) : List Bool := l.foldl (fun w x => w.set x.toNat true) o
theorem markS_len : ∀ (l : List Int) (o : List Bool), (markS l o).length = o.length
  | [], _ => rfl
  | x :: l, o => by show (markS l (o.set x.toNat true)).length = _; rw [markS_len l]; simp
theorem markS_take {l : List Int} {i : Nat} (h : i < l.length) (o : List Bool) : markS (l.take (i + 1)) o = (markS (l.take i) o).set l[i].toNat true := by
  rw [List.take_succ_eq_append_getElem h, markS, List.foldl_append]; rfl
def roundS (ts : List Task) : Nat → List Bool → List Bool
  | 0, o => o
  | k + 1, o => if (roundS ts k o).getD k false = true then markS (needsOf ts k) (roundS ts k o) else roundS ts k o
theorem roundS_len (ts : List Task) : ∀ (k : Nat) (o : List Bool), (roundS ts k o).length = o.length
  | 0, _ => rfl
  | k + 1, o => by
    rw [roundS]; split
    · rw [markS_len, roundS_len ts k]
    · exact roundS_len ts k o
def reachK (ts : List Task) (f : Nat) : Nat → List Bool
  | 0 => markS (needsOf ts f) (List.replicate ts.length false)
  | k + 1 => roundS ts ts.length (reachK ts f k)
theorem reachK_len (ts : List Task) (f : Nat) : ∀ k, (reachK ts f k).length = ts.length
  | 0 => by simp [reachK, markS_len]
  | k + 1 => by rw [reachK, roundS_len, reachK_len ts f k]

theorem ref_reach (d : Dag) (f : Nat) (hf : f < d.tasks.length) (hl : d.tasks.length ≤ 10) (hnl : ∀ t ∈ d.tasks, t.needs.length ≤ 1000000) (hin : inR d.tasks d.tasks.length) :
    PCall Try.prog 58 [dagV d, .int .i64 f] (.fsl .loose 1 (vB (reachK d.tasks f d.tasks.length))) := by
  refine en58 (by simp) (by simp [closedL, V.closed, dagV_closed]) ?_
  have hnf : ∀ x ∈ d.tasks[f].needs, 0 ≤ x ∧ x < d.tasks.length := hin _ (List.getElem_mem hf)
  have hnfl := hnl _ (List.getElem_mem hf)
  have hrep : List.replicate d.tasks.length (V.bool false) = vB (List.replicate d.tasks.length false) := by simp [vB, mv]
  simp (maxSteps := 1000000) (disch := omega) only [rg, gD, Nat.reduceBEq, Nat.reduceEqDiff, Nat.reduceAdd, Int.reduceEq, Int.reduceLT, Int.reduceLE, Int.reduceToNat, reduceIte, reduceCtorEq, Nat.reduceLeDiff, Nat.reduceLT, Nat.reduceMul, Nat.reduceSub, c58, dagV, tasksV, taskV, vI_len, hrep]
  refine ⟨⟨by omega, by omega⟩, ?_⟩
  refine x_it d.tasks[f].needs.length (fun i σ H => H.n = 2 ∧ H.m 0 = some (.arr 2 [dagV d]) ∧ H.m 1 = some (.arr 1 (vB (markS (d.tasks[f].needs.take i) (List.replicate d.tasks.length false)))) ∧ σ = [(2, .ptr 0 0 0), (5, .sl 1 0 d.tasks.length), (22, .fsl .loose 1 (vI d.tasks[f].needs)), (23, .int .i64 d.tasks[f].needs.length), (24, .int .i64 i)]) ⟨rfl, by simp [upd, dagV, tasksV], by simp [upd, markS], rfl⟩ ?_
  rintro T i σ ⟨q, m⟩ hi ⟨rfl, e0, e1, rfl⟩ hN hX hR
  simp only at e0 e1
  simp (maxSteps := 1000000) (disch := omega) only [rg, gD, Nat.reduceBEq, Nat.reduceEqDiff, Nat.reduceAdd, Int.reduceEq, Int.reduceLT, Int.reduceLE, Int.reduceToNat, reduceIte, reduceCtorEq, Nat.reduceLeDiff, Nat.reduceLT, Nat.reduceMul, Nat.reduceSub]
  refine ⟨fun h => ?_, fun h => ?_⟩
  · have i1 : i < d.tasks[f].needs.length := by omega
    have hx := hnf _ (List.getElem_mem i1)
    have hlt : d.tasks[f].needs[i].toNat < (markS (d.tasks[f].needs.take i) (List.replicate d.tasks.length false)).length := by rw [markS_len]; simp; omega
    simp (maxSteps := 1000000) (disch := omega) only [rg, gD, Nat.reduceBEq, Nat.reduceEqDiff, Nat.reduceAdd, Int.reduceEq, Int.reduceLT, Int.reduceLE, Int.reduceToNat, reduceIte, reduceCtorEq, Nat.reduceLeDiff, Nat.reduceLT, Nat.reduceMul, Nat.reduceSub, vI_get, e1, vB_get hlt]
    refine ⟨by omega, hN _ _ i1 ⟨rfl, (by simp (disch := omega) only [upd_eq, upd_ne, wo_0, wo_1, wo_2, e0]), ?_, rfl⟩⟩
    rw [markS_take i1]; simp only [upd_eq, vB, mv_set]
  · obtain rfl : i = d.tasks[f].needs.length := by omega
    rw [List.take_length, ← needsOf_get hf] at e1
    refine hX _ _ _ ?_
    simp (maxSteps := 1000000) (disch := omega) only [rg, gD, Nat.reduceBEq, Nat.reduceEqDiff, Nat.reduceAdd, Int.reduceEq, Int.reduceLT, Int.reduceLE, Int.reduceToNat, reduceIte, reduceCtorEq, Nat.reduceLeDiff, Nat.reduceLT, Nat.reduceMul, Nat.reduceSub]
    refine x_frz0 ?_
    simp (maxSteps := 1000000) (disch := omega) only [rg, gD, Nat.reduceBEq, Nat.reduceEqDiff, Nat.reduceAdd, Int.reduceEq, Int.reduceLT, Int.reduceLE, Int.reduceToNat, reduceIte, reduceCtorEq, Nat.reduceLeDiff, Nat.reduceLT, Nat.reduceMul, Nat.reduceSub]
    refine x_it d.tasks.length (fun k σ H => 2 ≤ H.n ∧ H.m 0 = some (.arr 2 [dagV d]) ∧ H.m 1 = some (.arr 1 (vB (reachK d.tasks f k))) ∧ σ = [(2, .ptr 0 0 0), (5, .sl 1 0 d.tasks.length), (8, .int .i64 k)]) ⟨Nat.le_refl 2, e0, e1, rfl⟩ ?_
    clear hN hX hR
    rintro T2 k σ ⟨q, m2⟩ hk ⟨hq, f0, f1, rfl⟩ hN2 hX2 hR2
    simp only at hq f0 f1
    have f0' := f0
    unfold dagV tasksV at f0
    simp (maxSteps := 1000000) (disch := omega) only [rg, gD, Nat.reduceBEq, Nat.reduceEqDiff, Nat.reduceAdd, Int.reduceEq, Int.reduceLT, Int.reduceLE, Int.reduceToNat, reduceIte, reduceCtorEq, Nat.reduceLeDiff, Nat.reduceLT, Nat.reduceMul, Nat.reduceSub, f0]
    refine ⟨fun h => ?_, fun h => ?_⟩
    · have k1 : k < d.tasks.length := by omega
      refine x_it d.tasks.length (fun j σ H => 2 ≤ H.n ∧ H.m 0 = some (.arr 2 [dagV d]) ∧ H.m 1 = some (.arr 1 (vB (roundS d.tasks j (reachK d.tasks f k)))) ∧ σ = [(2, .ptr 0 0 0), (5, .sl 1 0 d.tasks.length), (8, .int .i64 k), (40, tasksV d.tasks), (41, .int .i64 d.tasks.length), (42, .int .i64 j)]) ⟨hq, f0', f1, rfl⟩ ?_
      rintro T3 j σ ⟨q3, m3⟩ hj ⟨hq3, p0, p1, rfl⟩ hN3 hX3 hR3
      simp only at hq3 p0 p1
      simp (maxSteps := 1000000) (disch := omega) only [rg, gD, Nat.reduceBEq, Nat.reduceEqDiff, Nat.reduceAdd, Int.reduceEq, Int.reduceLT, Int.reduceLE, Int.reduceToNat, reduceIte, reduceCtorEq, Nat.reduceLeDiff, Nat.reduceLT, Nat.reduceMul, Nat.reduceSub, tasksV]
      refine ⟨fun h => ?_, fun h => ?_⟩
      · have j1 : j < d.tasks.length := by omega
        have hlr : j < (roundS d.tasks j (reachK d.tasks f k)).length := by rw [roundS_len, reachK_len]; omega
        have hgD : (roundS d.tasks j (reachK d.tasks f k)).getD j false = (roundS d.tasks j (reachK d.tasks f k))[j] := by simp [List.getD, hlr]
        have hq0 : 0 ≠ q3 := by omega
        have hq1 : 1 ≠ q3 := by omega
        simp (maxSteps := 1000000) (disch := omega) only [rg, gD, Nat.reduceBEq, Nat.reduceEqDiff, Nat.reduceAdd, Int.reduceEq, Int.reduceLT, Int.reduceLE, Int.reduceToNat, reduceIte, reduceCtorEq, Nat.reduceLeDiff, Nat.reduceLT, Nat.reduceMul, Nat.reduceSub, taskV, upd_ne hq1, p1, vB_get hlr]
        cases hb : (roundS d.tasks j (reachK d.tasks f k))[j] with
        | false =>
          simp (maxSteps := 1000000) (disch := omega) only [rg, gD, Nat.reduceBEq, Nat.reduceEqDiff, Nat.reduceAdd, Int.reduceEq, Int.reduceLT, Int.reduceLE, Int.reduceToNat, reduceIte, reduceCtorEq, Nat.reduceLeDiff, Nat.reduceLT, Nat.reduceMul, Nat.reduceSub, hb]
          refine ⟨h, x_frz0 ?_⟩
          simp (maxSteps := 1000000) (disch := omega) only [rg, gD, Nat.reduceBEq, Nat.reduceEqDiff, Nat.reduceAdd, Int.reduceEq, Int.reduceLT, Int.reduceLE, Int.reduceToNat, reduceIte, reduceCtorEq, Nat.reduceLeDiff, Nat.reduceLT, Nat.reduceMul, Nat.reduceSub]
          refine hN3 _ _ j1 ?_
          refine ⟨by show 2 ≤ q3 + 1; omega, (by simp (disch := omega) only [upd_eq, upd_ne, wo_0, wo_1, wo_2, p0]), ?_, rfl⟩
          rw [roundS, hgD, hb, if_neg (by simp)]
          exact (by simp (disch := omega) only [upd_eq, upd_ne, wo_0, wo_1, wo_2, p1])
        | true =>
          simp (maxSteps := 1000000) (disch := omega) only [rg, gD, Nat.reduceBEq, Nat.reduceEqDiff, Nat.reduceAdd, Int.reduceEq, Int.reduceLT, Int.reduceLE, Int.reduceToNat, reduceIte, reduceCtorEq, Nat.reduceLeDiff, Nat.reduceLT, Nat.reduceMul, Nat.reduceSub, hb, vI_len]
          have hx0 := hin _ (List.getElem_mem j1)
          have hx1 := hnl _ (List.getElem_mem j1)
          refine ⟨by omega, ?_⟩
          refine x_it d.tasks[j].needs.length (fun i σ H => 2 ≤ H.n ∧ H.m 0 = some (.arr 2 [dagV d]) ∧ H.m 1 = some (.arr 1 (vB (markS (d.tasks[j].needs.take i) (roundS d.tasks j (reachK d.tasks f k))))) ∧ σ = [(2, .ptr 0 0 0), (5, .sl 1 0 d.tasks.length), (8, .int .i64 k), (40, tasksV d.tasks), (41, .int .i64 d.tasks.length), (42, .int .i64 j), (52, .fsl .loose 1 (vI d.tasks[j].needs)), (53, .int .i64 d.tasks[j].needs.length), (54, .int .i64 i)]) ⟨by show 2 ≤ q3 + 1; omega, (by simp (disch := omega) only [upd_eq, upd_ne, wo_0, wo_1, wo_2, p0]), ?_, rfl⟩ ?_
          · simp only [List.take_zero, markS, List.foldl_nil]; exact (by simp (disch := omega) only [upd_eq, upd_ne, wo_0, wo_1, wo_2, p1])
          rintro T4 i σ ⟨q4, m4⟩ hi4 ⟨hq4, r0, r1, rfl⟩ hN4 hX4 hR4
          simp only at hq4 r0 r1
          simp (maxSteps := 1000000) (disch := omega) only [rg, gD, Nat.reduceBEq, Nat.reduceEqDiff, Nat.reduceAdd, Int.reduceEq, Int.reduceLT, Int.reduceLE, Int.reduceToNat, reduceIte, reduceCtorEq, Nat.reduceLeDiff, Nat.reduceLT, Nat.reduceMul, Nat.reduceSub]
          refine ⟨fun h => ?_, fun h => ?_⟩
          · have i1 : i < d.tasks[j].needs.length := by omega
            have hx := hx0 _ (List.getElem_mem i1)
            have hlt : d.tasks[j].needs[i].toNat < (markS (d.tasks[j].needs.take i) (roundS d.tasks j (reachK d.tasks f k))).length := by rw [markS_len, roundS_len, reachK_len]; omega
            simp (maxSteps := 1000000) (disch := omega) only [rg, gD, Nat.reduceBEq, Nat.reduceEqDiff, Nat.reduceAdd, Int.reduceEq, Int.reduceLT, Int.reduceLE, Int.reduceToNat, reduceIte, reduceCtorEq, Nat.reduceLeDiff, Nat.reduceLT, Nat.reduceMul, Nat.reduceSub, vI_get, r1, vB_get hlt]
            refine ⟨by omega, hN4 _ _ i1 ?_⟩
            refine ⟨hq4, (by simp (disch := omega) only [upd_eq, upd_ne, wo_0, wo_1, wo_2, r0]), ?_, rfl⟩
            rw [markS_take i1]; simp only [upd_eq, vB, mv_set]
          · obtain rfl : i = d.tasks[j].needs.length := by omega
            rw [List.take_length, ← needsOf_get j1] at r1
            refine hX4 _ _ _ ?_
            simp (maxSteps := 1000000) (disch := omega) only [rg, gD, Nat.reduceBEq, Nat.reduceEqDiff, Nat.reduceAdd, Int.reduceEq, Int.reduceLT, Int.reduceLE, Int.reduceToNat, reduceIte, reduceCtorEq, Nat.reduceLeDiff, Nat.reduceLT, Nat.reduceMul, Nat.reduceSub]
            refine x_frz0 ?_
            simp (maxSteps := 1000000) (disch := omega) only [rg, gD, Nat.reduceBEq, Nat.reduceEqDiff, Nat.reduceAdd, Int.reduceEq, Int.reduceLT, Int.reduceLE, Int.reduceToNat, reduceIte, reduceCtorEq, Nat.reduceLeDiff, Nat.reduceLT, Nat.reduceMul, Nat.reduceSub]
            refine hN3 _ _ j1 ?_
            refine ⟨hq4, r0, ?_, rfl⟩
            rw [roundS, hgD, hb, if_pos rfl]
            exact r1
      · obtain rfl : j = d.tasks.length := by omega
        refine hX3 _ _ _ ?_
        simp (maxSteps := 1000000) (disch := omega) only [rg, gD, Nat.reduceBEq, Nat.reduceEqDiff, Nat.reduceAdd, Int.reduceEq, Int.reduceLT, Int.reduceLE, Int.reduceToNat, reduceIte, reduceCtorEq, Nat.reduceLeDiff, Nat.reduceLT, Nat.reduceMul, Nat.reduceSub]
        refine x_frz0 ?_
        simp (maxSteps := 1000000) (disch := omega) only [rg, gD, Nat.reduceBEq, Nat.reduceEqDiff, Nat.reduceAdd, Int.reduceEq, Int.reduceLT, Int.reduceLE, Int.reduceToNat, reduceIte, reduceCtorEq, Nat.reduceLeDiff, Nat.reduceLT, Nat.reduceMul, Nat.reduceSub]
        exact hN2 _ _ k1 ⟨hq3, p0, p1, rfl⟩
    · obtain rfl : k = d.tasks.length := by omega
      refine hX2 _ _ _ ?_
      simp (maxSteps := 1000000) (disch := omega) only [rg, gD, Nat.reduceBEq, Nat.reduceEqDiff, Nat.reduceAdd, Int.reduceEq, Int.reduceLT, Int.reduceLE, Int.reduceToNat, reduceIte, reduceCtorEq, Nat.reduceLeDiff, Nat.reduceLT, Nat.reduceMul, Nat.reduceSub]
      refine x_frz [1] ?_; simp only [vr, frz_p]; rw [frz_row (id := 1) (sz := 1) (l := vB (reachK d.tasks f d.tasks.length)) (by first | assumption | (simp [upd]; done) | (simp [upd, *]; done)) (by simp) (by first | rfl | (simp [mv_len, vB_closed, vB_len, reachK_len] <;> omega)) (by simp [mv_closed, V.closed, vB_closed, vB_len, reachK_len])]
      simp (maxSteps := 1000000) (disch := omega) only [rg, gD, Nat.reduceBEq, Nat.reduceEqDiff, Nat.reduceAdd, Int.reduceEq, Int.reduceLT, Int.reduceLE, Int.reduceToNat, reduceIte, reduceCtorEq, Nat.reduceLeDiff, Nat.reduceLT, Nat.reduceMul, Nat.reduceSub]
      (refine fin_x rfl ?_ ?_ <;> simp [pack, lo, loL, V.closed, closedL, mv_closed, vB_lo, vB_closed])

end Go.Proofs.Ytjlpmndipceboaa.Ev
end
section
set_option linter.unusedSimpArgs false
set_option linter.unusedVariables false
set_option maxRecDepth 10000
namespace Go.Proofs.Ytjlpmndipceboaa.Ev
open Go

def shapedS (d : Dag) : Bool := !(decide (d.tasks.length < 1 ∨ d.name.length < 1 ∨ 16 < d.name.length)) && d.tasks.all fun t => taskOkS t d.tasks.length

theorem ref_shaped (d : Dag) (hd : ∀ t ∈ d.tasks, t.needs.length ≤ 4611686018427387904) (hn : d.tasks.length ≤ 4611686018427387904) : PCall Try.prog 57 [dagV d] (.bool (shapedS d)) := by
  refine en57 (by simp) (by simp [closedL, V.closed, dagV_closed]) ?_
  simp (maxSteps := 1000000) (disch := omega) only [rg, gD, Nat.reduceBEq, Nat.reduceEqDiff, Nat.reduceAdd, Int.reduceEq, Int.reduceLT, Int.reduceLE, Int.reduceToNat, reduceIte, reduceCtorEq, Nat.reduceLeDiff, Nat.reduceLT, Nat.reduceMul, Nat.reduceSub, c57, dagV, tasksV]
  by_cases c1 : d.tasks.length < 1
  · simp (maxSteps := 1000000) (disch := omega) only [rg, gD, Nat.reduceBEq, Nat.reduceEqDiff, Nat.reduceAdd, Int.reduceEq, Int.reduceLT, Int.reduceLE, Int.reduceToNat, reduceIte, reduceCtorEq, Nat.reduceLeDiff, Nat.reduceLT, Nat.reduceMul, Nat.reduceSub, show (d.tasks.length : Int) < 1 by omega]
    (refine fin_x rfl ?_ ?_ <;> simp [pack, lo, loL, V.closed, closedL, mv_closed, shapedS, c1])
  by_cases c2 : d.name.length < 1
  · simp (maxSteps := 1000000) (disch := omega) only [rg, gD, Nat.reduceBEq, Nat.reduceEqDiff, Nat.reduceAdd, Int.reduceEq, Int.reduceLT, Int.reduceLE, Int.reduceToNat, reduceIte, reduceCtorEq, Nat.reduceLeDiff, Nat.reduceLT, Nat.reduceMul, Nat.reduceSub, show ¬ (d.tasks.length : Int) < 1 by omega, show (d.name.length : Int) < 1 by omega]
    (refine fin_x rfl ?_ ?_ <;> simp [pack, lo, loL, V.closed, closedL, mv_closed, shapedS, c2])
  by_cases c3 : 16 < d.name.length
  · simp (maxSteps := 1000000) (disch := omega) only [rg, gD, Nat.reduceBEq, Nat.reduceEqDiff, Nat.reduceAdd, Int.reduceEq, Int.reduceLT, Int.reduceLE, Int.reduceToNat, reduceIte, reduceCtorEq, Nat.reduceLeDiff, Nat.reduceLT, Nat.reduceMul, Nat.reduceSub, show ¬ (d.tasks.length : Int) < 1 by omega, show ¬ (d.name.length : Int) < 1 by omega, show (16 : Int) < d.name.length by omega]
    (refine fin_x rfl ?_ ?_ <;> simp [pack, lo, loL, V.closed, closedL, mv_closed, shapedS, c3])
  simp (maxSteps := 1000000) (disch := omega) only [rg, gD, Nat.reduceBEq, Nat.reduceEqDiff, Nat.reduceAdd, Int.reduceEq, Int.reduceLT, Int.reduceLE, Int.reduceToNat, reduceIte, reduceCtorEq, Nat.reduceLeDiff, Nat.reduceLT, Nat.reduceMul, Nat.reduceSub, show ¬ (d.tasks.length : Int) < 1 by omega, show ¬ (d.name.length : Int) < 1 by omega, show ¬ (16 : Int) < d.name.length by omega]
  have hS : shapedS d = d.tasks.all fun t => taskOkS t d.tasks.length := by simp [shapedS, c1, c2, c3]
  refine x_it d.tasks.length (fun i σ H => 1 ≤ H.n ∧ (d.tasks.all fun t => taskOkS t d.tasks.length) = ((d.tasks.drop i).all fun t => taskOkS t d.tasks.length) ∧ σ = [(3, .int .i64 d.tasks.length), (26, tasksV d.tasks), (27, .int .i64 d.tasks.length), (28, .int .i64 i)]) ⟨Nat.le_refl 1, by simp, rfl⟩ ?_
  rintro T i σ ⟨q, m⟩ hi ⟨hq, hr, rfl⟩ hN hX hR
  simp only at hq
  simp (maxSteps := 1000000) (disch := omega) only [rg, gD, Nat.reduceBEq, Nat.reduceEqDiff, Nat.reduceAdd, Int.reduceEq, Int.reduceLT, Int.reduceLE, Int.reduceToNat, reduceIte, reduceCtorEq, Nat.reduceLeDiff, Nat.reduceLT, Nat.reduceMul, Nat.reduceSub, tasksV]
  refine ⟨fun h => ?_, fun h => ?_⟩
  · have i1 : i < d.tasks.length := by omega
    have hl1 := hd _ (List.getElem_mem i1)
    rw [List.drop_eq_getElem_cons i1, List.all_cons] at hr
    simp (maxSteps := 1000000) (disch := omega) only [rg, gD, Nat.reduceBEq, Nat.reduceEqDiff, Nat.reduceAdd, Int.reduceEq, Int.reduceLT, Int.reduceLE, Int.reduceToNat, reduceIte, reduceCtorEq, Nat.reduceLeDiff, Nat.reduceLT, Nat.reduceMul, Nat.reduceSub, taskV, vI_len]
    refine x_it d.tasks[i].needs.length (fun j σ H => 1 ≤ H.n ∧ H.m q = some (.arr 4 [.agg [.fsl .loose 1 (vI d.tasks[i].needs), .int .i64 d.tasks[i].tries, .int .i64 d.tasks[i].wait, .int .i64 d.tasks[i].lease]]) ∧ (∃ last, riseS (-1) d.tasks[i].needs d.tasks.length = riseS last (d.tasks[i].needs.drop j) d.tasks.length ∧ ((j = 0 ∧ last = -1) ∨ (0 < j ∧ d.tasks[i].needs[j - 1]? = some last ∧ 0 ≤ last))) ∧ σ = [(3, .int .i64 d.tasks.length), (5, .ptr q 0 0), (26, tasksV d.tasks), (27, .int .i64 d.tasks.length), (28, .int .i64 i), (33, .fsl .loose 1 (vI d.tasks[i].needs)), (34, .int .i64 d.tasks[i].needs.length), (35, .int .i64 j)]) ⟨by show 1 ≤ q + 1; omega, (by simp (disch := omega) only [upd_eq, upd_ne, wo_0, wo_1, wo_2]), ⟨-1, by simp, .inl ⟨rfl, rfl⟩⟩, rfl⟩ ?_
    rintro T2 j σ ⟨q2, m2⟩ hj ⟨hq2, e0, ⟨last, hs, hla⟩, rfl⟩ hN2 hX2 hR2
    simp only at hq2 e0
    simp (maxSteps := 1000000) (disch := omega) only [rg, gD, Nat.reduceBEq, Nat.reduceEqDiff, Nat.reduceAdd, Int.reduceEq, Int.reduceLT, Int.reduceLE, Int.reduceToNat, reduceIte, reduceCtorEq, Nat.reduceLeDiff, Nat.reduceLT, Nat.reduceMul, Nat.reduceSub]
    refine ⟨fun h => ?_, fun h => ?_⟩
    · have j1 : j < d.tasks[i].needs.length := by omega
      rw [List.drop_eq_getElem_cons j1, riseS] at hs
      simp (maxSteps := 1000000) (disch := omega) only [rg, gD, Nat.reduceBEq, Nat.reduceEqDiff, Nat.reduceAdd, Int.reduceEq, Int.reduceLT, Int.reduceLE, Int.reduceToNat, reduceIte, reduceCtorEq, Nat.reduceLeDiff, Nat.reduceLT, Nat.reduceMul, Nat.reduceSub, vI_get]
      by_cases d1 : d.tasks[i].needs[j] < 0
      · simp (maxSteps := 1000000) (disch := omega) only [rg, gD, Nat.reduceBEq, Nat.reduceEqDiff, Nat.reduceAdd, Int.reduceEq, Int.reduceLT, Int.reduceLE, Int.reduceToNat, reduceIte, reduceCtorEq, Nat.reduceLeDiff, Nat.reduceLT, Nat.reduceMul, Nat.reduceSub, d1]
        refine hR2 _ _ ?_
        simp (maxSteps := 1000000) (disch := omega) only [rg, gD, Nat.reduceBEq, Nat.reduceEqDiff, Nat.reduceAdd, Int.reduceEq, Int.reduceLT, Int.reduceLE, Int.reduceToNat, reduceIte, reduceCtorEq, Nat.reduceLeDiff, Nat.reduceLT, Nat.reduceMul, Nat.reduceSub]
        refine hR _ _ ?_
        simp (maxSteps := 1000000) (disch := omega) only [rg, gD, Nat.reduceBEq, Nat.reduceEqDiff, Nat.reduceAdd, Int.reduceEq, Int.reduceLT, Int.reduceLE, Int.reduceToNat, reduceIte, reduceCtorEq, Nat.reduceLeDiff, Nat.reduceLT, Nat.reduceMul, Nat.reduceSub]
        have : d.tasks[i].needs[j] ≤ last := by rcases hla with ⟨_, h⟩ | ⟨_, _, h⟩ <;> omega
        have hf : shapedS d = false := by rw [hS, hr, taskOkS, hs]; simp [this]
        (refine fin_x rfl ?_ ?_ <;> simp [pack, lo, loL, V.closed, closedL, mv_closed, hf])
      by_cases d2 : (d.tasks.length : Int) ≤ d.tasks[i].needs[j]
      · simp (maxSteps := 1000000) (disch := omega) only [rg, gD, Nat.reduceBEq, Nat.reduceEqDiff, Nat.reduceAdd, Int.reduceEq, Int.reduceLT, Int.reduceLE, Int.reduceToNat, reduceIte, reduceCtorEq, Nat.reduceLeDiff, Nat.reduceLT, Nat.reduceMul, Nat.reduceSub, d1, d2]
        refine hR2 _ _ ?_
        simp (maxSteps := 1000000) (disch := omega) only [rg, gD, Nat.reduceBEq, Nat.reduceEqDiff, Nat.reduceAdd, Int.reduceEq, Int.reduceLT, Int.reduceLE, Int.reduceToNat, reduceIte, reduceCtorEq, Nat.reduceLeDiff, Nat.reduceLT, Nat.reduceMul, Nat.reduceSub]
        refine hR _ _ ?_
        simp (maxSteps := 1000000) (disch := omega) only [rg, gD, Nat.reduceBEq, Nat.reduceEqDiff, Nat.reduceAdd, Int.reduceEq, Int.reduceLT, Int.reduceLE, Int.reduceToNat, reduceIte, reduceCtorEq, Nat.reduceLeDiff, Nat.reduceLT, Nat.reduceMul, Nat.reduceSub]
        have hf : shapedS d = false := by rw [hS, hr, taskOkS, hs]; simp [d2]
        (refine fin_x rfl ?_ ?_ <;> simp [pack, lo, loL, V.closed, closedL, mv_closed, hf])
      rcases hla with ⟨rfl, rfl⟩ | ⟨h1, h2, h3⟩
      · simp (maxSteps := 1000000) (disch := omega) only [rg, gD, Nat.reduceBEq, Nat.reduceEqDiff, Nat.reduceAdd, Int.reduceEq, Int.reduceLT, Int.reduceLE, Int.reduceToNat, reduceIte, reduceCtorEq, Nat.reduceLeDiff, Nat.reduceLT, Nat.reduceMul, Nat.reduceSub, d1, d2, show ¬ (0 : Int) < ((0 : Nat) : Int) by omega]
        refine hN2 _ _ j1 ?_
        refine ⟨hq2, e0, ⟨d.tasks[i].needs[0], by rw [hs]; simp [d2]; omega, .inr ⟨by omega, by simp, by omega⟩⟩, rfl⟩
      · have hp : (0 : Int) < j := by omega
        have hg : (vI d.tasks[i].needs)[j - 1]? = some (.int .i64 last) := by simp [vI, mv, h2]
        have ht : ((j : Int) - 1).toNat = j - 1 := by omega
        simp (maxSteps := 1000000) (disch := omega) only [rg, gD, Nat.reduceBEq, Nat.reduceEqDiff, Nat.reduceAdd, Int.reduceEq, Int.reduceLT, Int.reduceLE, Int.reduceToNat, reduceIte, reduceCtorEq, Nat.reduceLeDiff, Nat.reduceLT, Nat.reduceMul, Nat.reduceSub, d1, d2, hp, e0, ht, hg]
        refine ⟨by omega, fun g => ?_, fun g => ?_⟩
        · refine hR2 _ _ ?_
          simp (maxSteps := 1000000) (disch := omega) only [rg, gD, Nat.reduceBEq, Nat.reduceEqDiff, Nat.reduceAdd, Int.reduceEq, Int.reduceLT, Int.reduceLE, Int.reduceToNat, reduceIte, reduceCtorEq, Nat.reduceLeDiff, Nat.reduceLT, Nat.reduceMul, Nat.reduceSub]
          refine hR _ _ ?_
          simp (maxSteps := 1000000) (disch := omega) only [rg, gD, Nat.reduceBEq, Nat.reduceEqDiff, Nat.reduceAdd, Int.reduceEq, Int.reduceLT, Int.reduceLE, Int.reduceToNat, reduceIte, reduceCtorEq, Nat.reduceLeDiff, Nat.reduceLT, Nat.reduceMul, Nat.reduceSub]
          have hf : shapedS d = false := by rw [hS, hr, taskOkS, hs]; simp [g]
          (refine fin_x rfl ?_ ?_ <;> simp [pack, lo, loL, V.closed, closedL, mv_closed, hf])
        · refine hN2 _ _ j1 ?_
          refine ⟨hq2, e0, ⟨d.tasks[i].needs[j], by rw [hs]; simp [d2]; omega, .inr ⟨by omega, by simp, by omega⟩⟩, rfl⟩
    · obtain rfl : j = d.tasks[i].needs.length := by omega
      rw [List.drop_length, riseS] at hs
      refine hX2 _ _ _ ?_
      simp (maxSteps := 1000000) (disch := omega) only [rg, gD, Nat.reduceBEq, Nat.reduceEqDiff, Nat.reduceAdd, Int.reduceEq, Int.reduceLT, Int.reduceLE, Int.reduceToNat, reduceIte, reduceCtorEq, Nat.reduceLeDiff, Nat.reduceLT, Nat.reduceMul, Nat.reduceSub]
      refine x_frz0 ?_
      have hno : taskNumS d.tasks[i] = false → shapedS d = false := fun hf => by rw [hS, hr, taskOkS, hf]; simp
      by_cases g1 : d.tasks[i].tries < 1
      · simp (maxSteps := 1000000) (disch := omega) only [rg, gD, Nat.reduceBEq, Nat.reduceEqDiff, Nat.reduceAdd, Int.reduceEq, Int.reduceLT, Int.reduceLE, Int.reduceToNat, reduceIte, reduceCtorEq, Nat.reduceLeDiff, Nat.reduceLT, Nat.reduceMul, Nat.reduceSub, e0, g1]
        refine hR _ _ ?_
        simp (maxSteps := 1000000) (disch := omega) only [rg, gD, Nat.reduceBEq, Nat.reduceEqDiff, Nat.reduceAdd, Int.reduceEq, Int.reduceLT, Int.reduceLE, Int.reduceToNat, reduceIte, reduceCtorEq, Nat.reduceLeDiff, Nat.reduceLT, Nat.reduceMul, Nat.reduceSub]
        (refine fin_x rfl ?_ ?_ <;> simp [pack, lo, loL, V.closed, closedL, mv_closed, hno (by simp only [taskNumS, decide_eq_false_iff_not]; omega)])
      by_cases g2 : 8 < d.tasks[i].tries
      · simp (maxSteps := 1000000) (disch := omega) only [rg, gD, Nat.reduceBEq, Nat.reduceEqDiff, Nat.reduceAdd, Int.reduceEq, Int.reduceLT, Int.reduceLE, Int.reduceToNat, reduceIte, reduceCtorEq, Nat.reduceLeDiff, Nat.reduceLT, Nat.reduceMul, Nat.reduceSub, e0, g1, g2]
        refine hR _ _ ?_
        simp (maxSteps := 1000000) (disch := omega) only [rg, gD, Nat.reduceBEq, Nat.reduceEqDiff, Nat.reduceAdd, Int.reduceEq, Int.reduceLT, Int.reduceLE, Int.reduceToNat, reduceIte, reduceCtorEq, Nat.reduceLeDiff, Nat.reduceLT, Nat.reduceMul, Nat.reduceSub]
        (refine fin_x rfl ?_ ?_ <;> simp [pack, lo, loL, V.closed, closedL, mv_closed, hno (by simp only [taskNumS, decide_eq_false_iff_not]; omega)])
      by_cases g3 : d.tasks[i].wait < 0
      · simp (maxSteps := 1000000) (disch := omega) only [rg, gD, Nat.reduceBEq, Nat.reduceEqDiff, Nat.reduceAdd, Int.reduceEq, Int.reduceLT, Int.reduceLE, Int.reduceToNat, reduceIte, reduceCtorEq, Nat.reduceLeDiff, Nat.reduceLT, Nat.reduceMul, Nat.reduceSub, e0, g1, g2, g3]
        refine hR _ _ ?_
        simp (maxSteps := 1000000) (disch := omega) only [rg, gD, Nat.reduceBEq, Nat.reduceEqDiff, Nat.reduceAdd, Int.reduceEq, Int.reduceLT, Int.reduceLE, Int.reduceToNat, reduceIte, reduceCtorEq, Nat.reduceLeDiff, Nat.reduceLT, Nat.reduceMul, Nat.reduceSub]
        (refine fin_x rfl ?_ ?_ <;> simp [pack, lo, loL, V.closed, closedL, mv_closed, hno (by simp only [taskNumS, decide_eq_false_iff_not]; omega)])
      by_cases g4 : 1048576 < d.tasks[i].wait
      · simp (maxSteps := 1000000) (disch := omega) only [rg, gD, Nat.reduceBEq, Nat.reduceEqDiff, Nat.reduceAdd, Int.reduceEq, Int.reduceLT, Int.reduceLE, Int.reduceToNat, reduceIte, reduceCtorEq, Nat.reduceLeDiff, Nat.reduceLT, Nat.reduceMul, Nat.reduceSub, e0, g1, g2, g3, g4]
        refine hR _ _ ?_
        simp (maxSteps := 1000000) (disch := omega) only [rg, gD, Nat.reduceBEq, Nat.reduceEqDiff, Nat.reduceAdd, Int.reduceEq, Int.reduceLT, Int.reduceLE, Int.reduceToNat, reduceIte, reduceCtorEq, Nat.reduceLeDiff, Nat.reduceLT, Nat.reduceMul, Nat.reduceSub]
        (refine fin_x rfl ?_ ?_ <;> simp [pack, lo, loL, V.closed, closedL, mv_closed, hno (by simp only [taskNumS, decide_eq_false_iff_not]; omega)])
      by_cases g5 : d.tasks[i].lease < 1
      · simp (maxSteps := 1000000) (disch := omega) only [rg, gD, Nat.reduceBEq, Nat.reduceEqDiff, Nat.reduceAdd, Int.reduceEq, Int.reduceLT, Int.reduceLE, Int.reduceToNat, reduceIte, reduceCtorEq, Nat.reduceLeDiff, Nat.reduceLT, Nat.reduceMul, Nat.reduceSub, e0, g1, g2, g3, g4, g5]
        refine hR _ _ ?_
        simp (maxSteps := 1000000) (disch := omega) only [rg, gD, Nat.reduceBEq, Nat.reduceEqDiff, Nat.reduceAdd, Int.reduceEq, Int.reduceLT, Int.reduceLE, Int.reduceToNat, reduceIte, reduceCtorEq, Nat.reduceLeDiff, Nat.reduceLT, Nat.reduceMul, Nat.reduceSub]
        (refine fin_x rfl ?_ ?_ <;> simp [pack, lo, loL, V.closed, closedL, mv_closed, hno (by simp only [taskNumS, decide_eq_false_iff_not]; omega)])
      by_cases g6 : 1048576 < d.tasks[i].lease
      · simp (maxSteps := 1000000) (disch := omega) only [rg, gD, Nat.reduceBEq, Nat.reduceEqDiff, Nat.reduceAdd, Int.reduceEq, Int.reduceLT, Int.reduceLE, Int.reduceToNat, reduceIte, reduceCtorEq, Nat.reduceLeDiff, Nat.reduceLT, Nat.reduceMul, Nat.reduceSub, e0, g1, g2, g3, g4, g5, g6]
        refine hR _ _ ?_
        simp (maxSteps := 1000000) (disch := omega) only [rg, gD, Nat.reduceBEq, Nat.reduceEqDiff, Nat.reduceAdd, Int.reduceEq, Int.reduceLT, Int.reduceLE, Int.reduceToNat, reduceIte, reduceCtorEq, Nat.reduceLeDiff, Nat.reduceLT, Nat.reduceMul, Nat.reduceSub]
        (refine fin_x rfl ?_ ?_ <;> simp [pack, lo, loL, V.closed, closedL, mv_closed, hno (by simp only [taskNumS, decide_eq_false_iff_not]; omega)])
      simp (maxSteps := 1000000) (disch := omega) only [rg, gD, Nat.reduceBEq, Nat.reduceEqDiff, Nat.reduceAdd, Int.reduceEq, Int.reduceLT, Int.reduceLE, Int.reduceToNat, reduceIte, reduceCtorEq, Nat.reduceLeDiff, Nat.reduceLT, Nat.reduceMul, Nat.reduceSub, e0, g1, g2, g3, g4, g5, g6]
      refine x_frz0 ?_
      simp (maxSteps := 1000000) (disch := omega) only [rg, gD, Nat.reduceBEq, Nat.reduceEqDiff, Nat.reduceAdd, Int.reduceEq, Int.reduceLT, Int.reduceLE, Int.reduceToNat, reduceIte, reduceCtorEq, Nat.reduceLeDiff, Nat.reduceLT, Nat.reduceMul, Nat.reduceSub]
      refine hN _ _ i1 ?_
      refine ⟨hq2, ?_, rfl⟩
      rw [hr, taskOkS, hs]
      have : taskNumS d.tasks[i] = true := by simp only [taskNumS, decide_eq_true_eq]; omega
      simp [this]
  · obtain rfl : i = d.tasks.length := by omega
    refine hX _ _ _ ?_
    simp (maxSteps := 1000000) (disch := omega) only [rg, gD, Nat.reduceBEq, Nat.reduceEqDiff, Nat.reduceAdd, Int.reduceEq, Int.reduceLT, Int.reduceLE, Int.reduceToNat, reduceIte, reduceCtorEq, Nat.reduceLeDiff, Nat.reduceLT, Nat.reduceMul, Nat.reduceSub]
    rw [List.drop_length, List.all_nil] at hr
    refine x_frz0 ?_
    simp (maxSteps := 1000000) (disch := omega) only [rg, gD, Nat.reduceBEq, Nat.reduceEqDiff, Nat.reduceAdd, Int.reduceEq, Int.reduceLT, Int.reduceLE, Int.reduceToNat, reduceIte, reduceCtorEq, Nat.reduceLeDiff, Nat.reduceLT, Nat.reduceMul, Nat.reduceSub]
    (refine fin_x rfl ?_ ?_ <;> simp [pack, lo, loL, V.closed, closedL, mv_closed, hS.trans hr])

def cycK (ts : List Task) (i : Nat) : Bool := (reachK ts i ts.length).getD i false
def cycS (ts : List Task) : Bool := (List.range ts.length).any (cycK ts)
def refRightS (d : Dag) : Int :=
  if 10 < d.tasks.length then 2 else if shapedS d = false then 1 else if cycS d.tasks = true then 160 else 0

theorem ref_right (d : Dag) (hd : ∀ t ∈ d.tasks, t.needs.length ≤ 4611686018427387904) (hn : d.tasks.length ≤ 4611686018427387904) : PCall Try.prog 29 [dagV d] (.int .i64 (refRightS d)) := by
  refine en29 (by simp) (by simp [closedL, V.closed, dagV_closed]) ?_
  have ks := ref_shaped d hd hn
  have kr := fun f h1 h2 h3 h4 => ref_reach d f h1 h2 h3 h4
  unfold dagV tasksV at ks kr
  simp (maxSteps := 1000000) (disch := omega) only [rg, gD, Nat.reduceBEq, Nat.reduceEqDiff, Nat.reduceAdd, Int.reduceEq, Int.reduceLT, Int.reduceLE, Int.reduceToNat, reduceIte, reduceCtorEq, Nat.reduceLeDiff, Nat.reduceLT, Nat.reduceMul, Nat.reduceSub, c29, dagV, tasksV]
  by_cases c0 : 10 < d.tasks.length
  · simp (maxSteps := 1000000) (disch := omega) only [rg, gD, Nat.reduceBEq, Nat.reduceEqDiff, Nat.reduceAdd, Int.reduceEq, Int.reduceLT, Int.reduceLE, Int.reduceToNat, reduceIte, reduceCtorEq, Nat.reduceLeDiff, Nat.reduceLT, Nat.reduceMul, Nat.reduceSub, show (10 : Int) < d.tasks.length by omega]
    (refine fin_x rfl ?_ ?_ <;> simp [pack, lo, loL, V.closed, closedL, mv_closed, refRightS, c0])
  simp (maxSteps := 1000000) (disch := omega) only [rg, gD, Nat.reduceBEq, Nat.reduceEqDiff, Nat.reduceAdd, Int.reduceEq, Int.reduceLT, Int.reduceLE, Int.reduceToNat, reduceIte, reduceCtorEq, Nat.reduceLeDiff, Nat.reduceLT, Nat.reduceMul, Nat.reduceSub, show ¬ (10 : Int) < d.tasks.length by omega]
  refine ⟨_, ks, ?_⟩
  cases hs : shapedS d with
  | false =>
    simp (maxSteps := 1000000) (disch := omega) only [rg, gD, Nat.reduceBEq, Nat.reduceEqDiff, Nat.reduceAdd, Int.reduceEq, Int.reduceLT, Int.reduceLE, Int.reduceToNat, reduceIte, reduceCtorEq, Nat.reduceLeDiff, Nat.reduceLT, Nat.reduceMul, Nat.reduceSub]
    (refine fin_x rfl ?_ ?_ <;> simp [pack, lo, loL, V.closed, closedL, mv_closed, refRightS, c0, hs])
  | true =>
    have hall : ∀ t ∈ d.tasks, taskOkS t d.tasks.length = true := fun t ht => by
      simp only [shapedS, Bool.and_eq_true] at hs
      exact List.all_eq_true.1 hs.2 t ht
    have hrg : ∀ t ∈ d.tasks, (∀ x ∈ t.needs, 0 ≤ x ∧ x < d.tasks.length) ∧ (t.needs.length : Int) ≤ max ((d.tasks.length : Int) - 1 - (-1)) 0 := fun t ht => by
      have := hall t ht
      simp only [taskOkS, Bool.and_eq_true] at this
      exact rise_range this.1 (by omega)
    simp (maxSteps := 1000000) (disch := omega) only [rg, gD, Nat.reduceBEq, Nat.reduceEqDiff, Nat.reduceAdd, Int.reduceEq, Int.reduceLT, Int.reduceLE, Int.reduceToNat, reduceIte, reduceCtorEq, Nat.reduceLeDiff, Nat.reduceLT, Nat.reduceMul, Nat.reduceSub]
    refine x_it d.tasks.length (fun i σ H => H.m 0 = some (.arr 2 [.agg [.str d.name, .fsl .loose 4 (mv taskV d.tasks)]]) ∧ (∀ j, j < i → cycK d.tasks j = false) ∧ σ = [(1, .ptr 0 0 0), (14, .int .i64 d.tasks.length), (15, .int .i64 i)]) ⟨(by simp (disch := omega) only [upd_eq, upd_ne, wo_0, wo_1, wo_2]), by simp, rfl⟩ ?_
    rintro T i σ ⟨q, m⟩ hi ⟨e0, hr, rfl⟩ hN hX hR
    simp only at e0
    simp (maxSteps := 1000000) (disch := omega) only [rg, gD, Nat.reduceBEq, Nat.reduceEqDiff, Nat.reduceAdd, Int.reduceEq, Int.reduceLT, Int.reduceLE, Int.reduceToNat, reduceIte, reduceCtorEq, Nat.reduceLeDiff, Nat.reduceLT, Nat.reduceMul, Nat.reduceSub]
    refine ⟨fun h => ?_, fun h => ?_⟩
    · have i1 : i < d.tasks.length := by omega
      simp (maxSteps := 1000000) (disch := omega) only [rg, gD, Nat.reduceBEq, Nat.reduceEqDiff, Nat.reduceAdd, Int.reduceEq, Int.reduceLT, Int.reduceLE, Int.reduceToNat, reduceIte, reduceCtorEq, Nat.reduceLeDiff, Nat.reduceLT, Nat.reduceMul, Nat.reduceSub, e0]
      refine ⟨_, kr i i1 (by omega) (fun t ht => by have := (hrg t ht).2; omega) (fun t ht => (hrg t ht).1), ?_⟩
      have hlt : i < (reachK d.tasks i d.tasks.length).length := by rw [reachK_len]; exact i1
      have hg : cycK d.tasks i = (reachK d.tasks i d.tasks.length)[i] := by simp [cycK, List.getD, hlt]
      simp (maxSteps := 1000000) (disch := omega) only [rg, gD, Nat.reduceBEq, Nat.reduceEqDiff, Nat.reduceAdd, Int.reduceEq, Int.reduceLT, Int.reduceLE, Int.reduceToNat, reduceIte, reduceCtorEq, Nat.reduceLeDiff, Nat.reduceLT, Nat.reduceMul, Nat.reduceSub, vB_get hlt, ← hg]
      cases hc : cycK d.tasks i with
      | true =>
        simp (maxSteps := 1000000) (disch := omega) only [rg, gD, Nat.reduceBEq, Nat.reduceEqDiff, Nat.reduceAdd, Int.reduceEq, Int.reduceLT, Int.reduceLE, Int.reduceToNat, reduceIte, reduceCtorEq, Nat.reduceLeDiff, Nat.reduceLT, Nat.reduceMul, Nat.reduceSub]
        refine hR _ _ ?_
        simp (maxSteps := 1000000) (disch := omega) only [rg, gD, Nat.reduceBEq, Nat.reduceEqDiff, Nat.reduceAdd, Int.reduceEq, Int.reduceLT, Int.reduceLE, Int.reduceToNat, reduceIte, reduceCtorEq, Nat.reduceLeDiff, Nat.reduceLT, Nat.reduceMul, Nat.reduceSub]
        have hc2 : cycS d.tasks = true := by
          simp only [cycS, List.any_eq_true, List.mem_range]
          exact ⟨i, i1, hc⟩
        (refine fin_x rfl ?_ ?_ <;> simp [pack, lo, loL, V.closed, closedL, mv_closed, refRightS, c0, hs, hc2])
      | false =>
        simp (maxSteps := 1000000) (disch := omega) only [rg, gD, Nat.reduceBEq, Nat.reduceEqDiff, Nat.reduceAdd, Int.reduceEq, Int.reduceLT, Int.reduceLE, Int.reduceToNat, reduceIte, reduceCtorEq, Nat.reduceLeDiff, Nat.reduceLT, Nat.reduceMul, Nat.reduceSub]
        refine hN _ _ i1 ?_
        refine ⟨e0, fun j hj => ?_, rfl⟩
        rcases Nat.lt_or_ge j i with h' | h'
        · exact hr j h'
        · obtain rfl : j = i := by omega
          exact hc
    · obtain rfl : i = d.tasks.length := by omega
      refine hX _ _ _ ?_
      simp (maxSteps := 1000000) (disch := omega) only [rg, gD, Nat.reduceBEq, Nat.reduceEqDiff, Nat.reduceAdd, Int.reduceEq, Int.reduceLT, Int.reduceLE, Int.reduceToNat, reduceIte, reduceCtorEq, Nat.reduceLeDiff, Nat.reduceLT, Nat.reduceMul, Nat.reduceSub]
      refine x_frz0 ?_
      simp (maxSteps := 1000000) (disch := omega) only [rg, gD, Nat.reduceBEq, Nat.reduceEqDiff, Nat.reduceAdd, Int.reduceEq, Int.reduceLT, Int.reduceLE, Int.reduceToNat, reduceIte, reduceCtorEq, Nat.reduceLeDiff, Nat.reduceLT, Nat.reduceMul, Nat.reduceSub]
      have hc : cycS d.tasks = false := by
        simp only [cycS, List.any_eq_false, List.mem_range]
        intro j hj; simp [hr j hj]
      (refine fin_x rfl ?_ ?_ <;> simp [pack, lo, loL, V.closed, closedL, mv_closed, refRightS, c0, hs, hc])

end Go.Proofs.Ytjlpmndipceboaa.Ev
end
section
set_option linter.unusedSimpArgs false
set_option linter.unusedVariables false
set_option maxRecDepth 10000
namespace Go.Proofs.Ytjlpmndipceboaa.Ev
open Go

def ndR (ts : List Task) (b a : Nat) : Prop := (b : Int) ∈ needsOf ts a
theorem gD_set {o : List Bool} {k j : Nat} : (o.set k true).getD j false = (o.getD j false || (decide (k = j) && decide (j < o.length))) := by
  simp only [List.getD_eq_getElem?_getD, List.getElem?_set]
  by_cases h : k = j
  · subst h
    by_cases h2 : k < o.length
    · simp [h2]
    · simp [h2]
  · simp [h]
theorem gD_lt {o : List Bool} {j : Nat} (h : o.getD j false = true) : j < o.length := by
  rcases Nat.lt_or_ge j o.length with h' | h'
  · exact h'
  · simp [List.getD_eq_getElem?_getD, h'] at h
theorem markS_mono : ∀ (l : List Int) (o : List Bool) (j : Nat), o.getD j false = true → (markS l o).getD j false = true
  | [], _, _, h => h
  | x :: l, o, j, h => markS_mono l (o.set x.toNat true) j (by rw [gD_set, h]; rfl)
theorem markS_get : ∀ (l : List Int) (o : List Bool) (j : Nat), j < o.length → (j : Int) ∈ l → (markS l o).getD j false = true
  | x :: l, o, j, hj, h => by
    show (markS l (o.set x.toNat true)).getD j false = true
    rcases List.mem_cons.1 h with h | h
    · subst h
      exact markS_mono l _ j (by rw [gD_set]; simp [hj])
    · exact markS_get l _ j (by simpa using hj) h
theorem markS_only : ∀ (l : List Int) (o : List Bool) (j : Nat), (∀ x ∈ l, 0 ≤ x) → (markS l o).getD j false = true → o.getD j false = true ∨ (j : Int) ∈ l
  | [], _, _, _, h => .inl h
  | x :: l, o, j, h0, h => by
    have hx := h0 x (by simp)
    rcases markS_only l (o.set x.toNat true) j (fun y hy => h0 y (by simp [hy])) h with h1 | h1
    · rw [gD_set] at h1
      simp only [Bool.or_eq_true, Bool.and_eq_true, decide_eq_true_eq] at h1
      rcases h1 with h1 | ⟨h1, _⟩
      · exact .inl h1
      · right; have : (j : Int) = x := by omega
        simp [this]
    · exact .inr (by simp [h1])
theorem roundS_mono (ts : List Task) : ∀ (k : Nat) (o : List Bool) (j : Nat), o.getD j false = true → (roundS ts k o).getD j false = true
  | 0, _, _, h => h
  | k + 1, o, j, h => by
    rw [roundS]; split
    · exact markS_mono _ _ _ (roundS_mono ts k o j h)
    · exact roundS_mono ts k o j h
theorem roundS_get (ts : List Task) : ∀ (m : Nat) (o : List Bool) (k j : Nat), k < m → j < o.length → o.getD k false = true → ndR ts j k → (roundS ts m o).getD j false = true
  | m + 1, o, k, j, hk, hj, h, he => by
    rw [roundS]
    rcases Nat.lt_or_ge k m with h1 | h1
    · have := roundS_get ts m o k j h1 hj h he
      split
      · exact markS_mono _ _ _ this
      · exact this
    · obtain rfl : k = m := by omega
      rw [if_pos (roundS_mono ts k o k h)]
      exact markS_get _ _ _ (by rw [roundS_len]; exact hj) he
theorem roundS_only (ts : List Task) (h0 : ∀ k, ∀ x ∈ needsOf ts k, 0 ≤ x) (G : Nat → Prop) (hG : ∀ b c, G b → ndR ts c b → G c) : ∀ (m : Nat) (o : List Bool), (∀ j, o.getD j false = true → G j) → ∀ j, (roundS ts m o).getD j false = true → G j
  | 0, _, h, j, hj => h j hj
  | m + 1, o, h, j, hj => by
    have ih := roundS_only ts h0 G hG m o h
    rw [roundS] at hj
    split at hj
    · next hm =>
      rcases markS_only _ _ _ (h0 m) hj with h1 | h1
      · exact ih j h1
      · exact hG m j (ih m hm) h1
    · exact ih j hj
theorem reachK_only (ts : List Task) (h0 : ∀ k, ∀ x ∈ needsOf ts k, 0 ≤ x) (i : Nat) : ∀ (k j : Nat), (reachK ts i k).getD j false = true → Relation.TransGen (ndR ts) j i
  | 0, j, h => by
    rcases markS_only _ _ _ (h0 i) h with h1 | h1
    · exfalso
      have := gD_lt h1
      simp only [List.length_replicate] at this
      simp [List.getD_eq_getElem?_getD, this] at h1
    · exact .single h1
  | k + 1, j, h => roundS_only ts h0 (fun j => Relation.TransGen (ndR ts) j i) (fun b c hb hc => .trans (.single hc) hb) ts.length _ (fun j hj => reachK_only ts h0 i k j hj) j h

/-- A way of k steps. -/
inductive Way (ts : List Task) : Nat → Nat → Nat → Prop
  | one {a b : Nat} : ndR ts b a → Way ts 0 a b
  | more {k a b c : Nat} : Way ts k a b → ndR ts c b → Way ts (k + 1) a c
theorem nd_lt {ts : List Task} (hin : ∀ k, ∀ x ∈ needsOf ts k, 0 ≤ x ∧ x < ts.length) {a b : Nat} (h : ndR ts b a) : b < ts.length ∧ a < ts.length := by
  refine ⟨by have := hin a b h; omega, ?_⟩
  rcases Nat.lt_or_ge a ts.length with h' | h'
  · exact h'
  · simp [ndR, needsOf, h'] at h
theorem reachK_way {ts : List Task} (hin : ∀ k, ∀ x ∈ needsOf ts k, 0 ≤ x ∧ x < ts.length) {i : Nat} : ∀ {k j : Nat}, Way ts k i j → (reachK ts i k).getD j false = true
  | 0, j, .one h => markS_get _ _ _ (by simpa using (nd_lt hin h).1) h
  | k + 1, j, .more hw h => by
    have := reachK_way hin hw
    exact roundS_get ts _ _ _ _ (nd_lt hin h).2 (by rw [reachK_len]; exact (nd_lt hin h).1) this h
theorem reachK_le {ts : List Task} {i j k : Nat} (h : (reachK ts i k).getD j false = true) : ∀ m, k ≤ m → (reachK ts i m).getD j false = true := by
  intro m hm
  obtain ⟨d, rfl⟩ := Nat.exists_eq_add_of_le hm
  induction d with
  | zero => exact h
  | succ d ih => exact roundS_mono ts _ _ _ (ih (by omega))

theorem pigeon : ∀ (n : Nat) (f : Nat → Nat), (∀ k, k ≤ n → f k < n) → ∃ a b, a < b ∧ b ≤ n ∧ f a = f b
  | 0, f, h => absurd (h 0 (Nat.le_refl 0)) (by omega)
  | n + 1, f, h => by
    by_cases hc : ∃ a, a ≤ n ∧ f a = f (n + 1)
    · obtain ⟨a, h1, h2⟩ := hc
      exact ⟨a, n + 1, by omega, by omega, h2⟩
    · have hc' : ∀ a, a ≤ n → f a ≠ f (n + 1) := fun a ha he => hc ⟨a, ha, he⟩
      obtain ⟨a, b, h1, h2, h3⟩ := pigeon n (fun k => if f k = n then f (n + 1) else f k) (fun k hk => by
        have := h k (by omega)
        have := h (n + 1) (by omega)
        have := hc' k hk
        split <;> omega)
      refine ⟨a, b, h1, by omega, ?_⟩
      have ha := hc' a (by omega)
      have hb := hc' b (by omega)
      split at h3 <;> split at h3 <;> omega

theorem acc_irr {r : Nat → Nat → Prop} {a : Nat} (h : Acc r a) : ¬ r a a := by
  induction h with
  | intro a _ ih => exact fun hr => ih a hr hr

/-- What is left when nothing is free: either all is done, or each that is not done needs another that is not. -/
theorem orderS_acc {ts : List Task} (hin : ∀ k, ∀ x ∈ needsOf ts k, 0 ≤ x ∧ x < ts.length) : ∀ (k : Nat) (done : List Bool) (out : List Int), done.length = ts.length → ts.length < k + done.count true → out.length = done.count true → (∀ j, done.getD j false = true → Acc (ndR ts) j) →
    ∃ d : List Bool, d.length = ts.length ∧ freeS ts d ts.length = [] ∧ d.count true = (orderS ts k done out).length ∧ ∀ j, d.getD j false = true → Acc (ndR ts) j
  | 0, done, out, h1, h2, _, _ => by have := List.count_le_length (l := done) (a := true); omega
  | k + 1, done, out, h1, h2, h3, h4 => by
    rw [orderS]
    cases hf : freeS ts done ts.length with
    | nil => exact ⟨done, h1, hf, h3.symm, h4⟩
    | cons x l =>
      obtain ⟨i, hx, hi, hb⟩ := freeS_mem (x := x) (by rw [hf]; simp)
      subst hx
      simp only [freeB, Bool.and_eq_true, Bool.not_eq_true'] at hb
      have hc := count_set (show i < done.length by omega) hb.1
      have := orderS_acc hin k (done.set i true) (out ++ [(i : Int)]) (by simpa using h1) (by omega) (by simp; omega) (fun j hj => by
        rw [gD_set] at hj
        simp only [Bool.or_eq_true, Bool.and_eq_true, decide_eq_true_eq] at hj
        rcases hj with hj | ⟨rfl, _⟩
        · exact h4 j hj
        · refine Acc.intro _ fun b hbn => ?_
          have hbn' : (b : Int) ∈ ts[i].needs := by rwa [ndR, needsOf_get hi] at hbn
          have := List.all_eq_true.1 hb.2 _ hbn'
          exact h4 b (by simpa using this))
      simpa using this

theorem cyc_order {ts : List Task} (hr : inR ts ts.length) : cycS ts = decide ((orderF ts).length < ts.length) := by
  have hin : ∀ k, ∀ x ∈ needsOf ts k, 0 ≤ x ∧ x < ts.length := fun k x hx => by
    rcases Nat.lt_or_ge k ts.length with h | h
    · rw [needsOf_get h] at hx; exact hr _ (List.getElem_mem h) x hx
    · simp [needsOf, h] at hx
  obtain ⟨d, h1, h2, h3, h4⟩ := orderS_acc hin (ts.length + 1) (List.replicate ts.length false) [] (by simp) (by omega) (by simp [List.count_replicate]) (fun j hj => by
    have := gD_lt hj; simp only [List.length_replicate] at this
    simp [List.getD_eq_getElem?_getD, this] at hj)
  have h3' : d.count true = (orderF ts).length := h3
  by_cases hlt : (orderF ts).length < ts.length
  · simp only [hlt, decide_true]
    -- one that is not done
    obtain ⟨i0, hi0, hd0⟩ : ∃ i, i < ts.length ∧ d.getD i false = false := by
      apply Classical.byContradiction
      intro hno
      have : d.count true = d.length := List.count_eq_length.2 (fun b hb => by
        obtain ⟨i, hi, rfl⟩ := List.mem_iff_getElem.1 hb
        cases hc : d[i] with
        | true => rfl
        | false => exact absurd ⟨i, by omega, by simp [List.getD_eq_getElem?_getD, hi, hc]⟩ hno)
      omega
    have hnext : ∀ i, ∃ j, (i < ts.length ∧ d.getD i false = false) → (j < ts.length ∧ d.getD j false = false ∧ ndR ts j i) := fun i => by
      by_cases hc : i < ts.length ∧ d.getD i false = false
      · obtain ⟨hi, hdi⟩ := hc
        have hnf : freeB ts[i] d i = false := by
          cases hfb : freeB ts[i] d i with
          | false => rfl
          | true =>
            have : (i : Int) ∈ freeS ts d ts.length := by
              simp only [freeS, List.mem_map, List.mem_filter, List.take_length]
              exact ⟨(ts[i], i), ⟨by rw [List.mem_zipIdx_iff_getElem?]; simp [hi], hfb⟩, rfl⟩
            rw [h2] at this; cases this
        rw [freeB, hdi, Bool.not_false, Bool.true_and] at hnf
        obtain ⟨x, hx, hxd⟩ := List.all_eq_false.1 hnf
        have hxr := hr _ (List.getElem_mem hi) x hx
        refine ⟨x.toNat, fun _ => ⟨by omega, by simpa using hxd, ?_⟩⟩
        rw [ndR, needsOf_get hi, show ((x.toNat : Nat) : Int) = x by omega]; exact hx
      · exact ⟨0, fun h => absurd h hc⟩
    let nx : Nat → Nat := fun i => Classical.choose (hnext i)
    have hnx : ∀ i, (i < ts.length ∧ d.getD i false = false) → (nx i < ts.length ∧ d.getD (nx i) false = false ∧ ndR ts (nx i) i) := fun i => Classical.choose_spec (hnext i)
    let f : Nat → Nat := fun k => Nat.rec i0 (fun _ r => nx r) k
    have hf : ∀ k, f k < ts.length ∧ d.getD (f k) false = false := fun k => by
      induction k with
      | zero => exact ⟨hi0, hd0⟩
      | succ k ih => exact ⟨(hnx (f k) ih).1, (hnx (f k) ih).2.1⟩
    have hstep : ∀ k, ndR ts (f (k + 1)) (f k) := fun k => (hnx (f k) (hf k)).2.2
    have hway : ∀ m a, Way ts m (f a) (f (a + m + 1)) := fun m => by
      induction m with
      | zero => exact fun a => .one (hstep a)
      | succ m ih => exact fun a => .more (ih a) (hstep (a + m + 1))
    obtain ⟨a, b, k1, k2, k3⟩ := pigeon ts.length f (fun k _ => (hf k).1)
    have hw := hway (b - a - 1) a
    rw [show a + (b - a - 1) + 1 = b by omega, ← k3] at hw
    simp only [cycS, List.any_eq_true, List.mem_range]
    exact ⟨f a, (hf a).1, reachK_le (reachK_way hin hw) _ (by omega)⟩
  · simp only [hlt, decide_false]
    have hfull : d.count true = d.length := by have := List.count_le_length (l := d) (a := true); omega
    have hacc : ∀ j, j < ts.length → Acc (ndR ts) j := fun j hj => h4 j (by
      have := List.count_eq_length.1 hfull d[j] (List.getElem_mem (by omega))
      simp [List.getD_eq_getElem?_getD, show j < d.length by omega, ← this])
    simp only [cycS, List.any_eq_false, List.mem_range]
    intro j hj hc
    exact acc_irr (hacc j hj).transGen (reachK_only ts (fun k x hx => (hin k x hx).1) j _ j hc)

theorem right_same (d : Dag) : refRightS d = dagRightS d := by
  unfold refRightS dagRightS
  by_cases c0 : 10 < d.tasks.length
  · rw [if_pos c0, if_pos c0]
  rw [if_neg c0, if_neg c0]
  have e : shapedS d = false ↔ (d.tasks.length < 1 ∨ d.name.length < 1 ∨ 16 < d.name.length ∨ (d.tasks.any fun t => !taskOkS t d.tasks.length) = true) := by
    have hall : (d.tasks.any fun t => !taskOkS t d.tasks.length) = !(d.tasks.all fun t => taskOkS t d.tasks.length) := by rw [List.not_all_eq_any_not]
    rw [hall, shapedS]
    cases (d.tasks.all fun t => taskOkS t d.tasks.length)
    · simp only [Bool.and_false, Bool.not_false, or_true]
    · simp only [Bool.and_true, Bool.not_true, Bool.not_eq_false', decide_eq_true_eq, Bool.false_eq_true, or_false]
  by_cases c1 : shapedS d = false
  · rw [if_pos c1, if_pos (e.1 c1)]
  · rw [if_neg c1, if_neg (fun h => c1 (e.2 h))]
    have hin : inR d.tasks d.tasks.length := fun t ht => by
      have : taskOkS t d.tasks.length = true := by
        cases hk : taskOkS t d.tasks.length with
        | true => rfl
        | false => exact absurd (e.2 (.inr (.inr (.inr (List.any_eq_true.2 ⟨t, ht, by rw [hk]; rfl⟩))))) c1
      simp only [taskOkS, Bool.and_eq_true] at this
      exact (rise_range this.1 (by omega)).1
    rw [cyc_order hin]
    simp only [decide_eq_true_eq]

end Go.Proofs.Ytjlpmndipceboaa.Ev
end
section
set_option linter.unusedSimpArgs false
set_option linter.unusedVariables false
set_option maxRecDepth 10000
namespace Go.Proofs.Ytjlpmndipceboaa.Ev
open Go

theorem fin_An {rvs : List RV} {r : V} {σ : Sg} {H : Hp} {l : List V} {m0 : Hm} {n k : Nat} {ds : List (Nat × Option Ob)} (hl : resE σ H.m rvs = some l) (hr : pack l = r ∨ loosen (pack l) = r ∨ lo (pack l) = r) (hk : H.n ≤ n + k) (hm : ∀ id, appd ds m0 id = none ∨ appd ds m0 id = H.m id) : FinA rvs m0 n r ds k .norm σ H :=
  ⟨.inl rfl, ⟨l, hl, hr⟩, hk, hm⟩
theorem c255 (n : Nat) : ((255 : Int) < (n : Int)) ↔ 255 < n := by omega
theorem two_flat (a b : Str) : [a, b].flatten = a ++ b := by simp

/-! The document's reader: where it is, and what went wrong. -/
def rdV (s : Str) (r : Int × Int) : Ob := .arr 3 [.agg [.str s, .int .i64 r.1, .int .i64 r.2]]
def nextS (s : Str) (r : Int × Int) (k : Int) : Int × Int × Int := if r.2 = 0 then getS s r.1 k else (0, r.1, r.2)
def txtS (s : Str) (r : Int × Int) : Str × Int × Int := if r.2 = 0 then cutS s r.1 else ([], r.1, r.2)

theorem r_next (H : Hp) (b : Nat) (s : Str) (r : Int × Int) (k : Int) (hs : s.length ≤ 1000000000) (hb : b < H.n) (hm : H.m b = some (rdV s r)) :
    ACall Try.prog 46 [.ptr b 0 0, .int .i64 k] H [b] (.int .i64 (nextS s r k).1) [(b, some (rdV s (nextS s r k).2))] 0 := by
  refine ena46 (by simp) (by simp [lowL, V.low, hb]) (fun id hid => ?_) (by simp) ?_
  · simp at hid; subst hid
    exact ⟨hb, fun o ho => by rw [hm] at ho; simp at ho; subst ho; rfl⟩
  have q1 : only [b] H.m b = some (rdV s r) := by simp [only, hm]
  obtain ⟨a, e⟩ := r
  have q2 := q1
  unfold rdV at q1
  by_cases c : e = 0
  · subst c
    simp (maxSteps := 1000000) (disch := omega) only [rg, gD, Nat.reduceBEq, Nat.reduceEqDiff, Nat.reduceAdd, Int.reduceEq, Int.reduceLT, Int.reduceLE, Int.reduceToNat, reduceIte, reduceCtorEq, Nat.reduceLeDiff, Nat.reduceLT, Nat.reduceMul, Nat.reduceSub, c46, q1]
    refine ⟨_, ref_get s a k hs, ?_⟩
    simp (maxSteps := 1000000) (disch := omega) only [rg, gD, Nat.reduceBEq, Nat.reduceEqDiff, Nat.reduceAdd, Int.reduceEq, Int.reduceLT, Int.reduceLE, Int.reduceToNat, reduceIte, reduceCtorEq, Nat.reduceLeDiff, Nat.reduceLT, Nat.reduceMul, Nat.reduceSub, gV, q1]
    exact fin_A (l := [.int .i64 (getS s a k).1]) rfl (.inl (by simp [pack, nextS])) (by simp) (fun id => .inr (by by_cases h : id = b <;> simp [appd, upd, h, rdV, nextS]))
  · simp (maxSteps := 1000000) (disch := omega) only [rg, gD, Nat.reduceBEq, Nat.reduceEqDiff, Nat.reduceAdd, Int.reduceEq, Int.reduceLT, Int.reduceLE, Int.reduceToNat, reduceIte, reduceCtorEq, Nat.reduceLeDiff, Nat.reduceLT, Nat.reduceMul, Nat.reduceSub, c46, q1, c]
    exact fin_A (l := [.int .i64 0]) rfl (.inl (by simp [pack, nextS, c])) (by simp) (fun id => .inr (by by_cases h : id = b <;> simp [appd, upd, h, nextS, c, q2]))

theorem r_text (H : Hp) (b : Nat) (s : Str) (r : Int × Int) (hs : s.length ≤ 1000000000) (hb : b < H.n) (hm : H.m b = some (rdV s r)) :
    ACall Try.prog 47 [.ptr b 0 0] H [b] (.str (txtS s r).1) [(b, some (rdV s (txtS s r).2))] 0 := by
  refine ena47 (by simp) (by simp [lowL, V.low, hb]) (fun id hid => ?_) (by simp) ?_
  · simp at hid; subst hid
    exact ⟨hb, fun o ho => by rw [hm] at ho; simp at ho; subst ho; rfl⟩
  have q1 : only [b] H.m b = some (rdV s r) := by simp [only, hm]
  obtain ⟨a, e⟩ := r
  have q2 := q1
  unfold rdV at q1
  by_cases c : e = 0
  · subst c
    simp (maxSteps := 1000000) (disch := omega) only [rg, gD, Nat.reduceBEq, Nat.reduceEqDiff, Nat.reduceAdd, Int.reduceEq, Int.reduceLT, Int.reduceLE, Int.reduceToNat, reduceIte, reduceCtorEq, Nat.reduceLeDiff, Nat.reduceLT, Nat.reduceMul, Nat.reduceSub, c47, q1]
    refine ⟨_, ref_cut s a hs, ?_⟩
    simp (maxSteps := 1000000) (disch := omega) only [rg, gD, Nat.reduceBEq, Nat.reduceEqDiff, Nat.reduceAdd, Int.reduceEq, Int.reduceLT, Int.reduceLE, Int.reduceToNat, reduceIte, reduceCtorEq, Nat.reduceLeDiff, Nat.reduceLT, Nat.reduceMul, Nat.reduceSub, cV, q1]
    exact fin_A (l := [.str (cutS s a).1]) rfl (.inl (by simp [pack, txtS])) (by simp) (fun id => .inr (by by_cases h : id = b <;> simp [appd, upd, h, rdV, txtS]))
  · simp (maxSteps := 1000000) (disch := omega) only [rg, gD, Nat.reduceBEq, Nat.reduceEqDiff, Nat.reduceAdd, Int.reduceEq, Int.reduceLT, Int.reduceLE, Int.reduceToNat, reduceIte, reduceCtorEq, Nat.reduceLeDiff, Nat.reduceLT, Nat.reduceMul, Nat.reduceSub, c47, q1, c]
    exact fin_A (l := [.str []]) rfl (.inl (by simp [pack, txtS, c])) (by simp) (fun id => .inr (by by_cases h : id = b <;> simp [appd, upd, h, txtS, c, q2]))

/-! The program's reader. -/
def fdV (s : Str) (r : Int × Bool) : Ob := .arr 3 [.agg [.str s, .int .i64 r.1, .bool r.2]]
def numF (s : Str) (r : Int × Bool) (k : Int) : Int × Int × Bool := if r.2 = false then ((getS s r.1 k).1, (getS s r.1 k).2.1, !decide ((getS s r.1 k).2.2 = 0)) else (0, r.1, r.2)
def txtF (s : Str) (r : Int × Bool) : Str × Int × Bool := if r.2 = false then ((cutS s r.1).1, (cutS s r.1).2.1, !decide ((cutS s r.1).2.2 = 0) || decide (255 < (cutS s r.1).1.length)) else ([], r.1, r.2)

theorem f_num (H : Hp) (b : Nat) (s : Str) (r : Int × Bool) (k : Int) (hs : s.length ≤ 1000000000) (hb : b < H.n) (hm : H.m b = some (fdV s r)) :
    ACall Try.prog 35 [.ptr b 0 0, .int .i64 k] H [b] (.int .i64 (numF s r k).1) [(b, some (fdV s (numF s r k).2))] 0 := by
  refine ena35 (by simp) (by simp [lowL, V.low, hb]) (fun id hid => ?_) (by simp) ?_
  · simp at hid; subst hid
    exact ⟨hb, fun o ho => by rw [hm] at ho; simp at ho; subst ho; rfl⟩
  have q1 : only [b] H.m b = some (fdV s r) := by simp [only, hm]
  obtain ⟨a, e⟩ := r
  have q2 := q1
  unfold fdV at q1
  cases e with
  | false =>
    simp (maxSteps := 1000000) (disch := omega) only [rg, gD, Nat.reduceBEq, Nat.reduceEqDiff, Nat.reduceAdd, Int.reduceEq, Int.reduceLT, Int.reduceLE, Int.reduceToNat, reduceIte, reduceCtorEq, Nat.reduceLeDiff, Nat.reduceLT, Nat.reduceMul, Nat.reduceSub, c35, q1]
    refine ⟨_, code_get s a k hs, ?_⟩
    simp (maxSteps := 1000000) (disch := omega) only [rg, gD, Nat.reduceBEq, Nat.reduceEqDiff, Nat.reduceAdd, Int.reduceEq, Int.reduceLT, Int.reduceLE, Int.reduceToNat, reduceIte, reduceCtorEq, Nat.reduceLeDiff, Nat.reduceLT, Nat.reduceMul, Nat.reduceSub, gV, q1]
    exact fin_A (l := [.int .i64 (getS s a k).1]) rfl (.inl (by simp [pack, numF])) (by simp) (fun id => .inr (by by_cases h : id = b <;> simp [appd, upd, h, fdV, numF]))
  | true =>
    simp (maxSteps := 1000000) (disch := omega) only [rg, gD, Nat.reduceBEq, Nat.reduceEqDiff, Nat.reduceAdd, Int.reduceEq, Int.reduceLT, Int.reduceLE, Int.reduceToNat, reduceIte, reduceCtorEq, Nat.reduceLeDiff, Nat.reduceLT, Nat.reduceMul, Nat.reduceSub, c35, q1]
    exact fin_A (l := [.int .i64 0]) rfl (.inl (by simp [pack, numF])) (by simp) (fun id => .inr (by by_cases h : id = b <;> simp [appd, upd, h, numF, q2]))

theorem cutS_len (s : Str) (a : Int) : (cutS s a).1.length ≤ s.length := by
  unfold cutS; simp only
  split
  · simp
  · split
    · simp
    · simp; omega

theorem f_text (H : Hp) (b : Nat) (s : Str) (r : Int × Bool) (hs : s.length ≤ 1000000000) (hb : b < H.n) (hm : H.m b = some (fdV s r)) :
    ACall Try.prog 36 [.ptr b 0 0] H [b] (.str (txtF s r).1) [(b, some (fdV s (txtF s r).2))] 0 := by
  refine ena36 (by simp) (by simp [lowL, V.low, hb]) (fun id hid => ?_) (by simp) ?_
  · simp at hid; subst hid
    exact ⟨hb, fun o ho => by rw [hm] at ho; simp at ho; subst ho; rfl⟩
  have q1 : only [b] H.m b = some (fdV s r) := by simp [only, hm]
  obtain ⟨a, e⟩ := r
  have q2 := q1
  unfold fdV at q1
  have hcl := cutS_len s a
  cases e with
  | false =>
    simp (maxSteps := 1000000) (disch := omega) only [rg, gD, Nat.reduceBEq, Nat.reduceEqDiff, Nat.reduceAdd, Int.reduceEq, Int.reduceLT, Int.reduceLE, Int.reduceToNat, reduceIte, reduceCtorEq, Nat.reduceLeDiff, Nat.reduceLT, Nat.reduceMul, Nat.reduceSub, c36, q1]
    refine ⟨_, code_cut s a hs, ?_⟩
    by_cases c : (cutS s a).2.2 = 0
    · simp (maxSteps := 1000000) (disch := omega) only [rg, gD, Nat.reduceBEq, Nat.reduceEqDiff, Nat.reduceAdd, Int.reduceEq, Int.reduceLT, Int.reduceLE, Int.reduceToNat, reduceIte, reduceCtorEq, Nat.reduceLeDiff, Nat.reduceLT, Nat.reduceMul, Nat.reduceSub, cV, q1, c]
      exact fin_A (l := [.str (cutS s a).1]) rfl (.inl (by simp [pack, txtF])) (by simp) (fun id => .inr (by by_cases h : id = b <;> simp [appd, upd, h, fdV, txtF, c, c255]))
    · simp (maxSteps := 1000000) (disch := omega) only [rg, gD, Nat.reduceBEq, Nat.reduceEqDiff, Nat.reduceAdd, Int.reduceEq, Int.reduceLT, Int.reduceLE, Int.reduceToNat, reduceIte, reduceCtorEq, Nat.reduceLeDiff, Nat.reduceLT, Nat.reduceMul, Nat.reduceSub, cV, q1, c]
      exact fin_A (l := [.str (cutS s a).1]) rfl (.inl (by simp [pack, txtF])) (by simp) (fun id => .inr (by by_cases h : id = b <;> simp [appd, upd, h, fdV, txtF, c, c255]))
  | true =>
    simp (maxSteps := 1000000) (disch := omega) only [rg, gD, Nat.reduceBEq, Nat.reduceEqDiff, Nat.reduceAdd, Int.reduceEq, Int.reduceLT, Int.reduceLE, Int.reduceToNat, reduceIte, reduceCtorEq, Nat.reduceLeDiff, Nat.reduceLT, Nat.reduceMul, Nat.reduceSub, c36, q1]
    exact fin_A (l := [.str []]) rfl (.inl (by simp [pack, txtF])) (by simp) (fun id => .inr (by by_cases h : id = b <;> simp [appd, upd, h, txtF, q2]))

theorem f_read (H : Hp) (s : Str) (hs : s.length ≤ 1000000000) : ACall Try.prog 34 [.str s] H [] (.ptr H.n 0 0) [(H.n, some (fdV (openS s).1 (0, !decide ((openS s).2 = 0))))] 1 := by
  refine ena34 (by simp) (by simp [lowL, V.low]) (fun id hid => by simp at hid) (by simp) ?_
  simp (maxSteps := 1000000) (disch := omega) only [rg, gD, Nat.reduceBEq, Nat.reduceEqDiff, Nat.reduceAdd, Int.reduceEq, Int.reduceLT, Int.reduceLE, Int.reduceToNat, reduceIte, reduceCtorEq, Nat.reduceLeDiff, Nat.reduceLT, Nat.reduceMul, Nat.reduceSub, c34]
  refine ⟨_, sum_open s hs, ?_⟩
  simp (maxSteps := 1000000) (disch := omega) only [rg, gD, Nat.reduceBEq, Nat.reduceEqDiff, Nat.reduceAdd, Int.reduceEq, Int.reduceLT, Int.reduceLE, Int.reduceToNat, reduceIte, reduceCtorEq, Nat.reduceLeDiff, Nat.reduceLT, Nat.reduceMul, Nat.reduceSub, sV]
  exact fin_A (l := [.ptr H.n 0 0]) rfl (.inl rfl) (by simp) (fun id => .inr (by by_cases h : id = H.n <;> simp [appd, upd, h, fdV, only]))

/-! The program's writer. -/
def wrV (r : Str × Bool) : Ob := .arr 2 [.agg [.str r.1, .bool r.2]]
def wNum (r : Str × Bool) (n k : Int) : Str × Bool := (r.1 ++ (putS n k).1, r.2 || !decide ((putS n k).2 = 0))
def wTxt (r : Str × Bool) (t : Str) : Str × Bool := (r.1 ++ (textS t).1, (r.2 || !decide ((textS t).2 = 0)) || decide (255 < t.length))

theorem w_num (H : Hp) (b : Nat) (r : Str × Bool) (n k : Int) (hr : r.1.length ≤ 1000000000) (hn : n ≤ 9223372036854775807) (hb : b < H.n) (hm : H.m b = some (wrV r)) :
    ACall Try.prog 22 [.ptr b 0 0, .int .i64 n, .int .i64 k] H [b] (.tup []) [(b, some (wrV (wNum r n k)))] 0 := by
  refine ena22 (by simp) (by simp [lowL, V.low, hb]) (fun id hid => ?_) (by simp) ?_
  · simp at hid; subst hid
    exact ⟨hb, fun o ho => by rw [hm] at ho; simp at ho; subst ho; rfl⟩
  have q1 : only [b] H.m b = some (wrV r) := by simp [only, hm]
  obtain ⟨a, e⟩ := r
  have hpl := putS_len n k
  unfold wrV at q1
  simp (maxSteps := 1000000) (disch := omega) only [rg, gD, Nat.reduceBEq, Nat.reduceEqDiff, Nat.reduceAdd, Int.reduceEq, Int.reduceLT, Int.reduceLE, Int.reduceToNat, reduceIte, reduceCtorEq, Nat.reduceLeDiff, Nat.reduceLT, Nat.reduceMul, Nat.reduceSub, c22]
  refine ⟨_, code_put n k hn, ?_⟩
  simp (maxSteps := 1000000) (disch := omega) only [rg, gD, Nat.reduceBEq, Nat.reduceEqDiff, Nat.reduceAdd, Int.reduceEq, Int.reduceLT, Int.reduceLE, Int.reduceToNat, reduceIte, reduceCtorEq, Nat.reduceLeDiff, Nat.reduceLT, Nat.reduceMul, Nat.reduceSub, sV, q1]
  refine ⟨_, code_all .full [a, (putS n k).1] (by simp) (by simp at hr ⊢; omega), ?_⟩
  rw [two_flat]
  cases e with
  | false =>
    simp (maxSteps := 1000000) (disch := omega) only [rg, gD, Nat.reduceBEq, Nat.reduceEqDiff, Nat.reduceAdd, Int.reduceEq, Int.reduceLT, Int.reduceLE, Int.reduceToNat, reduceIte, reduceCtorEq, Nat.reduceLeDiff, Nat.reduceLT, Nat.reduceMul, Nat.reduceSub, q1]
    exact fin_An (l := []) rfl (.inl rfl) (by simp) (fun id => .inr (by by_cases h : id = b <;> simp [appd, upd, h, wrV, wNum]))
  | true =>
    simp (maxSteps := 1000000) (disch := omega) only [rg, gD, Nat.reduceBEq, Nat.reduceEqDiff, Nat.reduceAdd, Int.reduceEq, Int.reduceLT, Int.reduceLE, Int.reduceToNat, reduceIte, reduceCtorEq, Nat.reduceLeDiff, Nat.reduceLT, Nat.reduceMul, Nat.reduceSub, q1]
    exact fin_An (l := []) rfl (.inl rfl) (by simp) (fun id => .inr (by by_cases h : id = b <;> simp [appd, upd, h, wrV, wNum]))

theorem textS_len (s : Str) : (textS s).1.length ≤ s.length + 2 := by
  unfold textS; split
  · simp
  · simp [beS_len]; omega
theorem w_text (H : Hp) (b : Nat) (r : Str × Bool) (t : Str) (hr : r.1.length ≤ 1000000000) (ht : t.length ≤ 1000000000) (hb : b < H.n) (hm : H.m b = some (wrV r)) :
    ACall Try.prog 25 [.ptr b 0 0, .str t] H [b] (.tup []) [(b, some (wrV (wTxt r t)))] 0 := by
  refine ena25 (by simp) (by simp [lowL, V.low, hb]) (fun id hid => ?_) (by simp) ?_
  · simp at hid; subst hid
    exact ⟨hb, fun o ho => by rw [hm] at ho; simp at ho; subst ho; rfl⟩
  have q1 : only [b] H.m b = some (wrV r) := by simp [only, hm]
  obtain ⟨a, e⟩ := r
  have hpl := textS_len t
  unfold wrV at q1
  simp (maxSteps := 1000000) (disch := omega) only [rg, gD, Nat.reduceBEq, Nat.reduceEqDiff, Nat.reduceAdd, Int.reduceEq, Int.reduceLT, Int.reduceLE, Int.reduceToNat, reduceIte, reduceCtorEq, Nat.reduceLeDiff, Nat.reduceLT, Nat.reduceMul, Nat.reduceSub, c25]
  refine ⟨_, code_text t ht, ?_⟩
  simp (maxSteps := 1000000) (disch := omega) only [rg, gD, Nat.reduceBEq, Nat.reduceEqDiff, Nat.reduceAdd, Int.reduceEq, Int.reduceLT, Int.reduceLE, Int.reduceToNat, reduceIte, reduceCtorEq, Nat.reduceLeDiff, Nat.reduceLT, Nat.reduceMul, Nat.reduceSub, sV, q1]
  refine ⟨_, code_all .full [a, (textS t).1] (by simp) (by simp at hr ⊢; omega), ?_⟩
  rw [two_flat]
  by_cases c : (textS t).2 = 0
  · cases e with
    | false =>
      simp (maxSteps := 1000000) (disch := omega) only [rg, gD, Nat.reduceBEq, Nat.reduceEqDiff, Nat.reduceAdd, Int.reduceEq, Int.reduceLT, Int.reduceLE, Int.reduceToNat, reduceIte, reduceCtorEq, Nat.reduceLeDiff, Nat.reduceLT, Nat.reduceMul, Nat.reduceSub, q1, c]
      exact fin_An (l := []) rfl (.inl rfl) (by simp) (fun id => .inr (by by_cases h : id = b <;> simp [appd, upd, h, wrV, wTxt, c, c255]))
    | true =>
      simp (maxSteps := 1000000) (disch := omega) only [rg, gD, Nat.reduceBEq, Nat.reduceEqDiff, Nat.reduceAdd, Int.reduceEq, Int.reduceLT, Int.reduceLE, Int.reduceToNat, reduceIte, reduceCtorEq, Nat.reduceLeDiff, Nat.reduceLT, Nat.reduceMul, Nat.reduceSub, q1, c]
      exact fin_An (l := []) rfl (.inl rfl) (by simp) (fun id => .inr (by by_cases h : id = b <;> simp [appd, upd, h, wrV, wTxt, c, c255]))
  · cases e with
    | false =>
      simp (maxSteps := 1000000) (disch := omega) only [rg, gD, Nat.reduceBEq, Nat.reduceEqDiff, Nat.reduceAdd, Int.reduceEq, Int.reduceLT, Int.reduceLE, Int.reduceToNat, reduceIte, reduceCtorEq, Nat.reduceLeDiff, Nat.reduceLT, Nat.reduceMul, Nat.reduceSub, q1, c]
      exact fin_An (l := []) rfl (.inl rfl) (by simp) (fun id => .inr (by by_cases h : id = b <;> simp [appd, upd, h, wrV, wTxt, c, c255]))
    | true =>
      simp (maxSteps := 1000000) (disch := omega) only [rg, gD, Nat.reduceBEq, Nat.reduceEqDiff, Nat.reduceAdd, Int.reduceEq, Int.reduceLT, Int.reduceLE, Int.reduceToNat, reduceIte, reduceCtorEq, Nat.reduceLeDiff, Nat.reduceLT, Nat.reduceMul, Nat.reduceSub, q1, c]
      exact fin_An (l := []) rfl (.inl rfl) (by simp) (fun id => .inr (by by_cases h : id = b <;> simp [appd, upd, h, wrV, wTxt, c, c255]))

def wEnd (r : Str × Bool) : Str × Int := if r.2 = true then ([], 1) else (sealS r.1, 0)
theorem w_end (H : Hp) (b : Nat) (r : Str × Bool) (hr : r.1.length ≤ 1000000000) (hb : b < H.n) (hm : H.m b = some (wrV r)) :
    ACall Try.prog 26 [.ptr b 0 0] H [b] (sV (wEnd r)) [] 0 := by
  refine ena26 (by simp) (by simp [lowL, V.low, hb]) (fun id hid => ?_) (by simp) ?_
  · simp at hid; subst hid
    exact ⟨hb, fun o ho => by rw [hm] at ho; simp at ho; subst ho; rfl⟩
  have q1 : only [b] H.m b = some (wrV r) := by simp [only, hm]
  obtain ⟨a, e⟩ := r
  unfold wrV at q1
  cases e with
  | false =>
    simp (maxSteps := 1000000) (disch := omega) only [rg, gD, Nat.reduceBEq, Nat.reduceEqDiff, Nat.reduceAdd, Int.reduceEq, Int.reduceLT, Int.reduceLE, Int.reduceToNat, reduceIte, reduceCtorEq, Nat.reduceLeDiff, Nat.reduceLT, Nat.reduceMul, Nat.reduceSub, c26, q1]
    refine ⟨_, sum_seal a hr, ?_⟩
    simp (maxSteps := 1000000) (disch := omega) only [rg, gD, Nat.reduceBEq, Nat.reduceEqDiff, Nat.reduceAdd, Int.reduceEq, Int.reduceLT, Int.reduceLE, Int.reduceToNat, reduceIte, reduceCtorEq, Nat.reduceLeDiff, Nat.reduceLT, Nat.reduceMul, Nat.reduceSub]
    exact fin_A (l := [.str (sealS a), .int .i64 0]) rfl (.inl (by simp [pack, sV, wEnd])) (by simp) (fun id => .inr rfl)
  | true =>
    simp (maxSteps := 1000000) (disch := omega) only [rg, gD, Nat.reduceBEq, Nat.reduceEqDiff, Nat.reduceAdd, Int.reduceEq, Int.reduceLT, Int.reduceLE, Int.reduceToNat, reduceIte, reduceCtorEq, Nat.reduceLeDiff, Nat.reduceLT, Nat.reduceMul, Nat.reduceSub, c26, q1]
    exact fin_A (l := [.str [], .int .i64 1]) rfl (.inl (by simp [pack, sV, wEnd])) (by simp) (fun id => .inr rfl)

end Go.Proofs.Ytjlpmndipceboaa.Ev
end
section
set_option linter.unusedSimpArgs false
set_option linter.unusedVariables false
set_option maxRecDepth 10000
namespace Go.Proofs.Ytjlpmndipceboaa.Ev
open Go

def stNumS (s : Stt) : Bool := decide (0 ≤ s.is ∧ s.is ≤ 5 ∧ 0 ≤ s.tried ∧ s.tried ≤ 8 ∧ 0 ≤ s.due ∧ s.due ≤ 1099511627776)
def standsS (s : Stt) : Bool := stNumS s && decide (0 ≤ s.token ∧ s.token ≤ 1099511627776 ∧ (0 < s.token ↔ s.is = 2) ∧ s.result.length ≤ 16 ∧ (s.result = [] ∨ s.is = 3))

theorem task_stands (s : Stt) (hs : s.result.length ≤ 4611686018427387904) : PCall Try.prog 69 [sttV s] (.bool (standsS s)) := by
  refine en69 (by simp) (by simp [closedL, V.closed, sttV_closed]) ?_
  have no : stNumS s = false → standsS s = false := fun h => by simp [standsS, h]
  simp (maxSteps := 1000000) (disch := omega) only [rg, gD, Nat.reduceBEq, Nat.reduceEqDiff, Nat.reduceAdd, Int.reduceEq, Int.reduceLT, Int.reduceLE, Int.reduceToNat, reduceIte, reduceCtorEq, Nat.reduceLeDiff, Nat.reduceLT, Nat.reduceMul, Nat.reduceSub, c69, sttV]
  by_cases c1 : s.is < 0
  · simp (maxSteps := 1000000) (disch := omega) only [rg, gD, Nat.reduceBEq, Nat.reduceEqDiff, Nat.reduceAdd, Int.reduceEq, Int.reduceLT, Int.reduceLE, Int.reduceToNat, reduceIte, reduceCtorEq, Nat.reduceLeDiff, Nat.reduceLT, Nat.reduceMul, Nat.reduceSub, c1]
    (refine fin_x rfl ?_ ?_ <;> simp [pack, lo, loL, V.closed, closedL, mv_closed, no (by simp [stNumS]; omega)])
  by_cases c2 : 5 < s.is
  · simp (maxSteps := 1000000) (disch := omega) only [rg, gD, Nat.reduceBEq, Nat.reduceEqDiff, Nat.reduceAdd, Int.reduceEq, Int.reduceLT, Int.reduceLE, Int.reduceToNat, reduceIte, reduceCtorEq, Nat.reduceLeDiff, Nat.reduceLT, Nat.reduceMul, Nat.reduceSub, c1, c2]
    (refine fin_x rfl ?_ ?_ <;> simp [pack, lo, loL, V.closed, closedL, mv_closed, no (by simp [stNumS]; omega)])
  by_cases c3 : s.tried < 0
  · simp (maxSteps := 1000000) (disch := omega) only [rg, gD, Nat.reduceBEq, Nat.reduceEqDiff, Nat.reduceAdd, Int.reduceEq, Int.reduceLT, Int.reduceLE, Int.reduceToNat, reduceIte, reduceCtorEq, Nat.reduceLeDiff, Nat.reduceLT, Nat.reduceMul, Nat.reduceSub, c1, c2, c3]
    (refine fin_x rfl ?_ ?_ <;> simp [pack, lo, loL, V.closed, closedL, mv_closed, no (by simp [stNumS]; omega)])
  by_cases c4 : 8 < s.tried
  · simp (maxSteps := 1000000) (disch := omega) only [rg, gD, Nat.reduceBEq, Nat.reduceEqDiff, Nat.reduceAdd, Int.reduceEq, Int.reduceLT, Int.reduceLE, Int.reduceToNat, reduceIte, reduceCtorEq, Nat.reduceLeDiff, Nat.reduceLT, Nat.reduceMul, Nat.reduceSub, c1, c2, c3, c4]
    (refine fin_x rfl ?_ ?_ <;> simp [pack, lo, loL, V.closed, closedL, mv_closed, no (by simp [stNumS]; omega)])
  by_cases c5 : s.due < 0
  · simp (maxSteps := 1000000) (disch := omega) only [rg, gD, Nat.reduceBEq, Nat.reduceEqDiff, Nat.reduceAdd, Int.reduceEq, Int.reduceLT, Int.reduceLE, Int.reduceToNat, reduceIte, reduceCtorEq, Nat.reduceLeDiff, Nat.reduceLT, Nat.reduceMul, Nat.reduceSub, c1, c2, c3, c4, c5]
    (refine fin_x rfl ?_ ?_ <;> simp [pack, lo, loL, V.closed, closedL, mv_closed, no (by simp [stNumS]; omega)])
  by_cases c6 : 1099511627776 < s.due
  · simp (maxSteps := 1000000) (disch := omega) only [rg, gD, Nat.reduceBEq, Nat.reduceEqDiff, Nat.reduceAdd, Int.reduceEq, Int.reduceLT, Int.reduceLE, Int.reduceToNat, reduceIte, reduceCtorEq, Nat.reduceLeDiff, Nat.reduceLT, Nat.reduceMul, Nat.reduceSub, c1, c2, c3, c4, c5, c6]
    (refine fin_x rfl ?_ ?_ <;> simp [pack, lo, loL, V.closed, closedL, mv_closed, no (by simp [stNumS]; omega)])
  have yes : stNumS s = true := by simp [stNumS]; omega
  have hS : standsS s = decide (0 ≤ s.token ∧ s.token ≤ 1099511627776 ∧ (0 < s.token ↔ s.is = 2) ∧ s.result.length ≤ 16 ∧ (s.result = [] ∨ s.is = 3)) := by rw [standsS, yes, Bool.true_and]
  by_cases d1 : s.token < 0
  · simp (maxSteps := 1000000) (disch := omega) only [rg, gD, Nat.reduceBEq, Nat.reduceEqDiff, Nat.reduceAdd, Int.reduceEq, Int.reduceLT, Int.reduceLE, Int.reduceToNat, reduceIte, reduceCtorEq, Nat.reduceLeDiff, Nat.reduceLT, Nat.reduceMul, Nat.reduceSub, c1, c2, c3, c4, c5, c6, d1]
    (refine fin_x rfl ?_ ?_ <;> simp [pack, lo, loL, V.closed, closedL, mv_closed, hS.trans (decide_eq_false (by omega))])
  by_cases d2 : 1099511627776 < s.token
  · simp (maxSteps := 1000000) (disch := omega) only [rg, gD, Nat.reduceBEq, Nat.reduceEqDiff, Nat.reduceAdd, Int.reduceEq, Int.reduceLT, Int.reduceLE, Int.reduceToNat, reduceIte, reduceCtorEq, Nat.reduceLeDiff, Nat.reduceLT, Nat.reduceMul, Nat.reduceSub, c1, c2, c3, c4, c5, c6, d1, d2]
    (refine fin_x rfl ?_ ?_ <;> simp [pack, lo, loL, V.closed, closedL, mv_closed, hS.trans (decide_eq_false (by omega))])
  simp (maxSteps := 1000000) (disch := omega) only [rg, gD, Nat.reduceBEq, Nat.reduceEqDiff, Nat.reduceAdd, Int.reduceEq, Int.reduceLT, Int.reduceLE, Int.reduceToNat, reduceIte, reduceCtorEq, Nat.reduceLeDiff, Nat.reduceLT, Nat.reduceMul, Nat.reduceSub, c1, c2, c3, c4, c5, c6, d1, d2]
  refine ⟨fun h => ?_, fun h => ⟨fun h2 => ⟨fun h3 => ?_, fun h3 => ?_⟩, fun h2 => ?_⟩⟩
  · have h' : ¬ (0 < s.token ↔ s.is = 2) := fun hc => by simp [hc] at h
    (refine fin_x rfl ?_ ?_ <;> simp [pack, lo, loL, V.closed, closedL, mv_closed, hS.trans (decide_eq_false (fun hc => h' hc.2.2.1))])
  · have h' : (0 < s.token ↔ s.is = 2) := by simpa using h
    have e : standsS s = decide (s.is = 3) := by
      rw [hS]
      have : s.result.length ≤ 16 := by omega
      by_cases c3 : s.is = 3
      · rw [decide_eq_true c3]; exact decide_eq_true ⟨by omega, by omega, h', this, .inr c3⟩
      · rw [decide_eq_false c3]; exact decide_eq_false (fun hc => hc.2.2.2.2.elim h3 c3)
    (refine fin_x rfl ?_ ?_ <;> simp [pack, lo, loL, V.closed, closedL, mv_closed, e])
  · have h' : (0 < s.token ↔ s.is = 2) := by simpa using h
    (refine fin_x rfl ?_ ?_ <;> simp [pack, lo, loL, V.closed, closedL, mv_closed, hS.trans (decide_eq_true ⟨by omega, by omega, h', by omega, .inl h3⟩)])
  · (refine fin_x rfl ?_ ?_ <;> simp [pack, lo, loL, V.closed, closedL, mv_closed, hS.trans (decide_eq_false (by omega))])

theorem ref_stands (s : Stt) (hs : s.result.length ≤ 4611686018427387904) : PCall Try.prog 43 [sttV s] (.bool (standsS s)) := by
  refine en43 (by simp) (by simp [closedL, V.closed, sttV_closed]) ?_
  have no : stNumS s = false → standsS s = false := fun h => by simp [standsS, h]
  simp (maxSteps := 1000000) (disch := omega) only [rg, gD, Nat.reduceBEq, Nat.reduceEqDiff, Nat.reduceAdd, Int.reduceEq, Int.reduceLT, Int.reduceLE, Int.reduceToNat, reduceIte, reduceCtorEq, Nat.reduceLeDiff, Nat.reduceLT, Nat.reduceMul, Nat.reduceSub, c43, sttV]
  by_cases c1 : s.is < 0
  · simp (maxSteps := 1000000) (disch := omega) only [rg, gD, Nat.reduceBEq, Nat.reduceEqDiff, Nat.reduceAdd, Int.reduceEq, Int.reduceLT, Int.reduceLE, Int.reduceToNat, reduceIte, reduceCtorEq, Nat.reduceLeDiff, Nat.reduceLT, Nat.reduceMul, Nat.reduceSub, c1]
    (refine fin_x rfl ?_ ?_ <;> simp [pack, lo, loL, V.closed, closedL, mv_closed, no (by simp [stNumS]; omega)])
  by_cases c2 : 5 < s.is
  · simp (maxSteps := 1000000) (disch := omega) only [rg, gD, Nat.reduceBEq, Nat.reduceEqDiff, Nat.reduceAdd, Int.reduceEq, Int.reduceLT, Int.reduceLE, Int.reduceToNat, reduceIte, reduceCtorEq, Nat.reduceLeDiff, Nat.reduceLT, Nat.reduceMul, Nat.reduceSub, c1, c2]
    (refine fin_x rfl ?_ ?_ <;> simp [pack, lo, loL, V.closed, closedL, mv_closed, no (by simp [stNumS]; omega)])
  by_cases c3 : s.tried < 0
  · simp (maxSteps := 1000000) (disch := omega) only [rg, gD, Nat.reduceBEq, Nat.reduceEqDiff, Nat.reduceAdd, Int.reduceEq, Int.reduceLT, Int.reduceLE, Int.reduceToNat, reduceIte, reduceCtorEq, Nat.reduceLeDiff, Nat.reduceLT, Nat.reduceMul, Nat.reduceSub, c1, c2, c3]
    (refine fin_x rfl ?_ ?_ <;> simp [pack, lo, loL, V.closed, closedL, mv_closed, no (by simp [stNumS]; omega)])
  by_cases c4 : 8 < s.tried
  · simp (maxSteps := 1000000) (disch := omega) only [rg, gD, Nat.reduceBEq, Nat.reduceEqDiff, Nat.reduceAdd, Int.reduceEq, Int.reduceLT, Int.reduceLE, Int.reduceToNat, reduceIte, reduceCtorEq, Nat.reduceLeDiff, Nat.reduceLT, Nat.reduceMul, Nat.reduceSub, c1, c2, c3, c4]
    (refine fin_x rfl ?_ ?_ <;> simp [pack, lo, loL, V.closed, closedL, mv_closed, no (by simp [stNumS]; omega)])
  by_cases c5 : s.due < 0
  · simp (maxSteps := 1000000) (disch := omega) only [rg, gD, Nat.reduceBEq, Nat.reduceEqDiff, Nat.reduceAdd, Int.reduceEq, Int.reduceLT, Int.reduceLE, Int.reduceToNat, reduceIte, reduceCtorEq, Nat.reduceLeDiff, Nat.reduceLT, Nat.reduceMul, Nat.reduceSub, c1, c2, c3, c4, c5]
    (refine fin_x rfl ?_ ?_ <;> simp [pack, lo, loL, V.closed, closedL, mv_closed, no (by simp [stNumS]; omega)])
  by_cases c6 : 1099511627776 < s.due
  · simp (maxSteps := 1000000) (disch := omega) only [rg, gD, Nat.reduceBEq, Nat.reduceEqDiff, Nat.reduceAdd, Int.reduceEq, Int.reduceLT, Int.reduceLE, Int.reduceToNat, reduceIte, reduceCtorEq, Nat.reduceLeDiff, Nat.reduceLT, Nat.reduceMul, Nat.reduceSub, c1, c2, c3, c4, c5, c6]
    (refine fin_x rfl ?_ ?_ <;> simp [pack, lo, loL, V.closed, closedL, mv_closed, no (by simp [stNumS]; omega)])
  have yes : stNumS s = true := by simp [stNumS]; omega
  have hS : standsS s = decide (0 ≤ s.token ∧ s.token ≤ 1099511627776 ∧ (0 < s.token ↔ s.is = 2) ∧ s.result.length ≤ 16 ∧ (s.result = [] ∨ s.is = 3)) := by rw [standsS, yes, Bool.true_and]
  by_cases d2 : 1099511627776 < s.token
  · simp (maxSteps := 1000000) (disch := omega) only [rg, gD, Nat.reduceBEq, Nat.reduceEqDiff, Nat.reduceAdd, Int.reduceEq, Int.reduceLT, Int.reduceLE, Int.reduceToNat, reduceIte, reduceCtorEq, Nat.reduceLeDiff, Nat.reduceLT, Nat.reduceMul, Nat.reduceSub, c1, c2, c3, c4, c5, c6, d2]
    (refine fin_x rfl ?_ ?_ <;> simp [pack, lo, loL, V.closed, closedL, mv_closed, hS.trans (decide_eq_false (by omega))])
  by_cases d3 : 16 < s.result.length
  · simp (maxSteps := 1000000) (disch := omega) only [rg, gD, Nat.reduceBEq, Nat.reduceEqDiff, Nat.reduceAdd, Int.reduceEq, Int.reduceLT, Int.reduceLE, Int.reduceToNat, reduceIte, reduceCtorEq, Nat.reduceLeDiff, Nat.reduceLT, Nat.reduceMul, Nat.reduceSub, c1, c2, c3, c4, c5, c6, d2, show (16 : Int) < s.result.length by omega]
    (refine fin_x rfl ?_ ?_ <;> simp [pack, lo, loL, V.closed, closedL, mv_closed, hS.trans (decide_eq_false (by omega))])
  by_cases d4 : s.is = 2
  · by_cases d5 : s.token < 1
    · simp (maxSteps := 1000000) (disch := omega) only [rg, gD, Nat.reduceBEq, Nat.reduceEqDiff, Nat.reduceAdd, Int.reduceEq, Int.reduceLT, Int.reduceLE, Int.reduceToNat, reduceIte, reduceCtorEq, Nat.reduceLeDiff, Nat.reduceLT, Nat.reduceMul, Nat.reduceSub, c1, c2, c3, c4, c5, c6, d2, show ¬ (16 : Int) < s.result.length by omega, d4, d5]
      (refine fin_x rfl ?_ ?_ <;> simp [pack, lo, loL, V.closed, closedL, mv_closed, hS.trans (decide_eq_false (by omega))])
    · simp (maxSteps := 1000000) (disch := omega) only [rg, gD, Nat.reduceBEq, Nat.reduceEqDiff, Nat.reduceAdd, Int.reduceEq, Int.reduceLT, Int.reduceLE, Int.reduceToNat, reduceIte, reduceCtorEq, Nat.reduceLeDiff, Nat.reduceLT, Nat.reduceMul, Nat.reduceSub, c1, c2, c3, c4, c5, c6, d2, show ¬ (16 : Int) < s.result.length by omega, d4, d5]
      have e : standsS s = decide (s.result = []) := by
        rw [hS]
        by_cases h3 : s.result = []
        · rw [decide_eq_true h3]; exact decide_eq_true ⟨by omega, by omega, by omega, by omega, .inl h3⟩
        · rw [decide_eq_false h3]; exact decide_eq_false (fun hc => hc.2.2.2.2.elim h3 (by omega))
      (refine fin_x rfl ?_ ?_ <;> simp [pack, lo, loL, V.closed, closedL, mv_closed, e])
  · by_cases d5 : s.token = 0
    · simp (maxSteps := 1000000) (disch := omega) only [rg, gD, Nat.reduceBEq, Nat.reduceEqDiff, Nat.reduceAdd, Int.reduceEq, Int.reduceLT, Int.reduceLE, Int.reduceToNat, reduceIte, reduceCtorEq, Nat.reduceLeDiff, Nat.reduceLT, Nat.reduceMul, Nat.reduceSub, c1, c2, c3, c4, c5, c6, d2, show ¬ (16 : Int) < s.result.length by omega, d4, d5]
      refine ⟨fun h => ?_, fun h => ?_⟩
      · have e : standsS s = decide (s.result = []) := by
          rw [hS]
          by_cases h3 : s.result = []
          · rw [decide_eq_true h3]; exact decide_eq_true ⟨by omega, by omega, by omega, by omega, .inl h3⟩
          · rw [decide_eq_false h3]; exact decide_eq_false (fun hc => hc.2.2.2.2.elim h3 h)
        (refine fin_x rfl ?_ ?_ <;> simp [pack, lo, loL, V.closed, closedL, mv_closed, e])
      · (refine fin_x rfl ?_ ?_ <;> simp [pack, lo, loL, V.closed, closedL, mv_closed, hS.trans (decide_eq_true ⟨by omega, by omega, by omega, by omega, .inr h⟩)])
    · simp (maxSteps := 1000000) (disch := omega) only [rg, gD, Nat.reduceBEq, Nat.reduceEqDiff, Nat.reduceAdd, Int.reduceEq, Int.reduceLT, Int.reduceLE, Int.reduceToNat, reduceIte, reduceCtorEq, Nat.reduceLeDiff, Nat.reduceLT, Nat.reduceMul, Nat.reduceSub, c1, c2, c3, c4, c5, c6, d2, show ¬ (16 : Int) < s.result.length by omega, d4, d5]
      (refine fin_x rfl ?_ ?_ <;> simp [pack, lo, loL, V.closed, closedL, mv_closed, hS.trans (decide_eq_false (by omega))])

theorem ref18_number (n k : Int) (hn : n ≤ 9223372036854775807) : PCall Try.prog 70 [.int .i64 n, .int .i64 k] (.str (putS n k).1) := by
  refine en70 (by simp) (by simp [closedL, V.closed]) ?_
  simp (maxSteps := 1000000) (disch := omega) only [rg, gD, Nat.reduceBEq, Nat.reduceEqDiff, Nat.reduceAdd, Int.reduceEq, Int.reduceLT, Int.reduceLE, Int.reduceToNat, reduceIte, reduceCtorEq, Nat.reduceLeDiff, Nat.reduceLT, Nat.reduceMul, Nat.reduceSub, c70]
  refine ⟨_, ref_put n k hn, ?_⟩
  simp (maxSteps := 1000000) (disch := omega) only [rg, gD, Nat.reduceBEq, Nat.reduceEqDiff, Nat.reduceAdd, Int.reduceEq, Int.reduceLT, Int.reduceLE, Int.reduceToNat, reduceIte, reduceCtorEq, Nat.reduceLeDiff, Nat.reduceLT, Nat.reduceMul, Nat.reduceSub, sV]
  (refine fin_x rfl ?_ ?_ <;> simp [pack, lo, loL, V.closed, closedL, mv_closed])
theorem ref23_number (n k : Int) (hn : n ≤ 9223372036854775807) : PCall Try.prog 32 [.int .i64 n, .int .i64 k] (.str (putS n k).1) := by
  refine en32 (by simp) (by simp [closedL, V.closed]) ?_
  simp (maxSteps := 1000000) (disch := omega) only [rg, gD, Nat.reduceBEq, Nat.reduceEqDiff, Nat.reduceAdd, Int.reduceEq, Int.reduceLT, Int.reduceLE, Int.reduceToNat, reduceIte, reduceCtorEq, Nat.reduceLeDiff, Nat.reduceLT, Nat.reduceMul, Nat.reduceSub, c32]
  refine ⟨_, ref_put n k hn, ?_⟩
  simp (maxSteps := 1000000) (disch := omega) only [rg, gD, Nat.reduceBEq, Nat.reduceEqDiff, Nat.reduceAdd, Int.reduceEq, Int.reduceLT, Int.reduceLE, Int.reduceToNat, reduceIte, reduceCtorEq, Nat.reduceLeDiff, Nat.reduceLT, Nat.reduceMul, Nat.reduceSub, sV]
  (refine fin_x rfl ?_ ?_ <;> simp [pack, lo, loL, V.closed, closedL, mv_closed])
theorem ref23_text (s : Str) (hs : s.length ≤ 1000000000) : PCall Try.prog 31 [.str s] (.str (textS s).1) := by
  refine en31 (by simp) (by simp [closedL, V.closed]) ?_
  simp (maxSteps := 1000000) (disch := omega) only [rg, gD, Nat.reduceBEq, Nat.reduceEqDiff, Nat.reduceAdd, Int.reduceEq, Int.reduceLT, Int.reduceLE, Int.reduceToNat, reduceIte, reduceCtorEq, Nat.reduceLeDiff, Nat.reduceLT, Nat.reduceMul, Nat.reduceSub, c31]
  refine ⟨_, ref_text s hs, ?_⟩
  simp (maxSteps := 1000000) (disch := omega) only [rg, gD, Nat.reduceBEq, Nat.reduceEqDiff, Nat.reduceAdd, Int.reduceEq, Int.reduceLT, Int.reduceLE, Int.reduceToNat, reduceIte, reduceCtorEq, Nat.reduceLeDiff, Nat.reduceLT, Nat.reduceMul, Nat.reduceSub, sV]
  (refine fin_x rfl ?_ ?_ <;> simp [pack, lo, loL, V.closed, closedL, mv_closed])
theorem ref23_six (n : Int) : PCall Try.prog 27 [.int .i64 n] (.bool (decide (0 ≤ n ∧ n < 281474976710656))) := by
  refine en27 (by simp) (by simp [closedL, V.closed]) ?_
  by_cases c : 0 ≤ n
  · simp (maxSteps := 1000000) (disch := omega) only [rg, gD, Nat.reduceBEq, Nat.reduceEqDiff, Nat.reduceAdd, Int.reduceEq, Int.reduceLT, Int.reduceLE, Int.reduceToNat, reduceIte, reduceCtorEq, Nat.reduceLeDiff, Nat.reduceLT, Nat.reduceMul, Nat.reduceSub, c27, c]
    (refine fin_x rfl ?_ ?_ <;> simp [pack, lo, loL, V.closed, closedL, mv_closed, c])
  · simp (maxSteps := 1000000) (disch := omega) only [rg, gD, Nat.reduceBEq, Nat.reduceEqDiff, Nat.reduceAdd, Int.reduceEq, Int.reduceLT, Int.reduceLE, Int.reduceToNat, reduceIte, reduceCtorEq, Nat.reduceLeDiff, Nat.reduceLT, Nat.reduceMul, Nat.reduceSub, c27, c]
    (refine fin_x rfl ?_ ?_ <;> simp [pack, lo, loL, V.closed, closedL, mv_closed, c])

/-- A state as bytes. -/
def stBytes (s : Stt) : Str := (((putS s.is 1).1 ++ (putS s.tried 1).1) ++ (putS s.due 6).1 ++ (putS s.token 6).1) ++ (textS s.result).1
def i64S (s : Stt) : Prop := s.is ≤ 9223372036854775807 ∧ s.tried ≤ 9223372036854775807 ∧ s.due ≤ 9223372036854775807 ∧ s.token ≤ 9223372036854775807
theorem ref_stput (s : Stt) (hs : s.result.length ≤ 1000000000) (hi : i64S s) : PCall Try.prog 44 [sttV s] (.str (stBytes s)) := by
  refine en44 (by simp) (by simp [closedL, V.closed, sttV_closed]) ?_
  obtain ⟨i1, i2, i3, i4⟩ := hi
  have p1 := putS_len s.is 1
  have p2 := putS_len s.tried 1
  have p3 := putS_len s.due 6
  have p4 := putS_len s.token 6
  have p5 := textS_len s.result
  simp (maxSteps := 1000000) (disch := omega) only [rg, gD, Nat.reduceBEq, Nat.reduceEqDiff, Nat.reduceAdd, Int.reduceEq, Int.reduceLT, Int.reduceLE, Int.reduceToNat, reduceIte, reduceCtorEq, Nat.reduceLeDiff, Nat.reduceLT, Nat.reduceMul, Nat.reduceSub, c44, sttV]
  refine ⟨_, ref_text s.result hs, ?_⟩
  simp (maxSteps := 1000000) (disch := omega) only [rg, gD, Nat.reduceBEq, Nat.reduceEqDiff, Nat.reduceAdd, Int.reduceEq, Int.reduceLT, Int.reduceLE, Int.reduceToNat, reduceIte, reduceCtorEq, Nat.reduceLeDiff, Nat.reduceLT, Nat.reduceMul, Nat.reduceSub, sV]
  refine ⟨_, ref18_number s.is 1 i1, ?_⟩
  simp (maxSteps := 1000000) (disch := omega) only [rg, gD, Nat.reduceBEq, Nat.reduceEqDiff, Nat.reduceAdd, Int.reduceEq, Int.reduceLT, Int.reduceLE, Int.reduceToNat, reduceIte, reduceCtorEq, Nat.reduceLeDiff, Nat.reduceLT, Nat.reduceMul, Nat.reduceSub]
  refine ⟨_, ref18_number s.tried 1 i2, ?_⟩
  simp (maxSteps := 1000000) (disch := omega) only [rg, gD, Nat.reduceBEq, Nat.reduceEqDiff, Nat.reduceAdd, Int.reduceEq, Int.reduceLT, Int.reduceLE, Int.reduceToNat, reduceIte, reduceCtorEq, Nat.reduceLeDiff, Nat.reduceLT, Nat.reduceMul, Nat.reduceSub]
  refine ⟨by omega, _, ref18_number s.due 6 i3, ?_⟩
  simp (maxSteps := 1000000) (disch := omega) only [rg, gD, Nat.reduceBEq, Nat.reduceEqDiff, Nat.reduceAdd, Int.reduceEq, Int.reduceLT, Int.reduceLE, Int.reduceToNat, reduceIte, reduceCtorEq, Nat.reduceLeDiff, Nat.reduceLT, Nat.reduceMul, Nat.reduceSub, List.length_append]
  refine ⟨by omega, _, ref18_number s.token 6 i4, ?_⟩
  simp (maxSteps := 1000000) (disch := omega) only [rg, gD, Nat.reduceBEq, Nat.reduceEqDiff, Nat.reduceAdd, Int.reduceEq, Int.reduceLT, Int.reduceLE, Int.reduceToNat, reduceIte, reduceCtorEq, Nat.reduceLeDiff, Nat.reduceLT, Nat.reduceMul, Nat.reduceSub, List.length_append]
  refine ⟨by omega, by omega, ?_⟩
  (refine fin_x rfl ?_ ?_ <;> simp [pack, lo, loL, V.closed, closedL, mv_closed, stBytes])
theorem putS_in {n k : Int} (h : 1 ≤ k ∧ k ≤ 6 ∧ 0 ≤ n ∧ n < 256 ^ k.toNat) : putS n k = (beS k.toNat n.toNat, 0) := by
  unfold putS; rw [if_neg (by omega)]
theorem textS_in {s : Str} (h : s.length ≤ 65535) : textS s = (beS 2 s.length ++ s, 0) := by
  unfold textS; rw [if_neg (by omega)]
def stPutS (s : Stt) : Str × Int := if standsS s = true then (stBytes s, 0) else ([], 1)
theorem task_put (s : Stt) (hs : s.result.length ≤ 4611686018427387904) (hi : i64S s) : PCall Try.prog 42 [sttV s] (sV (stPutS s)) := by
  refine en42 (by simp) (by simp [closedL, V.closed, sttV_closed]) ?_
  have kst := task_stands s hs
  obtain ⟨i1, i2, i3, i4⟩ := hi
  have p1 := putS_len s.is 1
  have p2 := putS_len s.tried 1
  have p3 := putS_len s.due 6
  have p4 := putS_len s.token 6
  have p5 := textS_len s.result
  unfold sttV at kst
  simp (maxSteps := 1000000) (disch := omega) only [rg, gD, Nat.reduceBEq, Nat.reduceEqDiff, Nat.reduceAdd, Int.reduceEq, Int.reduceLT, Int.reduceLE, Int.reduceToNat, reduceIte, reduceCtorEq, Nat.reduceLeDiff, Nat.reduceLT, Nat.reduceMul, Nat.reduceSub, c42, sttV]
  refine ⟨_, kst, ?_⟩
  cases hst : standsS s with
  | false =>
    simp (maxSteps := 1000000) (disch := omega) only [rg, gD, Nat.reduceBEq, Nat.reduceEqDiff, Nat.reduceAdd, Int.reduceEq, Int.reduceLT, Int.reduceLE, Int.reduceToNat, reduceIte, reduceCtorEq, Nat.reduceLeDiff, Nat.reduceLT, Nat.reduceMul, Nat.reduceSub]
    (refine fin_x rfl ?_ ?_ <;> simp [pack, lo, loL, V.closed, closedL, mv_closed, sV, stPutS, hst])
  | true =>
    have hlen : s.result.length ≤ 65535 := by simp only [standsS, Bool.and_eq_true, decide_eq_true_eq] at hst; omega
    simp (maxSteps := 1000000) (disch := omega) only [rg, gD, Nat.reduceBEq, Nat.reduceEqDiff, Nat.reduceAdd, Int.reduceEq, Int.reduceLT, Int.reduceLE, Int.reduceToNat, reduceIte, reduceCtorEq, Nat.reduceLeDiff, Nat.reduceLT, Nat.reduceMul, Nat.reduceSub]
    refine ⟨_, code_put s.is 1 i1, ?_⟩
    simp (maxSteps := 1000000) (disch := omega) only [rg, gD, Nat.reduceBEq, Nat.reduceEqDiff, Nat.reduceAdd, Int.reduceEq, Int.reduceLT, Int.reduceLE, Int.reduceToNat, reduceIte, reduceCtorEq, Nat.reduceLeDiff, Nat.reduceLT, Nat.reduceMul, Nat.reduceSub, sV]
    refine ⟨_, code_put s.tried 1 i2, ?_⟩
    simp (maxSteps := 1000000) (disch := omega) only [rg, gD, Nat.reduceBEq, Nat.reduceEqDiff, Nat.reduceAdd, Int.reduceEq, Int.reduceLT, Int.reduceLE, Int.reduceToNat, reduceIte, reduceCtorEq, Nat.reduceLeDiff, Nat.reduceLT, Nat.reduceMul, Nat.reduceSub, sV]
    refine ⟨_, code_put s.due 6 i3, ?_⟩
    simp (maxSteps := 1000000) (disch := omega) only [rg, gD, Nat.reduceBEq, Nat.reduceEqDiff, Nat.reduceAdd, Int.reduceEq, Int.reduceLT, Int.reduceLE, Int.reduceToNat, reduceIte, reduceCtorEq, Nat.reduceLeDiff, Nat.reduceLT, Nat.reduceMul, Nat.reduceSub, sV]
    refine ⟨_, code_put s.token 6 i4, ?_⟩
    simp (maxSteps := 1000000) (disch := omega) only [rg, gD, Nat.reduceBEq, Nat.reduceEqDiff, Nat.reduceAdd, Int.reduceEq, Int.reduceLT, Int.reduceLE, Int.reduceToNat, reduceIte, reduceCtorEq, Nat.reduceLeDiff, Nat.reduceLT, Nat.reduceMul, Nat.reduceSub, sV]
    refine ⟨_, code_text s.result (by omega), ?_⟩
    simp (maxSteps := 1000000) (disch := omega) only [rg, gD, Nat.reduceBEq, Nat.reduceEqDiff, Nat.reduceAdd, Int.reduceEq, Int.reduceLT, Int.reduceLE, Int.reduceToNat, reduceIte, reduceCtorEq, Nat.reduceLeDiff, Nat.reduceLT, Nat.reduceMul, Nat.reduceSub, sV]
    refine ⟨_, code_all .full [(putS s.is 1).1, (putS s.tried 1).1, (putS s.due 6).1, (putS s.token 6).1, (textS s.result).1] (by simp) (by simp; omega), ?_⟩
    simp (maxSteps := 1000000) (disch := omega) only [rg, gD, Nat.reduceBEq, Nat.reduceEqDiff, Nat.reduceAdd, Int.reduceEq, Int.reduceLT, Int.reduceLE, Int.reduceToNat, reduceIte, reduceCtorEq, Nat.reduceLeDiff, Nat.reduceLT, Nat.reduceMul, Nat.reduceSub]
    have e : [(putS s.is 1).1, (putS s.tried 1).1, (putS s.due 6).1, (putS s.token 6).1, (textS s.result).1].flatten = stBytes s := by simp [stBytes]
    have e2 : (textS s.result).2 = 0 := by rw [textS_in hlen]
    (refine fin_x rfl ?_ ?_ <;> simp [pack, lo, loL, V.closed, closedL, mv_closed, sV, stPutS, hst, e, e2])

def zeroSt : Stt := ⟨0, 0, 0, 0, []⟩
def stRead (s : Str) : Stt × Int × Int :=
  let a := nextS s (0, 0) 1
  let b := nextS s a.2 1
  let c := nextS s b.2 6
  let d := nextS s c.2 6
  let e := txtS s d.2
  (⟨a.1, b.1, c.1, d.1, e.1⟩, e.2)
def stGetS (s : Str) : Stt × Int := if (stRead s).2.2 = 0 then if (stRead s).2.1 = s.length ∧ standsS (stRead s).1 = true then ((stRead s).1, 0) else (zeroSt, 4) else (zeroSt, (stRead s).2.2)
def stV (p : Stt × Int) : V := .tup [sttV p.1, .int .i64 p.2]

theorem ref_stget (s : Str) (hs : s.length ≤ 1000000000) : PCall Try.prog 48 [.str s] (stV (stGetS s)) := by
  refine en48 (by simp) (by simp [closedL, V.closed]) ?_
  simp (maxSteps := 1000000) (disch := omega) only [rg, gD, Nat.reduceBEq, Nat.reduceEqDiff, Nat.reduceAdd, Int.reduceEq, Int.reduceLT, Int.reduceLE, Int.reduceToNat, reduceIte, reduceCtorEq, Nat.reduceLeDiff, Nat.reduceLT, Nat.reduceMul, Nat.reduceSub, c48]
  refine ⟨_, _, _, _, r_next _ 1 s (0, 0) 1 hs (by simp) (by simp (disch := omega) only [upd_eq, upd_ne, wo_0, wo_1, wo_2, rdV]), ?_⟩
  simp (maxSteps := 1000000) (disch := omega) only [rg, gD, Nat.reduceBEq, Nat.reduceEqDiff, Nat.reduceAdd, Int.reduceEq, Int.reduceLT, Int.reduceLE, Int.reduceToNat, reduceIte, reduceCtorEq, Nat.reduceLeDiff, Nat.reduceLT, Nat.reduceMul, Nat.reduceSub]
  generalize ha : nextS s (0, 0) 1 = a
  refine ⟨_, _, _, _, r_next _ 1 s a.2 1 hs (by simp) (by simp (disch := omega) only [upd_eq, upd_ne, wo_0, wo_1, wo_2]), ?_⟩
  simp (maxSteps := 1000000) (disch := omega) only [rg, gD, Nat.reduceBEq, Nat.reduceEqDiff, Nat.reduceAdd, Int.reduceEq, Int.reduceLT, Int.reduceLE, Int.reduceToNat, reduceIte, reduceCtorEq, Nat.reduceLeDiff, Nat.reduceLT, Nat.reduceMul, Nat.reduceSub]
  generalize hb : nextS s a.2 1 = b
  refine ⟨_, _, _, _, r_next _ 1 s b.2 6 hs (by simp) (by simp (disch := omega) only [upd_eq, upd_ne, wo_0, wo_1, wo_2]), ?_⟩
  simp (maxSteps := 1000000) (disch := omega) only [rg, gD, Nat.reduceBEq, Nat.reduceEqDiff, Nat.reduceAdd, Int.reduceEq, Int.reduceLT, Int.reduceLE, Int.reduceToNat, reduceIte, reduceCtorEq, Nat.reduceLeDiff, Nat.reduceLT, Nat.reduceMul, Nat.reduceSub]
  generalize hc : nextS s b.2 6 = c
  refine ⟨_, _, _, _, r_next _ 1 s c.2 6 hs (by simp) (by simp (disch := omega) only [upd_eq, upd_ne, wo_0, wo_1, wo_2]), ?_⟩
  simp (maxSteps := 1000000) (disch := omega) only [rg, gD, Nat.reduceBEq, Nat.reduceEqDiff, Nat.reduceAdd, Int.reduceEq, Int.reduceLT, Int.reduceLE, Int.reduceToNat, reduceIte, reduceCtorEq, Nat.reduceLeDiff, Nat.reduceLT, Nat.reduceMul, Nat.reduceSub]
  generalize hd : nextS s c.2 6 = d
  refine ⟨_, _, _, _, r_text _ 1 s d.2 hs (by simp) (by simp (disch := omega) only [upd_eq, upd_ne, wo_0, wo_1, wo_2]), ?_⟩
  simp (maxSteps := 1000000) (disch := omega) only [rg, gD, Nat.reduceBEq, Nat.reduceEqDiff, Nat.reduceAdd, Int.reduceEq, Int.reduceLT, Int.reduceLE, Int.reduceToNat, reduceIte, reduceCtorEq, Nat.reduceLeDiff, Nat.reduceLT, Nat.reduceMul, Nat.reduceSub]
  generalize he : txtS s d.2 = e
  have hr : stRead s = (⟨a.1, b.1, c.1, d.1, e.1⟩, e.2) := by simp only [stRead, ha, hb, hc, hd, he]
  have hel : e.1.length ≤ 1000000000 := by
    rw [← he]; unfold txtS; split
    · exact Nat.le_trans (cutS_len _ _) hs
    · simp
  have kst := ref_stands ⟨a.1, b.1, c.1, d.1, e.1⟩ (Nat.le_trans hel (by omega))
  unfold sttV at kst
  by_cases c1 : e.2.2 = 0
  · simp (maxSteps := 1000000) (disch := omega) only [rg, gD, Nat.reduceBEq, Nat.reduceEqDiff, Nat.reduceAdd, Int.reduceEq, Int.reduceLT, Int.reduceLE, Int.reduceToNat, reduceIte, reduceCtorEq, Nat.reduceLeDiff, Nat.reduceLT, Nat.reduceMul, Nat.reduceSub, rdV, c1]
    by_cases c2 : e.2.1 = s.length
    · simp (maxSteps := 1000000) (disch := omega) only [rg, gD, Nat.reduceBEq, Nat.reduceEqDiff, Nat.reduceAdd, Int.reduceEq, Int.reduceLT, Int.reduceLE, Int.reduceToNat, reduceIte, reduceCtorEq, Nat.reduceLeDiff, Nat.reduceLT, Nat.reduceMul, Nat.reduceSub, rdV, c2]
      refine ⟨_, kst, ?_⟩
      cases hst : standsS ⟨a.1, b.1, c.1, d.1, e.1⟩ with
      | true =>
        simp (maxSteps := 1000000) (disch := omega) only [rg, gD, Nat.reduceBEq, Nat.reduceEqDiff, Nat.reduceAdd, Int.reduceEq, Int.reduceLT, Int.reduceLE, Int.reduceToNat, reduceIte, reduceCtorEq, Nat.reduceLeDiff, Nat.reduceLT, Nat.reduceMul, Nat.reduceSub]
        (refine fin_x rfl ?_ ?_ <;> simp [pack, lo, loL, V.closed, closedL, mv_closed, stV, stGetS, hr, c1, c2, hst, sttV])
      | false =>
        simp (maxSteps := 1000000) (disch := omega) only [rg, gD, Nat.reduceBEq, Nat.reduceEqDiff, Nat.reduceAdd, Int.reduceEq, Int.reduceLT, Int.reduceLE, Int.reduceToNat, reduceIte, reduceCtorEq, Nat.reduceLeDiff, Nat.reduceLT, Nat.reduceMul, Nat.reduceSub]
        (refine fin_x rfl ?_ ?_ <;> simp [pack, lo, loL, V.closed, closedL, mv_closed, stV, stGetS, hr, c1, c2, hst, sttV, zeroSt])
    · simp (maxSteps := 1000000) (disch := omega) only [rg, gD, Nat.reduceBEq, Nat.reduceEqDiff, Nat.reduceAdd, Int.reduceEq, Int.reduceLT, Int.reduceLE, Int.reduceToNat, reduceIte, reduceCtorEq, Nat.reduceLeDiff, Nat.reduceLT, Nat.reduceMul, Nat.reduceSub, rdV, c2]
      (refine fin_x rfl ?_ ?_ <;> simp [pack, lo, loL, V.closed, closedL, mv_closed, stV, stGetS, hr, c1, c2, sttV, zeroSt])
  · simp (maxSteps := 1000000) (disch := omega) only [rg, gD, Nat.reduceBEq, Nat.reduceEqDiff, Nat.reduceAdd, Int.reduceEq, Int.reduceLT, Int.reduceLE, Int.reduceToNat, reduceIte, reduceCtorEq, Nat.reduceLeDiff, Nat.reduceLT, Nat.reduceMul, Nat.reduceSub, rdV, c1]
    refine ⟨by simp [compat, disj, nthL], ?_⟩
    (refine fin_x rfl ?_ ?_ <;> simp [pack, lo, loL, V.closed, closedL, mv_closed, stV, stGetS, hr, c1, sttV, zeroSt])

end Go.Proofs.Ytjlpmndipceboaa.Ev
end
section
set_option linter.unusedSimpArgs false
set_option linter.unusedVariables false
set_option maxRecDepth 10000
namespace Go.Proofs.Ytjlpmndipceboaa.Ev
open Go

def setSt : Nat → Stt → Int → Stt
  | 0, s, n => { s with is := n }
  | 1, s, n => { s with tried := n }
  | 2, s, n => { s with due := n }
  | _, s, n => { s with token := n }
def szSt : Nat → Int
  | 0 => 1
  | 1 => 1
  | _ => 6
def rdSt (s : Str) : Nat → Stt × Int × Int
  | 0 => (zeroSt, (0, 0))
  | k + 1 => (setSt k (rdSt s k).1 (nextS s (rdSt s k).2 (szSt k)).1, (nextS s (rdSt s k).2 (szSt k)).2)
theorem stRead_eq (s : Str) : stRead s = ({ (rdSt s 4).1 with result := (txtS s (rdSt s 4).2).1 }, (txtS s (rdSt s 4).2).2) := rfl
theorem rdSt_bad (s : Str) (i : Nat) (h : (rdSt s i).2.2 ≠ 0) (hi : i ≤ 4) : stGetS s = (zeroSt, (rdSt s i).2.2) := by
  have st : ∀ r : Int × Int, r.2 ≠ 0 → ∀ k, (nextS s r k).2 = r := fun r hr k => by simp [nextS, hr]
  have tt : ∀ r : Int × Int, r.2 ≠ 0 → (txtS s r).2 = r := fun r hr => by simp [txtS, hr]
  have up : ∀ j, (rdSt s j).2.2 ≠ 0 → (rdSt s (j + 1)).2 = (rdSt s j).2 := fun j hb => st _ hb _
  have all : (rdSt s 4).2 = (rdSt s i).2 := by
    rcases (by omega : i = 0 ∨ i = 1 ∨ i = 2 ∨ i = 3 ∨ i = 4) with rfl | rfl | rfl | rfl | rfl
    · exact absurd (show (rdSt s 0).2.2 = 0 from rfl) h
    · have e1 := up 1 h
      have e2 := up 2 (by rw [e1]; exact h)
      have e3 := up 3 (by rw [e2, e1]; exact h)
      rw [e3, e2, e1]
    · have e2 := up 2 h
      have e3 := up 3 (by rw [e2]; exact h)
      rw [e3, e2]
    · exact up 3 h
    · rfl
  have e : (stRead s).2 = (rdSt s i).2 := by rw [stRead_eq]; simp only; rw [tt _ (by rw [all]; exact h), all]
  unfold stGetS
  rw [e, if_neg h]

theorem task_get (s : Str) (hs : s.length ≤ 1000000000) : PCall Try.prog 45 [.str s] (stV (stGetS s)) := by
  refine en45 (by simp) (by simp [closedL, V.closed]) ?_
  simp (maxSteps := 1000000) (disch := omega) only [rg, gD, Nat.reduceBEq, Nat.reduceEqDiff, Nat.reduceAdd, Int.reduceEq, Int.reduceLT, Int.reduceLE, Int.reduceToNat, reduceIte, reduceCtorEq, Nat.reduceLeDiff, Nat.reduceLT, Nat.reduceMul, Nat.reduceSub, c45]
  refine x_it 4 (fun i σ H => 2 ≤ H.n ∧ (rdSt s i).2.2 = 0 ∧ H.m 0 = some (.arr 5 [sttV zeroSt]) ∧ H.m 1 = some (.arr 5 [sttV (rdSt s i).1]) ∧ σ = [(0, .str s), (2, .ptr 0 0 0), (4, .ptr 1 0 0), (5, .int .i64 (rdSt s i).2.1),
    (17, .fsl .full 2 [.agg [.ptr 1 0 0, .int .i64 1], .agg [.ptr 1 0 1, .int .i64 1], .agg [.ptr 1 0 2, .int .i64 6], .agg [.ptr 1 0 3, .int .i64 6]]), (18, .int .i64 4), (19, .int .i64 i)]) ⟨Nat.le_refl 2, rfl, (by simp (disch := omega) only [upd_eq, upd_ne, wo_0, wo_1, wo_2, sttV, zeroSt]), (by simp only [rdSt]; exact (by simp (disch := omega) only [upd_eq, upd_ne, wo_0, wo_1, wo_2, sttV, zeroSt])), rfl⟩ ?_
  rintro T i σ ⟨q, m⟩ hi ⟨hq, hz, e0, e1, rfl⟩ hN hX hR
  simp only at hq e0 e1
  have step : ∀ k : Int, nextS s (rdSt s i).2 k = getS s (rdSt s i).2.1 k := fun k => by simp [nextS, hz]
  have hq0 : 0 ≠ q := by omega
  have hq1 : 1 ≠ q := by omega
  simp (maxSteps := 1000000) (disch := omega) only [rg, gD, Nat.reduceBEq, Nat.reduceEqDiff, Nat.reduceAdd, Int.reduceEq, Int.reduceLT, Int.reduceLE, Int.reduceToNat, reduceIte, reduceCtorEq, Nat.reduceLeDiff, Nat.reduceLT, Nat.reduceMul, Nat.reduceSub]
  refine ⟨fun h => ?_, fun h => ?_⟩
  · have i1 : i < 4 := by omega
    rcases (by omega : i = 0 ∨ i = 1 ∨ i = 2 ∨ i = 3) with rfl | rfl | rfl | rfl
    · have hs1 : rdSt s (0 + 1) = (setSt 0 (rdSt s 0).1 (getS s (rdSt s 0).2.1 1).1, (getS s (rdSt s 0).2.1 1).2) := by show (setSt 0 (rdSt s 0).1 (nextS s (rdSt s 0).2 (szSt 0)).1, (nextS s (rdSt s 0).2 (szSt 0)).2) = _; rw [step]; rfl
      have hbad := rdSt_bad s (0 + 1)
      rw [hs1] at hbad
      simp only at hbad
      simp (maxSteps := 1000000) (disch := omega) only [rg, gD, Nat.reduceBEq, Nat.reduceEqDiff, Nat.reduceAdd, Int.reduceEq, Int.reduceLT, Int.reduceLE, Int.reduceToNat, reduceIte, reduceCtorEq, Nat.reduceLeDiff, Nat.reduceLT, Nat.reduceMul, Nat.reduceSub]
      refine ⟨_, code_get s _ 1 hs, ?_⟩
      simp (maxSteps := 1000000) (disch := omega) only [rg, gD, Nat.reduceBEq, Nat.reduceEqDiff, Nat.reduceAdd, Int.reduceEq, Int.reduceLT, Int.reduceLE, Int.reduceToNat, reduceIte, reduceCtorEq, Nat.reduceLeDiff, Nat.reduceLT, Nat.reduceMul, Nat.reduceSub, gV, e1, sttV]
      by_cases c : (getS s (rdSt s 0).2.1 1).2.2 = 0
      · simp (maxSteps := 1000000) (disch := omega) only [rg, gD, Nat.reduceBEq, Nat.reduceEqDiff, Nat.reduceAdd, Int.reduceEq, Int.reduceLT, Int.reduceLE, Int.reduceToNat, reduceIte, reduceCtorEq, Nat.reduceLeDiff, Nat.reduceLT, Nat.reduceMul, Nat.reduceSub, gV, e1, sttV, c]
        refine hN _ _ i1 ?_
        rw [hs1]
        refine ⟨by show 2 ≤ q + 1; omega, c, (by simp (disch := omega) only [upd_eq, upd_ne, wo_0, wo_1, wo_2, e0]), (by simp (disch := omega) only [upd_eq, upd_ne, wo_0, wo_1, wo_2, sttV, setSt]), rfl⟩
      · simp (maxSteps := 1000000) (disch := omega) only [rg, gD, Nat.reduceBEq, Nat.reduceEqDiff, Nat.reduceAdd, Int.reduceEq, Int.reduceLT, Int.reduceLE, Int.reduceToNat, reduceIte, reduceCtorEq, Nat.reduceLeDiff, Nat.reduceLT, Nat.reduceMul, Nat.reduceSub, gV, e1, sttV, c, e0, zeroSt]
        refine hR _ _ ?_
        simp (maxSteps := 1000000) (disch := omega) only [rg, gD, Nat.reduceBEq, Nat.reduceEqDiff, Nat.reduceAdd, Int.reduceEq, Int.reduceLT, Int.reduceLE, Int.reduceToNat, reduceIte, reduceCtorEq, Nat.reduceLeDiff, Nat.reduceLT, Nat.reduceMul, Nat.reduceSub]
        (refine fin_x rfl ?_ ?_ <;> simp [pack, lo, loL, V.closed, closedL, mv_closed, stV, hbad c, sttV, zeroSt])
    · have hs1 : rdSt s (1 + 1) = (setSt 1 (rdSt s 1).1 (getS s (rdSt s 1).2.1 1).1, (getS s (rdSt s 1).2.1 1).2) := by show (setSt 1 (rdSt s 1).1 (nextS s (rdSt s 1).2 (szSt 1)).1, (nextS s (rdSt s 1).2 (szSt 1)).2) = _; rw [step]; rfl
      have hbad := rdSt_bad s (1 + 1)
      rw [hs1] at hbad
      simp only at hbad
      simp (maxSteps := 1000000) (disch := omega) only [rg, gD, Nat.reduceBEq, Nat.reduceEqDiff, Nat.reduceAdd, Int.reduceEq, Int.reduceLT, Int.reduceLE, Int.reduceToNat, reduceIte, reduceCtorEq, Nat.reduceLeDiff, Nat.reduceLT, Nat.reduceMul, Nat.reduceSub]
      refine ⟨_, code_get s _ 1 hs, ?_⟩
      simp (maxSteps := 1000000) (disch := omega) only [rg, gD, Nat.reduceBEq, Nat.reduceEqDiff, Nat.reduceAdd, Int.reduceEq, Int.reduceLT, Int.reduceLE, Int.reduceToNat, reduceIte, reduceCtorEq, Nat.reduceLeDiff, Nat.reduceLT, Nat.reduceMul, Nat.reduceSub, gV, e1, sttV]
      by_cases c : (getS s (rdSt s 1).2.1 1).2.2 = 0
      · simp (maxSteps := 1000000) (disch := omega) only [rg, gD, Nat.reduceBEq, Nat.reduceEqDiff, Nat.reduceAdd, Int.reduceEq, Int.reduceLT, Int.reduceLE, Int.reduceToNat, reduceIte, reduceCtorEq, Nat.reduceLeDiff, Nat.reduceLT, Nat.reduceMul, Nat.reduceSub, gV, e1, sttV, c]
        refine hN _ _ i1 ?_
        rw [hs1]
        refine ⟨by show 2 ≤ q + 1; omega, c, (by simp (disch := omega) only [upd_eq, upd_ne, wo_0, wo_1, wo_2, e0]), (by simp (disch := omega) only [upd_eq, upd_ne, wo_0, wo_1, wo_2, sttV, setSt]), rfl⟩
      · simp (maxSteps := 1000000) (disch := omega) only [rg, gD, Nat.reduceBEq, Nat.reduceEqDiff, Nat.reduceAdd, Int.reduceEq, Int.reduceLT, Int.reduceLE, Int.reduceToNat, reduceIte, reduceCtorEq, Nat.reduceLeDiff, Nat.reduceLT, Nat.reduceMul, Nat.reduceSub, gV, e1, sttV, c, e0, zeroSt]
        refine hR _ _ ?_
        simp (maxSteps := 1000000) (disch := omega) only [rg, gD, Nat.reduceBEq, Nat.reduceEqDiff, Nat.reduceAdd, Int.reduceEq, Int.reduceLT, Int.reduceLE, Int.reduceToNat, reduceIte, reduceCtorEq, Nat.reduceLeDiff, Nat.reduceLT, Nat.reduceMul, Nat.reduceSub]
        (refine fin_x rfl ?_ ?_ <;> simp [pack, lo, loL, V.closed, closedL, mv_closed, stV, hbad c, sttV, zeroSt])
    · have hs1 : rdSt s (2 + 1) = (setSt 2 (rdSt s 2).1 (getS s (rdSt s 2).2.1 6).1, (getS s (rdSt s 2).2.1 6).2) := by show (setSt 2 (rdSt s 2).1 (nextS s (rdSt s 2).2 (szSt 2)).1, (nextS s (rdSt s 2).2 (szSt 2)).2) = _; rw [step]; rfl
      have hbad := rdSt_bad s (2 + 1)
      rw [hs1] at hbad
      simp only at hbad
      simp (maxSteps := 1000000) (disch := omega) only [rg, gD, Nat.reduceBEq, Nat.reduceEqDiff, Nat.reduceAdd, Int.reduceEq, Int.reduceLT, Int.reduceLE, Int.reduceToNat, reduceIte, reduceCtorEq, Nat.reduceLeDiff, Nat.reduceLT, Nat.reduceMul, Nat.reduceSub]
      refine ⟨_, code_get s _ 6 hs, ?_⟩
      simp (maxSteps := 1000000) (disch := omega) only [rg, gD, Nat.reduceBEq, Nat.reduceEqDiff, Nat.reduceAdd, Int.reduceEq, Int.reduceLT, Int.reduceLE, Int.reduceToNat, reduceIte, reduceCtorEq, Nat.reduceLeDiff, Nat.reduceLT, Nat.reduceMul, Nat.reduceSub, gV, e1, sttV]
      by_cases c : (getS s (rdSt s 2).2.1 6).2.2 = 0
      · simp (maxSteps := 1000000) (disch := omega) only [rg, gD, Nat.reduceBEq, Nat.reduceEqDiff, Nat.reduceAdd, Int.reduceEq, Int.reduceLT, Int.reduceLE, Int.reduceToNat, reduceIte, reduceCtorEq, Nat.reduceLeDiff, Nat.reduceLT, Nat.reduceMul, Nat.reduceSub, gV, e1, sttV, c]
        refine hN _ _ i1 ?_
        rw [hs1]
        refine ⟨by show 2 ≤ q + 1; omega, c, (by simp (disch := omega) only [upd_eq, upd_ne, wo_0, wo_1, wo_2, e0]), (by simp (disch := omega) only [upd_eq, upd_ne, wo_0, wo_1, wo_2, sttV, setSt]), rfl⟩
      · simp (maxSteps := 1000000) (disch := omega) only [rg, gD, Nat.reduceBEq, Nat.reduceEqDiff, Nat.reduceAdd, Int.reduceEq, Int.reduceLT, Int.reduceLE, Int.reduceToNat, reduceIte, reduceCtorEq, Nat.reduceLeDiff, Nat.reduceLT, Nat.reduceMul, Nat.reduceSub, gV, e1, sttV, c, e0, zeroSt]
        refine hR _ _ ?_
        simp (maxSteps := 1000000) (disch := omega) only [rg, gD, Nat.reduceBEq, Nat.reduceEqDiff, Nat.reduceAdd, Int.reduceEq, Int.reduceLT, Int.reduceLE, Int.reduceToNat, reduceIte, reduceCtorEq, Nat.reduceLeDiff, Nat.reduceLT, Nat.reduceMul, Nat.reduceSub]
        (refine fin_x rfl ?_ ?_ <;> simp [pack, lo, loL, V.closed, closedL, mv_closed, stV, hbad c, sttV, zeroSt])
    · have hs1 : rdSt s (3 + 1) = (setSt 3 (rdSt s 3).1 (getS s (rdSt s 3).2.1 6).1, (getS s (rdSt s 3).2.1 6).2) := by show (setSt 3 (rdSt s 3).1 (nextS s (rdSt s 3).2 (szSt 3)).1, (nextS s (rdSt s 3).2 (szSt 3)).2) = _; rw [step]; rfl
      have hbad := rdSt_bad s (3 + 1)
      rw [hs1] at hbad
      simp only at hbad
      simp (maxSteps := 1000000) (disch := omega) only [rg, gD, Nat.reduceBEq, Nat.reduceEqDiff, Nat.reduceAdd, Int.reduceEq, Int.reduceLT, Int.reduceLE, Int.reduceToNat, reduceIte, reduceCtorEq, Nat.reduceLeDiff, Nat.reduceLT, Nat.reduceMul, Nat.reduceSub]
      refine ⟨_, code_get s _ 6 hs, ?_⟩
      simp (maxSteps := 1000000) (disch := omega) only [rg, gD, Nat.reduceBEq, Nat.reduceEqDiff, Nat.reduceAdd, Int.reduceEq, Int.reduceLT, Int.reduceLE, Int.reduceToNat, reduceIte, reduceCtorEq, Nat.reduceLeDiff, Nat.reduceLT, Nat.reduceMul, Nat.reduceSub, gV, e1, sttV]
      by_cases c : (getS s (rdSt s 3).2.1 6).2.2 = 0
      · simp (maxSteps := 1000000) (disch := omega) only [rg, gD, Nat.reduceBEq, Nat.reduceEqDiff, Nat.reduceAdd, Int.reduceEq, Int.reduceLT, Int.reduceLE, Int.reduceToNat, reduceIte, reduceCtorEq, Nat.reduceLeDiff, Nat.reduceLT, Nat.reduceMul, Nat.reduceSub, gV, e1, sttV, c]
        refine hN _ _ i1 ?_
        rw [hs1]
        refine ⟨by show 2 ≤ q + 1; omega, c, (by simp (disch := omega) only [upd_eq, upd_ne, wo_0, wo_1, wo_2, e0]), (by simp (disch := omega) only [upd_eq, upd_ne, wo_0, wo_1, wo_2, sttV, setSt]), rfl⟩
      · simp (maxSteps := 1000000) (disch := omega) only [rg, gD, Nat.reduceBEq, Nat.reduceEqDiff, Nat.reduceAdd, Int.reduceEq, Int.reduceLT, Int.reduceLE, Int.reduceToNat, reduceIte, reduceCtorEq, Nat.reduceLeDiff, Nat.reduceLT, Nat.reduceMul, Nat.reduceSub, gV, e1, sttV, c, e0, zeroSt]
        refine hR _ _ ?_
        simp (maxSteps := 1000000) (disch := omega) only [rg, gD, Nat.reduceBEq, Nat.reduceEqDiff, Nat.reduceAdd, Int.reduceEq, Int.reduceLT, Int.reduceLE, Int.reduceToNat, reduceIte, reduceCtorEq, Nat.reduceLeDiff, Nat.reduceLT, Nat.reduceMul, Nat.reduceSub]
        (refine fin_x rfl ?_ ?_ <;> simp [pack, lo, loL, V.closed, closedL, mv_closed, stV, hbad c, sttV, zeroSt])
  · obtain rfl : i = 4 := by omega
    refine hX _ _ _ ?_
    simp (maxSteps := 1000000) (disch := omega) only [rg, gD, Nat.reduceBEq, Nat.reduceEqDiff, Nat.reduceAdd, Int.reduceEq, Int.reduceLT, Int.reduceLE, Int.reduceToNat, reduceIte, reduceCtorEq, Nat.reduceLeDiff, Nat.reduceLT, Nat.reduceMul, Nat.reduceSub]
    refine x_frz0 ?_
    simp (maxSteps := 1000000) (disch := omega) only [rg, gD, Nat.reduceBEq, Nat.reduceEqDiff, Nat.reduceAdd, Int.reduceEq, Int.reduceLT, Int.reduceLE, Int.reduceToNat, reduceIte, reduceCtorEq, Nat.reduceLeDiff, Nat.reduceLT, Nat.reduceMul, Nat.reduceSub]
    refine ⟨_, code_cut s _ hs, ?_⟩
    have htx : txtS s (rdSt s 4).2 = cutS s (rdSt s 4).2.1 := by simp [txtS, hz]
    have hrd := stRead_eq s
    rw [htx] at hrd
    have kst := task_stands { (rdSt s 4).1 with result := (cutS s (rdSt s 4).2.1).1 } (Nat.le_trans (cutS_len _ _) (by omega))
    unfold sttV at kst
    by_cases c : (cutS s (rdSt s 4).2.1).2.2 = 0
    · simp (maxSteps := 1000000) (disch := omega) only [rg, gD, Nat.reduceBEq, Nat.reduceEqDiff, Nat.reduceAdd, Int.reduceEq, Int.reduceLT, Int.reduceLE, Int.reduceToNat, reduceIte, reduceCtorEq, Nat.reduceLeDiff, Nat.reduceLT, Nat.reduceMul, Nat.reduceSub, cV, e1, sttV, c]
      refine ⟨fun c2 => ⟨_, kst, ?_⟩, fun c2 => ?_⟩
      · cases hst : standsS { (rdSt s 4).1 with result := (cutS s (rdSt s 4).2.1).1 } with
        | true =>
          simp (maxSteps := 1000000) (disch := omega) only [rg, gD, Nat.reduceBEq, Nat.reduceEqDiff, Nat.reduceAdd, Int.reduceEq, Int.reduceLT, Int.reduceLE, Int.reduceToNat, reduceIte, reduceCtorEq, Nat.reduceLeDiff, Nat.reduceLT, Nat.reduceMul, Nat.reduceSub, e0, sttV, zeroSt]
          (refine fin_x rfl ?_ ?_ <;> simp [pack, lo, loL, V.closed, closedL, mv_closed, stV, stGetS, hrd, c, c2, hst, sttV])
        | false =>
          simp (maxSteps := 1000000) (disch := omega) only [rg, gD, Nat.reduceBEq, Nat.reduceEqDiff, Nat.reduceAdd, Int.reduceEq, Int.reduceLT, Int.reduceLE, Int.reduceToNat, reduceIte, reduceCtorEq, Nat.reduceLeDiff, Nat.reduceLT, Nat.reduceMul, Nat.reduceSub, e0, sttV, zeroSt]
          (refine fin_x rfl ?_ ?_ <;> simp [pack, lo, loL, V.closed, closedL, mv_closed, stV, stGetS, hrd, c, c2, hst, sttV, zeroSt])
      · simp (maxSteps := 1000000) (disch := omega) only [rg, gD, Nat.reduceBEq, Nat.reduceEqDiff, Nat.reduceAdd, Int.reduceEq, Int.reduceLT, Int.reduceLE, Int.reduceToNat, reduceIte, reduceCtorEq, Nat.reduceLeDiff, Nat.reduceLT, Nat.reduceMul, Nat.reduceSub, e0, sttV, zeroSt]
        (refine fin_x rfl ?_ ?_ <;> simp [pack, lo, loL, V.closed, closedL, mv_closed, stV, stGetS, hrd, c, c2, sttV, zeroSt])
    · simp (maxSteps := 1000000) (disch := omega) only [rg, gD, Nat.reduceBEq, Nat.reduceEqDiff, Nat.reduceAdd, Int.reduceEq, Int.reduceLT, Int.reduceLE, Int.reduceToNat, reduceIte, reduceCtorEq, Nat.reduceLeDiff, Nat.reduceLT, Nat.reduceMul, Nat.reduceSub, cV, e1, sttV, c, e0, zeroSt]
      (refine fin_x rfl ?_ ?_ <;> simp [pack, lo, loL, V.closed, closedL, mv_closed, stV, stGetS, hrd, c, sttV, zeroSt])

end Go.Proofs.Ytjlpmndipceboaa.Ev
end
section
set_option linter.unusedSimpArgs false
set_option linter.unusedVariables false
set_option maxRecDepth 10000
namespace Go.Proofs.Ytjlpmndipceboaa.Ev
open Go

def ansNumS (a : Ans) : Bool := decide (0 ≤ a.why ∧ a.why ≤ 65535 ∧ a.key.length ≤ 255 ∧ 0 ≤ a.task ∧ a.task ≤ 255 ∧ 0 ≤ a.token ∧ a.token < 281474976710656 ∧ 0 ≤ a.is ∧ a.is ≤ 255 ∧ a.states.length ≤ 255)
def ansRightS (a : Ans) : Bool := ansNumS a && a.states.all standsS
def ansHead (a : Ans) : Str := (((((putS a.why 2).1 ++ (textS a.key).1) ++ (putS a.task 1).1) ++ (putS a.token 6).1) ++ (putS a.is 1).1) ++ (putS a.states.length 1).1
def stsB (l : List Stt) : Str := (l.map fun s => (textS (stBytes s)).1).flatten
def answerS (a : Ans) : Str × Int := if ansRightS a = true then (sealS (ansHead a ++ stsB a.states), 0) else ([], 1)
theorem stBytes_len (s : Stt) : (stBytes s).length ≤ 26 + s.result.length := by
  have p1 := putS_len s.is 1
  have p2 := putS_len s.tried 1
  have p3 := putS_len s.due 6
  have p4 := putS_len s.token 6
  have p5 := textS_len s.result
  simp [stBytes]; omega
theorem stands_len {s : Stt} (h : standsS s = true) : s.result.length ≤ 16 := by
  simp only [standsS, Bool.and_eq_true, decide_eq_true_eq] at h; omega
theorem stsB_succ {l : List Stt} {i : Nat} (h : i < l.length) : stsB (l.take (i + 1)) = stsB (l.take i) ++ (textS (stBytes l[i])).1 := by
  rw [List.take_succ_eq_append_getElem h, stsB, List.map_append, List.flatten_append]; simp [stsB]
theorem stsB_len : ∀ {l : List Stt}, (∀ s ∈ l, standsS s = true) → (stsB l).length ≤ 44 * l.length
  | [], _ => by simp [stsB]
  | s :: l, h => by
    have h1 := stands_len (h s (by simp))
    have h2 := stBytes_len s
    have h3 := textS_len (stBytes s)
    have ih := stsB_len (l := l) fun x hx => h x (by simp [hx])
    have e : stsB (s :: l) = (textS (stBytes s)).1 ++ stsB l := rfl
    rw [e, List.length_append, List.length_cons]; omega
def okSt (s : Stt) : Prop := s.result.length ≤ 4611686018427387904 ∧ i64S s
def okAns (a : Ans) : Prop := a.key.length ≤ 1000000 ∧ a.states.length ≤ 1000000 ∧ ∀ s ∈ a.states, okSt s
theorem ansHead_len (a : Ans) : (ansHead a).length ≤ 40 + a.key.length := by
  have p1 := putS_len a.why 2
  have p2 := putS_len a.task 1
  have p3 := putS_len a.token 6
  have p4 := putS_len a.is 1
  have p5 := putS_len a.states.length 1
  have p6 := textS_len a.key
  simp [ansHead]; omega

theorem ref_answer (a : Ans) (ha : okAns a) : PCall Try.prog 17 [ansV a] (sV (answerS a)) := by
  refine en17 (by simp) (by simp [closedL, V.closed, ansV_closed]) ?_
  obtain ⟨hk, hl, hst⟩ := ha
  have no : ansNumS a = false → answerS a = ([], 1) := fun h => by simp [answerS, ansRightS, h]
  simp (maxSteps := 1000000) (disch := omega) only [rg, gD, Nat.reduceBEq, Nat.reduceEqDiff, Nat.reduceAdd, Int.reduceEq, Int.reduceLT, Int.reduceLE, Int.reduceToNat, reduceIte, reduceCtorEq, Nat.reduceLeDiff, Nat.reduceLT, Nat.reduceMul, Nat.reduceSub, c17, ansV, sttsV]
  by_cases c1 : a.why < 0
  · simp (maxSteps := 1000000) (disch := omega) only [rg, gD, Nat.reduceBEq, Nat.reduceEqDiff, Nat.reduceAdd, Int.reduceEq, Int.reduceLT, Int.reduceLE, Int.reduceToNat, reduceIte, reduceCtorEq, Nat.reduceLeDiff, Nat.reduceLT, Nat.reduceMul, Nat.reduceSub, c1]
    (refine fin_x rfl ?_ ?_ <;> simp [pack, lo, loL, V.closed, closedL, mv_closed, sV, no (by simp [ansNumS]; omega)])
  by_cases c2 : 65535 < a.why
  · simp (maxSteps := 1000000) (disch := omega) only [rg, gD, Nat.reduceBEq, Nat.reduceEqDiff, Nat.reduceAdd, Int.reduceEq, Int.reduceLT, Int.reduceLE, Int.reduceToNat, reduceIte, reduceCtorEq, Nat.reduceLeDiff, Nat.reduceLT, Nat.reduceMul, Nat.reduceSub, c1, c2]
    (refine fin_x rfl ?_ ?_ <;> simp [pack, lo, loL, V.closed, closedL, mv_closed, sV, no (by simp [ansNumS]; omega)])
  by_cases c3 : (255 : Int) < a.key.length
  · simp (maxSteps := 1000000) (disch := omega) only [rg, gD, Nat.reduceBEq, Nat.reduceEqDiff, Nat.reduceAdd, Int.reduceEq, Int.reduceLT, Int.reduceLE, Int.reduceToNat, reduceIte, reduceCtorEq, Nat.reduceLeDiff, Nat.reduceLT, Nat.reduceMul, Nat.reduceSub, c1, c2, c3]
    (refine fin_x rfl ?_ ?_ <;> simp [pack, lo, loL, V.closed, closedL, mv_closed, sV, no (by simp [ansNumS]; omega)])
  by_cases c4 : a.task < 0
  · simp (maxSteps := 1000000) (disch := omega) only [rg, gD, Nat.reduceBEq, Nat.reduceEqDiff, Nat.reduceAdd, Int.reduceEq, Int.reduceLT, Int.reduceLE, Int.reduceToNat, reduceIte, reduceCtorEq, Nat.reduceLeDiff, Nat.reduceLT, Nat.reduceMul, Nat.reduceSub, c1, c2, c3, c4]
    (refine fin_x rfl ?_ ?_ <;> simp [pack, lo, loL, V.closed, closedL, mv_closed, sV, no (by simp [ansNumS]; omega)])
  by_cases c5 : 255 < a.task
  · simp (maxSteps := 1000000) (disch := omega) only [rg, gD, Nat.reduceBEq, Nat.reduceEqDiff, Nat.reduceAdd, Int.reduceEq, Int.reduceLT, Int.reduceLE, Int.reduceToNat, reduceIte, reduceCtorEq, Nat.reduceLeDiff, Nat.reduceLT, Nat.reduceMul, Nat.reduceSub, c1, c2, c3, c4, c5]
    (refine fin_x rfl ?_ ?_ <;> simp [pack, lo, loL, V.closed, closedL, mv_closed, sV, no (by simp [ansNumS]; omega)])
  simp (maxSteps := 1000000) (disch := omega) only [rg, gD, Nat.reduceBEq, Nat.reduceEqDiff, Nat.reduceAdd, Int.reduceEq, Int.reduceLT, Int.reduceLE, Int.reduceToNat, reduceIte, reduceCtorEq, Nat.reduceLeDiff, Nat.reduceLT, Nat.reduceMul, Nat.reduceSub, c1, c2, c3, c4, c5]
  refine ⟨_, ref23_six a.token, ?_⟩
  by_cases c6 : 0 ≤ a.token ∧ a.token < 281474976710656
  case neg =>
    rw [decide_eq_false c6]
    simp (maxSteps := 1000000) (disch := omega) only [rg, gD, Nat.reduceBEq, Nat.reduceEqDiff, Nat.reduceAdd, Int.reduceEq, Int.reduceLT, Int.reduceLE, Int.reduceToNat, reduceIte, reduceCtorEq, Nat.reduceLeDiff, Nat.reduceLT, Nat.reduceMul, Nat.reduceSub]
    (refine fin_x rfl ?_ ?_ <;> simp [pack, lo, loL, V.closed, closedL, mv_closed, sV, no (by simp [ansNumS]; omega)])
  rw [decide_eq_true c6]
  by_cases c7 : a.is < 0
  · simp (maxSteps := 1000000) (disch := omega) only [rg, gD, Nat.reduceBEq, Nat.reduceEqDiff, Nat.reduceAdd, Int.reduceEq, Int.reduceLT, Int.reduceLE, Int.reduceToNat, reduceIte, reduceCtorEq, Nat.reduceLeDiff, Nat.reduceLT, Nat.reduceMul, Nat.reduceSub, c7]
    (refine fin_x rfl ?_ ?_ <;> simp [pack, lo, loL, V.closed, closedL, mv_closed, sV, no (by simp [ansNumS]; omega)])
  by_cases c8 : 255 < a.is
  · simp (maxSteps := 1000000) (disch := omega) only [rg, gD, Nat.reduceBEq, Nat.reduceEqDiff, Nat.reduceAdd, Int.reduceEq, Int.reduceLT, Int.reduceLE, Int.reduceToNat, reduceIte, reduceCtorEq, Nat.reduceLeDiff, Nat.reduceLT, Nat.reduceMul, Nat.reduceSub, c7, c8]
    (refine fin_x rfl ?_ ?_ <;> simp [pack, lo, loL, V.closed, closedL, mv_closed, sV, no (by simp [ansNumS]; omega)])
  by_cases c9 : (255 : Int) < a.states.length
  · simp (maxSteps := 1000000) (disch := omega) only [rg, gD, Nat.reduceBEq, Nat.reduceEqDiff, Nat.reduceAdd, Int.reduceEq, Int.reduceLT, Int.reduceLE, Int.reduceToNat, reduceIte, reduceCtorEq, Nat.reduceLeDiff, Nat.reduceLT, Nat.reduceMul, Nat.reduceSub, c7, c8, c9]
    (refine fin_x rfl ?_ ?_ <;> simp [pack, lo, loL, V.closed, closedL, mv_closed, sV, no (by simp [ansNumS]; omega)])
  have yes : ansNumS a = true := by simp [ansNumS]; omega
  have hA : ansRightS a = a.states.all standsS := by simp [ansRightS, yes]
  simp (maxSteps := 1000000) (disch := omega) only [rg, gD, Nat.reduceBEq, Nat.reduceEqDiff, Nat.reduceAdd, Int.reduceEq, Int.reduceLT, Int.reduceLE, Int.reduceToNat, reduceIte, reduceCtorEq, Nat.reduceLeDiff, Nat.reduceLT, Nat.reduceMul, Nat.reduceSub, c7, c8, c9]
  refine ⟨_, ref23_number a.why 2 (by omega), ?_⟩
  simp (maxSteps := 1000000) (disch := omega) only [rg, gD, Nat.reduceBEq, Nat.reduceEqDiff, Nat.reduceAdd, Int.reduceEq, Int.reduceLT, Int.reduceLE, Int.reduceToNat, reduceIte, reduceCtorEq, Nat.reduceLeDiff, Nat.reduceLT, Nat.reduceMul, Nat.reduceSub]
  refine ⟨_, ref23_text a.key (by omega), ?_⟩
  have p1 := putS_len a.why 2
  have p2 := putS_len a.task 1
  have p3 := putS_len a.token 6
  have p4 := putS_len a.is 1
  have p5 := putS_len a.states.length 1
  have p6 := textS_len a.key
  simp (maxSteps := 1000000) (disch := omega) only [rg, gD, Nat.reduceBEq, Nat.reduceEqDiff, Nat.reduceAdd, Int.reduceEq, Int.reduceLT, Int.reduceLE, Int.reduceToNat, reduceIte, reduceCtorEq, Nat.reduceLeDiff, Nat.reduceLT, Nat.reduceMul, Nat.reduceSub, List.length_append]
  refine ⟨by omega, _, ref23_number a.task 1 (by omega), ?_⟩
  simp (maxSteps := 1000000) (disch := omega) only [rg, gD, Nat.reduceBEq, Nat.reduceEqDiff, Nat.reduceAdd, Int.reduceEq, Int.reduceLT, Int.reduceLE, Int.reduceToNat, reduceIte, reduceCtorEq, Nat.reduceLeDiff, Nat.reduceLT, Nat.reduceMul, Nat.reduceSub, List.length_append]
  refine ⟨by omega, _, ref23_number a.token 6 (by omega), ?_⟩
  simp (maxSteps := 1000000) (disch := omega) only [rg, gD, Nat.reduceBEq, Nat.reduceEqDiff, Nat.reduceAdd, Int.reduceEq, Int.reduceLT, Int.reduceLE, Int.reduceToNat, reduceIte, reduceCtorEq, Nat.reduceLeDiff, Nat.reduceLT, Nat.reduceMul, Nat.reduceSub, List.length_append]
  refine ⟨by omega, _, ref23_number a.is 1 (by omega), ?_⟩
  simp (maxSteps := 1000000) (disch := omega) only [rg, gD, Nat.reduceBEq, Nat.reduceEqDiff, Nat.reduceAdd, Int.reduceEq, Int.reduceLT, Int.reduceLE, Int.reduceToNat, reduceIte, reduceCtorEq, Nat.reduceLeDiff, Nat.reduceLT, Nat.reduceMul, Nat.reduceSub, List.length_append]
  refine ⟨by omega, _, ref23_number a.states.length 1 (by omega), ?_⟩
  simp (maxSteps := 1000000) (disch := omega) only [rg, gD, Nat.reduceBEq, Nat.reduceEqDiff, Nat.reduceAdd, Int.reduceEq, Int.reduceLT, Int.reduceLE, Int.reduceToNat, reduceIte, reduceCtorEq, Nat.reduceLeDiff, Nat.reduceLT, Nat.reduceMul, Nat.reduceSub, List.length_append]
  have hhd := ansHead_len a
  refine ⟨by omega, ?_⟩
  refine x_it a.states.length (fun i σ H => (∀ s ∈ a.states.take i, standsS s = true) ∧ σ = [(4, .str (ansHead a ++ stsB (a.states.take i))), (78, sttsV a.states), (79, .int .i64 a.states.length), (80, .int .i64 i)]) ⟨by simp, by simp [stsB, ansHead, sttsV]⟩ ?_
  rintro T i σ ⟨q, m⟩ hi ⟨hs, rfl⟩ hN hX hR
  simp (maxSteps := 1000000) (disch := omega) only [rg, gD, Nat.reduceBEq, Nat.reduceEqDiff, Nat.reduceAdd, Int.reduceEq, Int.reduceLT, Int.reduceLE, Int.reduceToNat, reduceIte, reduceCtorEq, Nat.reduceLeDiff, Nat.reduceLT, Nat.reduceMul, Nat.reduceSub, sttsV]
  refine ⟨fun h => ?_, fun h => ?_⟩
  · have i1 : i < a.states.length := by omega
    obtain ⟨g1, g2⟩ := hst _ (List.getElem_mem i1)
    have kst := ref_stands a.states[i] g1
    have hsl := stsB_len hs
    rw [List.length_take] at hsl
    unfold sttV at kst
    simp (maxSteps := 1000000) (disch := omega) only [rg, gD, Nat.reduceBEq, Nat.reduceEqDiff, Nat.reduceAdd, Int.reduceEq, Int.reduceLT, Int.reduceLE, Int.reduceToNat, reduceIte, reduceCtorEq, Nat.reduceLeDiff, Nat.reduceLT, Nat.reduceMul, Nat.reduceSub, sttV]
    refine ⟨_, kst, ?_⟩
    cases hc : standsS a.states[i] with
    | false =>
      simp (maxSteps := 1000000) (disch := omega) only [rg, gD, Nat.reduceBEq, Nat.reduceEqDiff, Nat.reduceAdd, Int.reduceEq, Int.reduceLT, Int.reduceLE, Int.reduceToNat, reduceIte, reduceCtorEq, Nat.reduceLeDiff, Nat.reduceLT, Nat.reduceMul, Nat.reduceSub]
      refine hR _ _ ?_
      simp (maxSteps := 1000000) (disch := omega) only [rg, gD, Nat.reduceBEq, Nat.reduceEqDiff, Nat.reduceAdd, Int.reduceEq, Int.reduceLT, Int.reduceLE, Int.reduceToNat, reduceIte, reduceCtorEq, Nat.reduceLeDiff, Nat.reduceLT, Nat.reduceMul, Nat.reduceSub]
      have : ansRightS a = false := by
        rw [hA]; exact List.all_eq_false.2 ⟨_, List.getElem_mem i1, by simp [hc]⟩
      (refine fin_x rfl ?_ ?_ <;> simp [pack, lo, loL, V.closed, closedL, mv_closed, sV, answerS, this])
    | true =>
      have h1 := stands_len hc
      have kpt := ref_stput a.states[i] (by omega) g2
      unfold sttV at kpt
      have h2 := stBytes_len a.states[i]
      have h3 := textS_len (stBytes a.states[i])
      simp (maxSteps := 1000000) (disch := omega) only [rg, gD, Nat.reduceBEq, Nat.reduceEqDiff, Nat.reduceAdd, Int.reduceEq, Int.reduceLT, Int.reduceLE, Int.reduceToNat, reduceIte, reduceCtorEq, Nat.reduceLeDiff, Nat.reduceLT, Nat.reduceMul, Nat.reduceSub]
      refine ⟨_, kpt, ?_⟩
      simp (maxSteps := 1000000) (disch := omega) only [rg, gD, Nat.reduceBEq, Nat.reduceEqDiff, Nat.reduceAdd, Int.reduceEq, Int.reduceLT, Int.reduceLE, Int.reduceToNat, reduceIte, reduceCtorEq, Nat.reduceLeDiff, Nat.reduceLT, Nat.reduceMul, Nat.reduceSub]
      refine ⟨_, ref23_text (stBytes a.states[i]) (by omega), ?_⟩
      simp (maxSteps := 1000000) (disch := omega) only [rg, gD, Nat.reduceBEq, Nat.reduceEqDiff, Nat.reduceAdd, Int.reduceEq, Int.reduceLT, Int.reduceLE, Int.reduceToNat, reduceIte, reduceCtorEq, Nat.reduceLeDiff, Nat.reduceLT, Nat.reduceMul, Nat.reduceSub, List.length_append]
      refine ⟨by omega, ?_⟩
      refine hN _ _ i1 ?_
      refine ⟨fun s hm => ?_, ?_⟩
      · rw [List.take_succ_eq_append_getElem i1] at hm
        rcases List.mem_append.1 hm with hm | hm
        · exact hs s hm
        · simp at hm; subst hm; exact hc
      · rw [stsB_succ i1, List.append_assoc]; rfl
  · obtain rfl : i = a.states.length := by omega
    rw [List.take_length] at hs ⊢
    have hsl := stsB_len hs
    refine hX _ _ _ ?_
    simp (maxSteps := 1000000) (disch := omega) only [rg, gD, Nat.reduceBEq, Nat.reduceEqDiff, Nat.reduceAdd, Int.reduceEq, Int.reduceLT, Int.reduceLE, Int.reduceToNat, reduceIte, reduceCtorEq, Nat.reduceLeDiff, Nat.reduceLT, Nat.reduceMul, Nat.reduceSub]
    refine x_frz0 ?_
    simp (maxSteps := 1000000) (disch := omega) only [rg, gD, Nat.reduceBEq, Nat.reduceEqDiff, Nat.reduceAdd, Int.reduceEq, Int.reduceLT, Int.reduceLE, Int.reduceToNat, reduceIte, reduceCtorEq, Nat.reduceLeDiff, Nat.reduceLT, Nat.reduceMul, Nat.reduceSub]
    refine ⟨_, ref_seal _ (by simp only [List.length_append]; omega), ?_⟩
    simp (maxSteps := 1000000) (disch := omega) only [rg, gD, Nat.reduceBEq, Nat.reduceEqDiff, Nat.reduceAdd, Int.reduceEq, Int.reduceLT, Int.reduceLE, Int.reduceToNat, reduceIte, reduceCtorEq, Nat.reduceLeDiff, Nat.reduceLT, Nat.reduceMul, Nat.reduceSub]
    have : ansRightS a = true := by rw [hA]; exact List.all_eq_true.2 hs
    (refine fin_x rfl ?_ ?_ <;> simp [pack, lo, loL, V.closed, closedL, mv_closed, sV, answerS, this])

end Go.Proofs.Ytjlpmndipceboaa.Ev
end
section
set_option linter.unusedSimpArgs false
set_option linter.unusedVariables false
set_option maxRecDepth 10000
namespace Go.Proofs.Ytjlpmndipceboaa.Ev
open Go

theorem putS_ok {n k : Int} : (putS n k).2 = 0 ↔ (1 ≤ k ∧ k ≤ 6 ∧ 0 ≤ n ∧ n < 256 ^ k.toNat) := by
  unfold putS; split
  · simp only; constructor
    · intro h; omega
    · intro h; omega
  · simp only [true_iff]; omega
def wSt (r : Str × Bool) (s : Stt) : Str × Bool := ((wTxt r (stPutS s).1).1, (wTxt r (stPutS s).1).2 || !decide ((stPutS s).2 = 0))
def wHead (a : Ans) : Str × Bool := wNum (wNum (wNum (wNum (wTxt (wNum ([], false) a.why 2) a.key) a.task 1) a.token 6) a.is 1) a.states.length 1
theorem wHead_eq (a : Ans) : wHead a = (ansHead a, !ansNumS a) := by
  have e1 : (wHead a).1 = ansHead a := by simp [wHead, wNum, wTxt, ansHead]
  have t : (textS a.key).2 = 0 ↔ a.key.length ≤ 65535 := by unfold textS; split <;> simp <;> omega
  have e2 : (wHead a).2 = !ansNumS a := by
    have : (wHead a).2 = false ↔ ansNumS a = true := by
      simp only [wHead, wNum, wTxt, Bool.or_eq_false_iff, Bool.not_eq_false', decide_eq_true_eq, decide_eq_false_iff_not, putS_ok, t, ansNumS, true_and]
      have q1 : (256 : Int) ^ (2 : Int).toNat = 65536 := rfl
      have q2 : (256 : Int) ^ (1 : Int).toNat = 256 := rfl
      have q3 : (256 : Int) ^ (6 : Int).toNat = 281474976710656 := rfl
      rw [q1, q2, q3]
      omega
    cases h1 : (wHead a).2 <;> cases h2 : ansNumS a <;> simp [h1, h2] at this ⊢
  exact Prod.ext e1 e2
theorem stPutS_len (s : Stt) : (stPutS s).1.length ≤ 42 := by
  unfold stPutS; split
  · next h => have h1 := stands_len h; have h2 := stBytes_len s; simp only; omega
  · simp
theorem wSt_len (r : Str × Bool) (s : Stt) : (wSt r s).1.length ≤ r.1.length + 44 := by
  have h1 := stPutS_len s
  have h2 := textS_len (stPutS s).1
  simp [wSt, wTxt]; omega
theorem wSts_len : ∀ (l : List Stt) (r : Str × Bool), (l.foldl wSt r).1.length ≤ r.1.length + 44 * l.length
  | [], r => by simp
  | s :: l, r => by
    have h1 := wSts_len l (wSt r s)
    have h2 := wSt_len r s
    simp only [List.foldl_cons, List.length_cons]; omega
theorem wSts_bad : ∀ (l : List Stt) (r : Str × Bool), r.2 = true → (l.foldl wSt r).2 = true
  | [], r, h => h
  | s :: l, r, h => wSts_bad l (wSt r s) (by simp [wSt, wTxt, h])
theorem wSts_eq : ∀ (l : List Stt) (r : Str × Bool), (l.all standsS = true → l.foldl wSt r = (r.1 ++ stsB l, r.2)) ∧ (l.all standsS = false → (l.foldl wSt r).2 = true)
  | [], r => ⟨fun _ => by simp [stsB], fun h => by simp at h⟩
  | s :: l, r => by
    cases hs : standsS s with
    | true =>
      have h1 := stands_len hs
      have h2 := stBytes_len s
      have e : stPutS s = (stBytes s, 0) := by simp [stPutS, hs]
      have et : textS (stBytes s) = (beS 2 (stBytes s).length ++ stBytes s, 0) := textS_in (by omega)
      have ew : wSt r s = (r.1 ++ (textS (stBytes s)).1, r.2) := by
        simp only [wSt, e, wTxt, et]
        simp; omega
      have := wSts_eq l (wSt r s)
      rw [List.foldl_cons, List.all_cons, hs, Bool.true_and]
      refine ⟨fun h => ?_, this.2⟩
      rw [this.1 h, ew]
      simp [stsB]
    | false =>
      refine ⟨fun h => by simp [hs] at h, fun _ => wSts_bad l _ ?_⟩
      simp [wSt, stPutS, hs]
theorem ans_end (a : Ans) (h : ansNumS a = true) : wEnd (a.states.foldl wSt (wHead a)) = answerS a := by
  rw [wHead_eq, h]
  cases hc : a.states.all standsS with
  | true =>
    rw [(wSts_eq a.states _).1 hc]
    simp [wEnd, answerS, ansRightS, h, hc]
  | false =>
    have := (wSts_eq a.states (ansHead a, !true)).2 hc
    simp only [wEnd, this, if_true]
    simp [answerS, ansRightS, h, hc]

def i64A (a : Ans) : Prop := a.why ≤ 9223372036854775807 ∧ a.task ≤ 9223372036854775807 ∧ a.token ≤ 9223372036854775807 ∧ a.is ≤ 9223372036854775807

theorem frame_answer (a : Ans) (ha : okAns a) (hi : i64A a) : PCall Try.prog 16 [ansV a] (sV (answerS a)) := by
  refine en16 (by simp) (by simp [closedL, V.closed, ansV_closed]) ?_
  obtain ⟨hk, hl, hst⟩ := ha
  obtain ⟨i1, i2, i3, i4⟩ := hi
  have no : ansNumS a = false → answerS a = ([], 1) := fun h => by simp [answerS, ansRightS, h]
  simp (maxSteps := 1000000) (disch := omega) only [rg, gD, Nat.reduceBEq, Nat.reduceEqDiff, Nat.reduceAdd, Int.reduceEq, Int.reduceLT, Int.reduceLE, Int.reduceToNat, reduceIte, reduceCtorEq, Nat.reduceLeDiff, Nat.reduceLT, Nat.reduceMul, Nat.reduceSub, c16, ansV, sttsV]
  have wl : ∀ (r : Str × Bool) (n k : Int), (wNum r n k).1.length ≤ r.1.length + 6 := fun r n k => by have := putS_len n k; simp only [wNum, List.length_append]; omega
  have tl : ∀ (r : Str × Bool) (t : Str), (wTxt r t).1.length ≤ r.1.length + t.length + 2 := fun r t => by have := textS_len t; simp only [wTxt, List.length_append]; omega
  refine ⟨_, _, _, _, w_num _ 1 ([], false) a.why 2 (by simp) i1 (by simp) (by simp (disch := omega) only [upd_eq, upd_ne, wo_0, wo_1, wo_2, wrV]), ?_⟩
  have b1 := wl ([], false) a.why 2
  simp (maxSteps := 1000000) (disch := omega) only [rg, gD, Nat.reduceBEq, Nat.reduceEqDiff, Nat.reduceAdd, Int.reduceEq, Int.reduceLT, Int.reduceLE, Int.reduceToNat, reduceIte, reduceCtorEq, Nat.reduceLeDiff, Nat.reduceLT, Nat.reduceMul, Nat.reduceSub]
  generalize hr1 : wNum ([], false) a.why 2 = r1 at b1
  refine ⟨_, _, _, _, w_text _ 1 r1 a.key (by simp at b1; omega) (by omega) (by simp) (by simp (disch := omega) only [upd_eq, upd_ne, wo_0, wo_1, wo_2]), ?_⟩
  have b2 := tl r1 a.key
  simp (maxSteps := 1000000) (disch := omega) only [rg, gD, Nat.reduceBEq, Nat.reduceEqDiff, Nat.reduceAdd, Int.reduceEq, Int.reduceLT, Int.reduceLE, Int.reduceToNat, reduceIte, reduceCtorEq, Nat.reduceLeDiff, Nat.reduceLT, Nat.reduceMul, Nat.reduceSub]
  generalize hr2 : wTxt r1 a.key = r2 at b2
  refine ⟨_, _, _, _, w_num _ 1 r2 a.task 1 (by simp at b1; omega) i2 (by simp) (by simp (disch := omega) only [upd_eq, upd_ne, wo_0, wo_1, wo_2]), ?_⟩
  have b3 := wl r2 a.task 1
  simp (maxSteps := 1000000) (disch := omega) only [rg, gD, Nat.reduceBEq, Nat.reduceEqDiff, Nat.reduceAdd, Int.reduceEq, Int.reduceLT, Int.reduceLE, Int.reduceToNat, reduceIte, reduceCtorEq, Nat.reduceLeDiff, Nat.reduceLT, Nat.reduceMul, Nat.reduceSub]
  generalize hr3 : wNum r2 a.task 1 = r3 at b3
  refine ⟨_, _, _, _, w_num _ 1 r3 a.token 6 (by simp at b1; omega) i3 (by simp) (by simp (disch := omega) only [upd_eq, upd_ne, wo_0, wo_1, wo_2]), ?_⟩
  have b4 := wl r3 a.token 6
  simp (maxSteps := 1000000) (disch := omega) only [rg, gD, Nat.reduceBEq, Nat.reduceEqDiff, Nat.reduceAdd, Int.reduceEq, Int.reduceLT, Int.reduceLE, Int.reduceToNat, reduceIte, reduceCtorEq, Nat.reduceLeDiff, Nat.reduceLT, Nat.reduceMul, Nat.reduceSub]
  generalize hr4 : wNum r3 a.token 6 = r4 at b4
  refine ⟨_, _, _, _, w_num _ 1 r4 a.is 1 (by simp at b1; omega) i4 (by simp) (by simp (disch := omega) only [upd_eq, upd_ne, wo_0, wo_1, wo_2]), ?_⟩
  have b5 := wl r4 a.is 1
  simp (maxSteps := 1000000) (disch := omega) only [rg, gD, Nat.reduceBEq, Nat.reduceEqDiff, Nat.reduceAdd, Int.reduceEq, Int.reduceLT, Int.reduceLE, Int.reduceToNat, reduceIte, reduceCtorEq, Nat.reduceLeDiff, Nat.reduceLT, Nat.reduceMul, Nat.reduceSub]
  generalize hr5 : wNum r4 a.is 1 = r5 at b5
  refine ⟨_, _, _, _, w_num _ 1 r5 a.states.length 1 (by simp at b1; omega) (by omega) (by simp) (by simp (disch := omega) only [upd_eq, upd_ne, wo_0, wo_1, wo_2]), ?_⟩
  have b6 := wl r5 a.states.length 1
  simp (maxSteps := 1000000) (disch := omega) only [rg, gD, Nat.reduceBEq, Nat.reduceEqDiff, Nat.reduceAdd, Int.reduceEq, Int.reduceLT, Int.reduceLE, Int.reduceToNat, reduceIte, reduceCtorEq, Nat.reduceLeDiff, Nat.reduceLT, Nat.reduceMul, Nat.reduceSub]
  generalize hr6 : wNum r5 a.states.length 1 = r6 at b6
  have hw : wHead a = r6 := by simp only [wHead, hr1, hr2, hr3, hr4, hr5, hr6]
  have hl6 : r6.1.length ≤ 1001000 := by simp at b1; omega
  have h62 : r6.2 = !ansNumS a := by rw [← hw, wHead_eq]
  cases hn : ansNumS a with
  | false =>
    rw [hn] at h62
    simp (maxSteps := 1000000) (disch := omega) only [rg, gD, Nat.reduceBEq, Nat.reduceEqDiff, Nat.reduceAdd, Int.reduceEq, Int.reduceLT, Int.reduceLE, Int.reduceToNat, reduceIte, reduceCtorEq, Nat.reduceLeDiff, Nat.reduceLT, Nat.reduceMul, Nat.reduceSub, wrV, h62]
    (refine fin_x rfl ?_ ?_ <;> simp [pack, lo, loL, V.closed, closedL, mv_closed, sV, no hn])
  | true =>
    have hlst : a.states.length ≤ 255 := by simp only [ansNumS, decide_eq_true_eq] at hn; omega
    have hend := ans_end a hn
    rw [hw] at hend
    rw [hn] at h62
    simp (maxSteps := 1000000) (disch := omega) only [rg, gD, Nat.reduceBEq, Nat.reduceEqDiff, Nat.reduceAdd, Int.reduceEq, Int.reduceLT, Int.reduceLE, Int.reduceToNat, reduceIte, reduceCtorEq, Nat.reduceLeDiff, Nat.reduceLT, Nat.reduceMul, Nat.reduceSub, wrV, h62]
    refine x_it a.states.length (fun i σ H => 2 ≤ H.n ∧ H.m 1 = some (wrV ((a.states.take i).foldl wSt r6)) ∧ σ = [(4, .ptr 1 0 0), (41, sttsV a.states), (42, .int .i64 a.states.length), (43, .int .i64 i)]) ⟨Nat.le_refl 2, (by simp (disch := omega) only [upd_eq, upd_ne, wo_0, wo_1, wo_2, wrV, h62, List.take_zero, List.foldl_nil, Bool.not_true]), rfl⟩ ?_
    rintro T i σ ⟨q, m⟩ hi ⟨hq, e1, rfl⟩ hN hX hR
    simp only at hq e1
    simp (maxSteps := 1000000) (disch := omega) only [rg, gD, Nat.reduceBEq, Nat.reduceEqDiff, Nat.reduceAdd, Int.reduceEq, Int.reduceLT, Int.reduceLE, Int.reduceToNat, reduceIte, reduceCtorEq, Nat.reduceLeDiff, Nat.reduceLT, Nat.reduceMul, Nat.reduceSub, sttsV]
    refine ⟨fun h => ?_, fun h => ?_⟩
    · have i1' : i < a.states.length := by omega
      obtain ⟨g1, g2⟩ := hst _ (List.getElem_mem i1')
      have kpt := task_put a.states[i] g1 g2
      have hpl := stPutS_len a.states[i]
      have hll := wSts_len (a.states.take i) r6
      have hlt : (a.states.take i).length ≤ 255 := by rw [List.length_take]; omega
      have hstep : (a.states.take (i + 1)).foldl wSt r6 = wSt ((a.states.take i).foldl wSt r6) a.states[i] := by
        rw [List.take_succ_eq_append_getElem i1', List.foldl_append]; rfl
      generalize (a.states.take i).foldl wSt r6 = r at e1 hll hstep
      have hq1 : 1 ≠ q := by omega
      unfold sttV at kpt
      simp (maxSteps := 1000000) (disch := omega) only [rg, gD, Nat.reduceBEq, Nat.reduceEqDiff, Nat.reduceAdd, Int.reduceEq, Int.reduceLT, Int.reduceLE, Int.reduceToNat, reduceIte, reduceCtorEq, Nat.reduceLeDiff, Nat.reduceLT, Nat.reduceMul, Nat.reduceSub, sttV]
      refine ⟨_, kpt, ?_⟩
      simp (maxSteps := 1000000) (disch := omega) only [rg, gD, Nat.reduceBEq, Nat.reduceEqDiff, Nat.reduceAdd, Int.reduceEq, Int.reduceLT, Int.reduceLE, Int.reduceToNat, reduceIte, reduceCtorEq, Nat.reduceLeDiff, Nat.reduceLT, Nat.reduceMul, Nat.reduceSub, sV]
      refine ⟨_, _, _, _, w_text _ 1 r (stPutS a.states[i]).1 (by omega) (by omega) (by show 1 < q + 1; omega) (by simp (disch := omega) only [upd_eq, upd_ne, wo_0, wo_1, wo_2, e1]), ?_⟩
      by_cases c : (stPutS a.states[i]).2 = 0
      · cases hb : (wTxt r (stPutS a.states[i]).1).2 with
        | true =>
          simp (maxSteps := 1000000) (disch := omega) only [rg, gD, Nat.reduceBEq, Nat.reduceEqDiff, Nat.reduceAdd, Int.reduceEq, Int.reduceLT, Int.reduceLE, Int.reduceToNat, reduceIte, reduceCtorEq, Nat.reduceLeDiff, Nat.reduceLT, Nat.reduceMul, Nat.reduceSub, wrV, hb, c]
          refine hN _ _ i1' ?_
          rw [hstep]
          refine ⟨by show 2 ≤ q + 1; omega, (by simp (disch := omega) only [upd_eq, upd_ne, wo_0, wo_1, wo_2, wrV, wSt, hb, c, Bool.not_true, Bool.not_false, Bool.or_true, Bool.true_or, Bool.or_false, decide_true, decide_false]), rfl⟩
        | false =>
          simp (maxSteps := 1000000) (disch := omega) only [rg, gD, Nat.reduceBEq, Nat.reduceEqDiff, Nat.reduceAdd, Int.reduceEq, Int.reduceLT, Int.reduceLE, Int.reduceToNat, reduceIte, reduceCtorEq, Nat.reduceLeDiff, Nat.reduceLT, Nat.reduceMul, Nat.reduceSub, wrV, hb, c]
          refine hN _ _ i1' ?_
          rw [hstep]
          refine ⟨by show 2 ≤ q + 1; omega, (by simp (disch := omega) only [upd_eq, upd_ne, wo_0, wo_1, wo_2, wrV, wSt, hb, c, Bool.not_true, Bool.not_false, Bool.or_true, Bool.true_or, Bool.or_false, decide_true, decide_false]), rfl⟩
      · cases hb : (wTxt r (stPutS a.states[i]).1).2 with
        | true =>
          simp (maxSteps := 1000000) (disch := omega) only [rg, gD, Nat.reduceBEq, Nat.reduceEqDiff, Nat.reduceAdd, Int.reduceEq, Int.reduceLT, Int.reduceLE, Int.reduceToNat, reduceIte, reduceCtorEq, Nat.reduceLeDiff, Nat.reduceLT, Nat.reduceMul, Nat.reduceSub, wrV, hb, c]
          refine hN _ _ i1' ?_
          rw [hstep]
          refine ⟨by show 2 ≤ q + 1; omega, (by simp (disch := omega) only [upd_eq, upd_ne, wo_0, wo_1, wo_2, wrV, wSt, hb, c, Bool.not_true, Bool.not_false, Bool.or_true, Bool.true_or, Bool.or_false, decide_true, decide_false]), rfl⟩
        | false =>
          simp (maxSteps := 1000000) (disch := omega) only [rg, gD, Nat.reduceBEq, Nat.reduceEqDiff, Nat.reduceAdd, Int.reduceEq, Int.reduceLT, Int.reduceLE, Int.reduceToNat, reduceIte, reduceCtorEq, Nat.reduceLeDiff, Nat.reduceLT, Nat.reduceMul, Nat.reduceSub, wrV, hb, c]
          refine hN _ _ i1' ?_
          rw [hstep]
          refine ⟨by show 2 ≤ q + 1; omega, (by simp (disch := omega) only [upd_eq, upd_ne, wo_0, wo_1, wo_2, wrV, wSt, hb, c, Bool.not_true, Bool.not_false, Bool.or_true, Bool.true_or, Bool.or_false, decide_true, decide_false]), rfl⟩
    · obtain rfl : i = a.states.length := by omega
      rw [List.take_length] at e1
      have hll := wSts_len a.states r6
      refine hX _ _ _ ?_
      simp (maxSteps := 1000000) (disch := omega) only [rg, gD, Nat.reduceBEq, Nat.reduceEqDiff, Nat.reduceAdd, Int.reduceEq, Int.reduceLT, Int.reduceLE, Int.reduceToNat, reduceIte, reduceCtorEq, Nat.reduceLeDiff, Nat.reduceLT, Nat.reduceMul, Nat.reduceSub]
      refine x_frz0 ?_
      simp (maxSteps := 1000000) (disch := omega) only [rg, gD, Nat.reduceBEq, Nat.reduceEqDiff, Nat.reduceAdd, Int.reduceEq, Int.reduceLT, Int.reduceLE, Int.reduceToNat, reduceIte, reduceCtorEq, Nat.reduceLeDiff, Nat.reduceLT, Nat.reduceMul, Nat.reduceSub]
      refine ⟨_, _, _, _, w_end _ 1 _ (by omega) (by show 1 < q; omega) e1, ?_⟩
      simp (maxSteps := 1000000) (disch := omega) only [rg, gD, Nat.reduceBEq, Nat.reduceEqDiff, Nat.reduceAdd, Int.reduceEq, Int.reduceLT, Int.reduceLE, Int.reduceToNat, reduceIte, reduceCtorEq, Nat.reduceLeDiff, Nat.reduceLT, Nat.reduceMul, Nat.reduceSub, sV]
      rw [hend]
      (refine fin_x rfl ?_ ?_ <;> simp [pack, lo, loL, V.closed, closedL, mv_closed, sV])

end Go.Proofs.Ytjlpmndipceboaa.Ev
end
section
set_option linter.unusedSimpArgs false
set_option linter.unusedVariables false
set_option maxRecDepth 10000
namespace Go.Proofs.Ytjlpmndipceboaa.Ev
open Go

theorem frzH_get {fz : List Nat} {m : Hm} {id sz : Nat} {l : List V} (h : m id = some (.arr sz l)) (hn : id ∉ fz) : frzH fz m id = some (.arr sz (l.map (frzV fz m))) := by
  simp [frzH, hn, h, frzO]
theorem frz_ans {fz : List Nat} {m : Hm} {id n sz : Nat} {a : Int} {k : Str} {b c d : Int} {l : List V} (h : m id = some (.arr sz l)) (hi : id ∈ fz) (hn : n = l.length) (hc : closedL l = true) :
    frzV fz m (.agg [.int .i64 a, .str k, .int .i64 b, .int .i64 c, .int .i64 d, .sl id 0 n]) = .agg [.int .i64 a, .str k, .int .i64 b, .int .i64 c, .int .i64 d, .fsl .loose sz l] := by
  subst hn
  have e0 : only fz m id = some (.arr sz l) := by simp [only, hi, h]
  have sc : ∀ (k : Nat) (v : V), v.closed = true → snap k (only fz m) v = some v := fun k v hv => by cases k <;> simp [snap, hv]
  have ss : snap 3 (only fz m) (.sl id 0 l.length) = some (.fsl .loose sz l) := by
    rw [snap, if_neg (by simp [V.closed])]
    simp only [e0, Nat.zero_add, Nat.le_refl, if_true, List.drop_zero, List.take_length, mapO_closed hc]
  simp only [frzV]
  rw [snap, if_neg (by simp [V.closed, closedL])]
  simp only [mapO, sc 3 _ (show V.closed (.int .i64 _) = true from rfl), sc 3 _ (show V.closed (.str _) = true from rfl), ss]

theorem stGet_ok {s : Str} (h : (stGetS s).2 = 0) : standsS (stGetS s).1 = true := by
  unfold stGetS at h ⊢
  split
  · rename_i h1
    rw [if_pos h1] at h
    split
    · rename_i h2; exact h2.2
    · rename_i h2; rw [if_neg h2] at h; simp at h
  · rename_i h1
    rw [if_neg h1] at h; exact absurd h h1
theorem stands_ok {s : Stt} (h : standsS s = true) : okSt s := by
  simp only [standsS, stNumS, Bool.and_eq_true, decide_eq_true_eq] at h
  unfold okSt i64S
  omega

def zeroA : Ans := ⟨0, [], 0, 0, 0, []⟩
def refSts (p : Str) : Nat → Int × Int → Option (List Stt)
  | 0, _ => some []
  | k + 1, r => if (stGetS (txtS p r).1).2 = 0 then (refSts p k (txtS p r).2).map ((stGetS (txtS p r).1).1 :: ·) else none
def rawTold (p : Str) : Option Ans :=
  let a := nextS p (0, 0) 2
  let b := txtS p a.2
  let c := nextS p b.2 1
  let d := nextS p c.2 6
  let e := nextS p d.2 1
  let n := nextS p e.2 1
  (refSts p n.1.toNat n.2).map fun l => ⟨a.1, b.1, c.1, d.1, e.1, l⟩
def refToldS (s : Str) : Ans × Int :=
  if (openS s).2 = 0 then (match rawTold (openS s).1 with | some a => if answerS a = (s, 0) then (a, 0) else (zeroA, 230) | none => (zeroA, 230)) else (zeroA, 230)
def ansP (p : Ans × Int) : V := .tup [ansV p.1, .int .i64 p.2]

theorem openS_len (s : Str) : (openS s).1.length ≤ s.length := by
  unfold openS; split
  · simp
  · split <;> simp
theorem nextS_lt (p : Str) (r : Int × Int) : 0 ≤ (nextS p r 1).1 ∧ (nextS p r 1).1 < 256 := by
  unfold nextS; split
  · rcases getS_cases p r.1 1 with (h | h) | ⟨_, _, _, _, h⟩
    · rw [h]; simp
    · rw [h]; simp
    · rw [h]; have := beN_take_lt p r.1.toNat 1; simp only [show (1 : Int).toNat = 1 from rfl]; simp at this ⊢; omega
  · simp

theorem ref_told (s : Str) (hs : s.length ≤ 1000000) : PCall Try.prog 19 [.str s] (ansP (refToldS s)) := by
  refine en19 (by simp) (by simp [closedL, V.closed]) ?_
  simp (maxSteps := 1000000) (disch := omega) only [rg, gD, Nat.reduceBEq, Nat.reduceEqDiff, Nat.reduceAdd, Int.reduceEq, Int.reduceLT, Int.reduceLE, Int.reduceToNat, reduceIte, reduceCtorEq, Nat.reduceLeDiff, Nat.reduceLT, Nat.reduceMul, Nat.reduceSub, c19]
  refine ⟨_, ref_open s (by omega), ?_⟩
  have hol := openS_len s
  by_cases c0 : (openS s).2 = 0
  case neg =>
    simp (maxSteps := 1000000) (disch := omega) only [rg, gD, Nat.reduceBEq, Nat.reduceEqDiff, Nat.reduceAdd, Int.reduceEq, Int.reduceLT, Int.reduceLE, Int.reduceToNat, reduceIte, reduceCtorEq, Nat.reduceLeDiff, Nat.reduceLT, Nat.reduceMul, Nat.reduceSub, sV, c0]
    (refine fin_x rfl ?_ ?_ <;> simp [pack, lo, loL, V.closed, closedL, mv_closed, ansP, refToldS, c0, zeroA, ansV, sttsV, mv])
  simp (maxSteps := 1000000) (disch := omega) only [rg, gD, Nat.reduceBEq, Nat.reduceEqDiff, Nat.reduceAdd, Int.reduceEq, Int.reduceLT, Int.reduceLE, Int.reduceToNat, reduceIte, reduceCtorEq, Nat.reduceLeDiff, Nat.reduceLT, Nat.reduceMul, Nat.reduceSub, sV, c0]
  generalize hp : (openS s).1 = p at hol
  refine ⟨_, _, _, _, r_next _ 1 p (0, 0) 2 (by omega) (by simp) (by simp (disch := omega) only [upd_eq, upd_ne, wo_0, wo_1, wo_2, rdV]), ?_⟩
  simp (maxSteps := 1000000) (disch := omega) only [rg, gD, Nat.reduceBEq, Nat.reduceEqDiff, Nat.reduceAdd, Int.reduceEq, Int.reduceLT, Int.reduceLE, Int.reduceToNat, reduceIte, reduceCtorEq, Nat.reduceLeDiff, Nat.reduceLT, Nat.reduceMul, Nat.reduceSub]
  generalize ha : nextS p (0, 0) 2 = a
  refine ⟨_, _, _, _, r_text _ 1 p a.2 (by omega) (by simp) (by simp (disch := omega) only [upd_eq, upd_ne, wo_0, wo_1, wo_2]), ?_⟩
  simp (maxSteps := 1000000) (disch := omega) only [rg, gD, Nat.reduceBEq, Nat.reduceEqDiff, Nat.reduceAdd, Int.reduceEq, Int.reduceLT, Int.reduceLE, Int.reduceToNat, reduceIte, reduceCtorEq, Nat.reduceLeDiff, Nat.reduceLT, Nat.reduceMul, Nat.reduceSub]
  generalize hb : txtS p a.2 = b
  refine ⟨_, _, _, _, r_next _ 1 p b.2 1 (by omega) (by simp) (by simp (disch := omega) only [upd_eq, upd_ne, wo_0, wo_1, wo_2]), ?_⟩
  simp (maxSteps := 1000000) (disch := omega) only [rg, gD, Nat.reduceBEq, Nat.reduceEqDiff, Nat.reduceAdd, Int.reduceEq, Int.reduceLT, Int.reduceLE, Int.reduceToNat, reduceIte, reduceCtorEq, Nat.reduceLeDiff, Nat.reduceLT, Nat.reduceMul, Nat.reduceSub]
  generalize hc : nextS p b.2 1 = c
  refine ⟨_, _, _, _, r_next _ 1 p c.2 6 (by omega) (by simp) (by simp (disch := omega) only [upd_eq, upd_ne, wo_0, wo_1, wo_2]), ?_⟩
  simp (maxSteps := 1000000) (disch := omega) only [rg, gD, Nat.reduceBEq, Nat.reduceEqDiff, Nat.reduceAdd, Int.reduceEq, Int.reduceLT, Int.reduceLE, Int.reduceToNat, reduceIte, reduceCtorEq, Nat.reduceLeDiff, Nat.reduceLT, Nat.reduceMul, Nat.reduceSub]
  generalize hd : nextS p c.2 6 = d
  refine ⟨_, _, _, _, r_next _ 1 p d.2 1 (by omega) (by simp) (by simp (disch := omega) only [upd_eq, upd_ne, wo_0, wo_1, wo_2]), ?_⟩
  simp (maxSteps := 1000000) (disch := omega) only [rg, gD, Nat.reduceBEq, Nat.reduceEqDiff, Nat.reduceAdd, Int.reduceEq, Int.reduceLT, Int.reduceLE, Int.reduceToNat, reduceIte, reduceCtorEq, Nat.reduceLeDiff, Nat.reduceLT, Nat.reduceMul, Nat.reduceSub]
  generalize he : nextS p d.2 1 = e
  refine ⟨_, _, _, _, r_next _ 1 p e.2 1 (by omega) (by simp) (by simp (disch := omega) only [upd_eq, upd_ne, wo_0, wo_1, wo_2]), ?_⟩
  have hn1 := nextS_lt p e.2
  simp (maxSteps := 1000000) (disch := omega) only [rg, gD, Nat.reduceBEq, Nat.reduceEqDiff, Nat.reduceAdd, Int.reduceEq, Int.reduceLT, Int.reduceLE, Int.reduceToNat, reduceIte, reduceCtorEq, Nat.reduceLeDiff, Nat.reduceLT, Nat.reduceMul, Nat.reduceSub]
  generalize hn : nextS p e.2 1 = n at hn1
  have hraw : rawTold p = (refSts p n.1.toNat n.2).map fun l => ⟨a.1, b.1, c.1, d.1, e.1, l⟩ := by simp only [rawTold, ha, hb, hc, hd, he, hn]
  obtain ⟨N, hN⟩ : ∃ N : Nat, n.1 = N := ⟨n.1.toNat, by omega⟩
  rw [hN] at hraw hn1 ⊢
  rw [Int.toNat_natCast] at hraw
  refine x_it N (fun i σ H => 3 ≤ H.n ∧ ∃ out r v, H.m 0 = some (.arr 6 [.agg [.int .i64 0, .str [], .int .i64 0, .int .i64 0, .int .i64 0, .fsl .nil 5 []]]) ∧ H.m 1 = some (rdV p r) ∧ H.m 2 = some (.arr 6 [.agg [.int .i64 a.1, .str b.1, .int .i64 c.1, .int .i64 d.1, .int .i64 e.1, v]]) ∧
    out.length = i ∧ refSts p N n.2 = (refSts p (N - i) r).map (out ++ ·) ∧ (∀ st ∈ out, okSt st) ∧ σ = [(0, .str s), (2, .ptr 0 0 0), (6, .ptr 1 0 0), (7, .ptr 2 0 0), (8, .int .i64 N), (9, .int .i64 i)] ∧
    ((v = .fsl .nil 5 [] ∧ out = []) ∨ ∃ id, 3 ≤ id ∧ id < H.n ∧ v = .sl id 0 out.length ∧ H.m id = some (.arr 5 (mv sttV out)))) ?_ ?_
  · exact ⟨Nat.le_refl 3, [], n.2, _, (by simp (disch := omega) only [upd_eq, upd_ne, wo_0, wo_1, wo_2]), (by simp (disch := omega) only [upd_eq, upd_ne, wo_0, wo_1, wo_2]), (by simp (disch := omega) only [upd_eq, upd_ne, wo_0, wo_1, wo_2]), rfl, by simp, by simp, rfl, .inl ⟨rfl, rfl⟩⟩
  rintro T i σ ⟨q, m⟩ hi ⟨hq, out, r, v, e0, e1, e2, hol', hrs, hok, rfl, hv⟩ hN2 hX hR
  simp only at hq e0 e1 e2 hv
  simp (maxSteps := 1000000) (disch := omega) only [rg, gD, Nat.reduceBEq, Nat.reduceEqDiff, Nat.reduceAdd, Int.reduceEq, Int.reduceLT, Int.reduceLE, Int.reduceToNat, reduceIte, reduceCtorEq, Nat.reduceLeDiff, Nat.reduceLT, Nat.reduceMul, Nat.reduceSub]
  refine ⟨fun h => ?_, fun h => ?_⟩
  · have i1 : i < N := by omega
    rw [show N - i = (N - (i + 1)) + 1 by omega, refSts] at hrs
    refine ⟨_, _, _, _, r_text _ 1 p r (by omega) (by show 1 < q; omega) e1, ?_⟩
    have htl : (txtS p r).1.length ≤ 1000000 := by
      unfold txtS; split
      · exact Nat.le_trans (cutS_len _ _) (by omega)
      · simp
    simp (maxSteps := 1000000) (disch := omega) only [rg, gD, Nat.reduceBEq, Nat.reduceEqDiff, Nat.reduceAdd, Int.reduceEq, Int.reduceLT, Int.reduceLE, Int.reduceToNat, reduceIte, reduceCtorEq, Nat.reduceLeDiff, Nat.reduceLT, Nat.reduceMul, Nat.reduceSub]
    refine ⟨_, ref_stget (txtS p r).1 (by omega), ?_⟩
    have hq0 : 0 ≠ q := by omega
    have hq1 : 1 ≠ q := by omega
    have hq2 : 2 ≠ q := by omega
    by_cases c1 : (stGetS (txtS p r).1).2 = 0
    · rw [if_pos c1] at hrs
      have hst := stands_ok (stGet_ok c1)
      obtain ⟨st, hg⟩ : ∃ st, stGetS (txtS p r).1 = (st, 0) := ⟨(stGetS (txtS p r).1).1, Prod.ext rfl c1⟩
      rw [hg] at hrs hst ⊢
      have hrs2 : refSts p N n.2 = (refSts p (N - (i + 1)) (txtS p r).2).map ((out ++ [st]) ++ ·) := by
        rw [hrs, Option.map_map]; congr 1; funext l; simp
      have hok2 : ∀ x ∈ out ++ [st], okSt x := fun x hx => by
        rcases List.mem_append.1 hx with hx | hx
        · exact hok x hx
        · simp at hx; subst hx; exact hst
      have hl2 : (out ++ [st]).length = i + 1 := by simp [hol']
      have hrow : mv sttV out ++ [.agg [.int .i64 st.is, .int .i64 st.tried, .int .i64 st.due, .int .i64 st.token, .str st.result]] = mv sttV (out ++ [st]) := mv_app1
      rcases hv with ⟨rfl, rfl⟩ | ⟨id, g1, g2, rfl, g3⟩
      · simp (maxSteps := 1000000) (disch := omega) only [rg, gD, Nat.reduceBEq, Nat.reduceEqDiff, Nat.reduceAdd, Int.reduceEq, Int.reduceLT, Int.reduceLE, Int.reduceToNat, reduceIte, reduceCtorEq, Nat.reduceLeDiff, Nat.reduceLT, Nat.reduceMul, Nat.reduceSub, stV, sttV, e2, appO]
        refine hN2 _ _ i1 ?_
        refine ⟨by show 3 ≤ q + 2; omega, [] ++ [st], (txtS p r).2, .sl (q + 1) 0 1, (by simp (disch := omega) only [upd_eq, upd_ne, wo_0, wo_1, wo_2, e0]), (by simp (disch := omega) only [upd_eq, upd_ne, wo_0, wo_1, wo_2]), (by simp (disch := omega) only [upd_eq, upd_ne, wo_0, wo_1, wo_2]), hl2, hrs2, hok2, rfl, .inr ⟨q + 1, by omega, by show q + 1 < q + 2; omega, rfl, ?_⟩⟩
        rw [← hrow]
        simp [upd, mv]
        try omega
      · have hid : id ≠ q := by omega
        have hid1 : id ≠ 1 := by omega
        have ht3 : List.take out.length (mv sttV out) = mv sttV out := List.take_of_length_le (by rw [mv_len]; omega)
        simp (maxSteps := 1000000) (disch := omega) only [rg, gD, Nat.reduceBEq, Nat.reduceEqDiff, Nat.reduceAdd, Int.reduceEq, Int.reduceLT, Int.reduceLE, Int.reduceToNat, reduceIte, reduceCtorEq, Nat.reduceLeDiff, Nat.reduceLT, Nat.reduceMul, Nat.reduceSub, stV, sttV, e2, appO, g3, ht3, hrow]
        refine ⟨⟨by omega, by omega⟩, ?_⟩
        refine hN2 _ _ i1 ?_
        refine ⟨by show 3 ≤ q + 2; omega, out ++ [st], (txtS p r).2, .sl (q + 1) 0 (out.length + 1), (by simp (disch := omega) only [upd_eq, upd_ne, wo_0, wo_1, wo_2, e0]), (by simp (disch := omega) only [upd_eq, upd_ne, wo_0, wo_1, wo_2]), (by simp (disch := omega) only [upd_eq, upd_ne, wo_0, wo_1, wo_2]), hl2, hrs2, hok2, rfl, .inr ⟨q + 1, by omega, by show q + 1 < q + 2; omega, by rw [hl2, hol'], (by simp (disch := omega) only [upd_eq, upd_ne, wo_0, wo_1, wo_2])⟩⟩
    · rw [if_neg c1] at hrs
      simp (maxSteps := 1000000) (disch := omega) only [rg, gD, Nat.reduceBEq, Nat.reduceEqDiff, Nat.reduceAdd, Int.reduceEq, Int.reduceLT, Int.reduceLE, Int.reduceToNat, reduceIte, reduceCtorEq, Nat.reduceLeDiff, Nat.reduceLT, Nat.reduceMul, Nat.reduceSub, stV, c1, sttV, e0]
      refine hR _ _ ?_
      simp (maxSteps := 1000000) (disch := omega) only [rg, gD, Nat.reduceBEq, Nat.reduceEqDiff, Nat.reduceAdd, Int.reduceEq, Int.reduceLT, Int.reduceLE, Int.reduceToNat, reduceIte, reduceCtorEq, Nat.reduceLeDiff, Nat.reduceLT, Nat.reduceMul, Nat.reduceSub]
      have hf : rawTold p = none := by rw [hraw, hrs]; rfl
      (refine fin_x rfl ?_ ?_ <;> simp [pack, lo, loL, V.closed, closedL, mv_closed, ansP, refToldS, c0, hp, hf, zeroA, ansV, sttsV, mv])
  · obtain rfl : i = N := by omega
    have hout : rawTold p = some ⟨a.1, b.1, c.1, d.1, e.1, out⟩ := by rw [hraw, hrs, Nat.sub_self]; simp [refSts]
    have hbl : b.1.length ≤ 1000000 := by
      rw [← hb]; unfold txtS; split
      · exact Nat.le_trans (cutS_len _ _) (by omega)
      · simp
    have kan := ref_answer ⟨a.1, b.1, c.1, d.1, e.1, out⟩ ⟨hbl, by simp only; omega, hok⟩
    refine hX _ _ _ ?_
    simp (maxSteps := 1000000) (disch := omega) only [rg, gD, Nat.reduceBEq, Nat.reduceEqDiff, Nat.reduceAdd, Int.reduceEq, Int.reduceLT, Int.reduceLE, Int.reduceToNat, reduceIte, reduceCtorEq, Nat.reduceLeDiff, Nat.reduceLT, Nat.reduceMul, Nat.reduceSub]
    generalize hans : answerS ⟨a.1, b.1, c.1, d.1, e.1, out⟩ = w at kan
    have hfin : refToldS s = if w = (s, 0) then (⟨a.1, b.1, c.1, d.1, e.1, out⟩, 0) else (zeroA, 230) := by
      unfold refToldS; rw [if_pos c0, hp, hout]; simp only; rw [hans]
    obtain ⟨w1, w2⟩ := w
    rcases hv with ⟨rfl, rfl⟩ | ⟨id, g1, g2, rfl, g3⟩
    · refine x_frz0 ?_
      simp (maxSteps := 1000000) (disch := omega) only [rg, gD, Nat.reduceBEq, Nat.reduceEqDiff, Nat.reduceAdd, Int.reduceEq, Int.reduceLT, Int.reduceLE, Int.reduceToNat, reduceIte, reduceCtorEq, Nat.reduceLeDiff, Nat.reduceLT, Nat.reduceMul, Nat.reduceSub, e2]
      refine ⟨_, kan.of_eq (by simp [ansV, sttsV, loL, lo, mv]), ?_⟩
      by_cases k1 : w2 = 0
      · by_cases k2 : w1 = s
        · simp (maxSteps := 1000000) (disch := omega) only [rg, gD, Nat.reduceBEq, Nat.reduceEqDiff, Nat.reduceAdd, Int.reduceEq, Int.reduceLT, Int.reduceLE, Int.reduceToNat, reduceIte, reduceCtorEq, Nat.reduceLeDiff, Nat.reduceLT, Nat.reduceMul, Nat.reduceSub, sV, e0, e2, k1, k2]
          (refine fin_x rfl ?_ ?_ <;> simp [pack, lo, loL, V.closed, closedL, mv_closed, ansP, hfin, k1, k2, ansV, sttsV, mv])
        · simp (maxSteps := 1000000) (disch := omega) only [rg, gD, Nat.reduceBEq, Nat.reduceEqDiff, Nat.reduceAdd, Int.reduceEq, Int.reduceLT, Int.reduceLE, Int.reduceToNat, reduceIte, reduceCtorEq, Nat.reduceLeDiff, Nat.reduceLT, Nat.reduceMul, Nat.reduceSub, sV, e0, e2, k1, k2]
          (refine fin_x rfl ?_ ?_ <;> simp [pack, lo, loL, V.closed, closedL, mv_closed, ansP, hfin, k1, k2, zeroA, ansV, sttsV, mv])
      · simp (maxSteps := 1000000) (disch := omega) only [rg, gD, Nat.reduceBEq, Nat.reduceEqDiff, Nat.reduceAdd, Int.reduceEq, Int.reduceLT, Int.reduceLE, Int.reduceToNat, reduceIte, reduceCtorEq, Nat.reduceLeDiff, Nat.reduceLT, Nat.reduceMul, Nat.reduceSub, sV, e0, e2, k1]
        (refine fin_x rfl ?_ ?_ <;> simp [pack, lo, loL, V.closed, closedL, mv_closed, ansP, hfin, k1, zeroA, ansV, sttsV, mv])
    · have e2' := frzH_get (fz := [id]) e2 (by simp; omega)
      rw [List.map_cons, List.map_nil, frz_ans g3 (by simp) (by rw [mv_len]) (mv_closed sttV_closed)] at e2'
      have e0' := frzH_get (fz := [id]) e0 (by simp; omega)
      rw [List.map_cons, List.map_nil, frz_c (by simp [V.closed, closedL])] at e0'
      refine x_frzH [id] ?_
      simp only [] at e2' e0' ⊢
      generalize frzH [id] m = m' at e2' e0'
      simp (maxSteps := 1000000) (disch := omega) only [rg, gD, Nat.reduceBEq, Nat.reduceEqDiff, Nat.reduceAdd, Int.reduceEq, Int.reduceLT, Int.reduceLE, Int.reduceToNat, reduceIte, reduceCtorEq, Nat.reduceLeDiff, Nat.reduceLT, Nat.reduceMul, Nat.reduceSub, e2']
      refine ⟨_, kan.of_eq (by simp [ansV, sttsV, loL, lo, mv_lo sttV_lo]), ?_⟩
      by_cases k1 : w2 = 0
      · by_cases k2 : w1 = s
        · simp (maxSteps := 1000000) (disch := omega) only [rg, gD, Nat.reduceBEq, Nat.reduceEqDiff, Nat.reduceAdd, Int.reduceEq, Int.reduceLT, Int.reduceLE, Int.reduceToNat, reduceIte, reduceCtorEq, Nat.reduceLeDiff, Nat.reduceLT, Nat.reduceMul, Nat.reduceSub, sV, e0', e2', k1, k2]
          (refine fin_x rfl ?_ ?_ <;> simp [pack, lo, loL, V.closed, closedL, mv_closed, ansP, hfin, k1, k2, ansV, sttsV, mv_closed sttV_closed, mv_lo sttV_lo])
        · simp (maxSteps := 1000000) (disch := omega) only [rg, gD, Nat.reduceBEq, Nat.reduceEqDiff, Nat.reduceAdd, Int.reduceEq, Int.reduceLT, Int.reduceLE, Int.reduceToNat, reduceIte, reduceCtorEq, Nat.reduceLeDiff, Nat.reduceLT, Nat.reduceMul, Nat.reduceSub, sV, e0', e2', k1, k2]
          (refine fin_x rfl ?_ ?_ <;> simp [pack, lo, loL, V.closed, closedL, mv_closed, ansP, hfin, k1, k2, zeroA, ansV, sttsV, mv])
      · simp (maxSteps := 1000000) (disch := omega) only [rg, gD, Nat.reduceBEq, Nat.reduceEqDiff, Nat.reduceAdd, Int.reduceEq, Int.reduceLT, Int.reduceLE, Int.reduceToNat, reduceIte, reduceCtorEq, Nat.reduceLeDiff, Nat.reduceLT, Nat.reduceMul, Nat.reduceSub, sV, e0', e2', k1]
        (refine fin_x rfl ?_ ?_ <;> simp [pack, lo, loL, V.closed, closedL, mv_closed, ansP, hfin, k1, zeroA, ansV, sttsV, mv])

end Go.Proofs.Ytjlpmndipceboaa.Ev
end
section
set_option linter.unusedSimpArgs false
set_option linter.unusedVariables false
set_option maxRecDepth 10000
namespace Go.Proofs.Ytjlpmndipceboaa.Ev
open Go

def fSts (p : Str) : Nat → Int × Bool → List Stt × Int × Bool
  | 0, r => ([], r)
  | k + 1, r => if r.2 = true then ([], r) else
    let q := fSts p k ((txtF p r).2.1, (txtF p r).2.2 || !decide ((stGetS (txtF p r).1).2 = 0))
    ((stGetS (txtF p r).1).1 :: q.1, q.2)
def rawF (p : Str) (bad : Bool) : Ans × Int × Bool :=
  let a := numF p (0, bad) 2
  let b := txtF p a.2
  let c := numF p b.2 1
  let d := numF p c.2 6
  let e := numF p d.2 1
  let n := numF p e.2 1
  let q := fSts p n.1.toNat n.2
  (⟨a.1, b.1, c.1, d.1, e.1, q.1⟩, q.2)
def toldS (s : Str) : Ans × Int :=
  let q := rawF (openS s).1 (!decide ((openS s).2 = 0))
  if q.2.2 = true ∨ q.2.1 ≠ (openS s).1.length then (zeroA, 230) else (q.1, 0)

theorem numF_lt (p : Str) (r : Int × Bool) : 0 ≤ (numF p r 1).1 ∧ (numF p r 1).1 < 256 := by
  unfold numF; split
  · have := nextS_lt p (r.1, 0); simpa [nextS] using this
  · simp
theorem txtF_len (p : Str) (r : Int × Bool) : (txtF p r).1.length ≤ p.length := by
  unfold txtF; split
  · exact cutS_len _ _
  · simp
theorem fSts_bad (p : Str) (k : Nat) (r : Int × Bool) (h : r.2 = true) : fSts p k r = ([], r) := by
  cases k with
  | zero => rfl
  | succ k => rw [fSts, if_pos h]

theorem frame_told (s : Str) (hs : s.length ≤ 1000000) : PCall Try.prog 18 [.str s] (ansP (toldS s)) := by
  refine en18 (by simp) (by simp [closedL, V.closed]) ?_
  simp (maxSteps := 1000000) (disch := omega) only [rg, gD, Nat.reduceBEq, Nat.reduceEqDiff, Nat.reduceAdd, Int.reduceEq, Int.reduceLT, Int.reduceLE, Int.reduceToNat, reduceIte, reduceCtorEq, Nat.reduceLeDiff, Nat.reduceLT, Nat.reduceMul, Nat.reduceSub, c18]
  refine ⟨_, _, _, _, f_read _ s (by omega), ?_⟩
  have hol := openS_len s
  generalize hp : (openS s).1 = p at hol
  generalize hbad : (!decide ((openS s).2 = 0)) = bad
  simp (maxSteps := 1000000) (disch := omega) only [rg, gD, Nat.reduceBEq, Nat.reduceEqDiff, Nat.reduceAdd, Int.reduceEq, Int.reduceLT, Int.reduceLE, Int.reduceToNat, reduceIte, reduceCtorEq, Nat.reduceLeDiff, Nat.reduceLT, Nat.reduceMul, Nat.reduceSub]
  refine ⟨_, _, _, _, f_num _ 1 p (0, bad) 2 (by omega) (by simp) (by simp (disch := omega) only [upd_eq, upd_ne, wo_0, wo_1, wo_2]), ?_⟩
  simp (maxSteps := 1000000) (disch := omega) only [rg, gD, Nat.reduceBEq, Nat.reduceEqDiff, Nat.reduceAdd, Int.reduceEq, Int.reduceLT, Int.reduceLE, Int.reduceToNat, reduceIte, reduceCtorEq, Nat.reduceLeDiff, Nat.reduceLT, Nat.reduceMul, Nat.reduceSub]
  generalize ha : numF p (0, bad) 2 = a
  refine ⟨_, _, _, _, f_text _ 1 p a.2 (by omega) (by simp) (by simp (disch := omega) only [upd_eq, upd_ne, wo_0, wo_1, wo_2]), ?_⟩
  simp (maxSteps := 1000000) (disch := omega) only [rg, gD, Nat.reduceBEq, Nat.reduceEqDiff, Nat.reduceAdd, Int.reduceEq, Int.reduceLT, Int.reduceLE, Int.reduceToNat, reduceIte, reduceCtorEq, Nat.reduceLeDiff, Nat.reduceLT, Nat.reduceMul, Nat.reduceSub]
  generalize hb : txtF p a.2 = b
  refine ⟨_, _, _, _, f_num _ 1 p b.2 1 (by omega) (by simp) (by simp (disch := omega) only [upd_eq, upd_ne, wo_0, wo_1, wo_2]), ?_⟩
  simp (maxSteps := 1000000) (disch := omega) only [rg, gD, Nat.reduceBEq, Nat.reduceEqDiff, Nat.reduceAdd, Int.reduceEq, Int.reduceLT, Int.reduceLE, Int.reduceToNat, reduceIte, reduceCtorEq, Nat.reduceLeDiff, Nat.reduceLT, Nat.reduceMul, Nat.reduceSub]
  generalize hc : numF p b.2 1 = c
  refine ⟨_, _, _, _, f_num _ 1 p c.2 6 (by omega) (by simp) (by simp (disch := omega) only [upd_eq, upd_ne, wo_0, wo_1, wo_2]), ?_⟩
  simp (maxSteps := 1000000) (disch := omega) only [rg, gD, Nat.reduceBEq, Nat.reduceEqDiff, Nat.reduceAdd, Int.reduceEq, Int.reduceLT, Int.reduceLE, Int.reduceToNat, reduceIte, reduceCtorEq, Nat.reduceLeDiff, Nat.reduceLT, Nat.reduceMul, Nat.reduceSub]
  generalize hd : numF p c.2 6 = d
  refine ⟨_, _, _, _, f_num _ 1 p d.2 1 (by omega) (by simp) (by simp (disch := omega) only [upd_eq, upd_ne, wo_0, wo_1, wo_2]), ?_⟩
  simp (maxSteps := 1000000) (disch := omega) only [rg, gD, Nat.reduceBEq, Nat.reduceEqDiff, Nat.reduceAdd, Int.reduceEq, Int.reduceLT, Int.reduceLE, Int.reduceToNat, reduceIte, reduceCtorEq, Nat.reduceLeDiff, Nat.reduceLT, Nat.reduceMul, Nat.reduceSub]
  generalize he : numF p d.2 1 = e
  refine ⟨_, _, _, _, f_num _ 1 p e.2 1 (by omega) (by simp) (by simp (disch := omega) only [upd_eq, upd_ne, wo_0, wo_1, wo_2]), ?_⟩
  have hn1 := numF_lt p e.2
  simp (maxSteps := 1000000) (disch := omega) only [rg, gD, Nat.reduceBEq, Nat.reduceEqDiff, Nat.reduceAdd, Int.reduceEq, Int.reduceLT, Int.reduceLE, Int.reduceToNat, reduceIte, reduceCtorEq, Nat.reduceLeDiff, Nat.reduceLT, Nat.reduceMul, Nat.reduceSub]
  generalize hn : numF p e.2 1 = n at hn1
  have hraw : rawF p bad = (⟨a.1, b.1, c.1, d.1, e.1, (fSts p n.1.toNat n.2).1⟩, (fSts p n.1.toNat n.2).2) := by simp only [rawF, ha, hb, hc, hd, he, hn]
  obtain ⟨N, hN⟩ : ∃ N : Nat, n.1 = N := ⟨n.1.toNat, by omega⟩
  rw [hN] at hraw hn1 ⊢
  rw [Int.toNat_natCast] at hraw
  refine x_it N (fun i σ H => 3 ≤ H.n ∧ ∃ out r v, H.m 0 = some (.arr 6 [.agg [.int .i64 0, .str [], .int .i64 0, .int .i64 0, .int .i64 0, .fsl .nil 5 []]]) ∧ H.m 1 = some (fdV p r) ∧ H.m 2 = some (.arr 6 [.agg [.int .i64 a.1, .str b.1, .int .i64 c.1, .int .i64 d.1, .int .i64 e.1, v]]) ∧
    out.length = i ∧ fSts p N n.2 = (out ++ (fSts p (N - i) r).1, (fSts p (N - i) r).2) ∧ σ = [(2, .ptr 0 0 0), (4, .ptr 1 0 0), (5, .ptr 2 0 0), (6, .int .i64 (N - i : Nat))] ∧
    ((v = .fsl .nil 5 [] ∧ out = []) ∨ ∃ id, 3 ≤ id ∧ id < H.n ∧ v = .sl id 0 out.length ∧ H.m id = some (.arr 5 (mv sttV out)))) ?_ ?_
  · exact ⟨Nat.le_refl 3, [], n.2, _, (by simp (disch := omega) only [upd_eq, upd_ne, wo_0, wo_1, wo_2]), (by simp (disch := omega) only [upd_eq, upd_ne, wo_0, wo_1, wo_2]), (by simp (disch := omega) only [upd_eq, upd_ne, wo_0, wo_1, wo_2]), rfl, by simp, rfl, .inl ⟨rfl, rfl⟩⟩
  rintro T i σ ⟨q, m⟩ hi ⟨hq, out, r, v, e0, e1, e2, hol', hrs, rfl, hv⟩ hN2 hX hR
  simp only at hq e0 e1 e2 hv
  have e1' := e1
  unfold fdV at e1'
  -- the end, once nothing more is read
  have stop : fSts p (N - i) r = ([], r) → T (.exit 0) [(2, .ptr 0 0 0), (4, .ptr 1 0 0), (5, .ptr 2 0 0), (6, .int .i64 (N - i : Nat)), (36, .bool false)] ⟨q, m⟩ := fun hz => by
    rw [hz, List.append_nil] at hrs
    rw [hrs] at hraw
    have htS : toldS s = if r.2 = true ∨ r.1 ≠ p.length then (zeroA, 230) else (⟨a.1, b.1, c.1, d.1, e.1, out⟩, 0) := by
      unfold toldS; simp only [hp, hbad, hraw]
    refine hX _ _ _ ?_
    simp (maxSteps := 1000000) (disch := omega) only [rg, gD, Nat.reduceBEq, Nat.reduceEqDiff, Nat.reduceAdd, Int.reduceEq, Int.reduceLT, Int.reduceLE, Int.reduceToNat, reduceIte, reduceCtorEq, Nat.reduceLeDiff, Nat.reduceLT, Nat.reduceMul, Nat.reduceSub]
    rcases hv with ⟨rfl, rfl⟩ | ⟨id, g1, g2, rfl, g3⟩
    · refine x_frz0 ?_
      cases k1 : r.2 with
      | true =>
        simp (maxSteps := 1000000) (disch := omega) only [rg, gD, Nat.reduceBEq, Nat.reduceEqDiff, Nat.reduceAdd, Int.reduceEq, Int.reduceLT, Int.reduceLE, Int.reduceToNat, reduceIte, reduceCtorEq, Nat.reduceLeDiff, Nat.reduceLT, Nat.reduceMul, Nat.reduceSub, e0, e1', e2, k1]
        (refine fin_x rfl ?_ ?_ <;> simp [pack, lo, loL, V.closed, closedL, mv_closed, ansP, htS, k1, zeroA, ansV, sttsV, mv])
      | false =>
        by_cases k2 : r.1 = p.length
        · simp (maxSteps := 1000000) (disch := omega) only [rg, gD, Nat.reduceBEq, Nat.reduceEqDiff, Nat.reduceAdd, Int.reduceEq, Int.reduceLT, Int.reduceLE, Int.reduceToNat, reduceIte, reduceCtorEq, Nat.reduceLeDiff, Nat.reduceLT, Nat.reduceMul, Nat.reduceSub, e0, e1', e2, k1, k2]
          (refine fin_x rfl ?_ ?_ <;> simp [pack, lo, loL, V.closed, closedL, mv_closed, ansP, htS, k1, k2, ansV, sttsV, mv])
        · simp (maxSteps := 1000000) (disch := omega) only [rg, gD, Nat.reduceBEq, Nat.reduceEqDiff, Nat.reduceAdd, Int.reduceEq, Int.reduceLT, Int.reduceLE, Int.reduceToNat, reduceIte, reduceCtorEq, Nat.reduceLeDiff, Nat.reduceLT, Nat.reduceMul, Nat.reduceSub, e0, e1', e2, k1, k2]
          (refine fin_x rfl ?_ ?_ <;> simp [pack, lo, loL, V.closed, closedL, mv_closed, ansP, htS, k1, k2, zeroA, ansV, sttsV, mv])
    · have e2' := frzH_get (fz := [id]) e2 (by simp; omega)
      rw [List.map_cons, List.map_nil, frz_ans g3 (by simp) (by rw [mv_len]) (mv_closed sttV_closed)] at e2'
      have e0' := frzH_get (fz := [id]) e0 (by simp; omega)
      rw [List.map_cons, List.map_nil, frz_c (by simp [V.closed, closedL])] at e0'
      have e1'' := frzH_get (fz := [id]) e1' (by simp; omega)
      rw [List.map_cons, List.map_nil, frz_c (by simp [V.closed, closedL])] at e1''
      refine x_frzH [id] ?_
      simp only [] at e2' e0' e1'' ⊢
      generalize frzH [id] m = m' at e2' e0' e1''
      cases k1 : r.2 with
      | true =>
        simp (maxSteps := 1000000) (disch := omega) only [rg, gD, Nat.reduceBEq, Nat.reduceEqDiff, Nat.reduceAdd, Int.reduceEq, Int.reduceLT, Int.reduceLE, Int.reduceToNat, reduceIte, reduceCtorEq, Nat.reduceLeDiff, Nat.reduceLT, Nat.reduceMul, Nat.reduceSub, e0', e1'', e2', k1]
        (refine fin_x rfl ?_ ?_ <;> simp [pack, lo, loL, V.closed, closedL, mv_closed, ansP, htS, k1, zeroA, ansV, sttsV, mv])
      | false =>
        by_cases k2 : r.1 = p.length
        · simp (maxSteps := 1000000) (disch := omega) only [rg, gD, Nat.reduceBEq, Nat.reduceEqDiff, Nat.reduceAdd, Int.reduceEq, Int.reduceLT, Int.reduceLE, Int.reduceToNat, reduceIte, reduceCtorEq, Nat.reduceLeDiff, Nat.reduceLT, Nat.reduceMul, Nat.reduceSub, e0', e1'', e2', k1, k2]
          (refine fin_x rfl ?_ ?_ <;> simp [pack, lo, loL, V.closed, closedL, mv_closed, ansP, htS, k1, k2, ansV, sttsV, mv_closed sttV_closed, mv_lo sttV_lo])
        · simp (maxSteps := 1000000) (disch := omega) only [rg, gD, Nat.reduceBEq, Nat.reduceEqDiff, Nat.reduceAdd, Int.reduceEq, Int.reduceLT, Int.reduceLE, Int.reduceToNat, reduceIte, reduceCtorEq, Nat.reduceLeDiff, Nat.reduceLT, Nat.reduceMul, Nat.reduceSub, e0', e1'', e2', k1, k2]
          (refine fin_x rfl ?_ ?_ <;> simp [pack, lo, loL, V.closed, closedL, mv_closed, ansP, htS, k1, k2, zeroA, ansV, sttsV, mv])
  rcases Nat.lt_or_ge i N with i1 | i1
  · obtain ⟨k, hk⟩ : ∃ k, N - i = k + 1 := ⟨N - i - 1, by omega⟩
    have hpos : (0 : Int) < (k + 1 : Nat) := by omega
    rw [hk] at hrs stop ⊢
    cases hb2 : r.2 with
    | true =>
      have hstop := stop (fSts_bad p _ r hb2)
      simp (maxSteps := 1000000) (disch := omega) only [rg, gD, Nat.reduceBEq, Nat.reduceEqDiff, Nat.reduceAdd, Int.reduceEq, Int.reduceLT, Int.reduceLE, Int.reduceToNat, reduceIte, reduceCtorEq, Nat.reduceLeDiff, Nat.reduceLT, Nat.reduceMul, Nat.reduceSub, hpos, e1', hb2]
      exact hstop
    | false =>
      simp (maxSteps := 1000000) (disch := omega) only [rg, gD, Nat.reduceBEq, Nat.reduceEqDiff, Nat.reduceAdd, Int.reduceEq, Int.reduceLT, Int.reduceLE, Int.reduceToNat, reduceIte, reduceCtorEq, Nat.reduceLeDiff, Nat.reduceLT, Nat.reduceMul, Nat.reduceSub, hpos, e1', hb2]
      refine ⟨_, _, _, _, f_text _ 1 p r (by omega) (by show 1 < q; omega) e1, ?_⟩
      have htl := txtF_len p r
      simp (maxSteps := 1000000) (disch := omega) only [rg, gD, Nat.reduceBEq, Nat.reduceEqDiff, Nat.reduceAdd, Int.reduceEq, Int.reduceLT, Int.reduceLE, Int.reduceToNat, reduceIte, reduceCtorEq, Nat.reduceLeDiff, Nat.reduceLT, Nat.reduceMul, Nat.reduceSub]
      refine ⟨_, task_get (txtF p r).1 (by omega), ?_⟩
      have hq0 : 0 ≠ q := by omega
      have hq1 : 1 ≠ q := by omega
      have hq2 : 2 ≠ q := by omega
      have hkN : N - (i + 1) = k := by omega
      have h61 : ((k + 1 : Nat) : Int) - 1 = (k : Nat) := by omega
      rw [fSts, if_neg (by simp [hb2])] at hrs
      simp only at hrs
      generalize hg : stGetS (txtF p r).1 = g at hrs
      obtain ⟨st, gc⟩ := g
      generalize ht : (txtF p r).2 = t at hrs
      obtain ⟨t1, t2⟩ := t
      simp only at hrs
      have hrs2 : fSts p N n.2 = ((out ++ [st]) ++ (fSts p k (t1, t2 || !decide (gc = 0))).1, (fSts p k (t1, t2 || !decide (gc = 0))).2) := by rw [hrs]; simp
      have hl2 : (out ++ [st]).length = i + 1 := by simp [hol']
      have hrow : mv sttV out ++ [.agg [.int .i64 st.is, .int .i64 st.tried, .int .i64 st.due, .int .i64 st.token, .str st.result]] = mv sttV (out ++ [st]) := mv_app1
      rw [← hkN] at hrs2
      rcases hv with ⟨rfl, hov⟩ | ⟨id, g1, g2, rfl, g3⟩
      · subst hov
        by_cases c : gc = 0 <;> cases t2
        · simp (maxSteps := 1000000) (disch := omega) only [rg, gD, Nat.reduceBEq, Nat.reduceEqDiff, Nat.reduceAdd, Int.reduceEq, Int.reduceLT, Int.reduceLE, Int.reduceToNat, reduceIte, reduceCtorEq, Nat.reduceLeDiff, Nat.reduceLT, Nat.reduceMul, Nat.reduceSub, stV, sttV, fdV, e2, appO, ht, hg, c, h61]
          refine hN2 _ _ i1 ?_
          refine ⟨by show 3 ≤ q + 2; omega, [] ++ [st], (t1, false || !decide (gc = 0)), .sl (q + 1) 0 1, (by simp (disch := omega) only [upd_eq, upd_ne, wo_0, wo_1, wo_2, e0]), (by simp (disch := omega) only [upd_eq, upd_ne, wo_0, wo_1, wo_2, fdV, c, Bool.false_or, Bool.true_or, decide_true, decide_false, Bool.not_true, Bool.not_false]), (by simp (disch := omega) only [upd_eq, upd_ne, wo_0, wo_1, wo_2]), hl2, hrs2, by rw [hkN], .inr ⟨q + 1, by omega, by show q + 1 < q + 2; omega, rfl, ?_⟩⟩
          rw [← hrow]
          simp [upd, mv]
          try omega
        · simp (maxSteps := 1000000) (disch := omega) only [rg, gD, Nat.reduceBEq, Nat.reduceEqDiff, Nat.reduceAdd, Int.reduceEq, Int.reduceLT, Int.reduceLE, Int.reduceToNat, reduceIte, reduceCtorEq, Nat.reduceLeDiff, Nat.reduceLT, Nat.reduceMul, Nat.reduceSub, stV, sttV, fdV, e2, appO, ht, hg, c, h61]
          refine hN2 _ _ i1 ?_
          refine ⟨by show 3 ≤ q + 2; omega, [] ++ [st], (t1, true || !decide (gc = 0)), .sl (q + 1) 0 1, (by simp (disch := omega) only [upd_eq, upd_ne, wo_0, wo_1, wo_2, e0]), (by simp (disch := omega) only [upd_eq, upd_ne, wo_0, wo_1, wo_2, fdV, c, Bool.false_or, Bool.true_or, decide_true, decide_false, Bool.not_true, Bool.not_false]), (by simp (disch := omega) only [upd_eq, upd_ne, wo_0, wo_1, wo_2]), hl2, hrs2, by rw [hkN], .inr ⟨q + 1, by omega, by show q + 1 < q + 2; omega, rfl, ?_⟩⟩
          rw [← hrow]
          simp [upd, mv]
          try omega
        · simp (maxSteps := 1000000) (disch := omega) only [rg, gD, Nat.reduceBEq, Nat.reduceEqDiff, Nat.reduceAdd, Int.reduceEq, Int.reduceLT, Int.reduceLE, Int.reduceToNat, reduceIte, reduceCtorEq, Nat.reduceLeDiff, Nat.reduceLT, Nat.reduceMul, Nat.reduceSub, stV, sttV, fdV, e2, appO, ht, hg, c, h61]
          refine hN2 _ _ i1 ?_
          refine ⟨by show 3 ≤ q + 2; omega, [] ++ [st], (t1, false || !decide (gc = 0)), .sl (q + 1) 0 1, (by simp (disch := omega) only [upd_eq, upd_ne, wo_0, wo_1, wo_2, e0]), (by simp (disch := omega) only [upd_eq, upd_ne, wo_0, wo_1, wo_2, fdV, c, Bool.false_or, Bool.true_or, decide_true, decide_false, Bool.not_true, Bool.not_false]), (by simp (disch := omega) only [upd_eq, upd_ne, wo_0, wo_1, wo_2]), hl2, hrs2, by rw [hkN], .inr ⟨q + 1, by omega, by show q + 1 < q + 2; omega, rfl, ?_⟩⟩
          rw [← hrow]
          simp [upd, mv]
          try omega
        · simp (maxSteps := 1000000) (disch := omega) only [rg, gD, Nat.reduceBEq, Nat.reduceEqDiff, Nat.reduceAdd, Int.reduceEq, Int.reduceLT, Int.reduceLE, Int.reduceToNat, reduceIte, reduceCtorEq, Nat.reduceLeDiff, Nat.reduceLT, Nat.reduceMul, Nat.reduceSub, stV, sttV, fdV, e2, appO, ht, hg, c, h61]
          refine hN2 _ _ i1 ?_
          refine ⟨by show 3 ≤ q + 2; omega, [] ++ [st], (t1, true || !decide (gc = 0)), .sl (q + 1) 0 1, (by simp (disch := omega) only [upd_eq, upd_ne, wo_0, wo_1, wo_2, e0]), (by simp (disch := omega) only [upd_eq, upd_ne, wo_0, wo_1, wo_2, fdV, c, Bool.false_or, Bool.true_or, decide_true, decide_false, Bool.not_true, Bool.not_false]), (by simp (disch := omega) only [upd_eq, upd_ne, wo_0, wo_1, wo_2]), hl2, hrs2, by rw [hkN], .inr ⟨q + 1, by omega, by show q + 1 < q + 2; omega, rfl, ?_⟩⟩
          rw [← hrow]
          simp [upd, mv]
          try omega
      · have hid : id ≠ q := by omega
        have hid1 : id ≠ 1 := by omega
        have ht3 : List.take out.length (mv sttV out) = mv sttV out := List.take_of_length_le (by rw [mv_len]; omega)
        by_cases c : gc = 0 <;> cases t2
        · simp (maxSteps := 1000000) (disch := omega) only [rg, gD, Nat.reduceBEq, Nat.reduceEqDiff, Nat.reduceAdd, Int.reduceEq, Int.reduceLT, Int.reduceLE, Int.reduceToNat, reduceIte, reduceCtorEq, Nat.reduceLeDiff, Nat.reduceLT, Nat.reduceMul, Nat.reduceSub, stV, sttV, fdV, e2, appO, ht, hg, c, h61, g3, ht3, hrow]
          refine ⟨⟨by omega, by omega⟩, ?_⟩
          refine hN2 _ _ i1 ?_
          refine ⟨by show 3 ≤ q + 2; omega, out ++ [st], (t1, false || !decide (gc = 0)), .sl (q + 1) 0 (out.length + 1), (by simp (disch := omega) only [upd_eq, upd_ne, wo_0, wo_1, wo_2, e0]), (by simp (disch := omega) only [upd_eq, upd_ne, wo_0, wo_1, wo_2, fdV, c, Bool.false_or, Bool.true_or, decide_true, decide_false, Bool.not_true, Bool.not_false]), (by simp (disch := omega) only [upd_eq, upd_ne, wo_0, wo_1, wo_2]), hl2, hrs2, by rw [hkN], .inr ⟨q + 1, by omega, by show q + 1 < q + 2; omega, by rw [hl2, hol'], (by simp (disch := omega) only [upd_eq, upd_ne, wo_0, wo_1, wo_2])⟩⟩
        · simp (maxSteps := 1000000) (disch := omega) only [rg, gD, Nat.reduceBEq, Nat.reduceEqDiff, Nat.reduceAdd, Int.reduceEq, Int.reduceLT, Int.reduceLE, Int.reduceToNat, reduceIte, reduceCtorEq, Nat.reduceLeDiff, Nat.reduceLT, Nat.reduceMul, Nat.reduceSub, stV, sttV, fdV, e2, appO, ht, hg, c, h61, g3, ht3, hrow]
          refine ⟨⟨by omega, by omega⟩, ?_⟩
          refine hN2 _ _ i1 ?_
          refine ⟨by show 3 ≤ q + 2; omega, out ++ [st], (t1, true || !decide (gc = 0)), .sl (q + 1) 0 (out.length + 1), (by simp (disch := omega) only [upd_eq, upd_ne, wo_0, wo_1, wo_2, e0]), (by simp (disch := omega) only [upd_eq, upd_ne, wo_0, wo_1, wo_2, fdV, c, Bool.false_or, Bool.true_or, decide_true, decide_false, Bool.not_true, Bool.not_false]), (by simp (disch := omega) only [upd_eq, upd_ne, wo_0, wo_1, wo_2]), hl2, hrs2, by rw [hkN], .inr ⟨q + 1, by omega, by show q + 1 < q + 2; omega, by rw [hl2, hol'], (by simp (disch := omega) only [upd_eq, upd_ne, wo_0, wo_1, wo_2])⟩⟩
        · simp (maxSteps := 1000000) (disch := omega) only [rg, gD, Nat.reduceBEq, Nat.reduceEqDiff, Nat.reduceAdd, Int.reduceEq, Int.reduceLT, Int.reduceLE, Int.reduceToNat, reduceIte, reduceCtorEq, Nat.reduceLeDiff, Nat.reduceLT, Nat.reduceMul, Nat.reduceSub, stV, sttV, fdV, e2, appO, ht, hg, c, h61, g3, ht3, hrow]
          refine ⟨⟨by omega, by omega⟩, ?_⟩
          refine hN2 _ _ i1 ?_
          refine ⟨by show 3 ≤ q + 2; omega, out ++ [st], (t1, false || !decide (gc = 0)), .sl (q + 1) 0 (out.length + 1), (by simp (disch := omega) only [upd_eq, upd_ne, wo_0, wo_1, wo_2, e0]), (by simp (disch := omega) only [upd_eq, upd_ne, wo_0, wo_1, wo_2, fdV, c, Bool.false_or, Bool.true_or, decide_true, decide_false, Bool.not_true, Bool.not_false]), (by simp (disch := omega) only [upd_eq, upd_ne, wo_0, wo_1, wo_2]), hl2, hrs2, by rw [hkN], .inr ⟨q + 1, by omega, by show q + 1 < q + 2; omega, by rw [hl2, hol'], (by simp (disch := omega) only [upd_eq, upd_ne, wo_0, wo_1, wo_2])⟩⟩
        · simp (maxSteps := 1000000) (disch := omega) only [rg, gD, Nat.reduceBEq, Nat.reduceEqDiff, Nat.reduceAdd, Int.reduceEq, Int.reduceLT, Int.reduceLE, Int.reduceToNat, reduceIte, reduceCtorEq, Nat.reduceLeDiff, Nat.reduceLT, Nat.reduceMul, Nat.reduceSub, stV, sttV, fdV, e2, appO, ht, hg, c, h61, g3, ht3, hrow]
          refine ⟨⟨by omega, by omega⟩, ?_⟩
          refine hN2 _ _ i1 ?_
          refine ⟨by show 3 ≤ q + 2; omega, out ++ [st], (t1, true || !decide (gc = 0)), .sl (q + 1) 0 (out.length + 1), (by simp (disch := omega) only [upd_eq, upd_ne, wo_0, wo_1, wo_2, e0]), (by simp (disch := omega) only [upd_eq, upd_ne, wo_0, wo_1, wo_2, fdV, c, Bool.false_or, Bool.true_or, decide_true, decide_false, Bool.not_true, Bool.not_false]), (by simp (disch := omega) only [upd_eq, upd_ne, wo_0, wo_1, wo_2]), hl2, hrs2, by rw [hkN], .inr ⟨q + 1, by omega, by show q + 1 < q + 2; omega, by rw [hl2, hol'], (by simp (disch := omega) only [upd_eq, upd_ne, wo_0, wo_1, wo_2])⟩⟩
  · have hstop := stop (by rw [show N - i = 0 by omega]; rfl)
    rw [show N - i = 0 by omega] at hstop ⊢
    simp (maxSteps := 1000000) (disch := omega) only [rg, gD, Nat.reduceBEq, Nat.reduceEqDiff, Nat.reduceAdd, Int.reduceEq, Int.reduceLT, Int.reduceLE, Int.reduceToNat, reduceIte, reduceCtorEq, Nat.reduceLeDiff, Nat.reduceLT, Nat.reduceMul, Nat.reduceSub, Int.natCast_zero]
    exact hstop

end Go.Proofs.Ytjlpmndipceboaa.Ev
end
