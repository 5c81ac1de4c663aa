/-
  Part 6 of what the proof of the statement FrameTurned leans on: the evaluator, the functions in compact form, and what they answer.
-/
import Derived.Test.YtjlpmndipceboaaM5
section
set_option linter.unusedSimpArgs false
set_option linter.unusedVariables false
set_option maxRecDepth 10000
namespace Go.Proofs.Ytjlpmndipceboaa.Ev
open Go

theorem ref23_put (c : Cmd) (hc : okCmd c) : PCall Try.prog 9 [cmdV c] (sV (cmdPutS c)) := by
  refine en9 (by simp) (by simp [closedL, V.closed, cmdV_closed]) ?_
  obtain ⟨o1, o2, o3, o4, o5, o6, o7, o8⟩ := hc
  have no : ¬ cmdP c → cmdPutS c = ([], 1) := fun h => by rw [cmdPutS, if_neg h]
  have yes : cmdP c → cmdPutS c = (sealS ((putS c.kind 1).1 ++ cmdBody c), 0) := fun h => by rw [cmdPutS, if_pos h]; rfl
  have hk1 := putS_len1 c.kind
  have tk := textS_len c.key
  have tn := textS_len c.name
  have tt := textS_len c.text
  have p6 := putS_len6 c.token
  have q6 := putS_len6 c.time
  have n1 := no1 c
  have n2 := no2 c
  have n46 := no46 c
  have n5 := no5 c
  have n79 := no79 c
  have n8 := no8 c
  have n0 := no0 c
  have kr := ref_right c.dag o5 o4
  obtain ⟨b1, b2, b46, b5, b79, b8, b0⟩ := bare_no c
  unfold cmdV tasksV at n1 n2 n46 n5 n79 n8 n0
  unfold dagV tasksV at kr
  by_cases f0 : c.key.length ≤ 255
  case neg =>
    have hf : ¬ cmdP c := fun h => f0 h.2.2.2.1.1
    simp (maxSteps := 1000000) (disch := omega) only [rg, gD, Nat.reduceBEq, Nat.reduceEqDiff, Nat.reduceAdd, Int.reduceEq, Int.reduceLT, Int.reduceLE, Int.reduceToNat, reduceIte, reduceCtorEq, Nat.reduceLeDiff, Nat.reduceLT, Nat.reduceMul, Nat.reduceSub, c9, cmdV, tasksV, show ¬ (c.key.length : Int) ≤ 255 by omega]
    rcases kinds c.kind with k | k | k | k | k | k | k | k | ⟨k1, k2, k4, k6, k5, k7, k9, k8⟩
    · simp (maxSteps := 1000000) (disch := omega) only [rg, gD, Nat.reduceBEq, Nat.reduceEqDiff, Nat.reduceAdd, Int.reduceEq, Int.reduceLT, Int.reduceLE, Int.reduceToNat, reduceIte, reduceCtorEq, Nat.reduceLeDiff, Nat.reduceLT, Nat.reduceMul, Nat.reduceSub, k]
      (refine fin_x rfl ?_ ?_ <;> simp [pack, lo, loL, V.closed, closedL, mv_closed, sV, no hf])
    · simp (maxSteps := 1000000) (disch := omega) only [rg, gD, Nat.reduceBEq, Nat.reduceEqDiff, Nat.reduceAdd, Int.reduceEq, Int.reduceLT, Int.reduceLE, Int.reduceToNat, reduceIte, reduceCtorEq, Nat.reduceLeDiff, Nat.reduceLT, Nat.reduceMul, Nat.reduceSub, k]
      refine ⟨_, ref23_text c.key (by omega), ?_⟩
      simp (maxSteps := 1000000) (disch := omega) only [rg, gD, Nat.reduceBEq, Nat.reduceEqDiff, Nat.reduceAdd, Int.reduceEq, Int.reduceLT, Int.reduceLE, Int.reduceToNat, reduceIte, reduceCtorEq, Nat.reduceLeDiff, Nat.reduceLT, Nat.reduceMul, Nat.reduceSub]
      refine ⟨_, ref23_text c.name (by omega), ?_⟩
      simp (maxSteps := 1000000) (disch := omega) only [rg, gD, Nat.reduceBEq, Nat.reduceEqDiff, Nat.reduceAdd, Int.reduceEq, Int.reduceLT, Int.reduceLE, Int.reduceToNat, reduceIte, reduceCtorEq, Nat.reduceLeDiff, Nat.reduceLT, Nat.reduceMul, Nat.reduceSub]
      refine ⟨by omega, ?_⟩
      (refine fin_x rfl ?_ ?_ <;> simp [pack, lo, loL, V.closed, closedL, mv_closed, sV, no hf])
    · simp (maxSteps := 1000000) (disch := omega) only [rg, gD, Nat.reduceBEq, Nat.reduceEqDiff, Nat.reduceAdd, Int.reduceEq, Int.reduceLT, Int.reduceLE, Int.reduceToNat, reduceIte, reduceCtorEq, Nat.reduceLeDiff, Nat.reduceLT, Nat.reduceMul, Nat.reduceSub, k]
      refine ⟨_, ref23_number c.token 6 o7, ?_⟩
      simp (maxSteps := 1000000) (disch := omega) only [rg, gD, Nat.reduceBEq, Nat.reduceEqDiff, Nat.reduceAdd, Int.reduceEq, Int.reduceLT, Int.reduceLE, Int.reduceToNat, reduceIte, reduceCtorEq, Nat.reduceLeDiff, Nat.reduceLT, Nat.reduceMul, Nat.reduceSub]
      (refine fin_x rfl ?_ ?_ <;> simp [pack, lo, loL, V.closed, closedL, mv_closed, sV, no hf])
    · simp (maxSteps := 1000000) (disch := omega) only [rg, gD, Nat.reduceBEq, Nat.reduceEqDiff, Nat.reduceAdd, Int.reduceEq, Int.reduceLT, Int.reduceLE, Int.reduceToNat, reduceIte, reduceCtorEq, Nat.reduceLeDiff, Nat.reduceLT, Nat.reduceMul, Nat.reduceSub, k]
      refine ⟨_, ref23_number c.token 6 o7, ?_⟩
      simp (maxSteps := 1000000) (disch := omega) only [rg, gD, Nat.reduceBEq, Nat.reduceEqDiff, Nat.reduceAdd, Int.reduceEq, Int.reduceLT, Int.reduceLE, Int.reduceToNat, reduceIte, reduceCtorEq, Nat.reduceLeDiff, Nat.reduceLT, Nat.reduceMul, Nat.reduceSub]
      (refine fin_x rfl ?_ ?_ <;> simp [pack, lo, loL, V.closed, closedL, mv_closed, sV, no hf])
    · simp (maxSteps := 1000000) (disch := omega) only [rg, gD, Nat.reduceBEq, Nat.reduceEqDiff, Nat.reduceAdd, Int.reduceEq, Int.reduceLT, Int.reduceLE, Int.reduceToNat, reduceIte, reduceCtorEq, Nat.reduceLeDiff, Nat.reduceLT, Nat.reduceMul, Nat.reduceSub, k]
      refine ⟨_, ref23_number c.token 6 o7, ?_⟩
      simp (maxSteps := 1000000) (disch := omega) only [rg, gD, Nat.reduceBEq, Nat.reduceEqDiff, Nat.reduceAdd, Int.reduceEq, Int.reduceLT, Int.reduceLE, Int.reduceToNat, reduceIte, reduceCtorEq, Nat.reduceLeDiff, Nat.reduceLT, Nat.reduceMul, Nat.reduceSub]
      refine ⟨_, ref23_text c.text (by omega), ?_⟩
      simp (maxSteps := 1000000) (disch := omega) only [rg, gD, Nat.reduceBEq, Nat.reduceEqDiff, Nat.reduceAdd, Int.reduceEq, Int.reduceLT, Int.reduceLE, Int.reduceToNat, reduceIte, reduceCtorEq, Nat.reduceLeDiff, Nat.reduceLT, Nat.reduceMul, Nat.reduceSub]
      refine ⟨by omega, ?_⟩
      (refine fin_x rfl ?_ ?_ <;> simp [pack, lo, loL, V.closed, closedL, mv_closed, sV, no hf])
    · simp (maxSteps := 1000000) (disch := omega) only [rg, gD, Nat.reduceBEq, Nat.reduceEqDiff, Nat.reduceAdd, Int.reduceEq, Int.reduceLT, Int.reduceLE, Int.reduceToNat, reduceIte, reduceCtorEq, Nat.reduceLeDiff, Nat.reduceLT, Nat.reduceMul, Nat.reduceSub, k]
      refine ⟨_, ref23_text c.key (by omega), ?_⟩
      simp (maxSteps := 1000000) (disch := omega) only [rg, gD, Nat.reduceBEq, Nat.reduceEqDiff, Nat.reduceAdd, Int.reduceEq, Int.reduceLT, Int.reduceLE, Int.reduceToNat, reduceIte, reduceCtorEq, Nat.reduceLeDiff, Nat.reduceLT, Nat.reduceMul, Nat.reduceSub]
      (refine fin_x rfl ?_ ?_ <;> simp [pack, lo, loL, V.closed, closedL, mv_closed, sV, no hf])
    · simp (maxSteps := 1000000) (disch := omega) only [rg, gD, Nat.reduceBEq, Nat.reduceEqDiff, Nat.reduceAdd, Int.reduceEq, Int.reduceLT, Int.reduceLE, Int.reduceToNat, reduceIte, reduceCtorEq, Nat.reduceLeDiff, Nat.reduceLT, Nat.reduceMul, Nat.reduceSub, k]
      refine ⟨_, ref23_text c.key (by omega), ?_⟩
      simp (maxSteps := 1000000) (disch := omega) only [rg, gD, Nat.reduceBEq, Nat.reduceEqDiff, Nat.reduceAdd, Int.reduceEq, Int.reduceLT, Int.reduceLE, Int.reduceToNat, reduceIte, reduceCtorEq, Nat.reduceLeDiff, Nat.reduceLT, Nat.reduceMul, Nat.reduceSub]
      (refine fin_x rfl ?_ ?_ <;> simp [pack, lo, loL, V.closed, closedL, mv_closed, sV, no hf])
    · simp (maxSteps := 1000000) (disch := omega) only [rg, gD, Nat.reduceBEq, Nat.reduceEqDiff, Nat.reduceAdd, Int.reduceEq, Int.reduceLT, Int.reduceLE, Int.reduceToNat, reduceIte, reduceCtorEq, Nat.reduceLeDiff, Nat.reduceLT, Nat.reduceMul, Nat.reduceSub, k]
      refine ⟨_, ref23_number c.time 6 o8, ?_⟩
      simp (maxSteps := 1000000) (disch := omega) only [rg, gD, Nat.reduceBEq, Nat.reduceEqDiff, Nat.reduceAdd, Int.reduceEq, Int.reduceLT, Int.reduceLE, Int.reduceToNat, reduceIte, reduceCtorEq, Nat.reduceLeDiff, Nat.reduceLT, Nat.reduceMul, Nat.reduceSub]
      (refine fin_x rfl ?_ ?_ <;> simp [pack, lo, loL, V.closed, closedL, mv_closed, sV, no hf])
    · by_cases k3 : c.kind = 3
      · simp (maxSteps := 1000000) (disch := omega) only [rg, gD, Nat.reduceBEq, Nat.reduceEqDiff, Nat.reduceAdd, Int.reduceEq, Int.reduceLT, Int.reduceLE, Int.reduceToNat, reduceIte, reduceCtorEq, Nat.reduceLeDiff, Nat.reduceLT, Nat.reduceMul, Nat.reduceSub, k3]
        (refine fin_x rfl ?_ ?_ <;> simp [pack, lo, loL, V.closed, closedL, mv_closed, sV, no hf])
      by_cases k10 : c.kind = 10
      · simp (maxSteps := 1000000) (disch := omega) only [rg, gD, Nat.reduceBEq, Nat.reduceEqDiff, Nat.reduceAdd, Int.reduceEq, Int.reduceLT, Int.reduceLE, Int.reduceToNat, reduceIte, reduceCtorEq, Nat.reduceLeDiff, Nat.reduceLT, Nat.reduceMul, Nat.reduceSub, k10]
        (refine fin_x rfl ?_ ?_ <;> simp [pack, lo, loL, V.closed, closedL, mv_closed, sV, no hf])
      simp (maxSteps := 1000000) (disch := omega) only [rg, gD, Nat.reduceBEq, Nat.reduceEqDiff, Nat.reduceAdd, Int.reduceEq, Int.reduceLT, Int.reduceLE, Int.reduceToNat, reduceIte, reduceCtorEq, Nat.reduceLeDiff, Nat.reduceLT, Nat.reduceMul, Nat.reduceSub, k1, k2, k4, k6, k5, k7, k9, k8, k3, k10]
      (refine fin_x rfl ?_ ?_ <;> simp [pack, lo, loL, V.closed, closedL, mv_closed, sV, no hf])
  by_cases f1 : c.name.length ≤ 255
  case neg =>
    have hf : ¬ cmdP c := fun h => f1 h.2.2.2.1.2.1
    simp (maxSteps := 1000000) (disch := omega) only [rg, gD, Nat.reduceBEq, Nat.reduceEqDiff, Nat.reduceAdd, Int.reduceEq, Int.reduceLT, Int.reduceLE, Int.reduceToNat, reduceIte, reduceCtorEq, Nat.reduceLeDiff, Nat.reduceLT, Nat.reduceMul, Nat.reduceSub, c9, cmdV, tasksV, show (c.key.length : Int) ≤ 255 by omega, show ¬ (c.name.length : Int) ≤ 255 by omega]
    rcases kinds c.kind with k | k | k | k | k | k | k | k | ⟨k1, k2, k4, k6, k5, k7, k9, k8⟩
    · simp (maxSteps := 1000000) (disch := omega) only [rg, gD, Nat.reduceBEq, Nat.reduceEqDiff, Nat.reduceAdd, Int.reduceEq, Int.reduceLT, Int.reduceLE, Int.reduceToNat, reduceIte, reduceCtorEq, Nat.reduceLeDiff, Nat.reduceLT, Nat.reduceMul, Nat.reduceSub, k]
      (refine fin_x rfl ?_ ?_ <;> simp [pack, lo, loL, V.closed, closedL, mv_closed, sV, no hf])
    · simp (maxSteps := 1000000) (disch := omega) only [rg, gD, Nat.reduceBEq, Nat.reduceEqDiff, Nat.reduceAdd, Int.reduceEq, Int.reduceLT, Int.reduceLE, Int.reduceToNat, reduceIte, reduceCtorEq, Nat.reduceLeDiff, Nat.reduceLT, Nat.reduceMul, Nat.reduceSub, k]
      refine ⟨_, ref23_text c.key (by omega), ?_⟩
      simp (maxSteps := 1000000) (disch := omega) only [rg, gD, Nat.reduceBEq, Nat.reduceEqDiff, Nat.reduceAdd, Int.reduceEq, Int.reduceLT, Int.reduceLE, Int.reduceToNat, reduceIte, reduceCtorEq, Nat.reduceLeDiff, Nat.reduceLT, Nat.reduceMul, Nat.reduceSub]
      refine ⟨_, ref23_text c.name (by omega), ?_⟩
      simp (maxSteps := 1000000) (disch := omega) only [rg, gD, Nat.reduceBEq, Nat.reduceEqDiff, Nat.reduceAdd, Int.reduceEq, Int.reduceLT, Int.reduceLE, Int.reduceToNat, reduceIte, reduceCtorEq, Nat.reduceLeDiff, Nat.reduceLT, Nat.reduceMul, Nat.reduceSub]
      refine ⟨by omega, ?_⟩
      (refine fin_x rfl ?_ ?_ <;> simp [pack, lo, loL, V.closed, closedL, mv_closed, sV, no hf])
    · simp (maxSteps := 1000000) (disch := omega) only [rg, gD, Nat.reduceBEq, Nat.reduceEqDiff, Nat.reduceAdd, Int.reduceEq, Int.reduceLT, Int.reduceLE, Int.reduceToNat, reduceIte, reduceCtorEq, Nat.reduceLeDiff, Nat.reduceLT, Nat.reduceMul, Nat.reduceSub, k]
      refine ⟨_, ref23_number c.token 6 o7, ?_⟩
      simp (maxSteps := 1000000) (disch := omega) only [rg, gD, Nat.reduceBEq, Nat.reduceEqDiff, Nat.reduceAdd, Int.reduceEq, Int.reduceLT, Int.reduceLE, Int.reduceToNat, reduceIte, reduceCtorEq, Nat.reduceLeDiff, Nat.reduceLT, Nat.reduceMul, Nat.reduceSub]
      (refine fin_x rfl ?_ ?_ <;> simp [pack, lo, loL, V.closed, closedL, mv_closed, sV, no hf])
    · simp (maxSteps := 1000000) (disch := omega) only [rg, gD, Nat.reduceBEq, Nat.reduceEqDiff, Nat.reduceAdd, Int.reduceEq, Int.reduceLT, Int.reduceLE, Int.reduceToNat, reduceIte, reduceCtorEq, Nat.reduceLeDiff, Nat.reduceLT, Nat.reduceMul, Nat.reduceSub, k]
      refine ⟨_, ref23_number c.token 6 o7, ?_⟩
      simp (maxSteps := 1000000) (disch := omega) only [rg, gD, Nat.reduceBEq, Nat.reduceEqDiff, Nat.reduceAdd, Int.reduceEq, Int.reduceLT, Int.reduceLE, Int.reduceToNat, reduceIte, reduceCtorEq, Nat.reduceLeDiff, Nat.reduceLT, Nat.reduceMul, Nat.reduceSub]
      (refine fin_x rfl ?_ ?_ <;> simp [pack, lo, loL, V.closed, closedL, mv_closed, sV, no hf])
    · simp (maxSteps := 1000000) (disch := omega) only [rg, gD, Nat.reduceBEq, Nat.reduceEqDiff, Nat.reduceAdd, Int.reduceEq, Int.reduceLT, Int.reduceLE, Int.reduceToNat, reduceIte, reduceCtorEq, Nat.reduceLeDiff, Nat.reduceLT, Nat.reduceMul, Nat.reduceSub, k]
      refine ⟨_, ref23_number c.token 6 o7, ?_⟩
      simp (maxSteps := 1000000) (disch := omega) only [rg, gD, Nat.reduceBEq, Nat.reduceEqDiff, Nat.reduceAdd, Int.reduceEq, Int.reduceLT, Int.reduceLE, Int.reduceToNat, reduceIte, reduceCtorEq, Nat.reduceLeDiff, Nat.reduceLT, Nat.reduceMul, Nat.reduceSub]
      refine ⟨_, ref23_text c.text (by omega), ?_⟩
      simp (maxSteps := 1000000) (disch := omega) only [rg, gD, Nat.reduceBEq, Nat.reduceEqDiff, Nat.reduceAdd, Int.reduceEq, Int.reduceLT, Int.reduceLE, Int.reduceToNat, reduceIte, reduceCtorEq, Nat.reduceLeDiff, Nat.reduceLT, Nat.reduceMul, Nat.reduceSub]
      refine ⟨by omega, ?_⟩
      (refine fin_x rfl ?_ ?_ <;> simp [pack, lo, loL, V.closed, closedL, mv_closed, sV, no hf])
    · simp (maxSteps := 1000000) (disch := omega) only [rg, gD, Nat.reduceBEq, Nat.reduceEqDiff, Nat.reduceAdd, Int.reduceEq, Int.reduceLT, Int.reduceLE, Int.reduceToNat, reduceIte, reduceCtorEq, Nat.reduceLeDiff, Nat.reduceLT, Nat.reduceMul, Nat.reduceSub, k]
      refine ⟨_, ref23_text c.key (by omega), ?_⟩
      simp (maxSteps := 1000000) (disch := omega) only [rg, gD, Nat.reduceBEq, Nat.reduceEqDiff, Nat.reduceAdd, Int.reduceEq, Int.reduceLT, Int.reduceLE, Int.reduceToNat, reduceIte, reduceCtorEq, Nat.reduceLeDiff, Nat.reduceLT, Nat.reduceMul, Nat.reduceSub]
      (refine fin_x rfl ?_ ?_ <;> simp [pack, lo, loL, V.closed, closedL, mv_closed, sV, no hf])
    · simp (maxSteps := 1000000) (disch := omega) only [rg, gD, Nat.reduceBEq, Nat.reduceEqDiff, Nat.reduceAdd, Int.reduceEq, Int.reduceLT, Int.reduceLE, Int.reduceToNat, reduceIte, reduceCtorEq, Nat.reduceLeDiff, Nat.reduceLT, Nat.reduceMul, Nat.reduceSub, k]
      refine ⟨_, ref23_text c.key (by omega), ?_⟩
      simp (maxSteps := 1000000) (disch := omega) only [rg, gD, Nat.reduceBEq, Nat.reduceEqDiff, Nat.reduceAdd, Int.reduceEq, Int.reduceLT, Int.reduceLE, Int.reduceToNat, reduceIte, reduceCtorEq, Nat.reduceLeDiff, Nat.reduceLT, Nat.reduceMul, Nat.reduceSub]
      (refine fin_x rfl ?_ ?_ <;> simp [pack, lo, loL, V.closed, closedL, mv_closed, sV, no hf])
    · simp (maxSteps := 1000000) (disch := omega) only [rg, gD, Nat.reduceBEq, Nat.reduceEqDiff, Nat.reduceAdd, Int.reduceEq, Int.reduceLT, Int.reduceLE, Int.reduceToNat, reduceIte, reduceCtorEq, Nat.reduceLeDiff, Nat.reduceLT, Nat.reduceMul, Nat.reduceSub, k]
      refine ⟨_, ref23_number c.time 6 o8, ?_⟩
      simp (maxSteps := 1000000) (disch := omega) only [rg, gD, Nat.reduceBEq, Nat.reduceEqDiff, Nat.reduceAdd, Int.reduceEq, Int.reduceLT, Int.reduceLE, Int.reduceToNat, reduceIte, reduceCtorEq, Nat.reduceLeDiff, Nat.reduceLT, Nat.reduceMul, Nat.reduceSub]
      (refine fin_x rfl ?_ ?_ <;> simp [pack, lo, loL, V.closed, closedL, mv_closed, sV, no hf])
    · by_cases k3 : c.kind = 3
      · simp (maxSteps := 1000000) (disch := omega) only [rg, gD, Nat.reduceBEq, Nat.reduceEqDiff, Nat.reduceAdd, Int.reduceEq, Int.reduceLT, Int.reduceLE, Int.reduceToNat, reduceIte, reduceCtorEq, Nat.reduceLeDiff, Nat.reduceLT, Nat.reduceMul, Nat.reduceSub, k3]
        (refine fin_x rfl ?_ ?_ <;> simp [pack, lo, loL, V.closed, closedL, mv_closed, sV, no hf])
      by_cases k10 : c.kind = 10
      · simp (maxSteps := 1000000) (disch := omega) only [rg, gD, Nat.reduceBEq, Nat.reduceEqDiff, Nat.reduceAdd, Int.reduceEq, Int.reduceLT, Int.reduceLE, Int.reduceToNat, reduceIte, reduceCtorEq, Nat.reduceLeDiff, Nat.reduceLT, Nat.reduceMul, Nat.reduceSub, k10]
        (refine fin_x rfl ?_ ?_ <;> simp [pack, lo, loL, V.closed, closedL, mv_closed, sV, no hf])
      simp (maxSteps := 1000000) (disch := omega) only [rg, gD, Nat.reduceBEq, Nat.reduceEqDiff, Nat.reduceAdd, Int.reduceEq, Int.reduceLT, Int.reduceLE, Int.reduceToNat, reduceIte, reduceCtorEq, Nat.reduceLeDiff, Nat.reduceLT, Nat.reduceMul, Nat.reduceSub, k1, k2, k4, k6, k5, k7, k9, k8, k3, k10]
      (refine fin_x rfl ?_ ?_ <;> simp [pack, lo, loL, V.closed, closedL, mv_closed, sV, no hf])
  by_cases f2 : c.text.length ≤ 255
  case neg =>
    have hf : ¬ cmdP c := fun h => f2 h.2.2.2.1.2.2.1
    simp (maxSteps := 1000000) (disch := omega) only [rg, gD, Nat.reduceBEq, Nat.reduceEqDiff, Nat.reduceAdd, Int.reduceEq, Int.reduceLT, Int.reduceLE, Int.reduceToNat, reduceIte, reduceCtorEq, Nat.reduceLeDiff, Nat.reduceLT, Nat.reduceMul, Nat.reduceSub, c9, cmdV, tasksV, show (c.key.length : Int) ≤ 255 by omega, show (c.name.length : Int) ≤ 255 by omega, show ¬ (c.text.length : Int) ≤ 255 by omega]
    rcases kinds c.kind with k | k | k | k | k | k | k | k | ⟨k1, k2, k4, k6, k5, k7, k9, k8⟩
    · simp (maxSteps := 1000000) (disch := omega) only [rg, gD, Nat.reduceBEq, Nat.reduceEqDiff, Nat.reduceAdd, Int.reduceEq, Int.reduceLT, Int.reduceLE, Int.reduceToNat, reduceIte, reduceCtorEq, Nat.reduceLeDiff, Nat.reduceLT, Nat.reduceMul, Nat.reduceSub, k]
      (refine fin_x rfl ?_ ?_ <;> simp [pack, lo, loL, V.closed, closedL, mv_closed, sV, no hf])
    · simp (maxSteps := 1000000) (disch := omega) only [rg, gD, Nat.reduceBEq, Nat.reduceEqDiff, Nat.reduceAdd, Int.reduceEq, Int.reduceLT, Int.reduceLE, Int.reduceToNat, reduceIte, reduceCtorEq, Nat.reduceLeDiff, Nat.reduceLT, Nat.reduceMul, Nat.reduceSub, k]
      refine ⟨_, ref23_text c.key (by omega), ?_⟩
      simp (maxSteps := 1000000) (disch := omega) only [rg, gD, Nat.reduceBEq, Nat.reduceEqDiff, Nat.reduceAdd, Int.reduceEq, Int.reduceLT, Int.reduceLE, Int.reduceToNat, reduceIte, reduceCtorEq, Nat.reduceLeDiff, Nat.reduceLT, Nat.reduceMul, Nat.reduceSub]
      refine ⟨_, ref23_text c.name (by omega), ?_⟩
      simp (maxSteps := 1000000) (disch := omega) only [rg, gD, Nat.reduceBEq, Nat.reduceEqDiff, Nat.reduceAdd, Int.reduceEq, Int.reduceLT, Int.reduceLE, Int.reduceToNat, reduceIte, reduceCtorEq, Nat.reduceLeDiff, Nat.reduceLT, Nat.reduceMul, Nat.reduceSub]
      refine ⟨by omega, ?_⟩
      (refine fin_x rfl ?_ ?_ <;> simp [pack, lo, loL, V.closed, closedL, mv_closed, sV, no hf])
    · simp (maxSteps := 1000000) (disch := omega) only [rg, gD, Nat.reduceBEq, Nat.reduceEqDiff, Nat.reduceAdd, Int.reduceEq, Int.reduceLT, Int.reduceLE, Int.reduceToNat, reduceIte, reduceCtorEq, Nat.reduceLeDiff, Nat.reduceLT, Nat.reduceMul, Nat.reduceSub, k]
      refine ⟨_, ref23_number c.token 6 o7, ?_⟩
      simp (maxSteps := 1000000) (disch := omega) only [rg, gD, Nat.reduceBEq, Nat.reduceEqDiff, Nat.reduceAdd, Int.reduceEq, Int.reduceLT, Int.reduceLE, Int.reduceToNat, reduceIte, reduceCtorEq, Nat.reduceLeDiff, Nat.reduceLT, Nat.reduceMul, Nat.reduceSub]
      (refine fin_x rfl ?_ ?_ <;> simp [pack, lo, loL, V.closed, closedL, mv_closed, sV, no hf])
    · simp (maxSteps := 1000000) (disch := omega) only [rg, gD, Nat.reduceBEq, Nat.reduceEqDiff, Nat.reduceAdd, Int.reduceEq, Int.reduceLT, Int.reduceLE, Int.reduceToNat, reduceIte, reduceCtorEq, Nat.reduceLeDiff, Nat.reduceLT, Nat.reduceMul, Nat.reduceSub, k]
      refine ⟨_, ref23_number c.token 6 o7, ?_⟩
      simp (maxSteps := 1000000) (disch := omega) only [rg, gD, Nat.reduceBEq, Nat.reduceEqDiff, Nat.reduceAdd, Int.reduceEq, Int.reduceLT, Int.reduceLE, Int.reduceToNat, reduceIte, reduceCtorEq, Nat.reduceLeDiff, Nat.reduceLT, Nat.reduceMul, Nat.reduceSub]
      (refine fin_x rfl ?_ ?_ <;> simp [pack, lo, loL, V.closed, closedL, mv_closed, sV, no hf])
    · simp (maxSteps := 1000000) (disch := omega) only [rg, gD, Nat.reduceBEq, Nat.reduceEqDiff, Nat.reduceAdd, Int.reduceEq, Int.reduceLT, Int.reduceLE, Int.reduceToNat, reduceIte, reduceCtorEq, Nat.reduceLeDiff, Nat.reduceLT, Nat.reduceMul, Nat.reduceSub, k]
      refine ⟨_, ref23_number c.token 6 o7, ?_⟩
      simp (maxSteps := 1000000) (disch := omega) only [rg, gD, Nat.reduceBEq, Nat.reduceEqDiff, Nat.reduceAdd, Int.reduceEq, Int.reduceLT, Int.reduceLE, Int.reduceToNat, reduceIte, reduceCtorEq, Nat.reduceLeDiff, Nat.reduceLT, Nat.reduceMul, Nat.reduceSub]
      refine ⟨_, ref23_text c.text (by omega), ?_⟩
      simp (maxSteps := 1000000) (disch := omega) only [rg, gD, Nat.reduceBEq, Nat.reduceEqDiff, Nat.reduceAdd, Int.reduceEq, Int.reduceLT, Int.reduceLE, Int.reduceToNat, reduceIte, reduceCtorEq, Nat.reduceLeDiff, Nat.reduceLT, Nat.reduceMul, Nat.reduceSub]
      refine ⟨by omega, ?_⟩
      (refine fin_x rfl ?_ ?_ <;> simp [pack, lo, loL, V.closed, closedL, mv_closed, sV, no hf])
    · simp (maxSteps := 1000000) (disch := omega) only [rg, gD, Nat.reduceBEq, Nat.reduceEqDiff, Nat.reduceAdd, Int.reduceEq, Int.reduceLT, Int.reduceLE, Int.reduceToNat, reduceIte, reduceCtorEq, Nat.reduceLeDiff, Nat.reduceLT, Nat.reduceMul, Nat.reduceSub, k]
      refine ⟨_, ref23_text c.key (by omega), ?_⟩
      simp (maxSteps := 1000000) (disch := omega) only [rg, gD, Nat.reduceBEq, Nat.reduceEqDiff, Nat.reduceAdd, Int.reduceEq, Int.reduceLT, Int.reduceLE, Int.reduceToNat, reduceIte, reduceCtorEq, Nat.reduceLeDiff, Nat.reduceLT, Nat.reduceMul, Nat.reduceSub]
      (refine fin_x rfl ?_ ?_ <;> simp [pack, lo, loL, V.closed, closedL, mv_closed, sV, no hf])
    · simp (maxSteps := 1000000) (disch := omega) only [rg, gD, Nat.reduceBEq, Nat.reduceEqDiff, Nat.reduceAdd, Int.reduceEq, Int.reduceLT, Int.reduceLE, Int.reduceToNat, reduceIte, reduceCtorEq, Nat.reduceLeDiff, Nat.reduceLT, Nat.reduceMul, Nat.reduceSub, k]
      refine ⟨_, ref23_text c.key (by omega), ?_⟩
      simp (maxSteps := 1000000) (disch := omega) only [rg, gD, Nat.reduceBEq, Nat.reduceEqDiff, Nat.reduceAdd, Int.reduceEq, Int.reduceLT, Int.reduceLE, Int.reduceToNat, reduceIte, reduceCtorEq, Nat.reduceLeDiff, Nat.reduceLT, Nat.reduceMul, Nat.reduceSub]
      (refine fin_x rfl ?_ ?_ <;> simp [pack, lo, loL, V.closed, closedL, mv_closed, sV, no hf])
    · simp (maxSteps := 1000000) (disch := omega) only [rg, gD, Nat.reduceBEq, Nat.reduceEqDiff, Nat.reduceAdd, Int.reduceEq, Int.reduceLT, Int.reduceLE, Int.reduceToNat, reduceIte, reduceCtorEq, Nat.reduceLeDiff, Nat.reduceLT, Nat.reduceMul, Nat.reduceSub, k]
      refine ⟨_, ref23_number c.time 6 o8, ?_⟩
      simp (maxSteps := 1000000) (disch := omega) only [rg, gD, Nat.reduceBEq, Nat.reduceEqDiff, Nat.reduceAdd, Int.reduceEq, Int.reduceLT, Int.reduceLE, Int.reduceToNat, reduceIte, reduceCtorEq, Nat.reduceLeDiff, Nat.reduceLT, Nat.reduceMul, Nat.reduceSub]
      (refine fin_x rfl ?_ ?_ <;> simp [pack, lo, loL, V.closed, closedL, mv_closed, sV, no hf])
    · by_cases k3 : c.kind = 3
      · simp (maxSteps := 1000000) (disch := omega) only [rg, gD, Nat.reduceBEq, Nat.reduceEqDiff, Nat.reduceAdd, Int.reduceEq, Int.reduceLT, Int.reduceLE, Int.reduceToNat, reduceIte, reduceCtorEq, Nat.reduceLeDiff, Nat.reduceLT, Nat.reduceMul, Nat.reduceSub, k3]
        (refine fin_x rfl ?_ ?_ <;> simp [pack, lo, loL, V.closed, closedL, mv_closed, sV, no hf])
      by_cases k10 : c.kind = 10
      · simp (maxSteps := 1000000) (disch := omega) only [rg, gD, Nat.reduceBEq, Nat.reduceEqDiff, Nat.reduceAdd, Int.reduceEq, Int.reduceLT, Int.reduceLE, Int.reduceToNat, reduceIte, reduceCtorEq, Nat.reduceLeDiff, Nat.reduceLT, Nat.reduceMul, Nat.reduceSub, k10]
        (refine fin_x rfl ?_ ?_ <;> simp [pack, lo, loL, V.closed, closedL, mv_closed, sV, no hf])
      simp (maxSteps := 1000000) (disch := omega) only [rg, gD, Nat.reduceBEq, Nat.reduceEqDiff, Nat.reduceAdd, Int.reduceEq, Int.reduceLT, Int.reduceLE, Int.reduceToNat, reduceIte, reduceCtorEq, Nat.reduceLeDiff, Nat.reduceLT, Nat.reduceMul, Nat.reduceSub, k1, k2, k4, k6, k5, k7, k9, k8, k3, k10]
      (refine fin_x rfl ?_ ?_ <;> simp [pack, lo, loL, V.closed, closedL, mv_closed, sV, no hf])
  simp (maxSteps := 1000000) (disch := omega) only [rg, gD, Nat.reduceBEq, Nat.reduceEqDiff, Nat.reduceAdd, Int.reduceEq, Int.reduceLT, Int.reduceLE, Int.reduceToNat, reduceIte, reduceCtorEq, Nat.reduceLeDiff, Nat.reduceLT, Nat.reduceMul, Nat.reduceSub, c9, cmdV, tasksV, show (c.key.length : Int) ≤ 255 by omega, show (c.name.length : Int) ≤ 255 by omega, show (c.text.length : Int) ≤ 255 by omega]
  refine ⟨_, ref23_six c.token, ?_⟩
  by_cases g0 : 0 ≤ c.token ∧ c.token < 281474976710656
  case neg =>
    have hf : ¬ cmdP c := fun h => g0 ⟨h.2.2.2.1.2.2.2.1, h.2.2.2.1.2.2.2.2.1⟩
    rw [decide_eq_false g0]
    simp (maxSteps := 1000000) (disch := omega) only [rg, gD, Nat.reduceBEq, Nat.reduceEqDiff, Nat.reduceAdd, Int.reduceEq, Int.reduceLT, Int.reduceLE, Int.reduceToNat, reduceIte, reduceCtorEq, Nat.reduceLeDiff, Nat.reduceLT, Nat.reduceMul, Nat.reduceSub]
    rcases kinds c.kind with k | k | k | k | k | k | k | k | ⟨k1, k2, k4, k6, k5, k7, k9, k8⟩
    · simp (maxSteps := 1000000) (disch := omega) only [rg, gD, Nat.reduceBEq, Nat.reduceEqDiff, Nat.reduceAdd, Int.reduceEq, Int.reduceLT, Int.reduceLE, Int.reduceToNat, reduceIte, reduceCtorEq, Nat.reduceLeDiff, Nat.reduceLT, Nat.reduceMul, Nat.reduceSub, k]
      (refine fin_x rfl ?_ ?_ <;> simp [pack, lo, loL, V.closed, closedL, mv_closed, sV, no hf])
    · simp (maxSteps := 1000000) (disch := omega) only [rg, gD, Nat.reduceBEq, Nat.reduceEqDiff, Nat.reduceAdd, Int.reduceEq, Int.reduceLT, Int.reduceLE, Int.reduceToNat, reduceIte, reduceCtorEq, Nat.reduceLeDiff, Nat.reduceLT, Nat.reduceMul, Nat.reduceSub, k]
      refine ⟨_, ref23_text c.key (by omega), ?_⟩
      simp (maxSteps := 1000000) (disch := omega) only [rg, gD, Nat.reduceBEq, Nat.reduceEqDiff, Nat.reduceAdd, Int.reduceEq, Int.reduceLT, Int.reduceLE, Int.reduceToNat, reduceIte, reduceCtorEq, Nat.reduceLeDiff, Nat.reduceLT, Nat.reduceMul, Nat.reduceSub]
      refine ⟨_, ref23_text c.name (by omega), ?_⟩
      simp (maxSteps := 1000000) (disch := omega) only [rg, gD, Nat.reduceBEq, Nat.reduceEqDiff, Nat.reduceAdd, Int.reduceEq, Int.reduceLT, Int.reduceLE, Int.reduceToNat, reduceIte, reduceCtorEq, Nat.reduceLeDiff, Nat.reduceLT, Nat.reduceMul, Nat.reduceSub]
      refine ⟨by omega, ?_⟩
      (refine fin_x rfl ?_ ?_ <;> simp [pack, lo, loL, V.closed, closedL, mv_closed, sV, no hf])
    · simp (maxSteps := 1000000) (disch := omega) only [rg, gD, Nat.reduceBEq, Nat.reduceEqDiff, Nat.reduceAdd, Int.reduceEq, Int.reduceLT, Int.reduceLE, Int.reduceToNat, reduceIte, reduceCtorEq, Nat.reduceLeDiff, Nat.reduceLT, Nat.reduceMul, Nat.reduceSub, k]
      refine ⟨_, ref23_number c.token 6 o7, ?_⟩
      simp (maxSteps := 1000000) (disch := omega) only [rg, gD, Nat.reduceBEq, Nat.reduceEqDiff, Nat.reduceAdd, Int.reduceEq, Int.reduceLT, Int.reduceLE, Int.reduceToNat, reduceIte, reduceCtorEq, Nat.reduceLeDiff, Nat.reduceLT, Nat.reduceMul, Nat.reduceSub]
      (refine fin_x rfl ?_ ?_ <;> simp [pack, lo, loL, V.closed, closedL, mv_closed, sV, no hf])
    · simp (maxSteps := 1000000) (disch := omega) only [rg, gD, Nat.reduceBEq, Nat.reduceEqDiff, Nat.reduceAdd, Int.reduceEq, Int.reduceLT, Int.reduceLE, Int.reduceToNat, reduceIte, reduceCtorEq, Nat.reduceLeDiff, Nat.reduceLT, Nat.reduceMul, Nat.reduceSub, k]
      refine ⟨_, ref23_number c.token 6 o7, ?_⟩
      simp (maxSteps := 1000000) (disch := omega) only [rg, gD, Nat.reduceBEq, Nat.reduceEqDiff, Nat.reduceAdd, Int.reduceEq, Int.reduceLT, Int.reduceLE, Int.reduceToNat, reduceIte, reduceCtorEq, Nat.reduceLeDiff, Nat.reduceLT, Nat.reduceMul, Nat.reduceSub]
      (refine fin_x rfl ?_ ?_ <;> simp [pack, lo, loL, V.closed, closedL, mv_closed, sV, no hf])
    · simp (maxSteps := 1000000) (disch := omega) only [rg, gD, Nat.reduceBEq, Nat.reduceEqDiff, Nat.reduceAdd, Int.reduceEq, Int.reduceLT, Int.reduceLE, Int.reduceToNat, reduceIte, reduceCtorEq, Nat.reduceLeDiff, Nat.reduceLT, Nat.reduceMul, Nat.reduceSub, k]
      refine ⟨_, ref23_number c.token 6 o7, ?_⟩
      simp (maxSteps := 1000000) (disch := omega) only [rg, gD, Nat.reduceBEq, Nat.reduceEqDiff, Nat.reduceAdd, Int.reduceEq, Int.reduceLT, Int.reduceLE, Int.reduceToNat, reduceIte, reduceCtorEq, Nat.reduceLeDiff, Nat.reduceLT, Nat.reduceMul, Nat.reduceSub]
      refine ⟨_, ref23_text c.text (by omega), ?_⟩
      simp (maxSteps := 1000000) (disch := omega) only [rg, gD, Nat.reduceBEq, Nat.reduceEqDiff, Nat.reduceAdd, Int.reduceEq, Int.reduceLT, Int.reduceLE, Int.reduceToNat, reduceIte, reduceCtorEq, Nat.reduceLeDiff, Nat.reduceLT, Nat.reduceMul, Nat.reduceSub]
      refine ⟨by omega, ?_⟩
      (refine fin_x rfl ?_ ?_ <;> simp [pack, lo, loL, V.closed, closedL, mv_closed, sV, no hf])
    · simp (maxSteps := 1000000) (disch := omega) only [rg, gD, Nat.reduceBEq, Nat.reduceEqDiff, Nat.reduceAdd, Int.reduceEq, Int.reduceLT, Int.reduceLE, Int.reduceToNat, reduceIte, reduceCtorEq, Nat.reduceLeDiff, Nat.reduceLT, Nat.reduceMul, Nat.reduceSub, k]
      refine ⟨_, ref23_text c.key (by omega), ?_⟩
      simp (maxSteps := 1000000) (disch := omega) only [rg, gD, Nat.reduceBEq, Nat.reduceEqDiff, Nat.reduceAdd, Int.reduceEq, Int.reduceLT, Int.reduceLE, Int.reduceToNat, reduceIte, reduceCtorEq, Nat.reduceLeDiff, Nat.reduceLT, Nat.reduceMul, Nat.reduceSub]
      (refine fin_x rfl ?_ ?_ <;> simp [pack, lo, loL, V.closed, closedL, mv_closed, sV, no hf])
    · simp (maxSteps := 1000000) (disch := omega) only [rg, gD, Nat.reduceBEq, Nat.reduceEqDiff, Nat.reduceAdd, Int.reduceEq, Int.reduceLT, Int.reduceLE, Int.reduceToNat, reduceIte, reduceCtorEq, Nat.reduceLeDiff, Nat.reduceLT, Nat.reduceMul, Nat.reduceSub, k]
      refine ⟨_, ref23_text c.key (by omega), ?_⟩
      simp (maxSteps := 1000000) (disch := omega) only [rg, gD, Nat.reduceBEq, Nat.reduceEqDiff, Nat.reduceAdd, Int.reduceEq, Int.reduceLT, Int.reduceLE, Int.reduceToNat, reduceIte, reduceCtorEq, Nat.reduceLeDiff, Nat.reduceLT, Nat.reduceMul, Nat.reduceSub]
      (refine fin_x rfl ?_ ?_ <;> simp [pack, lo, loL, V.closed, closedL, mv_closed, sV, no hf])
    · simp (maxSteps := 1000000) (disch := omega) only [rg, gD, Nat.reduceBEq, Nat.reduceEqDiff, Nat.reduceAdd, Int.reduceEq, Int.reduceLT, Int.reduceLE, Int.reduceToNat, reduceIte, reduceCtorEq, Nat.reduceLeDiff, Nat.reduceLT, Nat.reduceMul, Nat.reduceSub, k]
      refine ⟨_, ref23_number c.time 6 o8, ?_⟩
      simp (maxSteps := 1000000) (disch := omega) only [rg, gD, Nat.reduceBEq, Nat.reduceEqDiff, Nat.reduceAdd, Int.reduceEq, Int.reduceLT, Int.reduceLE, Int.reduceToNat, reduceIte, reduceCtorEq, Nat.reduceLeDiff, Nat.reduceLT, Nat.reduceMul, Nat.reduceSub]
      (refine fin_x rfl ?_ ?_ <;> simp [pack, lo, loL, V.closed, closedL, mv_closed, sV, no hf])
    · by_cases k3 : c.kind = 3
      · simp (maxSteps := 1000000) (disch := omega) only [rg, gD, Nat.reduceBEq, Nat.reduceEqDiff, Nat.reduceAdd, Int.reduceEq, Int.reduceLT, Int.reduceLE, Int.reduceToNat, reduceIte, reduceCtorEq, Nat.reduceLeDiff, Nat.reduceLT, Nat.reduceMul, Nat.reduceSub, k3]
        (refine fin_x rfl ?_ ?_ <;> simp [pack, lo, loL, V.closed, closedL, mv_closed, sV, no hf])
      by_cases k10 : c.kind = 10
      · simp (maxSteps := 1000000) (disch := omega) only [rg, gD, Nat.reduceBEq, Nat.reduceEqDiff, Nat.reduceAdd, Int.reduceEq, Int.reduceLT, Int.reduceLE, Int.reduceToNat, reduceIte, reduceCtorEq, Nat.reduceLeDiff, Nat.reduceLT, Nat.reduceMul, Nat.reduceSub, k10]
        (refine fin_x rfl ?_ ?_ <;> simp [pack, lo, loL, V.closed, closedL, mv_closed, sV, no hf])
      simp (maxSteps := 1000000) (disch := omega) only [rg, gD, Nat.reduceBEq, Nat.reduceEqDiff, Nat.reduceAdd, Int.reduceEq, Int.reduceLT, Int.reduceLE, Int.reduceToNat, reduceIte, reduceCtorEq, Nat.reduceLeDiff, Nat.reduceLT, Nat.reduceMul, Nat.reduceSub, k1, k2, k4, k6, k5, k7, k9, k8, k3, k10]
      (refine fin_x rfl ?_ ?_ <;> simp [pack, lo, loL, V.closed, closedL, mv_closed, sV, no hf])
  rw [decide_eq_true g0]
  simp (maxSteps := 1000000) (disch := omega) only [rg, gD, Nat.reduceBEq, Nat.reduceEqDiff, Nat.reduceAdd, Int.reduceEq, Int.reduceLT, Int.reduceLE, Int.reduceToNat, reduceIte, reduceCtorEq, Nat.reduceLeDiff, Nat.reduceLT, Nat.reduceMul, Nat.reduceSub]
  refine ⟨_, ref23_six c.time, ?_⟩
  by_cases g1 : 0 ≤ c.time ∧ c.time < 281474976710656
  case neg =>
    have hf : ¬ cmdP c := fun h => g1 ⟨h.2.2.2.1.2.2.2.2.2.1, h.2.2.2.1.2.2.2.2.2.2⟩
    rw [decide_eq_false g1]
    simp (maxSteps := 1000000) (disch := omega) only [rg, gD, Nat.reduceBEq, Nat.reduceEqDiff, Nat.reduceAdd, Int.reduceEq, Int.reduceLT, Int.reduceLE, Int.reduceToNat, reduceIte, reduceCtorEq, Nat.reduceLeDiff, Nat.reduceLT, Nat.reduceMul, Nat.reduceSub]
    rcases kinds c.kind with k | k | k | k | k | k | k | k | ⟨k1, k2, k4, k6, k5, k7, k9, k8⟩
    · simp (maxSteps := 1000000) (disch := omega) only [rg, gD, Nat.reduceBEq, Nat.reduceEqDiff, Nat.reduceAdd, Int.reduceEq, Int.reduceLT, Int.reduceLE, Int.reduceToNat, reduceIte, reduceCtorEq, Nat.reduceLeDiff, Nat.reduceLT, Nat.reduceMul, Nat.reduceSub, k]
      (refine fin_x rfl ?_ ?_ <;> simp [pack, lo, loL, V.closed, closedL, mv_closed, sV, no hf])
    · simp (maxSteps := 1000000) (disch := omega) only [rg, gD, Nat.reduceBEq, Nat.reduceEqDiff, Nat.reduceAdd, Int.reduceEq, Int.reduceLT, Int.reduceLE, Int.reduceToNat, reduceIte, reduceCtorEq, Nat.reduceLeDiff, Nat.reduceLT, Nat.reduceMul, Nat.reduceSub, k]
      refine ⟨_, ref23_text c.key (by omega), ?_⟩
      simp (maxSteps := 1000000) (disch := omega) only [rg, gD, Nat.reduceBEq, Nat.reduceEqDiff, Nat.reduceAdd, Int.reduceEq, Int.reduceLT, Int.reduceLE, Int.reduceToNat, reduceIte, reduceCtorEq, Nat.reduceLeDiff, Nat.reduceLT, Nat.reduceMul, Nat.reduceSub]
      refine ⟨_, ref23_text c.name (by omega), ?_⟩
      simp (maxSteps := 1000000) (disch := omega) only [rg, gD, Nat.reduceBEq, Nat.reduceEqDiff, Nat.reduceAdd, Int.reduceEq, Int.reduceLT, Int.reduceLE, Int.reduceToNat, reduceIte, reduceCtorEq, Nat.reduceLeDiff, Nat.reduceLT, Nat.reduceMul, Nat.reduceSub]
      refine ⟨by omega, ?_⟩
      (refine fin_x rfl ?_ ?_ <;> simp [pack, lo, loL, V.closed, closedL, mv_closed, sV, no hf])
    · simp (maxSteps := 1000000) (disch := omega) only [rg, gD, Nat.reduceBEq, Nat.reduceEqDiff, Nat.reduceAdd, Int.reduceEq, Int.reduceLT, Int.reduceLE, Int.reduceToNat, reduceIte, reduceCtorEq, Nat.reduceLeDiff, Nat.reduceLT, Nat.reduceMul, Nat.reduceSub, k]
      refine ⟨_, ref23_number c.token 6 o7, ?_⟩
      simp (maxSteps := 1000000) (disch := omega) only [rg, gD, Nat.reduceBEq, Nat.reduceEqDiff, Nat.reduceAdd, Int.reduceEq, Int.reduceLT, Int.reduceLE, Int.reduceToNat, reduceIte, reduceCtorEq, Nat.reduceLeDiff, Nat.reduceLT, Nat.reduceMul, Nat.reduceSub]
      (refine fin_x rfl ?_ ?_ <;> simp [pack, lo, loL, V.closed, closedL, mv_closed, sV, no hf])
    · simp (maxSteps := 1000000) (disch := omega) only [rg, gD, Nat.reduceBEq, Nat.reduceEqDiff, Nat.reduceAdd, Int.reduceEq, Int.reduceLT, Int.reduceLE, Int.reduceToNat, reduceIte, reduceCtorEq, Nat.reduceLeDiff, Nat.reduceLT, Nat.reduceMul, Nat.reduceSub, k]
      refine ⟨_, ref23_number c.token 6 o7, ?_⟩
      simp (maxSteps := 1000000) (disch := omega) only [rg, gD, Nat.reduceBEq, Nat.reduceEqDiff, Nat.reduceAdd, Int.reduceEq, Int.reduceLT, Int.reduceLE, Int.reduceToNat, reduceIte, reduceCtorEq, Nat.reduceLeDiff, Nat.reduceLT, Nat.reduceMul, Nat.reduceSub]
      (refine fin_x rfl ?_ ?_ <;> simp [pack, lo, loL, V.closed, closedL, mv_closed, sV, no hf])
    · simp (maxSteps := 1000000) (disch := omega) only [rg, gD, Nat.reduceBEq, Nat.reduceEqDiff, Nat.reduceAdd, Int.reduceEq, Int.reduceLT, Int.reduceLE, Int.reduceToNat, reduceIte, reduceCtorEq, Nat.reduceLeDiff, Nat.reduceLT, Nat.reduceMul, Nat.reduceSub, k]
      refine ⟨_, ref23_number c.token 6 o7, ?_⟩
      simp (maxSteps := 1000000) (disch := omega) only [rg, gD, Nat.reduceBEq, Nat.reduceEqDiff, Nat.reduceAdd, Int.reduceEq, Int.reduceLT, Int.reduceLE, Int.reduceToNat, reduceIte, reduceCtorEq, Nat.reduceLeDiff, Nat.reduceLT, Nat.reduceMul, Nat.reduceSub]
      refine ⟨_, ref23_text c.text (by omega), ?_⟩
      simp (maxSteps := 1000000) (disch := omega) only [rg, gD, Nat.reduceBEq, Nat.reduceEqDiff, Nat.reduceAdd, Int.reduceEq, Int.reduceLT, Int.reduceLE, Int.reduceToNat, reduceIte, reduceCtorEq, Nat.reduceLeDiff, Nat.reduceLT, Nat.reduceMul, Nat.reduceSub]
      refine ⟨by omega, ?_⟩
      (refine fin_x rfl ?_ ?_ <;> simp [pack, lo, loL, V.closed, closedL, mv_closed, sV, no hf])
    · simp (maxSteps := 1000000) (disch := omega) only [rg, gD, Nat.reduceBEq, Nat.reduceEqDiff, Nat.reduceAdd, Int.reduceEq, Int.reduceLT, Int.reduceLE, Int.reduceToNat, reduceIte, reduceCtorEq, Nat.reduceLeDiff, Nat.reduceLT, Nat.reduceMul, Nat.reduceSub, k]
      refine ⟨_, ref23_text c.key (by omega), ?_⟩
      simp (maxSteps := 1000000) (disch := omega) only [rg, gD, Nat.reduceBEq, Nat.reduceEqDiff, Nat.reduceAdd, Int.reduceEq, Int.reduceLT, Int.reduceLE, Int.reduceToNat, reduceIte, reduceCtorEq, Nat.reduceLeDiff, Nat.reduceLT, Nat.reduceMul, Nat.reduceSub]
      (refine fin_x rfl ?_ ?_ <;> simp [pack, lo, loL, V.closed, closedL, mv_closed, sV, no hf])
    · simp (maxSteps := 1000000) (disch := omega) only [rg, gD, Nat.reduceBEq, Nat.reduceEqDiff, Nat.reduceAdd, Int.reduceEq, Int.reduceLT, Int.reduceLE, Int.reduceToNat, reduceIte, reduceCtorEq, Nat.reduceLeDiff, Nat.reduceLT, Nat.reduceMul, Nat.reduceSub, k]
      refine ⟨_, ref23_text c.key (by omega), ?_⟩
      simp (maxSteps := 1000000) (disch := omega) only [rg, gD, Nat.reduceBEq, Nat.reduceEqDiff, Nat.reduceAdd, Int.reduceEq, Int.reduceLT, Int.reduceLE, Int.reduceToNat, reduceIte, reduceCtorEq, Nat.reduceLeDiff, Nat.reduceLT, Nat.reduceMul, Nat.reduceSub]
      (refine fin_x rfl ?_ ?_ <;> simp [pack, lo, loL, V.closed, closedL, mv_closed, sV, no hf])
    · simp (maxSteps := 1000000) (disch := omega) only [rg, gD, Nat.reduceBEq, Nat.reduceEqDiff, Nat.reduceAdd, Int.reduceEq, Int.reduceLT, Int.reduceLE, Int.reduceToNat, reduceIte, reduceCtorEq, Nat.reduceLeDiff, Nat.reduceLT, Nat.reduceMul, Nat.reduceSub, k]
      refine ⟨_, ref23_number c.time 6 o8, ?_⟩
      simp (maxSteps := 1000000) (disch := omega) only [rg, gD, Nat.reduceBEq, Nat.reduceEqDiff, Nat.reduceAdd, Int.reduceEq, Int.reduceLT, Int.reduceLE, Int.reduceToNat, reduceIte, reduceCtorEq, Nat.reduceLeDiff, Nat.reduceLT, Nat.reduceMul, Nat.reduceSub]
      (refine fin_x rfl ?_ ?_ <;> simp [pack, lo, loL, V.closed, closedL, mv_closed, sV, no hf])
    · by_cases k3 : c.kind = 3
      · simp (maxSteps := 1000000) (disch := omega) only [rg, gD, Nat.reduceBEq, Nat.reduceEqDiff, Nat.reduceAdd, Int.reduceEq, Int.reduceLT, Int.reduceLE, Int.reduceToNat, reduceIte, reduceCtorEq, Nat.reduceLeDiff, Nat.reduceLT, Nat.reduceMul, Nat.reduceSub, k3]
        (refine fin_x rfl ?_ ?_ <;> simp [pack, lo, loL, V.closed, closedL, mv_closed, sV, no hf])
      by_cases k10 : c.kind = 10
      · simp (maxSteps := 1000000) (disch := omega) only [rg, gD, Nat.reduceBEq, Nat.reduceEqDiff, Nat.reduceAdd, Int.reduceEq, Int.reduceLT, Int.reduceLE, Int.reduceToNat, reduceIte, reduceCtorEq, Nat.reduceLeDiff, Nat.reduceLT, Nat.reduceMul, Nat.reduceSub, k10]
        (refine fin_x rfl ?_ ?_ <;> simp [pack, lo, loL, V.closed, closedL, mv_closed, sV, no hf])
      simp (maxSteps := 1000000) (disch := omega) only [rg, gD, Nat.reduceBEq, Nat.reduceEqDiff, Nat.reduceAdd, Int.reduceEq, Int.reduceLT, Int.reduceLE, Int.reduceToNat, reduceIte, reduceCtorEq, Nat.reduceLeDiff, Nat.reduceLT, Nat.reduceMul, Nat.reduceSub, k1, k2, k4, k6, k5, k7, k9, k8, k3, k10]
      (refine fin_x rfl ?_ ?_ <;> simp [pack, lo, loL, V.closed, closedL, mv_closed, sV, no hf])
  rw [decide_eq_true g1]
  simp (maxSteps := 1000000) (disch := omega) only [rg, gD, Nat.reduceBEq, Nat.reduceEqDiff, Nat.reduceAdd, Int.reduceEq, Int.reduceLT, Int.reduceLE, Int.reduceToNat, reduceIte, reduceCtorEq, Nat.reduceLeDiff, Nat.reduceLT, Nat.reduceMul, Nat.reduceSub]
  have hfit : fitP c := ⟨f0, f1, f2, g0.1, g0.2, g1.1, g1.2⟩
  rcases kinds c.kind with k | k | k | k | k | k | k | k | ⟨k1, k2, k4, k6, k5, k7, k9, k8⟩
  · have hbn := b1 k
    simp (maxSteps := 1000000) (disch := omega) only [rg, gD, Nat.reduceBEq, Nat.reduceEqDiff, Nat.reduceAdd, Int.reduceEq, Int.reduceLT, Int.reduceLE, Int.reduceToNat, reduceIte, reduceCtorEq, Nat.reduceLeDiff, Nat.reduceLT, Nat.reduceMul, Nat.reduceSub, k]
    rw [k] at n1
    refine ⟨_, n1, ?_⟩
    by_cases hb : no1P c
    · rw [decide_eq_true hb]
      simp (maxSteps := 1000000) (disch := omega) only [rg, gD, Nat.reduceBEq, Nat.reduceEqDiff, Nat.reduceAdd, Int.reduceEq, Int.reduceLT, Int.reduceLE, Int.reduceToNat, reduceIte, reduceCtorEq, Nat.reduceLeDiff, Nat.reduceLT, Nat.reduceMul, Nat.reduceSub]
      refine ⟨_, kr, ?_⟩
      by_cases hr : refRightS c.dag = 0
      · have hdl := right_fit hr
        have hl : (dagB c.dag).length ≤ 1000 := by
          have h1 := tsksB_len (l := c.dag.tasks) (N := 10) hdl.2.2.2.2
          have h2 := textS_len c.dag.name
          have h3 := putS_len1 c.dag.tasks.length
          simp only [dagB, List.length_append]; omega
        have kp := ref16_put c.dag (by omega) (fun t ht => Nat.le_trans (hdl.2.2.2.2 t ht) (by omega)) (by omega) o6
        unfold dagV tasksV at kp
        have hP : cmdP c := ⟨by omega, by omega, hbn.2 hb, hfit, fun _ => hr⟩
        simp (maxSteps := 1000000) (disch := omega) only [rg, gD, Nat.reduceBEq, Nat.reduceEqDiff, Nat.reduceAdd, Int.reduceEq, Int.reduceLT, Int.reduceLE, Int.reduceToNat, reduceIte, reduceCtorEq, Nat.reduceLeDiff, Nat.reduceLT, Nat.reduceMul, Nat.reduceSub, hr]
        refine ⟨_, kp, ?_⟩
        simp (maxSteps := 1000000) (disch := omega) only [rg, gD, Nat.reduceBEq, Nat.reduceEqDiff, Nat.reduceAdd, Int.reduceEq, Int.reduceLT, Int.reduceLE, Int.reduceToNat, reduceIte, reduceCtorEq, Nat.reduceLeDiff, Nat.reduceLT, Nat.reduceMul, Nat.reduceSub]
        rw [k] at hk1
        refine ⟨_, ref23_number 1 1 (by omega), ?_⟩
        simp (maxSteps := 1000000) (disch := omega) only [rg, gD, Nat.reduceBEq, Nat.reduceEqDiff, Nat.reduceAdd, Int.reduceEq, Int.reduceLT, Int.reduceLE, Int.reduceToNat, reduceIte, reduceCtorEq, Nat.reduceLeDiff, Nat.reduceLT, Nat.reduceMul, Nat.reduceSub]
        refine ⟨by (try simp only [List.length_append, List.length_nil]); omega, ?_⟩
        refine ⟨_, ref_seal _ (by (try simp only [List.length_append, List.length_nil]); omega), ?_⟩
        simp (maxSteps := 1000000) (disch := omega) only [rg, gD, Nat.reduceBEq, Nat.reduceEqDiff, Nat.reduceAdd, Int.reduceEq, Int.reduceLT, Int.reduceLE, Int.reduceToNat, reduceIte, reduceCtorEq, Nat.reduceLeDiff, Nat.reduceLT, Nat.reduceMul, Nat.reduceSub]
        (refine fin_x rfl ?_ ?_ <;> simp [pack, lo, loL, V.closed, closedL, mv_closed, sV, yes hP, cmdBody, k])
      · simp (maxSteps := 1000000) (disch := omega) only [rg, gD, Nat.reduceBEq, Nat.reduceEqDiff, Nat.reduceAdd, Int.reduceEq, Int.reduceLT, Int.reduceLE, Int.reduceToNat, reduceIte, reduceCtorEq, Nat.reduceLeDiff, Nat.reduceLT, Nat.reduceMul, Nat.reduceSub, hr]
        (refine fin_x rfl ?_ ?_ <;> simp [pack, lo, loL, V.closed, closedL, mv_closed, sV, no (fun h => hr (h.2.2.2.2 k))])
    · rw [decide_eq_false hb]
      simp (maxSteps := 1000000) (disch := omega) only [rg, gD, Nat.reduceBEq, Nat.reduceEqDiff, Nat.reduceAdd, Int.reduceEq, Int.reduceLT, Int.reduceLE, Int.reduceToNat, reduceIte, reduceCtorEq, Nat.reduceLeDiff, Nat.reduceLT, Nat.reduceMul, Nat.reduceSub]
      (refine fin_x rfl ?_ ?_ <;> simp [pack, lo, loL, V.closed, closedL, mv_closed, sV, no (fun h => hb (hbn.1 h.2.2.1))])
  · have hbn := b2 k
    simp (maxSteps := 1000000) (disch := omega) only [rg, gD, Nat.reduceBEq, Nat.reduceEqDiff, Nat.reduceAdd, Int.reduceEq, Int.reduceLT, Int.reduceLE, Int.reduceToNat, reduceIte, reduceCtorEq, Nat.reduceLeDiff, Nat.reduceLT, Nat.reduceMul, Nat.reduceSub, k]
    rw [k] at n2
    refine ⟨_, n2, ?_⟩
    by_cases hb : no2P c
    · rw [decide_eq_true hb]
      have hP : cmdP c := ⟨by omega, by omega, hbn.2 hb, hfit, fun h => by omega⟩
      rw [k] at hk1
      simp (maxSteps := 1000000) (disch := omega) only [rg, gD, Nat.reduceBEq, Nat.reduceEqDiff, Nat.reduceAdd, Int.reduceEq, Int.reduceLT, Int.reduceLE, Int.reduceToNat, reduceIte, reduceCtorEq, Nat.reduceLeDiff, Nat.reduceLT, Nat.reduceMul, Nat.reduceSub]
      refine ⟨_, ref23_text c.key (by omega), ?_⟩
      simp (maxSteps := 1000000) (disch := omega) only [rg, gD, Nat.reduceBEq, Nat.reduceEqDiff, Nat.reduceAdd, Int.reduceEq, Int.reduceLT, Int.reduceLE, Int.reduceToNat, reduceIte, reduceCtorEq, Nat.reduceLeDiff, Nat.reduceLT, Nat.reduceMul, Nat.reduceSub]
      refine ⟨_, ref23_text c.name (by omega), ?_⟩
      simp (maxSteps := 1000000) (disch := omega) only [rg, gD, Nat.reduceBEq, Nat.reduceEqDiff, Nat.reduceAdd, Int.reduceEq, Int.reduceLT, Int.reduceLE, Int.reduceToNat, reduceIte, reduceCtorEq, Nat.reduceLeDiff, Nat.reduceLT, Nat.reduceMul, Nat.reduceSub]
      refine ⟨by omega, ?_⟩
      refine ⟨_, ref23_number 2 1 (by omega), ?_⟩
      simp (maxSteps := 1000000) (disch := omega) only [rg, gD, Nat.reduceBEq, Nat.reduceEqDiff, Nat.reduceAdd, Int.reduceEq, Int.reduceLT, Int.reduceLE, Int.reduceToNat, reduceIte, reduceCtorEq, Nat.reduceLeDiff, Nat.reduceLT, Nat.reduceMul, Nat.reduceSub]
      refine ⟨by (try simp only [List.length_append, List.length_nil]); omega, ?_⟩
      refine ⟨_, ref_seal _ (by (try simp only [List.length_append, List.length_nil]); omega), ?_⟩
      simp (maxSteps := 1000000) (disch := omega) only [rg, gD, Nat.reduceBEq, Nat.reduceEqDiff, Nat.reduceAdd, Int.reduceEq, Int.reduceLT, Int.reduceLE, Int.reduceToNat, reduceIte, reduceCtorEq, Nat.reduceLeDiff, Nat.reduceLT, Nat.reduceMul, Nat.reduceSub]
      (refine fin_x rfl ?_ ?_ <;> simp [pack, lo, loL, V.closed, closedL, mv_closed, sV, yes hP, cmdBody, k])
    · rw [decide_eq_false hb]
      simp (maxSteps := 1000000) (disch := omega) only [rg, gD, Nat.reduceBEq, Nat.reduceEqDiff, Nat.reduceAdd, Int.reduceEq, Int.reduceLT, Int.reduceLE, Int.reduceToNat, reduceIte, reduceCtorEq, Nat.reduceLeDiff, Nat.reduceLT, Nat.reduceMul, Nat.reduceSub]
      refine ⟨_, ref23_text c.key (by omega), ?_⟩
      simp (maxSteps := 1000000) (disch := omega) only [rg, gD, Nat.reduceBEq, Nat.reduceEqDiff, Nat.reduceAdd, Int.reduceEq, Int.reduceLT, Int.reduceLE, Int.reduceToNat, reduceIte, reduceCtorEq, Nat.reduceLeDiff, Nat.reduceLT, Nat.reduceMul, Nat.reduceSub]
      refine ⟨_, ref23_text c.name (by omega), ?_⟩
      simp (maxSteps := 1000000) (disch := omega) only [rg, gD, Nat.reduceBEq, Nat.reduceEqDiff, Nat.reduceAdd, Int.reduceEq, Int.reduceLT, Int.reduceLE, Int.reduceToNat, reduceIte, reduceCtorEq, Nat.reduceLeDiff, Nat.reduceLT, Nat.reduceMul, Nat.reduceSub]
      refine ⟨by omega, ?_⟩
      (refine fin_x rfl ?_ ?_ <;> simp [pack, lo, loL, V.closed, closedL, mv_closed, sV, no (fun h => hb (hbn.1 h.2.2.1))])
  · have hbn := b46 (by omega)
    simp (maxSteps := 1000000) (disch := omega) only [rg, gD, Nat.reduceBEq, Nat.reduceEqDiff, Nat.reduceAdd, Int.reduceEq, Int.reduceLT, Int.reduceLE, Int.reduceToNat, reduceIte, reduceCtorEq, Nat.reduceLeDiff, Nat.reduceLT, Nat.reduceMul, Nat.reduceSub, k]
    rw [k] at n46
    refine ⟨_, n46, ?_⟩
    by_cases hb : no46P c
    · rw [decide_eq_true hb]
      have hP : cmdP c := ⟨by omega, by omega, hbn.2 hb, hfit, fun h => by omega⟩
      rw [k] at hk1
      simp (maxSteps := 1000000) (disch := omega) only [rg, gD, Nat.reduceBEq, Nat.reduceEqDiff, Nat.reduceAdd, Int.reduceEq, Int.reduceLT, Int.reduceLE, Int.reduceToNat, reduceIte, reduceCtorEq, Nat.reduceLeDiff, Nat.reduceLT, Nat.reduceMul, Nat.reduceSub]
      refine ⟨_, ref23_number c.token 6 o7, ?_⟩
      simp (maxSteps := 1000000) (disch := omega) only [rg, gD, Nat.reduceBEq, Nat.reduceEqDiff, Nat.reduceAdd, Int.reduceEq, Int.reduceLT, Int.reduceLE, Int.reduceToNat, reduceIte, reduceCtorEq, Nat.reduceLeDiff, Nat.reduceLT, Nat.reduceMul, Nat.reduceSub]
      refine ⟨_, ref23_number 4 1 (by omega), ?_⟩
      simp (maxSteps := 1000000) (disch := omega) only [rg, gD, Nat.reduceBEq, Nat.reduceEqDiff, Nat.reduceAdd, Int.reduceEq, Int.reduceLT, Int.reduceLE, Int.reduceToNat, reduceIte, reduceCtorEq, Nat.reduceLeDiff, Nat.reduceLT, Nat.reduceMul, Nat.reduceSub]
      refine ⟨by (try simp only [List.length_append, List.length_nil]); omega, ?_⟩
      refine ⟨_, ref_seal _ (by (try simp only [List.length_append, List.length_nil]); omega), ?_⟩
      simp (maxSteps := 1000000) (disch := omega) only [rg, gD, Nat.reduceBEq, Nat.reduceEqDiff, Nat.reduceAdd, Int.reduceEq, Int.reduceLT, Int.reduceLE, Int.reduceToNat, reduceIte, reduceCtorEq, Nat.reduceLeDiff, Nat.reduceLT, Nat.reduceMul, Nat.reduceSub]
      (refine fin_x rfl ?_ ?_ <;> simp [pack, lo, loL, V.closed, closedL, mv_closed, sV, yes hP, cmdBody, k])
    · rw [decide_eq_false hb]
      simp (maxSteps := 1000000) (disch := omega) only [rg, gD, Nat.reduceBEq, Nat.reduceEqDiff, Nat.reduceAdd, Int.reduceEq, Int.reduceLT, Int.reduceLE, Int.reduceToNat, reduceIte, reduceCtorEq, Nat.reduceLeDiff, Nat.reduceLT, Nat.reduceMul, Nat.reduceSub]
      refine ⟨_, ref23_number c.token 6 o7, ?_⟩
      simp (maxSteps := 1000000) (disch := omega) only [rg, gD, Nat.reduceBEq, Nat.reduceEqDiff, Nat.reduceAdd, Int.reduceEq, Int.reduceLT, Int.reduceLE, Int.reduceToNat, reduceIte, reduceCtorEq, Nat.reduceLeDiff, Nat.reduceLT, Nat.reduceMul, Nat.reduceSub]
      (refine fin_x rfl ?_ ?_ <;> simp [pack, lo, loL, V.closed, closedL, mv_closed, sV, no (fun h => hb (hbn.1 h.2.2.1))])
  · have hbn := b46 (by omega)
    simp (maxSteps := 1000000) (disch := omega) only [rg, gD, Nat.reduceBEq, Nat.reduceEqDiff, Nat.reduceAdd, Int.reduceEq, Int.reduceLT, Int.reduceLE, Int.reduceToNat, reduceIte, reduceCtorEq, Nat.reduceLeDiff, Nat.reduceLT, Nat.reduceMul, Nat.reduceSub, k]
    rw [k] at n46
    refine ⟨_, n46, ?_⟩
    by_cases hb : no46P c
    · rw [decide_eq_true hb]
      have hP : cmdP c := ⟨by omega, by omega, hbn.2 hb, hfit, fun h => by omega⟩
      rw [k] at hk1
      simp (maxSteps := 1000000) (disch := omega) only [rg, gD, Nat.reduceBEq, Nat.reduceEqDiff, Nat.reduceAdd, Int.reduceEq, Int.reduceLT, Int.reduceLE, Int.reduceToNat, reduceIte, reduceCtorEq, Nat.reduceLeDiff, Nat.reduceLT, Nat.reduceMul, Nat.reduceSub]
      refine ⟨_, ref23_number c.token 6 o7, ?_⟩
      simp (maxSteps := 1000000) (disch := omega) only [rg, gD, Nat.reduceBEq, Nat.reduceEqDiff, Nat.reduceAdd, Int.reduceEq, Int.reduceLT, Int.reduceLE, Int.reduceToNat, reduceIte, reduceCtorEq, Nat.reduceLeDiff, Nat.reduceLT, Nat.reduceMul, Nat.reduceSub]
      refine ⟨_, ref23_number 6 1 (by omega), ?_⟩
      simp (maxSteps := 1000000) (disch := omega) only [rg, gD, Nat.reduceBEq, Nat.reduceEqDiff, Nat.reduceAdd, Int.reduceEq, Int.reduceLT, Int.reduceLE, Int.reduceToNat, reduceIte, reduceCtorEq, Nat.reduceLeDiff, Nat.reduceLT, Nat.reduceMul, Nat.reduceSub]
      refine ⟨by (try simp only [List.length_append, List.length_nil]); omega, ?_⟩
      refine ⟨_, ref_seal _ (by (try simp only [List.length_append, List.length_nil]); omega), ?_⟩
      simp (maxSteps := 1000000) (disch := omega) only [rg, gD, Nat.reduceBEq, Nat.reduceEqDiff, Nat.reduceAdd, Int.reduceEq, Int.reduceLT, Int.reduceLE, Int.reduceToNat, reduceIte, reduceCtorEq, Nat.reduceLeDiff, Nat.reduceLT, Nat.reduceMul, Nat.reduceSub]
      (refine fin_x rfl ?_ ?_ <;> simp [pack, lo, loL, V.closed, closedL, mv_closed, sV, yes hP, cmdBody, k])
    · rw [decide_eq_false hb]
      simp (maxSteps := 1000000) (disch := omega) only [rg, gD, Nat.reduceBEq, Nat.reduceEqDiff, Nat.reduceAdd, Int.reduceEq, Int.reduceLT, Int.reduceLE, Int.reduceToNat, reduceIte, reduceCtorEq, Nat.reduceLeDiff, Nat.reduceLT, Nat.reduceMul, Nat.reduceSub]
      refine ⟨_, ref23_number c.token 6 o7, ?_⟩
      simp (maxSteps := 1000000) (disch := omega) only [rg, gD, Nat.reduceBEq, Nat.reduceEqDiff, Nat.reduceAdd, Int.reduceEq, Int.reduceLT, Int.reduceLE, Int.reduceToNat, reduceIte, reduceCtorEq, Nat.reduceLeDiff, Nat.reduceLT, Nat.reduceMul, Nat.reduceSub]
      (refine fin_x rfl ?_ ?_ <;> simp [pack, lo, loL, V.closed, closedL, mv_closed, sV, no (fun h => hb (hbn.1 h.2.2.1))])
  · have hbn := b5 k
    simp (maxSteps := 1000000) (disch := omega) only [rg, gD, Nat.reduceBEq, Nat.reduceEqDiff, Nat.reduceAdd, Int.reduceEq, Int.reduceLT, Int.reduceLE, Int.reduceToNat, reduceIte, reduceCtorEq, Nat.reduceLeDiff, Nat.reduceLT, Nat.reduceMul, Nat.reduceSub, k]
    rw [k] at n5
    refine ⟨_, n5, ?_⟩
    by_cases hb : no5P c
    · rw [decide_eq_true hb]
      have hP : cmdP c := ⟨by omega, by omega, hbn.2 hb, hfit, fun h => by omega⟩
      rw [k] at hk1
      simp (maxSteps := 1000000) (disch := omega) only [rg, gD, Nat.reduceBEq, Nat.reduceEqDiff, Nat.reduceAdd, Int.reduceEq, Int.reduceLT, Int.reduceLE, Int.reduceToNat, reduceIte, reduceCtorEq, Nat.reduceLeDiff, Nat.reduceLT, Nat.reduceMul, Nat.reduceSub]
      refine ⟨_, ref23_number c.token 6 o7, ?_⟩
      simp (maxSteps := 1000000) (disch := omega) only [rg, gD, Nat.reduceBEq, Nat.reduceEqDiff, Nat.reduceAdd, Int.reduceEq, Int.reduceLT, Int.reduceLE, Int.reduceToNat, reduceIte, reduceCtorEq, Nat.reduceLeDiff, Nat.reduceLT, Nat.reduceMul, Nat.reduceSub]
      refine ⟨_, ref23_text c.text (by omega), ?_⟩
      simp (maxSteps := 1000000) (disch := omega) only [rg, gD, Nat.reduceBEq, Nat.reduceEqDiff, Nat.reduceAdd, Int.reduceEq, Int.reduceLT, Int.reduceLE, Int.reduceToNat, reduceIte, reduceCtorEq, Nat.reduceLeDiff, Nat.reduceLT, Nat.reduceMul, Nat.reduceSub]
      refine ⟨by omega, ?_⟩
      refine ⟨_, ref23_number 5 1 (by omega), ?_⟩
      simp (maxSteps := 1000000) (disch := omega) only [rg, gD, Nat.reduceBEq, Nat.reduceEqDiff, Nat.reduceAdd, Int.reduceEq, Int.reduceLT, Int.reduceLE, Int.reduceToNat, reduceIte, reduceCtorEq, Nat.reduceLeDiff, Nat.reduceLT, Nat.reduceMul, Nat.reduceSub]
      refine ⟨by (try simp only [List.length_append, List.length_nil]); omega, ?_⟩
      refine ⟨_, ref_seal _ (by (try simp only [List.length_append, List.length_nil]); omega), ?_⟩
      simp (maxSteps := 1000000) (disch := omega) only [rg, gD, Nat.reduceBEq, Nat.reduceEqDiff, Nat.reduceAdd, Int.reduceEq, Int.reduceLT, Int.reduceLE, Int.reduceToNat, reduceIte, reduceCtorEq, Nat.reduceLeDiff, Nat.reduceLT, Nat.reduceMul, Nat.reduceSub]
      (refine fin_x rfl ?_ ?_ <;> simp [pack, lo, loL, V.closed, closedL, mv_closed, sV, yes hP, cmdBody, k])
    · rw [decide_eq_false hb]
      simp (maxSteps := 1000000) (disch := omega) only [rg, gD, Nat.reduceBEq, Nat.reduceEqDiff, Nat.reduceAdd, Int.reduceEq, Int.reduceLT, Int.reduceLE, Int.reduceToNat, reduceIte, reduceCtorEq, Nat.reduceLeDiff, Nat.reduceLT, Nat.reduceMul, Nat.reduceSub]
      refine ⟨_, ref23_number c.token 6 o7, ?_⟩
      simp (maxSteps := 1000000) (disch := omega) only [rg, gD, Nat.reduceBEq, Nat.reduceEqDiff, Nat.reduceAdd, Int.reduceEq, Int.reduceLT, Int.reduceLE, Int.reduceToNat, reduceIte, reduceCtorEq, Nat.reduceLeDiff, Nat.reduceLT, Nat.reduceMul, Nat.reduceSub]
      refine ⟨_, ref23_text c.text (by omega), ?_⟩
      simp (maxSteps := 1000000) (disch := omega) only [rg, gD, Nat.reduceBEq, Nat.reduceEqDiff, Nat.reduceAdd, Int.reduceEq, Int.reduceLT, Int.reduceLE, Int.reduceToNat, reduceIte, reduceCtorEq, Nat.reduceLeDiff, Nat.reduceLT, Nat.reduceMul, Nat.reduceSub]
      refine ⟨by omega, ?_⟩
      (refine fin_x rfl ?_ ?_ <;> simp [pack, lo, loL, V.closed, closedL, mv_closed, sV, no (fun h => hb (hbn.1 h.2.2.1))])
  · have hbn := b79 (by omega)
    simp (maxSteps := 1000000) (disch := omega) only [rg, gD, Nat.reduceBEq, Nat.reduceEqDiff, Nat.reduceAdd, Int.reduceEq, Int.reduceLT, Int.reduceLE, Int.reduceToNat, reduceIte, reduceCtorEq, Nat.reduceLeDiff, Nat.reduceLT, Nat.reduceMul, Nat.reduceSub, k]
    rw [k] at n79
    refine ⟨_, n79, ?_⟩
    by_cases hb : no79P c
    · rw [decide_eq_true hb]
      have hP : cmdP c := ⟨by omega, by omega, hbn.2 hb, hfit, fun h => by omega⟩
      rw [k] at hk1
      simp (maxSteps := 1000000) (disch := omega) only [rg, gD, Nat.reduceBEq, Nat.reduceEqDiff, Nat.reduceAdd, Int.reduceEq, Int.reduceLT, Int.reduceLE, Int.reduceToNat, reduceIte, reduceCtorEq, Nat.reduceLeDiff, Nat.reduceLT, Nat.reduceMul, Nat.reduceSub]
      refine ⟨_, ref23_text c.key (by omega), ?_⟩
      simp (maxSteps := 1000000) (disch := omega) only [rg, gD, Nat.reduceBEq, Nat.reduceEqDiff, Nat.reduceAdd, Int.reduceEq, Int.reduceLT, Int.reduceLE, Int.reduceToNat, reduceIte, reduceCtorEq, Nat.reduceLeDiff, Nat.reduceLT, Nat.reduceMul, Nat.reduceSub]
      refine ⟨_, ref23_number 7 1 (by omega), ?_⟩
      simp (maxSteps := 1000000) (disch := omega) only [rg, gD, Nat.reduceBEq, Nat.reduceEqDiff, Nat.reduceAdd, Int.reduceEq, Int.reduceLT, Int.reduceLE, Int.reduceToNat, reduceIte, reduceCtorEq, Nat.reduceLeDiff, Nat.reduceLT, Nat.reduceMul, Nat.reduceSub]
      refine ⟨by (try simp only [List.length_append, List.length_nil]); omega, ?_⟩
      refine ⟨_, ref_seal _ (by (try simp only [List.length_append, List.length_nil]); omega), ?_⟩
      simp (maxSteps := 1000000) (disch := omega) only [rg, gD, Nat.reduceBEq, Nat.reduceEqDiff, Nat.reduceAdd, Int.reduceEq, Int.reduceLT, Int.reduceLE, Int.reduceToNat, reduceIte, reduceCtorEq, Nat.reduceLeDiff, Nat.reduceLT, Nat.reduceMul, Nat.reduceSub]
      (refine fin_x rfl ?_ ?_ <;> simp [pack, lo, loL, V.closed, closedL, mv_closed, sV, yes hP, cmdBody, k])
    · rw [decide_eq_false hb]
      simp (maxSteps := 1000000) (disch := omega) only [rg, gD, Nat.reduceBEq, Nat.reduceEqDiff, Nat.reduceAdd, Int.reduceEq, Int.reduceLT, Int.reduceLE, Int.reduceToNat, reduceIte, reduceCtorEq, Nat.reduceLeDiff, Nat.reduceLT, Nat.reduceMul, Nat.reduceSub]
      refine ⟨_, ref23_text c.key (by omega), ?_⟩
      simp (maxSteps := 1000000) (disch := omega) only [rg, gD, Nat.reduceBEq, Nat.reduceEqDiff, Nat.reduceAdd, Int.reduceEq, Int.reduceLT, Int.reduceLE, Int.reduceToNat, reduceIte, reduceCtorEq, Nat.reduceLeDiff, Nat.reduceLT, Nat.reduceMul, Nat.reduceSub]
      (refine fin_x rfl ?_ ?_ <;> simp [pack, lo, loL, V.closed, closedL, mv_closed, sV, no (fun h => hb (hbn.1 h.2.2.1))])
  · have hbn := b79 (by omega)
    simp (maxSteps := 1000000) (disch := omega) only [rg, gD, Nat.reduceBEq, Nat.reduceEqDiff, Nat.reduceAdd, Int.reduceEq, Int.reduceLT, Int.reduceLE, Int.reduceToNat, reduceIte, reduceCtorEq, Nat.reduceLeDiff, Nat.reduceLT, Nat.reduceMul, Nat.reduceSub, k]
    rw [k] at n79
    refine ⟨_, n79, ?_⟩
    by_cases hb : no79P c
    · rw [decide_eq_true hb]
      have hP : cmdP c := ⟨by omega, by omega, hbn.2 hb, hfit, fun h => by omega⟩
      rw [k] at hk1
      simp (maxSteps := 1000000) (disch := omega) only [rg, gD, Nat.reduceBEq, Nat.reduceEqDiff, Nat.reduceAdd, Int.reduceEq, Int.reduceLT, Int.reduceLE, Int.reduceToNat, reduceIte, reduceCtorEq, Nat.reduceLeDiff, Nat.reduceLT, Nat.reduceMul, Nat.reduceSub]
      refine ⟨_, ref23_text c.key (by omega), ?_⟩
      simp (maxSteps := 1000000) (disch := omega) only [rg, gD, Nat.reduceBEq, Nat.reduceEqDiff, Nat.reduceAdd, Int.reduceEq, Int.reduceLT, Int.reduceLE, Int.reduceToNat, reduceIte, reduceCtorEq, Nat.reduceLeDiff, Nat.reduceLT, Nat.reduceMul, Nat.reduceSub]
      refine ⟨_, ref23_number 9 1 (by omega), ?_⟩
      simp (maxSteps := 1000000) (disch := omega) only [rg, gD, Nat.reduceBEq, Nat.reduceEqDiff, Nat.reduceAdd, Int.reduceEq, Int.reduceLT, Int.reduceLE, Int.reduceToNat, reduceIte, reduceCtorEq, Nat.reduceLeDiff, Nat.reduceLT, Nat.reduceMul, Nat.reduceSub]
      refine ⟨by (try simp only [List.length_append, List.length_nil]); omega, ?_⟩
      refine ⟨_, ref_seal _ (by (try simp only [List.length_append, List.length_nil]); omega), ?_⟩
      simp (maxSteps := 1000000) (disch := omega) only [rg, gD, Nat.reduceBEq, Nat.reduceEqDiff, Nat.reduceAdd, Int.reduceEq, Int.reduceLT, Int.reduceLE, Int.reduceToNat, reduceIte, reduceCtorEq, Nat.reduceLeDiff, Nat.reduceLT, Nat.reduceMul, Nat.reduceSub]
      (refine fin_x rfl ?_ ?_ <;> simp [pack, lo, loL, V.closed, closedL, mv_closed, sV, yes hP, cmdBody, k])
    · rw [decide_eq_false hb]
      simp (maxSteps := 1000000) (disch := omega) only [rg, gD, Nat.reduceBEq, Nat.reduceEqDiff, Nat.reduceAdd, Int.reduceEq, Int.reduceLT, Int.reduceLE, Int.reduceToNat, reduceIte, reduceCtorEq, Nat.reduceLeDiff, Nat.reduceLT, Nat.reduceMul, Nat.reduceSub]
      refine ⟨_, ref23_text c.key (by omega), ?_⟩
      simp (maxSteps := 1000000) (disch := omega) only [rg, gD, Nat.reduceBEq, Nat.reduceEqDiff, Nat.reduceAdd, Int.reduceEq, Int.reduceLT, Int.reduceLE, Int.reduceToNat, reduceIte, reduceCtorEq, Nat.reduceLeDiff, Nat.reduceLT, Nat.reduceMul, Nat.reduceSub]
      (refine fin_x rfl ?_ ?_ <;> simp [pack, lo, loL, V.closed, closedL, mv_closed, sV, no (fun h => hb (hbn.1 h.2.2.1))])
  · have hbn := b8 k
    simp (maxSteps := 1000000) (disch := omega) only [rg, gD, Nat.reduceBEq, Nat.reduceEqDiff, Nat.reduceAdd, Int.reduceEq, Int.reduceLT, Int.reduceLE, Int.reduceToNat, reduceIte, reduceCtorEq, Nat.reduceLeDiff, Nat.reduceLT, Nat.reduceMul, Nat.reduceSub, k]
    rw [k] at n8
    refine ⟨_, n8, ?_⟩
    by_cases hb : no8P c
    · rw [decide_eq_true hb]
      have hP : cmdP c := ⟨by omega, by omega, hbn.2 hb, hfit, fun h => by omega⟩
      rw [k] at hk1
      simp (maxSteps := 1000000) (disch := omega) only [rg, gD, Nat.reduceBEq, Nat.reduceEqDiff, Nat.reduceAdd, Int.reduceEq, Int.reduceLT, Int.reduceLE, Int.reduceToNat, reduceIte, reduceCtorEq, Nat.reduceLeDiff, Nat.reduceLT, Nat.reduceMul, Nat.reduceSub]
      refine ⟨_, ref23_number c.time 6 o8, ?_⟩
      simp (maxSteps := 1000000) (disch := omega) only [rg, gD, Nat.reduceBEq, Nat.reduceEqDiff, Nat.reduceAdd, Int.reduceEq, Int.reduceLT, Int.reduceLE, Int.reduceToNat, reduceIte, reduceCtorEq, Nat.reduceLeDiff, Nat.reduceLT, Nat.reduceMul, Nat.reduceSub]
      refine ⟨_, ref23_number 8 1 (by omega), ?_⟩
      simp (maxSteps := 1000000) (disch := omega) only [rg, gD, Nat.reduceBEq, Nat.reduceEqDiff, Nat.reduceAdd, Int.reduceEq, Int.reduceLT, Int.reduceLE, Int.reduceToNat, reduceIte, reduceCtorEq, Nat.reduceLeDiff, Nat.reduceLT, Nat.reduceMul, Nat.reduceSub]
      refine ⟨by (try simp only [List.length_append, List.length_nil]); omega, ?_⟩
      refine ⟨_, ref_seal _ (by (try simp only [List.length_append, List.length_nil]); omega), ?_⟩
      simp (maxSteps := 1000000) (disch := omega) only [rg, gD, Nat.reduceBEq, Nat.reduceEqDiff, Nat.reduceAdd, Int.reduceEq, Int.reduceLT, Int.reduceLE, Int.reduceToNat, reduceIte, reduceCtorEq, Nat.reduceLeDiff, Nat.reduceLT, Nat.reduceMul, Nat.reduceSub]
      (refine fin_x rfl ?_ ?_ <;> simp [pack, lo, loL, V.closed, closedL, mv_closed, sV, yes hP, cmdBody, k])
    · rw [decide_eq_false hb]
      simp (maxSteps := 1000000) (disch := omega) only [rg, gD, Nat.reduceBEq, Nat.reduceEqDiff, Nat.reduceAdd, Int.reduceEq, Int.reduceLT, Int.reduceLE, Int.reduceToNat, reduceIte, reduceCtorEq, Nat.reduceLeDiff, Nat.reduceLT, Nat.reduceMul, Nat.reduceSub]
      refine ⟨_, ref23_number c.time 6 o8, ?_⟩
      simp (maxSteps := 1000000) (disch := omega) only [rg, gD, Nat.reduceBEq, Nat.reduceEqDiff, Nat.reduceAdd, Int.reduceEq, Int.reduceLT, Int.reduceLE, Int.reduceToNat, reduceIte, reduceCtorEq, Nat.reduceLeDiff, Nat.reduceLT, Nat.reduceMul, Nat.reduceSub]
      (refine fin_x rfl ?_ ?_ <;> simp [pack, lo, loL, V.closed, closedL, mv_closed, sV, no (fun h => hb (hbn.1 h.2.2.1))])
  · by_cases kx3 : c.kind = 3
    · have k := kx3
      have hbn := b0 (by omega)
      simp (maxSteps := 1000000) (disch := omega) only [rg, gD, Nat.reduceBEq, Nat.reduceEqDiff, Nat.reduceAdd, Int.reduceEq, Int.reduceLT, Int.reduceLE, Int.reduceToNat, reduceIte, reduceCtorEq, Nat.reduceLeDiff, Nat.reduceLT, Nat.reduceMul, Nat.reduceSub, k]
      rw [k] at n0
      refine ⟨_, n0, ?_⟩
      by_cases hb : no0P c
      · rw [decide_eq_true hb]
        have hP : cmdP c := ⟨by omega, by omega, hbn.2 hb, hfit, fun h => by omega⟩
        rw [k] at hk1
        simp (maxSteps := 1000000) (disch := omega) only [rg, gD, Nat.reduceBEq, Nat.reduceEqDiff, Nat.reduceAdd, Int.reduceEq, Int.reduceLT, Int.reduceLE, Int.reduceToNat, reduceIte, reduceCtorEq, Nat.reduceLeDiff, Nat.reduceLT, Nat.reduceMul, Nat.reduceSub]
        refine ⟨_, ref23_number 3 1 (by omega), ?_⟩
        simp (maxSteps := 1000000) (disch := omega) only [rg, gD, Nat.reduceBEq, Nat.reduceEqDiff, Nat.reduceAdd, Int.reduceEq, Int.reduceLT, Int.reduceLE, Int.reduceToNat, reduceIte, reduceCtorEq, Nat.reduceLeDiff, Nat.reduceLT, Nat.reduceMul, Nat.reduceSub]
        refine ⟨by (try simp only [List.length_append, List.length_nil]); omega, ?_⟩
        refine ⟨_, ref_seal _ (by (try simp only [List.length_append, List.length_nil]); omega), ?_⟩
        simp (maxSteps := 1000000) (disch := omega) only [rg, gD, Nat.reduceBEq, Nat.reduceEqDiff, Nat.reduceAdd, Int.reduceEq, Int.reduceLT, Int.reduceLE, Int.reduceToNat, reduceIte, reduceCtorEq, Nat.reduceLeDiff, Nat.reduceLT, Nat.reduceMul, Nat.reduceSub]
        (refine fin_x rfl ?_ ?_ <;> simp [pack, lo, loL, V.closed, closedL, mv_closed, sV, yes hP, cmdBody, k])
      · rw [decide_eq_false hb]
        simp (maxSteps := 1000000) (disch := omega) only [rg, gD, Nat.reduceBEq, Nat.reduceEqDiff, Nat.reduceAdd, Int.reduceEq, Int.reduceLT, Int.reduceLE, Int.reduceToNat, reduceIte, reduceCtorEq, Nat.reduceLeDiff, Nat.reduceLT, Nat.reduceMul, Nat.reduceSub]
        (refine fin_x rfl ?_ ?_ <;> simp [pack, lo, loL, V.closed, closedL, mv_closed, sV, no (fun h => hb (hbn.1 h.2.2.1))])
    by_cases kx10 : c.kind = 10
    · have k := kx10
      have hbn := b0 (by omega)
      simp (maxSteps := 1000000) (disch := omega) only [rg, gD, Nat.reduceBEq, Nat.reduceEqDiff, Nat.reduceAdd, Int.reduceEq, Int.reduceLT, Int.reduceLE, Int.reduceToNat, reduceIte, reduceCtorEq, Nat.reduceLeDiff, Nat.reduceLT, Nat.reduceMul, Nat.reduceSub, k]
      rw [k] at n0
      refine ⟨_, n0, ?_⟩
      by_cases hb : no0P c
      · rw [decide_eq_true hb]
        have hP : cmdP c := ⟨by omega, by omega, hbn.2 hb, hfit, fun h => by omega⟩
        rw [k] at hk1
        simp (maxSteps := 1000000) (disch := omega) only [rg, gD, Nat.reduceBEq, Nat.reduceEqDiff, Nat.reduceAdd, Int.reduceEq, Int.reduceLT, Int.reduceLE, Int.reduceToNat, reduceIte, reduceCtorEq, Nat.reduceLeDiff, Nat.reduceLT, Nat.reduceMul, Nat.reduceSub]
        refine ⟨_, ref23_number 10 1 (by omega), ?_⟩
        simp (maxSteps := 1000000) (disch := omega) only [rg, gD, Nat.reduceBEq, Nat.reduceEqDiff, Nat.reduceAdd, Int.reduceEq, Int.reduceLT, Int.reduceLE, Int.reduceToNat, reduceIte, reduceCtorEq, Nat.reduceLeDiff, Nat.reduceLT, Nat.reduceMul, Nat.reduceSub]
        refine ⟨by (try simp only [List.length_append, List.length_nil]); omega, ?_⟩
        refine ⟨_, ref_seal _ (by (try simp only [List.length_append, List.length_nil]); omega), ?_⟩
        simp (maxSteps := 1000000) (disch := omega) only [rg, gD, Nat.reduceBEq, Nat.reduceEqDiff, Nat.reduceAdd, Int.reduceEq, Int.reduceLT, Int.reduceLE, Int.reduceToNat, reduceIte, reduceCtorEq, Nat.reduceLeDiff, Nat.reduceLT, Nat.reduceMul, Nat.reduceSub]
        (refine fin_x rfl ?_ ?_ <;> simp [pack, lo, loL, V.closed, closedL, mv_closed, sV, yes hP, cmdBody, k])
      · rw [decide_eq_false hb]
        simp (maxSteps := 1000000) (disch := omega) only [rg, gD, Nat.reduceBEq, Nat.reduceEqDiff, Nat.reduceAdd, Int.reduceEq, Int.reduceLT, Int.reduceLE, Int.reduceToNat, reduceIte, reduceCtorEq, Nat.reduceLeDiff, Nat.reduceLT, Nat.reduceMul, Nat.reduceSub]
        (refine fin_x rfl ?_ ?_ <;> simp [pack, lo, loL, V.closed, closedL, mv_closed, sV, no (fun h => hb (hbn.1 h.2.2.1))])
    simp (maxSteps := 1000000) (disch := omega) only [rg, gD, Nat.reduceBEq, Nat.reduceEqDiff, Nat.reduceAdd, Int.reduceEq, Int.reduceLT, Int.reduceLE, Int.reduceToNat, reduceIte, reduceCtorEq, Nat.reduceLeDiff, Nat.reduceLT, Nat.reduceMul, Nat.reduceSub, k1, k2, k4, k6, k5, k7, k9, k8, kx3, kx10]
    (refine fin_x rfl ?_ ?_ <;> simp [pack, lo, loL, V.closed, closedL, mv_closed, sV, no (fun h => by have := h.1; have := h.2.1; omega)])

end Go.Proofs.Ytjlpmndipceboaa.Ev
end
section
set_option linter.unusedSimpArgs false
set_option linter.unusedVariables false
set_option maxRecDepth 10000
namespace Go.Proofs.Ytjlpmndipceboaa.Ev
open Go

theorem nextS_big (p : Str) (r : Int × Int) (k : Int) (h0 : 0 ≤ k ∧ k ≤ 6) : (nextS p r k).1 ≤ 9223372036854775807 := by
  unfold nextS; split
  · by_cases c : (getS p r.1 k).2.2 = 0
    · obtain ⟨_, _, _, _, _, h, _⟩ := getS_ok c
      have := (putS_ok.1 (by rw [h] : (putS (getS p r.1 k).1 k).2 = 0)).2.2.2
      have h2 : (256 : Int) ^ k.toNat ≤ 256 ^ 6 := by
        have : (256 : Nat) ^ k.toNat ≤ 256 ^ 6 := Nat.pow_le_pow_right (by omega) (by omega)
        exact_mod_cast this
      have h3 : (256 : Int) ^ 6 = 281474976710656 := rfl
      omega
    · rcases getS_cases p r.1 k with (h | h) | ⟨_, _, _, _, h⟩
      · rw [h]; simp
      · rw [h]; simp
      · rw [h] at c; simp at c
  · simp
theorem rdInts_ok64 (s : Str) : ∀ (k : Nat) (r : Int × Int), ∀ x ∈ (rdInts s k r).1, okInt x
  | 0, r => by simp [rdInts]
  | k + 1, r => by
    rw [rdInts]; split
    · intro x hx
      rcases List.mem_cons.1 hx with rfl | hx
      · exact nextS_big s r 1 (by omega)
      · exact rdInts_ok64 s k _ x hx
    · simp
theorem rdTasks_ok64 (s : Str) : ∀ (k : Nat) (r : Int × Int), ∀ t ∈ (rdTasks s k r).1, (∀ x ∈ t.needs, okInt x) ∧ okInt t.tries ∧ okInt t.wait ∧ okInt t.lease
  | 0, r => by simp [rdTasks]
  | k + 1, r => by
    rw [rdTasks]; split
    · intro t ht
      rcases List.mem_cons.1 ht with rfl | ht
      · exact ⟨rdInts_ok64 s _ _, nextS_big s _ 1 (by omega), nextS_big s _ 3 (by omega), nextS_big s _ 3 (by omega)⟩
      · exact rdTasks_ok64 s k _ t ht
    · simp
theorem txtS_len (p : Str) (r : Int × Int) : (txtS p r).1.length ≤ p.length := by
  unfold txtS; split
  · exact cutS_len _ _
  · simp
theorem rawR_ok (p : Str) (hp : p.length ≤ 1000000) : okCmd (rawR p) := by
  have z : okDagN zeroD := fun t ht => by simp [zeroD] at ht
  have zt : ∀ t ∈ zeroD.tasks, t.needs.length ≤ 4611686018427387904 := fun t ht => by simp [zeroD] at ht
  have hd := rdDag_len p (nextS p (0, 0) 1).2
  unfold rawR
  simp only
  have b1 := fun r => Nat.le_trans (txtS_len p r) hp
  have b2 := fun r => nextS_big p r 6 (by omega)
  split
  · exact ⟨by simp, by simp, by simp, by simp only; omega, fun t ht => Nat.le_trans (hd.2.1 t ht) (by omega), rdTasks_ok64 p _ _, by simp [okCmdI]⟩
  split
  · exact ⟨b1 _, b1 _, by simp, by simp [zeroD], zt, z, by simp [okCmdI]⟩
  split
  · exact ⟨by simp, by simp, by simp, by simp [zeroD], zt, z, by simpa [okCmdI] using b2 _⟩
  split
  · exact ⟨by simp, by simp, b1 _, by simp [zeroD], zt, z, by simpa [okCmdI] using b2 _⟩
  split
  · exact ⟨b1 _, by simp, by simp, by simp [zeroD], zt, z, by simp [okCmdI]⟩
  split
  · exact ⟨by simp, by simp, by simp, by simp [zeroD], zt, z, by simpa [okCmdI] using b2 _⟩
  · exact ⟨by simp, by simp, by simp, by simp [zeroD], zt, z, by simp [okCmdI]⟩

theorem ref23_read (s : Str) (hs : s.length ≤ 1000000) : PCall Try.prog 40 [.str s] (cmdV (rawR s)) := by
  refine en40 (by simp) (by simp [closedL, V.closed]) ?_
  simp (maxSteps := 1000000) (disch := omega) only [rg, gD, Nat.reduceBEq, Nat.reduceEqDiff, Nat.reduceAdd, Int.reduceEq, Int.reduceLT, Int.reduceLE, Int.reduceToNat, reduceIte, reduceCtorEq, Nat.reduceLeDiff, Nat.reduceLT, Nat.reduceMul, Nat.reduceSub, c40]
  refine ⟨_, _, _, _, r_next _ 1 s (0, 0) 1 (by omega) (by simp) (by simp (disch := omega) only [upd_eq, upd_ne, wo_0, wo_1, wo_2, rdV]), ?_⟩
  simp (maxSteps := 1000000) (disch := omega) only [rg, gD, Nat.reduceBEq, Nat.reduceEqDiff, Nat.reduceAdd, Int.reduceEq, Int.reduceLT, Int.reduceLE, Int.reduceToNat, reduceIte, reduceCtorEq, Nat.reduceLeDiff, Nat.reduceLT, Nat.reduceMul, Nat.reduceSub]
  have hR : rawR s = rawR s := rfl
  conv at hR => rhs; unfold rawR
  simp only at hR
  generalize nextS s (0, 0) 1 = k at hR
  obtain ⟨kn, kr⟩ := k
  simp only at hR
  rcases kinds kn with e | e | e | e | e | e | e | e | ⟨k1, k2, k4, k6, k5, k7, k9, k8⟩
  · subst e
    simp only [Int.reduceEq, if_false, if_true, reduceCtorEq, or_false, false_or, or_true, true_or, or_self] at hR
    simp only []
    simp (maxSteps := 1000000) (disch := omega) only [rg, gD, Nat.reduceBEq, Nat.reduceEqDiff, Nat.reduceAdd, Int.reduceEq, Int.reduceLT, Int.reduceLE, Int.reduceToNat, reduceIte, reduceCtorEq, Nat.reduceLeDiff, Nat.reduceLT, Nat.reduceMul, Nat.reduceSub]
    refine ⟨_, _, _, _, r_read _ 1 s (kr) (by omega) (by simp) (by simp (disch := omega) only [upd_eq, upd_ne, wo_0, wo_1, wo_2]), ?_⟩
    simp (maxSteps := 1000000) (disch := omega) only [rg, gD, Nat.reduceBEq, Nat.reduceEqDiff, Nat.reduceAdd, Int.reduceEq, Int.reduceLT, Int.reduceLE, Int.reduceToNat, reduceIte, reduceCtorEq, Nat.reduceLeDiff, Nat.reduceLT, Nat.reduceMul, Nat.reduceSub, dagV, tasksV]
    generalize rdDag s (kr) = x at hR
    (refine fin_x rfl ?_ ?_ <;> simp [pack, lo, loL, V.closed, closedL, mv_closed, hR, cmdV, tasksV, mv_closed taskV_closed, mv_lo taskV_lo])
  · subst e
    simp only [Int.reduceEq, if_false, if_true, reduceCtorEq, or_false, false_or, or_true, true_or, or_self] at hR
    simp only []
    simp (maxSteps := 1000000) (disch := omega) only [rg, gD, Nat.reduceBEq, Nat.reduceEqDiff, Nat.reduceAdd, Int.reduceEq, Int.reduceLT, Int.reduceLE, Int.reduceToNat, reduceIte, reduceCtorEq, Nat.reduceLeDiff, Nat.reduceLT, Nat.reduceMul, Nat.reduceSub]
    refine ⟨_, _, _, _, r_text _ 1 s (kr) (by omega) (by simp) (by simp (disch := omega) only [upd_eq, upd_ne, wo_0, wo_1, wo_2]), ?_⟩
    simp (maxSteps := 1000000) (disch := omega) only [rg, gD, Nat.reduceBEq, Nat.reduceEqDiff, Nat.reduceAdd, Int.reduceEq, Int.reduceLT, Int.reduceLE, Int.reduceToNat, reduceIte, reduceCtorEq, Nat.reduceLeDiff, Nat.reduceLT, Nat.reduceMul, Nat.reduceSub]
    generalize txtS s (kr) = x at hR
    refine ⟨_, _, _, _, r_text _ 1 s (x.2) (by omega) (by simp) (by simp (disch := omega) only [upd_eq, upd_ne, wo_0, wo_1, wo_2]), ?_⟩
    simp (maxSteps := 1000000) (disch := omega) only [rg, gD, Nat.reduceBEq, Nat.reduceEqDiff, Nat.reduceAdd, Int.reduceEq, Int.reduceLT, Int.reduceLE, Int.reduceToNat, reduceIte, reduceCtorEq, Nat.reduceLeDiff, Nat.reduceLT, Nat.reduceMul, Nat.reduceSub]
    generalize txtS s (x.2) = y at hR
    (refine fin_x rfl ?_ ?_ <;> simp [pack, lo, loL, V.closed, closedL, mv_closed, hR, zeroD, cmdV, tasksV, mv])
  · subst e
    simp only [Int.reduceEq, if_false, if_true, reduceCtorEq, or_false, false_or, or_true, true_or, or_self] at hR
    simp only []
    simp (maxSteps := 1000000) (disch := omega) only [rg, gD, Nat.reduceBEq, Nat.reduceEqDiff, Nat.reduceAdd, Int.reduceEq, Int.reduceLT, Int.reduceLE, Int.reduceToNat, reduceIte, reduceCtorEq, Nat.reduceLeDiff, Nat.reduceLT, Nat.reduceMul, Nat.reduceSub]
    refine ⟨_, _, _, _, r_next _ 1 s (kr) 6 (by omega) (by simp) (by simp (disch := omega) only [upd_eq, upd_ne, wo_0, wo_1, wo_2]), ?_⟩
    simp (maxSteps := 1000000) (disch := omega) only [rg, gD, Nat.reduceBEq, Nat.reduceEqDiff, Nat.reduceAdd, Int.reduceEq, Int.reduceLT, Int.reduceLE, Int.reduceToNat, reduceIte, reduceCtorEq, Nat.reduceLeDiff, Nat.reduceLT, Nat.reduceMul, Nat.reduceSub]
    generalize nextS s (kr) 6 = x at hR
    (refine fin_x rfl ?_ ?_ <;> simp [pack, lo, loL, V.closed, closedL, mv_closed, hR, zeroD, cmdV, tasksV, mv])
  · subst e
    simp only [Int.reduceEq, if_false, if_true, reduceCtorEq, or_false, false_or, or_true, true_or, or_self] at hR
    simp only []
    simp (maxSteps := 1000000) (disch := omega) only [rg, gD, Nat.reduceBEq, Nat.reduceEqDiff, Nat.reduceAdd, Int.reduceEq, Int.reduceLT, Int.reduceLE, Int.reduceToNat, reduceIte, reduceCtorEq, Nat.reduceLeDiff, Nat.reduceLT, Nat.reduceMul, Nat.reduceSub]
    refine ⟨_, _, _, _, r_next _ 1 s (kr) 6 (by omega) (by simp) (by simp (disch := omega) only [upd_eq, upd_ne, wo_0, wo_1, wo_2]), ?_⟩
    simp (maxSteps := 1000000) (disch := omega) only [rg, gD, Nat.reduceBEq, Nat.reduceEqDiff, Nat.reduceAdd, Int.reduceEq, Int.reduceLT, Int.reduceLE, Int.reduceToNat, reduceIte, reduceCtorEq, Nat.reduceLeDiff, Nat.reduceLT, Nat.reduceMul, Nat.reduceSub]
    generalize nextS s (kr) 6 = x at hR
    (refine fin_x rfl ?_ ?_ <;> simp [pack, lo, loL, V.closed, closedL, mv_closed, hR, zeroD, cmdV, tasksV, mv])
  · subst e
    simp only [Int.reduceEq, if_false, if_true, reduceCtorEq, or_false, false_or, or_true, true_or, or_self] at hR
    simp only []
    simp (maxSteps := 1000000) (disch := omega) only [rg, gD, Nat.reduceBEq, Nat.reduceEqDiff, Nat.reduceAdd, Int.reduceEq, Int.reduceLT, Int.reduceLE, Int.reduceToNat, reduceIte, reduceCtorEq, Nat.reduceLeDiff, Nat.reduceLT, Nat.reduceMul, Nat.reduceSub]
    refine ⟨_, _, _, _, r_next _ 1 s (kr) 6 (by omega) (by simp) (by simp (disch := omega) only [upd_eq, upd_ne, wo_0, wo_1, wo_2]), ?_⟩
    simp (maxSteps := 1000000) (disch := omega) only [rg, gD, Nat.reduceBEq, Nat.reduceEqDiff, Nat.reduceAdd, Int.reduceEq, Int.reduceLT, Int.reduceLE, Int.reduceToNat, reduceIte, reduceCtorEq, Nat.reduceLeDiff, Nat.reduceLT, Nat.reduceMul, Nat.reduceSub]
    generalize nextS s (kr) 6 = x at hR
    refine ⟨_, _, _, _, r_text _ 1 s (x.2) (by omega) (by simp) (by simp (disch := omega) only [upd_eq, upd_ne, wo_0, wo_1, wo_2]), ?_⟩
    simp (maxSteps := 1000000) (disch := omega) only [rg, gD, Nat.reduceBEq, Nat.reduceEqDiff, Nat.reduceAdd, Int.reduceEq, Int.reduceLT, Int.reduceLE, Int.reduceToNat, reduceIte, reduceCtorEq, Nat.reduceLeDiff, Nat.reduceLT, Nat.reduceMul, Nat.reduceSub]
    generalize txtS s (x.2) = y at hR
    (refine fin_x rfl ?_ ?_ <;> simp [pack, lo, loL, V.closed, closedL, mv_closed, hR, zeroD, cmdV, tasksV, mv])
  · subst e
    simp only [Int.reduceEq, if_false, if_true, reduceCtorEq, or_false, false_or, or_true, true_or, or_self] at hR
    simp only []
    simp (maxSteps := 1000000) (disch := omega) only [rg, gD, Nat.reduceBEq, Nat.reduceEqDiff, Nat.reduceAdd, Int.reduceEq, Int.reduceLT, Int.reduceLE, Int.reduceToNat, reduceIte, reduceCtorEq, Nat.reduceLeDiff, Nat.reduceLT, Nat.reduceMul, Nat.reduceSub]
    refine ⟨_, _, _, _, r_text _ 1 s (kr) (by omega) (by simp) (by simp (disch := omega) only [upd_eq, upd_ne, wo_0, wo_1, wo_2]), ?_⟩
    simp (maxSteps := 1000000) (disch := omega) only [rg, gD, Nat.reduceBEq, Nat.reduceEqDiff, Nat.reduceAdd, Int.reduceEq, Int.reduceLT, Int.reduceLE, Int.reduceToNat, reduceIte, reduceCtorEq, Nat.reduceLeDiff, Nat.reduceLT, Nat.reduceMul, Nat.reduceSub]
    generalize txtS s (kr) = x at hR
    (refine fin_x rfl ?_ ?_ <;> simp [pack, lo, loL, V.closed, closedL, mv_closed, hR, zeroD, cmdV, tasksV, mv])
  · subst e
    simp only [Int.reduceEq, if_false, if_true, reduceCtorEq, or_false, false_or, or_true, true_or, or_self] at hR
    simp only []
    simp (maxSteps := 1000000) (disch := omega) only [rg, gD, Nat.reduceBEq, Nat.reduceEqDiff, Nat.reduceAdd, Int.reduceEq, Int.reduceLT, Int.reduceLE, Int.reduceToNat, reduceIte, reduceCtorEq, Nat.reduceLeDiff, Nat.reduceLT, Nat.reduceMul, Nat.reduceSub]
    refine ⟨_, _, _, _, r_text _ 1 s (kr) (by omega) (by simp) (by simp (disch := omega) only [upd_eq, upd_ne, wo_0, wo_1, wo_2]), ?_⟩
    simp (maxSteps := 1000000) (disch := omega) only [rg, gD, Nat.reduceBEq, Nat.reduceEqDiff, Nat.reduceAdd, Int.reduceEq, Int.reduceLT, Int.reduceLE, Int.reduceToNat, reduceIte, reduceCtorEq, Nat.reduceLeDiff, Nat.reduceLT, Nat.reduceMul, Nat.reduceSub]
    generalize txtS s (kr) = x at hR
    (refine fin_x rfl ?_ ?_ <;> simp [pack, lo, loL, V.closed, closedL, mv_closed, hR, zeroD, cmdV, tasksV, mv])
  · subst e
    simp only [Int.reduceEq, if_false, if_true, reduceCtorEq, or_false, false_or, or_true, true_or, or_self] at hR
    simp only []
    simp (maxSteps := 1000000) (disch := omega) only [rg, gD, Nat.reduceBEq, Nat.reduceEqDiff, Nat.reduceAdd, Int.reduceEq, Int.reduceLT, Int.reduceLE, Int.reduceToNat, reduceIte, reduceCtorEq, Nat.reduceLeDiff, Nat.reduceLT, Nat.reduceMul, Nat.reduceSub]
    refine ⟨_, _, _, _, r_next _ 1 s (kr) 6 (by omega) (by simp) (by simp (disch := omega) only [upd_eq, upd_ne, wo_0, wo_1, wo_2]), ?_⟩
    simp (maxSteps := 1000000) (disch := omega) only [rg, gD, Nat.reduceBEq, Nat.reduceEqDiff, Nat.reduceAdd, Int.reduceEq, Int.reduceLT, Int.reduceLE, Int.reduceToNat, reduceIte, reduceCtorEq, Nat.reduceLeDiff, Nat.reduceLT, Nat.reduceMul, Nat.reduceSub]
    generalize nextS s (kr) 6 = x at hR
    (refine fin_x rfl ?_ ?_ <;> simp [pack, lo, loL, V.closed, closedL, mv_closed, hR, zeroD, cmdV, tasksV, mv])
  · simp only [k1, k2, k4, k6, k5, k7, k9, k8, if_false, or_self] at hR
    simp only []
    simp (maxSteps := 1000000) (disch := omega) only [rg, gD, Nat.reduceBEq, Nat.reduceEqDiff, Nat.reduceAdd, Int.reduceEq, Int.reduceLT, Int.reduceLE, Int.reduceToNat, reduceIte, reduceCtorEq, Nat.reduceLeDiff, Nat.reduceLT, Nat.reduceMul, Nat.reduceSub, k1, k2, k4, k6, k5, k7, k9, k8]
    (refine fin_x rfl ?_ ?_ <;> simp [pack, lo, loL, V.closed, closedL, mv_closed, hR, zeroD, cmdV, tasksV, mv])

theorem ref23_get (s : Str) (hs : s.length ≤ 1000000) : PCall Try.prog 11 [.str s] (cmdR (refCmdS s)) := by
  refine en11 (by simp) (by simp [closedL, V.closed]) ?_
  have hol := openS_len s
  simp (maxSteps := 1000000) (disch := omega) only [rg, gD, Nat.reduceBEq, Nat.reduceEqDiff, Nat.reduceAdd, Int.reduceEq, Int.reduceLT, Int.reduceLE, Int.reduceToNat, reduceIte, reduceCtorEq, Nat.reduceLeDiff, Nat.reduceLT, Nat.reduceMul, Nat.reduceSub, c11]
  refine ⟨_, ref_open s (by omega), ?_⟩
  by_cases c0 : (openS s).2 = 0
  case neg =>
    simp (maxSteps := 1000000) (disch := omega) only [rg, gD, Nat.reduceBEq, Nat.reduceEqDiff, Nat.reduceAdd, Int.reduceEq, Int.reduceLT, Int.reduceLE, Int.reduceToNat, reduceIte, reduceCtorEq, Nat.reduceLeDiff, Nat.reduceLT, Nat.reduceMul, Nat.reduceSub, sV, c0]
    (refine fin_x rfl ?_ ?_ <;> simp [pack, lo, loL, V.closed, closedL, mv_closed, cmdR, refCmdS, c0, zeroC, zeroD, cmdV, tasksV, mv])
  have hR : refCmdS s = if cmdPutS (rawR (openS s).1) = (s, 0) then (rawR (openS s).1, 0) else (zeroC, 230) := by
    unfold refCmdS; rw [if_pos c0]
  simp (maxSteps := 1000000) (disch := omega) only [rg, gD, Nat.reduceBEq, Nat.reduceEqDiff, Nat.reduceAdd, Int.reduceEq, Int.reduceLT, Int.reduceLE, Int.reduceToNat, reduceIte, reduceCtorEq, Nat.reduceLeDiff, Nat.reduceLT, Nat.reduceMul, Nat.reduceSub, sV, c0]
  generalize (openS s).1 = p at hol hR
  have kr := ref23_read p (by omega)
  have kp := ref23_put (rawR p) (rawR_ok p (by omega))
  generalize rawR p = c at kr kp hR
  unfold cmdV tasksV at kr kp
  refine ⟨_, kr, ?_⟩
  simp (maxSteps := 1000000) (disch := omega) only [rg, gD, Nat.reduceBEq, Nat.reduceEqDiff, Nat.reduceAdd, Int.reduceEq, Int.reduceLT, Int.reduceLE, Int.reduceToNat, reduceIte, reduceCtorEq, Nat.reduceLeDiff, Nat.reduceLT, Nat.reduceMul, Nat.reduceSub]
  refine ⟨_, kp, ?_⟩
  generalize cmdPutS c = w at hR
  obtain ⟨w1, w2⟩ := w
  by_cases k1 : w2 = 0
  · by_cases k2 : w1 = s
    · simp (maxSteps := 1000000) (disch := omega) only [rg, gD, Nat.reduceBEq, Nat.reduceEqDiff, Nat.reduceAdd, Int.reduceEq, Int.reduceLT, Int.reduceLE, Int.reduceToNat, reduceIte, reduceCtorEq, Nat.reduceLeDiff, Nat.reduceLT, Nat.reduceMul, Nat.reduceSub, sV, k1, k2]
      (refine fin_x rfl ?_ ?_ <;> simp [pack, lo, loL, V.closed, closedL, mv_closed, cmdR, hR, k1, k2, cmdV, tasksV, mv_closed taskV_closed, mv_lo taskV_lo])
    · simp (maxSteps := 1000000) (disch := omega) only [rg, gD, Nat.reduceBEq, Nat.reduceEqDiff, Nat.reduceAdd, Int.reduceEq, Int.reduceLT, Int.reduceLE, Int.reduceToNat, reduceIte, reduceCtorEq, Nat.reduceLeDiff, Nat.reduceLT, Nat.reduceMul, Nat.reduceSub, sV, k1, k2]
      (refine fin_x rfl ?_ ?_ <;> simp [pack, lo, loL, V.closed, closedL, mv_closed, cmdR, hR, k1, k2, zeroC, zeroD, cmdV, tasksV, mv])
  · simp (maxSteps := 1000000) (disch := omega) only [rg, gD, Nat.reduceBEq, Nat.reduceEqDiff, Nat.reduceAdd, Int.reduceEq, Int.reduceLT, Int.reduceLE, Int.reduceToNat, reduceIte, reduceCtorEq, Nat.reduceLeDiff, Nat.reduceLT, Nat.reduceMul, Nat.reduceSub, sV, k1]
    (refine fin_x rfl ?_ ?_ <;> simp [pack, lo, loL, V.closed, closedL, mv_closed, cmdR, hR, k1, zeroC, zeroD, cmdV, tasksV, mv])

/-! Alike. -/
theorem same_ints (l l' : List Int) (hl : l.length ≤ 4611686018427387904) (hl' : l'.length ≤ 4611686018427387904) : PCall Try.prog 68 [.fsl .loose 1 (vI l), .fsl .loose 1 (vI l')] (.bool (decide (l = l'))) := by
  refine en68 (by simp) (by simp [closedL, V.closed, vI_closed]) ?_
  simp (maxSteps := 1000000) (disch := omega) only [rg, gD, Nat.reduceBEq, Nat.reduceEqDiff, Nat.reduceAdd, Int.reduceEq, Int.reduceLT, Int.reduceLE, Int.reduceToNat, reduceIte, reduceCtorEq, Nat.reduceLeDiff, Nat.reduceLT, Nat.reduceMul, Nat.reduceSub, c68, vI_len]
  by_cases c : l.length = l'.length
  case neg =>
    simp (maxSteps := 1000000) (disch := omega) only [rg, gD, Nat.reduceBEq, Nat.reduceEqDiff, Nat.reduceAdd, Int.reduceEq, Int.reduceLT, Int.reduceLE, Int.reduceToNat, reduceIte, reduceCtorEq, Nat.reduceLeDiff, Nat.reduceLT, Nat.reduceMul, Nat.reduceSub, show ¬ (l.length : Int) = l'.length by omega]
    (refine fin_x rfl ?_ ?_ <;> simp [pack, lo, loL, V.closed, closedL, mv_closed, decide_eq_false (fun e : l = l' => c (by rw [e]))])
  simp (maxSteps := 1000000) (disch := omega) only [rg, gD, Nat.reduceBEq, Nat.reduceEqDiff, Nat.reduceAdd, Int.reduceEq, Int.reduceLT, Int.reduceLE, Int.reduceToNat, reduceIte, reduceCtorEq, Nat.reduceLeDiff, Nat.reduceLT, Nat.reduceMul, Nat.reduceSub, show (l.length : Int) = l'.length by omega]
  refine x_itp l.length (fun i => l = l' ↔ l.drop i = l'.drop i) (fun i => [(0, .fsl .loose 1 (vI l)), (1, .fsl .loose 1 (vI l')), (12, .int .i64 l.length), (13, .int .i64 i)]) (by simp) (by simp [c]) ?_
  intro T i hi hs hN hX hR
  simp (maxSteps := 1000000) (disch := omega) only [rg, gD, Nat.reduceBEq, Nat.reduceEqDiff, Nat.reduceAdd, Int.reduceEq, Int.reduceLT, Int.reduceLE, Int.reduceToNat, reduceIte, reduceCtorEq, Nat.reduceLeDiff, Nat.reduceLT, Nat.reduceMul, Nat.reduceSub]
  refine ⟨fun h => ?_, fun h => ?_⟩
  · have i1 : i < l.length := by omega
    have i2 : i < l'.length := by omega
    rw [List.drop_eq_getElem_cons i1, List.drop_eq_getElem_cons i2, List.cons.injEq] at hs
    simp (maxSteps := 1000000) (disch := omega) only [rg, gD, Nat.reduceBEq, Nat.reduceEqDiff, Nat.reduceAdd, Int.reduceEq, Int.reduceLT, Int.reduceLE, Int.reduceToNat, reduceIte, reduceCtorEq, Nat.reduceLeDiff, Nat.reduceLT, Nat.reduceMul, Nat.reduceSub, vI_get]
    by_cases he : l[i] = l'[i]
    case neg =>
      simp (maxSteps := 1000000) (disch := omega) only [rg, gD, Nat.reduceBEq, Nat.reduceEqDiff, Nat.reduceAdd, Int.reduceEq, Int.reduceLT, Int.reduceLE, Int.reduceToNat, reduceIte, reduceCtorEq, Nat.reduceLeDiff, Nat.reduceLT, Nat.reduceMul, Nat.reduceSub, he]
      try refine ⟨by simp [compat, disj, nthL], ?_⟩
      refine hR _ _ ?_
      simp (maxSteps := 1000000) (disch := omega) only [rg, gD, Nat.reduceBEq, Nat.reduceEqDiff, Nat.reduceAdd, Int.reduceEq, Int.reduceLT, Int.reduceLE, Int.reduceToNat, reduceIte, reduceCtorEq, Nat.reduceLeDiff, Nat.reduceLT, Nat.reduceMul, Nat.reduceSub]
      (refine fin_x rfl ?_ ?_ <;> simp [pack, lo, loL, V.closed, closedL, mv_closed, decide_eq_false (fun e : l = l' => he (hs.1 e).1)])
    · simp (maxSteps := 1000000) (disch := omega) only [rg, gD, Nat.reduceBEq, Nat.reduceEqDiff, Nat.reduceAdd, Int.reduceEq, Int.reduceLT, Int.reduceLE, Int.reduceToNat, reduceIte, reduceCtorEq, Nat.reduceLeDiff, Nat.reduceLT, Nat.reduceMul, Nat.reduceSub, he]
      try refine ⟨by simp [compat, disj, nthL], ?_⟩
      exact hN _ i1 (hs.trans (and_iff_right he)) rfl
  · obtain rfl : i = l.length := by omega
    refine hX _ _ _ ?_
    simp (maxSteps := 1000000) (disch := omega) only [rg, gD, Nat.reduceBEq, Nat.reduceEqDiff, Nat.reduceAdd, Int.reduceEq, Int.reduceLT, Int.reduceLE, Int.reduceToNat, reduceIte, reduceCtorEq, Nat.reduceLeDiff, Nat.reduceLT, Nat.reduceMul, Nat.reduceSub]
    refine x_frz0 ?_
    simp (maxSteps := 1000000) (disch := omega) only [rg, gD, Nat.reduceBEq, Nat.reduceEqDiff, Nat.reduceAdd, Int.reduceEq, Int.reduceLT, Int.reduceLE, Int.reduceToNat, reduceIte, reduceCtorEq, Nat.reduceLeDiff, Nat.reduceLT, Nat.reduceMul, Nat.reduceSub]
    rw [List.drop_length, c, List.drop_length] at hs
    (refine fin_x rfl ?_ ?_ <;> simp [pack, lo, loL, V.closed, closedL, mv_closed, decide_eq_true (hs.2 rfl)])

def taskEq (a b : Task) : Prop := a.needs = b.needs ∧ a.tries = b.tries ∧ a.wait = b.wait ∧ a.lease = b.lease
instance (a b : Task) : Decidable (taskEq a b) := by unfold taskEq; infer_instance
theorem taskEq_eq {a b : Task} : taskEq a b ↔ a = b := by
  obtain ⟨a1, a2, a3, a4⟩ := a
  obtain ⟨b1, b2, b3, b4⟩ := b
  simp [taskEq]
instance : DecidableEq Task := fun a b => decidable_of_iff _ taskEq_eq
theorem dag_ext {a b : Dag} : (a = b) ↔ (a.name = b.name ∧ a.tasks = b.tasks) := by
  obtain ⟨a1, a2⟩ := a
  obtain ⟨b1, b2⟩ := b
  simp
instance : DecidableEq Dag := fun a b => decidable_of_iff _ dag_ext.symm
def okDagL (d : Dag) : Prop := d.tasks.length ≤ 4611686018427387904 ∧ ∀ t ∈ d.tasks, t.needs.length ≤ 4611686018427387904
theorem like_dag (a b : Dag) (ha : okDagL a) (hb : okDagL b) : PCall Try.prog 41 [dagV a, dagV b] (.bool (decide (a = b))) := by
  refine en41 (by simp) (by simp [closedL, dagV_closed]) ?_
  simp (maxSteps := 1000000) (disch := omega) only [rg, gD, Nat.reduceBEq, Nat.reduceEqDiff, Nat.reduceAdd, Int.reduceEq, Int.reduceLT, Int.reduceLE, Int.reduceToNat, reduceIte, reduceCtorEq, Nat.reduceLeDiff, Nat.reduceLT, Nat.reduceMul, Nat.reduceSub, c41, dagV, tasksV]
  by_cases c1 : a.name = b.name
  case neg =>
    simp (maxSteps := 1000000) (disch := omega) only [rg, gD, Nat.reduceBEq, Nat.reduceEqDiff, Nat.reduceAdd, Int.reduceEq, Int.reduceLT, Int.reduceLE, Int.reduceToNat, reduceIte, reduceCtorEq, Nat.reduceLeDiff, Nat.reduceLT, Nat.reduceMul, Nat.reduceSub, c1]
    (refine fin_x rfl ?_ ?_ <;> simp [pack, lo, loL, V.closed, closedL, mv_closed, decide_eq_false (fun e : a = b => c1 (by rw [e]))])
  by_cases c : a.tasks.length = b.tasks.length
  case neg =>
    simp (maxSteps := 1000000) (disch := omega) only [rg, gD, Nat.reduceBEq, Nat.reduceEqDiff, Nat.reduceAdd, Int.reduceEq, Int.reduceLT, Int.reduceLE, Int.reduceToNat, reduceIte, reduceCtorEq, Nat.reduceLeDiff, Nat.reduceLT, Nat.reduceMul, Nat.reduceSub, c1, show ¬ (a.tasks.length : Int) = b.tasks.length by omega]
    (refine fin_x rfl ?_ ?_ <;> simp [pack, lo, loL, V.closed, closedL, mv_closed, decide_eq_false (fun e : a = b => c (by rw [e]))])
  simp (maxSteps := 1000000) (disch := omega) only [rg, gD, Nat.reduceBEq, Nat.reduceEqDiff, Nat.reduceAdd, Int.reduceEq, Int.reduceLT, Int.reduceLE, Int.reduceToNat, reduceIte, reduceCtorEq, Nat.reduceLeDiff, Nat.reduceLT, Nat.reduceMul, Nat.reduceSub, c1, show (a.tasks.length : Int) = b.tasks.length by omega]
  refine x_it a.tasks.length (fun i σ H => 2 ≤ H.n ∧ H.m 1 = some (.arr 2 [.agg [.str b.name, .fsl .loose 4 (mv taskV b.tasks)]]) ∧ (a = b ↔ a.tasks.drop i = b.tasks.drop i) ∧ σ = [(3, .ptr 1 0 0), (23, tasksV a.tasks), (24, .int .i64 a.tasks.length), (25, .int .i64 i)]) ⟨Nat.le_refl 2, (by simp (disch := omega) only [upd_eq, upd_ne, wo_0, wo_1, wo_2]), by simp [dag_ext, c1], by simp [tasksV, c]⟩ ?_
  rintro T i σ ⟨q, m⟩ hi ⟨hq, e1, hs, rfl⟩ hN hX hR
  simp only at hq e1
  have ha1 := ha.1
  simp (maxSteps := 1000000) (disch := omega) only [rg, gD, Nat.reduceBEq, Nat.reduceEqDiff, Nat.reduceAdd, Int.reduceEq, Int.reduceLT, Int.reduceLE, Int.reduceToNat, reduceIte, reduceCtorEq, Nat.reduceLeDiff, Nat.reduceLT, Nat.reduceMul, Nat.reduceSub, tasksV]
  refine ⟨fun h => ?_, fun h => ?_⟩
  · have i1 : i < a.tasks.length := by omega
    have i2 : i < b.tasks.length := by omega
    have hq1 : 1 ≠ q := by omega
    have hq2 : 1 ≠ q + 1 := by omega
    rw [List.drop_eq_getElem_cons i1, List.drop_eq_getElem_cons i2, List.cons.injEq] at hs
    have ks := same_ints a.tasks[i].needs b.tasks[i].needs (ha.2 _ (List.getElem_mem i1)) (hb.2 _ (List.getElem_mem i2))
    simp (maxSteps := 1000000) (disch := omega) only [rg, gD, Nat.reduceBEq, Nat.reduceEqDiff, Nat.reduceAdd, Int.reduceEq, Int.reduceLT, Int.reduceLE, Int.reduceToNat, reduceIte, reduceCtorEq, Nat.reduceLeDiff, Nat.reduceLT, Nat.reduceMul, Nat.reduceSub, taskV, e1, vI_len, show (a.tasks.length : Int) = b.tasks.length by omega]
    refine ⟨_, ks, ?_⟩
    by_cases d1 : a.tasks[i].needs = b.tasks[i].needs
    case neg =>
      simp (maxSteps := 1000000) (disch := omega) only [rg, gD, Nat.reduceBEq, Nat.reduceEqDiff, Nat.reduceAdd, Int.reduceEq, Int.reduceLT, Int.reduceLE, Int.reduceToNat, reduceIte, reduceCtorEq, Nat.reduceLeDiff, Nat.reduceLT, Nat.reduceMul, Nat.reduceSub, decide_eq_false d1]
      refine hR _ _ ?_
      simp (maxSteps := 1000000) (disch := omega) only [rg, gD, Nat.reduceBEq, Nat.reduceEqDiff, Nat.reduceAdd, Int.reduceEq, Int.reduceLT, Int.reduceLE, Int.reduceToNat, reduceIte, reduceCtorEq, Nat.reduceLeDiff, Nat.reduceLT, Nat.reduceMul, Nat.reduceSub]
      (refine fin_x rfl ?_ ?_ <;> simp [pack, lo, loL, V.closed, closedL, mv_closed, decide_eq_false (fun e : a = b => d1 (by rw [(hs.1 e).1]))])
    by_cases d2 : a.tasks[i].tries = b.tasks[i].tries
    case neg =>
      simp (maxSteps := 1000000) (disch := omega) only [rg, gD, Nat.reduceBEq, Nat.reduceEqDiff, Nat.reduceAdd, Int.reduceEq, Int.reduceLT, Int.reduceLE, Int.reduceToNat, reduceIte, reduceCtorEq, Nat.reduceLeDiff, Nat.reduceLT, Nat.reduceMul, Nat.reduceSub, decide_eq_true d1, d2]
      refine hR _ _ ?_
      simp (maxSteps := 1000000) (disch := omega) only [rg, gD, Nat.reduceBEq, Nat.reduceEqDiff, Nat.reduceAdd, Int.reduceEq, Int.reduceLT, Int.reduceLE, Int.reduceToNat, reduceIte, reduceCtorEq, Nat.reduceLeDiff, Nat.reduceLT, Nat.reduceMul, Nat.reduceSub]
      (refine fin_x rfl ?_ ?_ <;> simp [pack, lo, loL, V.closed, closedL, mv_closed, decide_eq_false (fun e : a = b => d2 (by rw [(hs.1 e).1]))])
    by_cases d3 : a.tasks[i].wait = b.tasks[i].wait
    case neg =>
      simp (maxSteps := 1000000) (disch := omega) only [rg, gD, Nat.reduceBEq, Nat.reduceEqDiff, Nat.reduceAdd, Int.reduceEq, Int.reduceLT, Int.reduceLE, Int.reduceToNat, reduceIte, reduceCtorEq, Nat.reduceLeDiff, Nat.reduceLT, Nat.reduceMul, Nat.reduceSub, decide_eq_true d1, d2, d3]
      refine hR _ _ ?_
      simp (maxSteps := 1000000) (disch := omega) only [rg, gD, Nat.reduceBEq, Nat.reduceEqDiff, Nat.reduceAdd, Int.reduceEq, Int.reduceLT, Int.reduceLE, Int.reduceToNat, reduceIte, reduceCtorEq, Nat.reduceLeDiff, Nat.reduceLT, Nat.reduceMul, Nat.reduceSub]
      (refine fin_x rfl ?_ ?_ <;> simp [pack, lo, loL, V.closed, closedL, mv_closed, decide_eq_false (fun e : a = b => d3 (by rw [(hs.1 e).1]))])
    by_cases d4 : a.tasks[i].lease = b.tasks[i].lease
    case neg =>
      simp (maxSteps := 1000000) (disch := omega) only [rg, gD, Nat.reduceBEq, Nat.reduceEqDiff, Nat.reduceAdd, Int.reduceEq, Int.reduceLT, Int.reduceLE, Int.reduceToNat, reduceIte, reduceCtorEq, Nat.reduceLeDiff, Nat.reduceLT, Nat.reduceMul, Nat.reduceSub, decide_eq_true d1, d2, d3, d4]
      refine hR _ _ ?_
      simp (maxSteps := 1000000) (disch := omega) only [rg, gD, Nat.reduceBEq, Nat.reduceEqDiff, Nat.reduceAdd, Int.reduceEq, Int.reduceLT, Int.reduceLE, Int.reduceToNat, reduceIte, reduceCtorEq, Nat.reduceLeDiff, Nat.reduceLT, Nat.reduceMul, Nat.reduceSub]
      (refine fin_x rfl ?_ ?_ <;> simp [pack, lo, loL, V.closed, closedL, mv_closed, decide_eq_false (fun e : a = b => d4 (by rw [(hs.1 e).1]))])
    simp (maxSteps := 1000000) (disch := omega) only [rg, gD, Nat.reduceBEq, Nat.reduceEqDiff, Nat.reduceAdd, Int.reduceEq, Int.reduceLT, Int.reduceLE, Int.reduceToNat, reduceIte, reduceCtorEq, Nat.reduceLeDiff, Nat.reduceLT, Nat.reduceMul, Nat.reduceSub, decide_eq_true d1, d2, d3, d4]
    refine hN _ _ i1 ⟨by show 2 ≤ q + 1 + 1; omega, (by simp (disch := omega) only [upd_eq, upd_ne, wo_0, wo_1, wo_2, e1]), hs.trans (and_iff_right (taskEq_eq.1 ⟨d1, d2, d3, d4⟩)), by simp [tasksV, c]⟩
  · obtain rfl : i = a.tasks.length := by omega
    refine hX _ _ _ ?_
    simp (maxSteps := 1000000) (disch := omega) only [rg, gD, Nat.reduceBEq, Nat.reduceEqDiff, Nat.reduceAdd, Int.reduceEq, Int.reduceLT, Int.reduceLE, Int.reduceToNat, reduceIte, reduceCtorEq, Nat.reduceLeDiff, Nat.reduceLT, Nat.reduceMul, Nat.reduceSub]
    refine x_frz0 ?_
    simp (maxSteps := 1000000) (disch := omega) only [rg, gD, Nat.reduceBEq, Nat.reduceEqDiff, Nat.reduceAdd, Int.reduceEq, Int.reduceLT, Int.reduceLE, Int.reduceToNat, reduceIte, reduceCtorEq, Nat.reduceLeDiff, Nat.reduceLT, Nat.reduceMul, Nat.reduceSub]
    rw [List.drop_length, c, List.drop_length] at hs
    (refine fin_x rfl ?_ ?_ <;> simp [pack, lo, loL, V.closed, closedL, mv_closed, decide_eq_true (hs.2 rfl)])

theorem cmd_ext {a b : Cmd} : (a = b) ↔ (a.kind = b.kind ∧ a.key = b.key ∧ a.name = b.name ∧ a.token = b.token ∧ a.time = b.time ∧ a.text = b.text ∧ a.dag = b.dag) := by
  obtain ⟨a1, a2, a3, a4, a5, a6, a7⟩ := a
  obtain ⟨b1, b2, b3, b4, b5, b6, b7⟩ := b
  simp
instance : DecidableEq Cmd := fun a b => decidable_of_iff _ cmd_ext.symm
theorem like_cmd (a b : Cmd) (ha : okDagL a.dag) (hb : okDagL b.dag) : PCall Try.prog 13 [cmdV a, cmdV b] (.bool (decide (a = b))) := by
  refine en13 (by simp) (by simp [closedL, cmdV_closed]) ?_
  have kd := like_dag a.dag b.dag ha hb
  unfold dagV tasksV at kd
  by_cases c0 : a.kind = b.kind
  case neg =>
    simp (maxSteps := 1000000) (disch := omega) only [rg, gD, Nat.reduceBEq, Nat.reduceEqDiff, Nat.reduceAdd, Int.reduceEq, Int.reduceLT, Int.reduceLE, Int.reduceToNat, reduceIte, reduceCtorEq, Nat.reduceLeDiff, Nat.reduceLT, Nat.reduceMul, Nat.reduceSub, c13, cmdV, tasksV, c0]
    (refine fin_x rfl ?_ ?_ <;> simp [pack, lo, loL, V.closed, closedL, mv_closed, decide_eq_false (fun e : a = b => c0 (by rw [e]))])
  by_cases c1 : a.key = b.key
  case neg =>
    simp (maxSteps := 1000000) (disch := omega) only [rg, gD, Nat.reduceBEq, Nat.reduceEqDiff, Nat.reduceAdd, Int.reduceEq, Int.reduceLT, Int.reduceLE, Int.reduceToNat, reduceIte, reduceCtorEq, Nat.reduceLeDiff, Nat.reduceLT, Nat.reduceMul, Nat.reduceSub, c13, cmdV, tasksV, c0, c1]
    (refine fin_x rfl ?_ ?_ <;> simp [pack, lo, loL, V.closed, closedL, mv_closed, decide_eq_false (fun e : a = b => c1 (by rw [e]))])
  by_cases c2 : a.name = b.name
  case neg =>
    simp (maxSteps := 1000000) (disch := omega) only [rg, gD, Nat.reduceBEq, Nat.reduceEqDiff, Nat.reduceAdd, Int.reduceEq, Int.reduceLT, Int.reduceLE, Int.reduceToNat, reduceIte, reduceCtorEq, Nat.reduceLeDiff, Nat.reduceLT, Nat.reduceMul, Nat.reduceSub, c13, cmdV, tasksV, c0, c1, c2]
    (refine fin_x rfl ?_ ?_ <;> simp [pack, lo, loL, V.closed, closedL, mv_closed, decide_eq_false (fun e : a = b => c2 (by rw [e]))])
  by_cases c3 : a.token = b.token
  case neg =>
    simp (maxSteps := 1000000) (disch := omega) only [rg, gD, Nat.reduceBEq, Nat.reduceEqDiff, Nat.reduceAdd, Int.reduceEq, Int.reduceLT, Int.reduceLE, Int.reduceToNat, reduceIte, reduceCtorEq, Nat.reduceLeDiff, Nat.reduceLT, Nat.reduceMul, Nat.reduceSub, c13, cmdV, tasksV, c0, c1, c2, c3]
    (refine fin_x rfl ?_ ?_ <;> simp [pack, lo, loL, V.closed, closedL, mv_closed, decide_eq_false (fun e : a = b => c3 (by rw [e]))])
  by_cases c4 : a.time = b.time
  case neg =>
    simp (maxSteps := 1000000) (disch := omega) only [rg, gD, Nat.reduceBEq, Nat.reduceEqDiff, Nat.reduceAdd, Int.reduceEq, Int.reduceLT, Int.reduceLE, Int.reduceToNat, reduceIte, reduceCtorEq, Nat.reduceLeDiff, Nat.reduceLT, Nat.reduceMul, Nat.reduceSub, c13, cmdV, tasksV, c0, c1, c2, c3, c4]
    (refine fin_x rfl ?_ ?_ <;> simp [pack, lo, loL, V.closed, closedL, mv_closed, decide_eq_false (fun e : a = b => c4 (by rw [e]))])
  by_cases c5 : a.text = b.text
  case neg =>
    simp (maxSteps := 1000000) (disch := omega) only [rg, gD, Nat.reduceBEq, Nat.reduceEqDiff, Nat.reduceAdd, Int.reduceEq, Int.reduceLT, Int.reduceLE, Int.reduceToNat, reduceIte, reduceCtorEq, Nat.reduceLeDiff, Nat.reduceLT, Nat.reduceMul, Nat.reduceSub, c13, cmdV, tasksV, c0, c1, c2, c3, c4, c5]
    (refine fin_x rfl ?_ ?_ <;> simp [pack, lo, loL, V.closed, closedL, mv_closed, decide_eq_false (fun e : a = b => c5 (by rw [e]))])
  simp (maxSteps := 1000000) (disch := omega) only [rg, gD, Nat.reduceBEq, Nat.reduceEqDiff, Nat.reduceAdd, Int.reduceEq, Int.reduceLT, Int.reduceLE, Int.reduceToNat, reduceIte, reduceCtorEq, Nat.reduceLeDiff, Nat.reduceLT, Nat.reduceMul, Nat.reduceSub, c13, cmdV, tasksV, c0, c1, c2, c3, c4, c5]
  refine ⟨_, kd, ?_⟩
  simp (maxSteps := 1000000) (disch := omega) only [rg, gD, Nat.reduceBEq, Nat.reduceEqDiff, Nat.reduceAdd, Int.reduceEq, Int.reduceLT, Int.reduceLE, Int.reduceToNat, reduceIte, reduceCtorEq, Nat.reduceLeDiff, Nat.reduceLT, Nat.reduceMul, Nat.reduceSub]
  have : decide (a = b) = decide (a.dag = b.dag) := by rw [decide_eq_decide, cmd_ext]; simp [c0, c1, c2, c3, c4, c5]
  (refine fin_x rfl ?_ ?_ <;> simp [pack, lo, loL, V.closed, closedL, mv_closed, this])

end Go.Proofs.Ytjlpmndipceboaa.Ev
end
section
set_option linter.unusedSimpArgs false
set_option linter.unusedVariables false
set_option maxRecDepth 10000
namespace Go.Proofs.Ytjlpmndipceboaa.Ev
open Go

def cutT (t : Task) : Task := ⟨t.needs.take 20, t.tries, t.wait, t.lease⟩
def shortS (c : Cmd) : Cmd := ⟨c.kind, c.key.take 300, c.name.take 300, c.token, c.time, c.text.take 300, ⟨c.dag.name, (c.dag.tasks.take 20).map cutT⟩⟩
def bigCmd (c : Cmd) : Prop := c.key.length ≤ 4611686018427387904 ∧ c.name.length ≤ 4611686018427387904 ∧ c.text.length ≤ 4611686018427387904 ∧ c.dag.tasks.length ≤ 4611686018427387904 ∧ ∀ t ∈ c.dag.tasks, t.needs.length ≤ 4611686018427387904

theorem min_nat {α : Type} (l : List α) (n : Nat) : (min (l.length : Int) n).toNat = min l.length n := by omega
theorem take_min {α : Type} (l : List α) (n : Nat) : l.take (min l.length n) = l.take n := by
  rw [Nat.min_comm]; exact (List.take_eq_take_min ..).symm
theorem mv_take' {α : Type} (f : α → V) (l : List α) (n : Nat) : List.take n (mv f l) = mv f (l.take n) := mv_take

theorem law_short (c : Cmd) (hc : bigCmd c) : PCall Try.prog 7 [cmdV c] (cmdV (shortS c)) := by
  refine en7 (by simp) (by simp [closedL, V.closed, cmdV_closed]) ?_
  obtain ⟨h1, h2, h3, h4, h5⟩ := hc
  have a1 : (min (c.key.length : Int) 300).toNat = min c.key.length 300 := by omega
  have a2 : (min (c.name.length : Int) 300).toNat = min c.name.length 300 := by omega
  have a3 : (min (c.text.length : Int) 300).toNat = min c.text.length 300 := by omega
  have a4 : (min (c.dag.tasks.length : Int) 20).toNat = min c.dag.tasks.length 20 := by omega
  have hL20 : (c.dag.tasks.take 20).length ≤ 20 := by simp; omega
  have hL5 : ∀ t ∈ c.dag.tasks.take 20, t.needs.length ≤ 4611686018427387904 := fun t ht => h5 t (List.mem_of_mem_take ht)
  have hS : shortS c = ⟨c.kind, c.key.take 300, c.name.take 300, c.token, c.time, c.text.take 300, ⟨c.dag.name, (c.dag.tasks.take 20).map cutT⟩⟩ := rfl
  rw [hS]
  simp (maxSteps := 1000000) (disch := omega) only [rg, gD, Nat.reduceBEq, Nat.reduceEqDiff, Nat.reduceAdd, Int.reduceEq, Int.reduceLT, Int.reduceLE, Int.reduceToNat, reduceIte, reduceCtorEq, Nat.reduceLeDiff, Nat.reduceLT, Nat.reduceMul, Nat.reduceSub, c7, cmdV, tasksV, a1, a2, a3, a4, take_min, mv_take', slSt]
  generalize c.dag.tasks.take 20 = L at hL20 hL5
  refine ⟨⟨by omega, by omega, by omega⟩, ⟨by omega, by omega, by omega⟩, ⟨by omega, by omega, by omega⟩, ⟨by omega, by omega, by omega⟩, ?_⟩
  cases hLc : L with
  | nil =>
    simp (maxSteps := 1000000) (disch := omega) only [rg, gD, Nat.reduceBEq, Nat.reduceEqDiff, Nat.reduceAdd, Int.reduceEq, Int.reduceLT, Int.reduceLE, Int.reduceToNat, reduceIte, reduceCtorEq, Nat.reduceLeDiff, Nat.reduceLT, Nat.reduceMul, Nat.reduceSub, appO, mv_nil, List.length_nil]
    refine x_it 0 (fun i σ H => H.m 0 = some (.arr 8 [.agg [.int .i64 c.kind, .str (c.key.take 300), .str (c.name.take 300), .int .i64 c.token, .int .i64 c.time, .str (c.text.take 300), .str c.dag.name, .fsl .full 4 []]]) ∧ H.m 1 = some (.arr 8 [.agg [.int .i64 0, .str [], .str [], .int .i64 0, .int .i64 0, .str [], .str [], .fsl .nil 4 []]]) ∧ σ = [(1, .ptr 0 0 0), (2, .ptr 1 0 0), (44, .fsl .full 4 []), (45, .int .i64 0), (46, .int .i64 0)]) ⟨(by simp (disch := omega) only [upd_eq, upd_ne, wo_0, wo_1, wo_2]), (by simp (disch := omega) only [upd_eq, upd_ne, wo_0, wo_1, wo_2]), rfl⟩ ?_
    rintro T i σ ⟨q, m⟩ hi ⟨e0, e1, rfl⟩ hN hX hR
    simp only at e0 e1
    simp (maxSteps := 1000000) (disch := omega) only [rg, gD, Nat.reduceBEq, Nat.reduceEqDiff, Nat.reduceAdd, Int.reduceEq, Int.reduceLT, Int.reduceLE, Int.reduceToNat, reduceIte, reduceCtorEq, Nat.reduceLeDiff, Nat.reduceLT, Nat.reduceMul, Nat.reduceSub]
    refine hX _ _ _ ?_
    simp (maxSteps := 1000000) (disch := omega) only [rg, gD, Nat.reduceBEq, Nat.reduceEqDiff, Nat.reduceAdd, Int.reduceEq, Int.reduceLT, Int.reduceLE, Int.reduceToNat, reduceIte, reduceCtorEq, Nat.reduceLeDiff, Nat.reduceLT, Nat.reduceMul, Nat.reduceSub]
    refine x_frz0 ?_
    simp (maxSteps := 1000000) (disch := omega) only [rg, gD, Nat.reduceBEq, Nat.reduceEqDiff, Nat.reduceAdd, Int.reduceEq, Int.reduceLT, Int.reduceLE, Int.reduceToNat, reduceIte, reduceCtorEq, Nat.reduceLeDiff, Nat.reduceLT, Nat.reduceMul, Nat.reduceSub, e0, e1]
    (refine fin_x rfl ?_ ?_ <;> simp [pack, lo, loL, V.closed, closedL, mv_closed, mv])
  | cons t0 L' =>
    simp (maxSteps := 1000000) (disch := omega) only [rg, gD, Nat.reduceBEq, Nat.reduceEqDiff, Nat.reduceAdd, Int.reduceEq, Int.reduceLT, Int.reduceLE, Int.reduceToNat, reduceIte, reduceCtorEq, Nat.reduceLeDiff, Nat.reduceLT, Nat.reduceMul, Nat.reduceSub, appO, mv_cons, List.length_cons, List.nil_append, List.length_nil]
    have e1 : L'.length + 1 = L.length := by rw [hLc]; rfl
    have e2 : taskV t0 :: mv taskV L' = mv taskV L := by rw [hLc]; rfl
    have e3 : List.map cutT (t0 :: L') = L.map cutT := by rw [hLc]
    rw [e1, e2]
    try rw [e3]
    have hst : ∀ i, i < L.length → (mv taskV ((L.take i).map cutT ++ L.drop i))[i]? = (mv taskV L)[i]? := fun i hi => by
      simp only [mv, List.getElem?_map]
      rw [List.getElem?_append_right (by simp; omega)]
      simp [show min i L.length = i by omega]
    have hnext : ∀ i (hi : i < L.length), (mv taskV ((L.take i).map cutT ++ L.drop i)).set i (taskV (cutT L[i])) = mv taskV ((L.take (i + 1)).map cutT ++ L.drop (i + 1)) := fun i hi => by
      rw [mv_set, List.set_append_right _ _ (by simp; omega)]
      simp only [List.length_map, List.length_take, show min i L.length = i by omega, Nat.sub_self]
      rw [List.drop_eq_getElem_cons hi, List.set_cons_zero, List.take_succ_eq_append_getElem hi, List.map_append, List.append_assoc]
      rfl
    refine ⟨by omega, ?_⟩
    refine x_it L.length (fun i σ H => 3 ≤ H.n ∧ H.m 0 = some (.arr 8 [.agg [.int .i64 c.kind, .str (c.key.take 300), .str (c.name.take 300), .int .i64 c.token, .int .i64 c.time, .str (c.text.take 300), .str c.dag.name, .sl 2 0 L.length]]) ∧ H.m 1 = some (.arr 8 [.agg [.int .i64 0, .str [], .str [], .int .i64 0, .int .i64 0, .str [], .str [], .fsl .nil 4 []]]) ∧ H.m 2 = some (.arr 4 (mv taskV ((L.take i).map cutT ++ L.drop i))) ∧ σ = [(1, .ptr 0 0 0), (2, .ptr 1 0 0), (44, .sl 2 0 L.length), (45, .int .i64 L.length), (46, .int .i64 i)]) ⟨Nat.le_refl 3, (by simp (disch := omega) only [upd_eq, upd_ne, wo_0, wo_1, wo_2]), (by simp (disch := omega) only [upd_eq, upd_ne, wo_0, wo_1, wo_2]), by simp [upd], rfl⟩ ?_
    rintro T i σ ⟨q, m⟩ hi ⟨hq, d0, d1, d2, rfl⟩ hN hX hR
    simp only at hq d0 d1 d2
    simp (maxSteps := 1000000) (disch := omega) only [rg, gD, Nat.reduceBEq, Nat.reduceEqDiff, Nat.reduceAdd, Int.reduceEq, Int.reduceLT, Int.reduceLE, Int.reduceToNat, reduceIte, reduceCtorEq, Nat.reduceLeDiff, Nat.reduceLT, Nat.reduceMul, Nat.reduceSub]
    refine ⟨fun h => ?_, fun h => ?_⟩
    · have i1 : i < L.length := by omega
      have hnl := hL5 _ (List.getElem_mem i1)
      have b4 : (min (L[i].needs.length : Int) 20).toNat = min L[i].needs.length 20 := by omega
      have hg := (hst i i1).trans (mv_get i1)
      have hq0 : 0 ≠ q := by omega
      have hq2 : 2 ≠ q := by omega
      have hn := hnext i i1
      unfold taskV at hg
      have htk : List.take (min L[i].needs.length 20) (vI L[i].needs) = vI (L[i].needs.take 20) := by rw [vI, mv_take, take_min]; rfl
      have hn2 : (mv taskV ((L.take i).map cutT ++ L.drop i)).set i (.agg [.fsl .loose 1 (vI (L[i].needs.take 20)), .int .i64 L[i].tries, .int .i64 L[i].wait, .int .i64 L[i].lease]) = mv taskV ((L.take (i + 1)).map cutT ++ L.drop (i + 1)) := hn
      unfold taskV at hn2
      have d2' := d2
      unfold taskV at d2'
      simp (maxSteps := 1000000) (disch := omega) only [rg, gD, Nat.reduceBEq, Nat.reduceEqDiff, Nat.reduceAdd, Int.reduceEq, Int.reduceLT, Int.reduceLE, Int.reduceToNat, reduceIte, reduceCtorEq, Nat.reduceLeDiff, Nat.reduceLT, Nat.reduceMul, Nat.reduceSub, d0, d2', hg, Nat.zero_add, vI_len, b4, htk, slSt, hn2]
      have hq1 : 1 ≠ q := by omega
      exact ⟨by omega, ⟨by omega, by omega, by omega⟩, by omega, hN _ _ i1 ⟨by show 3 ≤ q + 1; omega, (by simp (disch := omega) only [upd_eq, upd_ne, wo_0, wo_1, wo_2, d0]), (by simp (disch := omega) only [upd_eq, upd_ne, wo_0, wo_1, wo_2, d1]), by simp only [upd_eq]; rfl, rfl⟩⟩
    · obtain rfl : i = L.length := by omega
      refine hX _ _ _ ?_
      simp (maxSteps := 1000000) (disch := omega) only [rg, gD, Nat.reduceBEq, Nat.reduceEqDiff, Nat.reduceAdd, Int.reduceEq, Int.reduceLT, Int.reduceLE, Int.reduceToNat, reduceIte, reduceCtorEq, Nat.reduceLeDiff, Nat.reduceLT, Nat.reduceMul, Nat.reduceSub]
      refine x_frz0 ?_
      rw [List.take_length, List.drop_length, List.append_nil] at d2
      simp (maxSteps := 1000000) (disch := omega) only [rg, gD, Nat.reduceBEq, Nat.reduceEqDiff, Nat.reduceAdd, Int.reduceEq, Int.reduceLT, Int.reduceLE, Int.reduceToNat, reduceIte, reduceCtorEq, Nat.reduceLeDiff, Nat.reduceLT, Nat.reduceMul, Nat.reduceSub, d0, d1]
      have hcl : closedL (mv taskV (L.map cutT)) = true := mv_closed taskV_closed
      have hm2 : (upd m 1 (some (.arr 8 [.agg [.int .i64 c.kind, .str (c.key.take 300), .str (c.name.take 300), .int .i64 c.token, .int .i64 c.time, .str (c.text.take 300), .str c.dag.name, .sl 2 0 L.length]]))) 2 = some (.arr 4 (mv taskV (L.map cutT))) := (by simp (disch := omega) only [upd_eq, upd_ne, wo_0, wo_1, wo_2, d2])
      generalize hmm : upd m 1 _ = m' at hm2
      have hs2 := snap_sl (n := 2) (id := 2) (len := L.length) hm2 hcl (by simp [mv_len])
      refine fin_y (v := .agg [.int .i64 c.kind, .str (c.key.take 300), .str (c.name.take 300), .int .i64 c.token, .int .i64 c.time, .str (c.text.take 300), .str c.dag.name, .fsl .loose 4 (mv taskV (L.map cutT))]) (l := [.agg [.int .i64 c.kind, .str (c.key.take 300), .str (c.name.take 300), .int .i64 c.token, .int .i64 c.time, .str (c.text.take 300), .str c.dag.name, .sl 2 0 L.length]]) (by rw [← hmm]; rfl) ?_ (by simp [lo, loL, mv_lo taskV_lo, hLc, mv_cons, taskV_lo])
      exact snap_agg (mapO_app (a := [.int .i64 c.kind, .str (c.key.take 300), .str (c.name.take 300), .int .i64 c.token, .int .i64 c.time, .str (c.text.take 300), .str c.dag.name]) (b := [.sl 2 0 L.length]) (mapO_closed rfl) (by simp [mapO, hs2]))

end Go.Proofs.Ytjlpmndipceboaa.Ev
end
section
set_option linter.unusedSimpArgs false
set_option linter.unusedVariables false
set_option maxRecDepth 10000
namespace Go.Proofs.Ytjlpmndipceboaa.Ev
open Go

def cmd3 : V := .agg [.int .i64 3, .str [], .str [], .int .i64 0, .int .i64 0, .str [], .str [], .fsl .nil 4 []]
def cmd3l : V := .agg [.int .i64 3, .str [], .str [], .int .i64 0, .int .i64 0, .str [], .str [], .fsl .loose 4 []]
theorem bare3 : PCall Try.prog 50 [cmd3] cmd3l := by
  refine en50 (by simp) (by simp [closedL, V.closed, cmd3]) ?_
  simp (maxSteps := 1000000) (disch := omega) only [rg, gD, Nat.reduceBEq, Nat.reduceEqDiff, Nat.reduceAdd, Int.reduceEq, Int.reduceLT, Int.reduceLE, Int.reduceToNat, reduceIte, reduceCtorEq, Nat.reduceLeDiff, Nat.reduceLT, Nat.reduceMul, Nat.reduceSub, c50, cmd3]
  (refine fin_x rfl ?_ ?_ <;> simp [pack, lo, loL, V.closed, closedL, mv_closed, cmd3l])
theorem clean3 : PCall Try.prog 21 [cmd3] (.bool true) := by
  refine en21 (by simp) (by simp [closedL, V.closed, cmd3]) ?_
  have k := bare3
  unfold cmd3 cmd3l at k
  simp (maxSteps := 1000000) (disch := omega) only [rg, gD, Nat.reduceBEq, Nat.reduceEqDiff, Nat.reduceAdd, Int.reduceEq, Int.reduceLT, Int.reduceLE, Int.reduceToNat, reduceIte, reduceCtorEq, Nat.reduceLeDiff, Nat.reduceLT, Nat.reduceMul, Nat.reduceSub, c21, cmd3]
  refine ⟨_, k, ?_⟩
  simp (maxSteps := 1000000) (disch := omega) only [rg, gD, Nat.reduceBEq, Nat.reduceEqDiff, Nat.reduceAdd, Int.reduceEq, Int.reduceLT, Int.reduceLE, Int.reduceToNat, reduceIte, reduceCtorEq, Nat.reduceLeDiff, Nat.reduceLT, Nat.reduceMul, Nat.reduceSub]
  (refine fin_x rfl ?_ ?_ <;> simp [pack, lo, loL, V.closed, closedL, mv_closed])
theorem put3 : PCall Try.prog 8 [cmd3] (sV (sealS [3], 0)) := by
  refine en8 (by simp) (by simp [closedL, V.closed, cmd3]) ?_
  have k := clean3
  unfold cmd3 at k
  simp (maxSteps := 1000000) (disch := omega) only [rg, gD, Nat.reduceBEq, Nat.reduceEqDiff, Nat.reduceAdd, Int.reduceEq, Int.reduceLT, Int.reduceLE, Int.reduceToNat, reduceIte, reduceCtorEq, Nat.reduceLeDiff, Nat.reduceLT, Nat.reduceMul, Nat.reduceSub, c8, cmd3]
  refine ⟨_, k, ?_⟩
  simp (maxSteps := 1000000) (disch := omega) only [rg, gD, Nat.reduceBEq, Nat.reduceEqDiff, Nat.reduceAdd, Int.reduceEq, Int.reduceLT, Int.reduceLE, Int.reduceToNat, reduceIte, reduceCtorEq, Nat.reduceLeDiff, Nat.reduceLT, Nat.reduceMul, Nat.reduceSub]
  refine ⟨_, _, _, _, w_num _ 1 ([], false) 3 1 (by simp) (by omega) (by simp) (by simp (disch := omega) only [upd_eq, upd_ne, wo_0, wo_1, wo_2, wrV]), ?_⟩
  have hw : wNum ([], false) 3 1 = ([3], false) := by rfl
  rw [hw]
  simp (maxSteps := 1000000) (disch := omega) only [rg, gD, Nat.reduceBEq, Nat.reduceEqDiff, Nat.reduceAdd, Int.reduceEq, Int.reduceLT, Int.reduceLE, Int.reduceToNat, reduceIte, reduceCtorEq, Nat.reduceLeDiff, Nat.reduceLT, Nat.reduceMul, Nat.reduceSub]
  refine ⟨_, _, _, _, w_end _ 1 ([3], false) (by simp) (by simp) (by simp (disch := omega) only [upd_eq, upd_ne, wo_0, wo_1, wo_2]), ?_⟩
  simp (maxSteps := 1000000) (disch := omega) only [rg, gD, Nat.reduceBEq, Nat.reduceEqDiff, Nat.reduceAdd, Int.reduceEq, Int.reduceLT, Int.reduceLE, Int.reduceToNat, reduceIte, reduceCtorEq, Nat.reduceLeDiff, Nat.reduceLT, Nat.reduceMul, Nat.reduceSub, sV, wEnd]
  (refine fin_x rfl ?_ ?_ <;> simp [pack, lo, loL, V.closed, closedL, mv_closed, sV])
theorem law_alive : PCall Try.prog 12 [] (.bool true) := by
  refine en12 (by simp) (by simp [closedL]) ?_
  have k := put3
  unfold cmd3 at k
  simp (maxSteps := 1000000) (disch := omega) only [rg, gD, Nat.reduceBEq, Nat.reduceEqDiff, Nat.reduceAdd, Int.reduceEq, Int.reduceLT, Int.reduceLE, Int.reduceToNat, reduceIte, reduceCtorEq, Nat.reduceLeDiff, Nat.reduceLT, Nat.reduceMul, Nat.reduceSub, c12]
  refine ⟨_, k, ?_⟩
  simp (maxSteps := 1000000) (disch := omega) only [rg, gD, Nat.reduceBEq, Nat.reduceEqDiff, Nat.reduceAdd, Int.reduceEq, Int.reduceLT, Int.reduceLE, Int.reduceToNat, reduceIte, reduceCtorEq, Nat.reduceLeDiff, Nat.reduceLT, Nat.reduceMul, Nat.reduceSub, sV]
  have e : (sealS [3]).length = 5 := by simp [sealS, le4]
  (refine fin_x rfl ?_ ?_ <;> simp [pack, lo, loL, V.closed, closedL, mv_closed, e])

theorem told_small (s : Str) (hs : s.length ≤ 1000000) : (refToldS s).1.states.length ≤ 1000000 := by
  by_cases c : (refToldS s).2 = 0
  · rw [← told_same] at c ⊢
    have := told_back c
    unfold answerS at this; split at this
    · rename_i h
      simp only [ansRightS, ansNumS, Bool.and_eq_true, decide_eq_true_eq] at h; omega
    · simp at this
  · have : refToldS s = (zeroA, 230) := by
      unfold refToldS at c ⊢
      split
      · rename_i h1
        rw [if_pos h1] at c
        split
        · rename_i a h2
          rw [h2] at c; simp only at c
          split
          · rename_i h3; rw [if_pos h3] at c; exact absurd rfl c
          · rfl
        · rfl
      · rfl
    rw [this]; simp [zeroA]

theorem law_answers (a : Ans) (t : Str) (hk : a.key.length ≤ 4611686018427387904) (hl : a.states.length ≤ 4611686018427387904) (hst : ∀ s ∈ a.states, okSt s) (hi : i64A a) (ht : t.length ≤ 4611686018427387904) : PCall Try.prog 5 [ansV a, .str t] (.bool true) := by
  refine en5 (by simp) (by simp [closedL, V.closed, ansV_closed]) ?_
  have kb := law_brief a hk hl
  have hob : okAns (briefS a) := ⟨by simp [briefS]; omega, by simp [briefS]; omega, fun s hs => hst s (List.mem_of_mem_take hs)⟩
  have kf := frame_answer (briefS a) hob hi
  have kr := ref_answer (briefS a) hob
  generalize briefS a = b at kb kf kr
  have e1 : (min (t.length : Int) 3000).toNat = min t.length 3000 := by omega
  have e2 : t.take (min t.length 3000) = t.take 3000 := by rw [Nat.min_comm]; exact (List.take_eq_take_min ..).symm
  have hsl : (t.take 3000).length ≤ 1000000 := by simp; omega
  unfold ansV at kb kf kr
  simp (maxSteps := 1000000) (disch := omega) only [rg, gD, Nat.reduceBEq, Nat.reduceEqDiff, Nat.reduceAdd, Int.reduceEq, Int.reduceLT, Int.reduceLE, Int.reduceToNat, reduceIte, reduceCtorEq, Nat.reduceLeDiff, Nat.reduceLT, Nat.reduceMul, Nat.reduceSub, c5, ansV]
  refine ⟨_, kb, ?_⟩
  simp (maxSteps := 1000000) (disch := omega) only [rg, gD, Nat.reduceBEq, Nat.reduceEqDiff, Nat.reduceAdd, Int.reduceEq, Int.reduceLT, Int.reduceLE, Int.reduceToNat, reduceIte, reduceCtorEq, Nat.reduceLeDiff, Nat.reduceLT, Nat.reduceMul, Nat.reduceSub, e1, e2]
  refine ⟨⟨by omega, by omega, by omega⟩, _, kf, ?_⟩
  generalize answerS b = w at kf kr
  obtain ⟨w1, w2⟩ := w
  simp (maxSteps := 1000000) (disch := omega) only [rg, gD, Nat.reduceBEq, Nat.reduceEqDiff, Nat.reduceAdd, Int.reduceEq, Int.reduceLT, Int.reduceLE, Int.reduceToNat, reduceIte, reduceCtorEq, Nat.reduceLeDiff, Nat.reduceLT, Nat.reduceMul, Nat.reduceSub, sV]
  refine ⟨_, kr, ?_⟩
  generalize t.take 3000 = u at hsl
  have k1 := frame_told u hsl
  have k2 := ref_told u hsl
  rw [told_same] at k1
  have hsm := told_small u hsl
  generalize refToldS u = v at k1 k2 hsm
  obtain ⟨v1, v2⟩ := v
  have kl := like_answer v1 v1 hsm hsm
  rw [like_refl] at kl
  unfold ansP at k1 k2
  unfold ansV at k1 k2 kl
  have kal := law_alive
  simp (maxSteps := 1000000) (disch := omega) only [rg, gD, Nat.reduceBEq, Nat.reduceEqDiff, Nat.reduceAdd, Int.reduceEq, Int.reduceLT, Int.reduceLE, Int.reduceToNat, reduceIte, reduceCtorEq, Nat.reduceLeDiff, Nat.reduceLT, Nat.reduceMul, Nat.reduceSub, sV]
  refine ⟨_, k1, ?_⟩
  simp (maxSteps := 1000000) (disch := omega) only [rg, gD, Nat.reduceBEq, Nat.reduceEqDiff, Nat.reduceAdd, Int.reduceEq, Int.reduceLT, Int.reduceLE, Int.reduceToNat, reduceIte, reduceCtorEq, Nat.reduceLeDiff, Nat.reduceLT, Nat.reduceMul, Nat.reduceSub]
  refine ⟨_, k2, ?_⟩
  simp (maxSteps := 1000000) (disch := omega) only [rg, gD, Nat.reduceBEq, Nat.reduceEqDiff, Nat.reduceAdd, Int.reduceEq, Int.reduceLT, Int.reduceLE, Int.reduceToNat, reduceIte, reduceCtorEq, Nat.reduceLeDiff, Nat.reduceLT, Nat.reduceMul, Nat.reduceSub]
  refine ⟨_, kal, ?_⟩
  simp (maxSteps := 1000000) (disch := omega) only [rg, gD, Nat.reduceBEq, Nat.reduceEqDiff, Nat.reduceAdd, Int.reduceEq, Int.reduceLT, Int.reduceLE, Int.reduceToNat, reduceIte, reduceCtorEq, Nat.reduceLeDiff, Nat.reduceLT, Nat.reduceMul, Nat.reduceSub]
  refine ⟨_, kl, ?_⟩
  simp (maxSteps := 1000000) (disch := omega) only [rg, gD, Nat.reduceBEq, Nat.reduceEqDiff, Nat.reduceAdd, Int.reduceEq, Int.reduceLT, Int.reduceLE, Int.reduceToNat, reduceIte, reduceCtorEq, Nat.reduceLeDiff, Nat.reduceLT, Nat.reduceMul, Nat.reduceSub]
  (refine fin_x rfl ?_ ?_ <;> simp [pack, lo, loL, V.closed, closedL, mv_closed])

end Go.Proofs.Ytjlpmndipceboaa.Ev
end
section
set_option linter.unusedSimpArgs false
set_option linter.unusedVariables false
set_option maxRecDepth 10000
namespace Go.Proofs.Ytjlpmndipceboaa.Ev
open Go

theorem short_ok {c : Cmd} (hi : okDagN c.dag) (hi2 : okCmdI c) : okCmd (shortS c) := by
  refine ⟨by simp [shortS]; omega, by simp [shortS]; omega, by simp [shortS]; omega, by simp [shortS]; omega, fun t ht => ?_, fun t ht => ?_, hi2⟩
  · simp only [shortS, List.mem_map] at ht
    obtain ⟨u, hu, rfl⟩ := ht
    simp [cutT]; omega
  · simp only [shortS, List.mem_map] at ht
    obtain ⟨u, hu, rfl⟩ := ht
    have := hi u (List.mem_of_mem_take hu)
    exact ⟨fun x hx => this.1 x (List.mem_of_mem_take hx), this.2⟩
theorem get_small (s : Str) (hs : s.length ≤ 1000000) : okDagL (cmdGetS s).1.dag := by
  rw [cmd_same]
  unfold refCmdS
  have hz : okDagL zeroC.dag := ⟨by simp [zeroC, zeroD], fun t ht => by simp [zeroC, zeroD] at ht⟩
  split
  · have := rawR_ok (openS s).1 (Nat.le_trans (openS_len s) hs)
    split
    · exact ⟨this.2.2.2.1, this.2.2.2.2.1⟩
    · exact hz
  · exact hz

theorem law_commands (c : Cmd) (t : Str) (hc : bigCmd c) (hi : okDagN c.dag) (hi2 : okCmdI c) (ht : t.length ≤ 4611686018427387904) : PCall Try.prog 3 [cmdV c, .str t] (.bool true) := by
  refine en3 (by simp) (by simp [closedL, V.closed, cmdV_closed]) ?_
  have ks := law_short c hc
  have ko := short_ok hi hi2
  generalize shortS c = b at ks ko
  have kf := frame_put b ko
  have kr := ref23_put b ko
  have e1 : (min (t.length : Int) 3000).toNat = min t.length 3000 := by omega
  have hsl : (t.take 3000).length ≤ 1000000 := by simp; omega
  unfold cmdV tasksV at ks kf kr
  simp (maxSteps := 1000000) (disch := omega) only [rg, gD, Nat.reduceBEq, Nat.reduceEqDiff, Nat.reduceAdd, Int.reduceEq, Int.reduceLT, Int.reduceLE, Int.reduceToNat, reduceIte, reduceCtorEq, Nat.reduceLeDiff, Nat.reduceLT, Nat.reduceMul, Nat.reduceSub, c3, cmdV, tasksV]
  refine ⟨_, ks, ?_⟩
  simp (maxSteps := 1000000) (disch := omega) only [rg, gD, Nat.reduceBEq, Nat.reduceEqDiff, Nat.reduceAdd, Int.reduceEq, Int.reduceLT, Int.reduceLE, Int.reduceToNat, reduceIte, reduceCtorEq, Nat.reduceLeDiff, Nat.reduceLT, Nat.reduceMul, Nat.reduceSub, e1, take_min]
  refine ⟨⟨by omega, by omega, by omega⟩, _, kf, ?_⟩
  generalize cmdPutS b = w at kf kr
  obtain ⟨w1, w2⟩ := w
  simp (maxSteps := 1000000) (disch := omega) only [rg, gD, Nat.reduceBEq, Nat.reduceEqDiff, Nat.reduceAdd, Int.reduceEq, Int.reduceLT, Int.reduceLE, Int.reduceToNat, reduceIte, reduceCtorEq, Nat.reduceLeDiff, Nat.reduceLT, Nat.reduceMul, Nat.reduceSub, sV]
  refine ⟨_, kr, ?_⟩
  generalize t.take 3000 = u at hsl
  have k1 := frame_get u hsl
  have k2 := ref23_get u hsl
  have hsm := get_small u hsl
  rw [cmd_same] at k1 hsm
  generalize refCmdS u = v at k1 k2 hsm
  obtain ⟨v1, v2⟩ := v
  have kl := like_cmd v1 v1 hsm hsm
  rw [decide_eq_true rfl] at kl
  unfold cmdR at k1 k2
  unfold cmdV tasksV at k1 k2 kl
  have kal := law_alive
  simp (maxSteps := 1000000) (disch := omega) only [rg, gD, Nat.reduceBEq, Nat.reduceEqDiff, Nat.reduceAdd, Int.reduceEq, Int.reduceLT, Int.reduceLE, Int.reduceToNat, reduceIte, reduceCtorEq, Nat.reduceLeDiff, Nat.reduceLT, Nat.reduceMul, Nat.reduceSub, sV]
  refine ⟨_, k1, ?_⟩
  simp (maxSteps := 1000000) (disch := omega) only [rg, gD, Nat.reduceBEq, Nat.reduceEqDiff, Nat.reduceAdd, Int.reduceEq, Int.reduceLT, Int.reduceLE, Int.reduceToNat, reduceIte, reduceCtorEq, Nat.reduceLeDiff, Nat.reduceLT, Nat.reduceMul, Nat.reduceSub]
  refine ⟨_, k2, ?_⟩
  simp (maxSteps := 1000000) (disch := omega) only [rg, gD, Nat.reduceBEq, Nat.reduceEqDiff, Nat.reduceAdd, Int.reduceEq, Int.reduceLT, Int.reduceLE, Int.reduceToNat, reduceIte, reduceCtorEq, Nat.reduceLeDiff, Nat.reduceLT, Nat.reduceMul, Nat.reduceSub]
  refine ⟨_, kal, ?_⟩
  simp (maxSteps := 1000000) (disch := omega) only [rg, gD, Nat.reduceBEq, Nat.reduceEqDiff, Nat.reduceAdd, Int.reduceEq, Int.reduceLT, Int.reduceLE, Int.reduceToNat, reduceIte, reduceCtorEq, Nat.reduceLeDiff, Nat.reduceLT, Nat.reduceMul, Nat.reduceSub]
  refine ⟨_, kl, ?_⟩
  simp (maxSteps := 1000000) (disch := omega) only [rg, gD, Nat.reduceBEq, Nat.reduceEqDiff, Nat.reduceAdd, Int.reduceEq, Int.reduceLT, Int.reduceLE, Int.reduceToNat, reduceIte, reduceCtorEq, Nat.reduceLeDiff, Nat.reduceLT, Nat.reduceMul, Nat.reduceSub]
  (refine fin_x rfl ?_ ?_ <;> simp [pack, lo, loL, V.closed, closedL, mv_closed])

theorem told_okA (s : Str) (hs : s.length ≤ 1000000) : okAns (toldS s).1 ∧ i64A (toldS s).1 := by
  by_cases c : (toldS s).2 = 0
  · have := told_back c
    unfold answerS at this; split at this
    · rename_i h
      simp only [ansRightS, ansNumS, Bool.and_eq_true, decide_eq_true_eq, List.all_eq_true] at h
      obtain ⟨⟨a1, a2, a3, a4, a5, a6, a7, a8, a9, a10⟩, h2⟩ := h
      exact ⟨⟨by omega, by omega, fun st hst => stands_ok (h2 st hst)⟩, by omega, by omega, by omega, by omega⟩
    · simp at this
  · have : toldS s = (zeroA, 230) := by
      unfold toldS at c ⊢; simp only at c ⊢; split
      · rfl
      · rename_i h; rw [if_neg h] at c; exact absurd rfl c
    rw [this]; simp [zeroA, okAns, i64A]

theorem seal_len (p : Str) : (sealS p).length = p.length + 4 := by simp [sealS, le4]
theorem cmdPut_len {c : Cmd} {s : Str} (h : cmdPutS c = (s, 0)) : s.length ≤ 1000000 := by
  unfold cmdPutS at h
  split at h
  · rename_i hP
    obtain ⟨h1, h2, h3, ⟨f1, f2, f3, _⟩, h5⟩ := hP
    simp only [Prod.mk.injEq] at h
    rw [← h.1, seal_len]
    have b0 := putS_len1 c.kind
    have tk := textS_len c.key
    have tn := textS_len c.name
    have tt := textS_len c.text
    have p6 := putS_len6 c.token
    have q6 := putS_len6 c.time
    have hB : (cmdBody c).length ≤ 100000 := by
      unfold cmdBody
      split
      · rename_i k
        have hdl := right_fit (h5 k)
        have h1 := tsksB_len (l := c.dag.tasks) (N := 10) hdl.2.2.2.2
        have h2 := textS_len c.dag.name
        have h3 := putS_len1 c.dag.tasks.length
        simp only [dagB, List.length_append]; omega
      split
      · simp only [List.length_append]; omega
      split
      · omega
      split
      · simp only [List.length_append]; omega
      split
      · omega
      split
      · omega
      · simp
    simp only [cmdB, List.length_append]; omega
  · simp at h
theorem answer_len {a : Ans} {s : Str} (h : answerS a = (s, 0)) : s.length ≤ 1000000 ∧ a.states.length ≤ 1000000 := by
  unfold answerS at h
  split at h
  · rename_i hP
    simp only [ansRightS, ansNumS, Bool.and_eq_true, decide_eq_true_eq, List.all_eq_true] at hP
    obtain ⟨⟨a1, a2, a3, a4, a5, a6, a7, a8, a9, a10⟩, h2⟩ := hP
    simp only [Prod.mk.injEq] at h
    rw [← h.1, seal_len]
    have := ansHead_len a
    have := stsB_len h2
    simp only [List.length_append]; omega
  · simp at h
theorem get_okC (s : Str) (hs : s.length ≤ 1000000) : okCmd (cmdGetS s).1 := by
  rw [cmd_same]
  unfold refCmdS
  have hz : okCmd zeroC := ⟨by simp [zeroC], by simp [zeroC], by simp [zeroC], by simp [zeroC, zeroD], fun t ht => by simp [zeroC, zeroD] at ht, fun t ht => by simp [zeroC, zeroD] at ht, by simp [okCmdI, zeroC]⟩
  split
  · have := rawR_ok (openS s).1 (Nat.le_trans (openS_len s) hs)
    split
    · exact this
    · exact hz
  · exact hz

theorem law_back (c : Cmd) (a : Ans) (t : Str) (hc : bigCmd c) (hi : okDagN c.dag) (hi2 : okCmdI c) (hk : a.key.length ≤ 4611686018427387904) (hl : a.states.length ≤ 4611686018427387904) (hst : ∀ s ∈ a.states, okSt s) (hia : i64A a) (ht : t.length ≤ 4611686018427387904) :
    PCall Try.prog 6 [cmdV c, ansV a, .str t] (.bool true) := by
  refine en6 (by simp) (by simp [closedL, V.closed, cmdV_closed, ansV_closed]) ?_
  have ks := law_short c hc
  have ko := short_ok hi hi2
  have kb := law_brief a hk hl
  have hob : okAns (briefS a) := ⟨by simp [briefS]; omega, by simp [briefS]; omega, fun s hs => hst s (List.mem_of_mem_take hs)⟩
  have hib : i64A (briefS a) := hia
  have hcl : okDagL (shortS c).dag := ⟨ko.2.2.2.1, ko.2.2.2.2.1⟩
  generalize shortS c = b at ks ko hcl
  generalize briefS a = d at kb hob hib
  have kf := frame_put b ko
  have kan := frame_answer d hob hib
  have e1 : (min (t.length : Int) 3000).toNat = min t.length 3000 := by omega
  have hsl : (t.take 3000).length ≤ 1000000 := by simp; omega
  have kal := law_alive
  unfold cmdV tasksV at ks kf
  unfold ansV at kb kan
  simp (maxSteps := 1000000) (disch := omega) only [rg, gD, Nat.reduceBEq, Nat.reduceEqDiff, Nat.reduceAdd, Int.reduceEq, Int.reduceLT, Int.reduceLE, Int.reduceToNat, reduceIte, reduceCtorEq, Nat.reduceLeDiff, Nat.reduceLT, Nat.reduceMul, Nat.reduceSub, c6, cmdV, tasksV, ansV]
  refine ⟨_, ks, ?_⟩
  simp (maxSteps := 1000000) (disch := omega) only [rg, gD, Nat.reduceBEq, Nat.reduceEqDiff, Nat.reduceAdd, Int.reduceEq, Int.reduceLT, Int.reduceLE, Int.reduceToNat, reduceIte, reduceCtorEq, Nat.reduceLeDiff, Nat.reduceLT, Nat.reduceMul, Nat.reduceSub]
  refine ⟨_, kb, ?_⟩
  simp (maxSteps := 1000000) (disch := omega) only [rg, gD, Nat.reduceBEq, Nat.reduceEqDiff, Nat.reduceAdd, Int.reduceEq, Int.reduceLT, Int.reduceLE, Int.reduceToNat, reduceIte, reduceCtorEq, Nat.reduceLeDiff, Nat.reduceLT, Nat.reduceMul, Nat.reduceSub, e1, take_min]
  refine ⟨⟨by omega, by omega, by omega⟩, _, kf, ?_⟩
  generalize t.take 3000 = u at hsl
  -- what is got of any bytes
  have kg := frame_get u hsl
  have kgo := get_okC u hsl
  have kgb := cmd_back (s := u)
  generalize cmdGetS u = v at kg kgo kgb
  obtain ⟨v1, v2⟩ := v
  have kp := frame_put v1 kgo
  have kt := frame_told u hsl
  have kto := told_okA u hsl
  have ktb := told_back (s := u)
  have ktz : (toldS u).2 = 0 ∨ toldS u = (zeroA, 230) := by
    unfold toldS; simp only; split
    · exact .inr rfl
    · exact .inl rfl
  generalize toldS u = x at kt kto ktb ktz
  obtain ⟨x1, x2⟩ := x
  have kxa := frame_answer x1 kto.1 kto.2
  simp only at kgb ktb ktz kto
  have kz := like_answer zeroA zeroA (by simp [zeroA]) (by simp [zeroA])
  rw [like_refl] at kz
  unfold cmdR at kg
  unfold ansP at kt
  unfold cmdV tasksV at kg kp
  unfold ansV at kt kxa kz
  generalize hw : cmdPutS b = w at kf
  obtain ⟨w1, w2⟩ := w
  generalize hy : answerS d = y at kan
  obtain ⟨y1, y2⟩ := y
  simp (maxSteps := 1000000) (disch := omega) only [rg, gD, Nat.reduceBEq, Nat.reduceEqDiff, Nat.reduceAdd, Int.reduceEq, Int.reduceLT, Int.reduceLE, Int.reduceToNat, reduceIte, reduceCtorEq, Nat.reduceLeDiff, Nat.reduceLT, Nat.reduceMul, Nat.reduceSub, sV]
  refine ⟨fun h1 => ?_, fun h1 => ?_⟩
  · subst h1
    have kg1 := frame_get w1 (cmdPut_len hw)
    rw [(cmd_fore hw).1] at kg1
    have kl := like_cmd b b hcl hcl
    rw [decide_eq_true rfl] at kl
    unfold cmdR at kg1
    unfold cmdV tasksV at kg1 kl
    refine ⟨_, kg1, ?_⟩
    simp (maxSteps := 1000000) (disch := omega) only [rg, gD, Nat.reduceBEq, Nat.reduceEqDiff, Nat.reduceAdd, Int.reduceEq, Int.reduceLT, Int.reduceLE, Int.reduceToNat, reduceIte, reduceCtorEq, Nat.reduceLeDiff, Nat.reduceLT, Nat.reduceMul, Nat.reduceSub]
    refine ⟨_, kl, ?_⟩
    simp (maxSteps := 1000000) (disch := omega) only [rg, gD, Nat.reduceBEq, Nat.reduceEqDiff, Nat.reduceAdd, Int.reduceEq, Int.reduceLT, Int.reduceLE, Int.reduceToNat, reduceIte, reduceCtorEq, Nat.reduceLeDiff, Nat.reduceLT, Nat.reduceMul, Nat.reduceSub]
    refine ⟨_, kan, ?_⟩
    simp (maxSteps := 1000000) (disch := omega) only [rg, gD, Nat.reduceBEq, Nat.reduceEqDiff, Nat.reduceAdd, Int.reduceEq, Int.reduceLT, Int.reduceLE, Int.reduceToNat, reduceIte, reduceCtorEq, Nat.reduceLeDiff, Nat.reduceLT, Nat.reduceMul, Nat.reduceSub, sV]
    refine ⟨fun h2 => ?_, fun h2 => ?_⟩
    · subst h2
      obtain ⟨hyl, hyl2⟩ := answer_len hy
      have kt1 := frame_told y1 hyl
      rw [(answer_back hy).1] at kt1
      have kl2 := like_answer d d hyl2 hyl2
      rw [like_refl] at kl2
      unfold ansP at kt1
      unfold ansV at kt1 kl2
      refine ⟨_, kt1, ?_⟩
      simp (maxSteps := 1000000) (disch := omega) only [rg, gD, Nat.reduceBEq, Nat.reduceEqDiff, Nat.reduceAdd, Int.reduceEq, Int.reduceLT, Int.reduceLE, Int.reduceToNat, reduceIte, reduceCtorEq, Nat.reduceLeDiff, Nat.reduceLT, Nat.reduceMul, Nat.reduceSub]
      refine ⟨_, kl2, ?_⟩
      simp (maxSteps := 1000000) (disch := omega) only [rg, gD, Nat.reduceBEq, Nat.reduceEqDiff, Nat.reduceAdd, Int.reduceEq, Int.reduceLT, Int.reduceLE, Int.reduceToNat, reduceIte, reduceCtorEq, Nat.reduceLeDiff, Nat.reduceLT, Nat.reduceMul, Nat.reduceSub]
      refine ⟨_, kg, ?_⟩
      simp (maxSteps := 1000000) (disch := omega) only [rg, gD, Nat.reduceBEq, Nat.reduceEqDiff, Nat.reduceAdd, Int.reduceEq, Int.reduceLT, Int.reduceLE, Int.reduceToNat, reduceIte, reduceCtorEq, Nat.reduceLeDiff, Nat.reduceLT, Nat.reduceMul, Nat.reduceSub]
      by_cases h3 : v2 = 0
      · subst h3
        rw [kgb rfl] at kp
        simp (maxSteps := 1000000) (disch := omega) only [rg, gD, Nat.reduceBEq, Nat.reduceEqDiff, Nat.reduceAdd, Int.reduceEq, Int.reduceLT, Int.reduceLE, Int.reduceToNat, reduceIte, reduceCtorEq, Nat.reduceLeDiff, Nat.reduceLT, Nat.reduceMul, Nat.reduceSub]
        refine ⟨_, kp, ?_⟩
        simp (maxSteps := 1000000) (disch := omega) only [rg, gD, Nat.reduceBEq, Nat.reduceEqDiff, Nat.reduceAdd, Int.reduceEq, Int.reduceLT, Int.reduceLE, Int.reduceToNat, reduceIte, reduceCtorEq, Nat.reduceLeDiff, Nat.reduceLT, Nat.reduceMul, Nat.reduceSub, sV]
        refine ⟨_, kt, ?_⟩
        by_cases h4 : x2 = 0
        · subst h4
          rw [ktb rfl] at kxa
          simp (maxSteps := 1000000) (disch := omega) only [rg, gD, Nat.reduceBEq, Nat.reduceEqDiff, Nat.reduceAdd, Int.reduceEq, Int.reduceLT, Int.reduceLE, Int.reduceToNat, reduceIte, reduceCtorEq, Nat.reduceLeDiff, Nat.reduceLT, Nat.reduceMul, Nat.reduceSub]
          refine ⟨_, kxa, ?_⟩
          simp (maxSteps := 1000000) (disch := omega) only [rg, gD, Nat.reduceBEq, Nat.reduceEqDiff, Nat.reduceAdd, Int.reduceEq, Int.reduceLT, Int.reduceLE, Int.reduceToNat, reduceIte, reduceCtorEq, Nat.reduceLeDiff, Nat.reduceLT, Nat.reduceMul, Nat.reduceSub, sV]
          refine ⟨_, kal, ?_⟩
          simp (maxSteps := 1000000) (disch := omega) only [rg, gD, Nat.reduceBEq, Nat.reduceEqDiff, Nat.reduceAdd, Int.reduceEq, Int.reduceLT, Int.reduceLE, Int.reduceToNat, reduceIte, reduceCtorEq, Nat.reduceLeDiff, Nat.reduceLT, Nat.reduceMul, Nat.reduceSub]
          (refine fin_x rfl ?_ ?_ <;> simp [pack, lo, loL, V.closed, closedL, mv_closed])
        · have hxz : x1 = zeroA := by
            rcases ktz with h | h
            · exact absurd h h4
            · simp only [Prod.mk.injEq] at h; exact h.1
          subst hxz
          simp (maxSteps := 1000000) (disch := omega) only [rg, gD, Nat.reduceBEq, Nat.reduceEqDiff, Nat.reduceAdd, Int.reduceEq, Int.reduceLT, Int.reduceLE, Int.reduceToNat, reduceIte, reduceCtorEq, Nat.reduceLeDiff, Nat.reduceLT, Nat.reduceMul, Nat.reduceSub, h4]
          refine ⟨_, kal, ?_⟩
          simp (maxSteps := 1000000) (disch := omega) only [rg, gD, Nat.reduceBEq, Nat.reduceEqDiff, Nat.reduceAdd, Int.reduceEq, Int.reduceLT, Int.reduceLE, Int.reduceToNat, reduceIte, reduceCtorEq, Nat.reduceLeDiff, Nat.reduceLT, Nat.reduceMul, Nat.reduceSub]
          refine ⟨_, kz.of_eq (by simp [zeroA, sttsV, loL, lo, mv]), ?_⟩
          simp (maxSteps := 1000000) (disch := omega) only [rg, gD, Nat.reduceBEq, Nat.reduceEqDiff, Nat.reduceAdd, Int.reduceEq, Int.reduceLT, Int.reduceLE, Int.reduceToNat, reduceIte, reduceCtorEq, Nat.reduceLeDiff, Nat.reduceLT, Nat.reduceMul, Nat.reduceSub]
          (refine fin_x rfl ?_ ?_ <;> simp [pack, lo, loL, V.closed, closedL, mv_closed])
      · simp (maxSteps := 1000000) (disch := omega) only [rg, gD, Nat.reduceBEq, Nat.reduceEqDiff, Nat.reduceAdd, Int.reduceEq, Int.reduceLT, Int.reduceLE, Int.reduceToNat, reduceIte, reduceCtorEq, Nat.reduceLeDiff, Nat.reduceLT, Nat.reduceMul, Nat.reduceSub, h3]
        refine ⟨_, kt, ?_⟩
        by_cases h4 : x2 = 0
        · subst h4
          rw [ktb rfl] at kxa
          simp (maxSteps := 1000000) (disch := omega) only [rg, gD, Nat.reduceBEq, Nat.reduceEqDiff, Nat.reduceAdd, Int.reduceEq, Int.reduceLT, Int.reduceLE, Int.reduceToNat, reduceIte, reduceCtorEq, Nat.reduceLeDiff, Nat.reduceLT, Nat.reduceMul, Nat.reduceSub]
          refine ⟨_, kxa, ?_⟩
          simp (maxSteps := 1000000) (disch := omega) only [rg, gD, Nat.reduceBEq, Nat.reduceEqDiff, Nat.reduceAdd, Int.reduceEq, Int.reduceLT, Int.reduceLE, Int.reduceToNat, reduceIte, reduceCtorEq, Nat.reduceLeDiff, Nat.reduceLT, Nat.reduceMul, Nat.reduceSub, sV]
          refine ⟨_, kal, ?_⟩
          simp (maxSteps := 1000000) (disch := omega) only [rg, gD, Nat.reduceBEq, Nat.reduceEqDiff, Nat.reduceAdd, Int.reduceEq, Int.reduceLT, Int.reduceLE, Int.reduceToNat, reduceIte, reduceCtorEq, Nat.reduceLeDiff, Nat.reduceLT, Nat.reduceMul, Nat.reduceSub]
          (refine fin_x rfl ?_ ?_ <;> simp [pack, lo, loL, V.closed, closedL, mv_closed])
        · have hxz : x1 = zeroA := by
            rcases ktz with h | h
            · exact absurd h h4
            · simp only [Prod.mk.injEq] at h; exact h.1
          subst hxz
          simp (maxSteps := 1000000) (disch := omega) only [rg, gD, Nat.reduceBEq, Nat.reduceEqDiff, Nat.reduceAdd, Int.reduceEq, Int.reduceLT, Int.reduceLE, Int.reduceToNat, reduceIte, reduceCtorEq, Nat.reduceLeDiff, Nat.reduceLT, Nat.reduceMul, Nat.reduceSub, h4]
          refine ⟨_, kal, ?_⟩
          simp (maxSteps := 1000000) (disch := omega) only [rg, gD, Nat.reduceBEq, Nat.reduceEqDiff, Nat.reduceAdd, Int.reduceEq, Int.reduceLT, Int.reduceLE, Int.reduceToNat, reduceIte, reduceCtorEq, Nat.reduceLeDiff, Nat.reduceLT, Nat.reduceMul, Nat.reduceSub]
          refine ⟨_, kz.of_eq (by simp [zeroA, sttsV, loL, lo, mv]), ?_⟩
          simp (maxSteps := 1000000) (disch := omega) only [rg, gD, Nat.reduceBEq, Nat.reduceEqDiff, Nat.reduceAdd, Int.reduceEq, Int.reduceLT, Int.reduceLE, Int.reduceToNat, reduceIte, reduceCtorEq, Nat.reduceLeDiff, Nat.reduceLT, Nat.reduceMul, Nat.reduceSub]
          (refine fin_x rfl ?_ ?_ <;> simp [pack, lo, loL, V.closed, closedL, mv_closed])
    · refine ⟨_, kg, ?_⟩
      simp (maxSteps := 1000000) (disch := omega) only [rg, gD, Nat.reduceBEq, Nat.reduceEqDiff, Nat.reduceAdd, Int.reduceEq, Int.reduceLT, Int.reduceLE, Int.reduceToNat, reduceIte, reduceCtorEq, Nat.reduceLeDiff, Nat.reduceLT, Nat.reduceMul, Nat.reduceSub]
      by_cases h3 : v2 = 0
      · subst h3
        rw [kgb rfl] at kp
        simp (maxSteps := 1000000) (disch := omega) only [rg, gD, Nat.reduceBEq, Nat.reduceEqDiff, Nat.reduceAdd, Int.reduceEq, Int.reduceLT, Int.reduceLE, Int.reduceToNat, reduceIte, reduceCtorEq, Nat.reduceLeDiff, Nat.reduceLT, Nat.reduceMul, Nat.reduceSub]
        refine ⟨_, kp, ?_⟩
        simp (maxSteps := 1000000) (disch := omega) only [rg, gD, Nat.reduceBEq, Nat.reduceEqDiff, Nat.reduceAdd, Int.reduceEq, Int.reduceLT, Int.reduceLE, Int.reduceToNat, reduceIte, reduceCtorEq, Nat.reduceLeDiff, Nat.reduceLT, Nat.reduceMul, Nat.reduceSub, sV]
        refine ⟨_, kt, ?_⟩
        by_cases h4 : x2 = 0
        · subst h4
          rw [ktb rfl] at kxa
          simp (maxSteps := 1000000) (disch := omega) only [rg, gD, Nat.reduceBEq, Nat.reduceEqDiff, Nat.reduceAdd, Int.reduceEq, Int.reduceLT, Int.reduceLE, Int.reduceToNat, reduceIte, reduceCtorEq, Nat.reduceLeDiff, Nat.reduceLT, Nat.reduceMul, Nat.reduceSub]
          refine ⟨_, kxa, ?_⟩
          simp (maxSteps := 1000000) (disch := omega) only [rg, gD, Nat.reduceBEq, Nat.reduceEqDiff, Nat.reduceAdd, Int.reduceEq, Int.reduceLT, Int.reduceLE, Int.reduceToNat, reduceIte, reduceCtorEq, Nat.reduceLeDiff, Nat.reduceLT, Nat.reduceMul, Nat.reduceSub, sV]
          refine ⟨_, kal, ?_⟩
          simp (maxSteps := 1000000) (disch := omega) only [rg, gD, Nat.reduceBEq, Nat.reduceEqDiff, Nat.reduceAdd, Int.reduceEq, Int.reduceLT, Int.reduceLE, Int.reduceToNat, reduceIte, reduceCtorEq, Nat.reduceLeDiff, Nat.reduceLT, Nat.reduceMul, Nat.reduceSub]
          (refine fin_x rfl ?_ ?_ <;> simp [pack, lo, loL, V.closed, closedL, mv_closed])
        · have hxz : x1 = zeroA := by
            rcases ktz with h | h
            · exact absurd h h4
            · simp only [Prod.mk.injEq] at h; exact h.1
          subst hxz
          simp (maxSteps := 1000000) (disch := omega) only [rg, gD, Nat.reduceBEq, Nat.reduceEqDiff, Nat.reduceAdd, Int.reduceEq, Int.reduceLT, Int.reduceLE, Int.reduceToNat, reduceIte, reduceCtorEq, Nat.reduceLeDiff, Nat.reduceLT, Nat.reduceMul, Nat.reduceSub, h4]
          refine ⟨_, kal, ?_⟩
          simp (maxSteps := 1000000) (disch := omega) only [rg, gD, Nat.reduceBEq, Nat.reduceEqDiff, Nat.reduceAdd, Int.reduceEq, Int.reduceLT, Int.reduceLE, Int.reduceToNat, reduceIte, reduceCtorEq, Nat.reduceLeDiff, Nat.reduceLT, Nat.reduceMul, Nat.reduceSub]
          refine ⟨_, kz.of_eq (by simp [zeroA, sttsV, loL, lo, mv]), ?_⟩
          simp (maxSteps := 1000000) (disch := omega) only [rg, gD, Nat.reduceBEq, Nat.reduceEqDiff, Nat.reduceAdd, Int.reduceEq, Int.reduceLT, Int.reduceLE, Int.reduceToNat, reduceIte, reduceCtorEq, Nat.reduceLeDiff, Nat.reduceLT, Nat.reduceMul, Nat.reduceSub]
          (refine fin_x rfl ?_ ?_ <;> simp [pack, lo, loL, V.closed, closedL, mv_closed])
      · simp (maxSteps := 1000000) (disch := omega) only [rg, gD, Nat.reduceBEq, Nat.reduceEqDiff, Nat.reduceAdd, Int.reduceEq, Int.reduceLT, Int.reduceLE, Int.reduceToNat, reduceIte, reduceCtorEq, Nat.reduceLeDiff, Nat.reduceLT, Nat.reduceMul, Nat.reduceSub, h3]
        refine ⟨_, kt, ?_⟩
        by_cases h4 : x2 = 0
        · subst h4
          rw [ktb rfl] at kxa
          simp (maxSteps := 1000000) (disch := omega) only [rg, gD, Nat.reduceBEq, Nat.reduceEqDiff, Nat.reduceAdd, Int.reduceEq, Int.reduceLT, Int.reduceLE, Int.reduceToNat, reduceIte, reduceCtorEq, Nat.reduceLeDiff, Nat.reduceLT, Nat.reduceMul, Nat.reduceSub]
          refine ⟨_, kxa, ?_⟩
          simp (maxSteps := 1000000) (disch := omega) only [rg, gD, Nat.reduceBEq, Nat.reduceEqDiff, Nat.reduceAdd, Int.reduceEq, Int.reduceLT, Int.reduceLE, Int.reduceToNat, reduceIte, reduceCtorEq, Nat.reduceLeDiff, Nat.reduceLT, Nat.reduceMul, Nat.reduceSub, sV]
          refine ⟨_, kal, ?_⟩
          simp (maxSteps := 1000000) (disch := omega) only [rg, gD, Nat.reduceBEq, Nat.reduceEqDiff, Nat.reduceAdd, Int.reduceEq, Int.reduceLT, Int.reduceLE, Int.reduceToNat, reduceIte, reduceCtorEq, Nat.reduceLeDiff, Nat.reduceLT, Nat.reduceMul, Nat.reduceSub]
          (refine fin_x rfl ?_ ?_ <;> simp [pack, lo, loL, V.closed, closedL, mv_closed])
        · have hxz : x1 = zeroA := by
            rcases ktz with h | h
            · exact absurd h h4
            · simp only [Prod.mk.injEq] at h; exact h.1
          subst hxz
          simp (maxSteps := 1000000) (disch := omega) only [rg, gD, Nat.reduceBEq, Nat.reduceEqDiff, Nat.reduceAdd, Int.reduceEq, Int.reduceLT, Int.reduceLE, Int.reduceToNat, reduceIte, reduceCtorEq, Nat.reduceLeDiff, Nat.reduceLT, Nat.reduceMul, Nat.reduceSub, h4]
          refine ⟨_, kal, ?_⟩
          simp (maxSteps := 1000000) (disch := omega) only [rg, gD, Nat.reduceBEq, Nat.reduceEqDiff, Nat.reduceAdd, Int.reduceEq, Int.reduceLT, Int.reduceLE, Int.reduceToNat, reduceIte, reduceCtorEq, Nat.reduceLeDiff, Nat.reduceLT, Nat.reduceMul, Nat.reduceSub]
          refine ⟨_, kz.of_eq (by simp [zeroA, sttsV, loL, lo, mv]), ?_⟩
          simp (maxSteps := 1000000) (disch := omega) only [rg, gD, Nat.reduceBEq, Nat.reduceEqDiff, Nat.reduceAdd, Int.reduceEq, Int.reduceLT, Int.reduceLE, Int.reduceToNat, reduceIte, reduceCtorEq, Nat.reduceLeDiff, Nat.reduceLT, Nat.reduceMul, Nat.reduceSub]
          (refine fin_x rfl ?_ ?_ <;> simp [pack, lo, loL, V.closed, closedL, mv_closed])
  · refine ⟨_, kan, ?_⟩
    simp (maxSteps := 1000000) (disch := omega) only [rg, gD, Nat.reduceBEq, Nat.reduceEqDiff, Nat.reduceAdd, Int.reduceEq, Int.reduceLT, Int.reduceLE, Int.reduceToNat, reduceIte, reduceCtorEq, Nat.reduceLeDiff, Nat.reduceLT, Nat.reduceMul, Nat.reduceSub, sV]
    refine ⟨fun h2 => ?_, fun h2 => ?_⟩
    · subst h2
      obtain ⟨hyl, hyl2⟩ := answer_len hy
      have kt1 := frame_told y1 hyl
      rw [(answer_back hy).1] at kt1
      have kl2 := like_answer d d hyl2 hyl2
      rw [like_refl] at kl2
      unfold ansP at kt1
      unfold ansV at kt1 kl2
      refine ⟨_, kt1, ?_⟩
      simp (maxSteps := 1000000) (disch := omega) only [rg, gD, Nat.reduceBEq, Nat.reduceEqDiff, Nat.reduceAdd, Int.reduceEq, Int.reduceLT, Int.reduceLE, Int.reduceToNat, reduceIte, reduceCtorEq, Nat.reduceLeDiff, Nat.reduceLT, Nat.reduceMul, Nat.reduceSub]
      refine ⟨_, kl2, ?_⟩
      simp (maxSteps := 1000000) (disch := omega) only [rg, gD, Nat.reduceBEq, Nat.reduceEqDiff, Nat.reduceAdd, Int.reduceEq, Int.reduceLT, Int.reduceLE, Int.reduceToNat, reduceIte, reduceCtorEq, Nat.reduceLeDiff, Nat.reduceLT, Nat.reduceMul, Nat.reduceSub]
      refine ⟨_, kg, ?_⟩
      simp (maxSteps := 1000000) (disch := omega) only [rg, gD, Nat.reduceBEq, Nat.reduceEqDiff, Nat.reduceAdd, Int.reduceEq, Int.reduceLT, Int.reduceLE, Int.reduceToNat, reduceIte, reduceCtorEq, Nat.reduceLeDiff, Nat.reduceLT, Nat.reduceMul, Nat.reduceSub]
      by_cases h3 : v2 = 0
      · subst h3
        rw [kgb rfl] at kp
        simp (maxSteps := 1000000) (disch := omega) only [rg, gD, Nat.reduceBEq, Nat.reduceEqDiff, Nat.reduceAdd, Int.reduceEq, Int.reduceLT, Int.reduceLE, Int.reduceToNat, reduceIte, reduceCtorEq, Nat.reduceLeDiff, Nat.reduceLT, Nat.reduceMul, Nat.reduceSub]
        refine ⟨_, kp, ?_⟩
        simp (maxSteps := 1000000) (disch := omega) only [rg, gD, Nat.reduceBEq, Nat.reduceEqDiff, Nat.reduceAdd, Int.reduceEq, Int.reduceLT, Int.reduceLE, Int.reduceToNat, reduceIte, reduceCtorEq, Nat.reduceLeDiff, Nat.reduceLT, Nat.reduceMul, Nat.reduceSub, sV]
        refine ⟨_, kt, ?_⟩
        by_cases h4 : x2 = 0
        · subst h4
          rw [ktb rfl] at kxa
          simp (maxSteps := 1000000) (disch := omega) only [rg, gD, Nat.reduceBEq, Nat.reduceEqDiff, Nat.reduceAdd, Int.reduceEq, Int.reduceLT, Int.reduceLE, Int.reduceToNat, reduceIte, reduceCtorEq, Nat.reduceLeDiff, Nat.reduceLT, Nat.reduceMul, Nat.reduceSub]
          refine ⟨_, kxa, ?_⟩
          simp (maxSteps := 1000000) (disch := omega) only [rg, gD, Nat.reduceBEq, Nat.reduceEqDiff, Nat.reduceAdd, Int.reduceEq, Int.reduceLT, Int.reduceLE, Int.reduceToNat, reduceIte, reduceCtorEq, Nat.reduceLeDiff, Nat.reduceLT, Nat.reduceMul, Nat.reduceSub, sV]
          refine ⟨_, kal, ?_⟩
          simp (maxSteps := 1000000) (disch := omega) only [rg, gD, Nat.reduceBEq, Nat.reduceEqDiff, Nat.reduceAdd, Int.reduceEq, Int.reduceLT, Int.reduceLE, Int.reduceToNat, reduceIte, reduceCtorEq, Nat.reduceLeDiff, Nat.reduceLT, Nat.reduceMul, Nat.reduceSub]
          (refine fin_x rfl ?_ ?_ <;> simp [pack, lo, loL, V.closed, closedL, mv_closed])
        · have hxz : x1 = zeroA := by
            rcases ktz with h | h
            · exact absurd h h4
            · simp only [Prod.mk.injEq] at h; exact h.1
          subst hxz
          simp (maxSteps := 1000000) (disch := omega) only [rg, gD, Nat.reduceBEq, Nat.reduceEqDiff, Nat.reduceAdd, Int.reduceEq, Int.reduceLT, Int.reduceLE, Int.reduceToNat, reduceIte, reduceCtorEq, Nat.reduceLeDiff, Nat.reduceLT, Nat.reduceMul, Nat.reduceSub, h4]
          refine ⟨_, kal, ?_⟩
          simp (maxSteps := 1000000) (disch := omega) only [rg, gD, Nat.reduceBEq, Nat.reduceEqDiff, Nat.reduceAdd, Int.reduceEq, Int.reduceLT, Int.reduceLE, Int.reduceToNat, reduceIte, reduceCtorEq, Nat.reduceLeDiff, Nat.reduceLT, Nat.reduceMul, Nat.reduceSub]
          refine ⟨_, kz.of_eq (by simp [zeroA, sttsV, loL, lo, mv]), ?_⟩
          simp (maxSteps := 1000000) (disch := omega) only [rg, gD, Nat.reduceBEq, Nat.reduceEqDiff, Nat.reduceAdd, Int.reduceEq, Int.reduceLT, Int.reduceLE, Int.reduceToNat, reduceIte, reduceCtorEq, Nat.reduceLeDiff, Nat.reduceLT, Nat.reduceMul, Nat.reduceSub]
          (refine fin_x rfl ?_ ?_ <;> simp [pack, lo, loL, V.closed, closedL, mv_closed])
      · simp (maxSteps := 1000000) (disch := omega) only [rg, gD, Nat.reduceBEq, Nat.reduceEqDiff, Nat.reduceAdd, Int.reduceEq, Int.reduceLT, Int.reduceLE, Int.reduceToNat, reduceIte, reduceCtorEq, Nat.reduceLeDiff, Nat.reduceLT, Nat.reduceMul, Nat.reduceSub, h3]
        refine ⟨_, kt, ?_⟩
        by_cases h4 : x2 = 0
        · subst h4
          rw [ktb rfl] at kxa
          simp (maxSteps := 1000000) (disch := omega) only [rg, gD, Nat.reduceBEq, Nat.reduceEqDiff, Nat.reduceAdd, Int.reduceEq, Int.reduceLT, Int.reduceLE, Int.reduceToNat, reduceIte, reduceCtorEq, Nat.reduceLeDiff, Nat.reduceLT, Nat.reduceMul, Nat.reduceSub]
          refine ⟨_, kxa, ?_⟩
          simp (maxSteps := 1000000) (disch := omega) only [rg, gD, Nat.reduceBEq, Nat.reduceEqDiff, Nat.reduceAdd, Int.reduceEq, Int.reduceLT, Int.reduceLE, Int.reduceToNat, reduceIte, reduceCtorEq, Nat.reduceLeDiff, Nat.reduceLT, Nat.reduceMul, Nat.reduceSub, sV]
          refine ⟨_, kal, ?_⟩
          simp (maxSteps := 1000000) (disch := omega) only [rg, gD, Nat.reduceBEq, Nat.reduceEqDiff, Nat.reduceAdd, Int.reduceEq, Int.reduceLT, Int.reduceLE, Int.reduceToNat, reduceIte, reduceCtorEq, Nat.reduceLeDiff, Nat.reduceLT, Nat.reduceMul, Nat.reduceSub]
          (refine fin_x rfl ?_ ?_ <;> simp [pack, lo, loL, V.closed, closedL, mv_closed])
        · have hxz : x1 = zeroA := by
            rcases ktz with h | h
            · exact absurd h h4
            · simp only [Prod.mk.injEq] at h; exact h.1
          subst hxz
          simp (maxSteps := 1000000) (disch := omega) only [rg, gD, Nat.reduceBEq, Nat.reduceEqDiff, Nat.reduceAdd, Int.reduceEq, Int.reduceLT, Int.reduceLE, Int.reduceToNat, reduceIte, reduceCtorEq, Nat.reduceLeDiff, Nat.reduceLT, Nat.reduceMul, Nat.reduceSub, h4]
          refine ⟨_, kal, ?_⟩
          simp (maxSteps := 1000000) (disch := omega) only [rg, gD, Nat.reduceBEq, Nat.reduceEqDiff, Nat.reduceAdd, Int.reduceEq, Int.reduceLT, Int.reduceLE, Int.reduceToNat, reduceIte, reduceCtorEq, Nat.reduceLeDiff, Nat.reduceLT, Nat.reduceMul, Nat.reduceSub]
          refine ⟨_, kz.of_eq (by simp [zeroA, sttsV, loL, lo, mv]), ?_⟩
          simp (maxSteps := 1000000) (disch := omega) only [rg, gD, Nat.reduceBEq, Nat.reduceEqDiff, Nat.reduceAdd, Int.reduceEq, Int.reduceLT, Int.reduceLE, Int.reduceToNat, reduceIte, reduceCtorEq, Nat.reduceLeDiff, Nat.reduceLT, Nat.reduceMul, Nat.reduceSub]
          (refine fin_x rfl ?_ ?_ <;> simp [pack, lo, loL, V.closed, closedL, mv_closed])
    · refine ⟨_, kg, ?_⟩
      simp (maxSteps := 1000000) (disch := omega) only [rg, gD, Nat.reduceBEq, Nat.reduceEqDiff, Nat.reduceAdd, Int.reduceEq, Int.reduceLT, Int.reduceLE, Int.reduceToNat, reduceIte, reduceCtorEq, Nat.reduceLeDiff, Nat.reduceLT, Nat.reduceMul, Nat.reduceSub]
      by_cases h3 : v2 = 0
      · subst h3
        rw [kgb rfl] at kp
        simp (maxSteps := 1000000) (disch := omega) only [rg, gD, Nat.reduceBEq, Nat.reduceEqDiff, Nat.reduceAdd, Int.reduceEq, Int.reduceLT, Int.reduceLE, Int.reduceToNat, reduceIte, reduceCtorEq, Nat.reduceLeDiff, Nat.reduceLT, Nat.reduceMul, Nat.reduceSub]
        refine ⟨_, kp, ?_⟩
        simp (maxSteps := 1000000) (disch := omega) only [rg, gD, Nat.reduceBEq, Nat.reduceEqDiff, Nat.reduceAdd, Int.reduceEq, Int.reduceLT, Int.reduceLE, Int.reduceToNat, reduceIte, reduceCtorEq, Nat.reduceLeDiff, Nat.reduceLT, Nat.reduceMul, Nat.reduceSub, sV]
        refine ⟨_, kt, ?_⟩
        by_cases h4 : x2 = 0
        · subst h4
          rw [ktb rfl] at kxa
          simp (maxSteps := 1000000) (disch := omega) only [rg, gD, Nat.reduceBEq, Nat.reduceEqDiff, Nat.reduceAdd, Int.reduceEq, Int.reduceLT, Int.reduceLE, Int.reduceToNat, reduceIte, reduceCtorEq, Nat.reduceLeDiff, Nat.reduceLT, Nat.reduceMul, Nat.reduceSub]
          refine ⟨_, kxa, ?_⟩
          simp (maxSteps := 1000000) (disch := omega) only [rg, gD, Nat.reduceBEq, Nat.reduceEqDiff, Nat.reduceAdd, Int.reduceEq, Int.reduceLT, Int.reduceLE, Int.reduceToNat, reduceIte, reduceCtorEq, Nat.reduceLeDiff, Nat.reduceLT, Nat.reduceMul, Nat.reduceSub, sV]
          refine ⟨_, kal, ?_⟩
          simp (maxSteps := 1000000) (disch := omega) only [rg, gD, Nat.reduceBEq, Nat.reduceEqDiff, Nat.reduceAdd, Int.reduceEq, Int.reduceLT, Int.reduceLE, Int.reduceToNat, reduceIte, reduceCtorEq, Nat.reduceLeDiff, Nat.reduceLT, Nat.reduceMul, Nat.reduceSub]
          (refine fin_x rfl ?_ ?_ <;> simp [pack, lo, loL, V.closed, closedL, mv_closed])
        · have hxz : x1 = zeroA := by
            rcases ktz with h | h
            · exact absurd h h4
            · simp only [Prod.mk.injEq] at h; exact h.1
          subst hxz
          simp (maxSteps := 1000000) (disch := omega) only [rg, gD, Nat.reduceBEq, Nat.reduceEqDiff, Nat.reduceAdd, Int.reduceEq, Int.reduceLT, Int.reduceLE, Int.reduceToNat, reduceIte, reduceCtorEq, Nat.reduceLeDiff, Nat.reduceLT, Nat.reduceMul, Nat.reduceSub, h4]
          refine ⟨_, kal, ?_⟩
          simp (maxSteps := 1000000) (disch := omega) only [rg, gD, Nat.reduceBEq, Nat.reduceEqDiff, Nat.reduceAdd, Int.reduceEq, Int.reduceLT, Int.reduceLE, Int.reduceToNat, reduceIte, reduceCtorEq, Nat.reduceLeDiff, Nat.reduceLT, Nat.reduceMul, Nat.reduceSub]
          refine ⟨_, kz.of_eq (by simp [zeroA, sttsV, loL, lo, mv]), ?_⟩
          simp (maxSteps := 1000000) (disch := omega) only [rg, gD, Nat.reduceBEq, Nat.reduceEqDiff, Nat.reduceAdd, Int.reduceEq, Int.reduceLT, Int.reduceLE, Int.reduceToNat, reduceIte, reduceCtorEq, Nat.reduceLeDiff, Nat.reduceLT, Nat.reduceMul, Nat.reduceSub]
          (refine fin_x rfl ?_ ?_ <;> simp [pack, lo, loL, V.closed, closedL, mv_closed])
      · simp (maxSteps := 1000000) (disch := omega) only [rg, gD, Nat.reduceBEq, Nat.reduceEqDiff, Nat.reduceAdd, Int.reduceEq, Int.reduceLT, Int.reduceLE, Int.reduceToNat, reduceIte, reduceCtorEq, Nat.reduceLeDiff, Nat.reduceLT, Nat.reduceMul, Nat.reduceSub, h3]
        refine ⟨_, kt, ?_⟩
        by_cases h4 : x2 = 0
        · subst h4
          rw [ktb rfl] at kxa
          simp (maxSteps := 1000000) (disch := omega) only [rg, gD, Nat.reduceBEq, Nat.reduceEqDiff, Nat.reduceAdd, Int.reduceEq, Int.reduceLT, Int.reduceLE, Int.reduceToNat, reduceIte, reduceCtorEq, Nat.reduceLeDiff, Nat.reduceLT, Nat.reduceMul, Nat.reduceSub]
          refine ⟨_, kxa, ?_⟩
          simp (maxSteps := 1000000) (disch := omega) only [rg, gD, Nat.reduceBEq, Nat.reduceEqDiff, Nat.reduceAdd, Int.reduceEq, Int.reduceLT, Int.reduceLE, Int.reduceToNat, reduceIte, reduceCtorEq, Nat.reduceLeDiff, Nat.reduceLT, Nat.reduceMul, Nat.reduceSub, sV]
          refine ⟨_, kal, ?_⟩
          simp (maxSteps := 1000000) (disch := omega) only [rg, gD, Nat.reduceBEq, Nat.reduceEqDiff, Nat.reduceAdd, Int.reduceEq, Int.reduceLT, Int.reduceLE, Int.reduceToNat, reduceIte, reduceCtorEq, Nat.reduceLeDiff, Nat.reduceLT, Nat.reduceMul, Nat.reduceSub]
          (refine fin_x rfl ?_ ?_ <;> simp [pack, lo, loL, V.closed, closedL, mv_closed])
        · have hxz : x1 = zeroA := by
            rcases ktz with h | h
            · exact absurd h h4
            · simp only [Prod.mk.injEq] at h; exact h.1
          subst hxz
          simp (maxSteps := 1000000) (disch := omega) only [rg, gD, Nat.reduceBEq, Nat.reduceEqDiff, Nat.reduceAdd, Int.reduceEq, Int.reduceLT, Int.reduceLE, Int.reduceToNat, reduceIte, reduceCtorEq, Nat.reduceLeDiff, Nat.reduceLT, Nat.reduceMul, Nat.reduceSub, h4]
          refine ⟨_, kal, ?_⟩
          simp (maxSteps := 1000000) (disch := omega) only [rg, gD, Nat.reduceBEq, Nat.reduceEqDiff, Nat.reduceAdd, Int.reduceEq, Int.reduceLT, Int.reduceLE, Int.reduceToNat, reduceIte, reduceCtorEq, Nat.reduceLeDiff, Nat.reduceLT, Nat.reduceMul, Nat.reduceSub]
          refine ⟨_, kz.of_eq (by simp [zeroA, sttsV, loL, lo, mv]), ?_⟩
          simp (maxSteps := 1000000) (disch := omega) only [rg, gD, Nat.reduceBEq, Nat.reduceEqDiff, Nat.reduceAdd, Int.reduceEq, Int.reduceLT, Int.reduceLE, Int.reduceToNat, reduceIte, reduceCtorEq, Nat.reduceLeDiff, Nat.reduceLT, Nat.reduceMul, Nat.reduceSub]
          (refine fin_x rfl ?_ ?_ <;> simp [pack, lo, loL, V.closed, closedL, mv_closed])

end Go.Proofs.Ytjlpmndipceboaa.Ev
end
section
set_option linter.unusedSimpArgs false
set_option linter.unusedVariables false
namespace Go.Proofs.Ytjlpmndipceboaa.Ev
open Go

def tAns : Ty := .st (.cons yI (.cons .s (.cons yI (.cons yI (.cons yI (.cons ySts .nil))))))
def ansOk (a : Ans) : Prop := a.key.length ≤ 4611686018427387904 ∧ a.states.length ≤ 4611686018427387904 ∧ (∀ s ∈ a.states, okSt s) ∧ i64A a
theorem reach_le : reachBytes ≤ 4611686018427387904 := by decide
theorem s_of {vs : List V} (h : TyV .s vs) : ∃ s, vs = [.str s] ∧ s.length ≤ 4611686018427387904 := by
  obtain ⟨s, h1, h2⟩ := yS_of h
  exact ⟨s, h1, Nat.le_trans h2 reach_le⟩
theorem ans_of {vs : List V} (h : TyV tAns vs) : ∃ a : Ans, vs = [.int .i64 a.why, .str a.key, .int .i64 a.task, .int .i64 a.token, .int .i64 a.is, sttsV a.states] ∧ ansOk a := by
  obtain ⟨u1, w1, rfl, h1, u2, w2, rfl, h2, u3, w3, rfl, h3, u4, w4, rfl, h4, u5, w5, rfl, h5, u6, w6, rfl, h6, rfl⟩ := h
  obtain ⟨a, rfl, qa⟩ := yI_of h1
  obtain ⟨b, rfl, qb⟩ := yS_of h2
  obtain ⟨c, rfl, qc⟩ := yI_of h3
  obtain ⟨d, rfl, qd⟩ := yI_of h4
  obtain ⟨e, rfl, qe⟩ := yI_of h5
  obtain ⟨l, rfl, q1, q2⟩ := ySts_of h6
  have hr := reach_le
  refine ⟨⟨a, b, c, d, e, l⟩, rfl, Nat.le_trans qb hr, by simp only; omega, fun s hs => ?_, qa.2, qc.2, qd.2, qe.2⟩
  obtain ⟨z1, z2, z3, z4, z5⟩ := q2 s hs
  exact ⟨Nat.le_trans z5 hr, z1.2, z2.2, z3.2, z4.2⟩
theorem law_ans (a : Ans) (t : Str) (h : ansOk a) (ht : t.length ≤ 4611686018427387904) : PCall Try.prog 5 [.agg [.int .i64 a.why, .str a.key, .int .i64 a.task, .int .i64 a.token, .int .i64 a.is, sttsV a.states], .str t] (.bool true) :=
  law_answers a t h.1 h.2.1 h.2.2.1 h.2.2.2 ht

end Go.Proofs.Ytjlpmndipceboaa.Ev
end
section
set_option linter.unusedSimpArgs false
set_option linter.unusedVariables false
namespace Go.Proofs.Ytjlpmndipceboaa.Ev
open Go

def tCmd : Ty := .st (.cons yI (.cons .s (.cons .s (.cons yI (.cons yI (.cons .s (.cons (.st (fDag .nil)) .nil)))))))
def argCmd (c : Cmd) : Prop := bigCmd c ∧ okDagN c.dag ∧ okCmdI c
theorem cmd_of {vs : List V} (h : TyV tCmd vs) : ∃ c : Cmd, vs = [.int .i64 c.kind, .str c.key, .str c.name, .int .i64 c.token, .int .i64 c.time, .str c.text, .str c.dag.name, tasksV c.dag.tasks] ∧ argCmd c := by
  obtain ⟨u1, w1, rfl, h1, u2, w2, rfl, h2, u3, w3, rfl, h3, u4, w4, rfl, h4, u5, w5, rfl, h5, u6, w6, rfl, h6, u7, w7, rfl, h7, rfl⟩ := h
  obtain ⟨a, rfl, qa⟩ := yI_of h1
  obtain ⟨b, rfl, qb⟩ := yS_of h2
  obtain ⟨c, rfl, qc⟩ := yS_of h3
  obtain ⟨d, rfl, qd⟩ := yI_of h4
  obtain ⟨e, rfl, qe⟩ := yI_of h5
  obtain ⟨f, rfl, qf⟩ := yS_of h6
  obtain ⟨g, ws, rfl, ⟨qg1, qg2, qg3⟩, hw⟩ := fDag_of (r := .nil) h7
  obtain rfl : ws = [] := hw
  have hr := reach_le
  refine ⟨⟨a, b, c, d, e, f, g⟩, rfl, ⟨Nat.le_trans qb hr, Nat.le_trans qc hr, Nat.le_trans qf hr, by simp only; omega, fun t ht => ?_⟩, fun t ht => ?_, qd.2, qe.2⟩
  · obtain ⟨_, z2, _⟩ := qg3 t ht
    omega
  · obtain ⟨z1, z2, z3, z4, z5⟩ := qg3 t ht
    exact ⟨fun x hx => (z1 x hx).2, z3.2, z4.2, z5.2⟩
theorem row_commands (c : Cmd) (t : Str) (h : argCmd c) (ht : t.length ≤ 4611686018427387904) : PCall Try.prog 3 [.agg [.int .i64 c.kind, .str c.key, .str c.name, .int .i64 c.token, .int .i64 c.time, .str c.text, .str c.dag.name, tasksV c.dag.tasks], .str t] (.bool true) :=
  law_commands c t h.1 h.2.1 h.2.2 ht
theorem row_back (c : Cmd) (a : Ans) (t : Str) (h : argCmd c) (ha : ansOk a) (ht : t.length ≤ 4611686018427387904) : PCall Try.prog 6 [.agg [.int .i64 c.kind, .str c.key, .str c.name, .int .i64 c.token, .int .i64 c.time, .str c.text, .str c.dag.name, tasksV c.dag.tasks],
    .agg [.int .i64 a.why, .str a.key, .int .i64 a.task, .int .i64 a.token, .int .i64 a.is, sttsV a.states], .str t] (.bool true) :=
  law_back c a t h.1 h.2.1 h.2.2 ha.1 ha.2.1 ha.2.2.1 ha.2.2.2 ht

end Go.Proofs.Ytjlpmndipceboaa.Ev
end
section
set_option linter.unusedSimpArgs false
set_option linter.unusedVariables false
set_option maxRecDepth 10000
namespace Go.Proofs.Ytjlpmndipceboaa.Ev
open Go

theorem put_sealed {c : Cmd} {s : Str} (h : cmdPutS c = (s, 0)) : ∃ q, s = sealS q := by
  unfold cmdPutS at h
  split at h
  · simp only [Prod.mk.injEq] at h; exact ⟨_, h.1.symm⟩
  · simp at h
theorem turned_get {c : Cmd} {s : Str} (h : cmdPutS c = (s, 0)) (f : Nat) (p : B32) : ((cmdGetS (turnK s f p 32)).2 = 0) ↔ turnK s f p 32 = s := by
  constructor
  · intro hg
    obtain ⟨q, hq⟩ := put_sealed (cmd_back hg)
    obtain ⟨q', hq'⟩ := put_sealed h
    exact burst f (fun i => p.getLsbD i) (turnK_len s f p 32).symm hq' hq (turn_bit s f p 32)
  · intro e
    rw [e, (cmd_fore h).1]

theorem law_turned (c : Cmd) (k : Int) (p : B32) (hc : bigCmd c) (hi : okDagN c.dag) (hi2 : okCmdI c) (hk : -9223372036854775808 ≤ k ∧ k ≤ 9223372036854775807) : PCall Try.prog 4 [cmdV c, .int .i64 k, w32 p] (.bool true) := by
  refine en4 (by simp) (by simp [closedL, V.closed, cmdV_closed, w32]) ?_
  have ks := law_short c hc
  have ko := short_ok hi hi2
  generalize shortS c = b at ks ko
  have kf := frame_put b ko
  have kal := law_alive
  unfold cmdV tasksV at ks kf
  generalize hw : cmdPutS b = w at kf
  obtain ⟨s, e⟩ := w
  simp (maxSteps := 1000000) (disch := omega) only [rg, gD, Nat.reduceBEq, Nat.reduceEqDiff, Nat.reduceAdd, Int.reduceEq, Int.reduceLT, Int.reduceLE, Int.reduceToNat, reduceIte, reduceCtorEq, Nat.reduceLeDiff, Nat.reduceLT, Nat.reduceMul, Nat.reduceSub, c4, cmdV, tasksV, w32]
  refine ⟨_, ks, ?_⟩
  simp (maxSteps := 1000000) (disch := omega) only [rg, gD, Nat.reduceBEq, Nat.reduceEqDiff, Nat.reduceAdd, Int.reduceEq, Int.reduceLT, Int.reduceLE, Int.reduceToNat, reduceIte, reduceCtorEq, Nat.reduceLeDiff, Nat.reduceLT, Nat.reduceMul, Nat.reduceSub]
  refine ⟨_, kf, ?_⟩
  by_cases he : e = 0
  case neg =>
    have hs : s = [] := by
      unfold cmdPutS at hw; split at hw
      · simp at hw; exact absurd hw.2.symm he
      · simp at hw; exact hw.1
    subst hs
    simp (maxSteps := 1000000) (disch := omega) only [rg, gD, Nat.reduceBEq, Nat.reduceEqDiff, Nat.reduceAdd, Int.reduceEq, Int.reduceLT, Int.reduceLE, Int.reduceToNat, reduceIte, reduceCtorEq, Nat.reduceLeDiff, Nat.reduceLT, Nat.reduceMul, Nat.reduceSub, sV, he]
    refine ⟨_, kal, ?_⟩
    simp (maxSteps := 1000000) (disch := omega) only [rg, gD, Nat.reduceBEq, Nat.reduceEqDiff, Nat.reduceAdd, Int.reduceEq, Int.reduceLT, Int.reduceLE, Int.reduceToNat, reduceIte, reduceCtorEq, Nat.reduceLeDiff, Nat.reduceLT, Nat.reduceMul, Nat.reduceSub]
    (refine fin_x rfl ?_ ?_ <;> simp [pack, lo, loL, V.closed, closedL, mv_closed])
  subst he
  have hl := cmdPut_len hw
  have hl4 : 4 ≤ s.length := by
    obtain ⟨q, rfl⟩ := put_sealed hw
    rw [seal_len]; omega
  obtain ⟨N, hN⟩ : ∃ N : Nat, N = 8 * s.length := ⟨_, rfl⟩
  have hNi : (8 : Int) * (s.length : Int) = N := by omega
  have hmod : ∃ f : Nat, ((k.tmod N) + N) % N = f ∧ f < N := by
    have h3 := Int.emod_nonneg (k.tmod N + N) (b := (N : Int)) (by omega)
    have h4 := Int.emod_lt_of_pos (k.tmod N + N) (b := (N : Int)) (by omega)
    exact ⟨(((k.tmod N) + N) % N).toNat, by omega, by omega⟩
  obtain ⟨f, hf, hfl⟩ := hmod
  have h1 := Int.tmod_lt_of_pos (a := k) (b := N) (by omega)
  have h2 : -(N : Int) < k.tmod N := by
    rcases Int.le_total 0 k with h | h
    · have := Int.tmod_nonneg (b := (N : Int)) h; omega
    · have := Int.tmod_lt_of_pos (a := -k) (b := N) (by omega)
      rw [Int.neg_tmod] at this; omega
  simp (maxSteps := 1000000) (disch := omega) only [rg, gD, Nat.reduceBEq, Nat.reduceEqDiff, Nat.reduceAdd, Int.reduceEq, Int.reduceLT, Int.reduceLE, Int.reduceToNat, reduceIte, reduceCtorEq, Nat.reduceLeDiff, Nat.reduceLT, Nat.reduceMul, Nat.reduceSub, sV, show ¬ (s.length : Int) = 0 by omega, hNi]
  refine ⟨by omega, by omega, ?_⟩
  rw [hf]
  refine ⟨_, ref_turned s f p (by omega) (by omega), ?_⟩
  have ht := turned_get hw f p
  have htl := turnK_len s f p 32
  generalize turnK s f p 32 = t at ht htl
  have kg := frame_get t (by omega)
  generalize cmdGetS t = v at kg ht
  obtain ⟨v1, v2⟩ := v
  unfold cmdR at kg
  unfold cmdV tasksV at kg
  simp only at ht
  simp (maxSteps := 1000000) (disch := omega) only [rg, gD, Nat.reduceBEq, Nat.reduceEqDiff, Nat.reduceAdd, Int.reduceEq, Int.reduceLT, Int.reduceLE, Int.reduceToNat, reduceIte, reduceCtorEq, Nat.reduceLeDiff, Nat.reduceLT, Nat.reduceMul, Nat.reduceSub]
  refine ⟨_, kg, ?_⟩
  simp (maxSteps := 1000000) (disch := omega) only [rg, gD, Nat.reduceBEq, Nat.reduceEqDiff, Nat.reduceAdd, Int.reduceEq, Int.reduceLT, Int.reduceLE, Int.reduceToNat, reduceIte, reduceCtorEq, Nat.reduceLeDiff, Nat.reduceLT, Nat.reduceMul, Nat.reduceSub]
  refine ⟨_, kal, ?_⟩
  by_cases hts : t = s
  · have hv := ht.2 hts
    simp (maxSteps := 1000000) (disch := omega) only [rg, gD, Nat.reduceBEq, Nat.reduceEqDiff, Nat.reduceAdd, Int.reduceEq, Int.reduceLT, Int.reduceLE, Int.reduceToNat, reduceIte, reduceCtorEq, Nat.reduceLeDiff, Nat.reduceLT, Nat.reduceMul, Nat.reduceSub, hts, hv]
    (refine fin_x rfl ?_ ?_ <;> simp [pack, lo, loL, V.closed, closedL, mv_closed])
  · have hv : ¬ v2 = 0 := fun h => hts (ht.1 h)
    simp (maxSteps := 1000000) (disch := omega) only [rg, gD, Nat.reduceBEq, Nat.reduceEqDiff, Nat.reduceAdd, Int.reduceEq, Int.reduceLT, Int.reduceLE, Int.reduceToNat, reduceIte, reduceCtorEq, Nat.reduceLeDiff, Nat.reduceLT, Nat.reduceMul, Nat.reduceSub, hts, hv]
    (refine fin_x rfl ?_ ?_ <;> simp [pack, lo, loL, V.closed, closedL, mv_closed])

end Go.Proofs.Ytjlpmndipceboaa.Ev
end
section
set_option linter.unusedSimpArgs false
set_option linter.unusedVariables false
namespace Go.Proofs.Ytjlpmndipceboaa.Ev
open Go

theorem u32_of {vs : List V} (h : TyV (.i .u32) vs) : ∃ p : B32, vs = [.int .u32 p.toNat] := by
  obtain ⟨n, rfl, h1, h2⟩ := h
  have h3 : 0 ≤ n := h1
  have h4 : n ≤ 4294967295 := h2
  refine ⟨BitVec.ofNat 32 n.toNat, ?_⟩
  rw [BitVec.toNat_ofNat]
  congr 2
  have : n.toNat % 2 ^ 32 = n.toNat := Nat.mod_eq_of_lt (by omega)
  rw [this]; omega
theorem k_of {vs : List V} (h : TyV (.i .i64) vs) : ∃ k : Int, vs = [.int .i64 k] ∧ -9223372036854775808 ≤ k ∧ k ≤ 9223372036854775807 := by
  obtain ⟨n, rfl, h1, h2⟩ := h
  exact ⟨n, rfl, h1, h2⟩
theorem row_turned (c : Cmd) (k : Int) (p : B32) (h : argCmd c) (hk : -9223372036854775808 ≤ k ∧ k ≤ 9223372036854775807) : PCall Try.prog 4 [.agg [.int .i64 c.kind, .str c.key, .str c.name, .int .i64 c.token, .int .i64 c.time, .str c.text, .str c.dag.name, tasksV c.dag.tasks], .int .i64 k, .int .u32 p.toNat] (.bool true) :=
  law_turned c k p h.1 h.2.1 h.2.2 hk

end Go.Proofs.Ytjlpmndipceboaa.Ev
end
