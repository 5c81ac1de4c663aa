/-
  Part 5 of what the proof of the statement FrameAnswers leans on: the evaluator, the functions in compact form, and what they answer.
-/
import Derived.Test.YtjlpmndipceboaaM4
section
set_option linter.unusedSimpArgs false
set_option linter.unusedVariables false
set_option maxRecDepth 10000
namespace Go.Proofs.Ytjlpmndipceboaa.Ev
open Go

def cmd3 : V := .agg [.int .i64 3, .str [], .str [], .int .i64 0, .int .i64 0, .str [], .str [], .fsl .nil 4 []]
def cmd3l : V := .agg [.int .i64 3, .str [], .str [], .int .i64 0, .int .i64 0, .str [], .str [], .fsl .loose 4 []]
theorem bare3 : PCall Try.prog 50 [cmd3] cmd3l := by
  refine en50 (by simp) (by simp [closedL, V.closed, cmd3]) ?_
  simp (maxSteps := 1000000) (disch := omega) only [rg, opX, opI, look, nth, setN, outO, binO, intO, strO, argsE, appd, cpyO, slcO, slsO, bndO, lo1, mnxO, bldO, bldV, splice, rd, fpS, lk, isNil, Nat.reduceBEq, Nat.reduceEqDiff, Nat.reduceAdd, Int.reduceEq, Int.reduceLT, Int.reduceLE, Int.reduceToNat, reduceIte, reduceCtorEq, Nat.reduceLeDiff, Nat.reduceLT, Nat.reduceMul, Nat.reduceSub, c50, cmd3]
  (refine fin_x rfl ?_ ?_ <;> simp [pack, lo, loL, V.closed, closedL, mv_closed, cmd3l])
theorem clean3 : PCall Try.prog 21 [cmd3] (.bool true) := by
  refine en21 (by simp) (by simp [closedL, V.closed, cmd3]) ?_
  have k := bare3
  unfold cmd3 cmd3l at k
  simp (maxSteps := 1000000) (disch := omega) only [rg, opX, opI, look, nth, setN, outO, binO, intO, strO, argsE, appd, cpyO, slcO, slsO, bndO, lo1, mnxO, bldO, bldV, splice, rd, fpS, lk, isNil, Nat.reduceBEq, Nat.reduceEqDiff, Nat.reduceAdd, Int.reduceEq, Int.reduceLT, Int.reduceLE, Int.reduceToNat, reduceIte, reduceCtorEq, Nat.reduceLeDiff, Nat.reduceLT, Nat.reduceMul, Nat.reduceSub, c21, cmd3]
  refine ⟨_, k, ?_⟩
  simp (maxSteps := 1000000) (disch := omega) only [rg, opX, opI, look, nth, setN, outO, binO, intO, strO, argsE, appd, cpyO, slcO, slsO, bndO, lo1, mnxO, bldO, bldV, splice, rd, fpS, lk, isNil, Nat.reduceBEq, Nat.reduceEqDiff, Nat.reduceAdd, Int.reduceEq, Int.reduceLT, Int.reduceLE, Int.reduceToNat, reduceIte, reduceCtorEq, Nat.reduceLeDiff, Nat.reduceLT, Nat.reduceMul, Nat.reduceSub]
  (refine fin_x rfl ?_ ?_ <;> simp [pack, lo, loL, V.closed, closedL, mv_closed])
theorem put3 : PCall Try.prog 8 [cmd3] (sV (sealS [3], 0)) := by
  refine en8 (by simp) (by simp [closedL, V.closed, cmd3]) ?_
  have k := clean3
  unfold cmd3 at k
  simp (maxSteps := 1000000) (disch := omega) only [rg, opX, opI, look, nth, setN, outO, binO, intO, strO, argsE, appd, cpyO, slcO, slsO, bndO, lo1, mnxO, bldO, bldV, splice, rd, fpS, lk, isNil, Nat.reduceBEq, Nat.reduceEqDiff, Nat.reduceAdd, Int.reduceEq, Int.reduceLT, Int.reduceLE, Int.reduceToNat, reduceIte, reduceCtorEq, Nat.reduceLeDiff, Nat.reduceLT, Nat.reduceMul, Nat.reduceSub, c8, cmd3]
  refine ⟨_, k, ?_⟩
  simp (maxSteps := 1000000) (disch := omega) only [rg, opX, opI, look, nth, setN, outO, binO, intO, strO, argsE, appd, cpyO, slcO, slsO, bndO, lo1, mnxO, bldO, bldV, splice, rd, fpS, lk, isNil, Nat.reduceBEq, Nat.reduceEqDiff, Nat.reduceAdd, Int.reduceEq, Int.reduceLT, Int.reduceLE, Int.reduceToNat, reduceIte, reduceCtorEq, Nat.reduceLeDiff, Nat.reduceLT, Nat.reduceMul, Nat.reduceSub]
  refine ⟨_, _, _, _, w_num _ 1 ([], false) 3 1 (by simp) (by omega) (by simp) (by simp (disch := omega) only [upd_eq, upd_ne, wo_0, wo_1, wo_2, wrV]), ?_⟩
  have hw : wNum ([], false) 3 1 = ([3], false) := by rfl
  rw [hw]
  simp (maxSteps := 1000000) (disch := omega) only [rg, opX, opI, look, nth, setN, outO, binO, intO, strO, argsE, appd, cpyO, slcO, slsO, bndO, lo1, mnxO, bldO, bldV, splice, rd, fpS, lk, isNil, Nat.reduceBEq, Nat.reduceEqDiff, Nat.reduceAdd, Int.reduceEq, Int.reduceLT, Int.reduceLE, Int.reduceToNat, reduceIte, reduceCtorEq, Nat.reduceLeDiff, Nat.reduceLT, Nat.reduceMul, Nat.reduceSub]
  refine ⟨_, _, _, _, w_end _ 1 ([3], false) (by simp) (by simp) (by simp (disch := omega) only [upd_eq, upd_ne, wo_0, wo_1, wo_2]), ?_⟩
  simp (maxSteps := 1000000) (disch := omega) only [rg, opX, opI, look, nth, setN, outO, binO, intO, strO, argsE, appd, cpyO, slcO, slsO, bndO, lo1, mnxO, bldO, bldV, splice, rd, fpS, lk, isNil, Nat.reduceBEq, Nat.reduceEqDiff, Nat.reduceAdd, Int.reduceEq, Int.reduceLT, Int.reduceLE, Int.reduceToNat, reduceIte, reduceCtorEq, Nat.reduceLeDiff, Nat.reduceLT, Nat.reduceMul, Nat.reduceSub, sV, wEnd]
  (refine fin_x rfl ?_ ?_ <;> simp [pack, lo, loL, V.closed, closedL, mv_closed, sV])
theorem law_alive : PCall Try.prog 12 [] (.bool true) := by
  refine en12 (by simp) (by simp [closedL]) ?_
  have k := put3
  unfold cmd3 at k
  simp (maxSteps := 1000000) (disch := omega) only [rg, opX, opI, look, nth, setN, outO, binO, intO, strO, argsE, appd, cpyO, slcO, slsO, bndO, lo1, mnxO, bldO, bldV, splice, rd, fpS, lk, isNil, Nat.reduceBEq, Nat.reduceEqDiff, Nat.reduceAdd, Int.reduceEq, Int.reduceLT, Int.reduceLE, Int.reduceToNat, reduceIte, reduceCtorEq, Nat.reduceLeDiff, Nat.reduceLT, Nat.reduceMul, Nat.reduceSub, c12]
  refine ⟨_, k, ?_⟩
  simp (maxSteps := 1000000) (disch := omega) only [rg, opX, opI, look, nth, setN, outO, binO, intO, strO, argsE, appd, cpyO, slcO, slsO, bndO, lo1, mnxO, bldO, bldV, splice, rd, fpS, lk, isNil, Nat.reduceBEq, Nat.reduceEqDiff, Nat.reduceAdd, Int.reduceEq, Int.reduceLT, Int.reduceLE, Int.reduceToNat, reduceIte, reduceCtorEq, Nat.reduceLeDiff, Nat.reduceLT, Nat.reduceMul, Nat.reduceSub, sV]
  have e : (sealS [3]).length = 5 := by simp [sealS, le4]
  (refine fin_x rfl ?_ ?_ <;> simp [pack, lo, loL, V.closed, closedL, mv_closed, e])

theorem told_small (s : Str) (hs : s.length ≤ 1000000) : (refToldS s).1.states.length ≤ 1000000 := by
  by_cases c : (refToldS s).2 = 0
  · rw [← told_same] at c ⊢
    have := told_back c
    unfold answerS at this; split at this
    · rename_i h
      simp only [ansRightS, ansNumS, Bool.and_eq_true, decide_eq_true_eq] at h; omega
    · simp at this
  · have : refToldS s = (zeroA, 230) := by
      unfold refToldS at c ⊢
      split
      · rename_i h1
        rw [if_pos h1] at c
        split
        · rename_i a h2
          rw [h2] at c; simp only at c
          split
          · rename_i h3; rw [if_pos h3] at c; exact absurd rfl c
          · rfl
        · rfl
      · rfl
    rw [this]; simp [zeroA]

theorem law_answers (a : Ans) (t : Str) (hk : a.key.length ≤ 4611686018427387904) (hl : a.states.length ≤ 4611686018427387904) (hst : ∀ s ∈ a.states, okSt s) (hi : i64A a) (ht : t.length ≤ 4611686018427387904) : PCall Try.prog 5 [ansV a, .str t] (.bool true) := by
  refine en5 (by simp) (by simp [closedL, V.closed, ansV_closed]) ?_
  have kb := law_brief a hk hl
  have hob : okAns (briefS a) := ⟨by simp [briefS]; omega, by simp [briefS]; omega, fun s hs => hst s (List.mem_of_mem_take hs)⟩
  have kf := frame_answer (briefS a) hob hi
  have kr := ref_answer (briefS a) hob
  generalize briefS a = b at kb kf kr
  have e1 : (min (t.length : Int) 3000).toNat = min t.length 3000 := by omega
  have e2 : t.take (min t.length 3000) = t.take 3000 := by rw [Nat.min_comm]; exact (List.take_eq_take_min ..).symm
  have hsl : (t.take 3000).length ≤ 1000000 := by simp; omega
  unfold ansV at kb kf kr
  simp (maxSteps := 1000000) (disch := omega) only [rg, opX, opI, look, nth, setN, outO, binO, intO, strO, argsE, appd, cpyO, slcO, slsO, bndO, lo1, mnxO, bldO, bldV, splice, rd, fpS, lk, isNil, Nat.reduceBEq, Nat.reduceEqDiff, Nat.reduceAdd, Int.reduceEq, Int.reduceLT, Int.reduceLE, Int.reduceToNat, reduceIte, reduceCtorEq, Nat.reduceLeDiff, Nat.reduceLT, Nat.reduceMul, Nat.reduceSub, c5, ansV]
  refine ⟨_, kb, ?_⟩
  simp (maxSteps := 1000000) (disch := omega) only [rg, opX, opI, look, nth, setN, outO, binO, intO, strO, argsE, appd, cpyO, slcO, slsO, bndO, lo1, mnxO, bldO, bldV, splice, rd, fpS, lk, isNil, Nat.reduceBEq, Nat.reduceEqDiff, Nat.reduceAdd, Int.reduceEq, Int.reduceLT, Int.reduceLE, Int.reduceToNat, reduceIte, reduceCtorEq, Nat.reduceLeDiff, Nat.reduceLT, Nat.reduceMul, Nat.reduceSub, e1, e2]
  refine ⟨⟨by omega, by omega, by omega⟩, _, kf, ?_⟩
  generalize answerS b = w at kf kr
  obtain ⟨w1, w2⟩ := w
  simp (maxSteps := 1000000) (disch := omega) only [rg, opX, opI, look, nth, setN, outO, binO, intO, strO, argsE, appd, cpyO, slcO, slsO, bndO, lo1, mnxO, bldO, bldV, splice, rd, fpS, lk, isNil, Nat.reduceBEq, Nat.reduceEqDiff, Nat.reduceAdd, Int.reduceEq, Int.reduceLT, Int.reduceLE, Int.reduceToNat, reduceIte, reduceCtorEq, Nat.reduceLeDiff, Nat.reduceLT, Nat.reduceMul, Nat.reduceSub, sV]
  refine ⟨_, kr, ?_⟩
  generalize t.take 3000 = u at hsl
  have k1 := frame_told u hsl
  have k2 := ref_told u hsl
  rw [told_same] at k1
  have hsm := told_small u hsl
  generalize refToldS u = v at k1 k2 hsm
  obtain ⟨v1, v2⟩ := v
  have kl := like_answer v1 v1 hsm hsm
  rw [like_refl] at kl
  unfold ansP at k1 k2
  unfold ansV at k1 k2 kl
  have kal := law_alive
  simp (maxSteps := 1000000) (disch := omega) only [rg, opX, opI, look, nth, setN, outO, binO, intO, strO, argsE, appd, cpyO, slcO, slsO, bndO, lo1, mnxO, bldO, bldV, splice, rd, fpS, lk, isNil, Nat.reduceBEq, Nat.reduceEqDiff, Nat.reduceAdd, Int.reduceEq, Int.reduceLT, Int.reduceLE, Int.reduceToNat, reduceIte, reduceCtorEq, Nat.reduceLeDiff, Nat.reduceLT, Nat.reduceMul, Nat.reduceSub, sV]
  refine ⟨_, k1, ?_⟩
  simp (maxSteps := 1000000) (disch := omega) only [rg, opX, opI, look, nth, setN, outO, binO, intO, strO, argsE, appd, cpyO, slcO, slsO, bndO, lo1, mnxO, bldO, bldV, splice, rd, fpS, lk, isNil, Nat.reduceBEq, Nat.reduceEqDiff, Nat.reduceAdd, Int.reduceEq, Int.reduceLT, Int.reduceLE, Int.reduceToNat, reduceIte, reduceCtorEq, Nat.reduceLeDiff, Nat.reduceLT, Nat.reduceMul, Nat.reduceSub]
  refine ⟨_, k2, ?_⟩
  simp (maxSteps := 1000000) (disch := omega) only [rg, opX, opI, look, nth, setN, outO, binO, intO, strO, argsE, appd, cpyO, slcO, slsO, bndO, lo1, mnxO, bldO, bldV, splice, rd, fpS, lk, isNil, Nat.reduceBEq, Nat.reduceEqDiff, Nat.reduceAdd, Int.reduceEq, Int.reduceLT, Int.reduceLE, Int.reduceToNat, reduceIte, reduceCtorEq, Nat.reduceLeDiff, Nat.reduceLT, Nat.reduceMul, Nat.reduceSub]
  refine ⟨_, kal, ?_⟩
  simp (maxSteps := 1000000) (disch := omega) only [rg, opX, opI, look, nth, setN, outO, binO, intO, strO, argsE, appd, cpyO, slcO, slsO, bndO, lo1, mnxO, bldO, bldV, splice, rd, fpS, lk, isNil, Nat.reduceBEq, Nat.reduceEqDiff, Nat.reduceAdd, Int.reduceEq, Int.reduceLT, Int.reduceLE, Int.reduceToNat, reduceIte, reduceCtorEq, Nat.reduceLeDiff, Nat.reduceLT, Nat.reduceMul, Nat.reduceSub]
  refine ⟨_, kl, ?_⟩
  simp (maxSteps := 1000000) (disch := omega) only [rg, opX, opI, look, nth, setN, outO, binO, intO, strO, argsE, appd, cpyO, slcO, slsO, bndO, lo1, mnxO, bldO, bldV, splice, rd, fpS, lk, isNil, Nat.reduceBEq, Nat.reduceEqDiff, Nat.reduceAdd, Int.reduceEq, Int.reduceLT, Int.reduceLE, Int.reduceToNat, reduceIte, reduceCtorEq, Nat.reduceLeDiff, Nat.reduceLT, Nat.reduceMul, Nat.reduceSub]
  (refine fin_x rfl ?_ ?_ <;> simp [pack, lo, loL, V.closed, closedL, mv_closed])

end Go.Proofs.Ytjlpmndipceboaa.Ev
end
section
set_option linter.unusedSimpArgs false
set_option linter.unusedVariables false
namespace Go.Proofs.Ytjlpmndipceboaa.Ev
open Go

def tAns : Ty := .st (.cons yI (.cons .s (.cons yI (.cons yI (.cons yI (.cons ySts .nil))))))
def ansOk (a : Ans) : Prop := a.key.length ≤ 4611686018427387904 ∧ a.states.length ≤ 4611686018427387904 ∧ (∀ s ∈ a.states, okSt s) ∧ i64A a
theorem reach_le : reachBytes ≤ 4611686018427387904 := by decide
theorem s_of {vs : List V} (h : TyV .s vs) : ∃ s, vs = [.str s] ∧ s.length ≤ 4611686018427387904 := by
  obtain ⟨s, h1, h2⟩ := yS_of h
  exact ⟨s, h1, Nat.le_trans h2 reach_le⟩
theorem ans_of {vs : List V} (h : TyV tAns vs) : ∃ a : Ans, vs = [.int .i64 a.why, .str a.key, .int .i64 a.task, .int .i64 a.token, .int .i64 a.is, sttsV a.states] ∧ ansOk a := by
  obtain ⟨u1, w1, rfl, h1, u2, w2, rfl, h2, u3, w3, rfl, h3, u4, w4, rfl, h4, u5, w5, rfl, h5, u6, w6, rfl, h6, rfl⟩ := h
  obtain ⟨a, rfl, qa⟩ := yI_of h1
  obtain ⟨b, rfl, qb⟩ := yS_of h2
  obtain ⟨c, rfl, qc⟩ := yI_of h3
  obtain ⟨d, rfl, qd⟩ := yI_of h4
  obtain ⟨e, rfl, qe⟩ := yI_of h5
  obtain ⟨l, rfl, q1, q2⟩ := ySts_of h6
  have hr := reach_le
  refine ⟨⟨a, b, c, d, e, l⟩, rfl, Nat.le_trans qb hr, by simp only; omega, fun s hs => ?_, qa.2, qc.2, qd.2, qe.2⟩
  obtain ⟨z1, z2, z3, z4, z5⟩ := q2 s hs
  exact ⟨Nat.le_trans z5 hr, z1.2, z2.2, z3.2, z4.2⟩
theorem law_ans (a : Ans) (t : Str) (h : ansOk a) (ht : t.length ≤ 4611686018427387904) : PCall Try.prog 5 [.agg [.int .i64 a.why, .str a.key, .int .i64 a.task, .int .i64 a.token, .int .i64 a.is, sttsV a.states], .str t] (.bool true) :=
  law_answers a t h.1 h.2.1 h.2.2.1 h.2.2.2 ht

end Go.Proofs.Ytjlpmndipceboaa.Ev
end
