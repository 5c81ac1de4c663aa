/-
  Part 4 of what the proof of the statement AllocFills leans on: the evaluator, the functions in compact form, and what they answer.
-/
import Derived.Test.YtickdhdlljhomaaM3
section
set_option linter.unusedSimpArgs false
set_option linter.unusedVariables false
set_option maxRecDepth 10000
namespace Go.Proofs.Ytickdhdlljhomaa.Ev
open Go

def firstA (b n : List Bool) : Option Nat := (List.range n.length).find? (frA b n)
theorem firstA_none {b n : List Bool} (h : ∀ j, j < n.length → frA b n j = false) : firstA b n = none := by
  rw [firstA, List.find?_eq_none]; intro j hj; simp at hj; simp [h j hj]
theorem firstA_some {b n : List Bool} {i : Nat} (h0 : i < n.length) (h1 : frA b n i = true) (h : ∀ j, j < i → frA b n j = false) : firstA b n = some i := by
  rw [firstA, List.find?_range_eq_some]; exact ⟨h1, by simpa using h0, fun j hj => by simp [h j hj]⟩
theorem firstA_spec (b n : List Bool) : (firstA b n = none ∧ ∀ j, j < n.length → frA b n j = false) ∨ ∃ i, firstA b n = some i ∧ i < n.length ∧ frA b n i = true ∧ ∀ j, j < i → frA b n j = false := by
  cases h : firstA b n with
  | none => exact .inl ⟨rfl, fun j hj => by rw [firstA, List.find?_eq_none] at h; simpa using h j (by simpa using hj)⟩
  | some i =>
    rw [firstA, List.find?_range_eq_some] at h
    exact .inr ⟨i, rfl, by simpa using h.2.1, h.1, fun j hj => by simpa using h.2.2 j hj⟩
theorem fst_firstA (s s' : St) {b n : List Bool} (hl : b.length = n.length) : fst [(s, b), (s', n)] 0 = match firstA b n with | some i => (i : Int) | none => -1 := by
  have hlng : lng [(s, b), (s', n)] = n.length := by simp only [lng, List.foldl_cons, List.foldl_nil]; omega
  have hw : ∀ j, how [(s, b), (s', n)] j = 0 ↔ frA b n j = true := fun j => by rw [how_two, frA]; simp [and_comm]
  rcases firstA_spec b n with ⟨e, k⟩ | ⟨i, e, k1, k2, k3⟩
  · rw [e]; exact fst_none fun j h1 _ h2 => by rw [hlng] at h1; rw [hw, k j h1] at h2; cases h2
  · rw [e]; exact fst_some (by omega) (by omega) ((hw i).2 k2) fun j h1 _ h2 => by rw [hw, k3 j h1] at h2; cases h2

def takeV (b n : List Bool) : V := if rightA b n = true then (match firstA b n with | some i => .tup [aV b (n.set i true), .int .i64 i, .int .i64 0] | none => .tup [aV [] [], .int .i64 0, .int .i64 60]) else .tup [aV [] [], .int .i64 0, .int .i64 1]

theorem alloc_take (s1 s2 : St) (b n : List Bool) : PCall Try.prog 36 [.agg [.fsl s1 1 (bv b), .fsl s2 1 (bv n)]] (takeV b n) := by
  refine en36 (by simp) (by simp [closedL, V.closed, bv_closed]) ?_
  simp (maxSteps := 1000000) (disch := omega) only [rg, opX, opI, look, nth, setN, outO, binO, intO, strO, argsE, appd, cpyO, slcO, slsO, bndO, lo1, mnxO, bldO, bldV, splice, rd, fpS, lk, isNil, Nat.reduceBEq, Nat.reduceEqDiff, Nat.reduceAdd, Int.reduceEq, Int.reduceLT, Int.reduceLE, Int.reduceToNat, reduceIte, reduceCtorEq, Nat.reduceLeDiff, Nat.reduceLT, Nat.reduceMul, Nat.reduceSub, c36]
  refine ⟨_, alloc_right s1 s2 b n, ?_⟩
  simp (maxSteps := 1000000) (disch := omega) only [rg, opX, opI, look, nth, setN, outO, binO, intO, strO, argsE, appd, cpyO, slcO, slsO, bndO, lo1, mnxO, bldO, bldV, splice, rd, fpS, lk, isNil, Nat.reduceBEq, Nat.reduceEqDiff, Nat.reduceAdd, Int.reduceEq, Int.reduceLT, Int.reduceLE, Int.reduceToNat, reduceIte, reduceCtorEq, Nat.reduceLeDiff, Nat.reduceLT, Nat.reduceMul, Nat.reduceSub, c_b (c := rightA b n), g_b (c := rightA b n)]
  refine ⟨fun hr => ?_, fun hr => ?_⟩
  · (refine fin_x rfl ?_ ?_ <;> simp [pack, lo, loL, V.closed, closedL, bv_closed, iv_closed, mv_closed, takeV, aV, hr, bv])
  · have hr : rightA b n = true := by simpa using hr
    obtain ⟨l1, l2, l3⟩ := rightA_len hr
    have k := first23 .full [(s1, b), (s2, n)] 0 (by omega) (by simp) (by simp; omega)
    rw [fst_firstA s1 s2 l1] at k
    simp only [rv, List.map_cons, List.map_nil] at k
    refine ⟨_, k, ?_⟩
    rcases firstA_spec b n with ⟨e, _⟩ | ⟨i, e, k1, k2, k3⟩
    · simp (maxSteps := 1000000) (disch := omega) only [rg, opX, opI, look, nth, setN, outO, binO, intO, strO, argsE, appd, cpyO, slcO, slsO, bndO, lo1, mnxO, bldO, bldV, splice, rd, fpS, lk, isNil, Nat.reduceBEq, Nat.reduceEqDiff, Nat.reduceAdd, Int.reduceEq, Int.reduceLT, Int.reduceLE, Int.reduceToNat, reduceIte, reduceCtorEq, Nat.reduceLeDiff, Nat.reduceLT, Nat.reduceMul, Nat.reduceSub, e]
      (refine fin_x rfl ?_ ?_ <;> simp [pack, lo, loL, V.closed, closedL, bv_closed, iv_closed, mv_closed, takeV, aV, hr, bv, e])
    · simp (maxSteps := 1000000) (disch := omega) only [rg, opX, opI, look, nth, setN, outO, binO, intO, strO, argsE, appd, cpyO, slcO, slsO, bndO, lo1, mnxO, bldO, bldV, splice, rd, fpS, lk, isNil, Nat.reduceBEq, Nat.reduceEqDiff, Nat.reduceAdd, Int.reduceEq, Int.reduceLT, Int.reduceLE, Int.reduceToNat, reduceIte, reduceCtorEq, Nat.reduceLeDiff, Nat.reduceLT, Nat.reduceMul, Nat.reduceSub, e]
      have w := with21 s2 .full n true [(i : Int)] (by omega) (by simp)
      rw [wi_one n _ i k1] at w
      refine ⟨_, w, ?_⟩
      simp (maxSteps := 1000000) (disch := omega) only [rg, opX, opI, look, nth, setN, outO, binO, intO, strO, argsE, appd, cpyO, slcO, slsO, bndO, lo1, mnxO, bldO, bldV, splice, rd, fpS, lk, isNil, Nat.reduceBEq, Nat.reduceEqDiff, Nat.reduceAdd, Int.reduceEq, Int.reduceLT, Int.reduceLE, Int.reduceToNat, reduceIte, reduceCtorEq, Nat.reduceLeDiff, Nat.reduceLT, Nat.reduceMul, Nat.reduceSub]
      (refine fin_x rfl ?_ ?_ <;> simp [pack, lo, loL, V.closed, closedL, bv_closed, iv_closed, mv_closed, takeV, aV, hr, e, bv_lo])

theorem ref_take (s1 s2 : St) (b n : List Bool) (hr : rightA b n = true) : PCall Try.prog 40 [.agg [.fsl s1 1 (bv b), .fsl s2 1 (bv n)]] (takeV b n) := by
  obtain ⟨l1, l2, l3⟩ := rightA_len hr
  refine en40 (by simp) (by simp [closedL, V.closed, bv_closed]) ?_
  simp (maxSteps := 1000000) (disch := omega) only [rg, opX, opI, look, nth, setN, outO, binO, intO, strO, argsE, appd, cpyO, slcO, slsO, bndO, lo1, mnxO, bldO, bldV, splice, rd, fpS, lk, isNil, Nat.reduceBEq, Nat.reduceEqDiff, Nat.reduceAdd, Int.reduceEq, Int.reduceLT, Int.reduceLE, Int.reduceToNat, reduceIte, reduceCtorEq, Nat.reduceLeDiff, Nat.reduceLT, Nat.reduceMul, Nat.reduceSub, c40, bv_len]
  refine x_itp n.length (fun i => ∀ j, j < i → frA b n j = false) (fun i => [(1, .ptr 0 0 0), (2, .ptr 1 0 0), (8, .int .i64 n.length), (9, .int .i64 i)]) (by simp) rfl ?_
  intro T i hi hp hN hX hR
  simp (maxSteps := 1000000) (disch := omega) only [rg, opX, opI, look, nth, setN, outO, binO, intO, strO, argsE, appd, cpyO, slcO, slsO, bndO, lo1, mnxO, bldO, bldV, splice, rd, fpS, lk, isNil, Nat.reduceBEq, Nat.reduceEqDiff, Nat.reduceAdd, Int.reduceEq, Int.reduceLT, Int.reduceLE, Int.reduceToNat, reduceIte, reduceCtorEq, Nat.reduceLeDiff, Nat.reduceLT, Nat.reduceMul, Nat.reduceSub]
  refine ⟨fun h => ?_, fun h => ?_⟩
  · refine ⟨_, ref_isfree s1 s2 b n i l1, ?_⟩
    have q : (decide ((i : Int) < n.length) && frA b n i) = frA b n i := by simp; intro _; omega
    simp (maxSteps := 1000000) (disch := omega) only [rg, opX, opI, look, nth, setN, outO, binO, intO, strO, argsE, appd, cpyO, slcO, slsO, bndO, lo1, mnxO, bldO, bldV, splice, rd, fpS, lk, isNil, Nat.reduceBEq, Nat.reduceEqDiff, Nat.reduceAdd, Int.reduceEq, Int.reduceLT, Int.reduceLE, Int.reduceToNat, reduceIte, reduceCtorEq, Nat.reduceLeDiff, Nat.reduceLT, Nat.reduceMul, Nat.reduceSub, q, c_b (c := frA b n i), g_b (c := frA b n i)]
    refine ⟨fun h4 => ?_, fun h4 => hN _ (by omega) (fun j hj => ?_) rfl⟩
    · refine ⟨_, ref_with s1 s2 b n i true (by omega) (by omega), ?_⟩
      simp (maxSteps := 1000000) (disch := omega) only [rg, opX, opI, look, nth, setN, outO, binO, intO, strO, argsE, appd, cpyO, slcO, slsO, bndO, lo1, mnxO, bldO, bldV, splice, rd, fpS, lk, isNil, Nat.reduceBEq, Nat.reduceEqDiff, Nat.reduceAdd, Int.reduceEq, Int.reduceLT, Int.reduceLE, Int.reduceToNat, reduceIte, reduceCtorEq, Nat.reduceLeDiff, Nat.reduceLT, Nat.reduceMul, Nat.reduceSub, aV]
      refine hR _ _ ?_
      simp (maxSteps := 1000000) (disch := omega) only [rg, opX, opI, look, nth, setN, outO, binO, intO, strO, argsE, appd, cpyO, slcO, slsO, bndO, lo1, mnxO, bldO, bldV, splice, rd, fpS, lk, isNil, Nat.reduceBEq, Nat.reduceEqDiff, Nat.reduceAdd, Int.reduceEq, Int.reduceLT, Int.reduceLE, Int.reduceToNat, reduceIte, reduceCtorEq, Nat.reduceLeDiff, Nat.reduceLT, Nat.reduceMul, Nat.reduceSub]
      (refine fin_x rfl ?_ ?_ <;> simp [pack, lo, loL, V.closed, closedL, bv_closed, iv_closed, mv_closed, takeV, aV, hr, bv_lo, firstA_some (by omega) h4 hp])
    · by_cases e : j = i
      · subst e; exact h4
      · exact hp j (by omega)
  · obtain rfl : i = n.length := by omega
    refine hX _ _ _ ?_
    simp (maxSteps := 1000000) (disch := omega) only [rg, opX, opI, look, nth, setN, outO, binO, intO, strO, argsE, appd, cpyO, slcO, slsO, bndO, lo1, mnxO, bldO, bldV, splice, rd, fpS, lk, isNil, Nat.reduceBEq, Nat.reduceEqDiff, Nat.reduceAdd, Int.reduceEq, Int.reduceLT, Int.reduceLE, Int.reduceToNat, reduceIte, reduceCtorEq, Nat.reduceLeDiff, Nat.reduceLT, Nat.reduceMul, Nat.reduceSub]
    refine x_frz0 ?_
    simp (maxSteps := 1000000) (disch := omega) only [rg, opX, opI, look, nth, setN, outO, binO, intO, strO, argsE, appd, cpyO, slcO, slsO, bndO, lo1, mnxO, bldO, bldV, splice, rd, fpS, lk, isNil, Nat.reduceBEq, Nat.reduceEqDiff, Nat.reduceAdd, Int.reduceEq, Int.reduceLT, Int.reduceLE, Int.reduceToNat, reduceIte, reduceCtorEq, Nat.reduceLeDiff, Nat.reduceLT, Nat.reduceMul, Nat.reduceSub]
    (refine fin_x rfl ?_ ?_ <;> simp [pack, lo, loL, V.closed, closedL, bv_closed, iv_closed, mv_closed, takeV, aV, hr, bv, firstA_none hp])

def stepG (w : List Bool) (p : Int) : Option (List Bool) := if p < 10 ∨ (w.length : Int) ≤ p ∨ w.getD p.toNat false = false then none else some (w.set p.toNat false)
theorem stepG_no {w : List Bool} {p : Int} (h : p < 10 ∨ (w.length : Int) ≤ p ∨ w.getD p.toNat false = false) : stepG w p = none := if_pos h
theorem stepG_yes {w : List Bool} {p : Int} (h1 : ¬ p < 10) (h2 : ¬ (w.length : Int) ≤ p) (h : w.getD p.toNat false = true) : stepG w p = some (w.set p.toNat false) := if_neg (by simp only [h]; simp; omega)
def giveL (n : List Bool) (l : List Int) : Option (List Bool) := l.foldl (fun o p => match o with | some w => stepG w p | none => none) (some n)
theorem giveL_succ {n : List Bool} {l : List Int} {i : Nat} (h : i < l.length) {w : List Bool} (hw : giveL n (l.take i) = some w) : giveL n (l.take (i + 1)) = stepG w l[i] := by
  rw [List.take_succ_eq_append_getElem h, giveL, List.foldl_append]
  rw [giveL] at hw
  rw [hw]; rfl
theorem giveL_none {l : List Int} : l.foldl (fun (o : Option (List Bool)) p => match o with | some w => stepG w p | none => none) none = none := by
  induction l with
  | nil => rfl
  | cons a l ih => exact ih
theorem giveL_stop {n : List Bool} {l : List Int} {i : Nat} (h : i < l.length) {w : List Bool} (hw : giveL n (l.take i) = some w) (hs : stepG w l[i] = none) : giveL n l = none := by
  have e := giveL_succ h hw
  rw [hs] at e
  have : l = l.take (i + 1) ++ l.drop (i + 1) := (List.take_append_drop _ _).symm
  rw [this, giveL, List.foldl_append]
  rw [giveL] at e
  rw [e]; exact giveL_none
theorem stepG_len {w w' : List Bool} {p : Int} (h : stepG w p = some w') : w'.length = w.length := by
  unfold stepG at h; split at h
  · cases h
  · simp at h; subst h; simp
theorem giveL_len {n w : List Bool} {l : List Int} : ∀ {i : Nat}, i ≤ l.length → giveL n (l.take i) = some w → w.length = n.length := by
  intro i
  induction i generalizing w with
  | zero => intro _ h; simp [giveL] at h; rw [h]
  | succ i ih =>
    intro hi h
    cases hw : giveL n (l.take i) with
    | none =>
      rw [List.take_succ_eq_append_getElem (by omega), giveL, List.foldl_append] at h
      rw [giveL] at hw
      rw [hw] at h; cases h
    | some w' =>
      rw [giveL_succ (by omega) hw] at h
      rw [stepG_len h, ih (by omega) hw]
def giveV (b n : List Bool) (l : List Int) : V := if rightA b n = true then (match giveL n l with | some w => .tup [aV b w, .int .i64 0] | none => .tup [aV [] [], .int .i64 30]) else .tup [aV [] [], .int .i64 1]

theorem alloc_give (s1 s2 s3 : St) (b n : List Bool) (l : List Int) (hl : l.length ≤ 1000000) : PCall Try.prog 37 [.agg [.fsl s1 1 (bv b), .fsl s2 1 (bv n)], .fsl s3 1 (iv l)] (giveV b n l) := by
  refine en37 (by simp) (by simp [closedL, V.closed, bv_closed, iv_closed]) ?_
  simp (maxSteps := 1000000) (disch := omega) only [rg, opX, opI, look, nth, setN, outO, binO, intO, strO, argsE, appd, cpyO, slcO, slsO, bndO, lo1, mnxO, bldO, bldV, splice, rd, fpS, lk, isNil, Nat.reduceBEq, Nat.reduceEqDiff, Nat.reduceAdd, Int.reduceEq, Int.reduceLT, Int.reduceLE, Int.reduceToNat, reduceIte, reduceCtorEq, Nat.reduceLeDiff, Nat.reduceLT, Nat.reduceMul, Nat.reduceSub, c37, iv_len]
  refine ⟨_, alloc_right s1 s2 b n, ?_⟩
  simp (maxSteps := 1000000) (disch := omega) only [rg, opX, opI, look, nth, setN, outO, binO, intO, strO, argsE, appd, cpyO, slcO, slsO, bndO, lo1, mnxO, bldO, bldV, splice, rd, fpS, lk, isNil, Nat.reduceBEq, Nat.reduceEqDiff, Nat.reduceAdd, Int.reduceEq, Int.reduceLT, Int.reduceLE, Int.reduceToNat, reduceIte, reduceCtorEq, Nat.reduceLeDiff, Nat.reduceLT, Nat.reduceMul, Nat.reduceSub, c_b (c := rightA b n), g_b (c := rightA b n), iv_len]
  refine ⟨fun hr => ?_, fun hr => ?_⟩
  · (refine fin_x rfl ?_ ?_ <;> simp [pack, lo, loL, V.closed, closedL, bv_closed, iv_closed, mv_closed, giveV, aV, hr, bv])
  · have hr : rightA b n = true := by simpa using hr
    obtain ⟨l1, l2, l3⟩ := rightA_len hr
    refine clone43.call (l := bv n) (bv_closed _) (by rw [bv_len]; omega) fun v ds q ho hf => ?_
    have f0 : appd ds (upd (upd (fun _ => none) 0 (some (.arr 2 [.agg [.fsl s1 1 (bv b), .fsl s2 1 (bv n)]]))) 1 (some (.arr 2 [.agg [.fsl .nil 1 [], .fsl .nil 1 []]]))) 0 = some (.arr 2 [.agg [.fsl s1 1 (bv b), .fsl s2 1 (bv n)]]) := by rw [hf 0 (by simp)]; simp [upd]
    have f1 : appd ds (upd (upd (fun _ => none) 0 (some (.arr 2 [.agg [.fsl s1 1 (bv b), .fsl s2 1 (bv n)]]))) 1 (some (.arr 2 [.agg [.fsl .nil 1 [], .fsl .nil 1 []]]))) 1 = some (.arr 2 [.agg [.fsl .nil 1 [], .fsl .nil 1 []]]) := by rw [hf 1 (by simp)]; simp [upd]
    rcases ho with ⟨st, rfl, he⟩ | ⟨id, hid, rfl, hm⟩
    · have : n.length = 0 := by rw [← bv_len, he]; rfl
      omega
    · rw [bv_len]
      simp (maxSteps := 1000000) (disch := omega) only [rg, opX, opI, look, nth, setN, outO, binO, intO, strO, argsE, appd, cpyO, slcO, slsO, bndO, lo1, mnxO, bldO, bldV, splice, rd, fpS, lk, isNil, Nat.reduceBEq, Nat.reduceEqDiff, Nat.reduceAdd, Int.reduceEq, Int.reduceLT, Int.reduceLE, Int.reduceToNat, reduceIte, reduceCtorEq, Nat.reduceLeDiff, Nat.reduceLT, Nat.reduceMul, Nat.reduceSub, iv_len]
      have h0 : id ≠ 0 := by rintro rfl; simp only [f0] at hm; cases hm
      have h1 : id ≠ 1 := by rintro rfl; simp only [f1] at hm; cases hm
      refine x_it l.length (fun i σ H => σ = [(2, .ptr 0 0 0), (4, .ptr 1 0 0), (6, .sl id 0 n.length), (16, .fsl s3 1 (iv l)), (17, .int .i64 l.length), (18, .int .i64 i)] ∧ H.m 0 = some (.arr 2 [.agg [.fsl s1 1 (bv b), .fsl s2 1 (bv n)]]) ∧ H.m 1 = some (.arr 2 [.agg [.fsl .nil 1 [], .fsl .nil 1 []]]) ∧
        ∃ w, giveL n (l.take i) = some w ∧ H.m id = some (.arr 1 (bv w))) ⟨rfl, f0, f1, n, rfl, hm⟩ ?_
      rintro T i σ ⟨q', m'⟩ hi ⟨rfl, e0, e1, w, hw, e2⟩ hN hX hR
      simp only at e0 e1 e2
      have hwl := giveL_len hi hw
      simp (maxSteps := 1000000) (disch := omega) only [rg, opX, opI, look, nth, setN, outO, binO, intO, strO, argsE, appd, cpyO, slcO, slsO, bndO, lo1, mnxO, bldO, bldV, splice, rd, fpS, lk, isNil, Nat.reduceBEq, Nat.reduceEqDiff, Nat.reduceAdd, Int.reduceEq, Int.reduceLT, Int.reduceLE, Int.reduceToNat, reduceIte, reduceCtorEq, Nat.reduceLeDiff, Nat.reduceLT, Nat.reduceMul, Nat.reduceSub]
      refine ⟨fun h => ?_, fun h => ?_⟩
      · have i1 : i < l.length := by omega
        simp (maxSteps := 1000000) (disch := omega) only [rg, opX, opI, look, nth, setN, outO, binO, intO, strO, argsE, appd, cpyO, slcO, slsO, bndO, lo1, mnxO, bldO, bldV, splice, rd, fpS, lk, isNil, Nat.reduceBEq, Nat.reduceEqDiff, Nat.reduceAdd, Int.reduceEq, Int.reduceLT, Int.reduceLE, Int.reduceToNat, reduceIte, reduceCtorEq, Nat.reduceLeDiff, Nat.reduceLT, Nat.reduceMul, Nat.reduceSub, iv_get]
        by_cases c1 : l[i] < 10
        · simp (maxSteps := 1000000) (disch := omega) only [rg, opX, opI, look, nth, setN, outO, binO, intO, strO, argsE, appd, cpyO, slcO, slsO, bndO, lo1, mnxO, bldO, bldV, splice, rd, fpS, lk, isNil, Nat.reduceBEq, Nat.reduceEqDiff, Nat.reduceAdd, Int.reduceEq, Int.reduceLT, Int.reduceLE, Int.reduceToNat, reduceIte, reduceCtorEq, Nat.reduceLeDiff, Nat.reduceLT, Nat.reduceMul, Nat.reduceSub, c1, e1]
          refine hR _ _ ?_
          simp (maxSteps := 1000000) (disch := omega) only [rg, opX, opI, look, nth, setN, outO, binO, intO, strO, argsE, appd, cpyO, slcO, slsO, bndO, lo1, mnxO, bldO, bldV, splice, rd, fpS, lk, isNil, Nat.reduceBEq, Nat.reduceEqDiff, Nat.reduceAdd, Int.reduceEq, Int.reduceLT, Int.reduceLE, Int.reduceToNat, reduceIte, reduceCtorEq, Nat.reduceLeDiff, Nat.reduceLT, Nat.reduceMul, Nat.reduceSub]
          (refine fin_x rfl ?_ ?_ <;> simp [pack, lo, loL, V.closed, closedL, bv_closed, iv_closed, mv_closed, giveV, aV, hr, bv, giveL_stop i1 hw (stepG_no (.inl c1))])
        · by_cases c2 : (n.length : Int) ≤ l[i]
          · simp (maxSteps := 1000000) (disch := omega) only [rg, opX, opI, look, nth, setN, outO, binO, intO, strO, argsE, appd, cpyO, slcO, slsO, bndO, lo1, mnxO, bldO, bldV, splice, rd, fpS, lk, isNil, Nat.reduceBEq, Nat.reduceEqDiff, Nat.reduceAdd, Int.reduceEq, Int.reduceLT, Int.reduceLE, Int.reduceToNat, reduceIte, reduceCtorEq, Nat.reduceLeDiff, Nat.reduceLT, Nat.reduceMul, Nat.reduceSub, c1, c2, e1]
            refine hR _ _ ?_
            simp (maxSteps := 1000000) (disch := omega) only [rg, opX, opI, look, nth, setN, outO, binO, intO, strO, argsE, appd, cpyO, slcO, slsO, bndO, lo1, mnxO, bldO, bldV, splice, rd, fpS, lk, isNil, Nat.reduceBEq, Nat.reduceEqDiff, Nat.reduceAdd, Int.reduceEq, Int.reduceLT, Int.reduceLE, Int.reduceToNat, reduceIte, reduceCtorEq, Nat.reduceLeDiff, Nat.reduceLT, Nat.reduceMul, Nat.reduceSub]
            (refine fin_x rfl ?_ ?_ <;> simp [pack, lo, loL, V.closed, closedL, bv_closed, iv_closed, mv_closed, giveV, aV, hr, bv, giveL_stop i1 hw (stepG_no (.inr (.inl (by omega))))])
          · have c3 : l[i].toNat < w.length := by omega
            have g3 := gD c3
            simp (maxSteps := 1000000) (disch := omega) only [rg, opX, opI, look, nth, setN, outO, binO, intO, strO, argsE, appd, cpyO, slcO, slsO, bndO, lo1, mnxO, bldO, bldV, splice, rd, fpS, lk, isNil, Nat.reduceBEq, Nat.reduceEqDiff, Nat.reduceAdd, Int.reduceEq, Int.reduceLT, Int.reduceLE, Int.reduceToNat, reduceIte, reduceCtorEq, Nat.reduceLeDiff, Nat.reduceLT, Nat.reduceMul, Nat.reduceSub, c1, c2, e1, e2, bv_get]
            refine ⟨by omega, fun h3 => ?_, fun h3 => ?_⟩
            · refine hR _ _ ?_
              simp (maxSteps := 1000000) (disch := omega) only [rg, opX, opI, look, nth, setN, outO, binO, intO, strO, argsE, appd, cpyO, slcO, slsO, bndO, lo1, mnxO, bldO, bldV, splice, rd, fpS, lk, isNil, Nat.reduceBEq, Nat.reduceEqDiff, Nat.reduceAdd, Int.reduceEq, Int.reduceLT, Int.reduceLE, Int.reduceToNat, reduceIte, reduceCtorEq, Nat.reduceLeDiff, Nat.reduceLT, Nat.reduceMul, Nat.reduceSub]
              (refine fin_x rfl ?_ ?_ <;> simp [pack, lo, loL, V.closed, closedL, bv_closed, iv_closed, mv_closed, giveV, aV, hr, bv, giveL_stop i1 hw (stepG_no (.inr (.inr (by rw [g3, h3]))))])
            · refine ⟨by omega, hN _ _ i1 ⟨rfl, (by simp (disch := omega) only [upd_eq, upd_ne, wo_0, wo_1, wo_2, e0]), (by simp (disch := omega) only [upd_eq, upd_ne, wo_0, wo_1, wo_2, e1]), w.set l[i].toNat false, by rw [giveL_succ i1 hw]; exact stepG_yes c1 (by omega) (by rw [g3, h3]), (by simp (disch := omega) only [upd_eq, upd_ne, wo_0, wo_1, wo_2, bv_set])⟩⟩
      · obtain rfl : i = l.length := by omega
        rw [List.take_length] at hw
        refine hX _ _ _ ?_
        simp (maxSteps := 1000000) (disch := omega) only [rg, opX, opI, look, nth, setN, outO, binO, intO, strO, argsE, appd, cpyO, slcO, slsO, bndO, lo1, mnxO, bldO, bldV, splice, rd, fpS, lk, isNil, Nat.reduceBEq, Nat.reduceEqDiff, Nat.reduceAdd, Int.reduceEq, Int.reduceLT, Int.reduceLE, Int.reduceToNat, reduceIte, reduceCtorEq, Nat.reduceLeDiff, Nat.reduceLT, Nat.reduceMul, Nat.reduceSub]
        refine x_frz [id] ?_; simp only [vr, frz_p]; rw [frz_row (id := id) (sz := 1) (l := bv w) (by first | assumption | (simp [upd]; done) | (simp [upd, *]; done)) (by simp) (by first | rfl | (simp [bv_len, mv_len] <;> omega)) (by simp [bv_closed, iv_closed, mv_closed, V.closed])]
        simp (maxSteps := 1000000) (disch := omega) only [rg, opX, opI, look, nth, setN, outO, binO, intO, strO, argsE, appd, cpyO, slcO, slsO, bndO, lo1, mnxO, bldO, bldV, splice, rd, fpS, lk, isNil, Nat.reduceBEq, Nat.reduceEqDiff, Nat.reduceAdd, Int.reduceEq, Int.reduceLT, Int.reduceLE, Int.reduceToNat, reduceIte, reduceCtorEq, Nat.reduceLeDiff, Nat.reduceLT, Nat.reduceMul, Nat.reduceSub, e0, e1]
        (refine fin_x rfl ?_ ?_ <;> simp [pack, lo, loL, V.closed, closedL, bv_closed, iv_closed, mv_closed, giveV, aV, hr, hw, bv_lo])

end Go.Proofs.Ytickdhdlljhomaa.Ev
end
section
set_option linter.unusedSimpArgs false
set_option linter.unusedVariables false
set_option maxRecDepth 10000
namespace Go.Proofs.Ytickdhdlljhomaa.Ev
open Go

theorem ref_give (s1 s2 s3 : St) (b n : List Bool) (l : List Int) (hr : rightA b n = true) (hl : l.length ≤ 1000000) : PCall Try.prog 41 [.agg [.fsl s1 1 (bv b), .fsl s2 1 (bv n)], .fsl s3 1 (iv l)] (giveV b n l) := by
  obtain ⟨l1, l2, l3⟩ := rightA_len hr
  refine en41 (by simp) (by simp [closedL, V.closed, bv_closed, iv_closed]) ?_
  simp (maxSteps := 1000000) (disch := omega) only [rg, opX, opI, look, nth, setN, outO, binO, intO, strO, argsE, appd, cpyO, slcO, slsO, bndO, lo1, mnxO, bldO, bldV, splice, rd, fpS, lk, isNil, Nat.reduceBEq, Nat.reduceEqDiff, Nat.reduceAdd, Int.reduceEq, Int.reduceLT, Int.reduceLE, Int.reduceToNat, reduceIte, reduceCtorEq, Nat.reduceLeDiff, Nat.reduceLT, Nat.reduceMul, Nat.reduceSub, c41, iv_len]
  refine x_it l.length (fun i σ H => σ = [(2, .ptr 0 0 0), (4, .ptr 1 0 0), (8, .fsl s3 1 (iv l)), (9, .int .i64 l.length), (10, .int .i64 i)] ∧ H.m 1 = some (.arr 2 [.agg [.fsl .nil 1 [], .fsl .nil 1 []]]) ∧
    ∃ t1 t2 w, giveL n (l.take i) = some w ∧ H.m 0 = some (.arr 2 [.agg [.fsl t1 1 (bv b), .fsl t2 1 (bv w)]])) ⟨rfl, by simp [upd], s1, s2, n, rfl, by simp [upd]⟩ ?_
  rintro T i σ ⟨q', m'⟩ hi ⟨rfl, e1, t1, t2, w, hw, e0⟩ hN hX hR
  simp only at e0 e1
  have hwl := giveL_len hi hw
  simp (maxSteps := 1000000) (disch := omega) only [rg, opX, opI, look, nth, setN, outO, binO, intO, strO, argsE, appd, cpyO, slcO, slsO, bndO, lo1, mnxO, bldO, bldV, splice, rd, fpS, lk, isNil, Nat.reduceBEq, Nat.reduceEqDiff, Nat.reduceAdd, Int.reduceEq, Int.reduceLT, Int.reduceLE, Int.reduceToNat, reduceIte, reduceCtorEq, Nat.reduceLeDiff, Nat.reduceLT, Nat.reduceMul, Nat.reduceSub]
  refine ⟨fun h => ?_, fun h => ?_⟩
  · have i1 : i < l.length := by omega
    simp (maxSteps := 1000000) (disch := omega) only [rg, opX, opI, look, nth, setN, outO, binO, intO, strO, argsE, appd, cpyO, slcO, slsO, bndO, lo1, mnxO, bldO, bldV, splice, rd, fpS, lk, isNil, Nat.reduceBEq, Nat.reduceEqDiff, Nat.reduceAdd, Int.reduceEq, Int.reduceLT, Int.reduceLE, Int.reduceToNat, reduceIte, reduceCtorEq, Nat.reduceLeDiff, Nat.reduceLT, Nat.reduceMul, Nat.reduceSub, iv_get]
    by_cases c1 : l[i] < 10
    · simp (maxSteps := 1000000) (disch := omega) only [rg, opX, opI, look, nth, setN, outO, binO, intO, strO, argsE, appd, cpyO, slcO, slsO, bndO, lo1, mnxO, bldO, bldV, splice, rd, fpS, lk, isNil, Nat.reduceBEq, Nat.reduceEqDiff, Nat.reduceAdd, Int.reduceEq, Int.reduceLT, Int.reduceLE, Int.reduceToNat, reduceIte, reduceCtorEq, Nat.reduceLeDiff, Nat.reduceLT, Nat.reduceMul, Nat.reduceSub, c1, e1]
      refine hR _ _ ?_
      simp (maxSteps := 1000000) (disch := omega) only [rg, opX, opI, look, nth, setN, outO, binO, intO, strO, argsE, appd, cpyO, slcO, slsO, bndO, lo1, mnxO, bldO, bldV, splice, rd, fpS, lk, isNil, Nat.reduceBEq, Nat.reduceEqDiff, Nat.reduceAdd, Int.reduceEq, Int.reduceLT, Int.reduceLE, Int.reduceToNat, reduceIte, reduceCtorEq, Nat.reduceLeDiff, Nat.reduceLT, Nat.reduceMul, Nat.reduceSub]
      (refine fin_x rfl ?_ ?_ <;> simp [pack, lo, loL, V.closed, closedL, bv_closed, iv_closed, mv_closed, giveV, aV, hr, bv, giveL_stop i1 hw (stepG_no (.inl c1))])
    · by_cases c2 : (w.length : Int) ≤ l[i]
      · simp (maxSteps := 1000000) (disch := omega) only [rg, opX, opI, look, nth, setN, outO, binO, intO, strO, argsE, appd, cpyO, slcO, slsO, bndO, lo1, mnxO, bldO, bldV, splice, rd, fpS, lk, isNil, Nat.reduceBEq, Nat.reduceEqDiff, Nat.reduceAdd, Int.reduceEq, Int.reduceLT, Int.reduceLE, Int.reduceToNat, reduceIte, reduceCtorEq, Nat.reduceLeDiff, Nat.reduceLT, Nat.reduceMul, Nat.reduceSub, c1, c2, e0, e1, bv_len]
        refine hR _ _ ?_
        simp (maxSteps := 1000000) (disch := omega) only [rg, opX, opI, look, nth, setN, outO, binO, intO, strO, argsE, appd, cpyO, slcO, slsO, bndO, lo1, mnxO, bldO, bldV, splice, rd, fpS, lk, isNil, Nat.reduceBEq, Nat.reduceEqDiff, Nat.reduceAdd, Int.reduceEq, Int.reduceLT, Int.reduceLE, Int.reduceToNat, reduceIte, reduceCtorEq, Nat.reduceLeDiff, Nat.reduceLT, Nat.reduceMul, Nat.reduceSub]
        (refine fin_x rfl ?_ ?_ <;> simp [pack, lo, loL, V.closed, closedL, bv_closed, iv_closed, mv_closed, giveV, aV, hr, bv, giveL_stop i1 hw (stepG_no (.inr (.inl (by omega))))])
      · have c3 : l[i].toNat < w.length := by omega
        have g3 := gD c3
        simp (maxSteps := 1000000) (disch := omega) only [rg, opX, opI, look, nth, setN, outO, binO, intO, strO, argsE, appd, cpyO, slcO, slsO, bndO, lo1, mnxO, bldO, bldV, splice, rd, fpS, lk, isNil, Nat.reduceBEq, Nat.reduceEqDiff, Nat.reduceAdd, Int.reduceEq, Int.reduceLT, Int.reduceLE, Int.reduceToNat, reduceIte, reduceCtorEq, Nat.reduceLeDiff, Nat.reduceLT, Nat.reduceMul, Nat.reduceSub, c1, c2, e0, e1, bv_len, bv_get]
        refine ⟨by omega, fun h3 => ?_, fun h3 => ?_⟩
        · refine hR _ _ ?_
          simp (maxSteps := 1000000) (disch := omega) only [rg, opX, opI, look, nth, setN, outO, binO, intO, strO, argsE, appd, cpyO, slcO, slsO, bndO, lo1, mnxO, bldO, bldV, splice, rd, fpS, lk, isNil, Nat.reduceBEq, Nat.reduceEqDiff, Nat.reduceAdd, Int.reduceEq, Int.reduceLT, Int.reduceLE, Int.reduceToNat, reduceIte, reduceCtorEq, Nat.reduceLeDiff, Nat.reduceLT, Nat.reduceMul, Nat.reduceSub]
          (refine fin_x rfl ?_ ?_ <;> simp [pack, lo, loL, V.closed, closedL, bv_closed, iv_closed, mv_closed, giveV, aV, hr, bv, giveL_stop i1 hw (stepG_no (.inr (.inr (by rw [g3, h3]))))])
        · obtain ⟨k, hk⟩ : ∃ k : Nat, l[i] = k := ⟨l[i].toNat, by omega⟩
          have hs : stepG w l[i] = some (w.set k false) := by rw [stepG_yes c1 (by omega) (by rw [g3, h3])]; simp [hk]
          have wc := ref_with t1 t2 b w k false (by omega) (by omega)
          rw [← hk] at wc
          refine ⟨_, wc, ?_⟩
          simp (maxSteps := 1000000) (disch := omega) only [rg, opX, opI, look, nth, setN, outO, binO, intO, strO, argsE, appd, cpyO, slcO, slsO, bndO, lo1, mnxO, bldO, bldV, splice, rd, fpS, lk, isNil, Nat.reduceBEq, Nat.reduceEqDiff, Nat.reduceAdd, Int.reduceEq, Int.reduceLT, Int.reduceLE, Int.reduceToNat, reduceIte, reduceCtorEq, Nat.reduceLeDiff, Nat.reduceLT, Nat.reduceMul, Nat.reduceSub, e0, aV]
          exact hN _ _ i1 ⟨rfl, (by simp (disch := omega) only [upd_eq, upd_ne, wo_0, wo_1, wo_2, e1]), .loose, .loose, w.set k false, by rw [giveL_succ i1 hw]; exact hs, (by simp (disch := omega) only [upd_eq, upd_ne, wo_0, wo_1, wo_2])⟩
  · obtain rfl : i = l.length := by omega
    rw [List.take_length] at hw
    refine hX _ _ _ ?_
    simp (maxSteps := 1000000) (disch := omega) only [rg, opX, opI, look, nth, setN, outO, binO, intO, strO, argsE, appd, cpyO, slcO, slsO, bndO, lo1, mnxO, bldO, bldV, splice, rd, fpS, lk, isNil, Nat.reduceBEq, Nat.reduceEqDiff, Nat.reduceAdd, Int.reduceEq, Int.reduceLT, Int.reduceLE, Int.reduceToNat, reduceIte, reduceCtorEq, Nat.reduceLeDiff, Nat.reduceLT, Nat.reduceMul, Nat.reduceSub]
    refine x_frz0 ?_
    simp (maxSteps := 1000000) (disch := omega) only [rg, opX, opI, look, nth, setN, outO, binO, intO, strO, argsE, appd, cpyO, slcO, slsO, bndO, lo1, mnxO, bldO, bldV, splice, rd, fpS, lk, isNil, Nat.reduceBEq, Nat.reduceEqDiff, Nat.reduceAdd, Int.reduceEq, Int.reduceLT, Int.reduceLE, Int.reduceToNat, reduceIte, reduceCtorEq, Nat.reduceLeDiff, Nat.reduceLT, Nat.reduceMul, Nat.reduceSub, e0, e1]
    (refine fin_x rfl ?_ ?_ <;> simp [pack, lo, loL, V.closed, closedL, bv_closed, iv_closed, mv_closed, giveV, aV, hr, hw, bv_lo])

theorem alive06 : PCall Try.prog 31 [] (.bool true) := by
  refine en31 (by simp) (by simp [closedL, V.closed]) ?_
  simp (maxSteps := 1000000) (disch := omega) only [rg, opX, opI, look, nth, setN, outO, binO, intO, strO, argsE, appd, cpyO, slcO, slsO, bndO, lo1, mnxO, bldO, bldV, splice, rd, fpS, lk, isNil, Nat.reduceBEq, Nat.reduceEqDiff, Nat.reduceAdd, Int.reduceEq, Int.reduceLT, Int.reduceLE, Int.reduceToNat, reduceIte, reduceCtorEq, Nat.reduceLeDiff, Nat.reduceLT, Nat.reduceMul, Nat.reduceSub, c31]
  refine ⟨_, alloc_new 24, ?_⟩
  simp (maxSteps := 1000000) (disch := omega) only [rg, opX, opI, look, nth, setN, outO, binO, intO, strO, argsE, appd, cpyO, slcO, slsO, bndO, lo1, mnxO, bldO, bldV, splice, rd, fpS, lk, isNil, Nat.reduceBEq, Nat.reduceEqDiff, Nat.reduceAdd, Int.reduceEq, Int.reduceLT, Int.reduceLE, Int.reduceToNat, reduceIte, reduceCtorEq, Nat.reduceLeDiff, Nat.reduceLT, Nat.reduceMul, Nat.reduceSub, newV, aV]
  have hr : rightA (rowA 24) (rowA 24) = true := by decide +kernel
  have hf : freeA (rowA 24) (rowA 24) = 14 := by decide +kernel
  refine ⟨_, alloc_right .loose .loose (rowA 24) (rowA 24), ?_⟩
  simp (maxSteps := 1000000) (disch := omega) only [rg, opX, opI, look, nth, setN, outO, binO, intO, strO, argsE, appd, cpyO, slcO, slsO, bndO, lo1, mnxO, bldO, bldV, splice, rd, fpS, lk, isNil, Nat.reduceBEq, Nat.reduceEqDiff, Nat.reduceAdd, Int.reduceEq, Int.reduceLT, Int.reduceLE, Int.reduceToNat, reduceIte, reduceCtorEq, Nat.reduceLeDiff, Nat.reduceLT, Nat.reduceMul, Nat.reduceSub, hr]
  refine ⟨_, alloc_free .loose .loose (rowA 24) (rowA 24), ?_⟩
  simp (maxSteps := 1000000) (disch := omega) only [rg, opX, opI, look, nth, setN, outO, binO, intO, strO, argsE, appd, cpyO, slcO, slsO, bndO, lo1, mnxO, bldO, bldV, splice, rd, fpS, lk, isNil, Nat.reduceBEq, Nat.reduceEqDiff, Nat.reduceAdd, Int.reduceEq, Int.reduceLT, Int.reduceLE, Int.reduceToNat, reduceIte, reduceCtorEq, Nat.reduceLeDiff, Nat.reduceLT, Nat.reduceMul, Nat.reduceSub, hf]
  (refine fin_x rfl ?_ ?_ <;> simp [pack, lo, loL, V.closed, closedL, bv_closed, iv_closed, mv_closed, hf])

theorem law_rights (s1 s2 : St) (b n : List Bool) (k : Int) : PCall Try.prog 9 [.agg [.fsl s1 1 (bv b), .fsl s2 1 (bv n)], .int .i64 k] (.bool true) := by
  refine en9 (by simp) (by simp [closedL, V.closed, bv_closed]) ?_
  simp (maxSteps := 1000000) (disch := omega) only [rg, opX, opI, look, nth, setN, outO, binO, intO, strO, argsE, appd, cpyO, slcO, slsO, bndO, lo1, mnxO, bldO, bldV, splice, rd, fpS, lk, isNil, Nat.reduceBEq, Nat.reduceEqDiff, Nat.reduceAdd, Int.reduceEq, Int.reduceLT, Int.reduceLE, Int.reduceToNat, reduceIte, reduceCtorEq, Nat.reduceLeDiff, Nat.reduceLT, Nat.reduceMul, Nat.reduceSub, c9]
  refine ⟨_, alloc_new k, ?_⟩
  by_cases c1 : k < 24
  · simp (maxSteps := 1000000) (disch := omega) only [rg, opX, opI, look, nth, setN, outO, binO, intO, strO, argsE, appd, cpyO, slcO, slsO, bndO, lo1, mnxO, bldO, bldV, splice, rd, fpS, lk, isNil, Nat.reduceBEq, Nat.reduceEqDiff, Nat.reduceAdd, Int.reduceEq, Int.reduceLT, Int.reduceLE, Int.reduceToNat, reduceIte, reduceCtorEq, Nat.reduceLeDiff, Nat.reduceLT, Nat.reduceMul, Nat.reduceSub, newV, aV, c1]
    refine ⟨_, (ref_like .loose .loose .nil .nil [] [] [] [] (by simp) (by simp)), ?_⟩
    simp (maxSteps := 1000000) (disch := omega) only [rg, opX, opI, look, nth, setN, outO, binO, intO, strO, argsE, appd, cpyO, slcO, slsO, bndO, lo1, mnxO, bldO, bldV, splice, rd, fpS, lk, isNil, Nat.reduceBEq, Nat.reduceEqDiff, Nat.reduceAdd, Int.reduceEq, Int.reduceLT, Int.reduceLE, Int.reduceToNat, reduceIte, reduceCtorEq, Nat.reduceLeDiff, Nat.reduceLT, Nat.reduceMul, Nat.reduceSub]
    refine ⟨_, alive06, ?_⟩
    simp (maxSteps := 1000000) (disch := omega) only [rg, opX, opI, look, nth, setN, outO, binO, intO, strO, argsE, appd, cpyO, slcO, slsO, bndO, lo1, mnxO, bldO, bldV, splice, rd, fpS, lk, isNil, Nat.reduceBEq, Nat.reduceEqDiff, Nat.reduceAdd, Int.reduceEq, Int.reduceLT, Int.reduceLE, Int.reduceToNat, reduceIte, reduceCtorEq, Nat.reduceLeDiff, Nat.reduceLT, Nat.reduceMul, Nat.reduceSub]
    refine ⟨_, alloc_right s1 s2 b n, ?_⟩
    simp (maxSteps := 1000000) (disch := omega) only [rg, opX, opI, look, nth, setN, outO, binO, intO, strO, argsE, appd, cpyO, slcO, slsO, bndO, lo1, mnxO, bldO, bldV, splice, rd, fpS, lk, isNil, Nat.reduceBEq, Nat.reduceEqDiff, Nat.reduceAdd, Int.reduceEq, Int.reduceLT, Int.reduceLE, Int.reduceToNat, reduceIte, reduceCtorEq, Nat.reduceLeDiff, Nat.reduceLT, Nat.reduceMul, Nat.reduceSub]
    refine ⟨_, ref_right s1 s2 b n, ?_⟩
    simp (maxSteps := 1000000) (disch := omega) only [rg, opX, opI, look, nth, setN, outO, binO, intO, strO, argsE, appd, cpyO, slcO, slsO, bndO, lo1, mnxO, bldO, bldV, splice, rd, fpS, lk, isNil, Nat.reduceBEq, Nat.reduceEqDiff, Nat.reduceAdd, Int.reduceEq, Int.reduceLT, Int.reduceLE, Int.reduceToNat, reduceIte, reduceCtorEq, Nat.reduceLeDiff, Nat.reduceLT, Nat.reduceMul, Nat.reduceSub]
    refine ⟨_, alloc_free s1 s2 b n, ?_⟩
    simp (maxSteps := 1000000) (disch := omega) only [rg, opX, opI, look, nth, setN, outO, binO, intO, strO, argsE, appd, cpyO, slcO, slsO, bndO, lo1, mnxO, bldO, bldV, splice, rd, fpS, lk, isNil, Nat.reduceBEq, Nat.reduceEqDiff, Nat.reduceAdd, Int.reduceEq, Int.reduceLT, Int.reduceLE, Int.reduceToNat, reduceIte, reduceCtorEq, Nat.reduceLeDiff, Nat.reduceLT, Nat.reduceMul, Nat.reduceSub]
    refine ⟨_, ref_free s1 s2 b n, ?_⟩
    simp (maxSteps := 1000000) (disch := omega) only [rg, opX, opI, look, nth, setN, outO, binO, intO, strO, argsE, appd, cpyO, slcO, slsO, bndO, lo1, mnxO, bldO, bldV, splice, rd, fpS, lk, isNil, Nat.reduceBEq, Nat.reduceEqDiff, Nat.reduceAdd, Int.reduceEq, Int.reduceLT, Int.reduceLE, Int.reduceToNat, reduceIte, reduceCtorEq, Nat.reduceLeDiff, Nat.reduceLT, Nat.reduceMul, Nat.reduceSub]
    (refine fin_x rfl ?_ ?_ <;> simp [pack, lo, loL, V.closed, closedL, bv_closed, iv_closed, mv_closed])
  · by_cases c2 : 2048 < k
    · simp (maxSteps := 1000000) (disch := omega) only [rg, opX, opI, look, nth, setN, outO, binO, intO, strO, argsE, appd, cpyO, slcO, slsO, bndO, lo1, mnxO, bldO, bldV, splice, rd, fpS, lk, isNil, Nat.reduceBEq, Nat.reduceEqDiff, Nat.reduceAdd, Int.reduceEq, Int.reduceLT, Int.reduceLE, Int.reduceToNat, reduceIte, reduceCtorEq, Nat.reduceLeDiff, Nat.reduceLT, Nat.reduceMul, Nat.reduceSub, newV, aV, c1, c2]
      refine ⟨_, (ref_like .loose .loose .nil .nil [] [] [] [] (by simp) (by simp)), ?_⟩
      simp (maxSteps := 1000000) (disch := omega) only [rg, opX, opI, look, nth, setN, outO, binO, intO, strO, argsE, appd, cpyO, slcO, slsO, bndO, lo1, mnxO, bldO, bldV, splice, rd, fpS, lk, isNil, Nat.reduceBEq, Nat.reduceEqDiff, Nat.reduceAdd, Int.reduceEq, Int.reduceLT, Int.reduceLE, Int.reduceToNat, reduceIte, reduceCtorEq, Nat.reduceLeDiff, Nat.reduceLT, Nat.reduceMul, Nat.reduceSub]
      refine ⟨_, alive06, ?_⟩
      simp (maxSteps := 1000000) (disch := omega) only [rg, opX, opI, look, nth, setN, outO, binO, intO, strO, argsE, appd, cpyO, slcO, slsO, bndO, lo1, mnxO, bldO, bldV, splice, rd, fpS, lk, isNil, Nat.reduceBEq, Nat.reduceEqDiff, Nat.reduceAdd, Int.reduceEq, Int.reduceLT, Int.reduceLE, Int.reduceToNat, reduceIte, reduceCtorEq, Nat.reduceLeDiff, Nat.reduceLT, Nat.reduceMul, Nat.reduceSub]
      refine ⟨_, alloc_right s1 s2 b n, ?_⟩
      simp (maxSteps := 1000000) (disch := omega) only [rg, opX, opI, look, nth, setN, outO, binO, intO, strO, argsE, appd, cpyO, slcO, slsO, bndO, lo1, mnxO, bldO, bldV, splice, rd, fpS, lk, isNil, Nat.reduceBEq, Nat.reduceEqDiff, Nat.reduceAdd, Int.reduceEq, Int.reduceLT, Int.reduceLE, Int.reduceToNat, reduceIte, reduceCtorEq, Nat.reduceLeDiff, Nat.reduceLT, Nat.reduceMul, Nat.reduceSub]
      refine ⟨_, ref_right s1 s2 b n, ?_⟩
      simp (maxSteps := 1000000) (disch := omega) only [rg, opX, opI, look, nth, setN, outO, binO, intO, strO, argsE, appd, cpyO, slcO, slsO, bndO, lo1, mnxO, bldO, bldV, splice, rd, fpS, lk, isNil, Nat.reduceBEq, Nat.reduceEqDiff, Nat.reduceAdd, Int.reduceEq, Int.reduceLT, Int.reduceLE, Int.reduceToNat, reduceIte, reduceCtorEq, Nat.reduceLeDiff, Nat.reduceLT, Nat.reduceMul, Nat.reduceSub]
      refine ⟨_, alloc_free s1 s2 b n, ?_⟩
      simp (maxSteps := 1000000) (disch := omega) only [rg, opX, opI, look, nth, setN, outO, binO, intO, strO, argsE, appd, cpyO, slcO, slsO, bndO, lo1, mnxO, bldO, bldV, splice, rd, fpS, lk, isNil, Nat.reduceBEq, Nat.reduceEqDiff, Nat.reduceAdd, Int.reduceEq, Int.reduceLT, Int.reduceLE, Int.reduceToNat, reduceIte, reduceCtorEq, Nat.reduceLeDiff, Nat.reduceLT, Nat.reduceMul, Nat.reduceSub]
      refine ⟨_, ref_free s1 s2 b n, ?_⟩
      simp (maxSteps := 1000000) (disch := omega) only [rg, opX, opI, look, nth, setN, outO, binO, intO, strO, argsE, appd, cpyO, slcO, slsO, bndO, lo1, mnxO, bldO, bldV, splice, rd, fpS, lk, isNil, Nat.reduceBEq, Nat.reduceEqDiff, Nat.reduceAdd, Int.reduceEq, Int.reduceLT, Int.reduceLE, Int.reduceToNat, reduceIte, reduceCtorEq, Nat.reduceLeDiff, Nat.reduceLT, Nat.reduceMul, Nat.reduceSub]
      (refine fin_x rfl ?_ ?_ <;> simp [pack, lo, loL, V.closed, closedL, bv_closed, iv_closed, mv_closed])
    · simp (maxSteps := 1000000) (disch := omega) only [rg, opX, opI, look, nth, setN, outO, binO, intO, strO, argsE, appd, cpyO, slcO, slsO, bndO, lo1, mnxO, bldO, bldV, splice, rd, fpS, lk, isNil, Nat.reduceBEq, Nat.reduceEqDiff, Nat.reduceAdd, Int.reduceEq, Int.reduceLT, Int.reduceLE, Int.reduceToNat, reduceIte, reduceCtorEq, Nat.reduceLeDiff, Nat.reduceLT, Nat.reduceMul, Nat.reduceSub, newV, aV, c1, c2]
      refine ⟨_, ref_new k (by omega), ?_⟩
      simp (maxSteps := 1000000) (disch := omega) only [rg, opX, opI, look, nth, setN, outO, binO, intO, strO, argsE, appd, cpyO, slcO, slsO, bndO, lo1, mnxO, bldO, bldV, splice, rd, fpS, lk, isNil, Nat.reduceBEq, Nat.reduceEqDiff, Nat.reduceAdd, Int.reduceEq, Int.reduceLT, Int.reduceLE, Int.reduceToNat, reduceIte, reduceCtorEq, Nat.reduceLeDiff, Nat.reduceLT, Nat.reduceMul, Nat.reduceSub, aV]
      refine ⟨_, ref_like .loose .loose .loose .loose (rowA k.toNat) (rowA k.toNat) _ _ (by rw [rowA_len]; omega) (by rw [rowA_len]; omega), ?_⟩
      simp (maxSteps := 1000000) (disch := omega) only [rg, opX, opI, look, nth, setN, outO, binO, intO, strO, argsE, appd, cpyO, slcO, slsO, bndO, lo1, mnxO, bldO, bldV, splice, rd, fpS, lk, isNil, Nat.reduceBEq, Nat.reduceEqDiff, Nat.reduceAdd, Int.reduceEq, Int.reduceLT, Int.reduceLE, Int.reduceToNat, reduceIte, reduceCtorEq, Nat.reduceLeDiff, Nat.reduceLT, Nat.reduceMul, Nat.reduceSub]
      refine ⟨_, alive06, ?_⟩
      simp (maxSteps := 1000000) (disch := omega) only [rg, opX, opI, look, nth, setN, outO, binO, intO, strO, argsE, appd, cpyO, slcO, slsO, bndO, lo1, mnxO, bldO, bldV, splice, rd, fpS, lk, isNil, Nat.reduceBEq, Nat.reduceEqDiff, Nat.reduceAdd, Int.reduceEq, Int.reduceLT, Int.reduceLE, Int.reduceToNat, reduceIte, reduceCtorEq, Nat.reduceLeDiff, Nat.reduceLT, Nat.reduceMul, Nat.reduceSub]
      refine ⟨_, alloc_right s1 s2 b n, ?_⟩
      simp (maxSteps := 1000000) (disch := omega) only [rg, opX, opI, look, nth, setN, outO, binO, intO, strO, argsE, appd, cpyO, slcO, slsO, bndO, lo1, mnxO, bldO, bldV, splice, rd, fpS, lk, isNil, Nat.reduceBEq, Nat.reduceEqDiff, Nat.reduceAdd, Int.reduceEq, Int.reduceLT, Int.reduceLE, Int.reduceToNat, reduceIte, reduceCtorEq, Nat.reduceLeDiff, Nat.reduceLT, Nat.reduceMul, Nat.reduceSub]
      refine ⟨_, ref_right s1 s2 b n, ?_⟩
      simp (maxSteps := 1000000) (disch := omega) only [rg, opX, opI, look, nth, setN, outO, binO, intO, strO, argsE, appd, cpyO, slcO, slsO, bndO, lo1, mnxO, bldO, bldV, splice, rd, fpS, lk, isNil, Nat.reduceBEq, Nat.reduceEqDiff, Nat.reduceAdd, Int.reduceEq, Int.reduceLT, Int.reduceLE, Int.reduceToNat, reduceIte, reduceCtorEq, Nat.reduceLeDiff, Nat.reduceLT, Nat.reduceMul, Nat.reduceSub]
      refine ⟨_, alloc_free s1 s2 b n, ?_⟩
      simp (maxSteps := 1000000) (disch := omega) only [rg, opX, opI, look, nth, setN, outO, binO, intO, strO, argsE, appd, cpyO, slcO, slsO, bndO, lo1, mnxO, bldO, bldV, splice, rd, fpS, lk, isNil, Nat.reduceBEq, Nat.reduceEqDiff, Nat.reduceAdd, Int.reduceEq, Int.reduceLT, Int.reduceLE, Int.reduceToNat, reduceIte, reduceCtorEq, Nat.reduceLeDiff, Nat.reduceLT, Nat.reduceMul, Nat.reduceSub]
      refine ⟨_, ref_free s1 s2 b n, ?_⟩
      simp (maxSteps := 1000000) (disch := omega) only [rg, opX, opI, look, nth, setN, outO, binO, intO, strO, argsE, appd, cpyO, slcO, slsO, bndO, lo1, mnxO, bldO, bldV, splice, rd, fpS, lk, isNil, Nat.reduceBEq, Nat.reduceEqDiff, Nat.reduceAdd, Int.reduceEq, Int.reduceLT, Int.reduceLE, Int.reduceToNat, reduceIte, reduceCtorEq, Nat.reduceLeDiff, Nat.reduceLT, Nat.reduceMul, Nat.reduceSub]
      (refine fin_x rfl ?_ ?_ <;> simp [pack, lo, loL, V.closed, closedL, bv_closed, iv_closed, mv_closed])

end Go.Proofs.Ytickdhdlljhomaa.Ev
end
section
set_option linter.unusedSimpArgs false
set_option linter.unusedVariables false
set_option maxRecDepth 10000
namespace Go.Proofs.Ytickdhdlljhomaa.Ev
open Go

theorem rightA_ten {b n : List Bool} (h : rightA b n = true) {i : Nat} (hi : frA b n i = true) : 10 ≤ i := by
  rcases Nat.lt_or_ge i 10 with hlt | hge
  · obtain ⟨l1, l2, l3⟩ := rightA_len h
    simp only [rightA, Bool.and_eq_true] at h
    have := (all_getD (l := n.take 10) (n := 10) (by simp; omega)).1 h.2.2 i hlt
    simp [List.getD_eq_getElem?_getD, List.getElem?_take, hlt] at this
    simp [frA, List.getD_eq_getElem?_getD, this] at hi
  · exact hge
theorem take_set {l : List Bool} {i k : Nat} {x : Bool} (h : k ≤ i) : (l.set i x).take k = l.take k := by
  rw [List.take_set, List.set_eq_of_length_le]; simp; omega
theorem rightA_set {b n : List Bool} {i : Nat} {x : Bool} (h : 10 ≤ i) : rightA b (n.set i x) = rightA b n := by
  simp only [rightA, take_set h, List.length_set]
theorem gD_set {l : List Bool} {i j : Nat} {x : Bool} (h : i < l.length) : (l.set i x).getD j false = if i = j then x else l.getD j false := by
  simp only [List.getD_eq_getElem?_getD, List.getElem?_set]
  split <;> simp_all
theorem frA_set {b n : List Bool} {i j : Nat} (h : i < n.length) : frA b (n.set i true) j = (frA b n j && !decide (i = j)) := by
  simp only [frA, gD_set h]
  split <;> simp_all
theorem cfA_set {b n : List Bool} {i : Nat} (h : i < n.length) (hf : frA b n i = true) : ∀ k, cfA b (n.set i true) k + (if i < k then 1 else 0) = cfA b n k
  | 0 => by simp [cfA]
  | k + 1 => by
    have ih := cfA_set h hf k
    rw [cfA_succ, cfA_succ, frA_set h]
    by_cases e : i = k
    · subst e; simp [hf] at ih ⊢; exact ih
    · simp only [e, decide_false, Bool.not_false, Bool.and_true]
      split at ih <;> split <;> split <;> omega
theorem freeA_set {b n : List Bool} {i : Nat} (hr : rightA b n = true) (h : i < n.length) (hf : frA b n i = true) : freeA b (n.set i true) + 1 = freeA b n := by
  have e := cfA_set h hf n.length
  rw [if_pos h] at e
  simp only [freeA, rightA_set (rightA_ten hr hf), hr, if_true, List.length_set]
  exact e
theorem set_back {n : List Bool} {i : Nat} (h : i < n.length) (hf : n.getD i false = false) : (n.set i true).set i false = n := by
  rw [List.set_set]
  refine List.ext_getElem? fun j => ?_
  rw [List.getElem?_set]
  split
  · rename_i e; subst e
    simp [h]
    simpa [List.getD_eq_getElem?_getD, h] using hf.symm
  · rfl
theorem freeA_none {b n : List Bool} (h : ∀ j, j < n.length → frA b n j = false) : freeA b n = 0 := by
  simp only [freeA]
  split
  · rw [cfA, List.countP_eq_zero]; intro j hj; simp at hj; simp [h j hj]
  · rfl

theorem law_takes (s1 s2 : St) (b n : List Bool) : PCall Try.prog 10 [.agg [.fsl s1 1 (bv b), .fsl s2 1 (bv n)]] (.bool true) := by
  refine en10 (by simp) (by simp [closedL, V.closed, bv_closed]) ?_
  simp (maxSteps := 1000000) (disch := omega) only [rg, opX, opI, look, nth, setN, outO, binO, intO, strO, argsE, appd, cpyO, slcO, slsO, bndO, lo1, mnxO, bldO, bldV, splice, rd, fpS, lk, isNil, Nat.reduceBEq, Nat.reduceEqDiff, Nat.reduceAdd, Int.reduceEq, Int.reduceLT, Int.reduceLE, Int.reduceToNat, reduceIte, reduceCtorEq, Nat.reduceLeDiff, Nat.reduceLT, Nat.reduceMul, Nat.reduceSub, c10]
  refine ⟨_, ref_right s1 s2 b n, ?_⟩
  simp (maxSteps := 1000000) (disch := omega) only [rg, opX, opI, look, nth, setN, outO, binO, intO, strO, argsE, appd, cpyO, slcO, slsO, bndO, lo1, mnxO, bldO, bldV, splice, rd, fpS, lk, isNil, Nat.reduceBEq, Nat.reduceEqDiff, Nat.reduceAdd, Int.reduceEq, Int.reduceLT, Int.reduceLE, Int.reduceToNat, reduceIte, reduceCtorEq, Nat.reduceLeDiff, Nat.reduceLT, Nat.reduceMul, Nat.reduceSub, c_b (c := rightA b n), g_b (c := rightA b n)]
  refine ⟨fun hr => ?_, fun hr => ?_⟩
  · refine ⟨_, alive06, ?_⟩
    simp (maxSteps := 1000000) (disch := omega) only [rg, opX, opI, look, nth, setN, outO, binO, intO, strO, argsE, appd, cpyO, slcO, slsO, bndO, lo1, mnxO, bldO, bldV, splice, rd, fpS, lk, isNil, Nat.reduceBEq, Nat.reduceEqDiff, Nat.reduceAdd, Int.reduceEq, Int.reduceLT, Int.reduceLE, Int.reduceToNat, reduceIte, reduceCtorEq, Nat.reduceLeDiff, Nat.reduceLT, Nat.reduceMul, Nat.reduceSub]
    (refine fin_x rfl ?_ ?_ <;> simp [pack, lo, loL, V.closed, closedL, bv_closed, iv_closed, mv_closed])
  · have hr : rightA b n = true := by simpa using hr
    obtain ⟨l1, l2, l3⟩ := rightA_len hr
    refine ⟨_, alloc_take s1 s2 b n, ?_⟩
    rcases firstA_spec b n with ⟨e, k⟩ | ⟨i, e, k1, k2, k3⟩
    · simp (maxSteps := 1000000) (disch := omega) only [rg, opX, opI, look, nth, setN, outO, binO, intO, strO, argsE, appd, cpyO, slcO, slsO, bndO, lo1, mnxO, bldO, bldV, splice, rd, fpS, lk, isNil, Nat.reduceBEq, Nat.reduceEqDiff, Nat.reduceAdd, Int.reduceEq, Int.reduceLT, Int.reduceLE, Int.reduceToNat, reduceIte, reduceCtorEq, Nat.reduceLeDiff, Nat.reduceLT, Nat.reduceMul, Nat.reduceSub, takeV, hr, e, aV]
      refine ⟨_, alive06, ?_⟩
      simp (maxSteps := 1000000) (disch := omega) only [rg, opX, opI, look, nth, setN, outO, binO, intO, strO, argsE, appd, cpyO, slcO, slsO, bndO, lo1, mnxO, bldO, bldV, splice, rd, fpS, lk, isNil, Nat.reduceBEq, Nat.reduceEqDiff, Nat.reduceAdd, Int.reduceEq, Int.reduceLT, Int.reduceLE, Int.reduceToNat, reduceIte, reduceCtorEq, Nat.reduceLeDiff, Nat.reduceLT, Nat.reduceMul, Nat.reduceSub]
      refine ⟨_, alloc_free s1 s2 b n, ?_⟩
      simp (maxSteps := 1000000) (disch := omega) only [rg, opX, opI, look, nth, setN, outO, binO, intO, strO, argsE, appd, cpyO, slcO, slsO, bndO, lo1, mnxO, bldO, bldV, splice, rd, fpS, lk, isNil, Nat.reduceBEq, Nat.reduceEqDiff, Nat.reduceAdd, Int.reduceEq, Int.reduceLT, Int.reduceLE, Int.reduceToNat, reduceIte, reduceCtorEq, Nat.reduceLeDiff, Nat.reduceLT, Nat.reduceMul, Nat.reduceSub, freeA_none k]
      (refine fin_x rfl ?_ ?_ <;> simp [pack, lo, loL, V.closed, closedL, bv_closed, iv_closed, mv_closed, freeA_none k])
    · have h10 := rightA_ten hr k2
      have hf : n.getD i false = false := by simp only [frA, Bool.and_eq_true] at k2; simpa using k2.1
      have hs : stepG (n.set i true) i = some n := by
        rw [stepG_yes (by omega) (by simp; omega) (by simp only [Int.toNat_natCast]; rw [gD_set k1, if_pos rfl])]
        simp only [Int.toNat_natCast]; rw [set_back k1 hf]
      have hg : giveV b (n.set i true) [(i : Int)] = .tup [aV b n, .int .i64 0] := by
        simp only [giveV, rightA_set h10, hr, if_true, giveL, List.foldl_cons, List.foldl_nil, hs]
      have hff : frA b (n.set i true) i = false := by rw [frA_set k1]; simp
      simp (maxSteps := 1000000) (disch := omega) only [rg, opX, opI, look, nth, setN, outO, binO, intO, strO, argsE, appd, cpyO, slcO, slsO, bndO, lo1, mnxO, bldO, bldV, splice, rd, fpS, lk, isNil, Nat.reduceBEq, Nat.reduceEqDiff, Nat.reduceAdd, Int.reduceEq, Int.reduceLT, Int.reduceLE, Int.reduceToNat, reduceIte, reduceCtorEq, Nat.reduceLeDiff, Nat.reduceLT, Nat.reduceMul, Nat.reduceSub, takeV, hr, e, aV]
      refine ⟨_, alloc_give .loose .loose .full b (n.set i true) [(i : Int)] (by simp), ?_⟩
      simp (maxSteps := 1000000) (disch := omega) only [rg, opX, opI, look, nth, setN, outO, binO, intO, strO, argsE, appd, cpyO, slcO, slsO, bndO, lo1, mnxO, bldO, bldV, splice, rd, fpS, lk, isNil, Nat.reduceBEq, Nat.reduceEqDiff, Nat.reduceAdd, Int.reduceEq, Int.reduceLT, Int.reduceLE, Int.reduceToNat, reduceIte, reduceCtorEq, Nat.reduceLeDiff, Nat.reduceLT, Nat.reduceMul, Nat.reduceSub, hg, aV]
      refine ⟨_, alloc_take .loose .loose b n, ?_⟩
      simp (maxSteps := 1000000) (disch := omega) only [rg, opX, opI, look, nth, setN, outO, binO, intO, strO, argsE, appd, cpyO, slcO, slsO, bndO, lo1, mnxO, bldO, bldV, splice, rd, fpS, lk, isNil, Nat.reduceBEq, Nat.reduceEqDiff, Nat.reduceAdd, Int.reduceEq, Int.reduceLT, Int.reduceLE, Int.reduceToNat, reduceIte, reduceCtorEq, Nat.reduceLeDiff, Nat.reduceLT, Nat.reduceMul, Nat.reduceSub, takeV, hr, e, aV]
      refine ⟨_, alive06, ?_⟩
      simp (maxSteps := 1000000) (disch := omega) only [rg, opX, opI, look, nth, setN, outO, binO, intO, strO, argsE, appd, cpyO, slcO, slsO, bndO, lo1, mnxO, bldO, bldV, splice, rd, fpS, lk, isNil, Nat.reduceBEq, Nat.reduceEqDiff, Nat.reduceAdd, Int.reduceEq, Int.reduceLT, Int.reduceLE, Int.reduceToNat, reduceIte, reduceCtorEq, Nat.reduceLeDiff, Nat.reduceLT, Nat.reduceMul, Nat.reduceSub]
      refine ⟨_, ref_isfree s1 s2 b n i l1, ?_⟩
      simp (maxSteps := 1000000) (disch := omega) only [rg, opX, opI, look, nth, setN, outO, binO, intO, strO, argsE, appd, cpyO, slcO, slsO, bndO, lo1, mnxO, bldO, bldV, splice, rd, fpS, lk, isNil, Nat.reduceBEq, Nat.reduceEqDiff, Nat.reduceAdd, Int.reduceEq, Int.reduceLT, Int.reduceLE, Int.reduceToNat, reduceIte, reduceCtorEq, Nat.reduceLeDiff, Nat.reduceLT, Nat.reduceMul, Nat.reduceSub, k2, show ((i : Int) < n.length) by omega]
      refine ⟨_, ref_isfree .loose .loose b (n.set i true) i (by simpa using l1), ?_⟩
      simp (maxSteps := 1000000) (disch := omega) only [rg, opX, opI, look, nth, setN, outO, binO, intO, strO, argsE, appd, cpyO, slcO, slsO, bndO, lo1, mnxO, bldO, bldV, splice, rd, fpS, lk, isNil, Nat.reduceBEq, Nat.reduceEqDiff, Nat.reduceAdd, Int.reduceEq, Int.reduceLT, Int.reduceLE, Int.reduceToNat, reduceIte, reduceCtorEq, Nat.reduceLeDiff, Nat.reduceLT, Nat.reduceMul, Nat.reduceSub, hff, Bool.and_false]
      refine ⟨_, alloc_free .loose .loose b (n.set i true), ?_⟩
      simp (maxSteps := 1000000) (disch := omega) only [rg, opX, opI, look, nth, setN, outO, binO, intO, strO, argsE, appd, cpyO, slcO, slsO, bndO, lo1, mnxO, bldO, bldV, splice, rd, fpS, lk, isNil, Nat.reduceBEq, Nat.reduceEqDiff, Nat.reduceAdd, Int.reduceEq, Int.reduceLT, Int.reduceLE, Int.reduceToNat, reduceIte, reduceCtorEq, Nat.reduceLeDiff, Nat.reduceLT, Nat.reduceMul, Nat.reduceSub]
      refine ⟨_, alloc_free s1 s2 b n, ?_⟩
      have hfree := freeA_set hr k1 k2
      have hle : freeA b n ≤ 1000000 := by
        simp only [freeA, hr, if_true]; have := cfA_le b n n.length; omega
      simp (maxSteps := 1000000) (disch := omega) only [rg, opX, opI, look, nth, setN, outO, binO, intO, strO, argsE, appd, cpyO, slcO, slsO, bndO, lo1, mnxO, bldO, bldV, splice, rd, fpS, lk, isNil, Nat.reduceBEq, Nat.reduceEqDiff, Nat.reduceAdd, Int.reduceEq, Int.reduceLT, Int.reduceLE, Int.reduceToNat, reduceIte, reduceCtorEq, Nat.reduceLeDiff, Nat.reduceLT, Nat.reduceMul, Nat.reduceSub]
      refine ⟨fun h1 => ?_, fun h1 => absurd (by omega) h1⟩
      refine ⟨_, ref_like .loose .loose s1 s2 b n b n (by omega) (by omega), ?_⟩
      simp (maxSteps := 1000000) (disch := omega) only [rg, opX, opI, look, nth, setN, outO, binO, intO, strO, argsE, appd, cpyO, slcO, slsO, bndO, lo1, mnxO, bldO, bldV, splice, rd, fpS, lk, isNil, Nat.reduceBEq, Nat.reduceEqDiff, Nat.reduceAdd, Int.reduceEq, Int.reduceLT, Int.reduceLE, Int.reduceToNat, reduceIte, reduceCtorEq, Nat.reduceLeDiff, Nat.reduceLT, Nat.reduceMul, Nat.reduceSub]
      (refine fin_x rfl ?_ ?_ <;> simp [pack, lo, loL, V.closed, closedL, bv_closed, iv_closed, mv_closed])

theorem law_calls6 (s1 s2 s3 : St) (b n : List Bool) (l : List Int) : PCall Try.prog 12 [.agg [.fsl s1 1 (bv b), .fsl s2 1 (bv n)], .fsl s3 1 (iv l)] (.bool true) := by
  refine en12 (by simp) (by simp [closedL, V.closed, bv_closed, iv_closed]) ?_
  simp (maxSteps := 1000000) (disch := omega) only [rg, opX, opI, look, nth, setN, outO, binO, intO, strO, argsE, appd, cpyO, slcO, slsO, bndO, lo1, mnxO, bldO, bldV, splice, rd, fpS, lk, isNil, Nat.reduceBEq, Nat.reduceEqDiff, Nat.reduceAdd, Int.reduceEq, Int.reduceLT, Int.reduceLE, Int.reduceToNat, reduceIte, reduceCtorEq, Nat.reduceLeDiff, Nat.reduceLT, Nat.reduceMul, Nat.reduceSub, c12, iv_len]
  have e1 : List.drop 0 (List.take (min (l.length : Int) 20).toNat (iv l)) = iv (l.take 20) := take_minI l 20
  have e2 : List.take (min (l.length : Int) 20).toNat (iv l) = iv (l.take 20) := by rw [← e1, List.drop_zero]
  rw [e2]
  have hq : (l.take 20).length ≤ 20 := by simp; omega
  generalize l.take 20 = p at hq
  generalize slSt s3 l.length (min (l.length : Int) 20).toNat none = s4
  refine ⟨by omega, _, alloc_take s1 s2 b n, ?_⟩
  cases hr : rightA b n with
  | false =>
    simp (maxSteps := 1000000) (disch := omega) only [rg, opX, opI, look, nth, setN, outO, binO, intO, strO, argsE, appd, cpyO, slcO, slsO, bndO, lo1, mnxO, bldO, bldV, splice, rd, fpS, lk, isNil, Nat.reduceBEq, Nat.reduceEqDiff, Nat.reduceAdd, Int.reduceEq, Int.reduceLT, Int.reduceLE, Int.reduceToNat, reduceIte, reduceCtorEq, Nat.reduceLeDiff, Nat.reduceLT, Nat.reduceMul, Nat.reduceSub, takeV, hr, aV]
    refine ⟨_, alloc_give s1 s2 s4 b n p (by omega), ?_⟩
    simp (maxSteps := 1000000) (disch := omega) only [rg, opX, opI, look, nth, setN, outO, binO, intO, strO, argsE, appd, cpyO, slcO, slsO, bndO, lo1, mnxO, bldO, bldV, splice, rd, fpS, lk, isNil, Nat.reduceBEq, Nat.reduceEqDiff, Nat.reduceAdd, Int.reduceEq, Int.reduceLT, Int.reduceLE, Int.reduceToNat, reduceIte, reduceCtorEq, Nat.reduceLeDiff, Nat.reduceLT, Nat.reduceMul, Nat.reduceSub, giveV, hr, aV]
    refine ⟨_, alloc_commit s1 s2 b n, ?_⟩
    simp (maxSteps := 1000000) (disch := omega) only [rg, opX, opI, look, nth, setN, outO, binO, intO, strO, argsE, appd, cpyO, slcO, slsO, bndO, lo1, mnxO, bldO, bldV, splice, rd, fpS, lk, isNil, Nat.reduceBEq, Nat.reduceEqDiff, Nat.reduceAdd, Int.reduceEq, Int.reduceLT, Int.reduceLE, Int.reduceToNat, reduceIte, reduceCtorEq, Nat.reduceLeDiff, Nat.reduceLT, Nat.reduceMul, Nat.reduceSub, hr, aV]
    refine ⟨_, ref_right s1 s2 b n, ?_⟩
    simp (maxSteps := 1000000) (disch := omega) only [rg, opX, opI, look, nth, setN, outO, binO, intO, strO, argsE, appd, cpyO, slcO, slsO, bndO, lo1, mnxO, bldO, bldV, splice, rd, fpS, lk, isNil, Nat.reduceBEq, Nat.reduceEqDiff, Nat.reduceAdd, Int.reduceEq, Int.reduceLT, Int.reduceLE, Int.reduceToNat, reduceIte, reduceCtorEq, Nat.reduceLeDiff, Nat.reduceLT, Nat.reduceMul, Nat.reduceSub, hr]
    refine ⟨_, alive06, ?_⟩
    simp (maxSteps := 1000000) (disch := omega) only [rg, opX, opI, look, nth, setN, outO, binO, intO, strO, argsE, appd, cpyO, slcO, slsO, bndO, lo1, mnxO, bldO, bldV, splice, rd, fpS, lk, isNil, Nat.reduceBEq, Nat.reduceEqDiff, Nat.reduceAdd, Int.reduceEq, Int.reduceLT, Int.reduceLE, Int.reduceToNat, reduceIte, reduceCtorEq, Nat.reduceLeDiff, Nat.reduceLT, Nat.reduceMul, Nat.reduceSub]
    iterate 3
      refine ⟨_, ref_like .loose .loose .nil .nil [] [] [] [] (by simp) (by simp), ?_⟩
      simp (maxSteps := 1000000) (disch := omega) only [rg, opX, opI, look, nth, setN, outO, binO, intO, strO, argsE, appd, cpyO, slcO, slsO, bndO, lo1, mnxO, bldO, bldV, splice, rd, fpS, lk, isNil, Nat.reduceBEq, Nat.reduceEqDiff, Nat.reduceAdd, Int.reduceEq, Int.reduceLT, Int.reduceLE, Int.reduceToNat, reduceIte, reduceCtorEq, Nat.reduceLeDiff, Nat.reduceLT, Nat.reduceMul, Nat.reduceSub]
    (refine fin_x rfl ?_ ?_ <;> simp [pack, lo, loL, V.closed, closedL, bv_closed, iv_closed, mv_closed])
  | true =>
    obtain ⟨l1, l2, l3⟩ := rightA_len hr
    obtain ⟨tb, tn, ti, te, ht, htl⟩ : ∃ tb tn, ∃ ti te : Int, takeV b n = .tup [aV tb tn, .int .i64 ti, .int .i64 te] ∧ tb.length ≤ 10000 ∧ tn.length ≤ 10000 := by
      simp only [takeV, hr, if_true]
      split
      · exact ⟨_, _, _, _, rfl, by omega, by simp; omega⟩
      · exact ⟨_, _, _, _, rfl, by simp, by simp⟩
    obtain ⟨gb, gn, ge, hg, hgl⟩ : ∃ gb gn, ∃ ge : Int, giveV b n p = .tup [aV gb gn, .int .i64 ge] ∧ gb.length ≤ 10000 ∧ gn.length ≤ 10000 := by
      simp only [giveV, hr, if_true]
      split
      · rename_i w hw
        exact ⟨_, _, _, rfl, by omega, by have := giveL_len (i := p.length) (Nat.le_refl _) (by rw [List.take_length]; exact hw); omega⟩
      · exact ⟨_, _, _, rfl, by simp, by simp⟩
    simp (maxSteps := 1000000) (disch := omega) only [rg, opX, opI, look, nth, setN, outO, binO, intO, strO, argsE, appd, cpyO, slcO, slsO, bndO, lo1, mnxO, bldO, bldV, splice, rd, fpS, lk, isNil, Nat.reduceBEq, Nat.reduceEqDiff, Nat.reduceAdd, Int.reduceEq, Int.reduceLT, Int.reduceLE, Int.reduceToNat, reduceIte, reduceCtorEq, Nat.reduceLeDiff, Nat.reduceLT, Nat.reduceMul, Nat.reduceSub, ht, aV]
    refine ⟨_, alloc_give s1 s2 s4 b n p (by omega), ?_⟩
    simp (maxSteps := 1000000) (disch := omega) only [rg, opX, opI, look, nth, setN, outO, binO, intO, strO, argsE, appd, cpyO, slcO, slsO, bndO, lo1, mnxO, bldO, bldV, splice, rd, fpS, lk, isNil, Nat.reduceBEq, Nat.reduceEqDiff, Nat.reduceAdd, Int.reduceEq, Int.reduceLT, Int.reduceLE, Int.reduceToNat, reduceIte, reduceCtorEq, Nat.reduceLeDiff, Nat.reduceLT, Nat.reduceMul, Nat.reduceSub, hg, aV]
    refine ⟨_, alloc_commit s1 s2 b n, ?_⟩
    simp (maxSteps := 1000000) (disch := omega) only [rg, opX, opI, look, nth, setN, outO, binO, intO, strO, argsE, appd, cpyO, slcO, slsO, bndO, lo1, mnxO, bldO, bldV, splice, rd, fpS, lk, isNil, Nat.reduceBEq, Nat.reduceEqDiff, Nat.reduceAdd, Int.reduceEq, Int.reduceLT, Int.reduceLE, Int.reduceToNat, reduceIte, reduceCtorEq, Nat.reduceLeDiff, Nat.reduceLT, Nat.reduceMul, Nat.reduceSub, hr, aV]
    refine ⟨_, ref_right s1 s2 b n, ?_⟩
    simp (maxSteps := 1000000) (disch := omega) only [rg, opX, opI, look, nth, setN, outO, binO, intO, strO, argsE, appd, cpyO, slcO, slsO, bndO, lo1, mnxO, bldO, bldV, splice, rd, fpS, lk, isNil, Nat.reduceBEq, Nat.reduceEqDiff, Nat.reduceAdd, Int.reduceEq, Int.reduceLT, Int.reduceLE, Int.reduceToNat, reduceIte, reduceCtorEq, Nat.reduceLeDiff, Nat.reduceLT, Nat.reduceMul, Nat.reduceSub, hr]
    refine ⟨_, ref_take s1 s2 b n hr, ?_⟩
    simp (maxSteps := 1000000) (disch := omega) only [rg, opX, opI, look, nth, setN, outO, binO, intO, strO, argsE, appd, cpyO, slcO, slsO, bndO, lo1, mnxO, bldO, bldV, splice, rd, fpS, lk, isNil, Nat.reduceBEq, Nat.reduceEqDiff, Nat.reduceAdd, Int.reduceEq, Int.reduceLT, Int.reduceLE, Int.reduceToNat, reduceIte, reduceCtorEq, Nat.reduceLeDiff, Nat.reduceLT, Nat.reduceMul, Nat.reduceSub, ht, aV]
    refine ⟨_, ref_give s1 s2 s4 b n p hr (by omega), ?_⟩
    simp (maxSteps := 1000000) (disch := omega) only [rg, opX, opI, look, nth, setN, outO, binO, intO, strO, argsE, appd, cpyO, slcO, slsO, bndO, lo1, mnxO, bldO, bldV, splice, rd, fpS, lk, isNil, Nat.reduceBEq, Nat.reduceEqDiff, Nat.reduceAdd, Int.reduceEq, Int.reduceLT, Int.reduceLE, Int.reduceToNat, reduceIte, reduceCtorEq, Nat.reduceLeDiff, Nat.reduceLT, Nat.reduceMul, Nat.reduceSub, hg, aV]
    refine ⟨_, alive06, ?_⟩
    simp (maxSteps := 1000000) (disch := omega) only [rg, opX, opI, look, nth, setN, outO, binO, intO, strO, argsE, appd, cpyO, slcO, slsO, bndO, lo1, mnxO, bldO, bldV, splice, rd, fpS, lk, isNil, Nat.reduceBEq, Nat.reduceEqDiff, Nat.reduceAdd, Int.reduceEq, Int.reduceLT, Int.reduceLE, Int.reduceToNat, reduceIte, reduceCtorEq, Nat.reduceLeDiff, Nat.reduceLT, Nat.reduceMul, Nat.reduceSub]
    refine ⟨_, ref_like .loose .loose .loose .loose tb tn tb tn (by omega) (by omega), ?_⟩
    simp (maxSteps := 1000000) (disch := omega) only [rg, opX, opI, look, nth, setN, outO, binO, intO, strO, argsE, appd, cpyO, slcO, slsO, bndO, lo1, mnxO, bldO, bldV, splice, rd, fpS, lk, isNil, Nat.reduceBEq, Nat.reduceEqDiff, Nat.reduceAdd, Int.reduceEq, Int.reduceLT, Int.reduceLE, Int.reduceToNat, reduceIte, reduceCtorEq, Nat.reduceLeDiff, Nat.reduceLT, Nat.reduceMul, Nat.reduceSub]
    refine ⟨_, ref_like .loose .loose .loose .loose gb gn gb gn (by omega) (by omega), ?_⟩
    simp (maxSteps := 1000000) (disch := omega) only [rg, opX, opI, look, nth, setN, outO, binO, intO, strO, argsE, appd, cpyO, slcO, slsO, bndO, lo1, mnxO, bldO, bldV, splice, rd, fpS, lk, isNil, Nat.reduceBEq, Nat.reduceEqDiff, Nat.reduceAdd, Int.reduceEq, Int.reduceLT, Int.reduceLE, Int.reduceToNat, reduceIte, reduceCtorEq, Nat.reduceLeDiff, Nat.reduceLT, Nat.reduceMul, Nat.reduceSub]
    refine ⟨_, ref_like .loose .loose s2 s2 n n n n (by omega) (by omega), ?_⟩
    simp (maxSteps := 1000000) (disch := omega) only [rg, opX, opI, look, nth, setN, outO, binO, intO, strO, argsE, appd, cpyO, slcO, slsO, bndO, lo1, mnxO, bldO, bldV, splice, rd, fpS, lk, isNil, Nat.reduceBEq, Nat.reduceEqDiff, Nat.reduceAdd, Int.reduceEq, Int.reduceLT, Int.reduceLE, Int.reduceToNat, reduceIte, reduceCtorEq, Nat.reduceLeDiff, Nat.reduceLT, Nat.reduceMul, Nat.reduceSub]
    (refine fin_x rfl ?_ ?_ <;> simp [pack, lo, loL, V.closed, closedL, bv_closed, iv_closed, mv_closed])

end Go.Proofs.Ytickdhdlljhomaa.Ev
end
section
set_option linter.unusedSimpArgs false
set_option linter.unusedVariables false
namespace Go.Proofs.Ytickdhdlljhomaa.Ev
open Go

def tI : Ty := .i .i64
def tBs : Ty := .l 1 1 .b
def tIs : Ty := .l 1 8 (.i .i64)
def tAl : Ty := .st (.cons tBs (.cons tBs .nil))

theorem i_of {vs : List V} (h : TyV tI vs) : ∃ n, vs = [.int .i64 n] ∧ -9223372036854775808 ≤ n ∧ n ≤ 9223372036854775807 := h
theorem bs_of {vs : List V} (h : TyV tBs vs) : ∃ l, vs = [.fsl .loose 1 (bv l)] := by
  obtain ⟨l, e, _, _⟩ := list_of (e := .b) (f := V.bool) (q := fun _ => True) (fun us ⟨x, hx⟩ => ⟨x, by rw [hx]; rfl, trivial⟩) h
  exact ⟨l, e⟩
theorem is_of {vs : List V} (h : TyV tIs vs) : ∃ l, vs = [.fsl .loose 1 (iv l)] ∧ ∀ n ∈ l, -9223372036854775808 ≤ n ∧ n ≤ 9223372036854775807 := by
  obtain ⟨l, e, _, h2⟩ := list_of (e := .i .i64) (f := V.int .i64) (q := fun n => -9223372036854775808 ≤ n ∧ n ≤ 9223372036854775807) (fun us ⟨x, hx, hb⟩ => ⟨x, by rw [hx]; rfl, hb⟩) h
  exact ⟨l, e, h2⟩
theorem al_of {vs : List V} (h : TyV tAl vs) : ∃ b n, vs = [.fsl .loose 1 (bv b), .fsl .loose 1 (bv n)] := by
  obtain ⟨us, ws, rfl, h1, us', ws', rfl, h2, rfl⟩ := h
  obtain ⟨b, rfl⟩ := bs_of h1
  obtain ⟨n, rfl⟩ := bs_of h2
  exact ⟨b, n, rfl⟩

end Go.Proofs.Ytickdhdlljhomaa.Ev
end
section
set_option linter.unusedSimpArgs false
set_option linter.unusedVariables false
set_option maxRecDepth 10000
namespace Go.Proofs.Ytickdhdlljhomaa.Ev
open Go

def flA (b n : List Bool) : List Nat := (List.range n.length).filter (frA b n)
def mkA (n : List Bool) (l : List Nat) : List Bool := l.foldl (fun w i => w.set i true) n
theorem mkA_len (l : List Nat) : ∀ n : List Bool, (mkA n l).length = n.length := by
  induction l with
  | nil => intro n; rfl
  | cons a l ih => intro n; simp only [mkA, List.foldl_cons]; have := ih (n.set a true); simp only [mkA] at this; rw [this]; simp
theorem mkA_gD (l : List Nat) : ∀ n : List Bool, (∀ i ∈ l, i < n.length) → ∀ j, (mkA n l).getD j false = (n.getD j false || decide (j ∈ l)) := by
  induction l with
  | nil => intro n _ j; simp [mkA]
  | cons a l ih =>
    intro n h j
    have e : mkA n (a :: l) = mkA (n.set a true) l := rfl
    rw [e, ih (n.set a true) (fun i hi => by simpa using h i (by simp [hi])) j, gD_set (h a (by simp))]
    by_cases hj : a = j
    · subst hj; simp
    · rw [if_neg hj]
      have : (j ∈ a :: l) ↔ j ∈ l := by simp; intro h; exact absurd h.symm hj
      simp only [this]
theorem gD_ext {l w : List Bool} (hl : l.length = w.length) (h : ∀ j, j < l.length → l.getD j false = w.getD j false) : l = w := by
  refine List.ext_getElem hl fun j h1 h2 => ?_
  have := h j h1
  simpa [List.getD_eq_getElem?_getD, h1, h2] using this
theorem mkA_app (n : List Bool) (l : List Nat) (a : Nat) : mkA n (l ++ [a]) = (mkA n l).set a true := by simp [mkA]

theorem flA_mem {b n : List Bool} {i : Nat} : i ∈ flA b n ↔ i < n.length ∧ frA b n i = true := by simp [flA]
theorem flA_len (b n : List Bool) : (flA b n).length = cfA b n n.length := by simp [flA, cfA, List.countP_eq_length_filter]
theorem flA_lt (b n : List Bool) : (flA b n).Pairwise (· < ·) := List.Pairwise.filter _ List.pairwise_lt_range
theorem flA_get_lt {b n : List Bool} {i j : Nat} (h : i < j) (hj : j < (flA b n).length) : (flA b n)[i] < (flA b n)[j] := List.pairwise_iff_getElem.1 (flA_lt b n) i j (by omega) hj h

theorem frA_mk {b n : List Bool} {l : List Nat} (hl : ∀ i ∈ l, i < n.length) (j : Nat) : frA b (mkA n l) j = (frA b n j && !decide (j ∈ l)) := by
  simp only [frA, mkA_gD l n hl]
  cases n.getD j false <;> cases b.getD j false <;> simp
theorem first_mk {b n : List Bool} {k : Nat} (hk : k < (flA b n).length) : firstA b (mkA n ((flA b n).take k)) = some (flA b n)[k] := by
  have hin : ∀ i ∈ (flA b n).take k, i < n.length := fun i hi => (flA_mem.1 (List.mem_of_mem_take hi)).1
  have hm := flA_mem.1 (List.getElem_mem hk)
  refine firstA_some (by rw [mkA_len]; exact hm.1) ?_ fun j hj => ?_
  · rw [frA_mk hin, hm.2]
    simp only [Bool.true_and, Bool.not_eq_true', decide_eq_false_iff_not]
    intro hmem
    obtain ⟨q, hq, e⟩ := List.mem_take_iff_getElem.1 hmem
    have := flA_get_lt (b := b) (n := n) (i := q) (j := k) (by omega) hk
    omega
  · rw [frA_mk hin]
    cases hf : frA b n j with
    | false => rfl
    | true =>
      have hjn : j < n.length := by omega
      obtain ⟨q, hq, e⟩ := List.getElem_of_mem (flA_mem.2 ⟨hjn, hf⟩)
      have hqk : q < k := by
        rcases Nat.lt_or_ge q k with h | h
        · exact h
        · rcases Nat.lt_or_ge k q with h2 | h2
          · have := flA_get_lt (b := b) (n := n) h2 hq; omega
          · have : q = k := by omega
            subst this; omega
      simp only [Bool.true_and, Bool.not_eq_false', decide_eq_true_eq]
      exact List.mem_take_iff_getElem.2 ⟨q, by omega, e⟩
theorem first_all (b n : List Bool) : ∀ j, j < (mkA n (flA b n)).length → frA b (mkA n (flA b n)) j = false := fun j hj => by
  rw [mkA_len] at hj
  rw [frA_mk (fun i hi => (flA_mem.1 hi).1)]
  cases hf : frA b n j with
  | false => rfl
  | true => simp; exact flA_mem.2 ⟨hj, hf⟩
theorem right_mk {b n : List Bool} {l : List Nat} (hr : rightA b n = true) (h : ∀ i ∈ l, frA b n i = true) : rightA b (mkA n l) = true := by
  have h10 : ∀ i ∈ l, 10 ≤ i := fun i hi => rightA_ten hr (h i hi)
  have : ∀ (l : List Nat) (n : List Bool), (∀ i ∈ l, 10 ≤ i) → rightA b n = true → rightA b (mkA n l) = true := by
    intro l
    induction l with
    | nil => intro n _ h; exact h
    | cons a l ih => intro n h1 h2; exact ih (n.set a true) (fun i hi => h1 i (by simp [hi])) (by rw [rightA_set (h1 a (by simp))]; exact h2)
  exact this l n h10 hr

theorem giveL_cons (n : List Bool) (x : Int) (l : List Int) : giveL n (x :: l) = match stepG n x with | some w => giveL w l | none => none := by
  simp only [giveL, List.foldl_cons]
  cases stepG n x with
  | some w => rfl
  | none => exact giveL_none
theorem give_perm {n : List Bool} : ∀ (q l : List Nat), q.Perm l → l.Nodup → (∀ i ∈ l, i < n.length ∧ 10 ≤ i ∧ n.getD i false = false) → giveL (mkA n l) (q.map fun (i : Nat) => (i : Int)) = some n
  | [], l, hp, _, _ => by
    have : l = [] := List.nil_perm.1 hp
    subst this; rfl
  | x :: q, l, hp, hn, h => by
    have hx : x ∈ l := hp.subset (by simp)
    obtain ⟨h1, h2, h3⟩ := h x hx
    have hq : q.Perm (l.erase x) := (List.cons_perm_iff_perm_erase.1 hp).2
    have e : (mkA n l).set x false = mkA n (l.erase x) := by
      refine gD_ext (by simp [mkA_len]) fun j hj => ?_
      rw [gD_set (by rw [mkA_len]; exact h1), mkA_gD l n (fun i hi => (h i hi).1), mkA_gD (l.erase x) n (fun i hi => (h i (List.mem_of_mem_erase hi)).1)]
      by_cases hj : x = j
      · subst hj
        have : ¬ x ∈ l.erase x := fun hm => by have := List.Nodup.not_mem_erase hn (a := x); exact this hm
        simp [this]
        simpa [List.getD_eq_getElem?_getD] using h3.symm
      · rw [if_neg hj]
        have : j ∈ l.erase x ↔ j ∈ l := List.mem_erase_of_ne fun h => hj h.symm
        simp only [this]
    have hs : stepG (mkA n l) (x : Int) = some (mkA n (l.erase x)) := by
      rw [stepG_yes (by omega) (by rw [mkA_len]; omega) (by simp only [Int.toNat_natCast]; rw [mkA_gD l n (fun i hi => (h i hi).1)]; simp [hx])]
      simp only [Int.toNat_natCast, e]
    rw [List.map_cons, giveL_cons, hs]
    exact give_perm q (l.erase x) hq (hn.erase x) fun i hi => h i (List.mem_of_mem_erase hi)

end Go.Proofs.Ytickdhdlljhomaa.Ev
end
section
set_option linter.unusedSimpArgs false
set_option linter.unusedVariables false
set_option maxRecDepth 10000
namespace Go.Proofs.Ytickdhdlljhomaa.Ev
open Go

def qA (b n : List Bool) : List Int := (flA b n).map fun (i : Nat) => (i : Int)
theorem qA_len (b n : List Bool) : (qA b n).length = (flA b n).length := by simp [qA]
theorem qA_get {b n : List Bool} {i : Nat} (h : i < (flA b n).length) : (qA b n)[i]'(by rw [qA_len]; exact h) = ((flA b n)[i] : Nat) := by simp [qA]

theorem law_fills (s1 s2 : St) (b n : List Bool) (by' : Int) : PCall Try.prog 11 [.agg [.fsl s1 1 (bv b), .fsl s2 1 (bv n)], .int .i64 by'] (.bool true) := by
  refine en11 (by simp) (by simp [closedL, V.closed, bv_closed]) ?_
  simp (maxSteps := 1000000) (disch := omega) only [rg, opX, opI, look, nth, setN, outO, binO, intO, strO, argsE, appd, cpyO, slcO, slsO, bndO, lo1, mnxO, bldO, bldV, splice, rd, fpS, lk, isNil, Nat.reduceBEq, Nat.reduceEqDiff, Nat.reduceAdd, Int.reduceEq, Int.reduceLT, Int.reduceLE, Int.reduceToNat, reduceIte, reduceCtorEq, Nat.reduceLeDiff, Nat.reduceLT, Nat.reduceMul, Nat.reduceSub, c11]
  refine ⟨_, ref_right s1 s2 b n, ?_⟩
  cases hr : rightA b n with
  | false =>
    simp (maxSteps := 1000000) (disch := omega) only [rg, opX, opI, look, nth, setN, outO, binO, intO, strO, argsE, appd, cpyO, slcO, slsO, bndO, lo1, mnxO, bldO, bldV, splice, rd, fpS, lk, isNil, Nat.reduceBEq, Nat.reduceEqDiff, Nat.reduceAdd, Int.reduceEq, Int.reduceLT, Int.reduceLE, Int.reduceToNat, reduceIte, reduceCtorEq, Nat.reduceLeDiff, Nat.reduceLT, Nat.reduceMul, Nat.reduceSub]
    refine ⟨_, alive06, ?_⟩
    simp (maxSteps := 1000000) (disch := omega) only [rg, opX, opI, look, nth, setN, outO, binO, intO, strO, argsE, appd, cpyO, slcO, slsO, bndO, lo1, mnxO, bldO, bldV, splice, rd, fpS, lk, isNil, Nat.reduceBEq, Nat.reduceEqDiff, Nat.reduceAdd, Int.reduceEq, Int.reduceLT, Int.reduceLE, Int.reduceToNat, reduceIte, reduceCtorEq, Nat.reduceLeDiff, Nat.reduceLT, Nat.reduceMul, Nat.reduceSub]
    (refine fin_x rfl ?_ ?_ <;> simp [pack, lo, loL, V.closed, closedL, bv_closed, iv_closed, mv_closed])
  | true =>
    obtain ⟨l1, l2, l3⟩ := rightA_len hr
    simp (maxSteps := 1000000) (disch := omega) only [rg, opX, opI, look, nth, setN, outO, binO, intO, strO, argsE, appd, cpyO, slcO, slsO, bndO, lo1, mnxO, bldO, bldV, splice, rd, fpS, lk, isNil, Nat.reduceBEq, Nat.reduceEqDiff, Nat.reduceAdd, Int.reduceEq, Int.reduceLT, Int.reduceLE, Int.reduceToNat, reduceIte, reduceCtorEq, Nat.reduceLeDiff, Nat.reduceLT, Nat.reduceMul, Nat.reduceSub, bv_len]
    refine ⟨fun h => ?_, fun h => ?_⟩
    · refine ⟨_, alive06, ?_⟩
      simp (maxSteps := 1000000) (disch := omega) only [rg, opX, opI, look, nth, setN, outO, binO, intO, strO, argsE, appd, cpyO, slcO, slsO, bndO, lo1, mnxO, bldO, bldV, splice, rd, fpS, lk, isNil, Nat.reduceBEq, Nat.reduceEqDiff, Nat.reduceAdd, Int.reduceEq, Int.reduceLT, Int.reduceLE, Int.reduceToNat, reduceIte, reduceCtorEq, Nat.reduceLeDiff, Nat.reduceLT, Nat.reduceMul, Nat.reduceSub]
      (refine fin_x rfl ?_ ?_ <;> simp [pack, lo, loL, V.closed, closedL, bv_closed, iv_closed, mv_closed])
    · refine ⟨_, alloc_free s1 s2 b n, ?_⟩
      have hF : freeA b n = (flA b n).length := by simp only [freeA, hr, if_true, flA_len]
      have hFl : (flA b n).length ≤ 300 := by rw [flA_len]; have := cfA_le b n n.length; omega
      rw [hF]
      simp (maxSteps := 1000000) (disch := omega) only [rg, opX, opI, look, nth, setN, outO, binO, intO, strO, argsE, appd, cpyO, slcO, slsO, bndO, lo1, mnxO, bldO, bldV, splice, rd, fpS, lk, isNil, Nat.reduceBEq, Nat.reduceEqDiff, Nat.reduceAdd, Int.reduceEq, Int.reduceLT, Int.reduceLE, Int.reduceToNat, reduceIte, reduceCtorEq, Nat.reduceLeDiff, Nat.reduceLT, Nat.reduceMul, Nat.reduceSub]
      have hin : ∀ k, ∀ i ∈ (flA b n).take k, i < n.length := fun k i hi => (flA_mem.1 (List.mem_of_mem_take hi)).1
      refine x_it (flA b n).length (fun i σ H => 2 ≤ H.n ∧ H.m 0 = some (.arr 2 [.agg [.fsl s1 1 (bv b), .fsl s2 1 (bv n)]]) ∧
        ∃ t1 t2 v, H.m 1 = some (.arr 2 [.agg [.fsl t1 1 (bv b), .fsl t2 1 (bv (mkA n ((flA b n).take i)))]]) ∧ σ = [(1, .int .i64 by'), (2, .ptr 0 0 0), (5, .ptr 1 0 0), (6, v), (28, .int .i64 (flA b n).length), (29, .int .i64 i)] ∧
        ((i = 0 ∧ v = .fsl .nil 1 []) ∨ ∃ id, 2 ≤ id ∧ id < H.n ∧ v = .sl id 0 i ∧ 0 < i ∧ H.m id = some (.arr 1 (iv ((qA b n).take i))))) ?_ ?_
      · exact ⟨Nat.le_refl 2, by simp [upd], s1, s2, .fsl .nil 1 [], by simp only [List.take_zero, mkA, List.foldl_nil, upd_eq, upd_ne], rfl, .inl ⟨rfl, rfl⟩⟩
      rintro T i σ ⟨r, m⟩ hi ⟨hr2, e0, t1, t2, v, e1, rfl, hv⟩ hN hX hR
      simp only at hr2 e0 e1 hv
      have hrm : rightA b (mkA n ((flA b n).take i)) = true := right_mk hr fun j hj => (flA_mem.1 (List.mem_of_mem_take hj)).2
      simp (maxSteps := 1000000) (disch := omega) only [rg, opX, opI, look, nth, setN, outO, binO, intO, strO, argsE, appd, cpyO, slcO, slsO, bndO, lo1, mnxO, bldO, bldV, splice, rd, fpS, lk, isNil, Nat.reduceBEq, Nat.reduceEqDiff, Nat.reduceAdd, Int.reduceEq, Int.reduceLT, Int.reduceLE, Int.reduceToNat, reduceIte, reduceCtorEq, Nat.reduceLeDiff, Nat.reduceLT, Nat.reduceMul, Nat.reduceSub]
      refine ⟨fun h => ?_, fun h => ?_⟩
      · have i1 : i < (flA b n).length := by omega
        have hf := first_mk i1
        have hmk : (mkA n ((flA b n).take i)).set (flA b n)[i] true = mkA n ((flA b n).take (i + 1)) := by rw [List.take_succ_eq_append_getElem i1, mkA_app]
        have hq : iv ((qA b n).take i) ++ [.int .i64 ((flA b n)[i] : Nat)] = iv ((qA b n).take (i + 1)) := by
          rw [List.take_succ_eq_append_getElem (by rw [qA_len]; exact i1), qA_get i1]; simp [iv]
        simp (maxSteps := 1000000) (disch := omega) only [rg, opX, opI, look, nth, setN, outO, binO, intO, strO, argsE, appd, cpyO, slcO, slsO, bndO, lo1, mnxO, bldO, bldV, splice, rd, fpS, lk, isNil, Nat.reduceBEq, Nat.reduceEqDiff, Nat.reduceAdd, Int.reduceEq, Int.reduceLT, Int.reduceLE, Int.reduceToNat, reduceIte, reduceCtorEq, Nat.reduceLeDiff, Nat.reduceLT, Nat.reduceMul, Nat.reduceSub, e1]
        refine ⟨_, alloc_take t1 t2 b (mkA n ((flA b n).take i)), ?_⟩
        simp (maxSteps := 1000000) (disch := omega) only [rg, opX, opI, look, nth, setN, outO, binO, intO, strO, argsE, appd, cpyO, slcO, slsO, bndO, lo1, mnxO, bldO, bldV, splice, rd, fpS, lk, isNil, Nat.reduceBEq, Nat.reduceEqDiff, Nat.reduceAdd, Int.reduceEq, Int.reduceLT, Int.reduceLE, Int.reduceToNat, reduceIte, reduceCtorEq, Nat.reduceLeDiff, Nat.reduceLT, Nat.reduceMul, Nat.reduceSub, takeV, hrm, hf, hmk, aV]
        rcases hv with ⟨rfl, rfl⟩ | ⟨id, hid, hidr, rfl, hi0, e2⟩
        · simp (maxSteps := 1000000) (disch := omega) only [rg, opX, opI, look, nth, setN, outO, binO, intO, strO, argsE, appd, cpyO, slcO, slsO, bndO, lo1, mnxO, bldO, bldV, splice, rd, fpS, lk, isNil, Nat.reduceBEq, Nat.reduceEqDiff, Nat.reduceAdd, Int.reduceEq, Int.reduceLT, Int.reduceLE, Int.reduceToNat, reduceIte, reduceCtorEq, Nat.reduceLeDiff, Nat.reduceLT, Nat.reduceMul, Nat.reduceSub, appO, Int.natCast_zero, e1]
          refine hN _ _ i1 ⟨by first | omega | (simp only []; omega), (by simp (disch := omega) only [upd_eq, upd_ne, wo_0, wo_1, wo_2, e0]), .loose, .loose, _, (by simp (disch := omega) only [upd_eq, upd_ne, wo_0, wo_1, wo_2]), rfl, .inr ⟨r + 1, by omega, by simp, rfl, by omega, ?_⟩⟩
          have : [V.int .i64 ((flA b n)[0] : Nat)] = iv ((qA b n).take (0 + 1)) := by rw [← hq]; simp [iv]
          rw [← this]; exact (by simp (disch := omega) only [upd_eq, upd_ne, wo_0, wo_1, wo_2])
        · have hgt : (flA b n)[i - 1] < (flA b n)[i] := flA_get_lt (by omega) i1
          have hl2 : (iv ((qA b n).take i)).length = i := by rw [iv_len]; simp [qA_len]; omega
          have ht2 : List.take i (iv ((qA b n).take i)) = iv ((qA b n).take i) := List.take_of_length_le (by omega)
          have hget : (iv ((qA b n).take i))[((i : Int) - 1).toNat]? = some (.int .i64 ((flA b n)[i - 1] : Nat)) := by
            rw [show ((i : Int) - 1).toNat = i - 1 by omega, iv_get (by simp [qA_len]; omega)]
            simp [qA_get (b := b) (n := n) (i := i - 1) (by omega)]
          simp (maxSteps := 1000000) (disch := omega) only [rg, opX, opI, look, nth, setN, outO, binO, intO, strO, argsE, appd, cpyO, slcO, slsO, bndO, lo1, mnxO, bldO, bldV, splice, rd, fpS, lk, isNil, Nat.reduceBEq, Nat.reduceEqDiff, Nat.reduceAdd, Int.reduceEq, Int.reduceLT, Int.reduceLE, Int.reduceToNat, reduceIte, reduceCtorEq, Nat.reduceLeDiff, Nat.reduceLT, Nat.reduceMul, Nat.reduceSub, e1, e2, appO, hget, hl2, ht2, hq, show (0 : Int) < i by omega]
          refine ⟨by omega, fun h2 => absurd h2 (by omega), fun h2 => ⟨by omega, ?_⟩⟩
          exact hN _ _ i1 ⟨by first | omega | (simp only []; omega), (by simp (disch := omega) only [upd_eq, upd_ne, wo_0, wo_1, wo_2, e0]), .loose, .loose, _, (by simp (disch := omega) only [upd_eq, upd_ne, wo_0, wo_1, wo_2]), rfl, .inr ⟨r + 1, by omega, by simp, rfl, by omega, (by simp (disch := omega) only [upd_eq, upd_ne, wo_0, wo_1, wo_2])⟩⟩
      · obtain rfl : i = (flA b n).length := by omega
        rw [List.take_length] at e1 hrm
        have ht : (qA b n).take (flA b n).length = qA b n := List.take_of_length_le (by rw [qA_len]; omega)
        rw [ht] at hv
        have hnone := firstA_none (first_all b n)
        have hf0 : ((freeA b (mkA n (flA b n)) : Nat) : Int) = 0 := by rw [freeA_none (first_all b n)]; rfl
        refine hX _ _ _ ?_
        simp (maxSteps := 1000000) (disch := omega) only [rg, opX, opI, look, nth, setN, outO, binO, intO, strO, argsE, appd, cpyO, slcO, slsO, bndO, lo1, mnxO, bldO, bldV, splice, rd, fpS, lk, isNil, Nat.reduceBEq, Nat.reduceEqDiff, Nat.reduceAdd, Int.reduceEq, Int.reduceLT, Int.reduceLE, Int.reduceToNat, reduceIte, reduceCtorEq, Nat.reduceLeDiff, Nat.reduceLT, Nat.reduceMul, Nat.reduceSub]
        rcases hv with ⟨hz, rfl⟩ | ⟨id, hid, hidr, rfl, hi0, e2⟩
        · have hfl : flA b n = [] := List.eq_nil_of_length_eq_zero hz
          refine x_frz0 ?_
          simp (maxSteps := 1000000) (disch := omega) only [rg, opX, opI, look, nth, setN, outO, binO, intO, strO, argsE, appd, cpyO, slcO, slsO, bndO, lo1, mnxO, bldO, bldV, splice, rd, fpS, lk, isNil, Nat.reduceBEq, Nat.reduceEqDiff, Nat.reduceAdd, Int.reduceEq, Int.reduceLT, Int.reduceLE, Int.reduceToNat, reduceIte, reduceCtorEq, Nat.reduceLeDiff, Nat.reduceLT, Nat.reduceMul, Nat.reduceSub, e1]
          refine ⟨_, alloc_take t1 t2 b (mkA n (flA b n)), ?_⟩
          simp (maxSteps := 1000000) (disch := omega) only [rg, opX, opI, look, nth, setN, outO, binO, intO, strO, argsE, appd, cpyO, slcO, slsO, bndO, lo1, mnxO, bldO, bldV, splice, rd, fpS, lk, isNil, Nat.reduceBEq, Nat.reduceEqDiff, Nat.reduceAdd, Int.reduceEq, Int.reduceLT, Int.reduceLE, Int.reduceToNat, reduceIte, reduceCtorEq, Nat.reduceLeDiff, Nat.reduceLT, Nat.reduceMul, Nat.reduceSub, takeV, hrm, hnone, aV, e1]
          refine ⟨_, alloc_free t1 t2 b (mkA n (flA b n)), ?_⟩
          simp (maxSteps := 1000000) (disch := omega) only [rg, opX, opI, look, nth, setN, outO, binO, intO, strO, argsE, appd, cpyO, slcO, slsO, bndO, lo1, mnxO, bldO, bldV, splice, rd, fpS, lk, isNil, Nat.reduceBEq, Nat.reduceEqDiff, Nat.reduceAdd, Int.reduceEq, Int.reduceLT, Int.reduceLE, Int.reduceToNat, reduceIte, reduceCtorEq, Nat.reduceLeDiff, Nat.reduceLT, Nat.reduceMul, Nat.reduceSub, hf0, e1, Int.natCast_zero]
          refine x_frz0 ?_
          simp (maxSteps := 1000000) (disch := omega) only [rg, opX, opI, look, nth, setN, outO, binO, intO, strO, argsE, appd, cpyO, slcO, slsO, bndO, lo1, mnxO, bldO, bldV, splice, rd, fpS, lk, isNil, Nat.reduceBEq, Nat.reduceEqDiff, Nat.reduceAdd, Int.reduceEq, Int.reduceLT, Int.reduceLE, Int.reduceToNat, reduceIte, reduceCtorEq, Nat.reduceLeDiff, Nat.reduceLT, Nat.reduceMul, Nat.reduceSub, e1]
          refine ⟨_, alloc_give t1 t2 .nil b (mkA n (flA b n)) [] (by simp), ?_⟩
          simp (maxSteps := 1000000) (disch := omega) only [rg, opX, opI, look, nth, setN, outO, binO, intO, strO, argsE, appd, cpyO, slcO, slsO, bndO, lo1, mnxO, bldO, bldV, splice, rd, fpS, lk, isNil, Nat.reduceBEq, Nat.reduceEqDiff, Nat.reduceAdd, Int.reduceEq, Int.reduceLT, Int.reduceLE, Int.reduceToNat, reduceIte, reduceCtorEq, Nat.reduceLeDiff, Nat.reduceLT, Nat.reduceMul, Nat.reduceSub, giveV, hrm, giveL, List.foldl_nil, aV, e0]
          refine ⟨_, alive06, ?_⟩
          simp (maxSteps := 1000000) (disch := omega) only [rg, opX, opI, look, nth, setN, outO, binO, intO, strO, argsE, appd, cpyO, slcO, slsO, bndO, lo1, mnxO, bldO, bldV, splice, rd, fpS, lk, isNil, Nat.reduceBEq, Nat.reduceEqDiff, Nat.reduceAdd, Int.reduceEq, Int.reduceLT, Int.reduceLE, Int.reduceToNat, reduceIte, reduceCtorEq, Nat.reduceLeDiff, Nat.reduceLT, Nat.reduceMul, Nat.reduceSub, e0]
          refine ⟨_, ref_like .loose .loose s1 s2 b (mkA n (flA b n)) b n (by omega) (by rw [mkA_len]; omega), ?_⟩
          have : mkA n (flA b n) = n := by rw [hfl]; rfl
          simp (maxSteps := 1000000) (disch := omega) only [rg, opX, opI, look, nth, setN, outO, binO, intO, strO, argsE, appd, cpyO, slcO, slsO, bndO, lo1, mnxO, bldO, bldV, splice, rd, fpS, lk, isNil, Nat.reduceBEq, Nat.reduceEqDiff, Nat.reduceAdd, Int.reduceEq, Int.reduceLT, Int.reduceLE, Int.reduceToNat, reduceIte, reduceCtorEq, Nat.reduceLeDiff, Nat.reduceLT, Nat.reduceMul, Nat.reduceSub, this]
          (refine fin_x rfl ?_ ?_ <;> simp [pack, lo, loL, V.closed, closedL, bv_closed, iv_closed, mv_closed])
        · refine x_frz [id] ?_; simp only [vr, frz_p]; rw [frz_row (id := id) (sz := 1) (l := iv (qA b n)) (by first | assumption | (simp [upd]; done) | (simp [upd, *]; done)) (by simp) (by first | rfl | (simp [bv_len, mv_len, iv_len, qA_len] <;> omega)) (by simp [bv_closed, iv_closed, mv_closed, V.closed])]
          simp (maxSteps := 1000000) (disch := omega) only [rg, opX, opI, look, nth, setN, outO, binO, intO, strO, argsE, appd, cpyO, slcO, slsO, bndO, lo1, mnxO, bldO, bldV, splice, rd, fpS, lk, isNil, Nat.reduceBEq, Nat.reduceEqDiff, Nat.reduceAdd, Int.reduceEq, Int.reduceLT, Int.reduceLE, Int.reduceToNat, reduceIte, reduceCtorEq, Nat.reduceLeDiff, Nat.reduceLT, Nat.reduceMul, Nat.reduceSub, e1]
          refine ⟨_, alloc_take t1 t2 b (mkA n (flA b n)), ?_⟩
          simp (maxSteps := 1000000) (disch := omega) only [rg, opX, opI, look, nth, setN, outO, binO, intO, strO, argsE, appd, cpyO, slcO, slsO, bndO, lo1, mnxO, bldO, bldV, splice, rd, fpS, lk, isNil, Nat.reduceBEq, Nat.reduceEqDiff, Nat.reduceAdd, Int.reduceEq, Int.reduceLT, Int.reduceLE, Int.reduceToNat, reduceIte, reduceCtorEq, Nat.reduceLeDiff, Nat.reduceLT, Nat.reduceMul, Nat.reduceSub, takeV, hrm, hnone, aV, e1]
          refine ⟨_, alloc_free t1 t2 b (mkA n (flA b n)), ?_⟩
          have hpos : (0 : Int) < (flA b n).length := by omega
          have t1 := Int.tmod_lt_of_pos by' hpos
          have t2 := Int.lt_tmod_of_pos by' hpos
          simp (maxSteps := 1000000) (disch := omega) only [rg, opX, opI, look, nth, setN, outO, binO, intO, strO, argsE, appd, cpyO, slcO, slsO, bndO, lo1, mnxO, bldO, bldV, splice, rd, fpS, lk, isNil, Nat.reduceBEq, Nat.reduceEqDiff, Nat.reduceAdd, Int.reduceEq, Int.reduceLT, Int.reduceLE, Int.reduceToNat, reduceIte, reduceCtorEq, Nat.reduceLeDiff, Nat.reduceLT, Nat.reduceMul, Nat.reduceSub, hf0, iv_len, qA_len, e1, hpos]
          have h0 : 0 ≤ (by'.tmod ((flA b n).length : Int) + (flA b n).length) % ((flA b n).length : Int) := Int.emod_nonneg _ (by omega)
          have h1 : (by'.tmod ((flA b n).length : Int) + (flA b n).length) % ((flA b n).length : Int) < (flA b n).length := Int.emod_lt_of_pos _ hpos
          obtain ⟨j, hj⟩ : ∃ j : Nat, (by'.tmod ((flA b n).length : Int) + (flA b n).length) % ((flA b n).length : Int) = j := ⟨_, (Int.toNat_of_nonneg h0).symm⟩
          rw [hj] at h0 h1
          have ht3 : List.take (flA b n).length (iv (qA b n)) = iv (qA b n) := List.take_of_length_le (by rw [iv_len, qA_len]; omega)
          simp (maxSteps := 1000000) (disch := omega) only [rg, opX, opI, look, nth, setN, outO, binO, intO, strO, argsE, appd, cpyO, slcO, slsO, bndO, lo1, mnxO, bldO, bldV, splice, rd, fpS, lk, isNil, Nat.reduceBEq, Nat.reduceEqDiff, Nat.reduceAdd, Int.reduceEq, Int.reduceLT, Int.reduceLE, Int.reduceToNat, reduceIte, reduceCtorEq, Nat.reduceLeDiff, Nat.reduceLT, Nat.reduceMul, Nat.reduceSub, hj, ht3]
          obtain ⟨x, xs, hx⟩ : ∃ x xs, List.drop j (iv (qA b n)) = x :: xs := by
            cases hd : List.drop j (iv (qA b n)) with
            | nil => have := congrArg List.length hd; simp [iv_len, qA_len] at this; omega
            | cons x xs => exact ⟨x, xs, rfl⟩
          rw [hx]
          have hxl : xs.length + 1 = (flA b n).length - j := by have := congrArg List.length hx; simp [iv_len, qA_len] at this; omega
          have htj : (List.take j (iv (qA b n))).length = j := by simp [iv_len, qA_len]; omega
          have hc : x :: (xs ++ List.take j (iv (qA b n))) = iv (((flA b n).drop j ++ (flA b n).take j).map fun (i : Nat) => (i : Int)) := by
            rw [← List.cons_append, ← hx]; simp [iv, qA]
          have htx : List.take xs.length xs = xs := List.take_of_length_le (Nat.le_refl _)
          simp (maxSteps := 1000000) (disch := omega) only [rg, opX, opI, look, nth, setN, outO, binO, intO, strO, argsE, appd, cpyO, slcO, slsO, bndO, lo1, mnxO, bldO, bldV, splice, rd, fpS, lk, isNil, Nat.reduceBEq, Nat.reduceEqDiff, Nat.reduceAdd, Int.reduceEq, Int.reduceLT, Int.reduceLE, Int.reduceToNat, reduceIte, reduceCtorEq, Nat.reduceLeDiff, Nat.reduceLT, Nat.reduceMul, Nat.reduceSub, appO, ht3, htj, htx, hc, iv_len, qA_len]
          refine ⟨by omega, by omega, by omega, by omega, by omega, by simp [compat, disj, nthL], by omega, by simp [compat, disj, nthL], ?_⟩
          refine x_frz [r + 2] ?_; simp only [vr, frz_p]; rw [frz_row (id := r + 2) (sz := 1) (l := iv (((flA b n).drop j ++ (flA b n).take j).map fun (i : Nat) => (i : Int))) (by first | assumption | (simp [upd]; done) | (simp [upd, *]; done)) (by simp) (by first | rfl | (simp [bv_len, mv_len, iv_len, List.length_append, List.length_drop, List.length_take, List.length_map] <;> omega)) (by simp [bv_closed, iv_closed, mv_closed, V.closed])]
          simp (maxSteps := 1000000) (disch := omega) only [rg, opX, opI, look, nth, setN, outO, binO, intO, strO, argsE, appd, cpyO, slcO, slsO, bndO, lo1, mnxO, bldO, bldV, splice, rd, fpS, lk, isNil, Nat.reduceBEq, Nat.reduceEqDiff, Nat.reduceAdd, Int.reduceEq, Int.reduceLT, Int.reduceLE, Int.reduceToNat, reduceIte, reduceCtorEq, Nat.reduceLeDiff, Nat.reduceLT, Nat.reduceMul, Nat.reduceSub, e1]
          refine ⟨_, alloc_give _ _ .loose b (mkA n (flA b n)) _ (by simp; omega), ?_⟩
          have hg : giveL (mkA n (flA b n)) (((flA b n).drop j ++ (flA b n).take j).map fun (i : Nat) => (i : Int)) = some n := by
            refine give_perm _ (flA b n) ?_ ?_ fun i hi => ?_
            · exact List.perm_append_comm.trans (by rw [List.take_append_drop])
            · exact (flA_lt b n).imp fun h => Nat.ne_of_lt h
            · obtain ⟨k1, k2⟩ := flA_mem.1 hi
              refine ⟨k1, rightA_ten hr k2, ?_⟩
              simp only [frA, Bool.and_eq_true] at k2; simpa using k2.1
          simp (maxSteps := 1000000) (disch := omega) only [rg, opX, opI, look, nth, setN, outO, binO, intO, strO, argsE, appd, cpyO, slcO, slsO, bndO, lo1, mnxO, bldO, bldV, splice, rd, fpS, lk, isNil, Nat.reduceBEq, Nat.reduceEqDiff, Nat.reduceAdd, Int.reduceEq, Int.reduceLT, Int.reduceLE, Int.reduceToNat, reduceIte, reduceCtorEq, Nat.reduceLeDiff, Nat.reduceLT, Nat.reduceMul, Nat.reduceSub, giveV, hrm, hg, aV, e0]
          refine ⟨_, alive06, ?_⟩
          simp (maxSteps := 1000000) (disch := omega) only [rg, opX, opI, look, nth, setN, outO, binO, intO, strO, argsE, appd, cpyO, slcO, slsO, bndO, lo1, mnxO, bldO, bldV, splice, rd, fpS, lk, isNil, Nat.reduceBEq, Nat.reduceEqDiff, Nat.reduceAdd, Int.reduceEq, Int.reduceLT, Int.reduceLE, Int.reduceToNat, reduceIte, reduceCtorEq, Nat.reduceLeDiff, Nat.reduceLT, Nat.reduceMul, Nat.reduceSub, e0]
          refine ⟨_, ref_like .loose .loose s1 s2 b n b n (by omega) (by omega), ?_⟩
          simp (maxSteps := 1000000) (disch := omega) only [rg, opX, opI, look, nth, setN, outO, binO, intO, strO, argsE, appd, cpyO, slcO, slsO, bndO, lo1, mnxO, bldO, bldV, splice, rd, fpS, lk, isNil, Nat.reduceBEq, Nat.reduceEqDiff, Nat.reduceAdd, Int.reduceEq, Int.reduceLT, Int.reduceLE, Int.reduceToNat, reduceIte, reduceCtorEq, Nat.reduceLeDiff, Nat.reduceLT, Nat.reduceMul, Nat.reduceSub]
          (refine fin_x rfl ?_ ?_ <;> simp [pack, lo, loL, V.closed, closedL, bv_closed, iv_closed, mv_closed])

end Go.Proofs.Ytickdhdlljhomaa.Ev
end
