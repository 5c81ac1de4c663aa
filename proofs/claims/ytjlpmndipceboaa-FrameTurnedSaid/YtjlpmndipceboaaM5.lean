/-
  Part 5 of what the proof of the statement FrameTurned leans on: the evaluator, the functions in compact form, and what they answer.
-/
import Derived.Test.YtjlpmndipceboaaM4
section
set_option linter.unusedSimpArgs false
set_option linter.unusedVariables false
set_option maxRecDepth 10000
namespace Go.Proofs.Ytjlpmndipceboaa.Ev
open Go

/-! What was written is read again. -/
theorem beN_app (l : Str) (c : UInt8) : beN (l ++ [c]) = beN l * 256 + c.toNat := beN_snoc l c
theorem beN_beS : ∀ (k n : Nat), n < 256 ^ k → beN (beS k n) = n
  | 0, n, h => by simp at h; subst h; rfl
  | k + 1, n, h => by
    rw [beS, beN_snoc, beN_beS k (n / 256) (by rw [Nat.pow_succ] at h; omega)]
    have : (UInt8.ofNat (n % 256)).toNat = n % 256 := by simp
    rw [this]; omega
theorem beS_beN : ∀ (k : Nat) (l : Str), l.length = k → beS k (beN l) = l
  | 0, l, h => by rw [List.eq_nil_of_length_eq_zero h]; rfl
  | k + 1, l, h => by
    obtain ⟨m, c, rfl⟩ : ∃ m c, l = m ++ [c] := ⟨l.dropLast, l.getLast (by intro e; subst e; simp at h), (List.dropLast_concat_getLast _).symm⟩
    have hc := c.toNat_lt
    rw [beN_snoc, beS, show (beN m * 256 + c.toNat) / 256 = beN m by omega, show (beN m * 256 + c.toNat) % 256 = c.toNat by omega, beS_beN k m (by simpa using h)]
    simp
/-- Reading a number gives the bytes that stand there. -/
theorem getS_ok {s : Str} {a k : Int} (h : (getS s a k).2.2 = 0) : 1 ≤ k ∧ k ≤ 6 ∧ 0 ≤ a ∧ a + k ≤ s.length ∧ (getS s a k).2.1 = a + k ∧ putS (getS s a k).1 k = ((s.drop a.toNat).take k.toNat, 0) ∧ 0 ≤ (getS s a k).1 := by
  rcases getS_cases s a k with (e | e) | ⟨h1, h2, h3, h4, e⟩
  · rw [e] at h; simp at h
  · rw [e] at h; simp at h
  · have hl : ((s.drop a.toNat).take k.toNat).length = k.toNat := by simp; omega
    have hlt := beN_lt ((s.drop a.toNat).take k.toNat)
    rw [hl] at hlt
    refine ⟨h1, h2, h3, h4, by rw [e], ?_, by rw [e]; simp⟩
    rw [e]
    rw [putS_in ⟨h1, h2, by simp, by simp only; exact_mod_cast hlt⟩]
    simp only [Int.toNat_natCast]
    rw [beS_beN _ _ hl]
/-- Bytes that were put are read again. -/
theorem getS_put {s pre post : Str} {n k : Int} (hs : s = pre ++ (putS n k).1 ++ post) (hp : (putS n k).2 = 0) : getS s pre.length k = (n, pre.length + k, 0) := by
  obtain ⟨h1, h2, h3, h4⟩ := putS_ok.1 hp
  have e := putS_in ⟨h1, h2, h3, h4⟩
  rw [e] at hs
  simp only at hs
  have hbl := beS_len k.toNat n.toNat
  have hsl : s.length = pre.length + k.toNat + post.length := by rw [hs, List.length_append, List.length_append, hbl]
  have hd : (s.drop (pre.length : Int).toNat).take k.toNat = beS k.toNat n.toNat := by
    rw [hs, Int.toNat_natCast, List.append_assoc, List.drop_left, List.take_append_of_le_length (by rw [hbl]; exact Nat.le_refl _), List.take_of_length_le (by rw [hbl]; exact Nat.le_refl _)]
  unfold getS
  rw [if_neg (by omega), if_neg (by omega), hd, beN_beS _ _ (by
    have : ((n.toNat : Nat) : Int) < ((256 ^ k.toNat : Nat) : Int) := by push_cast; omega
    exact_mod_cast this)]
  simp; omega

theorem cutS_ok {s : Str} {a : Int} (h : (cutS s a).2.2 = 0) : 0 ≤ a ∧ a + 2 + (cutS s a).1.length ≤ s.length ∧ (cutS s a).2.1 = a + 2 + (cutS s a).1.length ∧ (cutS s a).1.length ≤ 65535 ∧
    (textS (cutS s a).1).1 = (s.drop a.toNat).take (2 + (cutS s a).1.length) := by
  unfold cutS at h ⊢
  simp only at h ⊢
  by_cases c : (getS s a 2).2.2 = 0
  case neg => rw [if_pos c] at h; exact absurd h c
  rw [if_neg (by simpa using c)] at h ⊢
  obtain ⟨h1, h2, h3, h4, h5, h6, h7⟩ := getS_ok c
  by_cases c2 : (s.length : Int) - (getS s a 2).2.1 < (getS s a 2).1
  · rw [if_pos c2] at h; simp at h
  rw [if_neg c2]
  have hlt : (getS s a 2).1 < 65536 := by
    have := (putS_ok (n := (getS s a 2).1) (k := 2)).1 (by rw [h6])
    exact this.2.2.2
  generalize hn : (getS s a 2).1 = n at *
  obtain ⟨N, rfl⟩ : ∃ N : Nat, n = N := ⟨n.toNat, by omega⟩
  obtain ⟨A, rfl⟩ : ∃ A : Nat, a = A := ⟨a.toNat, by omega⟩
  rw [h5] at c2 ⊢
  have e1 : ((A : Int) + 2).toNat = A + 2 := by omega
  simp only [e1, Int.toNat_natCast]
  have hl : ((s.drop (A + 2)).take N).length = N := by simp; omega
  refine ⟨by omega, by rw [hl]; omega, by rw [hl], by rw [hl]; omega, ?_⟩
  rw [textS_in (by rw [hl]; omega), hl]
  have e2 : beS 2 N = (s.drop A).take 2 := by
    have := putS_in (n := (N : Int)) (k := 2) ⟨by omega, by omega, by omega, by exact hlt⟩
    rw [h6] at this
    simpa using this.symm
  rw [e2, Nat.add_comm A 2, List.take_add, List.drop_drop, Nat.add_comm 2 A]
theorem cutS_put {s pre post t : Str} (hs : s = pre ++ (textS t).1 ++ post) (ht : t.length ≤ 65535) : cutS s pre.length = (t, (pre.length : Int) + 2 + t.length, 0) := by
  rw [textS_in ht] at hs
  simp only at hs
  have hbl := beS_len 2 t.length
  have hp : putS (t.length : Int) 2 = (beS 2 t.length, 0) := by
    rw [putS_in ⟨by omega, by omega, by omega, by show (t.length : Int) < 65536; omega⟩]; simp
  have hg := getS_put (s := s) (pre := pre) (post := t ++ post) (n := t.length) (k := 2) (by rw [hp, hs]; simp) (by rw [hp])
  have hsl : s.length = pre.length + (2 + t.length) + post.length := by rw [hs, List.length_append, List.length_append, List.length_append, hbl]
  unfold cutS
  simp only [hg]
  rw [if_neg (by simp), if_neg (by omega)]
  have e1 : ((pre.length : Int) + 2).toNat = (pre ++ beS 2 t.length).length := by rw [List.length_append, hbl]; omega
  have e3 : s = (pre ++ beS 2 t.length) ++ (t ++ post) := by rw [hs]; simp
  rw [e1, e3, List.drop_left]
  simp

end Go.Proofs.Ytjlpmndipceboaa.Ev
end
section
set_option linter.unusedSimpArgs false
set_option linter.unusedVariables false
set_option maxRecDepth 10000
namespace Go.Proofs.Ytjlpmndipceboaa.Ev
open Go

theorem take_grow {s w : Str} {a k : Nat} (h : w = (s.drop a).take k) : s.take a ++ w = s.take (a + k) := by rw [h, List.take_add]
theorem next_ok {s : Str} {r : Int × Int} {k : Int} (h : (nextS s r k).2.2 = 0) : r.2 = 0 ∧ (s.take r.1.toNat ++ (putS (nextS s r k).1 k).1 = s.take (nextS s r k).2.1.toNat) ∧ (putS (nextS s r k).1 k).2 = 0 ∧ (nextS s r k).2.1 = r.1 + k ∧ (nextS s r k).2.1 ≤ s.length := by
  unfold nextS at h ⊢
  by_cases c : r.2 = 0
  · rw [if_pos c] at h ⊢
    obtain ⟨h1, h2, h3, h4, h5, h6, h7⟩ := getS_ok h
    rw [h6]
    refine ⟨c, ?_, rfl, h5, by rw [h5]; omega⟩
    rw [take_grow (k := k.toNat) rfl, h5]
    congr 1; omega
  · rw [if_neg c] at h; exact absurd h c
theorem txt_ok {s : Str} {r : Int × Int} (h : (txtS s r).2.2 = 0) : r.2 = 0 ∧ (s.take r.1.toNat ++ (textS (txtS s r).1).1 = s.take (txtS s r).2.1.toNat) ∧ (txtS s r).1.length ≤ 65535 ∧ (txtS s r).2.1 = r.1 + 2 + (txtS s r).1.length ∧ (txtS s r).2.1 ≤ s.length := by
  unfold txtS at h ⊢
  by_cases c : r.2 = 0
  · rw [if_pos c] at h ⊢
    obtain ⟨h1, h2, h3, h4, h5⟩ := cutS_ok h
    refine ⟨c, ?_, h4, h3, by rw [h3]; omega⟩
    rw [take_grow h5, h3]
    congr 1; omega
  · rw [if_neg c] at h; exact absurd h c
theorem next_put {s pre post : Str} {n k : Int} (hs : s = (pre ++ (putS n k).1) ++ post) (hp : (putS n k).2 = 0) : nextS s (pre.length, 0) k = (n, ((pre ++ (putS n k).1).length : Int), 0) := by
  have h := getS_put hs hp
  have hk := putS_ok.1 hp
  have e := putS_in hk
  unfold nextS; rw [if_pos rfl]; simp only; rw [h]
  simp only [e, List.length_append, beS_len]
  simp; omega
theorem txt_put {s pre post t : Str} (hs : s = (pre ++ (textS t).1) ++ post) (ht : t.length ≤ 65535) : txtS s (pre.length, 0) = (t, ((pre ++ (textS t).1).length : Int), 0) := by
  have h := cutS_put hs ht
  have e := textS_in ht
  unfold txtS; rw [if_pos rfl]; simp only; rw [h]
  simp only [e, List.length_append, beS_len]
  simp; omega

theorem stGet_back {s : Str} (h : (stGetS s).2 = 0) : stPutS (stGetS s).1 = (s, 0) := by
  have hst := stGet_ok h
  have hz : (stRead s).2.2 = 0 ∧ (stRead s).2.1 = s.length ∧ (stGetS s).1 = (stRead s).1 := by
    unfold stGetS at h ⊢
    split
    · rename_i h1
      rw [if_pos h1] at h
      split
      · rename_i h2; exact ⟨h1, h2.1, rfl⟩
      · rename_i h2; rw [if_neg h2] at h; simp at h
    · rename_i h1
      rw [if_neg h1] at h; exact absurd h h1
  obtain ⟨z1, z2, z3⟩ := hz
  rw [z3] at hst ⊢
  rw [stPutS, if_pos hst]
  simp only [stRead] at z1 z2 ⊢
  obtain ⟨d0, d1, d2, d3, d4⟩ := txt_ok z1
  obtain ⟨c0, c1, c2, c3, c4⟩ := next_ok d0
  obtain ⟨b0, b1, b2, b3, b4⟩ := next_ok c0
  obtain ⟨a0, a1, a2, a3, a4⟩ := next_ok b0
  obtain ⟨_, o1, o2, o3, o4⟩ := next_ok a0
  simp only [stBytes, Int.toNat_zero, List.take_zero, List.nil_append] at *
  rw [z2, Int.toNat_natCast, List.take_length] at d1
  congr 1
  rw [o1, a1, b1, c1, d1]
theorem stPut_back {st : Stt} (h : standsS st = true) : stGetS (stBytes st) = (st, 0) := by
  have hn : stNumS st = true := by simp only [standsS, Bool.and_eq_true] at h; exact h.1
  have hl := stands_len h
  simp only [standsS, stNumS, Bool.and_eq_true, decide_eq_true_eq] at h
  obtain ⟨⟨h1, h2, h3, h4, h5, h6⟩, h7, h8, _⟩ := h
  have p1 : (putS st.is 1).2 = 0 := putS_ok.2 ⟨by omega, by omega, by omega, by show st.is < 256; omega⟩
  have p2 : (putS st.tried 1).2 = 0 := putS_ok.2 ⟨by omega, by omega, by omega, by show st.tried < 256; omega⟩
  have p3 : (putS st.due 6).2 = 0 := putS_ok.2 ⟨by omega, by omega, by omega, by show st.due < 281474976710656; omega⟩
  have p4 : (putS st.token 6).2 = 0 := putS_ok.2 ⟨by omega, by omega, by omega, by show st.token < 281474976710656; omega⟩
  generalize hs : stBytes st = s
  have hs' := hs
  unfold stBytes at hs'
  have q1 := next_put (s := s) (pre := []) (post := (putS st.tried 1).1 ++ ((putS st.due 6).1 ++ ((putS st.token 6).1 ++ (textS st.result).1))) (by rw [← hs']; simp) p1
  have q2 := next_put (s := s) (pre := [] ++ (putS st.is 1).1) (post := (putS st.due 6).1 ++ ((putS st.token 6).1 ++ (textS st.result).1)) (by rw [← hs']; simp) p2
  have q3 := next_put (s := s) (pre := ([] ++ (putS st.is 1).1) ++ (putS st.tried 1).1) (post := (putS st.token 6).1 ++ (textS st.result).1) (by rw [← hs']; simp) p3
  have q4 := next_put (s := s) (pre := (([] ++ (putS st.is 1).1) ++ (putS st.tried 1).1) ++ (putS st.due 6).1) (post := (textS st.result).1) (by rw [← hs']; simp) p4
  have q5 := txt_put (s := s) (pre := ((([] ++ (putS st.is 1).1) ++ (putS st.tried 1).1) ++ (putS st.due 6).1) ++ (putS st.token 6).1) (post := []) (t := st.result) (by rw [← hs']; simp) (by omega)
  have hr : stRead s = (st, (s.length : Int), 0) := by
    simp only [stRead]
    simp only [List.length_nil, Int.natCast_zero] at q1
    simp only [q1, q2, q3, q4, q5]
    simp [← hs']
  have hst : standsS st = true := by simp only [standsS, stNumS, Bool.and_eq_true, decide_eq_true_eq]; exact ⟨⟨h1, h2, h3, h4, h5, h6⟩, h7, h8, by assumption⟩
  simp [stGetS, hr, hst]

end Go.Proofs.Ytjlpmndipceboaa.Ev
end
section
set_option linter.unusedSimpArgs false
set_option linter.unusedVariables false
set_option maxRecDepth 10000
namespace Go.Proofs.Ytjlpmndipceboaa.Ev
open Go

theorem num_ok {s : Str} {r : Int × Bool} {k : Int} (h : (numF s r k).2.2 = false) : r.2 = false ∧ (s.take r.1.toNat ++ (putS (numF s r k).1 k).1 = s.take (numF s r k).2.1.toNat) ∧ (putS (numF s r k).1 k).2 = 0 := by
  unfold numF at h ⊢
  by_cases c : r.2 = false
  · rw [if_pos c] at h ⊢
    simp only [Bool.not_eq_false', decide_eq_true_eq] at h
    have e : nextS s (r.1, 0) k = getS s r.1 k := by simp [nextS]
    have := next_ok (s := s) (r := (r.1, 0)) (k := k) (by rw [e]; exact h)
    rw [e] at this
    exact ⟨c, this.2.1, this.2.2.1⟩
  · rw [if_neg c] at h; exact absurd h c
theorem txtF_ok {s : Str} {r : Int × Bool} (h : (txtF s r).2.2 = false) : r.2 = false ∧ (s.take r.1.toNat ++ (textS (txtF s r).1).1 = s.take (txtF s r).2.1.toNat) ∧ (txtF s r).1.length ≤ 255 := by
  unfold txtF at h ⊢
  by_cases c : r.2 = false
  · rw [if_pos c] at h ⊢
    simp only [Bool.or_eq_false_iff, Bool.not_eq_false', decide_eq_true_eq, decide_eq_false_iff_not] at h
    have e : txtS s (r.1, 0) = cutS s r.1 := by simp [txtS]
    have := txt_ok (s := s) (r := (r.1, 0)) (by rw [e]; exact h.1)
    rw [e] at this
    exact ⟨c, this.2.1, by simp only; omega⟩
  · rw [if_neg c] at h; exact absurd h c
theorem num_put {s pre post : Str} {n k : Int} (hs : s = (pre ++ (putS n k).1) ++ post) (hp : (putS n k).2 = 0) : numF s (pre.length, false) k = (n, ((pre ++ (putS n k).1).length : Int), false) := by
  have h := next_put hs hp
  have e : nextS s (pre.length, 0) k = getS s pre.length k := by simp [nextS]
  rw [e] at h
  simp [numF, h]
theorem txtF_put {s pre post t : Str} (hs : s = (pre ++ (textS t).1) ++ post) (ht : t.length ≤ 255) : txtF s (pre.length, false) = (t, ((pre ++ (textS t).1).length : Int), false) := by
  have h := txt_put hs (by omega)
  have e : txtS s (pre.length, 0) = cutS s pre.length := by simp [txtS]
  rw [e] at h
  simp [txtF, h]; omega

theorem fSts_ok {p : Str} : ∀ {k : Nat} {r : Int × Bool}, (fSts p k r).2.2 = false → r.2 = false ∧ (fSts p k r).1.length = k ∧ (fSts p k r).1.all standsS = true ∧ p.take r.1.toNat ++ stsB (fSts p k r).1 = p.take (fSts p k r).2.1.toNat
  | 0, r, h => by simp only [fSts] at h ⊢; exact ⟨h, rfl, rfl, by simp [stsB]⟩
  | k + 1, r, h => by
    rw [fSts] at h ⊢
    by_cases c : r.2 = true
    · rw [if_pos c] at h; rw [c] at h; cases h
    rw [if_neg c] at h ⊢
    simp only at h ⊢
    obtain ⟨h1, h2, h3, h4⟩ := fSts_ok h
    simp only [Bool.or_eq_false_iff, Bool.not_eq_false', decide_eq_true_eq] at h1
    obtain ⟨t1, t2, t3⟩ := txtF_ok h1.1
    have hb := stGet_back h1.2
    have hst := stGet_ok h1.2
    have hby : stBytes (stGetS (txtF p r).1).1 = (txtF p r).1 := by rw [stPutS, if_pos hst] at hb; exact congrArg Prod.fst hb
    refine ⟨t1, by simp [h2], by simp [hst, h3], ?_⟩
    rw [← h4]
    have e : stsB ((stGetS (txtF p r).1).1 :: (fSts p k ((txtF p r).2.1, (txtF p r).2.2 || !decide ((stGetS (txtF p r).1).2 = 0))).1) = (textS (txtF p r).1).1 ++ stsB (fSts p k ((txtF p r).2.1, (txtF p r).2.2 || !decide ((stGetS (txtF p r).1).2 = 0))).1 := by
      show (textS (stBytes _)).1 ++ _ = _
      rw [hby]; rfl
    rw [e, ← List.append_assoc, t2]
theorem sts_put {p : Str} : ∀ {l : List Stt} {pre post : Str}, l.all standsS = true → p = (pre ++ stsB l) ++ post → fSts p l.length (pre.length, false) = (l, ((pre ++ stsB l).length : Int), false) ∧ refSts p l.length (pre.length, 0) = some l
  | [], pre, post, _, _ => by simp [fSts, refSts, stsB]
  | s :: l, pre, post, h, hp => by
    simp only [List.all_cons, Bool.and_eq_true] at h
    have e : stsB (s :: l) = (textS (stBytes s)).1 ++ stsB l := rfl
    have hl := stands_len h.1
    have hbl := stBytes_len s
    have q1 := txtF_put (s := p) (pre := pre) (post := stsB l ++ post) (t := stBytes s) (by rw [hp, e]; simp) (by omega)
    have q2 := txt_put (s := p) (pre := pre) (post := stsB l ++ post) (t := stBytes s) (by rw [hp, e]; simp) (by omega)
    have q3 := stPut_back h.1
    obtain ⟨i1, i2⟩ := sts_put (p := p) (l := l) (pre := pre ++ (textS (stBytes s)).1) (post := post) h.2 (by rw [hp, e]; simp)
    constructor
    · rw [List.length_cons, fSts, if_neg (by simp)]
      simp only [q1, q3, decide_true, Bool.not_true, Bool.or_false, i1]
      rw [e, List.append_assoc]
    · rw [List.length_cons, refSts]
      simp only [q2, q3, if_true, i2]
      rfl

theorem open_seal (p : Str) : openS (sealS p) = (p, 0) := by
  have hl : (sealS p).length = p.length + 4 := by simp [sealS, le4]
  have ht : (sealS p).take ((sealS p).length - 4) = p := by rw [hl, Nat.add_sub_cancel, sealS, List.take_left]
  unfold openS
  rw [if_neg (by omega), ht, if_neg (by simp)]
theorem seal_open {s : Str} (h : (openS s).2 = 0) : sealS (openS s).1 = s := by
  unfold openS at h ⊢
  split
  · rename_i h1; rw [if_pos h1] at h; simp at h
  · rename_i h1
    rw [if_neg h1] at h
    split
    · rename_i h2; rw [if_pos h2] at h; simp at h
    · rename_i h2; simpa using h2

theorem told_back {s : Str} (h : (toldS s).2 = 0) : answerS (toldS s).1 = (s, 0) := by
  unfold toldS at h ⊢
  simp only at h ⊢
  generalize hq : rawF (openS s).1 (!decide ((openS s).2 = 0)) = q at h ⊢
  by_cases c : q.2.2 = true ∨ q.2.1 ≠ (openS s).1.length
  · rw [if_pos c] at h; simp at h
  rw [if_neg c]
  simp only [not_or, Bool.not_eq_true, Decidable.not_not] at c
  obtain ⟨c1, c2⟩ := c
  subst hq
  have hop := seal_open (s := s)
  generalize (openS s).1 = p at *
  simp only [rawF] at c1 c2 ⊢
  obtain ⟨f0, f1, f2, f3⟩ := fSts_ok c1
  obtain ⟨e0, e1, e2⟩ := num_ok f0
  obtain ⟨d0, d1, d2⟩ := num_ok e0
  obtain ⟨x0, x1, x2⟩ := num_ok d0
  obtain ⟨b0, b1, b2⟩ := num_ok x0
  obtain ⟨a0, a1, a2⟩ := txtF_ok b0
  obtain ⟨o0, o1, o2⟩ := num_ok a0
  have hbad : (!decide ((openS s).2 = 0)) = false := o0
  simp only [Bool.not_eq_false', decide_eq_true_eq] at hbad
  have hsl := hop hbad
  generalize hA : numF p (0, !decide ((openS s).2 = 0)) 2 = a at *
  generalize hB : txtF p a.2 = b at *
  generalize hC : numF p b.2 1 = c at *
  generalize hD : numF p c.2 6 = d at *
  generalize hE : numF p d.2 1 = e at *
  generalize hN : numF p e.2 1 = n at *
  generalize hF : fSts p n.1.toNat n.2 = f at *
  have q1 := putS_ok.1 o2
  have q2 := putS_ok.1 b2
  have q3 := putS_ok.1 x2
  have q4 := putS_ok.1 d2
  have q5 := putS_ok.1 e2
  have r1 : (256 : Int) ^ (2 : Int).toNat = 65536 := rfl
  have r2 : (256 : Int) ^ (1 : Int).toNat = 256 := rfl
  have r3 : (256 : Int) ^ (6 : Int).toNat = 281474976710656 := rfl
  rw [r1] at q1; rw [r2] at q2 q4 q5; rw [r3] at q3
  have hlen : ((f.1.length : Nat) : Int) = n.1 := by rw [f1]; omega
  have hnum : ansNumS ⟨a.1, b.1, c.1, d.1, e.1, f.1⟩ = true := by
    simp only [ansNumS, decide_eq_true_eq]; omega
  have hR : ansRightS ⟨a.1, b.1, c.1, d.1, e.1, f.1⟩ = true := by simp only [ansRightS, hnum, f2, Bool.and_self]
  have hH : ansHead ⟨a.1, b.1, c.1, d.1, e.1, f.1⟩ ++ stsB f.1 = p := by
    simp only [ansHead, hlen]
    simp only [Int.toNat_zero, List.take_zero, List.nil_append] at o1
    rw [o1, a1, b1, x1, d1, e1, f3, c2]
    simp
  rw [answerS, if_pos hR]
  simp only
  rw [hH, hsl]

theorem answer_back {s : Str} {a : Ans} (h : answerS a = (s, 0)) : toldS s = (a, 0) ∧ refToldS s = (a, 0) := by
  have hR : ansRightS a = true := by
    unfold answerS at h; split at h
    · assumption
    · simp at h
  have hs : s = sealS (ansHead a ++ stsB a.states) := by rw [answerS, if_pos hR] at h; simpa using h.symm
  have ho : openS s = (ansHead a ++ stsB a.states, 0) := by rw [hs, open_seal]
  generalize hp : ansHead a ++ stsB a.states = p at ho
  simp only [ansRightS, ansNumS, Bool.and_eq_true, decide_eq_true_eq] at hR
  obtain ⟨⟨h1, h2, h3, h4, h5, h6, h7, h8, h9, h10⟩, hall⟩ := hR
  have p1 : (putS a.why 2).2 = 0 := putS_ok.2 ⟨by omega, by omega, by omega, by show a.why < 65536; omega⟩
  have p2 : (putS a.task 1).2 = 0 := putS_ok.2 ⟨by omega, by omega, by omega, by show a.task < 256; omega⟩
  have p3 : (putS a.token 6).2 = 0 := putS_ok.2 ⟨by omega, by omega, by omega, by show a.token < 281474976710656; omega⟩
  have p4 : (putS a.is 1).2 = 0 := putS_ok.2 ⟨by omega, by omega, by omega, by show a.is < 256; omega⟩
  have p5 : (putS a.states.length 1).2 = 0 := putS_ok.2 ⟨by omega, by omega, by omega, by show (a.states.length : Int) < 256; omega⟩
  have hh : ansHead a = ((((([] ++ (putS a.why 2).1) ++ (textS a.key).1) ++ (putS a.task 1).1) ++ (putS a.token 6).1) ++ (putS a.is 1).1) ++ (putS a.states.length 1).1 := by simp [ansHead]
  have z : ((([] : Str).length : Nat) : Int) = 0 := rfl
  have hp0 : p = (ansHead a ++ stsB a.states) ++ [] := by rw [hp, List.append_nil]
  have hp1 := hp0
  rw [hh] at hp1
  have t1 := num_put (s := p) (pre := []) (post := (textS a.key).1 ++ ((putS a.task 1).1 ++ ((putS a.token 6).1 ++ ((putS a.is 1).1 ++ ((putS a.states.length 1).1 ++ stsB a.states))))) (by rw [hp1]; simp) p1
  have t2 := txtF_put (s := p) (pre := [] ++ (putS a.why 2).1) (post := (putS a.task 1).1 ++ ((putS a.token 6).1 ++ ((putS a.is 1).1 ++ ((putS a.states.length 1).1 ++ stsB a.states)))) (t := a.key) (by rw [hp1]; simp) h3
  have t3 := num_put (s := p) (pre := ([] ++ (putS a.why 2).1) ++ (textS a.key).1) (post := (putS a.token 6).1 ++ ((putS a.is 1).1 ++ ((putS a.states.length 1).1 ++ stsB a.states))) (by rw [hp1]; simp) p2
  have t4 := num_put (s := p) (pre := (([] ++ (putS a.why 2).1) ++ (textS a.key).1) ++ (putS a.task 1).1) (post := (putS a.is 1).1 ++ ((putS a.states.length 1).1 ++ stsB a.states)) (by rw [hp1]; simp) p3
  have t5 := num_put (s := p) (pre := ((([] ++ (putS a.why 2).1) ++ (textS a.key).1) ++ (putS a.task 1).1) ++ (putS a.token 6).1) (post := (putS a.states.length 1).1 ++ stsB a.states) (by rw [hp1]; simp) p4
  have t6 := num_put (s := p) (pre := (((([] ++ (putS a.why 2).1) ++ (textS a.key).1) ++ (putS a.task 1).1) ++ (putS a.token 6).1) ++ (putS a.is 1).1) (post := stsB a.states) (by rw [hp1, List.append_nil]) p5
  have u1 := next_put (s := p) (pre := []) (post := (textS a.key).1 ++ ((putS a.task 1).1 ++ ((putS a.token 6).1 ++ ((putS a.is 1).1 ++ ((putS a.states.length 1).1 ++ stsB a.states))))) (by rw [hp1]; simp) p1
  have u2 := txt_put (s := p) (pre := [] ++ (putS a.why 2).1) (post := (putS a.task 1).1 ++ ((putS a.token 6).1 ++ ((putS a.is 1).1 ++ ((putS a.states.length 1).1 ++ stsB a.states)))) (t := a.key) (by rw [hp1]; simp) (by omega)
  have u3 := next_put (s := p) (pre := ([] ++ (putS a.why 2).1) ++ (textS a.key).1) (post := (putS a.token 6).1 ++ ((putS a.is 1).1 ++ ((putS a.states.length 1).1 ++ stsB a.states))) (by rw [hp1]; simp) p2
  have u4 := next_put (s := p) (pre := (([] ++ (putS a.why 2).1) ++ (textS a.key).1) ++ (putS a.task 1).1) (post := (putS a.is 1).1 ++ ((putS a.states.length 1).1 ++ stsB a.states)) (by rw [hp1]; simp) p3
  have u5 := next_put (s := p) (pre := ((([] ++ (putS a.why 2).1) ++ (textS a.key).1) ++ (putS a.task 1).1) ++ (putS a.token 6).1) (post := (putS a.states.length 1).1 ++ stsB a.states) (by rw [hp1]; simp) p4
  have u6 := next_put (s := p) (pre := (((([] ++ (putS a.why 2).1) ++ (textS a.key).1) ++ (putS a.task 1).1) ++ (putS a.token 6).1) ++ (putS a.is 1).1) (post := stsB a.states) (by rw [hp1, List.append_nil]) p5
  obtain ⟨v1, v2⟩ := sts_put hall hp0
  rw [← hh] at t6 u6
  rw [z] at t1 u1
  have hraw : rawF p false = (a, (p.length : Int), false) := by
    simp only [rawF, t1, t2, t3, t4, t5, t6, Int.toNat_natCast, v1]
    rw [hp]
  have hraw2 : rawTold p = some a := by
    simp only [rawTold, u1, u2, u3, u4, u5, u6, Int.toNat_natCast, v2]
    rfl
  constructor
  · unfold toldS
    rw [ho]
    simp only [decide_true, Bool.not_true, hraw]
    simp
  · unfold refToldS
    rw [ho]
    simp only [hraw2, h, if_true]

/-- Both read the same. -/
theorem told_same (s : Str) : toldS s = refToldS s := by
  have e1 : ∀ {x : Ans × Int}, x.2 = 0 ∨ x = (zeroA, 230) → x.2 ≠ 0 → x = (zeroA, 230) := fun h h' => h.elim (fun h => absurd h h') id
  have k1 : (toldS s).2 = 0 ∨ toldS s = (zeroA, 230) := by
    unfold toldS; simp only; split
    · exact .inr rfl
    · exact .inl rfl
  by_cases c : (toldS s).2 = 0
  · have := answer_back (told_back c)
    rw [this.2]; exact Prod.ext rfl c
  · have ht := e1 k1 c
    have hr : refToldS s = (zeroA, 230) := by
      unfold refToldS
      split
      · split
        · rename_i a _
          split
          · rename_i h2
            have := (answer_back h2).1
            rw [ht] at this; simp at this
          · rfl
        · rfl
      · rfl
    rw [ht, hr]

end Go.Proofs.Ytjlpmndipceboaa.Ev
end
section
set_option linter.unusedSimpArgs false
set_option linter.unusedVariables false
set_option maxRecDepth 10000
namespace Go.Proofs.Ytjlpmndipceboaa.Ev
open Go

def eqSt (a b : Stt) : Bool := decide (a.is = b.is) && (decide (a.tried = b.tried) && (decide (a.due = b.due) && (decide (a.token = b.token) && decide (a.result = b.result))))
theorem eqF_stt (a b : Stt) : eqF [0, 0, 0, 0, 1] [.int .i64 a.is, .int .i64 a.tried, .int .i64 a.due, .int .i64 a.token, .str a.result] [.int .i64 b.is, .int .i64 b.tried, .int .i64 b.due, .int .i64 b.token, .str b.result] = some (eqSt a b) := by
  simp [eqF, eqSt]
def sameSts : List Stt → List Stt → Bool
  | [], [] => true
  | a :: l, b :: l' => eqSt a b && sameSts l l'
  | _, _ => false
theorem same_sts (l l' : List Stt) (hl : l.length ≤ 1000000) (hl' : l'.length ≤ 1000000) : PCall Try.prog 49 [sttsV l, sttsV l'] (.bool (sameSts l l')) := by
  refine en49 (by simp) (by simp [closedL, sttsV_closed]) ?_
  have hne : ∀ {x y : List Stt}, x.length ≠ y.length → sameSts x y = false := by
    intro x; induction x with
    | nil => intro y h; cases y with
      | nil => exact absurd rfl h
      | cons b y => rfl
    | cons a x ih => intro y h; cases y with
      | nil => rfl
      | cons b y => simp only [sameSts]; rw [ih (fun e => h (by simp [e]))]; simp
  simp (maxSteps := 1000000) (disch := omega) only [rg, gD, Nat.reduceBEq, Nat.reduceEqDiff, Nat.reduceAdd, Int.reduceEq, Int.reduceLT, Int.reduceLE, Int.reduceToNat, reduceIte, reduceCtorEq, Nat.reduceLeDiff, Nat.reduceLT, Nat.reduceMul, Nat.reduceSub, c49, sttsV]
  by_cases c : l.length = l'.length
  case neg =>
    simp (maxSteps := 1000000) (disch := omega) only [rg, gD, Nat.reduceBEq, Nat.reduceEqDiff, Nat.reduceAdd, Int.reduceEq, Int.reduceLT, Int.reduceLE, Int.reduceToNat, reduceIte, reduceCtorEq, Nat.reduceLeDiff, Nat.reduceLT, Nat.reduceMul, Nat.reduceSub, show ¬ (l.length : Int) = l'.length by omega]
    (refine fin_x rfl ?_ ?_ <;> simp [pack, lo, loL, V.closed, closedL, mv_closed, hne c])
  simp (maxSteps := 1000000) (disch := omega) only [rg, gD, Nat.reduceBEq, Nat.reduceEqDiff, Nat.reduceAdd, Int.reduceEq, Int.reduceLT, Int.reduceLE, Int.reduceToNat, reduceIte, reduceCtorEq, Nat.reduceLeDiff, Nat.reduceLT, Nat.reduceMul, Nat.reduceSub, show (l.length : Int) = l'.length by omega]
  refine x_itp l.length (fun i => sameSts l l' = sameSts (l.drop i) (l'.drop i)) (fun i => [(0, sttsV l), (1, sttsV l'), (12, .int .i64 l.length), (13, .int .i64 i)]) (by simp) (by simp [sttsV, c]) ?_
  intro T i hi hs hN hX hR
  simp (maxSteps := 1000000) (disch := omega) only [rg, gD, Nat.reduceBEq, Nat.reduceEqDiff, Nat.reduceAdd, Int.reduceEq, Int.reduceLT, Int.reduceLE, Int.reduceToNat, reduceIte, reduceCtorEq, Nat.reduceLeDiff, Nat.reduceLT, Nat.reduceMul, Nat.reduceSub, sttsV]
  refine ⟨fun h => ?_, fun h => ?_⟩
  · have i1 : i < l.length := by omega
    have i2 : i < l'.length := by omega
    rw [List.drop_eq_getElem_cons i1, List.drop_eq_getElem_cons i2, sameSts] at hs
    simp (maxSteps := 1000000) (disch := omega) only [rg, gD, Nat.reduceBEq, Nat.reduceEqDiff, Nat.reduceAdd, Int.reduceEq, Int.reduceLT, Int.reduceLE, Int.reduceToNat, reduceIte, reduceCtorEq, Nat.reduceLeDiff, Nat.reduceLT, Nat.reduceMul, Nat.reduceSub, sttV, eqF_stt]
    cases he : eqSt l[i] l'[i] with
    | false =>
      simp (maxSteps := 1000000) (disch := omega) only [rg, gD, Nat.reduceBEq, Nat.reduceEqDiff, Nat.reduceAdd, Int.reduceEq, Int.reduceLT, Int.reduceLE, Int.reduceToNat, reduceIte, reduceCtorEq, Nat.reduceLeDiff, Nat.reduceLT, Nat.reduceMul, Nat.reduceSub, he]
      refine hR _ _ ?_
      simp (maxSteps := 1000000) (disch := omega) only [rg, gD, Nat.reduceBEq, Nat.reduceEqDiff, Nat.reduceAdd, Int.reduceEq, Int.reduceLT, Int.reduceLE, Int.reduceToNat, reduceIte, reduceCtorEq, Nat.reduceLeDiff, Nat.reduceLT, Nat.reduceMul, Nat.reduceSub]
      (refine fin_x rfl ?_ ?_ <;> simp [pack, lo, loL, V.closed, closedL, mv_closed, hs, he])
    | true =>
      simp (maxSteps := 1000000) (disch := omega) only [rg, gD, Nat.reduceBEq, Nat.reduceEqDiff, Nat.reduceAdd, Int.reduceEq, Int.reduceLT, Int.reduceLE, Int.reduceToNat, reduceIte, reduceCtorEq, Nat.reduceLeDiff, Nat.reduceLT, Nat.reduceMul, Nat.reduceSub, he]
      refine hN _ i1 ?_ ?_
      · rw [hs, he, Bool.true_and]
      · rfl
  · obtain rfl : i = l.length := by omega
    refine hX _ _ _ ?_
    simp (maxSteps := 1000000) (disch := omega) only [rg, gD, Nat.reduceBEq, Nat.reduceEqDiff, Nat.reduceAdd, Int.reduceEq, Int.reduceLT, Int.reduceLE, Int.reduceToNat, reduceIte, reduceCtorEq, Nat.reduceLeDiff, Nat.reduceLT, Nat.reduceMul, Nat.reduceSub]
    refine x_frz0 ?_
    simp (maxSteps := 1000000) (disch := omega) only [rg, gD, Nat.reduceBEq, Nat.reduceEqDiff, Nat.reduceAdd, Int.reduceEq, Int.reduceLT, Int.reduceLE, Int.reduceToNat, reduceIte, reduceCtorEq, Nat.reduceLeDiff, Nat.reduceLT, Nat.reduceMul, Nat.reduceSub]
    rw [List.drop_length, c, List.drop_length] at hs
    (refine fin_x rfl ?_ ?_ <;> simp [pack, lo, loL, V.closed, closedL, mv_closed, hs, sameSts])

def likeAns (a b : Ans) : Bool := decide (a.why = b.why) && (decide (a.key = b.key) && (decide (a.task = b.task) && (decide (a.token = b.token) && (decide (a.is = b.is) && sameSts a.states b.states))))
theorem like_answer (a b : Ans) (ha : a.states.length ≤ 1000000) (hb : b.states.length ≤ 1000000) : PCall Try.prog 20 [ansV a, ansV b] (.bool (likeAns a b)) := by
  refine en20 (by simp) (by simp [closedL, ansV_closed]) ?_
  have ks := same_sts a.states b.states ha hb
  unfold sttsV at ks
  simp (maxSteps := 1000000) (disch := omega) only [rg, gD, Nat.reduceBEq, Nat.reduceEqDiff, Nat.reduceAdd, Int.reduceEq, Int.reduceLT, Int.reduceLE, Int.reduceToNat, reduceIte, reduceCtorEq, Nat.reduceLeDiff, Nat.reduceLT, Nat.reduceMul, Nat.reduceSub, c20, ansV, sttsV]
  by_cases c1 : a.why = b.why
  case neg =>
    simp (maxSteps := 1000000) (disch := omega) only [rg, gD, Nat.reduceBEq, Nat.reduceEqDiff, Nat.reduceAdd, Int.reduceEq, Int.reduceLT, Int.reduceLE, Int.reduceToNat, reduceIte, reduceCtorEq, Nat.reduceLeDiff, Nat.reduceLT, Nat.reduceMul, Nat.reduceSub, c1]
    (refine fin_x rfl ?_ ?_ <;> simp [pack, lo, loL, V.closed, closedL, mv_closed, likeAns, c1])
  by_cases c2 : a.key = b.key
  case neg =>
    simp (maxSteps := 1000000) (disch := omega) only [rg, gD, Nat.reduceBEq, Nat.reduceEqDiff, Nat.reduceAdd, Int.reduceEq, Int.reduceLT, Int.reduceLE, Int.reduceToNat, reduceIte, reduceCtorEq, Nat.reduceLeDiff, Nat.reduceLT, Nat.reduceMul, Nat.reduceSub, c1, c2]
    (refine fin_x rfl ?_ ?_ <;> simp [pack, lo, loL, V.closed, closedL, mv_closed, likeAns, c2])
  by_cases c3 : a.task = b.task
  case neg =>
    simp (maxSteps := 1000000) (disch := omega) only [rg, gD, Nat.reduceBEq, Nat.reduceEqDiff, Nat.reduceAdd, Int.reduceEq, Int.reduceLT, Int.reduceLE, Int.reduceToNat, reduceIte, reduceCtorEq, Nat.reduceLeDiff, Nat.reduceLT, Nat.reduceMul, Nat.reduceSub, c1, c2, c3]
    (refine fin_x rfl ?_ ?_ <;> simp [pack, lo, loL, V.closed, closedL, mv_closed, likeAns, c3])
  by_cases c4 : a.token = b.token
  case neg =>
    simp (maxSteps := 1000000) (disch := omega) only [rg, gD, Nat.reduceBEq, Nat.reduceEqDiff, Nat.reduceAdd, Int.reduceEq, Int.reduceLT, Int.reduceLE, Int.reduceToNat, reduceIte, reduceCtorEq, Nat.reduceLeDiff, Nat.reduceLT, Nat.reduceMul, Nat.reduceSub, c1, c2, c3, c4]
    (refine fin_x rfl ?_ ?_ <;> simp [pack, lo, loL, V.closed, closedL, mv_closed, likeAns, c4])
  by_cases c5 : a.is = b.is
  case neg =>
    simp (maxSteps := 1000000) (disch := omega) only [rg, gD, Nat.reduceBEq, Nat.reduceEqDiff, Nat.reduceAdd, Int.reduceEq, Int.reduceLT, Int.reduceLE, Int.reduceToNat, reduceIte, reduceCtorEq, Nat.reduceLeDiff, Nat.reduceLT, Nat.reduceMul, Nat.reduceSub, c1, c2, c3, c4, c5]
    (refine fin_x rfl ?_ ?_ <;> simp [pack, lo, loL, V.closed, closedL, mv_closed, likeAns, c5])
  simp (maxSteps := 1000000) (disch := omega) only [rg, gD, Nat.reduceBEq, Nat.reduceEqDiff, Nat.reduceAdd, Int.reduceEq, Int.reduceLT, Int.reduceLE, Int.reduceToNat, reduceIte, reduceCtorEq, Nat.reduceLeDiff, Nat.reduceLT, Nat.reduceMul, Nat.reduceSub, c1, c2, c3, c4, c5]
  refine ⟨_, ks, ?_⟩
  simp (maxSteps := 1000000) (disch := omega) only [rg, gD, Nat.reduceBEq, Nat.reduceEqDiff, Nat.reduceAdd, Int.reduceEq, Int.reduceLT, Int.reduceLE, Int.reduceToNat, reduceIte, reduceCtorEq, Nat.reduceLeDiff, Nat.reduceLT, Nat.reduceMul, Nat.reduceSub]
  (refine fin_x rfl ?_ ?_ <;> simp [pack, lo, loL, V.closed, closedL, mv_closed, likeAns, c1, c2, c3, c4, c5])
theorem same_refl : ∀ l : List Stt, sameSts l l = true
  | [] => rfl
  | a :: l => by simp [sameSts, eqSt, same_refl l]
theorem like_refl (a : Ans) : likeAns a a = true := by simp [likeAns, same_refl]

def briefS (a : Ans) : Ans := { a with key := a.key.take 300, states := a.states.take 300 }
theorem law_brief (a : Ans) (hk : a.key.length ≤ 4611686018427387904) (hl : a.states.length ≤ 4611686018427387904) : PCall Try.prog 15 [ansV a] (ansV (briefS a)) := by
  refine en15 (by simp) (by simp [closedL, ansV_closed]) ?_
  simp (maxSteps := 1000000) (disch := omega) only [rg, gD, Nat.reduceBEq, Nat.reduceEqDiff, Nat.reduceAdd, Int.reduceEq, Int.reduceLT, Int.reduceLE, Int.reduceToNat, reduceIte, reduceCtorEq, Nat.reduceLeDiff, Nat.reduceLT, Nat.reduceMul, Nat.reduceSub, c15, ansV, sttsV]
  refine ⟨⟨by omega, by omega, by omega⟩, ⟨by omega, by omega, by omega⟩, by simp [compat, disj, nthL], ?_⟩
  have e1 : (min (a.key.length : Int) 300).toNat = min a.key.length 300 := by omega
  have e2 : (min (a.states.length : Int) 300).toNat = min a.states.length 300 := by omega
  have e3 : a.key.take (min a.key.length 300) = a.key.take 300 := by rw [Nat.min_comm]; exact (List.take_eq_take_min ..).symm
  have e4 : (mv sttV a.states).take (min a.states.length 300) = mv sttV (a.states.take 300) := by
    rw [Nat.min_comm, ← mv_len (f := sttV), ← List.take_eq_take_min]; simp [mv, List.map_take]
  (refine fin_x rfl ?_ ?_ <;> simp [pack, lo, loL, V.closed, closedL, mv_closed, briefS, e1, e2, e3, e4, mv_closed sttV_closed, mv_lo sttV_lo])

end Go.Proofs.Ytjlpmndipceboaa.Ev
end
section
set_option linter.unusedSimpArgs false
set_option linter.unusedVariables false
set_option maxRecDepth 10000
namespace Go.Proofs.Ytjlpmndipceboaa.Ev
open Go

def intsB (l : List Int) : Str := (l.map fun x => (putS x 1).1).flatten
def tskB (t : Task) : Str := ((((putS t.needs.length 1).1 ++ intsB t.needs) ++ (putS t.tries 1).1) ++ (putS t.wait 3).1) ++ (putS t.lease 3).1
def tsksB (l : List Task) : Str := (l.map tskB).flatten
def dagB (d : Dag) : Str := ((textS d.name).1 ++ (putS d.tasks.length 1).1) ++ tsksB d.tasks

theorem intsB_cons {x : Int} {l : List Int} : intsB (x :: l) = (putS x 1).1 ++ intsB l := rfl
theorem tsksB_cons {t : Task} {l : List Task} : tsksB (t :: l) = tskB t ++ tsksB l := rfl
theorem intsB_succ {l : List Int} {i : Nat} (h : i < l.length) : intsB (l.take (i + 1)) = intsB (l.take i) ++ (putS l[i] 1).1 := by
  rw [List.take_succ_eq_append_getElem h, intsB, List.map_append, List.flatten_append]; simp [intsB]
theorem tsksB_succ {l : List Task} {i : Nat} (h : i < l.length) : tsksB (l.take (i + 1)) = tsksB (l.take i) ++ tskB l[i] := by
  rw [List.take_succ_eq_append_getElem h, tsksB, List.map_append, List.flatten_append]; simp [tsksB]
theorem putS_len1 (n : Int) : (putS n 1).1.length ≤ 1 := by
  unfold putS; split
  · simp
  · simp [beS_len]
theorem putS_len3 (n : Int) : (putS n 3).1.length ≤ 3 := by
  unfold putS; split
  · simp
  · simp [beS_len]
theorem intsB_len : ∀ (l : List Int), (intsB l).length ≤ l.length
  | [] => by simp [intsB]
  | x :: l => by
    have h1 := putS_len1 x
    have h2 := intsB_len l
    rw [intsB_cons, List.length_append, List.length_cons]; omega
theorem tskB_len (t : Task) : (tskB t).length ≤ t.needs.length + 8 := by
  have h1 := putS_len1 t.needs.length
  have h2 := intsB_len t.needs
  have h3 := putS_len1 t.tries
  have h4 := putS_len3 t.wait
  have h5 := putS_len3 t.lease
  simp only [tskB, List.length_append]; omega
theorem tsksB_len {N : Nat} : ∀ {l : List Task}, (∀ t ∈ l, t.needs.length ≤ N) → (tsksB l).length ≤ l.length * (N + 8)
  | [], _ => by simp [tsksB]
  | t :: l, h => by
    have h1 := tskB_len t
    have h2 := h t (by simp)
    have h3 := tsksB_len (l := l) fun x hx => h x (by simp [hx])
    rw [tsksB_cons, List.length_append, List.length_cons, Nat.add_mul]; omega

def rdInts (s : Str) : Nat → Int × Int → List Int × Int × Int
  | 0, r => ([], r)
  | k + 1, r => if r.2 = 0 then
    let x := nextS s r 1
    let q := rdInts s k x.2
    (x.1 :: q.1, q.2) else ([], r)
def rdTask (s : Str) (r : Int × Int) : Task × Int × Int :=
  let k := nextS s r 1
  let l := rdInts s k.1.toNat k.2
  let a := nextS s l.2 1
  let b := nextS s a.2 3
  let c := nextS s b.2 3
  (⟨l.1, a.1, b.1, c.1⟩, c.2)
def rdTasks (s : Str) : Nat → Int × Int → List Task × Int × Int
  | 0, r => ([], r)
  | k + 1, r => if r.2 = 0 then
    let t := rdTask s r
    let q := rdTasks s k t.2
    (t.1 :: q.1, q.2) else ([], r)
def rdDag (s : Str) (r : Int × Int) : Dag × Int × Int :=
  let a := txtS s r
  let n := nextS s a.2 1
  let q := rdTasks s n.1.toNat n.2
  (⟨a.1, q.1⟩, q.2)

def tskFit (t : Task) : Prop := (putS t.needs.length 1).2 = 0 ∧ (∀ x ∈ t.needs, (putS x 1).2 = 0) ∧ (putS t.tries 1).2 = 0 ∧ (putS t.wait 3).2 = 0 ∧ (putS t.lease 3).2 = 0
def dagFit (d : Dag) : Prop := d.name.length ≤ 65535 ∧ (putS d.tasks.length 1).2 = 0 ∧ ∀ t ∈ d.tasks, tskFit t

theorem rdInts_ok {s : Str} : ∀ {k : Nat} {r : Int × Int}, (rdInts s k r).2.2 = 0 → r.2 = 0 ∧ (rdInts s k r).1.length = k ∧ s.take r.1.toNat ++ intsB (rdInts s k r).1 = s.take (rdInts s k r).2.1.toNat ∧ ∀ x ∈ (rdInts s k r).1, (putS x 1).2 = 0
  | 0, r, h => ⟨h, rfl, by simp [rdInts, intsB], by simp [rdInts]⟩
  | k + 1, r, h => by
    rw [rdInts] at h ⊢
    by_cases c : r.2 = 0
    case neg => rw [if_neg c] at h; exact absurd h c
    rw [if_pos c] at h ⊢
    simp only at h ⊢
    obtain ⟨h1, h2, h3, h4⟩ := rdInts_ok h
    obtain ⟨t1, t2, t3, t4, t5⟩ := next_ok h1
    refine ⟨c, by simp [h2], ?_, fun x hx => ?_⟩
    · rw [intsB_cons, ← List.append_assoc, t2, h3]
    · rcases List.mem_cons.1 hx with rfl | hx
      · exact t3
      · exact h4 x hx
theorem rdTask_ok {s : Str} {r : Int × Int} (h : (rdTask s r).2.2 = 0) : r.2 = 0 ∧ s.take r.1.toNat ++ tskB (rdTask s r).1 = s.take (rdTask s r).2.1.toNat ∧ tskFit (rdTask s r).1 := by
  simp only [rdTask] at h ⊢
  obtain ⟨d0, d1, d2, _⟩ := next_ok h
  obtain ⟨c0, c1, c2, _⟩ := next_ok d0
  obtain ⟨b0, b1, b2, _⟩ := next_ok c0
  obtain ⟨a0, a1, a2, a3⟩ := rdInts_ok b0
  obtain ⟨o0, o1, o2, _⟩ := next_ok a0
  have hk := (putS_ok.1 o2).2.2.1
  have hl : (((rdInts s (nextS s r 1).1.toNat (nextS s r 1).2).1.length : Nat) : Int) = (nextS s r 1).1 := by rw [a1]; omega
  refine ⟨o0, ?_, ?_⟩
  · simp only [tskB, hl]
    rw [← d1, ← c1, ← b1, ← a2, ← o1]
    simp only [List.append_assoc]
  · exact ⟨by simp only [hl]; exact o2, a3, b2, c2, d2⟩
theorem rdTasks_ok {s : Str} : ∀ {k : Nat} {r : Int × Int}, (rdTasks s k r).2.2 = 0 → r.2 = 0 ∧ (rdTasks s k r).1.length = k ∧ s.take r.1.toNat ++ tsksB (rdTasks s k r).1 = s.take (rdTasks s k r).2.1.toNat ∧ ∀ t ∈ (rdTasks s k r).1, tskFit t
  | 0, r, h => ⟨h, rfl, by simp [rdTasks, tsksB], by simp [rdTasks]⟩
  | k + 1, r, h => by
    rw [rdTasks] at h ⊢
    by_cases c : r.2 = 0
    case neg => rw [if_neg c] at h; exact absurd h c
    rw [if_pos c] at h ⊢
    simp only at h ⊢
    obtain ⟨h1, h2, h3, h4⟩ := rdTasks_ok h
    obtain ⟨t1, t2, t3⟩ := rdTask_ok h1
    refine ⟨c, by simp [h2], ?_, fun x hx => ?_⟩
    · rw [tsksB_cons, ← List.append_assoc, t2, h3]
    · rcases List.mem_cons.1 hx with rfl | hx
      · exact t3
      · exact h4 x hx
theorem rdDag_ok {s : Str} {r : Int × Int} (h : (rdDag s r).2.2 = 0) : r.2 = 0 ∧ s.take r.1.toNat ++ dagB (rdDag s r).1 = s.take (rdDag s r).2.1.toNat ∧ dagFit (rdDag s r).1 := by
  simp only [rdDag] at h ⊢
  obtain ⟨b0, b1, b2, b3⟩ := rdTasks_ok h
  obtain ⟨a0, a1, a2, _⟩ := next_ok b0
  obtain ⟨o0, o1, o2, _⟩ := txt_ok a0
  have hk := (putS_ok.1 a2).2.2.1
  have hl : (((rdTasks s (nextS s (txtS s r).2 1).1.toNat (nextS s (txtS s r).2 1).2).1.length : Nat) : Int) = (nextS s (txtS s r).2 1).1 := by rw [b1]; omega
  refine ⟨o0, ?_, ?_⟩
  · simp only [dagB, hl]
    rw [← b2, ← a1, ← o1]
    simp only [List.append_assoc]
  · exact ⟨o2, by simp only [hl]; exact a2, b3⟩

theorem rdInts_put {s : Str} : ∀ {l : List Int} {pre post : Str}, (∀ x ∈ l, (putS x 1).2 = 0) → s = (pre ++ intsB l) ++ post → rdInts s l.length (pre.length, 0) = (l, ((pre ++ intsB l).length : Int), 0)
  | [], pre, post, _, _ => by simp [rdInts, intsB]
  | x :: l, pre, post, h, hs => by
    rw [intsB_cons] at hs ⊢
    have q1 := next_put (s := s) (pre := pre) (post := intsB l ++ post) (n := x) (k := 1) (by rw [hs]; simp) (h x (by simp))
    have ih := rdInts_put (s := s) (l := l) (pre := pre ++ (putS x 1).1) (post := post) (fun y hy => h y (by simp [hy])) (by rw [hs]; simp)
    rw [List.length_cons, rdInts, if_pos rfl]
    simp only [q1, ih, List.append_assoc]
theorem rdTask_put {s : Str} {t : Task} {pre post : Str} (h : tskFit t) (hs : s = (pre ++ tskB t) ++ post) : rdTask s (pre.length, 0) = (t, ((pre ++ tskB t).length : Int), 0) := by
  obtain ⟨h1, h2, h3, h4, h5⟩ := h
  unfold tskB at hs
  have q1 := next_put (s := s) (pre := pre) (post := intsB t.needs ++ ((putS t.tries 1).1 ++ ((putS t.wait 3).1 ++ ((putS t.lease 3).1 ++ post)))) (by rw [hs]; simp) h1
  have q2 := rdInts_put (s := s) (l := t.needs) (pre := pre ++ (putS t.needs.length 1).1) (post := (putS t.tries 1).1 ++ ((putS t.wait 3).1 ++ ((putS t.lease 3).1 ++ post))) h2 (by rw [hs]; simp)
  have q3 := next_put (s := s) (pre := (pre ++ (putS t.needs.length 1).1) ++ intsB t.needs) (post := (putS t.wait 3).1 ++ ((putS t.lease 3).1 ++ post)) (by rw [hs]; simp) h3
  have q4 := next_put (s := s) (pre := ((pre ++ (putS t.needs.length 1).1) ++ intsB t.needs) ++ (putS t.tries 1).1) (post := (putS t.lease 3).1 ++ post) (by rw [hs]; simp) h4
  have q5 := next_put (s := s) (pre := (((pre ++ (putS t.needs.length 1).1) ++ intsB t.needs) ++ (putS t.tries 1).1) ++ (putS t.wait 3).1) (post := post) (by rw [hs]; simp) h5
  simp only [rdTask, q1, Int.toNat_natCast, q2, q3, q4, q5]
  simp [tskB]
theorem rdTasks_put {s : Str} : ∀ {l : List Task} {pre post : Str}, (∀ t ∈ l, tskFit t) → s = (pre ++ tsksB l) ++ post → rdTasks s l.length (pre.length, 0) = (l, ((pre ++ tsksB l).length : Int), 0)
  | [], pre, post, _, _ => by simp [rdTasks, tsksB]
  | x :: l, pre, post, h, hs => by
    rw [tsksB_cons] at hs ⊢
    have q1 := rdTask_put (s := s) (pre := pre) (post := tsksB l ++ post) (t := x) (h x (by simp)) (by rw [hs]; simp)
    have ih := rdTasks_put (s := s) (l := l) (pre := pre ++ tskB x) (post := post) (fun y hy => h y (by simp [hy])) (by rw [hs]; simp)
    rw [List.length_cons, rdTasks, if_pos rfl]
    simp only [q1, ih, List.append_assoc]
theorem rdDag_put {s : Str} {d : Dag} {pre post : Str} (h : dagFit d) (hs : s = (pre ++ dagB d) ++ post) : rdDag s (pre.length, 0) = (d, ((pre ++ dagB d).length : Int), 0) := by
  obtain ⟨h1, h2, h3⟩ := h
  unfold dagB at hs
  have q1 := txt_put (s := s) (pre := pre) (post := (putS d.tasks.length 1).1 ++ (tsksB d.tasks ++ post)) (t := d.name) (by rw [hs]; simp) h1
  have q2 := next_put (s := s) (pre := pre ++ (textS d.name).1) (post := tsksB d.tasks ++ post) (by rw [hs]; simp) h2
  have q3 := rdTasks_put (s := s) (l := d.tasks) (pre := (pre ++ (textS d.name).1) ++ (putS d.tasks.length 1).1) (post := post) h3 (by rw [hs]; simp)
  simp only [rdDag, q1, q2, Int.toNat_natCast, q3]
  simp [dagB]

/-- Graphs that may be fit into their bytes. -/
theorem right_fit {d : Dag} (h : refRightS d = 0) : dagFit d ∧ d.tasks.length ≤ 10 ∧ d.name.length ≤ 16 ∧ 1 ≤ d.tasks.length ∧ ∀ t ∈ d.tasks, t.needs.length ≤ 10 := by
  unfold refRightS at h
  by_cases c0 : 10 < d.tasks.length
  · rw [if_pos c0] at h; simp at h
  rw [if_neg c0] at h
  by_cases c1 : shapedS d = false
  · rw [if_pos c1] at h; simp at h
  simp only [Bool.not_eq_false] at c1
  simp only [shapedS, Bool.and_eq_true, Bool.not_eq_true', decide_eq_false_iff_not, List.all_eq_true] at c1
  obtain ⟨h1, h2⟩ := c1
  have e1 : (256 : Int) ^ (1 : Int).toNat = 256 := rfl
  have e3 : (256 : Int) ^ (3 : Int).toNat = 16777216 := rfl
  have each : ∀ t ∈ d.tasks, tskFit t ∧ t.needs.length ≤ 10 := by
    intro t ht
    have h3 := h2 t ht
    simp only [taskOkS, taskNumS, Bool.and_eq_true, decide_eq_true_eq] at h3
    obtain ⟨h4, h5⟩ := h3
    have h6 := rise_range h4 (by omega)
    have h7 : t.needs.length ≤ 10 := by have := h6.2; omega
    refine ⟨⟨putS_ok.2 ?_, fun x hx => putS_ok.2 ?_, putS_ok.2 ?_, putS_ok.2 ?_, putS_ok.2 ?_⟩, h7⟩
    · rw [e1]; omega
    · have := h6.1 x hx; rw [e1]; omega
    · rw [e1]; omega
    · rw [e3]; omega
    · rw [e3]; omega
  refine ⟨⟨by omega, putS_ok.2 (by rw [e1]; omega), fun t ht => (each t ht).1⟩, by omega, by omega, by omega, fun t ht => (each t ht).2⟩

def zeroD : Dag := ⟨[], []⟩
def dagPutS (d : Dag) : Str × Int := if refRightS d = 0 then (dagB d, 0) else ([], refRightS d)
def dagGetS (s : Str) : Dag × Int :=
  let q := rdDag s (0, 0)
  if q.2.2 = 0 then if q.2.1 = s.length then if refRightS q.1 = 0 then (q.1, 0) else (zeroD, refRightS q.1) else (zeroD, 4) else (zeroD, q.2.2)
theorem dagGet_back {s : Str} (h : (dagGetS s).2 = 0) : refRightS (dagGetS s).1 = 0 ∧ dagB (dagGetS s).1 = s := by
  unfold dagGetS at h ⊢
  simp only at h ⊢
  by_cases c1 : (rdDag s (0, 0)).2.2 = 0
  case neg => rw [if_neg c1] at h; exact absurd h c1
  rw [if_pos c1] at h ⊢
  by_cases c2 : (rdDag s (0, 0)).2.1 = s.length
  case neg => rw [if_neg c2] at h; simp at h
  rw [if_pos c2] at h ⊢
  by_cases c3 : refRightS (rdDag s (0, 0)).1 = 0
  case neg => rw [if_neg c3] at h; exact absurd h c3
  rw [if_pos c3] at h ⊢
  refine ⟨c3, ?_⟩
  obtain ⟨_, h1, _⟩ := rdDag_ok c1
  rw [c2] at h1
  simpa using h1
theorem dagPut_back {d : Dag} (h : refRightS d = 0) : dagGetS (dagB d) = (d, 0) := by
  have hf := (right_fit h).1
  have q := rdDag_put (s := dagB d) (pre := []) (post := []) hf (by simp)
  simp only [List.length_nil, Int.natCast_zero, List.nil_append] at q
  unfold dagGetS
  simp only [q, if_true, h]

end Go.Proofs.Ytjlpmndipceboaa.Ev
end
section
set_option linter.unusedSimpArgs false
set_option linter.unusedVariables false
set_option maxRecDepth 10000
namespace Go.Proofs.Ytjlpmndipceboaa.Ev
open Go

def zeroC : Cmd := ⟨0, [], [], 0, 0, [], zeroD⟩
def noDag (d : Dag) : Prop := d.name = [] ∧ d.tasks.length = 0
instance (d : Dag) : Decidable (noDag d) := by unfold noDag; infer_instance
theorem noDag_eq {d : Dag} (h : noDag d) : d = zeroD := by
  obtain ⟨n, l⟩ := d
  obtain ⟨h1, h2⟩ := h
  simp only at h1 h2
  rw [h1, List.eq_nil_of_length_eq_zero h2]; rfl
/-- Fields that a kind names alone. -/
def bareP (c : Cmd) : Prop :=
  if c.kind = 1 then c.key = [] ∧ c.name = [] ∧ c.token = 0 ∧ c.time = 0 ∧ c.text = []
  else if c.kind = 2 then c.token = 0 ∧ c.time = 0 ∧ c.text = [] ∧ noDag c.dag
  else if c.kind = 4 ∨ c.kind = 6 then c.key = [] ∧ c.name = [] ∧ c.time = 0 ∧ c.text = [] ∧ noDag c.dag
  else if c.kind = 5 then c.key = [] ∧ c.name = [] ∧ c.time = 0 ∧ noDag c.dag
  else if c.kind = 7 ∨ c.kind = 9 then c.name = [] ∧ c.token = 0 ∧ c.time = 0 ∧ c.text = [] ∧ noDag c.dag
  else if c.kind = 8 then c.key = [] ∧ c.name = [] ∧ c.token = 0 ∧ c.text = [] ∧ noDag c.dag
  else c.key = [] ∧ c.name = [] ∧ c.token = 0 ∧ c.time = 0 ∧ c.text = [] ∧ noDag c.dag
instance (c : Cmd) : Decidable (bareP c) := by unfold bareP; infer_instance
def fitP (c : Cmd) : Prop := c.key.length ≤ 255 ∧ c.name.length ≤ 255 ∧ c.text.length ≤ 255 ∧ 0 ≤ c.token ∧ c.token < 281474976710656 ∧ 0 ≤ c.time ∧ c.time < 281474976710656
instance (c : Cmd) : Decidable (fitP c) := by unfold fitP; infer_instance
def cmdP (c : Cmd) : Prop := 1 ≤ c.kind ∧ c.kind ≤ 10 ∧ bareP c ∧ fitP c ∧ (c.kind = 1 → refRightS c.dag = 0)
instance (c : Cmd) : Decidable (cmdP c) := by unfold cmdP; infer_instance
def cmdBody (c : Cmd) : Str :=
  if c.kind = 1 then dagB c.dag
  else if c.kind = 2 then (textS c.key).1 ++ (textS c.name).1
  else if c.kind = 4 ∨ c.kind = 6 then (putS c.token 6).1
  else if c.kind = 5 then (putS c.token 6).1 ++ (textS c.text).1
  else if c.kind = 7 ∨ c.kind = 9 then (textS c.key).1
  else if c.kind = 8 then (putS c.time 6).1
  else []
def cmdB (c : Cmd) : Str := (putS c.kind 1).1 ++ cmdBody c
def cmdPutS (c : Cmd) : Str × Int := if cmdP c then (sealS (cmdB c), 0) else ([], 1)

/-- What the program reads of bytes without their sum. -/
def rawG (p : Str) (bad : Bool) : Cmd × Int × Bool :=
  let k := numF p (0, bad) 1
  if k.1 = 1 then
    let g := dagGetS (if k.2.2 = false then p.drop k.2.1.toNat else [])
    (⟨1, [], [], 0, 0, [], g.1⟩, (if k.2.2 = false then (p.length : Int) else k.2.1), k.2.2 || !decide (g.2 = 0))
  else if k.1 = 2 then
    let a := txtF p k.2
    let b := txtF p a.2
    (⟨2, a.1, b.1, 0, 0, [], zeroD⟩, b.2)
  else if k.1 = 4 ∨ k.1 = 6 then
    let a := numF p k.2 6
    (⟨k.1, [], [], a.1, 0, [], zeroD⟩, a.2)
  else if k.1 = 5 then
    let a := numF p k.2 6
    let b := txtF p a.2
    (⟨5, [], [], a.1, 0, b.1, zeroD⟩, b.2)
  else if k.1 = 7 ∨ k.1 = 9 then
    let a := txtF p k.2
    (⟨k.1, a.1, [], 0, 0, [], zeroD⟩, a.2)
  else if k.1 = 8 then
    let a := numF p k.2 6
    (⟨8, [], [], 0, a.1, [], zeroD⟩, a.2)
  else if k.1 = 3 ∨ k.1 = 10 then (⟨k.1, [], [], 0, 0, [], zeroD⟩, k.2)
  else (⟨k.1, [], [], 0, 0, [], zeroD⟩, k.2.1, true)
def cmdGetS (s : Str) : Cmd × Int :=
  let q := rawG (openS s).1 (!decide ((openS s).2 = 0))
  if q.2.2 = true ∨ q.2.1 ≠ (openS s).1.length then (zeroC, 230) else (q.1, 0)

/-- What stands there, by the document. -/
def rawR (p : Str) : Cmd :=
  let k := nextS p (0, 0) 1
  if k.1 = 1 then ⟨1, [], [], 0, 0, [], (rdDag p k.2).1⟩
  else if k.1 = 2 then ⟨2, (txtS p k.2).1, (txtS p (txtS p k.2).2).1, 0, 0, [], zeroD⟩
  else if k.1 = 4 ∨ k.1 = 6 then ⟨k.1, [], [], (nextS p k.2 6).1, 0, [], zeroD⟩
  else if k.1 = 5 then ⟨5, [], [], (nextS p k.2 6).1, 0, (txtS p (nextS p k.2 6).2).1, zeroD⟩
  else if k.1 = 7 ∨ k.1 = 9 then ⟨k.1, (txtS p k.2).1, [], 0, 0, [], zeroD⟩
  else if k.1 = 8 then ⟨8, [], [], 0, (nextS p k.2 6).1, [], zeroD⟩
  else ⟨k.1, [], [], 0, 0, [], zeroD⟩
def refCmdS (s : Str) : Cmd × Int :=
  if (openS s).2 = 0 then if cmdPutS (rawR (openS s).1) = (s, 0) then (rawR (openS s).1, 0) else (zeroC, 230) else (zeroC, 230)

theorem txtF_fit {s : Str} {r : Int × Bool} (h : (txtF s r).2.2 = false) : (txtF s r).1.length ≤ 255 := (txtF_ok h).2.2
theorem put6 {n : Int} (h : (putS n 6).2 = 0) : 0 ≤ n ∧ n < 281474976710656 := by
  have := putS_ok.1 h
  have e : (256 : Int) ^ (6 : Int).toNat = 281474976710656 := rfl
  rw [e] at this; omega

theorem cmd_back {s : Str} (h : (cmdGetS s).2 = 0) : cmdPutS (cmdGetS s).1 = (s, 0) := by
  unfold cmdGetS at h ⊢
  simp only at h ⊢
  have hop := seal_open (s := s)
  generalize hp : (openS s).1 = p at *
  by_cases c : (rawG p (!decide ((openS s).2 = 0))).2.2 = true ∨ (rawG p (!decide ((openS s).2 = 0))).2.1 ≠ p.length
  · rw [if_pos c] at h; simp at h
  rw [if_neg c]
  simp only [not_or, Bool.not_eq_true, Decidable.not_not] at c
  obtain ⟨c1, c2⟩ := c
  -- enough: the command may be, and its bytes are p
  suffices hh : (openS s).2 = 0 ∧ cmdP (rawG p (!decide ((openS s).2 = 0))).1 ∧ cmdB (rawG p (!decide ((openS s).2 = 0))).1 = p by
    rw [cmdPutS, if_pos hh.2.1, hh.2.2, hop hh.1]
  have first : (numF p (0, !decide ((openS s).2 = 0)) 1).2.2 = false → (openS s).2 = 0 ∧ (putS (numF p (0, !decide ((openS s).2 = 0)) 1).1 1).1 = p.take (numF p (0, !decide ((openS s).2 = 0)) 1).2.1.toNat := by
    intro hb
    obtain ⟨h1, h2, _⟩ := num_ok hb
    simp only [Bool.not_eq_false', decide_eq_true_eq] at h1
    exact ⟨h1, by simpa using h2⟩
  simp only [rawG] at c1 c2 ⊢
  generalize numF p (0, !decide ((openS s).2 = 0)) 1 = k at *
  obtain ⟨kn, ka, kb⟩ := k
  simp only at first c1 c2 ⊢
  by_cases k1 : kn = 1
  · subst k1
    simp only [if_true] at c1 c2 ⊢
    simp only [Bool.or_eq_false_iff, Bool.not_eq_false', decide_eq_true_eq] at c1
    obtain ⟨d1, d2⟩ := c1
    obtain ⟨f1, f2⟩ := first d1
    simp only [d1, if_true] at d2 ⊢
    obtain ⟨g1, g2⟩ := dagGet_back d2
    refine ⟨f1, ⟨by simp, by simp, by simp [bareP], by simp [fitP], fun _ => g1⟩, ?_⟩
    simp only [cmdB, cmdBody, if_true, g2, f2]
    exact List.take_append_drop _ _
  rw [if_neg k1] at c1 c2 ⊢
  by_cases k2 : kn = 2
  · subst k2
    simp only [if_true] at c1 c2 ⊢
    obtain ⟨b1, b2, b3⟩ := txtF_ok c1
    obtain ⟨a1, a2, a3⟩ := txtF_ok b1
    obtain ⟨f1, f2⟩ := first a1
    refine ⟨f1, ⟨by simp, by simp, by simp [bareP, noDag, zeroD], by simp [fitP]; omega, by simp⟩, ?_⟩
    simp only [cmdB, cmdBody, if_true, f2]
    rw [if_neg (by omega), ← List.append_assoc, a2, b2, c2]; simp
  rw [if_neg k2] at c1 c2 ⊢
  by_cases k4 : kn = 4 ∨ kn = 6
  · rw [if_pos k4] at c1 c2 ⊢
    simp only at c1 c2 ⊢
    obtain ⟨b1, b2, b3⟩ := num_ok c1
    obtain ⟨f1, f2⟩ := first b1
    have := put6 b3
    refine ⟨f1, ⟨by simp only; omega, by simp only; omega, ?_, by simp [fitP]; omega, fun h => absurd h k1⟩, ?_⟩
    · simp [bareP, noDag, zeroD, k1, k2, k4]
    · simp only [cmdB, cmdBody, f2]
      rw [if_neg k1, if_neg k2, if_pos k4, b2, c2]; simp
  rw [if_neg k4] at c1 c2 ⊢
  by_cases k5 : kn = 5
  · subst k5
    simp only [if_true] at c1 c2 ⊢
    obtain ⟨b1, b2, b3⟩ := txtF_ok c1
    obtain ⟨a1, a2, a3⟩ := num_ok b1
    obtain ⟨f1, f2⟩ := first a1
    have := put6 a3
    refine ⟨f1, ⟨by simp, by simp, by simp [bareP, noDag, zeroD], by simp [fitP]; omega, by simp⟩, ?_⟩
    simp only [cmdB, cmdBody, f2]
    rw [if_neg (by omega), if_neg (by omega), if_neg (by omega), if_pos trivial, ← List.append_assoc, a2, b2, c2]; simp
  rw [if_neg k5] at c1 c2 ⊢
  by_cases k7 : kn = 7 ∨ kn = 9
  · rw [if_pos k7] at c1 c2 ⊢
    simp only at c1 c2 ⊢
    obtain ⟨b1, b2, b3⟩ := txtF_ok c1
    obtain ⟨f1, f2⟩ := first b1
    refine ⟨f1, ⟨by simp only; omega, by simp only; omega, ?_, by simp [fitP]; omega, fun h => absurd h k1⟩, ?_⟩
    · simp [bareP, noDag, zeroD, k1, k2, k4, k5, k7]
    · simp only [cmdB, cmdBody, f2]
      rw [if_neg k1, if_neg k2, if_neg k4, if_neg k5, if_pos k7, b2, c2]; simp
  rw [if_neg k7] at c1 c2 ⊢
  by_cases k8 : kn = 8
  · subst k8
    simp only [if_true] at c1 c2 ⊢
    obtain ⟨b1, b2, b3⟩ := num_ok c1
    obtain ⟨f1, f2⟩ := first b1
    have := put6 b3
    refine ⟨f1, ⟨by simp, by simp, by simp [bareP, noDag, zeroD], by simp [fitP]; omega, by simp⟩, ?_⟩
    simp only [cmdB, cmdBody, f2]
    rw [if_neg (by omega), if_neg (by omega), if_neg (by omega), if_neg (by omega), if_neg (by omega), if_pos trivial, b2, c2]; simp
  rw [if_neg k8] at c1 c2 ⊢
  by_cases k3 : kn = 3 ∨ kn = 10
  · rw [if_pos k3] at c1 c2 ⊢
    simp only at c1 c2 ⊢
    obtain ⟨f1, f2⟩ := first c1
    refine ⟨f1, ⟨by simp only; omega, by simp only; omega, ?_, by simp [fitP], fun h => absurd h k1⟩, ?_⟩
    · simp [bareP, noDag, zeroD, k1, k2, k4, k5, k7, k8]
    · simp only [cmdB, cmdBody, f2]
      rw [if_neg k1, if_neg k2, if_neg k4, if_neg k5, if_neg k7, if_neg k8, c2]; simp
  · rw [if_neg k3] at c1; simp at c1

theorem put1 {n : Int} (h : 0 ≤ n ∧ n < 256) : (putS n 1).2 = 0 := putS_ok.2 ⟨by omega, by omega, h.1, h.2⟩
theorem put6' {n : Int} (h : 0 ≤ n ∧ n < 281474976710656) : (putS n 6).2 = 0 := putS_ok.2 ⟨by omega, by omega, h.1, h.2⟩

theorem cmd_fore {s : Str} {c : Cmd} (h : cmdPutS c = (s, 0)) : cmdGetS s = (c, 0) ∧ refCmdS s = (c, 0) := by
  have hP : cmdP c := by
    unfold cmdPutS at h; split at h
    · assumption
    · simp at h
  have hs : s = sealS (cmdB c) := by rw [cmdPutS, if_pos hP] at h; simpa using h.symm
  have ho : openS s = (cmdB c, 0) := by rw [hs, open_seal]
  suffices hh : rawG (cmdB c) false = (c, ((cmdB c).length : Int), false) ∧ rawR (cmdB c) = c by
    constructor
    · unfold cmdGetS
      rw [ho]
      simp only [decide_true, Bool.not_true, hh.1]
      simp
    · unfold refCmdS
      rw [ho]
      simp only [hh.2, if_true, h]
  clear h hs ho s
  obtain ⟨h1, h2, hb, hf, hd⟩ := hP
  have q0 := num_put (s := cmdB c) (pre := []) (post := cmdBody c) (n := c.kind) (k := 1) (by simp [cmdB]) (put1 (by omega))
  have r0 := next_put (s := cmdB c) (pre := []) (post := cmdBody c) (n := c.kind) (k := 1) (by simp [cmdB]) (put1 (by omega))
  simp only [List.length_nil, Int.natCast_zero, List.nil_append] at q0 r0
  obtain ⟨kn, key, name, token, time, text, dag⟩ := c
  simp only [fitP] at hf
  obtain ⟨f1, f2, f3, f4, f5, f6, f7⟩ := hf
  simp only at h1 h2 hd q0 r0
  simp only [rawG, rawR, q0, r0]
  simp only [bareP] at hb
  by_cases k1 : kn = 1
  · subst k1
    simp only [if_true] at hb ⊢
    obtain ⟨rfl, rfl, rfl, rfl, rfl⟩ := hb
    have hr := hd rfl
    have e : cmdB ⟨1, [], [], 0, 0, [], dag⟩ = (putS 1 1).1 ++ dagB dag := by simp [cmdB, cmdBody]
    have g := dagPut_back hr
    have g2 := rdDag_put (s := cmdB ⟨1, [], [], 0, 0, [], dag⟩) (pre := (putS 1 1).1) (post := []) (right_fit hr).1 (by rw [e]; simp)
    constructor
    · rw [e]
      simp only [Int.toNat_natCast, List.drop_left, g]
      simp
    · rw [g2]
  rw [if_neg k1] at hb ⊢
  by_cases k2 : kn = 2
  · subst k2
    simp only [if_true] at hb ⊢
    obtain ⟨rfl, rfl, rfl, hn⟩ := hb
    obtain rfl := noDag_eq hn
    have e : cmdB ⟨2, key, name, 0, 0, [], zeroD⟩ = (putS 2 1).1 ++ ((textS key).1 ++ (textS name).1) := by simp [cmdB, cmdBody]
    have t1 := txtF_put (s := cmdB ⟨2, key, name, 0, 0, [], zeroD⟩) (pre := (putS 2 1).1) (post := (textS name).1) (t := key) (by rw [e]; simp) f1
    have t2 := txtF_put (s := cmdB ⟨2, key, name, 0, 0, [], zeroD⟩) (pre := (putS 2 1).1 ++ (textS key).1) (post := []) (t := name) (by rw [e]; simp) f2
    have u1 := txt_put (s := cmdB ⟨2, key, name, 0, 0, [], zeroD⟩) (pre := (putS 2 1).1) (post := (textS name).1) (t := key) (by rw [e]; simp) (by omega)
    have u2 := txt_put (s := cmdB ⟨2, key, name, 0, 0, [], zeroD⟩) (pre := (putS 2 1).1 ++ (textS key).1) (post := []) (t := name) (by rw [e]; simp) (by omega)
    simp only [t1, t2, u1, u2]
    simp [e]
  rw [if_neg k2] at hb ⊢
  by_cases k4 : kn = 4 ∨ kn = 6
  · rw [if_pos k4] at hb ⊢
    obtain ⟨rfl, rfl, rfl, rfl, hn⟩ := hb
    obtain rfl := noDag_eq hn
    have e : cmdB ⟨kn, [], [], token, 0, [], zeroD⟩ = (putS kn 1).1 ++ (putS token 6).1 := by simp [cmdB, cmdBody, k1, k2, k4]
    have t1 := num_put (s := cmdB ⟨kn, [], [], token, 0, [], zeroD⟩) (pre := (putS kn 1).1) (post := []) (n := token) (k := 6) (by rw [e]; simp) (put6' (by omega))
    have u1 := next_put (s := cmdB ⟨kn, [], [], token, 0, [], zeroD⟩) (pre := (putS kn 1).1) (post := []) (n := token) (k := 6) (by rw [e]; simp) (put6' (by omega))
    simp only [t1, u1]
    simp [e, k1, k2, k4]
  rw [if_neg k4] at hb ⊢
  by_cases k5 : kn = 5
  · subst k5
    simp only [if_true] at hb ⊢
    obtain ⟨rfl, rfl, rfl, hn⟩ := hb
    obtain rfl := noDag_eq hn
    have e : cmdB ⟨5, [], [], token, 0, text, zeroD⟩ = (putS 5 1).1 ++ ((putS token 6).1 ++ (textS text).1) := by simp [cmdB, cmdBody]
    have t1 := num_put (s := cmdB ⟨5, [], [], token, 0, text, zeroD⟩) (pre := (putS 5 1).1) (post := (textS text).1) (n := token) (k := 6) (by rw [e]; simp) (put6' (by omega))
    have t2 := txtF_put (s := cmdB ⟨5, [], [], token, 0, text, zeroD⟩) (pre := (putS 5 1).1 ++ (putS token 6).1) (post := []) (t := text) (by rw [e]; simp) f3
    have u1 := next_put (s := cmdB ⟨5, [], [], token, 0, text, zeroD⟩) (pre := (putS 5 1).1) (post := (textS text).1) (n := token) (k := 6) (by rw [e]; simp) (put6' (by omega))
    have u2 := txt_put (s := cmdB ⟨5, [], [], token, 0, text, zeroD⟩) (pre := (putS 5 1).1 ++ (putS token 6).1) (post := []) (t := text) (by rw [e]; simp) (by omega)
    simp only [t1, t2, u1, u2]
    simp [e]
  rw [if_neg k5] at hb ⊢
  by_cases k7 : kn = 7 ∨ kn = 9
  · rw [if_pos k7] at hb ⊢
    obtain ⟨rfl, rfl, rfl, rfl, hn⟩ := hb
    obtain rfl := noDag_eq hn
    have e : cmdB ⟨kn, key, [], 0, 0, [], zeroD⟩ = (putS kn 1).1 ++ (textS key).1 := by simp [cmdB, cmdBody, k1, k2, k4, k5, k7]
    have t1 := txtF_put (s := cmdB ⟨kn, key, [], 0, 0, [], zeroD⟩) (pre := (putS kn 1).1) (post := []) (t := key) (by rw [e]; simp) f1
    have u1 := txt_put (s := cmdB ⟨kn, key, [], 0, 0, [], zeroD⟩) (pre := (putS kn 1).1) (post := []) (t := key) (by rw [e]; simp) (by omega)
    simp only [t1, u1]
    simp [e, k1, k2, k4, k5, k7]
  rw [if_neg k7] at hb ⊢
  by_cases k8 : kn = 8
  · subst k8
    simp only [if_true] at hb ⊢
    obtain ⟨rfl, rfl, rfl, rfl, hn⟩ := hb
    obtain rfl := noDag_eq hn
    have e : cmdB ⟨8, [], [], 0, time, [], zeroD⟩ = (putS 8 1).1 ++ (putS time 6).1 := by simp [cmdB, cmdBody]
    have t1 := num_put (s := cmdB ⟨8, [], [], 0, time, [], zeroD⟩) (pre := (putS 8 1).1) (post := []) (n := time) (k := 6) (by rw [e]; simp) (put6' (by omega))
    have u1 := next_put (s := cmdB ⟨8, [], [], 0, time, [], zeroD⟩) (pre := (putS 8 1).1) (post := []) (n := time) (k := 6) (by rw [e]; simp) (put6' (by omega))
    simp only [t1, u1]
    simp [e]
  rw [if_neg k8] at hb ⊢
  have k3 : kn = 3 ∨ kn = 10 := by omega
  rw [if_pos k3]
  obtain ⟨rfl, rfl, rfl, rfl, rfl, hn⟩ := hb
  obtain rfl := noDag_eq hn
  have e : cmdB ⟨kn, [], [], 0, 0, [], zeroD⟩ = (putS kn 1).1 := by simp [cmdB, cmdBody, k1, k2, k4, k5, k7, k8]
  simp [e, k1, k2, k4, k5, k7, k8]

/-- Both read the same. -/
theorem cmd_same (s : Str) : cmdGetS s = refCmdS s := by
  by_cases c : (cmdGetS s).2 = 0
  · have := cmd_fore (cmd_back c)
    rw [this.2]; exact Prod.ext rfl c
  · have hg : cmdGetS s = (zeroC, 230) := by
      unfold cmdGetS at c ⊢; simp only at c ⊢; split
      · rfl
      · rename_i h; rw [if_neg h] at c; exact absurd rfl c
    have hr : refCmdS s = (zeroC, 230) := by
      unfold refCmdS
      split
      · split
        · rename_i h2
          have := (cmd_fore h2).1
          rw [hg] at this; simp at this
        · rfl
      · rfl
    rw [hg, hr]

end Go.Proofs.Ytjlpmndipceboaa.Ev
end
section
set_option linter.unusedSimpArgs false
set_option linter.unusedVariables false
set_option maxRecDepth 10000
namespace Go.Proofs.Ytjlpmndipceboaa.Ev
open Go

theorem dag_put1 (H : Hp) (b : Nat) (out : Str) (n k : Int) (hr : out.length ≤ 1000000000) (hn : n ≤ 9223372036854775807) (hb : b < H.n) (hm : H.m b = some (.arr 1 [.str out])) :
    ACall Try.prog 54 [.int .i64 n, .int .i64 k, .ptr b 0 0] H [b] (.tup []) [(b, some (.arr 1 [.str (out ++ (putS n k).1)]))] 0 := by
  refine ena54 (by simp) (by simp [lowL, V.low, hb]) (fun id hid => ?_) (by simp) ?_
  · simp at hid; subst hid
    exact ⟨hb, fun o ho => by rw [hm] at ho; simp at ho; subst ho; rfl⟩
  have q1 : only [b] H.m b = some (.arr 1 [.str out]) := by simp [only, hm]
  have hpl := putS_len n k
  simp (maxSteps := 1000000) (disch := omega) only [rg, gD, Nat.reduceBEq, Nat.reduceEqDiff, Nat.reduceAdd, Int.reduceEq, Int.reduceLT, Int.reduceLE, Int.reduceToNat, reduceIte, reduceCtorEq, Nat.reduceLeDiff, Nat.reduceLT, Nat.reduceMul, Nat.reduceSub, c54]
  refine ⟨_, code_put n k hn, ?_⟩
  simp (maxSteps := 1000000) (disch := omega) only [rg, gD, Nat.reduceBEq, Nat.reduceEqDiff, Nat.reduceAdd, Int.reduceEq, Int.reduceLT, Int.reduceLE, Int.reduceToNat, reduceIte, reduceCtorEq, Nat.reduceLeDiff, Nat.reduceLT, Nat.reduceMul, Nat.reduceSub, sV, q1]
  refine ⟨_, code_all .full [out, (putS n k).1] (by simp) (by simp at hr ⊢; omega), ?_⟩
  rw [two_flat]
  simp (maxSteps := 1000000) (disch := omega) only [rg, gD, Nat.reduceBEq, Nat.reduceEqDiff, Nat.reduceAdd, Int.reduceEq, Int.reduceLT, Int.reduceLE, Int.reduceToNat, reduceIte, reduceCtorEq, Nat.reduceLeDiff, Nat.reduceLT, Nat.reduceMul, Nat.reduceSub, q1]
  exact fin_An (l := []) rfl (.inl rfl) (by simp) (fun id => .inr (by by_cases h : id = b <;> simp [appd, upd, h]))

def okInt (n : Int) : Prop := n ≤ 9223372036854775807
def okDagN (d : Dag) : Prop := ∀ t ∈ d.tasks, (∀ x ∈ t.needs, okInt x) ∧ okInt t.tries ∧ okInt t.wait ∧ okInt t.lease
theorem dag_put (d : Dag) (hd : ∀ t ∈ d.tasks, t.needs.length ≤ 4611686018427387904) (hn : d.tasks.length ≤ 4611686018427387904) (hi : okDagN d) : PCall Try.prog 23 [dagV d] (sV (dagPutS d)) := by
  refine en23 (by simp) (by simp [closedL, V.closed, dagV_closed]) ?_
  have kr := dag_right d hd hn
  rw [← right_same] at kr
  unfold dagV tasksV at kr
  simp (maxSteps := 1000000) (disch := omega) only [rg, gD, Nat.reduceBEq, Nat.reduceEqDiff, Nat.reduceAdd, Int.reduceEq, Int.reduceLT, Int.reduceLE, Int.reduceToNat, reduceIte, reduceCtorEq, Nat.reduceLeDiff, Nat.reduceLT, Nat.reduceMul, Nat.reduceSub, c23, dagV, tasksV]
  refine ⟨_, kr, ?_⟩
  by_cases c0 : refRightS d = 0
  case neg =>
    simp (maxSteps := 1000000) (disch := omega) only [rg, gD, Nat.reduceBEq, Nat.reduceEqDiff, Nat.reduceAdd, Int.reduceEq, Int.reduceLT, Int.reduceLE, Int.reduceToNat, reduceIte, reduceCtorEq, Nat.reduceLeDiff, Nat.reduceLT, Nat.reduceMul, Nat.reduceSub, c0]
    (refine fin_x rfl ?_ ?_ <;> simp [pack, lo, loL, V.closed, closedL, mv_closed, sV, dagPutS, c0])
  obtain ⟨hfit, h10, h16, h1, hneeds⟩ := right_fit c0
  simp (maxSteps := 1000000) (disch := omega) only [rg, gD, Nat.reduceBEq, Nat.reduceEqDiff, Nat.reduceAdd, Int.reduceEq, Int.reduceLT, Int.reduceLE, Int.reduceToNat, reduceIte, reduceCtorEq, Nat.reduceLeDiff, Nat.reduceLT, Nat.reduceMul, Nat.reduceSub, c0]
  refine ⟨_, code_text d.name (by omega), ?_⟩
  have tl := textS_len d.name
  have n1 := putS_len1 d.tasks.length
  simp (maxSteps := 1000000) (disch := omega) only [rg, gD, Nat.reduceBEq, Nat.reduceEqDiff, Nat.reduceAdd, Int.reduceEq, Int.reduceLT, Int.reduceLE, Int.reduceToNat, reduceIte, reduceCtorEq, Nat.reduceLeDiff, Nat.reduceLT, Nat.reduceMul, Nat.reduceSub, sV]
  refine ⟨_, _, _, _, dag_put1 _ 1 (textS d.name).1 d.tasks.length 1 (by omega) (by omega) (by simp) (by simp (disch := omega) only [upd_eq, upd_ne, wo_0, wo_1, wo_2]), ?_⟩
  simp (maxSteps := 1000000) (disch := omega) only [rg, gD, Nat.reduceBEq, Nat.reduceEqDiff, Nat.reduceAdd, Int.reduceEq, Int.reduceLT, Int.reduceLE, Int.reduceToNat, reduceIte, reduceCtorEq, Nat.reduceLeDiff, Nat.reduceLT, Nat.reduceMul, Nat.reduceSub]
  have hD : dagPutS d = (((textS d.name).1 ++ (putS d.tasks.length 1).1) ++ tsksB d.tasks, 0) := by simp [dagPutS, c0, dagB]
  rw [hD]
  generalize hB : (textS d.name).1 ++ (putS d.tasks.length 1).1 = B
  have hBl : B.length ≤ 100 := by rw [← hB]; simp; omega
  refine x_it d.tasks.length (fun i σ H => 2 ≤ H.n ∧ H.m 1 = some (.arr 1 [.str (B ++ tsksB (d.tasks.take i))]) ∧ σ = [(5, .ptr 1 0 0), (7, .fn 54 [] [.ptr 1 0 0]), (30, tasksV d.tasks), (31, .int .i64 d.tasks.length), (32, .int .i64 i)]) ⟨Nat.le_refl 2, (by simp (disch := omega) only [upd_eq, upd_ne, wo_0, wo_1, wo_2, tsksB, List.take_zero, List.map_nil, List.flatten_nil, List.append_nil]), rfl⟩ ?_
  rintro T i σ ⟨q, m⟩ hi' ⟨hq, e1, rfl⟩ hN hX hR
  simp only at hq e1
  simp (maxSteps := 1000000) (disch := omega) only [rg, gD, Nat.reduceBEq, Nat.reduceEqDiff, Nat.reduceAdd, Int.reduceEq, Int.reduceLT, Int.reduceLE, Int.reduceToNat, reduceIte, reduceCtorEq, Nat.reduceLeDiff, Nat.reduceLT, Nat.reduceMul, Nat.reduceSub, tasksV]
  refine ⟨fun h => ?_, fun h => ?_⟩
  · have i1 : i < d.tasks.length := by omega
    obtain ⟨g1, g2, g3, g4⟩ := hi _ (List.getElem_mem i1)
    have hnl := hneeds _ (List.getElem_mem i1)
    have hq1 : 1 ≠ q := by omega
    have hsl := tsksB_len (l := d.tasks.take i) (N := 10) (fun t ht => hneeds t (List.mem_of_mem_take ht))
    rw [List.length_take] at hsl
    rw [tsksB_succ i1] at hN
    generalize tsksB (d.tasks.take i) = out at *
    have hol : (B ++ out).length ≤ 1000 := by simp; omega
    simp (maxSteps := 1000000) (disch := omega) only [rg, gD, Nat.reduceBEq, Nat.reduceEqDiff, Nat.reduceAdd, Int.reduceEq, Int.reduceLT, Int.reduceLE, Int.reduceToNat, reduceIte, reduceCtorEq, Nat.reduceLeDiff, Nat.reduceLT, Nat.reduceMul, Nat.reduceSub, taskV, vI_len]
    generalize d.tasks[i] = t at *
    refine ⟨_, _, _, _, dag_put1 _ 1 (B ++ out) t.needs.length 1 (by omega) (by omega) (by show 1 < q + 1; omega) (by simp (disch := omega) only [upd_eq, upd_ne, wo_0, wo_1, wo_2, e1]), ?_⟩
    have m1 := putS_len1 t.needs.length
    simp (maxSteps := 1000000) (disch := omega) only [rg, gD, Nat.reduceBEq, Nat.reduceEqDiff, Nat.reduceAdd, Int.reduceEq, Int.reduceLT, Int.reduceLE, Int.reduceToNat, reduceIte, reduceCtorEq, Nat.reduceLeDiff, Nat.reduceLT, Nat.reduceMul, Nat.reduceSub, vI_len]
    refine x_it t.needs.length (fun j σ H => q + 1 ≤ H.n ∧ H.m q = some (.arr 4 [taskV t]) ∧ H.m 1 = some (.arr 1 [.str (((B ++ out) ++ (putS t.needs.length 1).1) ++ intsB (t.needs.take j))]) ∧ σ = [(5, .ptr 1 0 0), (7, .fn 54 [] [.ptr 1 0 0]), (9, .ptr q 0 0), (30, tasksV d.tasks), (31, .int .i64 d.tasks.length), (32, .int .i64 i), (42, .fsl .loose 1 (vI t.needs)), (43, .int .i64 t.needs.length), (44, .int .i64 j)]) ⟨Nat.le_refl _, (by simp (disch := omega) only [upd_eq, upd_ne, wo_0, wo_1, wo_2, taskV]), (by simp (disch := omega) only [upd_eq, upd_ne, wo_0, wo_1, wo_2, intsB, List.take_zero, List.map_nil, List.flatten_nil, List.append_nil]), rfl⟩ ?_
    rintro T2 j σ ⟨q2, m2⟩ hj ⟨hq2, f0, f1, rfl⟩ hN2 hX2 hR2
    simp only at hq2 f0 f1
    unfold taskV at f0
    have hil := intsB_len (t.needs.take j)
    rw [List.length_take] at hil
    have hol2 : (((B ++ out) ++ (putS t.needs.length 1).1) ++ intsB (t.needs.take j)).length ≤ 1020 := by rw [List.length_append, List.length_append]; omega
    simp (maxSteps := 1000000) (disch := omega) only [rg, gD, Nat.reduceBEq, Nat.reduceEqDiff, Nat.reduceAdd, Int.reduceEq, Int.reduceLT, Int.reduceLE, Int.reduceToNat, reduceIte, reduceCtorEq, Nat.reduceLeDiff, Nat.reduceLT, Nat.reduceMul, Nat.reduceSub]
    refine ⟨fun h => ?_, fun h => ?_⟩
    · have j1 : j < t.needs.length := by omega
      rw [intsB_succ j1] at hN2
      generalize intsB (t.needs.take j) = o2 at *
      simp (maxSteps := 1000000) (disch := omega) only [rg, gD, Nat.reduceBEq, Nat.reduceEqDiff, Nat.reduceAdd, Int.reduceEq, Int.reduceLT, Int.reduceLE, Int.reduceToNat, reduceIte, reduceCtorEq, Nat.reduceLeDiff, Nat.reduceLT, Nat.reduceMul, Nat.reduceSub, vI_get]
      refine ⟨_, _, _, _, dag_put1 _ 1 (((B ++ out) ++ (putS t.needs.length 1).1) ++ o2) t.needs[j] 1 (by omega) (g1 _ (List.getElem_mem j1)) (by show 1 < q2; omega) (by simp (disch := omega) only [upd_eq, upd_ne, wo_0, wo_1, wo_2, f1]), ?_⟩
      simp (maxSteps := 1000000) (disch := omega) only [rg, gD, Nat.reduceBEq, Nat.reduceEqDiff, Nat.reduceAdd, Int.reduceEq, Int.reduceLT, Int.reduceLE, Int.reduceToNat, reduceIte, reduceCtorEq, Nat.reduceLeDiff, Nat.reduceLT, Nat.reduceMul, Nat.reduceSub]
      refine hN2 _ _ j1 ?_
      refine ⟨hq2, (by simp (disch := omega) only [upd_eq, upd_ne, wo_0, wo_1, wo_2, f0, taskV]), (by simp (disch := omega) only [upd_eq, upd_ne, wo_0, wo_1, wo_2, List.append_assoc]), rfl⟩
    · obtain rfl : j = t.needs.length := by omega
      rw [List.take_length] at f1 hol2
      refine hX2 _ _ _ ?_
      simp (maxSteps := 1000000) (disch := omega) only [rg, gD, Nat.reduceBEq, Nat.reduceEqDiff, Nat.reduceAdd, Int.reduceEq, Int.reduceLT, Int.reduceLE, Int.reduceToNat, reduceIte, reduceCtorEq, Nat.reduceLeDiff, Nat.reduceLT, Nat.reduceMul, Nat.reduceSub]
      refine x_frz0 ?_
      have k3 := putS_len1 t.tries
      have k4 := putS_len3 t.wait
      generalize hO : ((B ++ out) ++ (putS t.needs.length 1).1) ++ intsB t.needs = O at f1 hol2
      simp (maxSteps := 1000000) (disch := omega) only [rg, gD, Nat.reduceBEq, Nat.reduceEqDiff, Nat.reduceAdd, Int.reduceEq, Int.reduceLT, Int.reduceLE, Int.reduceToNat, reduceIte, reduceCtorEq, Nat.reduceLeDiff, Nat.reduceLT, Nat.reduceMul, Nat.reduceSub, f0]
      refine ⟨_, _, _, _, dag_put1 _ 1 O t.tries 1 (by omega) g2 (by show 1 < q2; omega) (by simp (disch := omega) only [upd_eq, upd_ne, wo_0, wo_1, wo_2, f1]), ?_⟩
      simp (maxSteps := 1000000) (disch := omega) only [rg, gD, Nat.reduceBEq, Nat.reduceEqDiff, Nat.reduceAdd, Int.reduceEq, Int.reduceLT, Int.reduceLE, Int.reduceToNat, reduceIte, reduceCtorEq, Nat.reduceLeDiff, Nat.reduceLT, Nat.reduceMul, Nat.reduceSub, f0]
      refine ⟨_, _, _, _, dag_put1 _ 1 (O ++ (putS t.tries 1).1) t.wait 3 (by rw [List.length_append]; omega) g3 (by show 1 < q2; omega) (by simp (disch := omega) only [upd_eq, upd_ne, wo_0, wo_1, wo_2]), ?_⟩
      simp (maxSteps := 1000000) (disch := omega) only [rg, gD, Nat.reduceBEq, Nat.reduceEqDiff, Nat.reduceAdd, Int.reduceEq, Int.reduceLT, Int.reduceLE, Int.reduceToNat, reduceIte, reduceCtorEq, Nat.reduceLeDiff, Nat.reduceLT, Nat.reduceMul, Nat.reduceSub, f0]
      refine ⟨_, _, _, _, dag_put1 _ 1 ((O ++ (putS t.tries 1).1) ++ (putS t.wait 3).1) t.lease 3 (by rw [List.length_append, List.length_append]; omega) g4 (by show 1 < q2; omega) (by simp (disch := omega) only [upd_eq, upd_ne, wo_0, wo_1, wo_2]), ?_⟩
      simp (maxSteps := 1000000) (disch := omega) only [rg, gD, Nat.reduceBEq, Nat.reduceEqDiff, Nat.reduceAdd, Int.reduceEq, Int.reduceLT, Int.reduceLE, Int.reduceToNat, reduceIte, reduceCtorEq, Nat.reduceLeDiff, Nat.reduceLT, Nat.reduceMul, Nat.reduceSub]
      refine x_frz0 ?_
      simp (maxSteps := 1000000) (disch := omega) only [rg, gD, Nat.reduceBEq, Nat.reduceEqDiff, Nat.reduceAdd, Int.reduceEq, Int.reduceLT, Int.reduceLE, Int.reduceToNat, reduceIte, reduceCtorEq, Nat.reduceLeDiff, Nat.reduceLT, Nat.reduceMul, Nat.reduceSub]
      refine hN _ _ i1 ?_
      refine ⟨by show 2 ≤ q2; omega, ?_, rfl⟩
      simp only [upd_eq]
      rw [← hO]
      simp only [tskB, List.append_assoc]
  · obtain rfl : i = d.tasks.length := by omega
    rw [List.take_length] at e1
    refine hX _ _ _ ?_
    simp (maxSteps := 1000000) (disch := omega) only [rg, gD, Nat.reduceBEq, Nat.reduceEqDiff, Nat.reduceAdd, Int.reduceEq, Int.reduceLT, Int.reduceLE, Int.reduceToNat, reduceIte, reduceCtorEq, Nat.reduceLeDiff, Nat.reduceLT, Nat.reduceMul, Nat.reduceSub]
    refine x_frz0 ?_
    simp (maxSteps := 1000000) (disch := omega) only [rg, gD, Nat.reduceBEq, Nat.reduceEqDiff, Nat.reduceAdd, Int.reduceEq, Int.reduceLT, Int.reduceLE, Int.reduceToNat, reduceIte, reduceCtorEq, Nat.reduceLeDiff, Nat.reduceLT, Nat.reduceMul, Nat.reduceSub, e1]
    (refine fin_x rfl ?_ ?_ <;> simp [pack, lo, loL, V.closed, closedL, mv_closed, sV])

theorem ref16_number (n k : Int) (hn : n ≤ 9223372036854775807) : PCall Try.prog 60 [.int .i64 n, .int .i64 k] (.str (putS n k).1) := by
  refine en60 (by simp) (by simp [closedL, V.closed]) ?_
  simp (maxSteps := 1000000) (disch := omega) only [rg, gD, Nat.reduceBEq, Nat.reduceEqDiff, Nat.reduceAdd, Int.reduceEq, Int.reduceLT, Int.reduceLE, Int.reduceToNat, reduceIte, reduceCtorEq, Nat.reduceLeDiff, Nat.reduceLT, Nat.reduceMul, Nat.reduceSub, c60]
  refine ⟨_, ref_put n k hn, ?_⟩
  simp (maxSteps := 1000000) (disch := omega) only [rg, gD, Nat.reduceBEq, Nat.reduceEqDiff, Nat.reduceAdd, Int.reduceEq, Int.reduceLT, Int.reduceLE, Int.reduceToNat, reduceIte, reduceCtorEq, Nat.reduceLeDiff, Nat.reduceLT, Nat.reduceMul, Nat.reduceSub, sV]
  (refine fin_x rfl ?_ ?_ <;> simp [pack, lo, loL, V.closed, closedL, mv_closed])

theorem ref16_put (d : Dag) (hN : d.name.length ≤ 1000000) (hd : ∀ t ∈ d.tasks, t.needs.length ≤ 100) (hn : d.tasks.length ≤ 100) (hi : okDagN d) : PCall Try.prog 30 [dagV d] (.str (dagB d)) := by
  refine en30 (by simp) (by simp [closedL, V.closed, dagV_closed]) ?_
  have tl := textS_len d.name
  have n1 := putS_len1 d.tasks.length
  simp (maxSteps := 1000000) (disch := omega) only [rg, gD, Nat.reduceBEq, Nat.reduceEqDiff, Nat.reduceAdd, Int.reduceEq, Int.reduceLT, Int.reduceLE, Int.reduceToNat, reduceIte, reduceCtorEq, Nat.reduceLeDiff, Nat.reduceLT, Nat.reduceMul, Nat.reduceSub, c30, dagV, tasksV]
  refine ⟨_, ref_text d.name (by omega), ?_⟩
  simp (maxSteps := 1000000) (disch := omega) only [rg, gD, Nat.reduceBEq, Nat.reduceEqDiff, Nat.reduceAdd, Int.reduceEq, Int.reduceLT, Int.reduceLE, Int.reduceToNat, reduceIte, reduceCtorEq, Nat.reduceLeDiff, Nat.reduceLT, Nat.reduceMul, Nat.reduceSub, sV]
  refine ⟨_, ref16_number d.tasks.length 1 (by omega), ?_⟩
  simp (maxSteps := 1000000) (disch := omega) only [rg, gD, Nat.reduceBEq, Nat.reduceEqDiff, Nat.reduceAdd, Int.reduceEq, Int.reduceLT, Int.reduceLE, Int.reduceToNat, reduceIte, reduceCtorEq, Nat.reduceLeDiff, Nat.reduceLT, Nat.reduceMul, Nat.reduceSub]
  refine ⟨by omega, ?_⟩
  have hD : dagB d = ((textS d.name).1 ++ (putS d.tasks.length 1).1) ++ tsksB d.tasks := rfl
  rw [hD]
  generalize hB : (textS d.name).1 ++ (putS d.tasks.length 1).1 = B
  have hBl : B.length ≤ 1000100 := by rw [← hB]; simp; omega
  refine x_it d.tasks.length (fun i σ H => σ = [(5, .str (B ++ tsksB (d.tasks.take i))), (23, tasksV d.tasks), (24, .int .i64 d.tasks.length), (25, .int .i64 i)]) (by simp [tsksB, tasksV]) ?_
  rintro T i σ ⟨q, m⟩ hi' rfl hN hX hR
  simp (maxSteps := 1000000) (disch := omega) only [rg, gD, Nat.reduceBEq, Nat.reduceEqDiff, Nat.reduceAdd, Int.reduceEq, Int.reduceLT, Int.reduceLE, Int.reduceToNat, reduceIte, reduceCtorEq, Nat.reduceLeDiff, Nat.reduceLT, Nat.reduceMul, Nat.reduceSub, tasksV]
  refine ⟨fun h => ?_, fun h => ?_⟩
  · have i1 : i < d.tasks.length := by omega
    obtain ⟨g1, g2, g3, g4⟩ := hi _ (List.getElem_mem i1)
    have hnl := hd _ (List.getElem_mem i1)
    have hsl := tsksB_len (l := d.tasks.take i) (N := 100) (fun t ht => hd t (List.mem_of_mem_take ht))
    rw [List.length_take] at hsl
    rw [tsksB_succ i1] at hN
    generalize tsksB (d.tasks.take i) = out at *
    have hol : (B ++ out).length ≤ 1020000 := by simp; omega
    simp (maxSteps := 1000000) (disch := omega) only [rg, gD, Nat.reduceBEq, Nat.reduceEqDiff, Nat.reduceAdd, Int.reduceEq, Int.reduceLT, Int.reduceLE, Int.reduceToNat, reduceIte, reduceCtorEq, Nat.reduceLeDiff, Nat.reduceLT, Nat.reduceMul, Nat.reduceSub, taskV, vI_len]
    generalize d.tasks[i] = t at *
    have m1 := putS_len1 t.needs.length
    refine ⟨_, ref16_number t.needs.length 1 (by omega), ?_⟩
    simp (maxSteps := 1000000) (disch := omega) only [rg, gD, Nat.reduceBEq, Nat.reduceEqDiff, Nat.reduceAdd, Int.reduceEq, Int.reduceLT, Int.reduceLE, Int.reduceToNat, reduceIte, reduceCtorEq, Nat.reduceLeDiff, Nat.reduceLT, Nat.reduceMul, Nat.reduceSub, vI_len]
    refine ⟨by omega, ?_⟩
    refine x_it t.needs.length (fun j σ H => H.m q = some (.arr 4 [taskV t]) ∧ σ = [(5, .str (((B ++ out) ++ (putS t.needs.length 1).1) ++ intsB (t.needs.take j))), (7, .ptr q 0 0), (23, tasksV d.tasks), (24, .int .i64 d.tasks.length), (25, .int .i64 i), (36, .fsl .loose 1 (vI t.needs)), (37, .int .i64 t.needs.length), (38, .int .i64 j)]) ⟨(by simp (disch := omega) only [upd_eq, upd_ne, wo_0, wo_1, wo_2, taskV]), by simp [intsB, tasksV]⟩ ?_
    rintro T2 j σ ⟨q2, m2⟩ hj ⟨f0, rfl⟩ hN2 hX2 hR2
    simp only at f0
    unfold taskV at f0
    have hil := intsB_len (t.needs.take j)
    rw [List.length_take] at hil
    have hol2 : (((B ++ out) ++ (putS t.needs.length 1).1) ++ intsB (t.needs.take j)).length ≤ 1030000 := by rw [List.length_append, List.length_append]; omega
    simp (maxSteps := 1000000) (disch := omega) only [rg, gD, Nat.reduceBEq, Nat.reduceEqDiff, Nat.reduceAdd, Int.reduceEq, Int.reduceLT, Int.reduceLE, Int.reduceToNat, reduceIte, reduceCtorEq, Nat.reduceLeDiff, Nat.reduceLT, Nat.reduceMul, Nat.reduceSub]
    refine ⟨fun h => ?_, fun h => ?_⟩
    · have j1 : j < t.needs.length := by omega
      have p1 := putS_len1 t.needs[j]
      rw [intsB_succ j1] at hN2
      generalize intsB (t.needs.take j) = o2 at *
      simp (maxSteps := 1000000) (disch := omega) only [rg, gD, Nat.reduceBEq, Nat.reduceEqDiff, Nat.reduceAdd, Int.reduceEq, Int.reduceLT, Int.reduceLE, Int.reduceToNat, reduceIte, reduceCtorEq, Nat.reduceLeDiff, Nat.reduceLT, Nat.reduceMul, Nat.reduceSub, vI_get]
      refine ⟨_, ref16_number t.needs[j] 1 (g1 _ (List.getElem_mem j1)), ?_⟩
      simp (maxSteps := 1000000) (disch := omega) only [rg, gD, Nat.reduceBEq, Nat.reduceEqDiff, Nat.reduceAdd, Int.reduceEq, Int.reduceLT, Int.reduceLE, Int.reduceToNat, reduceIte, reduceCtorEq, Nat.reduceLeDiff, Nat.reduceLT, Nat.reduceMul, Nat.reduceSub]
      refine ⟨by omega, ?_⟩
      refine hN2 _ _ j1 ?_
      refine ⟨(by simp (disch := omega) only [upd_eq, upd_ne, wo_0, wo_1, wo_2, f0, taskV]), ?_⟩
      rw [List.append_assoc]; rfl
    · obtain rfl : j = t.needs.length := by omega
      rw [List.take_length] at hol2 ⊢
      refine hX2 _ _ _ ?_
      simp (maxSteps := 1000000) (disch := omega) only [rg, gD, Nat.reduceBEq, Nat.reduceEqDiff, Nat.reduceAdd, Int.reduceEq, Int.reduceLT, Int.reduceLE, Int.reduceToNat, reduceIte, reduceCtorEq, Nat.reduceLeDiff, Nat.reduceLT, Nat.reduceMul, Nat.reduceSub]
      refine x_frz0 ?_
      have k3 := putS_len1 t.tries
      have k4 := putS_len3 t.wait
      have k5 := putS_len3 t.lease
      generalize hO : ((B ++ out) ++ (putS t.needs.length 1).1) ++ intsB t.needs = O at hol2
      simp (maxSteps := 1000000) (disch := omega) only [rg, gD, Nat.reduceBEq, Nat.reduceEqDiff, Nat.reduceAdd, Int.reduceEq, Int.reduceLT, Int.reduceLE, Int.reduceToNat, reduceIte, reduceCtorEq, Nat.reduceLeDiff, Nat.reduceLT, Nat.reduceMul, Nat.reduceSub, f0]
      refine ⟨_, ref16_number t.tries 1 g2, ?_⟩
      simp (maxSteps := 1000000) (disch := omega) only [rg, gD, Nat.reduceBEq, Nat.reduceEqDiff, Nat.reduceAdd, Int.reduceEq, Int.reduceLT, Int.reduceLE, Int.reduceToNat, reduceIte, reduceCtorEq, Nat.reduceLeDiff, Nat.reduceLT, Nat.reduceMul, Nat.reduceSub, f0]
      refine ⟨by omega, _, ref16_number t.wait 3 g3, ?_⟩
      simp (maxSteps := 1000000) (disch := omega) only [rg, gD, Nat.reduceBEq, Nat.reduceEqDiff, Nat.reduceAdd, Int.reduceEq, Int.reduceLT, Int.reduceLE, Int.reduceToNat, reduceIte, reduceCtorEq, Nat.reduceLeDiff, Nat.reduceLT, Nat.reduceMul, Nat.reduceSub, f0, List.length_append]
      refine ⟨by omega, _, ref16_number t.lease 3 g4, ?_⟩
      simp (maxSteps := 1000000) (disch := omega) only [rg, gD, Nat.reduceBEq, Nat.reduceEqDiff, Nat.reduceAdd, Int.reduceEq, Int.reduceLT, Int.reduceLE, Int.reduceToNat, reduceIte, reduceCtorEq, Nat.reduceLeDiff, Nat.reduceLT, Nat.reduceMul, Nat.reduceSub, f0, List.length_append]
      refine ⟨by omega, ?_⟩
      refine x_frz0 ?_
      simp (maxSteps := 1000000) (disch := omega) only [rg, gD, Nat.reduceBEq, Nat.reduceEqDiff, Nat.reduceAdd, Int.reduceEq, Int.reduceLT, Int.reduceLE, Int.reduceToNat, reduceIte, reduceCtorEq, Nat.reduceLeDiff, Nat.reduceLT, Nat.reduceMul, Nat.reduceSub]
      refine hN _ _ i1 ?_
      rw [← hO]
      simp only [tskB, List.append_assoc, tasksV]
      rfl
  · obtain rfl : i = d.tasks.length := by omega
    rw [List.take_length]
    refine hX _ _ _ ?_
    simp (maxSteps := 1000000) (disch := omega) only [rg, gD, Nat.reduceBEq, Nat.reduceEqDiff, Nat.reduceAdd, Int.reduceEq, Int.reduceLT, Int.reduceLE, Int.reduceToNat, reduceIte, reduceCtorEq, Nat.reduceLeDiff, Nat.reduceLT, Nat.reduceMul, Nat.reduceSub]
    refine x_frz0 ?_
    simp (maxSteps := 1000000) (disch := omega) only [rg, gD, Nat.reduceBEq, Nat.reduceEqDiff, Nat.reduceAdd, Int.reduceEq, Int.reduceLT, Int.reduceLE, Int.reduceToNat, reduceIte, reduceCtorEq, Nat.reduceLeDiff, Nat.reduceLT, Nat.reduceMul, Nat.reduceSub]
    (refine fin_x rfl ?_ ?_ <;> simp [pack, lo, loL, V.closed, closedL, mv_closed])

end Go.Proofs.Ytjlpmndipceboaa.Ev
end
section
set_option linter.unusedSimpArgs false
set_option linter.unusedVariables false
set_option maxRecDepth 10000
namespace Go.Proofs.Ytjlpmndipceboaa.Ev
open Go

theorem rdInts_stop {s : Str} {k : Nat} {r : Int × Int} (h : ¬ r.2 = 0) : rdInts s k r = ([], r) := by
  cases k with
  | zero => rfl
  | succ k => rw [rdInts, if_neg h]
theorem rdTasks_stop {s : Str} {k : Nat} {r : Int × Int} (h : ¬ r.2 = 0) : rdTasks s k r = ([], r) := by
  cases k with
  | zero => rfl
  | succ k => rw [rdTasks, if_neg h]
theorem rdInts_len (s : Str) : ∀ (k : Nat) (r : Int × Int), (rdInts s k r).1.length ≤ k
  | 0, r => by simp [rdInts]
  | k + 1, r => by
    rw [rdInts]; split
    · have := rdInts_len s k (nextS s r 1).2; simp; omega
    · simp

theorem r_read (H : Hp) (b : Nat) (s : Str) (r : Int × Int) (hs : s.length ≤ 1000000) (hb : b < H.n) (hm : H.m b = some (rdV s r)) :
    ACall Try.prog 67 [.ptr b 0 0] H [b] (dagV (rdDag s r).1) [(b, some (rdV s (rdDag s r).2))] 100000 := by
  refine ena67 (by simp) (by simp [lowL, V.low, hb]) (fun id hid => ?_) (by simp) ?_
  · simp at hid; subst hid
    exact ⟨hb, fun o ho => by rw [hm] at ho; simp at ho; subst ho; rfl⟩
  have q1 : only [b] H.m b = some (rdV s r) := by simp [only, hm]
  have q0 : ∀ id, id ≠ b → only [b] H.m id = none := fun id h => by simp [only, h]
  generalize only [b] H.m = m0 at q1 q0
  generalize H.n = n0 at hb
  simp (maxSteps := 1000000) (disch := omega) only [rg, gD, Nat.reduceBEq, Nat.reduceEqDiff, Nat.reduceAdd, Int.reduceEq, Int.reduceLT, Int.reduceLE, Int.reduceToNat, reduceIte, reduceCtorEq, Nat.reduceLeDiff, Nat.reduceLT, Nat.reduceMul, Nat.reduceSub, c67]
  refine ⟨_, _, _, _, r_text _ b s r (by omega) (by show b < n0 + 1; omega) (by simp (disch := omega) only [upd_eq, upd_ne, wo_0, wo_1, wo_2, q1]), ?_⟩
  simp (maxSteps := 1000000) (disch := omega) only [rg, gD, Nat.reduceBEq, Nat.reduceEqDiff, Nat.reduceAdd, Int.reduceEq, Int.reduceLT, Int.reduceLE, Int.reduceToNat, reduceIte, reduceCtorEq, Nat.reduceLeDiff, Nat.reduceLT, Nat.reduceMul, Nat.reduceSub]
  generalize ha : txtS s r = a
  refine ⟨_, _, _, _, r_next _ b s a.2 1 (by omega) (by show b < n0 + 1 + 1; omega) (by simp (disch := omega) only [upd_eq, upd_ne, wo_0, wo_1, wo_2]), ?_⟩
  have hn1 := nextS_lt s a.2
  simp (maxSteps := 1000000) (disch := omega) only [rg, gD, Nat.reduceBEq, Nat.reduceEqDiff, Nat.reduceAdd, Int.reduceEq, Int.reduceLT, Int.reduceLE, Int.reduceToNat, reduceIte, reduceCtorEq, Nat.reduceLeDiff, Nat.reduceLT, Nat.reduceMul, Nat.reduceSub]
  generalize hn : nextS s a.2 1 = n at hn1
  have hD : rdDag s r = (⟨a.1, (rdTasks s n.1.toNat n.2).1⟩, (rdTasks s n.1.toNat n.2).2) := by simp only [rdDag, ha, hn]
  rw [hD]
  obtain ⟨N, hN⟩ : ∃ N : Nat, n.1 = N := ⟨n.1.toNat, by omega⟩
  rw [hN] at hn1 ⊢
  rw [Int.toNat_natCast]
  refine x_it N (fun i σ H => n0 + 2 ≤ H.n ∧ H.n ≤ n0 + 2 + 257 * i ∧ ∃ out r' v, H.m b = some (rdV s r') ∧ H.m n0 = some (.arr 2 [.agg [.str [], .fsl .nil 4 []]]) ∧ H.m (n0 + 1) = some (.arr 2 [.agg [.str a.1, v]]) ∧ Gro (n0 + 2) H.n H.m 4 v (mv taskV out) ∧
    out.length = i ∧ rdTasks s N n.2 = (out ++ (rdTasks s (N - i) r').1, (rdTasks s (N - i) r').2) ∧ σ = [(0, .ptr b 0 0), (2, .ptr n0 0 0), (3, .ptr (n0 + 1) 0 0), (4, .int .i64 N), (5, .int .i64 i)]) ?_ ?_
  · exact ⟨Nat.le_refl _, Nat.le_refl _, [], n.2, _, (by simp (disch := omega) only [upd_eq, upd_ne, wo_0, wo_1, wo_2]), (by simp (disch := omega) only [upd_eq, upd_ne, wo_0, wo_1, wo_2]), (by simp (disch := omega) only [upd_eq, upd_ne, wo_0, wo_1, wo_2]), Gro.nil, rfl, by simp, rfl⟩
  rintro T i σ ⟨q, m⟩ hi ⟨hq, hq', out, r', v, e0, e1, e2, hG, hol, hrs, rfl⟩ hN2 hX hR
  simp only at hq hq' e0 e1 e2 hG
  have e0' := e0
  unfold rdV at e0'
  -- the end, once no task is read any more
  have stop : rdTasks s (N - i) r' = ([], r') → T (.exit 0) [(0, .ptr b 0 0), (2, .ptr n0 0 0), (3, .ptr (n0 + 1) 0 0), (4, .int .i64 N), (5, .int .i64 i), (23, .bool false)] ⟨q, m⟩ := fun hz => by
    rw [hz, List.append_nil] at hrs
    refine hX _ _ _ ?_
    rw [hrs]
    simp (maxSteps := 1000000) (disch := omega) only [rg, gD, Nat.reduceBEq, Nat.reduceEqDiff, Nat.reduceAdd, Int.reduceEq, Int.reduceLT, Int.reduceLE, Int.reduceToNat, reduceIte, reduceCtorEq, Nat.reduceLeDiff, Nat.reduceLT, Nat.reduceMul, Nat.reduceSub]
    obtain ⟨fz, st, f1, f2, f3⟩ := hG.frz (mv_closed taskV_closed)
    have d0 := frl_cl (fz := fz) (ids := []) e0 (by simp [closedL, V.closed]) (fun h => by have := f1 _ h; omega) (by simp)
    have d2 := frl_get (fz := fz) (ids := []) e2 (fun h => by have := f1 _ h; omega) (by simp)
    have k2 : frzV fz m (.agg [.str a.1, v]) = .agg [.str a.1, .fsl st 4 (mv taskV out)] := frzV_mid (pre := [.str a.1]) (post := []) f2 rfl rfl
    rw [List.map_cons, List.map_nil, k2] at d2
    have d1 := frl_cl (fz := fz) (ids := []) e1 (by simp [closedL, V.closed]) (fun h => by have := f1 _ h; omega) (by simp)
    refine x_frzL fz [] ?_
    simp only at d0 d1 d2 ⊢
    generalize loH [] (frzH fz m) = m' at d0 d1 d2
    simp (maxSteps := 1000000) (disch := omega) only [rg, gD, Nat.reduceBEq, Nat.reduceEqDiff, Nat.reduceAdd, Int.reduceEq, Int.reduceLT, Int.reduceLE, Int.reduceToNat, reduceIte, reduceCtorEq, Nat.reduceLeDiff, Nat.reduceLT, Nat.reduceMul, Nat.reduceSub, d1, d2]
    exact fin_A (l := [.agg [.str a.1, .fsl st 4 (mv taskV out)]]) (by simp [r67, resE, find, loadO, upd, getC]) (.inr (.inr (by simp [pack, lo, loL, dagV, tasksV, mv_lo taskV_lo]))) (by show q ≤ _; omega) (fun id => by
      by_cases h : id = b
      · right; subst h; simp [appd, upd, show id ≠ n0 by omega, d0, rdV]
      · left; simp [appd, upd, h, q0 id h])
  by_cases c1 : i < N
  case neg =>
    have hs0 := stop (by rw [show N - i = 0 by omega]; rfl)
    simp (maxSteps := 1000000) (disch := omega) only [rg, gD, Nat.reduceBEq, Nat.reduceEqDiff, Nat.reduceAdd, Int.reduceEq, Int.reduceLT, Int.reduceLE, Int.reduceToNat, reduceIte, reduceCtorEq, Nat.reduceLeDiff, Nat.reduceLT, Nat.reduceMul, Nat.reduceSub, show ¬ (i : Int) < N by omega, e0']
    exact hs0
  by_cases c2 : r'.2 = 0
  case neg =>
    have hs0 := stop (rdTasks_stop c2)
    simp (maxSteps := 1000000) (disch := omega) only [rg, gD, Nat.reduceBEq, Nat.reduceEqDiff, Nat.reduceAdd, Int.reduceEq, Int.reduceLT, Int.reduceLE, Int.reduceToNat, reduceIte, reduceCtorEq, Nat.reduceLeDiff, Nat.reduceLT, Nat.reduceMul, Nat.reduceSub, show (i : Int) < N by omega, e0', c2]
    exact hs0
  clear stop
  have hNi : N - i = (N - (i + 1)) + 1 := by omega
  rw [hNi, rdTasks, if_pos c2] at hrs
  simp only at hrs
  simp (maxSteps := 1000000) (disch := omega) only [rg, gD, Nat.reduceBEq, Nat.reduceEqDiff, Nat.reduceAdd, Int.reduceEq, Int.reduceLT, Int.reduceLE, Int.reduceToNat, reduceIte, reduceCtorEq, Nat.reduceLeDiff, Nat.reduceLT, Nat.reduceMul, Nat.reduceSub, show (i : Int) < N by omega, e0', c2]
  refine ⟨_, _, _, _, r_next _ b s r' 1 (by omega) (by show b < q + 1; omega) (by simp (disch := omega) only [upd_eq, upd_ne, wo_0, wo_1, wo_2, e0]), ?_⟩
  have hk1 := nextS_lt s r'
  simp (maxSteps := 1000000) (disch := omega) only [rg, gD, Nat.reduceBEq, Nat.reduceEqDiff, Nat.reduceAdd, Int.reduceEq, Int.reduceLT, Int.reduceLE, Int.reduceToNat, reduceIte, reduceCtorEq, Nat.reduceLeDiff, Nat.reduceLT, Nat.reduceMul, Nat.reduceSub]
  generalize hk : nextS s r' 1 = k at hk1
  obtain ⟨K, hK⟩ : ∃ K : Nat, k.1 = K := ⟨k.1.toNat, by omega⟩
  have hT : rdTask s r' = (⟨(rdInts s K k.2).1, (nextS s (rdInts s K k.2).2 1).1, (nextS s (nextS s (rdInts s K k.2).2 1).2 3).1, (nextS s (nextS s (nextS s (rdInts s K k.2).2 1).2 3).2 3).1⟩, (nextS s (nextS s (nextS s (rdInts s K k.2).2 1).2 3).2 3).2) := by
    simp only [rdTask, hk, hK, Int.toNat_natCast]
  rw [hT] at hrs
  rw [hK] at hk1 ⊢
  refine x_it K (fun j σ H => q + 1 ≤ H.n ∧ H.n ≤ q + 1 + j ∧ ∃ xs r2 w, H.m b = some (rdV s r2) ∧ H.m n0 = some (.arr 2 [.agg [.str [], .fsl .nil 4 []]]) ∧ H.m (n0 + 1) = some (.arr 2 [.agg [.str a.1, v]]) ∧ Gro (n0 + 2) q H.m 4 v (mv taskV out) ∧
    H.m q = some (.arr 4 [.agg [w, .int .i64 0, .int .i64 0, .int .i64 0]]) ∧ Gro (q + 1) H.n H.m 1 w (vI xs) ∧ xs.length = j ∧ rdInts s K k.2 = (xs ++ (rdInts s (K - j) r2).1, (rdInts s (K - j) r2).2) ∧
    σ = [(0, .ptr b 0 0), (2, .ptr n0 0 0), (3, .ptr (n0 + 1) 0 0), (4, .int .i64 N), (5, .int .i64 i), (6, .ptr q 0 0), (7, .int .i64 K), (8, .int .i64 j)]) ?_ ?_
  · exact ⟨Nat.le_refl _, Nat.le_refl _, [], k.2, _, (by simp (disch := omega) only [upd_eq, upd_ne, wo_0, wo_1, wo_2]), (by simp (disch := omega) only [upd_eq, upd_ne, wo_0, wo_1, wo_2, e1]), (by simp (disch := omega) only [upd_eq, upd_ne, wo_0, wo_1, wo_2, e2]), hG.keep (Nat.le_refl _) (fun id h1 h2 => by simp (disch := omega) only [upd_ne]), (by simp (disch := omega) only [upd_eq, upd_ne, wo_0, wo_1, wo_2]), Gro.nil, rfl, by simp, rfl⟩
  rintro T2 j σ ⟨p, m2⟩ hj ⟨hp, hp', xs, r2, w, g0, g1, g2, hGv, g3, hGw, hxl, hrx, rfl⟩ hN3 hX3 hR3
  simp only at hp hp' g0 g1 g2 hGv g3 hGw
  have g0' := g0
  unfold rdV at g0'
  have stop2 : rdInts s (K - j) r2 = ([], r2) → T2 (.exit 2) [(0, .ptr b 0 0), (2, .ptr n0 0 0), (3, .ptr (n0 + 1) 0 0), (4, .int .i64 N), (5, .int .i64 i), (6, .ptr q 0 0), (7, .int .i64 K), (8, .int .i64 j), (38, .bool false)] ⟨p, m2⟩ := fun hz => by
    rw [hz, List.append_nil] at hrx
    rw [hrx] at hrs
    simp only at hrs
    refine hX3 _ _ _ ?_
    simp (maxSteps := 1000000) (disch := omega) only [rg, gD, Nat.reduceBEq, Nat.reduceEqDiff, Nat.reduceAdd, Int.reduceEq, Int.reduceLT, Int.reduceLE, Int.reduceToNat, reduceIte, reduceCtorEq, Nat.reduceLeDiff, Nat.reduceLT, Nat.reduceMul, Nat.reduceSub]
    obtain ⟨fz, st, f1, f2, f3⟩ := hGw.frz vI_closed
    have d0 : loH [q] (frzH fz m2) b = some (rdV s r2) := frl_cl g0 (by simp [closedL, V.closed]) (fun h => by have := f1 _ h; omega) (by simp; omega)
    have d1 := frl_cl (fz := fz) (ids := [q]) g1 (by simp [closedL, V.closed]) (fun h => by have := f1 _ h; omega) (by simp; omega)
    have d2 := frl_get (fz := fz) (ids := [q]) g2 (fun h => by have := f1 _ h; omega) (by simp; omega)
    have k2 : frzV fz m2 (.agg [.str a.1, v]) = .agg [.str a.1, v] := hGv.frz_keep (pre := [.str a.1]) (post := []) (fun id h => by have := f1 _ h; omega) rfl rfl
    rw [List.map_cons, List.map_nil, k2] at d2
    have d3 := frl_lo (fz := fz) (ids := [q]) g3 (fun h => by have := f1 _ h; omega) (by simp)
    have k3 : frzV fz m2 (.agg [w, .int .i64 0, .int .i64 0, .int .i64 0]) = .agg [.fsl st 1 (vI xs), .int .i64 0, .int .i64 0, .int .i64 0] := frzV_mid (pre := []) (post := [.int .i64 0, .int .i64 0, .int .i64 0]) f2 rfl rfl
    rw [List.map_cons, List.map_nil, k3] at d3
    have dG := hGv.frl (n' := q) (fz := fz) (ids := [q]) (mv_closed taskV_closed) (by omega) (fun id h => by have := f1 _ h; omega) (by simp)
    refine x_frzL fz [q] ?_
    simp only at d0 d1 d2 d3 dG ⊢
    generalize loH [q] (frzH fz m2) = m3 at d0 d1 d2 d3 dG
    simp only [loL, lo, vI_lo] at d3
    simp (maxSteps := 1000000) (disch := omega) only [rg, gD, Nat.reduceBEq, Nat.reduceEqDiff, Nat.reduceAdd, Int.reduceEq, Int.reduceLT, Int.reduceLE, Int.reduceToNat, reduceIte, reduceCtorEq, Nat.reduceLeDiff, Nat.reduceLT, Nat.reduceMul, Nat.reduceSub]
    refine ⟨_, _, _, _, r_next _ b s r2 1 (by omega) (by show b < p; omega) (by simp (disch := omega) only [upd_eq, upd_ne, wo_0, wo_1, wo_2, d0]), ?_⟩
    simp (maxSteps := 1000000) (disch := omega) only [rg, gD, Nat.reduceBEq, Nat.reduceEqDiff, Nat.reduceAdd, Int.reduceEq, Int.reduceLT, Int.reduceLE, Int.reduceToNat, reduceIte, reduceCtorEq, Nat.reduceLeDiff, Nat.reduceLT, Nat.reduceMul, Nat.reduceSub, d3]
    generalize nextS s r2 1 = t1 at hrs
    refine ⟨_, _, _, _, r_next _ b s t1.2 3 (by omega) (by show b < p; omega) (by simp (disch := omega) only [upd_eq, upd_ne, wo_0, wo_1, wo_2]), ?_⟩
    simp (maxSteps := 1000000) (disch := omega) only [rg, gD, Nat.reduceBEq, Nat.reduceEqDiff, Nat.reduceAdd, Int.reduceEq, Int.reduceLT, Int.reduceLE, Int.reduceToNat, reduceIte, reduceCtorEq, Nat.reduceLeDiff, Nat.reduceLT, Nat.reduceMul, Nat.reduceSub]
    generalize nextS s t1.2 3 = t2 at hrs
    refine ⟨_, _, _, _, r_next _ b s t2.2 3 (by omega) (by show b < p; omega) (by simp (disch := omega) only [upd_eq, upd_ne, wo_0, wo_1, wo_2]), ?_⟩
    simp (maxSteps := 1000000) (disch := omega) only [rg, gD, Nat.reduceBEq, Nat.reduceEqDiff, Nat.reduceAdd, Int.reduceEq, Int.reduceLT, Int.reduceLE, Int.reduceToNat, reduceIte, reduceCtorEq, Nat.reduceLeDiff, Nat.reduceLT, Nat.reduceMul, Nat.reduceSub, d2]
    generalize nextS s t2.2 3 = t3 at hrs
    generalize hrow : Task.mk xs t1.1 t2.1 t3.1 = tk at hrs
    have htv : V.agg [.fsl .loose 1 (vI xs), .int .i64 t1.1, .int .i64 t2.1, .int .i64 t3.1] = taskV tk := by rw [← hrow]; rfl
    refine app_gro (l := mv taskV out) (ys := [taskV tk]) (dG.keep (by show q ≤ p; omega) (fun id h1 h2 => by simp (disch := omega) only [upd_ne])) (by show n0 + 2 ≤ p; omega) (by rw [← htv]; rfl) (by simp) (by simp [mv_len]; omega) ?_
    intro v' fp ds hG' h1' h2'
    simp only at hG' h1' h2'
    have z0 := h1' b (by omega)
    have z1 := h1' n0 (by omega)
    have z2 := h1' (n0 + 1) (by omega)
    simp (disch := omega) only [upd_eq, upd_ne, d1, d2] at z0 z1 z2
    rw [x_nx]
    refine ⟨by simp only [compat_nil], ?_⟩
    simp only []
    generalize appd ds _ = m5 at hG' z0 z1 z2 ⊢
    rw [mv_app1] at hG'
    simp (maxSteps := 1000000) (disch := omega) only [rg, gD, Nat.reduceBEq, Nat.reduceEqDiff, Nat.reduceAdd, Int.reduceEq, Int.reduceLT, Int.reduceLE, Int.reduceToNat, reduceIte, reduceCtorEq, Nat.reduceLeDiff, Nat.reduceLT, Nat.reduceMul, Nat.reduceSub, z2, hG'.cell]
    refine x_frz0 ?_
    simp (maxSteps := 1000000) (disch := omega) only [rg, gD, Nat.reduceBEq, Nat.reduceEqDiff, Nat.reduceAdd, Int.reduceEq, Int.reduceLT, Int.reduceLE, Int.reduceToNat, reduceIte, reduceCtorEq, Nat.reduceLeDiff, Nat.reduceLT, Nat.reduceMul, Nat.reduceSub]
    refine hN2 _ _ c1 ?_
    refine ⟨by show n0 + 2 ≤ p + 1; omega, by show p + 1 ≤ _; omega, out ++ [tk], t3.2, v', (by simp (disch := omega) only [upd_eq, upd_ne, wo_0, wo_1, wo_2, z0]), (by simp (disch := omega) only [upd_eq, upd_ne, wo_0, wo_1, wo_2, z1]), (by simp (disch := omega) only [upd_eq, upd_ne, wo_0, wo_1, wo_2]), hG'.keep (Nat.le_refl _) (fun id h1 h2 => by simp (disch := omega) only [upd_ne]), by simp [hol], by rw [hrs]; simp, rfl⟩
  by_cases c3 : j < K
  case neg =>
    have hs0 := stop2 (by rw [show K - j = 0 by omega]; rfl)
    simp (maxSteps := 1000000) (disch := omega) only [rg, gD, Nat.reduceBEq, Nat.reduceEqDiff, Nat.reduceAdd, Int.reduceEq, Int.reduceLT, Int.reduceLE, Int.reduceToNat, reduceIte, reduceCtorEq, Nat.reduceLeDiff, Nat.reduceLT, Nat.reduceMul, Nat.reduceSub, show ¬ (j : Int) < K by omega, g0']
    exact hs0
  by_cases c4 : r2.2 = 0
  case neg =>
    have hs0 := stop2 (rdInts_stop c4)
    simp (maxSteps := 1000000) (disch := omega) only [rg, gD, Nat.reduceBEq, Nat.reduceEqDiff, Nat.reduceAdd, Int.reduceEq, Int.reduceLT, Int.reduceLE, Int.reduceToNat, reduceIte, reduceCtorEq, Nat.reduceLeDiff, Nat.reduceLT, Nat.reduceMul, Nat.reduceSub, show (j : Int) < K by omega, g0', c4]
    exact hs0
  clear stop2
  have hKj : K - j = (K - (j + 1)) + 1 := by omega
  rw [hKj, rdInts, if_pos c4] at hrx
  simp only at hrx
  simp (maxSteps := 1000000) (disch := omega) only [rg, gD, Nat.reduceBEq, Nat.reduceEqDiff, Nat.reduceAdd, Int.reduceEq, Int.reduceLT, Int.reduceLE, Int.reduceToNat, reduceIte, reduceCtorEq, Nat.reduceLeDiff, Nat.reduceLT, Nat.reduceMul, Nat.reduceSub, show (j : Int) < K by omega, g0', c4, g3]
  refine ⟨_, _, _, _, r_next _ b s r2 1 (by omega) (by show b < p; omega) (by simp (disch := omega) only [upd_eq, upd_ne, wo_0, wo_1, wo_2, g0]), ?_⟩
  simp (maxSteps := 1000000) (disch := omega) only [rg, gD, Nat.reduceBEq, Nat.reduceEqDiff, Nat.reduceAdd, Int.reduceEq, Int.reduceLT, Int.reduceLE, Int.reduceToNat, reduceIte, reduceCtorEq, Nat.reduceLeDiff, Nat.reduceLT, Nat.reduceMul, Nat.reduceSub]
  refine ⟨by simp [compat, disj, nthL]; omega, ?_⟩
  generalize nextS s r2 1 = t1 at hrx
  refine app_gro (l := vI xs) (ys := [.int .i64 t1.1]) (hGw.keep (Nat.le_refl _) (fun id h1 h2 => by simp (disch := omega) only [upd_ne])) hp rfl (by simp) (by simp [vI_len]; omega) ?_
  intro w' fp ds hG' h1' h2'
  simp only at hG' h1' h2'
  have z0 := h1' b (by omega)
  have z1 := h1' n0 (by omega)
  have z2 := h1' (n0 + 1) (by omega)
  have z3 := h1' q (by omega)
  have zG := hGv.keep (n' := q) (m' := appd ds (upd m2 b (some (rdV s t1.2)))) (Nat.le_refl _) (fun id h1 h2 => by rw [h1' id (by omega)]; simp (disch := omega) only [upd_ne])
  simp (disch := omega) only [upd_eq, upd_ne, g1, g2, g3] at z0 z1 z2 z3
  rw [x_nx]
  refine ⟨by simp only [compat_nil], ?_⟩
  simp only []
  generalize appd ds _ = m5 at hG' z0 z1 z2 z3 zG ⊢
  rw [show vI xs ++ [.int .i64 t1.1] = vI (xs ++ [t1.1]) from mv_app1] at hG'
  simp (maxSteps := 1000000) (disch := omega) only [rg, gD, Nat.reduceBEq, Nat.reduceEqDiff, Nat.reduceAdd, Int.reduceEq, Int.reduceLT, Int.reduceLE, Int.reduceToNat, reduceIte, reduceCtorEq, Nat.reduceLeDiff, Nat.reduceLT, Nat.reduceMul, Nat.reduceSub, z3, hG'.cell]
  refine hN3 _ _ (by omega) ?_
  refine ⟨by show q + 1 ≤ p + 1; omega, by show p + 1 ≤ _; omega, xs ++ [t1.1], t1.2, w', (by simp (disch := omega) only [upd_eq, upd_ne, wo_0, wo_1, wo_2, z0]), (by simp (disch := omega) only [upd_eq, upd_ne, wo_0, wo_1, wo_2, z1]), (by simp (disch := omega) only [upd_eq, upd_ne, wo_0, wo_1, wo_2, z2]), zG.keep (Nat.le_refl _) (fun id h1 h2 => by simp (disch := omega) only [upd_ne]), (by simp (disch := omega) only [upd_eq, upd_ne, wo_0, wo_1, wo_2]), hG'.keep (Nat.le_refl _) (fun id h1 h2 => by simp (disch := omega) only [upd_ne]), by simp [hxl], by rw [hrx]; simp, rfl⟩

end Go.Proofs.Ytjlpmndipceboaa.Ev
end
section
set_option linter.unusedSimpArgs false
set_option linter.unusedVariables false
set_option maxRecDepth 10000
namespace Go.Proofs.Ytjlpmndipceboaa.Ev
open Go

theorem dag_next (H : Hp) (b1 b2 b3 : Nat) (s : Str) (r : Int × Int) (k : Int) (hs : s.length ≤ 1000000000) (h1 : b1 < H.n) (h2 : b2 < H.n) (h3 : b3 < H.n) (h12 : b1 ≠ b2) (h13 : b1 ≠ b3) (h23 : b2 ≠ b3)
    (m1 : H.m b1 = some (.arr 1 [.int .i64 r.2])) (m2 : H.m b2 = some (.arr 1 [.str s])) (m3 : H.m b3 = some (.arr 1 [.int .i64 r.1])) :
    ACall Try.prog 66 [.int .i64 k, .ptr b1 0 0, .ptr b2 0 0, .ptr b3 0 0] H [b1, b2, b3] (.int .i64 (nextS s r k).1) [(b3, some (.arr 1 [.int .i64 (nextS s r k).2.1])), (b1, some (.arr 1 [.int .i64 (nextS s r k).2.2]))] 0 := by
  refine ena66 (by simp) (by simp [lowL, V.low, h1, h2, h3]) (fun id hid => ?_) (by simp) ?_
  · simp at hid
    rcases hid with rfl | rfl | rfl
    · exact ⟨h1, fun o ho => by rw [m1] at ho; simp at ho; subst ho; rfl⟩
    · exact ⟨h2, fun o ho => by rw [m2] at ho; simp at ho; subst ho; rfl⟩
    · exact ⟨h3, fun o ho => by rw [m3] at ho; simp at ho; subst ho; rfl⟩
  have q1 : only [b1, b2, b3] H.m b1 = some (.arr 1 [.int .i64 r.2]) := by simp [only, m1]
  have q2 : only [b1, b2, b3] H.m b2 = some (.arr 1 [.str s]) := by simp [only, m2]
  have q3 : only [b1, b2, b3] H.m b3 = some (.arr 1 [.int .i64 r.1]) := by simp [only, m3]
  generalize only [b1, b2, b3] H.m = m0 at q1 q2 q3
  by_cases c : r.2 = 0
  · have hS : nextS s r k = getS s r.1 k := by rw [nextS, if_pos c]
    rw [hS]
    simp (maxSteps := 1000000) (disch := omega) only [rg, gD, Nat.reduceBEq, Nat.reduceEqDiff, Nat.reduceAdd, Int.reduceEq, Int.reduceLT, Int.reduceLE, Int.reduceToNat, reduceIte, reduceCtorEq, Nat.reduceLeDiff, Nat.reduceLT, Nat.reduceMul, Nat.reduceSub, c66, q1, q2, q3, c]
    refine ⟨_, code_get s r.1 k hs, ?_⟩
    simp (maxSteps := 1000000) (disch := omega) only [rg, gD, Nat.reduceBEq, Nat.reduceEqDiff, Nat.reduceAdd, Int.reduceEq, Int.reduceLT, Int.reduceLE, Int.reduceToNat, reduceIte, reduceCtorEq, Nat.reduceLeDiff, Nat.reduceLT, Nat.reduceMul, Nat.reduceSub, gV, q1, q3]
    exact fin_A (l := [.int .i64 (getS s r.1 k).1]) rfl (.inl rfl) (by simp) (fun id => .inr (by
      by_cases e1 : id = b1
      · subst e1; simp [appd, upd]
      · by_cases e3 : id = b3
        · subst e3; simp [appd, upd, e1]
        · simp [appd, upd, e1, e3]))
  · have hS : nextS s r k = (0, r) := by rw [nextS, if_neg c]
    rw [hS]
    simp (maxSteps := 1000000) (disch := omega) only [rg, gD, Nat.reduceBEq, Nat.reduceEqDiff, Nat.reduceAdd, Int.reduceEq, Int.reduceLT, Int.reduceLE, Int.reduceToNat, reduceIte, reduceCtorEq, Nat.reduceLeDiff, Nat.reduceLT, Nat.reduceMul, Nat.reduceSub, c66, q1, c]
    exact fin_A (l := [.int .i64 0]) rfl (.inl rfl) (by simp) (fun id => .inr (by
      by_cases e1 : id = b1
      · subst e1; simp [appd, upd, q1]
      · by_cases e3 : id = b3
        · subst e3; simp [appd, upd, e1, q3]
        · simp [appd, upd, e1, e3]))

theorem rdTasks_len (s : Str) : ∀ (k : Nat) (r : Int × Int), (rdTasks s k r).1.length ≤ k ∧ ∀ t ∈ (rdTasks s k r).1, t.needs.length ≤ 255
  | 0, r => by simp [rdTasks]
  | k + 1, r => by
    rw [rdTasks]; split
    · have := rdTasks_len s k (rdTask s r).2
      refine ⟨by simp; omega, fun t ht => ?_⟩
      rcases List.mem_cons.1 ht with rfl | ht
      · simp only [rdTask]
        have h1 := rdInts_len s (nextS s r 1).1.toNat (nextS s r 1).2
        have h2 := nextS_lt s r
        omega
      · exact this.2 t ht
    · simp
theorem rdDag_len (s : Str) (r : Int × Int) : (rdDag s r).1.tasks.length ≤ 255 ∧ (∀ t ∈ (rdDag s r).1.tasks, t.needs.length ≤ 255) ∧ (rdDag s r).1.name.length ≤ s.length := by
  have h1 := rdTasks_len s (nextS s (txtS s r).2 1).1.toNat (nextS s (txtS s r).2 1).2
  have h2 := nextS_lt s (txtS s r).2
  refine ⟨by simp only [rdDag]; omega, h1.2, ?_⟩
  simp only [rdDag, txtS]; split
  · exact cutS_len _ _
  · simp

def dagP (p : Dag × Int) : V := .tup [dagV p.1, .int .i64 p.2]
theorem dag_get (s : Str) (hs : s.length ≤ 1000000) : PCall Try.prog 37 [.str s] (dagP (dagGetS s)) := by
  refine en37 (by simp) (by simp [closedL, V.closed]) ?_
  simp (maxSteps := 1000000) (disch := omega) only [rg, gD, Nat.reduceBEq, Nat.reduceEqDiff, Nat.reduceAdd, Int.reduceEq, Int.reduceLT, Int.reduceLE, Int.reduceToNat, reduceIte, reduceCtorEq, Nat.reduceLeDiff, Nat.reduceLT, Nat.reduceMul, Nat.reduceSub, c37]
  refine ⟨_, code_cut s 0 (by omega), ?_⟩
  have ha : txtS s (0, 0) = cutS s 0 := by simp [txtS]
  rw [← ha]
  generalize ha' : txtS s (0, 0) = a
  simp (maxSteps := 1000000) (disch := omega) only [rg, gD, Nat.reduceBEq, Nat.reduceEqDiff, Nat.reduceAdd, Int.reduceEq, Int.reduceLT, Int.reduceLE, Int.reduceToNat, reduceIte, reduceCtorEq, Nat.reduceLeDiff, Nat.reduceLT, Nat.reduceMul, Nat.reduceSub, cV]
  refine ⟨_, _, _, _, dag_next _ 3 0 2 s a.2 1 (by omega) (by simp) (by simp) (by simp) (by simp) (by simp) (by simp) (by simp (disch := omega) only [upd_eq, upd_ne, wo_0, wo_1, wo_2]) (by simp (disch := omega) only [upd_eq, upd_ne, wo_0, wo_1, wo_2]) (by simp (disch := omega) only [upd_eq, upd_ne, wo_0, wo_1, wo_2]), ?_⟩
  have hn1 := nextS_lt s a.2
  simp (maxSteps := 1000000) (disch := omega) only [rg, gD, Nat.reduceBEq, Nat.reduceEqDiff, Nat.reduceAdd, Int.reduceEq, Int.reduceLT, Int.reduceLE, Int.reduceToNat, reduceIte, reduceCtorEq, Nat.reduceLeDiff, Nat.reduceLT, Nat.reduceMul, Nat.reduceSub]
  generalize hn : nextS s a.2 1 = n at hn1
  have hD : rdDag s (0, 0) = (⟨a.1, (rdTasks s n.1.toNat n.2).1⟩, (rdTasks s n.1.toNat n.2).2) := by simp only [rdDag, ha', hn]
  have hDl := rdDag_len s (0, 0)
  obtain ⟨N, hN⟩ : ∃ N : Nat, n.1 = N := ⟨n.1.toNat, by omega⟩
  rw [hN] at hn1 hD ⊢
  rw [Int.toNat_natCast] at hD
  refine x_it N (fun i σ H => 5 ≤ H.n ∧ ∃ out r' v, H.m 0 = some (.arr 1 [.str s]) ∧ H.m 1 = some (.arr 2 [.agg [.str [], .fsl .nil 4 []]]) ∧ H.m 2 = some (.arr 1 [.int .i64 r'.1]) ∧ H.m 3 = some (.arr 1 [.int .i64 r'.2]) ∧ H.m 4 = some (.arr 2 [.agg [.str a.1, v]]) ∧ Gro 5 H.n H.m 4 v (mv taskV out) ∧
    out.length = i ∧ rdTasks s N n.2 = (out ++ (rdTasks s (N - i) r').1, (rdTasks s (N - i) r').2) ∧ σ = [(1, .ptr 0 0 0), (2, .ptr 1 0 0), (5, .ptr 2 0 0), (6, .ptr 3 0 0), (7, .fn 66 [] [.ptr 3 0 0, .ptr 0 0 0, .ptr 2 0 0]), (8, .ptr 4 0 0), (9, .int .i64 (N - i : Nat))]) ?_ ?_
  · exact ⟨Nat.le_refl _, [], n.2, _, (by simp (disch := omega) only [upd_eq, upd_ne, wo_0, wo_1, wo_2]), (by simp (disch := omega) only [upd_eq, upd_ne, wo_0, wo_1, wo_2]), (by simp (disch := omega) only [upd_eq, upd_ne, wo_0, wo_1, wo_2]), (by simp (disch := omega) only [upd_eq, upd_ne, wo_0, wo_1, wo_2]), (by simp (disch := omega) only [upd_eq, upd_ne, wo_0, wo_1, wo_2]), Gro.nil, rfl, by simp, rfl⟩
  rintro T i σ ⟨q, m⟩ hi ⟨hq, out, r', v, x0, x1, x2, x3, x4, hG, hol, hrs, rfl⟩ hN2 hX hR
  simp only at hq x0 x1 x2 x3 x4 hG
  -- the end, once no task is read any more
  have stop : rdTasks s (N - i) r' = ([], r') → T (.exit 0) [(1, .ptr 0 0 0), (2, .ptr 1 0 0), (5, .ptr 2 0 0), (6, .ptr 3 0 0), (7, .fn 66 [] [.ptr 3 0 0, .ptr 0 0 0, .ptr 2 0 0]), (8, .ptr 4 0 0), (9, .int .i64 (N - i : Nat)), (29, .bool false)] ⟨q, m⟩ := fun hz => by
    rw [hz, List.append_nil] at hrs
    rw [hrs] at hD
    rw [hD] at hDl
    refine hX _ _ _ ?_
    simp (maxSteps := 1000000) (disch := omega) only [rg, gD, Nat.reduceBEq, Nat.reduceEqDiff, Nat.reduceAdd, Int.reduceEq, Int.reduceLT, Int.reduceLE, Int.reduceToNat, reduceIte, reduceCtorEq, Nat.reduceLeDiff, Nat.reduceLT, Nat.reduceMul, Nat.reduceSub]
    obtain ⟨fz, st, f1, f2, f3⟩ := hG.frz (mv_closed taskV_closed)
    have d0 := frl_cl (fz := fz) (ids := [4]) x0 rfl (fun h => by have := f1 _ h; omega) (by simp)
    have d1 := frl_cl (fz := fz) (ids := [4]) x1 rfl (fun h => by have := f1 _ h; omega) (by simp)
    have d2 := frl_cl (fz := fz) (ids := [4]) x2 rfl (fun h => by have := f1 _ h; omega) (by simp)
    have d3 := frl_cl (fz := fz) (ids := [4]) x3 rfl (fun h => by have := f1 _ h; omega) (by simp)
    have k4 : frzV fz m (.agg [.str a.1, v]) = .agg [.str a.1, .fsl st 4 (mv taskV out)] := frzV_mid (pre := [.str a.1]) (post := []) f2 rfl rfl
    have d4 := frl_lo (fz := fz) (ids := [4]) x4 (fun h => by have := f1 _ h; omega) (by simp)
    rw [List.map_cons, List.map_nil, k4] at d4
    simp only [loL, lo, mv_lo taskV_lo] at d4
    refine x_frzL fz [4] ?_
    simp only at d0 d1 d2 d3 d4 ⊢
    generalize loH [4] (frzH fz m) = m' at d0 d1 d2 d3 d4
    have kr := dag_right ⟨a.1, out⟩ (fun t ht => Nat.le_trans (hDl.2.1 t ht) (by omega)) (Nat.le_trans hDl.1 (by omega))
    rw [← right_same] at kr
    unfold dagV tasksV at kr
    simp only at kr
    by_cases c1 : r'.2 = 0
    case neg =>
      simp (maxSteps := 1000000) (disch := omega) only [rg, gD, Nat.reduceBEq, Nat.reduceEqDiff, Nat.reduceAdd, Int.reduceEq, Int.reduceLT, Int.reduceLE, Int.reduceToNat, reduceIte, reduceCtorEq, Nat.reduceLeDiff, Nat.reduceLT, Nat.reduceMul, Nat.reduceSub, d3, c1, d1]
      refine ⟨by simp [compat, disj, nthL], ?_⟩
      (refine fin_x rfl ?_ ?_ <;> simp [pack, lo, loL, V.closed, closedL, mv_closed, dagP, dagGetS, hD, c1, zeroD, dagV, tasksV, mv])
    by_cases c2 : r'.1 = s.length
    case neg =>
      simp (maxSteps := 1000000) (disch := omega) only [rg, gD, Nat.reduceBEq, Nat.reduceEqDiff, Nat.reduceAdd, Int.reduceEq, Int.reduceLT, Int.reduceLE, Int.reduceToNat, reduceIte, reduceCtorEq, Nat.reduceLeDiff, Nat.reduceLT, Nat.reduceMul, Nat.reduceSub, d0, d1, d2, d3, c1, c2]
      (refine fin_x rfl ?_ ?_ <;> simp [pack, lo, loL, V.closed, closedL, mv_closed, dagP, dagGetS, hD, c1, c2, zeroD, dagV, tasksV, mv])
    simp (maxSteps := 1000000) (disch := omega) only [rg, gD, Nat.reduceBEq, Nat.reduceEqDiff, Nat.reduceAdd, Int.reduceEq, Int.reduceLT, Int.reduceLE, Int.reduceToNat, reduceIte, reduceCtorEq, Nat.reduceLeDiff, Nat.reduceLT, Nat.reduceMul, Nat.reduceSub, d0, d1, d2, d3, d4, c1, c2]
    refine ⟨_, kr, ?_⟩
    by_cases c3 : refRightS ⟨a.1, out⟩ = 0
    case neg =>
      simp (maxSteps := 1000000) (disch := omega) only [rg, gD, Nat.reduceBEq, Nat.reduceEqDiff, Nat.reduceAdd, Int.reduceEq, Int.reduceLT, Int.reduceLE, Int.reduceToNat, reduceIte, reduceCtorEq, Nat.reduceLeDiff, Nat.reduceLT, Nat.reduceMul, Nat.reduceSub, d1, c3]
      (refine fin_x rfl ?_ ?_ <;> simp [pack, lo, loL, V.closed, closedL, mv_closed, dagP, dagGetS, hD, c1, c2, c3, zeroD, dagV, tasksV, mv])
    simp (maxSteps := 1000000) (disch := omega) only [rg, gD, Nat.reduceBEq, Nat.reduceEqDiff, Nat.reduceAdd, Int.reduceEq, Int.reduceLT, Int.reduceLE, Int.reduceToNat, reduceIte, reduceCtorEq, Nat.reduceLeDiff, Nat.reduceLT, Nat.reduceMul, Nat.reduceSub, d1, d4, c3]
    (refine fin_x rfl ?_ ?_ <;> simp [pack, lo, loL, V.closed, closedL, mv_closed, dagP, dagGetS, hD, c1, c2, c3, dagV, tasksV, mv_closed taskV_closed, mv_lo taskV_lo])
  by_cases c1 : i < N
  case neg =>
    have hs0 := stop (by rw [show N - i = 0 by omega]; rfl)
    simp (maxSteps := 1000000) (disch := omega) only [rg, gD, Nat.reduceBEq, Nat.reduceEqDiff, Nat.reduceAdd, Int.reduceEq, Int.reduceLT, Int.reduceLE, Int.reduceToNat, reduceIte, reduceCtorEq, Nat.reduceLeDiff, Nat.reduceLT, Nat.reduceMul, Nat.reduceSub, show ¬ (0 : Int) < (N - i : Nat) by omega]
    exact hs0
  by_cases c2 : r'.2 = 0
  case neg =>
    have hs0 := stop (rdTasks_stop c2)
    simp (maxSteps := 1000000) (disch := omega) only [rg, gD, Nat.reduceBEq, Nat.reduceEqDiff, Nat.reduceAdd, Int.reduceEq, Int.reduceLT, Int.reduceLE, Int.reduceToNat, reduceIte, reduceCtorEq, Nat.reduceLeDiff, Nat.reduceLT, Nat.reduceMul, Nat.reduceSub, show (0 : Int) < (N - i : Nat) by omega, x3, c2]
    exact hs0
  clear stop
  have hNi : N - i = (N - (i + 1)) + 1 := by omega
  have hdec : ((N - i : Nat) : Int) - 1 = (N - (i + 1) : Nat) := by omega
  have hpos : (0 : Int) < (N - i : Nat) := by omega
  rw [hNi, rdTasks, if_pos c2] at hrs
  simp only at hrs
  simp (maxSteps := 1000000) (disch := omega) only [rg, gD, Nat.reduceBEq, Nat.reduceEqDiff, Nat.reduceAdd, Int.reduceEq, Int.reduceLT, Int.reduceLE, Int.reduceToNat, reduceIte, reduceCtorEq, Nat.reduceLeDiff, Nat.reduceLT, Nat.reduceMul, Nat.reduceSub, hpos, x3, c2]
  refine ⟨_, _, _, _, dag_next _ 3 0 2 s r' 1 (by omega) (by show 3 < q + 1; omega) (by show 0 < q + 1; omega) (by show 2 < q + 1; omega) (by simp) (by simp) (by simp) (by simp (disch := omega) only [upd_eq, upd_ne, wo_0, wo_1, wo_2, x3]) (by simp (disch := omega) only [upd_eq, upd_ne, wo_0, wo_1, wo_2, x0]) (by simp (disch := omega) only [upd_eq, upd_ne, wo_0, wo_1, wo_2, x2]), ?_⟩
  have hk1 := nextS_lt s r'
  simp (maxSteps := 1000000) (disch := omega) only [rg, gD, Nat.reduceBEq, Nat.reduceEqDiff, Nat.reduceAdd, Int.reduceEq, Int.reduceLT, Int.reduceLE, Int.reduceToNat, reduceIte, reduceCtorEq, Nat.reduceLeDiff, Nat.reduceLT, Nat.reduceMul, Nat.reduceSub]
  generalize hk : nextS s r' 1 = k at hk1
  obtain ⟨K, hK⟩ : ∃ K : Nat, k.1 = K := ⟨k.1.toNat, by omega⟩
  have hT : rdTask s r' = (⟨(rdInts s K k.2).1, (nextS s (rdInts s K k.2).2 1).1, (nextS s (nextS s (rdInts s K k.2).2 1).2 3).1, (nextS s (nextS s (nextS s (rdInts s K k.2).2 1).2 3).2 3).1⟩, (nextS s (nextS s (nextS s (rdInts s K k.2).2 1).2 3).2 3).2) := by
    simp only [rdTask, hk, hK, Int.toNat_natCast]
  rw [hT] at hrs
  rw [hK] at hk1 ⊢
  refine x_it K (fun j σ H => q + 1 ≤ H.n ∧ ∃ xs r2 w, H.m 0 = some (.arr 1 [.str s]) ∧ H.m 1 = some (.arr 2 [.agg [.str [], .fsl .nil 4 []]]) ∧ H.m 2 = some (.arr 1 [.int .i64 r2.1]) ∧ H.m 3 = some (.arr 1 [.int .i64 r2.2]) ∧ H.m 4 = some (.arr 2 [.agg [.str a.1, v]]) ∧ Gro 5 q H.m 4 v (mv taskV out) ∧
    H.m q = some (.arr 4 [.agg [w, .int .i64 0, .int .i64 0, .int .i64 0]]) ∧ Gro (q + 1) H.n H.m 1 w (vI xs) ∧ xs.length = j ∧ rdInts s K k.2 = (xs ++ (rdInts s (K - j) r2).1, (rdInts s (K - j) r2).2) ∧
    σ = [(1, .ptr 0 0 0), (2, .ptr 1 0 0), (5, .ptr 2 0 0), (6, .ptr 3 0 0), (7, .fn 66 [] [.ptr 3 0 0, .ptr 0 0 0, .ptr 2 0 0]), (8, .ptr 4 0 0), (9, .int .i64 (N - i : Nat)), (10, .ptr q 0 0), (11, .int .i64 (K - j : Nat))]) ?_ ?_
  · exact ⟨Nat.le_refl _, [], k.2, _, (by simp (disch := omega) only [upd_eq, upd_ne, wo_0, wo_1, wo_2, x0]), (by simp (disch := omega) only [upd_eq, upd_ne, wo_0, wo_1, wo_2, x1]), (by simp (disch := omega) only [upd_eq, upd_ne, wo_0, wo_1, wo_2]), (by simp (disch := omega) only [upd_eq, upd_ne, wo_0, wo_1, wo_2]), (by simp (disch := omega) only [upd_eq, upd_ne, wo_0, wo_1, wo_2, x4]), hG.keep (Nat.le_refl _) (fun id h1 h2 => by simp (disch := omega) only [upd_ne]), (by simp (disch := omega) only [upd_eq, upd_ne, wo_0, wo_1, wo_2]), Gro.nil, rfl, by simp, rfl⟩
  rintro T2 j σ ⟨p, m2⟩ hj ⟨hp, xs, r2, w, y0, y1, y2, y3, y4, hGv, yq, hGw, hxl, hrx, rfl⟩ hN3 hX3 hR3
  simp only at hp y0 y1 y2 y3 y4 hGv yq hGw
  have stop2 : rdInts s (K - j) r2 = ([], r2) → T2 (.exit 2) [(1, .ptr 0 0 0), (2, .ptr 1 0 0), (5, .ptr 2 0 0), (6, .ptr 3 0 0), (7, .fn 66 [] [.ptr 3 0 0, .ptr 0 0 0, .ptr 2 0 0]), (8, .ptr 4 0 0), (9, .int .i64 (N - i : Nat)), (10, .ptr q 0 0), (11, .int .i64 (K - j : Nat)), (39, .bool false)] ⟨p, m2⟩ := fun hz => by
    rw [hz, List.append_nil] at hrx
    rw [hrx] at hrs
    simp only at hrs
    refine hX3 _ _ _ ?_
    simp (maxSteps := 1000000) (disch := omega) only [rg, gD, Nat.reduceBEq, Nat.reduceEqDiff, Nat.reduceAdd, Int.reduceEq, Int.reduceLT, Int.reduceLE, Int.reduceToNat, reduceIte, reduceCtorEq, Nat.reduceLeDiff, Nat.reduceLT, Nat.reduceMul, Nat.reduceSub]
    obtain ⟨fz, st, f1, f2, f3⟩ := hGw.frz vI_closed
    have d0 := frl_cl (fz := fz) (ids := [q]) y0 rfl (fun h => by have := f1 _ h; omega) (by simp; omega)
    have d1 := frl_cl (fz := fz) (ids := [q]) y1 rfl (fun h => by have := f1 _ h; omega) (by simp; omega)
    have d2 := frl_cl (fz := fz) (ids := [q]) y2 rfl (fun h => by have := f1 _ h; omega) (by simp; omega)
    have d3 := frl_cl (fz := fz) (ids := [q]) y3 rfl (fun h => by have := f1 _ h; omega) (by simp; omega)
    have k4 : frzV fz m2 (.agg [.str a.1, v]) = .agg [.str a.1, v] := hGv.frz_keep (pre := [.str a.1]) (post := []) (fun id h => by have := f1 _ h; omega) rfl rfl
    have d4 := frl_get (fz := fz) (ids := [q]) y4 (fun h => by have := f1 _ h; omega) (by simp; omega)
    rw [List.map_cons, List.map_nil, k4] at d4
    have kq : frzV fz m2 (.agg [w, .int .i64 0, .int .i64 0, .int .i64 0]) = .agg [.fsl st 1 (vI xs), .int .i64 0, .int .i64 0, .int .i64 0] := frzV_mid (pre := []) (post := [.int .i64 0, .int .i64 0, .int .i64 0]) f2 rfl rfl
    have dq := frl_lo (fz := fz) (ids := [q]) yq (fun h => by have := f1 _ h; omega) (by simp)
    rw [List.map_cons, List.map_nil, kq] at dq
    simp only [loL, lo, vI_lo] at dq
    have dG := hGv.frl (n' := q) (fz := fz) (ids := [q]) (mv_closed taskV_closed) (by omega) (fun id h => by have := f1 _ h; omega) (by simp)
    refine x_frzL fz [q] ?_
    simp only at d0 d1 d2 d3 d4 dq dG ⊢
    generalize loH [q] (frzH fz m2) = m3 at d0 d1 d2 d3 d4 dq dG
    simp (maxSteps := 1000000) (disch := omega) only [rg, gD, Nat.reduceBEq, Nat.reduceEqDiff, Nat.reduceAdd, Int.reduceEq, Int.reduceLT, Int.reduceLE, Int.reduceToNat, reduceIte, reduceCtorEq, Nat.reduceLeDiff, Nat.reduceLT, Nat.reduceMul, Nat.reduceSub]
    refine ⟨_, _, _, _, dag_next _ 3 0 2 s r2 1 (by omega) (by show 3 < p; omega) (by show 0 < p; omega) (by show 2 < p; omega) (by simp) (by simp) (by simp) (by simp (disch := omega) only [upd_eq, upd_ne, wo_0, wo_1, wo_2, d3]) (by simp (disch := omega) only [upd_eq, upd_ne, wo_0, wo_1, wo_2, d0]) (by simp (disch := omega) only [upd_eq, upd_ne, wo_0, wo_1, wo_2, d2]), ?_⟩
    simp (maxSteps := 1000000) (disch := omega) only [rg, gD, Nat.reduceBEq, Nat.reduceEqDiff, Nat.reduceAdd, Int.reduceEq, Int.reduceLT, Int.reduceLE, Int.reduceToNat, reduceIte, reduceCtorEq, Nat.reduceLeDiff, Nat.reduceLT, Nat.reduceMul, Nat.reduceSub, dq]
    generalize nextS s r2 1 = t1 at hrs
    refine ⟨_, _, _, _, dag_next _ 3 0 2 s t1.2 3 (by omega) (by show 3 < p; omega) (by show 0 < p; omega) (by show 2 < p; omega) (by simp) (by simp) (by simp) (by simp (disch := omega) only [upd_eq, upd_ne, wo_0, wo_1, wo_2]) (by simp (disch := omega) only [upd_eq, upd_ne, wo_0, wo_1, wo_2, d0]) (by simp (disch := omega) only [upd_eq, upd_ne, wo_0, wo_1, wo_2]), ?_⟩
    simp (maxSteps := 1000000) (disch := omega) only [rg, gD, Nat.reduceBEq, Nat.reduceEqDiff, Nat.reduceAdd, Int.reduceEq, Int.reduceLT, Int.reduceLE, Int.reduceToNat, reduceIte, reduceCtorEq, Nat.reduceLeDiff, Nat.reduceLT, Nat.reduceMul, Nat.reduceSub]
    generalize nextS s t1.2 3 = t2 at hrs
    refine ⟨_, _, _, _, dag_next _ 3 0 2 s t2.2 3 (by omega) (by show 3 < p; omega) (by show 0 < p; omega) (by show 2 < p; omega) (by simp) (by simp) (by simp) (by simp (disch := omega) only [upd_eq, upd_ne, wo_0, wo_1, wo_2]) (by simp (disch := omega) only [upd_eq, upd_ne, wo_0, wo_1, wo_2, d0]) (by simp (disch := omega) only [upd_eq, upd_ne, wo_0, wo_1, wo_2]), ?_⟩
    simp (maxSteps := 1000000) (disch := omega) only [rg, gD, Nat.reduceBEq, Nat.reduceEqDiff, Nat.reduceAdd, Int.reduceEq, Int.reduceLT, Int.reduceLE, Int.reduceToNat, reduceIte, reduceCtorEq, Nat.reduceLeDiff, Nat.reduceLT, Nat.reduceMul, Nat.reduceSub, d4]
    generalize nextS s t2.2 3 = t3 at hrs
    generalize hrow : Task.mk xs t1.1 t2.1 t3.1 = tk at hrs
    have htv : V.agg [.fsl .loose 1 (vI xs), .int .i64 t1.1, .int .i64 t2.1, .int .i64 t3.1] = taskV tk := by rw [← hrow]; rfl
    refine app_gro (l := mv taskV out) (ys := [taskV tk]) (dG.keep (by show q ≤ p; omega) (fun id h1 h2 => by simp (disch := omega) only [upd_ne])) (by show 5 ≤ p; omega) (by rw [← htv]; rfl) (by simp) (by simp [mv_len]; omega) ?_
    intro v' fp ds hG' h1' h2'
    simp only at hG' h1' h2'
    have z0 := h1' 0 (by omega)
    have z1 := h1' 1 (by omega)
    have z2 := h1' 2 (by omega)
    have z3 := h1' 3 (by omega)
    have z4 := h1' 4 (by omega)
    simp (disch := omega) only [upd_eq, upd_ne, d0, d1, d4] at z0 z1 z2 z3 z4
    rw [x_nx]
    refine ⟨by simp only [compat_nil], ?_⟩
    simp only []
    generalize appd ds _ = m5 at hG' z0 z1 z2 z3 z4 ⊢
    rw [mv_app1] at hG'
    simp (maxSteps := 1000000) (disch := omega) only [rg, gD, Nat.reduceBEq, Nat.reduceEqDiff, Nat.reduceAdd, Int.reduceEq, Int.reduceLT, Int.reduceLE, Int.reduceToNat, reduceIte, reduceCtorEq, Nat.reduceLeDiff, Nat.reduceLT, Nat.reduceMul, Nat.reduceSub, z4, hG'.cell, hdec]
    refine x_frz0 ?_
    simp (maxSteps := 1000000) (disch := omega) only [rg, gD, Nat.reduceBEq, Nat.reduceEqDiff, Nat.reduceAdd, Int.reduceEq, Int.reduceLT, Int.reduceLE, Int.reduceToNat, reduceIte, reduceCtorEq, Nat.reduceLeDiff, Nat.reduceLT, Nat.reduceMul, Nat.reduceSub, hdec]
    refine hN2 _ _ c1 ?_
    refine ⟨by show 5 ≤ p + 1; omega, out ++ [tk], t3.2, v', (by simp (disch := omega) only [upd_eq, upd_ne, wo_0, wo_1, wo_2, z0]), (by simp (disch := omega) only [upd_eq, upd_ne, wo_0, wo_1, wo_2, z1]), (by simp (disch := omega) only [upd_eq, upd_ne, wo_0, wo_1, wo_2, z2]), (by simp (disch := omega) only [upd_eq, upd_ne, wo_0, wo_1, wo_2, z3]), (by simp (disch := omega) only [upd_eq, upd_ne, wo_0, wo_1, wo_2]), hG'.keep (Nat.le_refl _) (fun id h1 h2 => by simp (disch := omega) only [upd_ne]), by simp [hol], by rw [hrs]; simp, rfl⟩
  by_cases c3 : j < K
  case neg =>
    have hs0 := stop2 (by rw [show K - j = 0 by omega]; rfl)
    simp (maxSteps := 1000000) (disch := omega) only [rg, gD, Nat.reduceBEq, Nat.reduceEqDiff, Nat.reduceAdd, Int.reduceEq, Int.reduceLT, Int.reduceLE, Int.reduceToNat, reduceIte, reduceCtorEq, Nat.reduceLeDiff, Nat.reduceLT, Nat.reduceMul, Nat.reduceSub, show ¬ (0 : Int) < (K - j : Nat) by omega]
    exact hs0
  by_cases c4 : r2.2 = 0
  case neg =>
    have hs0 := stop2 (rdInts_stop c4)
    simp (maxSteps := 1000000) (disch := omega) only [rg, gD, Nat.reduceBEq, Nat.reduceEqDiff, Nat.reduceAdd, Int.reduceEq, Int.reduceLT, Int.reduceLE, Int.reduceToNat, reduceIte, reduceCtorEq, Nat.reduceLeDiff, Nat.reduceLT, Nat.reduceMul, Nat.reduceSub, show (0 : Int) < (K - j : Nat) by omega, y3, c4]
    exact hs0
  clear stop2
  have hKj : K - j = (K - (j + 1)) + 1 := by omega
  have hdec2 : ((K - j : Nat) : Int) - 1 = (K - (j + 1) : Nat) := by omega
  have hpos2 : (0 : Int) < (K - j : Nat) := by omega
  rw [hKj, rdInts, if_pos c4] at hrx
  simp only at hrx
  simp (maxSteps := 1000000) (disch := omega) only [rg, gD, Nat.reduceBEq, Nat.reduceEqDiff, Nat.reduceAdd, Int.reduceEq, Int.reduceLT, Int.reduceLE, Int.reduceToNat, reduceIte, reduceCtorEq, Nat.reduceLeDiff, Nat.reduceLT, Nat.reduceMul, Nat.reduceSub, hpos2, y3, c4, yq]
  refine ⟨_, _, _, _, dag_next _ 3 0 2 s r2 1 (by omega) (by show 3 < p; omega) (by show 0 < p; omega) (by show 2 < p; omega) (by simp) (by simp) (by simp) (by simp (disch := omega) only [upd_eq, upd_ne, wo_0, wo_1, wo_2, y3]) (by simp (disch := omega) only [upd_eq, upd_ne, wo_0, wo_1, wo_2, y0]) (by simp (disch := omega) only [upd_eq, upd_ne, wo_0, wo_1, wo_2, y2]), ?_⟩
  simp (maxSteps := 1000000) (disch := omega) only [rg, gD, Nat.reduceBEq, Nat.reduceEqDiff, Nat.reduceAdd, Int.reduceEq, Int.reduceLT, Int.reduceLE, Int.reduceToNat, reduceIte, reduceCtorEq, Nat.reduceLeDiff, Nat.reduceLT, Nat.reduceMul, Nat.reduceSub]
  try refine ⟨by simp [compat, disj, nthL]; omega, ?_⟩
  generalize nextS s r2 1 = t1 at hrx
  refine app_gro (l := vI xs) (ys := [.int .i64 t1.1]) (hGw.keep (Nat.le_refl _) (fun id h1 h2 => by simp (disch := omega) only [upd_ne])) hp rfl (by simp) (by simp [vI_len]; omega) ?_
  intro w' fp ds hG' h1' h2'
  simp only at hG' h1' h2'
  have z0 := h1' 0 (by omega)
  have z1 := h1' 1 (by omega)
  have z2 := h1' 2 (by omega)
  have z3 := h1' 3 (by omega)
  have z4 := h1' 4 (by omega)
  have zq := h1' q (by omega)
  have zG := hGv.keep (n' := q) (m' := appd ds _) (Nat.le_refl _) (fun id h1 h2 => (h1' id (by omega)).trans (by simp (disch := omega) only [upd_ne]))
  simp (disch := omega) only [upd_eq, upd_ne, y0, y1, y4, yq] at z0 z1 z2 z3 z4 zq
  rw [x_nx]
  refine ⟨by simp only [compat_nil], ?_⟩
  simp only []
  generalize appd ds _ = m5 at hG' z0 z1 z2 z3 z4 zq zG ⊢
  rw [show vI xs ++ [.int .i64 t1.1] = vI (xs ++ [t1.1]) from mv_app1] at hG'
  simp (maxSteps := 1000000) (disch := omega) only [rg, gD, Nat.reduceBEq, Nat.reduceEqDiff, Nat.reduceAdd, Int.reduceEq, Int.reduceLT, Int.reduceLE, Int.reduceToNat, reduceIte, reduceCtorEq, Nat.reduceLeDiff, Nat.reduceLT, Nat.reduceMul, Nat.reduceSub, zq, hG'.cell, hdec2]
  refine hN3 _ _ (by omega) ?_
  refine ⟨by show q + 1 ≤ p + 1; omega, xs ++ [t1.1], t1.2, w', (by simp (disch := omega) only [upd_eq, upd_ne, wo_0, wo_1, wo_2, z0]), (by simp (disch := omega) only [upd_eq, upd_ne, wo_0, wo_1, wo_2, z1]), (by simp (disch := omega) only [upd_eq, upd_ne, wo_0, wo_1, wo_2, z2]), (by simp (disch := omega) only [upd_eq, upd_ne, wo_0, wo_1, wo_2, z3]), (by simp (disch := omega) only [upd_eq, upd_ne, wo_0, wo_1, wo_2, z4]), zG.keep (Nat.le_refl _) (fun id h1 h2 => by simp (disch := omega) only [upd_ne]), (by simp (disch := omega) only [upd_eq, upd_ne, wo_0, wo_1, wo_2]), hG'.keep (Nat.le_refl _) (fun id h1 h2 => by simp (disch := omega) only [upd_ne]), by simp [hxl], by rw [hrx]; simp, rfl⟩

end Go.Proofs.Ytjlpmndipceboaa.Ev
end
section
set_option linter.unusedSimpArgs false
set_option linter.unusedVariables false
set_option maxRecDepth 10000
namespace Go.Proofs.Ytjlpmndipceboaa.Ev
open Go

theorem kinds (k : Int) : k = 1 ∨ k = 2 ∨ k = 4 ∨ k = 6 ∨ k = 5 ∨ k = 7 ∨ k = 9 ∨ k = 8 ∨ (¬ k = 1 ∧ ¬ k = 2 ∧ ¬ k = 4 ∧ ¬ k = 6 ∧ ¬ k = 5 ∧ ¬ k = 7 ∧ ¬ k = 9 ∧ ¬ k = 8) := by omega

def bareC (c : Cmd) : Cmd :=
  if c.kind = 1 then ⟨c.kind, [], [], 0, 0, [], c.dag⟩
  else if c.kind = 2 then ⟨c.kind, c.key, c.name, 0, 0, [], zeroD⟩
  else if c.kind = 4 ∨ c.kind = 6 then ⟨c.kind, [], [], c.token, 0, [], zeroD⟩
  else if c.kind = 5 then ⟨c.kind, [], [], c.token, 0, c.text, zeroD⟩
  else if c.kind = 7 ∨ c.kind = 9 then ⟨c.kind, c.key, [], 0, 0, [], zeroD⟩
  else if c.kind = 8 then ⟨c.kind, [], [], 0, c.time, [], zeroD⟩
  else ⟨c.kind, [], [], 0, 0, [], zeroD⟩

theorem frame_bare (c : Cmd) : PCall Try.prog 50 [cmdV c] (cmdV (bareC c)) := by
  refine en50 (by simp) (by simp [closedL, V.closed, cmdV_closed]) ?_
  rcases kinds c.kind with k | k | k | k | k | k | k | k | ⟨k1, k2, k4, k6, k5, k7, k9, k8⟩
  case inr.inr.inr.inr.inr.inr.inr.inr =>
    simp (maxSteps := 1000000) (disch := omega) only [rg, gD, Nat.reduceBEq, Nat.reduceEqDiff, Nat.reduceAdd, Int.reduceEq, Int.reduceLT, Int.reduceLE, Int.reduceToNat, reduceIte, reduceCtorEq, Nat.reduceLeDiff, Nat.reduceLT, Nat.reduceMul, Nat.reduceSub, c50, cmdV, tasksV, k1, k2, k4, k6, k5, k7, k9, k8]
    (refine fin_x rfl ?_ ?_ <;> simp [pack, lo, loL, V.closed, closedL, mv_closed, cmdV, bareC, k1, k2, k4, k6, k5, k7, k9, k8, tasksV, mv_closed taskV_closed, mv_lo taskV_lo, zeroD, mv])
  case inl =>
    simp (maxSteps := 1000000) (disch := omega) only [rg, gD, Nat.reduceBEq, Nat.reduceEqDiff, Nat.reduceAdd, Int.reduceEq, Int.reduceLT, Int.reduceLE, Int.reduceToNat, reduceIte, reduceCtorEq, Nat.reduceLeDiff, Nat.reduceLT, Nat.reduceMul, Nat.reduceSub, c50, cmdV, tasksV, k]
    (refine fin_x rfl ?_ ?_ <;> simp [pack, lo, loL, V.closed, closedL, mv_closed, cmdV, bareC, k, tasksV, mv_closed taskV_closed, mv_lo taskV_lo])
  all_goals
    simp (maxSteps := 1000000) (disch := omega) only [rg, gD, Nat.reduceBEq, Nat.reduceEqDiff, Nat.reduceAdd, Int.reduceEq, Int.reduceLT, Int.reduceLE, Int.reduceToNat, reduceIte, reduceCtorEq, Nat.reduceLeDiff, Nat.reduceLT, Nat.reduceMul, Nat.reduceSub, c50, cmdV, tasksV, k]
    first
      | (refine fin_x rfl ?_ ?_ <;> simp [pack, lo, loL, V.closed, closedL, mv_closed, cmdV, bareC, k, tasksV, mv_closed taskV_closed, mv_lo taskV_lo, zeroD, mv])
      | (refine ⟨by simp [compat, disj, nthL], ?_⟩; (refine fin_x rfl ?_ ?_ <;> simp [pack, lo, loL, V.closed, closedL, mv_closed, cmdV, bareC, k, tasksV, mv_closed taskV_closed, mv_lo taskV_lo, zeroD, mv]))

def sameF (b c : Cmd) : Prop := b.key = c.key ∧ b.name = c.name ∧ b.token = c.token ∧ b.time = c.time ∧ b.text = c.text ∧ b.dag.name = c.dag.name ∧ b.dag.tasks.length = c.dag.tasks.length
instance (b c : Cmd) : Decidable (sameF b c) := by unfold sameF; infer_instance
theorem sameF_bare (c : Cmd) : sameF (bareC c) c ↔ bareP c := by
  have e : ∀ {α : Type} {a : List α}, ([] = a) = (a = []) := fun {α} {a} => propext eq_comm
  have e0 : ∀ {a : Int}, ((0 : Int) = a) = (a = 0) := fun {a} => propext eq_comm
  have e1 : ∀ {a : Nat}, ((0 : Nat) = a) = (a = 0) := fun {a} => propext eq_comm
  unfold sameF bareC bareP
  split
  · simp [e, e0]
  split
  · simp [e, e0, e1, noDag, zeroD]
  split
  · simp [e, e0, e1, noDag, zeroD]
  split
  · simp [e, e0, e1, noDag, zeroD]
  split
  · simp [e, e0, e1, noDag, zeroD]
  split
  · simp [e, e0, e1, noDag, zeroD]
  · simp [e, e0, e1, noDag, zeroD]

theorem frame_clean (c : Cmd) : PCall Try.prog 21 [cmdV c] (.bool (decide (bareP c))) := by
  refine en21 (by simp) (by simp [closedL, V.closed, cmdV_closed]) ?_
  have kb := frame_bare c
  have hs := sameF_bare c
  generalize bareC c = b at kb hs
  have no : ¬ sameF b c → decide (bareP c) = false := fun h => decide_eq_false (fun h' => h (hs.2 h'))
  unfold cmdV tasksV at kb
  simp (maxSteps := 1000000) (disch := omega) only [rg, gD, Nat.reduceBEq, Nat.reduceEqDiff, Nat.reduceAdd, Int.reduceEq, Int.reduceLT, Int.reduceLE, Int.reduceToNat, reduceIte, reduceCtorEq, Nat.reduceLeDiff, Nat.reduceLT, Nat.reduceMul, Nat.reduceSub, c21, cmdV, tasksV]
  refine ⟨_, kb, ?_⟩
  by_cases e1 : b.key = c.key
  case neg =>
    simp (maxSteps := 1000000) (disch := omega) only [rg, gD, Nat.reduceBEq, Nat.reduceEqDiff, Nat.reduceAdd, Int.reduceEq, Int.reduceLT, Int.reduceLE, Int.reduceToNat, reduceIte, reduceCtorEq, Nat.reduceLeDiff, Nat.reduceLT, Nat.reduceMul, Nat.reduceSub, e1]
    (refine fin_x rfl ?_ ?_ <;> simp [pack, lo, loL, V.closed, closedL, mv_closed, no (by simp [sameF, e1])])
  by_cases e2 : b.name = c.name
  case neg =>
    simp (maxSteps := 1000000) (disch := omega) only [rg, gD, Nat.reduceBEq, Nat.reduceEqDiff, Nat.reduceAdd, Int.reduceEq, Int.reduceLT, Int.reduceLE, Int.reduceToNat, reduceIte, reduceCtorEq, Nat.reduceLeDiff, Nat.reduceLT, Nat.reduceMul, Nat.reduceSub, e1, e2]
    (refine fin_x rfl ?_ ?_ <;> simp [pack, lo, loL, V.closed, closedL, mv_closed, no (by simp [sameF, e2])])
  by_cases e3 : b.token = c.token
  case neg =>
    simp (maxSteps := 1000000) (disch := omega) only [rg, gD, Nat.reduceBEq, Nat.reduceEqDiff, Nat.reduceAdd, Int.reduceEq, Int.reduceLT, Int.reduceLE, Int.reduceToNat, reduceIte, reduceCtorEq, Nat.reduceLeDiff, Nat.reduceLT, Nat.reduceMul, Nat.reduceSub, e1, e2, e3]
    (refine fin_x rfl ?_ ?_ <;> simp [pack, lo, loL, V.closed, closedL, mv_closed, no (by simp [sameF, e3])])
  by_cases e4 : b.time = c.time
  case neg =>
    simp (maxSteps := 1000000) (disch := omega) only [rg, gD, Nat.reduceBEq, Nat.reduceEqDiff, Nat.reduceAdd, Int.reduceEq, Int.reduceLT, Int.reduceLE, Int.reduceToNat, reduceIte, reduceCtorEq, Nat.reduceLeDiff, Nat.reduceLT, Nat.reduceMul, Nat.reduceSub, e1, e2, e3, e4]
    (refine fin_x rfl ?_ ?_ <;> simp [pack, lo, loL, V.closed, closedL, mv_closed, no (by simp [sameF, e4])])
  by_cases e5 : b.text = c.text
  case neg =>
    simp (maxSteps := 1000000) (disch := omega) only [rg, gD, Nat.reduceBEq, Nat.reduceEqDiff, Nat.reduceAdd, Int.reduceEq, Int.reduceLT, Int.reduceLE, Int.reduceToNat, reduceIte, reduceCtorEq, Nat.reduceLeDiff, Nat.reduceLT, Nat.reduceMul, Nat.reduceSub, e1, e2, e3, e4, e5]
    (refine fin_x rfl ?_ ?_ <;> simp [pack, lo, loL, V.closed, closedL, mv_closed, no (by simp [sameF, e5])])
  by_cases e6 : b.dag.name = c.dag.name
  case neg =>
    simp (maxSteps := 1000000) (disch := omega) only [rg, gD, Nat.reduceBEq, Nat.reduceEqDiff, Nat.reduceAdd, Int.reduceEq, Int.reduceLT, Int.reduceLE, Int.reduceToNat, reduceIte, reduceCtorEq, Nat.reduceLeDiff, Nat.reduceLT, Nat.reduceMul, Nat.reduceSub, e1, e2, e3, e4, e5, e6]
    (refine fin_x rfl ?_ ?_ <;> simp [pack, lo, loL, V.closed, closedL, mv_closed, no (by simp [sameF, e6])])
  by_cases e7 : b.dag.tasks.length = c.dag.tasks.length
  case neg =>
    simp (maxSteps := 1000000) (disch := omega) only [rg, gD, Nat.reduceBEq, Nat.reduceEqDiff, Nat.reduceAdd, Int.reduceEq, Int.reduceLT, Int.reduceLE, Int.reduceToNat, reduceIte, reduceCtorEq, Nat.reduceLeDiff, Nat.reduceLT, Nat.reduceMul, Nat.reduceSub, e1, e2, e3, e4, e5, e6, show ¬ (b.dag.tasks.length : Int) = c.dag.tasks.length by omega]
    (refine fin_x rfl ?_ ?_ <;> simp [pack, lo, loL, V.closed, closedL, mv_closed, no (by simp [sameF, e7])])
  simp (maxSteps := 1000000) (disch := omega) only [rg, gD, Nat.reduceBEq, Nat.reduceEqDiff, Nat.reduceAdd, Int.reduceEq, Int.reduceLT, Int.reduceLE, Int.reduceToNat, reduceIte, reduceCtorEq, Nat.reduceLeDiff, Nat.reduceLT, Nat.reduceMul, Nat.reduceSub, e1, e2, e3, e4, e5, e6, e7]
  (refine fin_x rfl ?_ ?_ <;> simp [pack, lo, loL, V.closed, closedL, mv_closed, decide_eq_true (hs.1 ⟨e1, e2, e3, e4, e5, e6, e7⟩)])

/-! The writer, in few words. -/
theorem wTxt_eq (r : Str × Bool) (t : Str) : wTxt r t = (r.1 ++ (textS t).1, r.2 || decide (255 < t.length)) := by
  unfold wTxt textS
  by_cases h : 65535 < t.length
  · simp [h, show 255 < t.length by omega]
  · simp [h]
theorem wNum_6 (r : Str × Bool) (n : Int) : wNum r n 6 = (r.1 ++ (putS n 6).1, r.2 || !decide (0 ≤ n ∧ n < 281474976710656)) := by
  unfold wNum
  have e : (256 : Int) ^ (6 : Int).toNat = 281474976710656 := rfl
  have : decide ((putS n 6).2 = 0) = decide (0 ≤ n ∧ n < 281474976710656) := by
    rw [decide_eq_decide, putS_ok, e]; omega
  rw [this]
theorem wNum_1 (n : Int) (h : 0 ≤ n ∧ n < 256) : wNum ([], false) n 1 = ((putS n 1).1, false) := by
  unfold wNum; rw [put1 h]; simp

def okCmdI (c : Cmd) : Prop := c.token ≤ 9223372036854775807 ∧ c.time ≤ 9223372036854775807
def okCmd (c : Cmd) : Prop := c.key.length ≤ 1000000 ∧ c.name.length ≤ 1000000 ∧ c.text.length ≤ 1000000 ∧ c.dag.tasks.length ≤ 4611686018427387904 ∧ (∀ t ∈ c.dag.tasks, t.needs.length ≤ 4611686018427387904) ∧ okDagN c.dag ∧ okCmdI c

theorem putS_len6 (n : Int) : (putS n 6).1.length ≤ 6 := putS_len n 6

theorem frame_put (c : Cmd) (hc : okCmd c) : PCall Try.prog 8 [cmdV c] (sV (cmdPutS c)) := by
  refine en8 (by simp) (by simp [closedL, V.closed, cmdV_closed]) ?_
  obtain ⟨o1, o2, o3, o4, o5, o6, o7, o8⟩ := hc
  have kc := frame_clean c
  have no : ¬ cmdP c → cmdPutS c = ([], 1) := fun h => by rw [cmdPutS, if_neg h]
  unfold cmdV tasksV at kc
  by_cases a1 : c.kind < 1
  · simp (maxSteps := 1000000) (disch := omega) only [rg, gD, Nat.reduceBEq, Nat.reduceEqDiff, Nat.reduceAdd, Int.reduceEq, Int.reduceLT, Int.reduceLE, Int.reduceToNat, reduceIte, reduceCtorEq, Nat.reduceLeDiff, Nat.reduceLT, Nat.reduceMul, Nat.reduceSub, c8, cmdV, tasksV, a1]
    (refine fin_x rfl ?_ ?_ <;> simp [pack, lo, loL, V.closed, closedL, mv_closed, sV, no (fun h => by have := h.1; omega)])
  by_cases a2 : 10 < c.kind
  · simp (maxSteps := 1000000) (disch := omega) only [rg, gD, Nat.reduceBEq, Nat.reduceEqDiff, Nat.reduceAdd, Int.reduceEq, Int.reduceLT, Int.reduceLE, Int.reduceToNat, reduceIte, reduceCtorEq, Nat.reduceLeDiff, Nat.reduceLT, Nat.reduceMul, Nat.reduceSub, c8, cmdV, tasksV, a1, a2]
    (refine fin_x rfl ?_ ?_ <;> simp [pack, lo, loL, V.closed, closedL, mv_closed, sV, no (fun h => by have := h.2.1; omega)])
  simp (maxSteps := 1000000) (disch := omega) only [rg, gD, Nat.reduceBEq, Nat.reduceEqDiff, Nat.reduceAdd, Int.reduceEq, Int.reduceLT, Int.reduceLE, Int.reduceToNat, reduceIte, reduceCtorEq, Nat.reduceLeDiff, Nat.reduceLT, Nat.reduceMul, Nat.reduceSub, c8, cmdV, tasksV, a1, a2]
  refine ⟨_, kc, ?_⟩
  by_cases hb : bareP c
  case neg =>
    rw [decide_eq_false hb]
    simp (maxSteps := 1000000) (disch := omega) only [rg, gD, Nat.reduceBEq, Nat.reduceEqDiff, Nat.reduceAdd, Int.reduceEq, Int.reduceLT, Int.reduceLE, Int.reduceToNat, reduceIte, reduceCtorEq, Nat.reduceLeDiff, Nat.reduceLT, Nat.reduceMul, Nat.reduceSub]
    (refine fin_x rfl ?_ ?_ <;> simp [pack, lo, loL, V.closed, closedL, mv_closed, sV, no (fun h => hb h.2.2.1)])
  rw [decide_eq_true hb]
  have hw1 := wNum_1 c.kind (by omega)
  have hk1 := putS_len1 c.kind
  have tk := textS_len c.key
  have tn := textS_len c.name
  have tt := textS_len c.text
  have p6 := putS_len6 c.token
  have q6 := putS_len6 c.time
  have yes : cmdP c → cmdPutS c = (sealS ((putS c.kind 1).1 ++ cmdBody c), 0) := fun h => by rw [cmdPutS, if_pos h]; rfl
  simp (maxSteps := 1000000) (disch := omega) only [rg, gD, Nat.reduceBEq, Nat.reduceEqDiff, Nat.reduceAdd, Int.reduceEq, Int.reduceLT, Int.reduceLE, Int.reduceToNat, reduceIte, reduceCtorEq, Nat.reduceLeDiff, Nat.reduceLT, Nat.reduceMul, Nat.reduceSub]
  refine ⟨_, _, _, _, w_num _ 1 ([], false) c.kind 1 (by simp) (by omega) (by simp) (by simp (disch := omega) only [upd_eq, upd_ne, wo_0, wo_1, wo_2, wrV]), ?_⟩
  rw [hw1]
  simp (maxSteps := 1000000) (disch := omega) only [rg, gD, Nat.reduceBEq, Nat.reduceEqDiff, Nat.reduceAdd, Int.reduceEq, Int.reduceLT, Int.reduceLE, Int.reduceToNat, reduceIte, reduceCtorEq, Nat.reduceLeDiff, Nat.reduceLT, Nat.reduceMul, Nat.reduceSub]
  generalize hB : (putS c.kind 1).1 = B at hk1 yes
  rcases kinds c.kind with k | k | k | k | k | k | k | k | ⟨k1, k2, k4, k6, k5, k7, k9, k8⟩
  · -- a graph
    have kd := dag_put c.dag o5 o4 o6
    unfold dagV tasksV at kd
    simp (maxSteps := 1000000) (disch := omega) only [rg, gD, Nat.reduceBEq, Nat.reduceEqDiff, Nat.reduceAdd, Int.reduceEq, Int.reduceLT, Int.reduceLE, Int.reduceToNat, reduceIte, reduceCtorEq, Nat.reduceLeDiff, Nat.reduceLT, Nat.reduceMul, Nat.reduceSub, k]
    refine ⟨_, kd, ?_⟩
    by_cases hr : refRightS c.dag = 0
    · have hdl := right_fit hr
      have hl : (dagB c.dag).length ≤ 1000 := by
        have h1 := tsksB_len (l := c.dag.tasks) (N := 10) hdl.2.2.2.2
        have h2 := textS_len c.dag.name
        have h3 := putS_len1 c.dag.tasks.length
        simp only [dagB, List.length_append]; omega
      have e : dagPutS c.dag = (dagB c.dag, 0) := by simp [dagPutS, hr]
      rw [e]
      simp (maxSteps := 1000000) (disch := omega) only [rg, gD, Nat.reduceBEq, Nat.reduceEqDiff, Nat.reduceAdd, Int.reduceEq, Int.reduceLT, Int.reduceLE, Int.reduceToNat, reduceIte, reduceCtorEq, Nat.reduceLeDiff, Nat.reduceLT, Nat.reduceMul, Nat.reduceSub, sV, wrV]
      refine ⟨_, code_all .full [B, dagB c.dag] (by simp) (by simp; omega), ?_⟩
      rw [two_flat]
      simp (maxSteps := 1000000) (disch := omega) only [rg, gD, Nat.reduceBEq, Nat.reduceEqDiff, Nat.reduceAdd, Int.reduceEq, Int.reduceLT, Int.reduceLE, Int.reduceToNat, reduceIte, reduceCtorEq, Nat.reduceLeDiff, Nat.reduceLT, Nat.reduceMul, Nat.reduceSub, wrV]
      try refine ⟨by simp [compat, disj, nthL], ?_⟩
      refine ⟨_, _, _, _, w_end _ 1 (B ++ dagB c.dag, false) (by simp only [List.length_append]; omega) (by simp) (by simp (disch := omega) only [upd_eq, upd_ne, wo_0, wo_1, wo_2, wrV]), ?_⟩
      simp (maxSteps := 1000000) (disch := omega) only [rg, gD, Nat.reduceBEq, Nat.reduceEqDiff, Nat.reduceAdd, Int.reduceEq, Int.reduceLT, Int.reduceLE, Int.reduceToNat, reduceIte, reduceCtorEq, Nat.reduceLeDiff, Nat.reduceLT, Nat.reduceMul, Nat.reduceSub, sV]
      have hP : cmdP c := by
        refine ⟨by omega, by omega, hb, ?_, fun _ => hr⟩
        simp only [bareP, k, if_true] at hb
        obtain ⟨b1, b2, b3, b4, b5⟩ := hb
        simp [fitP, b1, b2, b3, b4, b5]
      (refine fin_x rfl ?_ ?_ <;> simp [pack, lo, loL, V.closed, closedL, mv_closed, sV, yes hP, cmdBody, k, wEnd])
    · have e : dagPutS c.dag = ([], refRightS c.dag) := by simp [dagPutS, hr]
      rw [e]
      simp (maxSteps := 1000000) (disch := omega) only [rg, gD, Nat.reduceBEq, Nat.reduceEqDiff, Nat.reduceAdd, Int.reduceEq, Int.reduceLT, Int.reduceLE, Int.reduceToNat, reduceIte, reduceCtorEq, Nat.reduceLeDiff, Nat.reduceLT, Nat.reduceMul, Nat.reduceSub, sV, wrV, hr]
      refine ⟨_, code_all .full [B, []] (by simp) (by simp; omega), ?_⟩
      rw [two_flat]
      simp (maxSteps := 1000000) (disch := omega) only [rg, gD, Nat.reduceBEq, Nat.reduceEqDiff, Nat.reduceAdd, Int.reduceEq, Int.reduceLT, Int.reduceLE, Int.reduceToNat, reduceIte, reduceCtorEq, Nat.reduceLeDiff, Nat.reduceLT, Nat.reduceMul, Nat.reduceSub, wrV, hr]
      try refine ⟨by simp [compat, disj, nthL], ?_⟩
      refine ⟨_, _, _, _, w_end _ 1 (B, true) (by simp only; omega) (by simp) (by simp (disch := omega) only [upd_eq, upd_ne, wo_0, wo_1, wo_2, wrV]), ?_⟩
      simp (maxSteps := 1000000) (disch := omega) only [rg, gD, Nat.reduceBEq, Nat.reduceEqDiff, Nat.reduceAdd, Int.reduceEq, Int.reduceLT, Int.reduceLE, Int.reduceToNat, reduceIte, reduceCtorEq, Nat.reduceLeDiff, Nat.reduceLT, Nat.reduceMul, Nat.reduceSub, sV]
      (refine fin_x rfl ?_ ?_ <;> simp [pack, lo, loL, V.closed, closedL, mv_closed, sV, no (fun h => hr (h.2.2.2.2 k)), wEnd])
  · -- a start
    simp (maxSteps := 1000000) (disch := omega) only [rg, gD, Nat.reduceBEq, Nat.reduceEqDiff, Nat.reduceAdd, Int.reduceEq, Int.reduceLT, Int.reduceLE, Int.reduceToNat, reduceIte, reduceCtorEq, Nat.reduceLeDiff, Nat.reduceLT, Nat.reduceMul, Nat.reduceSub, k]
    refine ⟨_, _, _, _, w_text _ 1 (B, false) c.key (by simp only; omega) (by omega) (by simp) (by simp (disch := omega) only [upd_eq, upd_ne, wo_0, wo_1, wo_2]), ?_⟩
    rw [wTxt_eq]
    simp (maxSteps := 1000000) (disch := omega) only [rg, gD, Nat.reduceBEq, Nat.reduceEqDiff, Nat.reduceAdd, Int.reduceEq, Int.reduceLT, Int.reduceLE, Int.reduceToNat, reduceIte, reduceCtorEq, Nat.reduceLeDiff, Nat.reduceLT, Nat.reduceMul, Nat.reduceSub]
    refine ⟨_, _, _, _, w_text _ 1 (B ++ (textS c.key).1, false || decide (255 < c.key.length)) c.name (by simp only [List.length_append]; omega) (by omega) (by simp) (by simp (disch := omega) only [upd_eq, upd_ne, wo_0, wo_1, wo_2]), ?_⟩
    rw [wTxt_eq]
    simp (maxSteps := 1000000) (disch := omega) only [rg, gD, Nat.reduceBEq, Nat.reduceEqDiff, Nat.reduceAdd, Int.reduceEq, Int.reduceLT, Int.reduceLE, Int.reduceToNat, reduceIte, reduceCtorEq, Nat.reduceLeDiff, Nat.reduceLT, Nat.reduceMul, Nat.reduceSub]
    refine ⟨_, _, _, _, w_end _ 1 ((B ++ (textS c.key).1) ++ (textS c.name).1, (false || decide (255 < c.key.length)) || decide (255 < c.name.length)) (by simp only [List.length_append]; omega) (by simp) (by simp (disch := omega) only [upd_eq, upd_ne, wo_0, wo_1, wo_2]), ?_⟩
    simp (maxSteps := 1000000) (disch := omega) only [rg, gD, Nat.reduceBEq, Nat.reduceEqDiff, Nat.reduceAdd, Int.reduceEq, Int.reduceLT, Int.reduceLE, Int.reduceToNat, reduceIte, reduceCtorEq, Nat.reduceLeDiff, Nat.reduceLT, Nat.reduceMul, Nat.reduceSub, sV]
    simp only [bareP, k, show ¬ (2 : Int) = 1 by omega, if_false, if_true] at hb
    by_cases hP : c.key.length ≤ 255 ∧ c.name.length ≤ 255
    · have : cmdP c := by
        refine ⟨by omega, by omega, by simpa [bareP, k] using hb, ?_, fun h => by omega⟩
        obtain ⟨b1, b2, b3, b4⟩ := hb
        simp [fitP, b1, b2, b3]; omega
      (refine fin_x rfl ?_ ?_ <;> simp [pack, lo, loL, V.closed, closedL, mv_closed, sV, yes this, cmdBody, k, wEnd, show ¬ 255 < c.key.length by omega, show ¬ 255 < c.name.length by omega])
    · have : ¬ cmdP c := fun h => hP ⟨h.2.2.2.1.1, h.2.2.2.1.2.1⟩
      have e : (decide (255 < c.key.length) || decide (255 < c.name.length)) = true := by simp; omega
      (refine fin_x rfl ?_ ?_ <;> simp [pack, lo, loL, V.closed, closedL, mv_closed, sV, no this, wEnd, e])
  · simp (maxSteps := 1000000) (disch := omega) only [rg, gD, Nat.reduceBEq, Nat.reduceEqDiff, Nat.reduceAdd, Int.reduceEq, Int.reduceLT, Int.reduceLE, Int.reduceToNat, reduceIte, reduceCtorEq, Nat.reduceLeDiff, Nat.reduceLT, Nat.reduceMul, Nat.reduceSub, k]
    refine ⟨_, _, _, _, w_num _ 1 (B, false) c.token 6 (by simp only; omega) o7 (by simp) (by simp (disch := omega) only [upd_eq, upd_ne, wo_0, wo_1, wo_2]), ?_⟩
    rw [wNum_6]
    simp (maxSteps := 1000000) (disch := omega) only [rg, gD, Nat.reduceBEq, Nat.reduceEqDiff, Nat.reduceAdd, Int.reduceEq, Int.reduceLT, Int.reduceLE, Int.reduceToNat, reduceIte, reduceCtorEq, Nat.reduceLeDiff, Nat.reduceLT, Nat.reduceMul, Nat.reduceSub]
    refine ⟨_, _, _, _, w_end _ 1 (B ++ (putS c.token 6).1, false || !decide (0 ≤ c.token ∧ c.token < 281474976710656)) (by simp only [List.length_append]; omega) (by simp) (by simp (disch := omega) only [upd_eq, upd_ne, wo_0, wo_1, wo_2]), ?_⟩
    simp (maxSteps := 1000000) (disch := omega) only [rg, gD, Nat.reduceBEq, Nat.reduceEqDiff, Nat.reduceAdd, Int.reduceEq, Int.reduceLT, Int.reduceLE, Int.reduceToNat, reduceIte, reduceCtorEq, Nat.reduceLeDiff, Nat.reduceLT, Nat.reduceMul, Nat.reduceSub, sV]
    by_cases hP : 0 ≤ c.token ∧ c.token < 281474976710656
    · have : cmdP c := by
        refine ⟨by omega, by omega, hb, ?_, fun h => by omega⟩
        simp [bareP, k] at hb
        obtain ⟨b1, b2, b3, b4, _⟩ := hb
        simp [fitP, b1, b2, b3, b4, hP]
      (refine fin_x rfl ?_ ?_ <;> simp [pack, lo, loL, V.closed, closedL, mv_closed, sV, yes this, cmdBody, k, wEnd, hP])
    · have : ¬ cmdP c := fun h => hP ⟨h.2.2.2.1.2.2.2.1, h.2.2.2.1.2.2.2.2.1⟩
      (refine fin_x rfl ?_ ?_ <;> simp [pack, lo, loL, V.closed, closedL, mv_closed, sV, no this, wEnd, hP])
  · simp (maxSteps := 1000000) (disch := omega) only [rg, gD, Nat.reduceBEq, Nat.reduceEqDiff, Nat.reduceAdd, Int.reduceEq, Int.reduceLT, Int.reduceLE, Int.reduceToNat, reduceIte, reduceCtorEq, Nat.reduceLeDiff, Nat.reduceLT, Nat.reduceMul, Nat.reduceSub, k]
    refine ⟨_, _, _, _, w_num _ 1 (B, false) c.token 6 (by simp only; omega) o7 (by simp) (by simp (disch := omega) only [upd_eq, upd_ne, wo_0, wo_1, wo_2]), ?_⟩
    rw [wNum_6]
    simp (maxSteps := 1000000) (disch := omega) only [rg, gD, Nat.reduceBEq, Nat.reduceEqDiff, Nat.reduceAdd, Int.reduceEq, Int.reduceLT, Int.reduceLE, Int.reduceToNat, reduceIte, reduceCtorEq, Nat.reduceLeDiff, Nat.reduceLT, Nat.reduceMul, Nat.reduceSub]
    refine ⟨_, _, _, _, w_end _ 1 (B ++ (putS c.token 6).1, false || !decide (0 ≤ c.token ∧ c.token < 281474976710656)) (by simp only [List.length_append]; omega) (by simp) (by simp (disch := omega) only [upd_eq, upd_ne, wo_0, wo_1, wo_2]), ?_⟩
    simp (maxSteps := 1000000) (disch := omega) only [rg, gD, Nat.reduceBEq, Nat.reduceEqDiff, Nat.reduceAdd, Int.reduceEq, Int.reduceLT, Int.reduceLE, Int.reduceToNat, reduceIte, reduceCtorEq, Nat.reduceLeDiff, Nat.reduceLT, Nat.reduceMul, Nat.reduceSub, sV]
    by_cases hP : 0 ≤ c.token ∧ c.token < 281474976710656
    · have : cmdP c := by
        refine ⟨by omega, by omega, hb, ?_, fun h => by omega⟩
        simp [bareP, k] at hb
        obtain ⟨b1, b2, b3, b4, _⟩ := hb
        simp [fitP, b1, b2, b3, b4, hP]
      (refine fin_x rfl ?_ ?_ <;> simp [pack, lo, loL, V.closed, closedL, mv_closed, sV, yes this, cmdBody, k, wEnd, hP])
    · have : ¬ cmdP c := fun h => hP ⟨h.2.2.2.1.2.2.2.1, h.2.2.2.1.2.2.2.2.1⟩
      (refine fin_x rfl ?_ ?_ <;> simp [pack, lo, loL, V.closed, closedL, mv_closed, sV, no this, wEnd, hP])
  · simp (maxSteps := 1000000) (disch := omega) only [rg, gD, Nat.reduceBEq, Nat.reduceEqDiff, Nat.reduceAdd, Int.reduceEq, Int.reduceLT, Int.reduceLE, Int.reduceToNat, reduceIte, reduceCtorEq, Nat.reduceLeDiff, Nat.reduceLT, Nat.reduceMul, Nat.reduceSub, k]
    refine ⟨_, _, _, _, w_num _ 1 (B, false) c.token 6 (by simp only; omega) o7 (by simp) (by simp (disch := omega) only [upd_eq, upd_ne, wo_0, wo_1, wo_2]), ?_⟩
    rw [wNum_6]
    simp (maxSteps := 1000000) (disch := omega) only [rg, gD, Nat.reduceBEq, Nat.reduceEqDiff, Nat.reduceAdd, Int.reduceEq, Int.reduceLT, Int.reduceLE, Int.reduceToNat, reduceIte, reduceCtorEq, Nat.reduceLeDiff, Nat.reduceLT, Nat.reduceMul, Nat.reduceSub]
    refine ⟨_, _, _, _, w_text _ 1 (B ++ (putS c.token 6).1, false || !decide (0 ≤ c.token ∧ c.token < 281474976710656)) c.text (by simp only [List.length_append]; omega) (by omega) (by simp) (by simp (disch := omega) only [upd_eq, upd_ne, wo_0, wo_1, wo_2]), ?_⟩
    rw [wTxt_eq]
    simp (maxSteps := 1000000) (disch := omega) only [rg, gD, Nat.reduceBEq, Nat.reduceEqDiff, Nat.reduceAdd, Int.reduceEq, Int.reduceLT, Int.reduceLE, Int.reduceToNat, reduceIte, reduceCtorEq, Nat.reduceLeDiff, Nat.reduceLT, Nat.reduceMul, Nat.reduceSub]
    refine ⟨_, _, _, _, w_end _ 1 ((B ++ (putS c.token 6).1) ++ (textS c.text).1, (false || !decide (0 ≤ c.token ∧ c.token < 281474976710656)) || decide (255 < c.text.length)) (by simp only [List.length_append]; omega) (by simp) (by simp (disch := omega) only [upd_eq, upd_ne, wo_0, wo_1, wo_2]), ?_⟩
    simp (maxSteps := 1000000) (disch := omega) only [rg, gD, Nat.reduceBEq, Nat.reduceEqDiff, Nat.reduceAdd, Int.reduceEq, Int.reduceLT, Int.reduceLE, Int.reduceToNat, reduceIte, reduceCtorEq, Nat.reduceLeDiff, Nat.reduceLT, Nat.reduceMul, Nat.reduceSub, sV]
    by_cases hP : 0 ≤ c.token ∧ c.token < 281474976710656
    · by_cases hT : c.text.length ≤ 255
      · have : cmdP c := by
          refine ⟨by omega, by omega, hb, ?_, fun h => by omega⟩
          simp [bareP, k] at hb
          obtain ⟨b1, b2, b3, _⟩ := hb
          simp [fitP, b1, b2, b3, hP, hT]
        (refine fin_x rfl ?_ ?_ <;> simp [pack, lo, loL, V.closed, closedL, mv_closed, sV, yes this, cmdBody, k, wEnd, hP, show ¬ 255 < c.text.length by omega])
      · have : ¬ cmdP c := fun h => hT h.2.2.2.1.2.2.1
        (refine fin_x rfl ?_ ?_ <;> simp [pack, lo, loL, V.closed, closedL, mv_closed, sV, no this, wEnd, hP, show 255 < c.text.length by omega])
    · have : ¬ cmdP c := fun h => hP ⟨h.2.2.2.1.2.2.2.1, h.2.2.2.1.2.2.2.2.1⟩
      (refine fin_x rfl ?_ ?_ <;> simp [pack, lo, loL, V.closed, closedL, mv_closed, sV, no this, wEnd, hP])
  · simp (maxSteps := 1000000) (disch := omega) only [rg, gD, Nat.reduceBEq, Nat.reduceEqDiff, Nat.reduceAdd, Int.reduceEq, Int.reduceLT, Int.reduceLE, Int.reduceToNat, reduceIte, reduceCtorEq, Nat.reduceLeDiff, Nat.reduceLT, Nat.reduceMul, Nat.reduceSub, k]
    refine ⟨_, _, _, _, w_text _ 1 (B, false) c.key (by simp only; omega) (by omega) (by simp) (by simp (disch := omega) only [upd_eq, upd_ne, wo_0, wo_1, wo_2]), ?_⟩
    rw [wTxt_eq]
    simp (maxSteps := 1000000) (disch := omega) only [rg, gD, Nat.reduceBEq, Nat.reduceEqDiff, Nat.reduceAdd, Int.reduceEq, Int.reduceLT, Int.reduceLE, Int.reduceToNat, reduceIte, reduceCtorEq, Nat.reduceLeDiff, Nat.reduceLT, Nat.reduceMul, Nat.reduceSub]
    refine ⟨_, _, _, _, w_end _ 1 (B ++ (textS c.key).1, false || decide (255 < c.key.length)) (by simp only [List.length_append]; omega) (by simp) (by simp (disch := omega) only [upd_eq, upd_ne, wo_0, wo_1, wo_2]), ?_⟩
    simp (maxSteps := 1000000) (disch := omega) only [rg, gD, Nat.reduceBEq, Nat.reduceEqDiff, Nat.reduceAdd, Int.reduceEq, Int.reduceLT, Int.reduceLE, Int.reduceToNat, reduceIte, reduceCtorEq, Nat.reduceLeDiff, Nat.reduceLT, Nat.reduceMul, Nat.reduceSub, sV]
    by_cases hT : c.key.length ≤ 255
    · have : cmdP c := by
        refine ⟨by omega, by omega, hb, ?_, fun h => by omega⟩
        simp [bareP, k] at hb
        obtain ⟨b1, b2, b3, b4, _⟩ := hb
        simp [fitP, b1, b2, b3, b4, hT]
      (refine fin_x rfl ?_ ?_ <;> simp [pack, lo, loL, V.closed, closedL, mv_closed, sV, yes this, cmdBody, k, wEnd, show ¬ 255 < c.key.length by omega])
    · have : ¬ cmdP c := fun h => hT h.2.2.2.1.1
      (refine fin_x rfl ?_ ?_ <;> simp [pack, lo, loL, V.closed, closedL, mv_closed, sV, no this, wEnd, show 255 < c.key.length by omega])
  · simp (maxSteps := 1000000) (disch := omega) only [rg, gD, Nat.reduceBEq, Nat.reduceEqDiff, Nat.reduceAdd, Int.reduceEq, Int.reduceLT, Int.reduceLE, Int.reduceToNat, reduceIte, reduceCtorEq, Nat.reduceLeDiff, Nat.reduceLT, Nat.reduceMul, Nat.reduceSub, k]
    refine ⟨_, _, _, _, w_text _ 1 (B, false) c.key (by simp only; omega) (by omega) (by simp) (by simp (disch := omega) only [upd_eq, upd_ne, wo_0, wo_1, wo_2]), ?_⟩
    rw [wTxt_eq]
    simp (maxSteps := 1000000) (disch := omega) only [rg, gD, Nat.reduceBEq, Nat.reduceEqDiff, Nat.reduceAdd, Int.reduceEq, Int.reduceLT, Int.reduceLE, Int.reduceToNat, reduceIte, reduceCtorEq, Nat.reduceLeDiff, Nat.reduceLT, Nat.reduceMul, Nat.reduceSub]
    refine ⟨_, _, _, _, w_end _ 1 (B ++ (textS c.key).1, false || decide (255 < c.key.length)) (by simp only [List.length_append]; omega) (by simp) (by simp (disch := omega) only [upd_eq, upd_ne, wo_0, wo_1, wo_2]), ?_⟩
    simp (maxSteps := 1000000) (disch := omega) only [rg, gD, Nat.reduceBEq, Nat.reduceEqDiff, Nat.reduceAdd, Int.reduceEq, Int.reduceLT, Int.reduceLE, Int.reduceToNat, reduceIte, reduceCtorEq, Nat.reduceLeDiff, Nat.reduceLT, Nat.reduceMul, Nat.reduceSub, sV]
    by_cases hT : c.key.length ≤ 255
    · have : cmdP c := by
        refine ⟨by omega, by omega, hb, ?_, fun h => by omega⟩
        simp [bareP, k] at hb
        obtain ⟨b1, b2, b3, b4, _⟩ := hb
        simp [fitP, b1, b2, b3, b4, hT]
      (refine fin_x rfl ?_ ?_ <;> simp [pack, lo, loL, V.closed, closedL, mv_closed, sV, yes this, cmdBody, k, wEnd, show ¬ 255 < c.key.length by omega])
    · have : ¬ cmdP c := fun h => hT h.2.2.2.1.1
      (refine fin_x rfl ?_ ?_ <;> simp [pack, lo, loL, V.closed, closedL, mv_closed, sV, no this, wEnd, show 255 < c.key.length by omega])
  · simp (maxSteps := 1000000) (disch := omega) only [rg, gD, Nat.reduceBEq, Nat.reduceEqDiff, Nat.reduceAdd, Int.reduceEq, Int.reduceLT, Int.reduceLE, Int.reduceToNat, reduceIte, reduceCtorEq, Nat.reduceLeDiff, Nat.reduceLT, Nat.reduceMul, Nat.reduceSub, k]
    refine ⟨_, _, _, _, w_num _ 1 (B, false) c.time 6 (by simp only; omega) o8 (by simp) (by simp (disch := omega) only [upd_eq, upd_ne, wo_0, wo_1, wo_2]), ?_⟩
    rw [wNum_6]
    simp (maxSteps := 1000000) (disch := omega) only [rg, gD, Nat.reduceBEq, Nat.reduceEqDiff, Nat.reduceAdd, Int.reduceEq, Int.reduceLT, Int.reduceLE, Int.reduceToNat, reduceIte, reduceCtorEq, Nat.reduceLeDiff, Nat.reduceLT, Nat.reduceMul, Nat.reduceSub]
    refine ⟨_, _, _, _, w_end _ 1 (B ++ (putS c.time 6).1, false || !decide (0 ≤ c.time ∧ c.time < 281474976710656)) (by simp only [List.length_append]; omega) (by simp) (by simp (disch := omega) only [upd_eq, upd_ne, wo_0, wo_1, wo_2]), ?_⟩
    simp (maxSteps := 1000000) (disch := omega) only [rg, gD, Nat.reduceBEq, Nat.reduceEqDiff, Nat.reduceAdd, Int.reduceEq, Int.reduceLT, Int.reduceLE, Int.reduceToNat, reduceIte, reduceCtorEq, Nat.reduceLeDiff, Nat.reduceLT, Nat.reduceMul, Nat.reduceSub, sV]
    by_cases hP : 0 ≤ c.time ∧ c.time < 281474976710656
    · have : cmdP c := by
        refine ⟨by omega, by omega, hb, ?_, fun h => by omega⟩
        simp [bareP, k] at hb
        obtain ⟨b1, b2, b3, b4, _⟩ := hb
        simp [fitP, b1, b2, b3, b4, hP]
      (refine fin_x rfl ?_ ?_ <;> simp [pack, lo, loL, V.closed, closedL, mv_closed, sV, yes this, cmdBody, k, wEnd, hP])
    · have : ¬ cmdP c := fun h => hP ⟨h.2.2.2.1.2.2.2.2.2.1, h.2.2.2.1.2.2.2.2.2.2⟩
      (refine fin_x rfl ?_ ?_ <;> simp [pack, lo, loL, V.closed, closedL, mv_closed, sV, no this, wEnd, hP])
  · simp (maxSteps := 1000000) (disch := omega) only [rg, gD, Nat.reduceBEq, Nat.reduceEqDiff, Nat.reduceAdd, Int.reduceEq, Int.reduceLT, Int.reduceLE, Int.reduceToNat, reduceIte, reduceCtorEq, Nat.reduceLeDiff, Nat.reduceLT, Nat.reduceMul, Nat.reduceSub, k1, k2, k4, k6, k5, k7, k9, k8]
    refine ⟨_, _, _, _, w_end _ 1 (B, false) (by simp only; omega) (by simp) (by simp (disch := omega) only [upd_eq, upd_ne, wo_0, wo_1, wo_2]), ?_⟩
    simp (maxSteps := 1000000) (disch := omega) only [rg, gD, Nat.reduceBEq, Nat.reduceEqDiff, Nat.reduceAdd, Int.reduceEq, Int.reduceLT, Int.reduceLE, Int.reduceToNat, reduceIte, reduceCtorEq, Nat.reduceLeDiff, Nat.reduceLT, Nat.reduceMul, Nat.reduceSub, sV]
    have : cmdP c := by
      refine ⟨by omega, by omega, hb, ?_, fun h => absurd h k1⟩
      simp [bareP, k1, k2, k4, k6, k5, k7, k9, k8] at hb
      obtain ⟨b1, b2, b3, b4, b5, _⟩ := hb
      simp [fitP, b1, b2, b3, b4, b5]
    (refine fin_x rfl ?_ ?_ <;> simp [pack, lo, loL, V.closed, closedL, mv_closed, sV, yes this, cmdBody, k1, k2, k4, k6, k5, k7, k9, k8, wEnd])

end Go.Proofs.Ytjlpmndipceboaa.Ev
end
section
set_option linter.unusedSimpArgs false
set_option linter.unusedVariables false
set_option maxRecDepth 10000
namespace Go.Proofs.Ytjlpmndipceboaa.Ev
open Go

def restF (s : Str) (r : Int × Bool) : Str × Int × Bool := if r.2 = false then (s.drop r.1.toNat, (s.length : Int), false) else ([], r)
theorem f_rest (H : Hp) (b : Nat) (s : Str) (r : Int × Bool) (hr : r.2 = false → 0 ≤ r.1 ∧ r.1 ≤ s.length) (hb : b < H.n) (hm : H.m b = some (fdV s r)) :
    ACall Try.prog 38 [.ptr b 0 0] H [b] (.str (restF s r).1) [(b, some (fdV s (restF s r).2))] 0 := by
  refine ena38 (by simp) (by simp [lowL, V.low, hb]) (fun id hid => ?_) (by simp) ?_
  · simp at hid; subst hid
    exact ⟨hb, fun o ho => by rw [hm] at ho; simp at ho; subst ho; rfl⟩
  have q1 : only [b] H.m b = some (fdV s r) := by simp [only, hm]
  obtain ⟨a, e⟩ := r
  have q2 := q1
  unfold fdV at q1
  cases e with
  | false =>
    obtain ⟨h1, h2⟩ := hr rfl
    simp only at h1 h2
    simp (maxSteps := 1000000) (disch := omega) only [rg, gD, Nat.reduceBEq, Nat.reduceEqDiff, Nat.reduceAdd, Int.reduceEq, Int.reduceLT, Int.reduceLE, Int.reduceToNat, reduceIte, reduceCtorEq, Nat.reduceLeDiff, Nat.reduceLT, Nat.reduceMul, Nat.reduceSub, c38, q1, List.take_length]
    exact ⟨by omega, fin_A (l := [.str (s.drop a.toNat)]) rfl (.inl (by simp [pack, restF])) (by simp) (fun id => .inr (by by_cases h : id = b <;> simp [appd, upd, h, fdV, restF]))⟩
  | true =>
    simp (maxSteps := 1000000) (disch := omega) only [rg, gD, Nat.reduceBEq, Nat.reduceEqDiff, Nat.reduceAdd, Int.reduceEq, Int.reduceLT, Int.reduceLE, Int.reduceToNat, reduceIte, reduceCtorEq, Nat.reduceLeDiff, Nat.reduceLT, Nat.reduceMul, Nat.reduceSub, c38, q1]
    exact fin_A (l := [.str []]) rfl (.inl (by simp [pack, restF])) (by simp) (fun id => .inr (by by_cases h : id = b <;> simp [appd, upd, h, restF, q2]))

def cmdR (p : Cmd × Int) : V := .tup [cmdV p.1, .int .i64 p.2]
def cmdZ : V := .agg [.int .i64 0, .str [], .str [], .int .i64 0, .int .i64 0, .str [], .str [], .fsl .nil 4 []]

theorem frame_get (s : Str) (hs : s.length ≤ 1000000) : PCall Try.prog 10 [.str s] (cmdR (cmdGetS s)) := by
  refine en10 (by simp) (by simp [closedL, V.closed]) ?_
  simp (maxSteps := 1000000) (disch := omega) only [rg, gD, Nat.reduceBEq, Nat.reduceEqDiff, Nat.reduceAdd, Int.reduceEq, Int.reduceLT, Int.reduceLE, Int.reduceToNat, reduceIte, reduceCtorEq, Nat.reduceLeDiff, Nat.reduceLT, Nat.reduceMul, Nat.reduceSub, c10]
  refine ⟨_, _, _, _, f_read _ s (by omega), ?_⟩
  have hol := openS_len s
  have hG0 : cmdGetS s = if (rawG (openS s).1 (!decide ((openS s).2 = 0))).2.2 = true ∨ (rawG (openS s).1 (!decide ((openS s).2 = 0))).2.1 ≠ (openS s).1.length then (zeroC, 230) else ((rawG (openS s).1 (!decide ((openS s).2 = 0))).1, 0) := rfl
  generalize hp : (openS s).1 = p at hol hG0
  generalize hbad : (!decide ((openS s).2 = 0)) = bad at hG0
  rw [hG0]
  simp (maxSteps := 1000000) (disch := omega) only [rg, gD, Nat.reduceBEq, Nat.reduceEqDiff, Nat.reduceAdd, Int.reduceEq, Int.reduceLT, Int.reduceLE, Int.reduceToNat, reduceIte, reduceCtorEq, Nat.reduceLeDiff, Nat.reduceLT, Nat.reduceMul, Nat.reduceSub]
  refine ⟨_, _, _, _, f_num _ 1 p (0, bad) 1 (by omega) (by simp) (by simp (disch := omega) only [upd_eq, upd_ne, wo_0, wo_1, wo_2]), ?_⟩
  have hk1 := numF_lt p (0, bad)
  have hk2 : (numF p (0, bad) 1).2.2 = false → (numF p (0, bad) 1).2.1 = 1 ∧ 1 ≤ p.length := fun h => by
    unfold numF at h ⊢
    by_cases c : bad = false
    · simp only [c, if_true] at h ⊢
      simp only [Bool.not_eq_false', decide_eq_true_eq] at h
      obtain ⟨h1, h2, h3, h4, h5, _⟩ := getS_ok h
      omega
    · simp only [c, if_false] at h
      exact absurd h (by simp)
  simp (maxSteps := 1000000) (disch := omega) only [rg, gD, Nat.reduceBEq, Nat.reduceEqDiff, Nat.reduceAdd, Int.reduceEq, Int.reduceLT, Int.reduceLE, Int.reduceToNat, reduceIte, reduceCtorEq, Nat.reduceLeDiff, Nat.reduceLT, Nat.reduceMul, Nat.reduceSub]
  have hR : rawG p bad = rawG p bad := rfl
  conv at hR => rhs; unfold rawG
  simp only at hR
  generalize hk : numF p (0, bad) 1 = k at hk1 hk2 hR
  obtain ⟨kn, kr⟩ := k
  simp only at hk1 hk2 hR
  rcases kinds kn with e | e | e | e | e | e | e | e | ⟨k1, k2, k4, k6, k5, k7, k9, k8⟩
  · subst e
    simp only [if_true] at hR
    simp only []
    obtain ⟨ka, kb⟩ := kr
    simp (maxSteps := 1000000) (disch := omega) only [rg, gD, Nat.reduceBEq, Nat.reduceEqDiff, Nat.reduceAdd, Int.reduceEq, Int.reduceLT, Int.reduceLE, Int.reduceToNat, reduceIte, reduceCtorEq, Nat.reduceLeDiff, Nat.reduceLT, Nat.reduceMul, Nat.reduceSub]
    refine ⟨_, _, _, _, f_rest _ 1 p (ka, kb) (fun h => by have := hk2 h; simp only at this ⊢; omega) (by simp) (by simp (disch := omega) only [upd_eq, upd_ne, wo_0, wo_1, wo_2]), ?_⟩
    cases kb with
    | true =>
      simp only [Bool.true_eq_false, if_false] at hR
      have e : restF p (ka, true) = ([], ka, true) := rfl
      rw [e]
      simp (maxSteps := 1000000) (disch := omega) only [rg, gD, Nat.reduceBEq, Nat.reduceEqDiff, Nat.reduceAdd, Int.reduceEq, Int.reduceLT, Int.reduceLE, Int.reduceToNat, reduceIte, reduceCtorEq, Nat.reduceLeDiff, Nat.reduceLT, Nat.reduceMul, Nat.reduceSub]
      refine ⟨_, dag_get [] (by simp), ?_⟩
      generalize dagGetS [] = g at hR
      simp (maxSteps := 1000000) (disch := omega) only [rg, gD, Nat.reduceBEq, Nat.reduceEqDiff, Nat.reduceAdd, Int.reduceEq, Int.reduceLT, Int.reduceLE, Int.reduceToNat, reduceIte, reduceCtorEq, Nat.reduceLeDiff, Nat.reduceLT, Nat.reduceMul, Nat.reduceSub, dagP, dagV, tasksV, fdV]
      (refine fin_x rfl ?_ ?_ <;> simp [pack, lo, loL, V.closed, closedL, mv_closed, cmdR, hR, zeroC, zeroD, cmdV, tasksV, mv])
    | false =>
      simp only [if_true] at hR
      have hk3 := hk2 rfl
      simp only at hk3
      have e : restF p (ka, false) = (p.drop ka.toNat, (p.length : Int), false) := rfl
      rw [e]
      simp (maxSteps := 1000000) (disch := omega) only [rg, gD, Nat.reduceBEq, Nat.reduceEqDiff, Nat.reduceAdd, Int.reduceEq, Int.reduceLT, Int.reduceLE, Int.reduceToNat, reduceIte, reduceCtorEq, Nat.reduceLeDiff, Nat.reduceLT, Nat.reduceMul, Nat.reduceSub]
      refine ⟨_, dag_get (p.drop ka.toNat) (by simp; omega), ?_⟩
      generalize dagGetS (p.drop ka.toNat) = g at hR
      simp (maxSteps := 1000000) (disch := omega) only [rg, gD, Nat.reduceBEq, Nat.reduceEqDiff, Nat.reduceAdd, Int.reduceEq, Int.reduceLT, Int.reduceLE, Int.reduceToNat, reduceIte, reduceCtorEq, Nat.reduceLeDiff, Nat.reduceLT, Nat.reduceMul, Nat.reduceSub, dagP, dagV, tasksV, fdV]
      by_cases c : g.2 = 0
      · simp (maxSteps := 1000000) (disch := omega) only [rg, gD, Nat.reduceBEq, Nat.reduceEqDiff, Nat.reduceAdd, Int.reduceEq, Int.reduceLT, Int.reduceLE, Int.reduceToNat, reduceIte, reduceCtorEq, Nat.reduceLeDiff, Nat.reduceLT, Nat.reduceMul, Nat.reduceSub, c]
        (refine fin_x rfl ?_ ?_ <;> simp [pack, lo, loL, V.closed, closedL, mv_closed, cmdR, hR, c, cmdV, tasksV, mv_closed taskV_closed, mv_lo taskV_lo])
      · simp (maxSteps := 1000000) (disch := omega) only [rg, gD, Nat.reduceBEq, Nat.reduceEqDiff, Nat.reduceAdd, Int.reduceEq, Int.reduceLT, Int.reduceLE, Int.reduceToNat, reduceIte, reduceCtorEq, Nat.reduceLeDiff, Nat.reduceLT, Nat.reduceMul, Nat.reduceSub, c]
        (refine fin_x rfl ?_ ?_ <;> simp [pack, lo, loL, V.closed, closedL, mv_closed, cmdR, hR, c, zeroC, zeroD, cmdV, tasksV, mv])
  · subst e
    simp only [show ¬ (2 : Int) = 1 by omega, if_false, if_true, reduceCtorEq, Int.reduceEq, or_false, false_or, or_true, true_or, or_self] at hR
    simp only []
    simp (maxSteps := 1000000) (disch := omega) only [rg, gD, Nat.reduceBEq, Nat.reduceEqDiff, Nat.reduceAdd, Int.reduceEq, Int.reduceLT, Int.reduceLE, Int.reduceToNat, reduceIte, reduceCtorEq, Nat.reduceLeDiff, Nat.reduceLT, Nat.reduceMul, Nat.reduceSub]
    refine ⟨_, _, _, _, f_text _ 1 p (kr) (by omega) (by simp) (by simp (disch := omega) only [upd_eq, upd_ne, wo_0, wo_1, wo_2]), ?_⟩
    simp (maxSteps := 1000000) (disch := omega) only [rg, gD, Nat.reduceBEq, Nat.reduceEqDiff, Nat.reduceAdd, Int.reduceEq, Int.reduceLT, Int.reduceLE, Int.reduceToNat, reduceIte, reduceCtorEq, Nat.reduceLeDiff, Nat.reduceLT, Nat.reduceMul, Nat.reduceSub]
    generalize txtF p (kr) = x at hR
    refine ⟨_, _, _, _, f_text _ 1 p (x.2) (by omega) (by simp) (by simp (disch := omega) only [upd_eq, upd_ne, wo_0, wo_1, wo_2]), ?_⟩
    simp (maxSteps := 1000000) (disch := omega) only [rg, gD, Nat.reduceBEq, Nat.reduceEqDiff, Nat.reduceAdd, Int.reduceEq, Int.reduceLT, Int.reduceLE, Int.reduceToNat, reduceIte, reduceCtorEq, Nat.reduceLeDiff, Nat.reduceLT, Nat.reduceMul, Nat.reduceSub]
    generalize txtF p (x.2) = y at hR
    cases hb : (y.2).2 with
    | true =>
      simp (maxSteps := 1000000) (disch := omega) only [rg, gD, Nat.reduceBEq, Nat.reduceEqDiff, Nat.reduceAdd, Int.reduceEq, Int.reduceLT, Int.reduceLE, Int.reduceToNat, reduceIte, reduceCtorEq, Nat.reduceLeDiff, Nat.reduceLT, Nat.reduceMul, Nat.reduceSub, fdV, hb]
      (refine fin_x rfl ?_ ?_ <;> simp [pack, lo, loL, V.closed, closedL, mv_closed, cmdR, hR, hb, zeroC, zeroD, cmdV, tasksV, mv])
    | false =>
      by_cases hc : (y.2).1 = p.length
      · simp (maxSteps := 1000000) (disch := omega) only [rg, gD, Nat.reduceBEq, Nat.reduceEqDiff, Nat.reduceAdd, Int.reduceEq, Int.reduceLT, Int.reduceLE, Int.reduceToNat, reduceIte, reduceCtorEq, Nat.reduceLeDiff, Nat.reduceLT, Nat.reduceMul, Nat.reduceSub, fdV, hb, hc]
        (refine fin_x rfl ?_ ?_ <;> simp [pack, lo, loL, V.closed, closedL, mv_closed, cmdR, hR, hb, hc, zeroC, zeroD, cmdV, tasksV, mv])
      · simp (maxSteps := 1000000) (disch := omega) only [rg, gD, Nat.reduceBEq, Nat.reduceEqDiff, Nat.reduceAdd, Int.reduceEq, Int.reduceLT, Int.reduceLE, Int.reduceToNat, reduceIte, reduceCtorEq, Nat.reduceLeDiff, Nat.reduceLT, Nat.reduceMul, Nat.reduceSub, fdV, hb, hc]
        (refine fin_x rfl ?_ ?_ <;> simp [pack, lo, loL, V.closed, closedL, mv_closed, cmdR, hR, hb, hc, zeroC, zeroD, cmdV, tasksV, mv])
  · subst e
    simp only [show ¬ (4 : Int) = 1 by omega, if_false, if_true, reduceCtorEq, Int.reduceEq, or_false, false_or, or_true, true_or, or_self] at hR
    simp only []
    simp (maxSteps := 1000000) (disch := omega) only [rg, gD, Nat.reduceBEq, Nat.reduceEqDiff, Nat.reduceAdd, Int.reduceEq, Int.reduceLT, Int.reduceLE, Int.reduceToNat, reduceIte, reduceCtorEq, Nat.reduceLeDiff, Nat.reduceLT, Nat.reduceMul, Nat.reduceSub]
    refine ⟨_, _, _, _, f_num _ 1 p (kr) 6 (by omega) (by simp) (by simp (disch := omega) only [upd_eq, upd_ne, wo_0, wo_1, wo_2]), ?_⟩
    simp (maxSteps := 1000000) (disch := omega) only [rg, gD, Nat.reduceBEq, Nat.reduceEqDiff, Nat.reduceAdd, Int.reduceEq, Int.reduceLT, Int.reduceLE, Int.reduceToNat, reduceIte, reduceCtorEq, Nat.reduceLeDiff, Nat.reduceLT, Nat.reduceMul, Nat.reduceSub]
    generalize numF p (kr) 6 = x at hR
    cases hb : (x.2).2 with
    | true =>
      simp (maxSteps := 1000000) (disch := omega) only [rg, gD, Nat.reduceBEq, Nat.reduceEqDiff, Nat.reduceAdd, Int.reduceEq, Int.reduceLT, Int.reduceLE, Int.reduceToNat, reduceIte, reduceCtorEq, Nat.reduceLeDiff, Nat.reduceLT, Nat.reduceMul, Nat.reduceSub, fdV, hb]
      (refine fin_x rfl ?_ ?_ <;> simp [pack, lo, loL, V.closed, closedL, mv_closed, cmdR, hR, hb, zeroC, zeroD, cmdV, tasksV, mv])
    | false =>
      by_cases hc : (x.2).1 = p.length
      · simp (maxSteps := 1000000) (disch := omega) only [rg, gD, Nat.reduceBEq, Nat.reduceEqDiff, Nat.reduceAdd, Int.reduceEq, Int.reduceLT, Int.reduceLE, Int.reduceToNat, reduceIte, reduceCtorEq, Nat.reduceLeDiff, Nat.reduceLT, Nat.reduceMul, Nat.reduceSub, fdV, hb, hc]
        (refine fin_x rfl ?_ ?_ <;> simp [pack, lo, loL, V.closed, closedL, mv_closed, cmdR, hR, hb, hc, zeroC, zeroD, cmdV, tasksV, mv])
      · simp (maxSteps := 1000000) (disch := omega) only [rg, gD, Nat.reduceBEq, Nat.reduceEqDiff, Nat.reduceAdd, Int.reduceEq, Int.reduceLT, Int.reduceLE, Int.reduceToNat, reduceIte, reduceCtorEq, Nat.reduceLeDiff, Nat.reduceLT, Nat.reduceMul, Nat.reduceSub, fdV, hb, hc]
        (refine fin_x rfl ?_ ?_ <;> simp [pack, lo, loL, V.closed, closedL, mv_closed, cmdR, hR, hb, hc, zeroC, zeroD, cmdV, tasksV, mv])
  · subst e
    simp only [show ¬ (6 : Int) = 1 by omega, if_false, if_true, reduceCtorEq, Int.reduceEq, or_false, false_or, or_true, true_or, or_self] at hR
    simp only []
    simp (maxSteps := 1000000) (disch := omega) only [rg, gD, Nat.reduceBEq, Nat.reduceEqDiff, Nat.reduceAdd, Int.reduceEq, Int.reduceLT, Int.reduceLE, Int.reduceToNat, reduceIte, reduceCtorEq, Nat.reduceLeDiff, Nat.reduceLT, Nat.reduceMul, Nat.reduceSub]
    refine ⟨_, _, _, _, f_num _ 1 p (kr) 6 (by omega) (by simp) (by simp (disch := omega) only [upd_eq, upd_ne, wo_0, wo_1, wo_2]), ?_⟩
    simp (maxSteps := 1000000) (disch := omega) only [rg, gD, Nat.reduceBEq, Nat.reduceEqDiff, Nat.reduceAdd, Int.reduceEq, Int.reduceLT, Int.reduceLE, Int.reduceToNat, reduceIte, reduceCtorEq, Nat.reduceLeDiff, Nat.reduceLT, Nat.reduceMul, Nat.reduceSub]
    generalize numF p (kr) 6 = x at hR
    cases hb : (x.2).2 with
    | true =>
      simp (maxSteps := 1000000) (disch := omega) only [rg, gD, Nat.reduceBEq, Nat.reduceEqDiff, Nat.reduceAdd, Int.reduceEq, Int.reduceLT, Int.reduceLE, Int.reduceToNat, reduceIte, reduceCtorEq, Nat.reduceLeDiff, Nat.reduceLT, Nat.reduceMul, Nat.reduceSub, fdV, hb]
      (refine fin_x rfl ?_ ?_ <;> simp [pack, lo, loL, V.closed, closedL, mv_closed, cmdR, hR, hb, zeroC, zeroD, cmdV, tasksV, mv])
    | false =>
      by_cases hc : (x.2).1 = p.length
      · simp (maxSteps := 1000000) (disch := omega) only [rg, gD, Nat.reduceBEq, Nat.reduceEqDiff, Nat.reduceAdd, Int.reduceEq, Int.reduceLT, Int.reduceLE, Int.reduceToNat, reduceIte, reduceCtorEq, Nat.reduceLeDiff, Nat.reduceLT, Nat.reduceMul, Nat.reduceSub, fdV, hb, hc]
        (refine fin_x rfl ?_ ?_ <;> simp [pack, lo, loL, V.closed, closedL, mv_closed, cmdR, hR, hb, hc, zeroC, zeroD, cmdV, tasksV, mv])
      · simp (maxSteps := 1000000) (disch := omega) only [rg, gD, Nat.reduceBEq, Nat.reduceEqDiff, Nat.reduceAdd, Int.reduceEq, Int.reduceLT, Int.reduceLE, Int.reduceToNat, reduceIte, reduceCtorEq, Nat.reduceLeDiff, Nat.reduceLT, Nat.reduceMul, Nat.reduceSub, fdV, hb, hc]
        (refine fin_x rfl ?_ ?_ <;> simp [pack, lo, loL, V.closed, closedL, mv_closed, cmdR, hR, hb, hc, zeroC, zeroD, cmdV, tasksV, mv])
  · subst e
    simp only [show ¬ (5 : Int) = 1 by omega, if_false, if_true, reduceCtorEq, Int.reduceEq, or_false, false_or, or_true, true_or, or_self] at hR
    simp only []
    simp (maxSteps := 1000000) (disch := omega) only [rg, gD, Nat.reduceBEq, Nat.reduceEqDiff, Nat.reduceAdd, Int.reduceEq, Int.reduceLT, Int.reduceLE, Int.reduceToNat, reduceIte, reduceCtorEq, Nat.reduceLeDiff, Nat.reduceLT, Nat.reduceMul, Nat.reduceSub]
    refine ⟨_, _, _, _, f_num _ 1 p (kr) 6 (by omega) (by simp) (by simp (disch := omega) only [upd_eq, upd_ne, wo_0, wo_1, wo_2]), ?_⟩
    simp (maxSteps := 1000000) (disch := omega) only [rg, gD, Nat.reduceBEq, Nat.reduceEqDiff, Nat.reduceAdd, Int.reduceEq, Int.reduceLT, Int.reduceLE, Int.reduceToNat, reduceIte, reduceCtorEq, Nat.reduceLeDiff, Nat.reduceLT, Nat.reduceMul, Nat.reduceSub]
    generalize numF p (kr) 6 = x at hR
    refine ⟨_, _, _, _, f_text _ 1 p (x.2) (by omega) (by simp) (by simp (disch := omega) only [upd_eq, upd_ne, wo_0, wo_1, wo_2]), ?_⟩
    simp (maxSteps := 1000000) (disch := omega) only [rg, gD, Nat.reduceBEq, Nat.reduceEqDiff, Nat.reduceAdd, Int.reduceEq, Int.reduceLT, Int.reduceLE, Int.reduceToNat, reduceIte, reduceCtorEq, Nat.reduceLeDiff, Nat.reduceLT, Nat.reduceMul, Nat.reduceSub]
    generalize txtF p (x.2) = y at hR
    cases hb : (y.2).2 with
    | true =>
      simp (maxSteps := 1000000) (disch := omega) only [rg, gD, Nat.reduceBEq, Nat.reduceEqDiff, Nat.reduceAdd, Int.reduceEq, Int.reduceLT, Int.reduceLE, Int.reduceToNat, reduceIte, reduceCtorEq, Nat.reduceLeDiff, Nat.reduceLT, Nat.reduceMul, Nat.reduceSub, fdV, hb]
      (refine fin_x rfl ?_ ?_ <;> simp [pack, lo, loL, V.closed, closedL, mv_closed, cmdR, hR, hb, zeroC, zeroD, cmdV, tasksV, mv])
    | false =>
      by_cases hc : (y.2).1 = p.length
      · simp (maxSteps := 1000000) (disch := omega) only [rg, gD, Nat.reduceBEq, Nat.reduceEqDiff, Nat.reduceAdd, Int.reduceEq, Int.reduceLT, Int.reduceLE, Int.reduceToNat, reduceIte, reduceCtorEq, Nat.reduceLeDiff, Nat.reduceLT, Nat.reduceMul, Nat.reduceSub, fdV, hb, hc]
        (refine fin_x rfl ?_ ?_ <;> simp [pack, lo, loL, V.closed, closedL, mv_closed, cmdR, hR, hb, hc, zeroC, zeroD, cmdV, tasksV, mv])
      · simp (maxSteps := 1000000) (disch := omega) only [rg, gD, Nat.reduceBEq, Nat.reduceEqDiff, Nat.reduceAdd, Int.reduceEq, Int.reduceLT, Int.reduceLE, Int.reduceToNat, reduceIte, reduceCtorEq, Nat.reduceLeDiff, Nat.reduceLT, Nat.reduceMul, Nat.reduceSub, fdV, hb, hc]
        (refine fin_x rfl ?_ ?_ <;> simp [pack, lo, loL, V.closed, closedL, mv_closed, cmdR, hR, hb, hc, zeroC, zeroD, cmdV, tasksV, mv])
  · subst e
    simp only [show ¬ (7 : Int) = 1 by omega, if_false, if_true, reduceCtorEq, Int.reduceEq, or_false, false_or, or_true, true_or, or_self] at hR
    simp only []
    simp (maxSteps := 1000000) (disch := omega) only [rg, gD, Nat.reduceBEq, Nat.reduceEqDiff, Nat.reduceAdd, Int.reduceEq, Int.reduceLT, Int.reduceLE, Int.reduceToNat, reduceIte, reduceCtorEq, Nat.reduceLeDiff, Nat.reduceLT, Nat.reduceMul, Nat.reduceSub]
    refine ⟨_, _, _, _, f_text _ 1 p (kr) (by omega) (by simp) (by simp (disch := omega) only [upd_eq, upd_ne, wo_0, wo_1, wo_2]), ?_⟩
    simp (maxSteps := 1000000) (disch := omega) only [rg, gD, Nat.reduceBEq, Nat.reduceEqDiff, Nat.reduceAdd, Int.reduceEq, Int.reduceLT, Int.reduceLE, Int.reduceToNat, reduceIte, reduceCtorEq, Nat.reduceLeDiff, Nat.reduceLT, Nat.reduceMul, Nat.reduceSub]
    generalize txtF p (kr) = x at hR
    cases hb : (x.2).2 with
    | true =>
      simp (maxSteps := 1000000) (disch := omega) only [rg, gD, Nat.reduceBEq, Nat.reduceEqDiff, Nat.reduceAdd, Int.reduceEq, Int.reduceLT, Int.reduceLE, Int.reduceToNat, reduceIte, reduceCtorEq, Nat.reduceLeDiff, Nat.reduceLT, Nat.reduceMul, Nat.reduceSub, fdV, hb]
      (refine fin_x rfl ?_ ?_ <;> simp [pack, lo, loL, V.closed, closedL, mv_closed, cmdR, hR, hb, zeroC, zeroD, cmdV, tasksV, mv])
    | false =>
      by_cases hc : (x.2).1 = p.length
      · simp (maxSteps := 1000000) (disch := omega) only [rg, gD, Nat.reduceBEq, Nat.reduceEqDiff, Nat.reduceAdd, Int.reduceEq, Int.reduceLT, Int.reduceLE, Int.reduceToNat, reduceIte, reduceCtorEq, Nat.reduceLeDiff, Nat.reduceLT, Nat.reduceMul, Nat.reduceSub, fdV, hb, hc]
        (refine fin_x rfl ?_ ?_ <;> simp [pack, lo, loL, V.closed, closedL, mv_closed, cmdR, hR, hb, hc, zeroC, zeroD, cmdV, tasksV, mv])
      · simp (maxSteps := 1000000) (disch := omega) only [rg, gD, Nat.reduceBEq, Nat.reduceEqDiff, Nat.reduceAdd, Int.reduceEq, Int.reduceLT, Int.reduceLE, Int.reduceToNat, reduceIte, reduceCtorEq, Nat.reduceLeDiff, Nat.reduceLT, Nat.reduceMul, Nat.reduceSub, fdV, hb, hc]
        (refine fin_x rfl ?_ ?_ <;> simp [pack, lo, loL, V.closed, closedL, mv_closed, cmdR, hR, hb, hc, zeroC, zeroD, cmdV, tasksV, mv])
  · subst e
    simp only [show ¬ (9 : Int) = 1 by omega, if_false, if_true, reduceCtorEq, Int.reduceEq, or_false, false_or, or_true, true_or, or_self] at hR
    simp only []
    simp (maxSteps := 1000000) (disch := omega) only [rg, gD, Nat.reduceBEq, Nat.reduceEqDiff, Nat.reduceAdd, Int.reduceEq, Int.reduceLT, Int.reduceLE, Int.reduceToNat, reduceIte, reduceCtorEq, Nat.reduceLeDiff, Nat.reduceLT, Nat.reduceMul, Nat.reduceSub]
    refine ⟨_, _, _, _, f_text _ 1 p (kr) (by omega) (by simp) (by simp (disch := omega) only [upd_eq, upd_ne, wo_0, wo_1, wo_2]), ?_⟩
    simp (maxSteps := 1000000) (disch := omega) only [rg, gD, Nat.reduceBEq, Nat.reduceEqDiff, Nat.reduceAdd, Int.reduceEq, Int.reduceLT, Int.reduceLE, Int.reduceToNat, reduceIte, reduceCtorEq, Nat.reduceLeDiff, Nat.reduceLT, Nat.reduceMul, Nat.reduceSub]
    generalize txtF p (kr) = x at hR
    cases hb : (x.2).2 with
    | true =>
      simp (maxSteps := 1000000) (disch := omega) only [rg, gD, Nat.reduceBEq, Nat.reduceEqDiff, Nat.reduceAdd, Int.reduceEq, Int.reduceLT, Int.reduceLE, Int.reduceToNat, reduceIte, reduceCtorEq, Nat.reduceLeDiff, Nat.reduceLT, Nat.reduceMul, Nat.reduceSub, fdV, hb]
      (refine fin_x rfl ?_ ?_ <;> simp [pack, lo, loL, V.closed, closedL, mv_closed, cmdR, hR, hb, zeroC, zeroD, cmdV, tasksV, mv])
    | false =>
      by_cases hc : (x.2).1 = p.length
      · simp (maxSteps := 1000000) (disch := omega) only [rg, gD, Nat.reduceBEq, Nat.reduceEqDiff, Nat.reduceAdd, Int.reduceEq, Int.reduceLT, Int.reduceLE, Int.reduceToNat, reduceIte, reduceCtorEq, Nat.reduceLeDiff, Nat.reduceLT, Nat.reduceMul, Nat.reduceSub, fdV, hb, hc]
        (refine fin_x rfl ?_ ?_ <;> simp [pack, lo, loL, V.closed, closedL, mv_closed, cmdR, hR, hb, hc, zeroC, zeroD, cmdV, tasksV, mv])
      · simp (maxSteps := 1000000) (disch := omega) only [rg, gD, Nat.reduceBEq, Nat.reduceEqDiff, Nat.reduceAdd, Int.reduceEq, Int.reduceLT, Int.reduceLE, Int.reduceToNat, reduceIte, reduceCtorEq, Nat.reduceLeDiff, Nat.reduceLT, Nat.reduceMul, Nat.reduceSub, fdV, hb, hc]
        (refine fin_x rfl ?_ ?_ <;> simp [pack, lo, loL, V.closed, closedL, mv_closed, cmdR, hR, hb, hc, zeroC, zeroD, cmdV, tasksV, mv])
  · subst e
    simp only [show ¬ (8 : Int) = 1 by omega, if_false, if_true, reduceCtorEq, Int.reduceEq, or_false, false_or, or_true, true_or, or_self] at hR
    simp only []
    simp (maxSteps := 1000000) (disch := omega) only [rg, gD, Nat.reduceBEq, Nat.reduceEqDiff, Nat.reduceAdd, Int.reduceEq, Int.reduceLT, Int.reduceLE, Int.reduceToNat, reduceIte, reduceCtorEq, Nat.reduceLeDiff, Nat.reduceLT, Nat.reduceMul, Nat.reduceSub]
    refine ⟨_, _, _, _, f_num _ 1 p (kr) 6 (by omega) (by simp) (by simp (disch := omega) only [upd_eq, upd_ne, wo_0, wo_1, wo_2]), ?_⟩
    simp (maxSteps := 1000000) (disch := omega) only [rg, gD, Nat.reduceBEq, Nat.reduceEqDiff, Nat.reduceAdd, Int.reduceEq, Int.reduceLT, Int.reduceLE, Int.reduceToNat, reduceIte, reduceCtorEq, Nat.reduceLeDiff, Nat.reduceLT, Nat.reduceMul, Nat.reduceSub]
    generalize numF p (kr) 6 = x at hR
    cases hb : (x.2).2 with
    | true =>
      simp (maxSteps := 1000000) (disch := omega) only [rg, gD, Nat.reduceBEq, Nat.reduceEqDiff, Nat.reduceAdd, Int.reduceEq, Int.reduceLT, Int.reduceLE, Int.reduceToNat, reduceIte, reduceCtorEq, Nat.reduceLeDiff, Nat.reduceLT, Nat.reduceMul, Nat.reduceSub, fdV, hb]
      (refine fin_x rfl ?_ ?_ <;> simp [pack, lo, loL, V.closed, closedL, mv_closed, cmdR, hR, hb, zeroC, zeroD, cmdV, tasksV, mv])
    | false =>
      by_cases hc : (x.2).1 = p.length
      · simp (maxSteps := 1000000) (disch := omega) only [rg, gD, Nat.reduceBEq, Nat.reduceEqDiff, Nat.reduceAdd, Int.reduceEq, Int.reduceLT, Int.reduceLE, Int.reduceToNat, reduceIte, reduceCtorEq, Nat.reduceLeDiff, Nat.reduceLT, Nat.reduceMul, Nat.reduceSub, fdV, hb, hc]
        (refine fin_x rfl ?_ ?_ <;> simp [pack, lo, loL, V.closed, closedL, mv_closed, cmdR, hR, hb, hc, zeroC, zeroD, cmdV, tasksV, mv])
      · simp (maxSteps := 1000000) (disch := omega) only [rg, gD, Nat.reduceBEq, Nat.reduceEqDiff, Nat.reduceAdd, Int.reduceEq, Int.reduceLT, Int.reduceLE, Int.reduceToNat, reduceIte, reduceCtorEq, Nat.reduceLeDiff, Nat.reduceLT, Nat.reduceMul, Nat.reduceSub, fdV, hb, hc]
        (refine fin_x rfl ?_ ?_ <;> simp [pack, lo, loL, V.closed, closedL, mv_closed, cmdR, hR, hb, hc, zeroC, zeroD, cmdV, tasksV, mv])
  · simp only [k1, k2, k4, k6, k5, k7, k9, k8, if_false, or_self] at hR
    simp only []
    by_cases k3 : kn = 3
    · subst k3
      simp only [Int.reduceEq, or_false, if_true] at hR
      simp (maxSteps := 1000000) (disch := omega) only [rg, gD, Nat.reduceBEq, Nat.reduceEqDiff, Nat.reduceAdd, Int.reduceEq, Int.reduceLT, Int.reduceLE, Int.reduceToNat, reduceIte, reduceCtorEq, Nat.reduceLeDiff, Nat.reduceLT, Nat.reduceMul, Nat.reduceSub]
      cases hb : (kr).2 with
      | true =>
        simp (maxSteps := 1000000) (disch := omega) only [rg, gD, Nat.reduceBEq, Nat.reduceEqDiff, Nat.reduceAdd, Int.reduceEq, Int.reduceLT, Int.reduceLE, Int.reduceToNat, reduceIte, reduceCtorEq, Nat.reduceLeDiff, Nat.reduceLT, Nat.reduceMul, Nat.reduceSub, fdV, hb]
        (refine fin_x rfl ?_ ?_ <;> simp [pack, lo, loL, V.closed, closedL, mv_closed, cmdR, hR, hb, zeroC, zeroD, cmdV, tasksV, mv])
      | false =>
        by_cases hc : (kr).1 = p.length
        · simp (maxSteps := 1000000) (disch := omega) only [rg, gD, Nat.reduceBEq, Nat.reduceEqDiff, Nat.reduceAdd, Int.reduceEq, Int.reduceLT, Int.reduceLE, Int.reduceToNat, reduceIte, reduceCtorEq, Nat.reduceLeDiff, Nat.reduceLT, Nat.reduceMul, Nat.reduceSub, fdV, hb, hc]
          (refine fin_x rfl ?_ ?_ <;> simp [pack, lo, loL, V.closed, closedL, mv_closed, cmdR, hR, hb, hc, zeroC, zeroD, cmdV, tasksV, mv])
        · simp (maxSteps := 1000000) (disch := omega) only [rg, gD, Nat.reduceBEq, Nat.reduceEqDiff, Nat.reduceAdd, Int.reduceEq, Int.reduceLT, Int.reduceLE, Int.reduceToNat, reduceIte, reduceCtorEq, Nat.reduceLeDiff, Nat.reduceLT, Nat.reduceMul, Nat.reduceSub, fdV, hb, hc]
          (refine fin_x rfl ?_ ?_ <;> simp [pack, lo, loL, V.closed, closedL, mv_closed, cmdR, hR, hb, hc, zeroC, zeroD, cmdV, tasksV, mv])
    by_cases k10 : kn = 10
    · subst k10
      simp only [Int.reduceEq, or_true, if_true] at hR
      simp (maxSteps := 1000000) (disch := omega) only [rg, gD, Nat.reduceBEq, Nat.reduceEqDiff, Nat.reduceAdd, Int.reduceEq, Int.reduceLT, Int.reduceLE, Int.reduceToNat, reduceIte, reduceCtorEq, Nat.reduceLeDiff, Nat.reduceLT, Nat.reduceMul, Nat.reduceSub]
      cases hb : (kr).2 with
      | true =>
        simp (maxSteps := 1000000) (disch := omega) only [rg, gD, Nat.reduceBEq, Nat.reduceEqDiff, Nat.reduceAdd, Int.reduceEq, Int.reduceLT, Int.reduceLE, Int.reduceToNat, reduceIte, reduceCtorEq, Nat.reduceLeDiff, Nat.reduceLT, Nat.reduceMul, Nat.reduceSub, fdV, hb]
        (refine fin_x rfl ?_ ?_ <;> simp [pack, lo, loL, V.closed, closedL, mv_closed, cmdR, hR, hb, zeroC, zeroD, cmdV, tasksV, mv])
      | false =>
        by_cases hc : (kr).1 = p.length
        · simp (maxSteps := 1000000) (disch := omega) only [rg, gD, Nat.reduceBEq, Nat.reduceEqDiff, Nat.reduceAdd, Int.reduceEq, Int.reduceLT, Int.reduceLE, Int.reduceToNat, reduceIte, reduceCtorEq, Nat.reduceLeDiff, Nat.reduceLT, Nat.reduceMul, Nat.reduceSub, fdV, hb, hc]
          (refine fin_x rfl ?_ ?_ <;> simp [pack, lo, loL, V.closed, closedL, mv_closed, cmdR, hR, hb, hc, zeroC, zeroD, cmdV, tasksV, mv])
        · simp (maxSteps := 1000000) (disch := omega) only [rg, gD, Nat.reduceBEq, Nat.reduceEqDiff, Nat.reduceAdd, Int.reduceEq, Int.reduceLT, Int.reduceLE, Int.reduceToNat, reduceIte, reduceCtorEq, Nat.reduceLeDiff, Nat.reduceLT, Nat.reduceMul, Nat.reduceSub, fdV, hb, hc]
          (refine fin_x rfl ?_ ?_ <;> simp [pack, lo, loL, V.closed, closedL, mv_closed, cmdR, hR, hb, hc, zeroC, zeroD, cmdV, tasksV, mv])
    simp only [k3, k10, or_self, if_false] at hR
    simp (maxSteps := 1000000) (disch := omega) only [rg, gD, Nat.reduceBEq, Nat.reduceEqDiff, Nat.reduceAdd, Int.reduceEq, Int.reduceLT, Int.reduceLE, Int.reduceToNat, reduceIte, reduceCtorEq, Nat.reduceLeDiff, Nat.reduceLT, Nat.reduceMul, Nat.reduceSub, k1, k2, k4, k6, k5, k7, k9, k8, k3, k10, fdV]
    (refine fin_x rfl ?_ ?_ <;> simp [pack, lo, loL, V.closed, closedL, mv_closed, cmdR, hR, zeroC, zeroD, cmdV, tasksV, mv])

end Go.Proofs.Ytjlpmndipceboaa.Ev
end
section
set_option linter.unusedSimpArgs false
set_option linter.unusedVariables false
set_option maxRecDepth 10000
namespace Go.Proofs.Ytjlpmndipceboaa.Ev
open Go

def no1P (c : Cmd) : Prop := c.key = [] ∧ c.name = [] ∧ c.token = 0 ∧ c.time = 0 ∧ c.text = []
instance (c : Cmd) : Decidable (no1P c) := by unfold no1P; infer_instance
theorem no1 (c : Cmd) : PCall Try.prog 28 [cmdV c, .bool true, .bool true, .bool true, .bool true, .bool true, .bool false] (.bool (decide (no1P c))) := by
  refine en28 (by simp) (by simp [closedL, V.closed, cmdV_closed]) ?_
  have no : ¬ no1P c → decide (no1P c) = false := decide_eq_false
  by_cases e0 : c.key = []
  case neg =>
    simp (maxSteps := 1000000) (disch := omega) only [rg, gD, Nat.reduceBEq, Nat.reduceEqDiff, Nat.reduceAdd, Int.reduceEq, Int.reduceLT, Int.reduceLE, Int.reduceToNat, reduceIte, reduceCtorEq, Nat.reduceLeDiff, Nat.reduceLT, Nat.reduceMul, Nat.reduceSub, c28, cmdV, tasksV, e0]
    (refine fin_x rfl ?_ ?_ <;> simp [pack, lo, loL, V.closed, closedL, mv_closed, no (by simp [no1P, e0])])
  by_cases e1 : c.name = []
  case neg =>
    simp (maxSteps := 1000000) (disch := omega) only [rg, gD, Nat.reduceBEq, Nat.reduceEqDiff, Nat.reduceAdd, Int.reduceEq, Int.reduceLT, Int.reduceLE, Int.reduceToNat, reduceIte, reduceCtorEq, Nat.reduceLeDiff, Nat.reduceLT, Nat.reduceMul, Nat.reduceSub, c28, cmdV, tasksV, e0, e1]
    (refine fin_x rfl ?_ ?_ <;> simp [pack, lo, loL, V.closed, closedL, mv_closed, no (by simp [no1P, e1])])
  by_cases e2 : c.token = 0
  case neg =>
    simp (maxSteps := 1000000) (disch := omega) only [rg, gD, Nat.reduceBEq, Nat.reduceEqDiff, Nat.reduceAdd, Int.reduceEq, Int.reduceLT, Int.reduceLE, Int.reduceToNat, reduceIte, reduceCtorEq, Nat.reduceLeDiff, Nat.reduceLT, Nat.reduceMul, Nat.reduceSub, c28, cmdV, tasksV, e0, e1, e2]
    (refine fin_x rfl ?_ ?_ <;> simp [pack, lo, loL, V.closed, closedL, mv_closed, no (by simp [no1P, e2])])
  by_cases e3 : c.time = 0
  case neg =>
    simp (maxSteps := 1000000) (disch := omega) only [rg, gD, Nat.reduceBEq, Nat.reduceEqDiff, Nat.reduceAdd, Int.reduceEq, Int.reduceLT, Int.reduceLE, Int.reduceToNat, reduceIte, reduceCtorEq, Nat.reduceLeDiff, Nat.reduceLT, Nat.reduceMul, Nat.reduceSub, c28, cmdV, tasksV, e0, e1, e2, e3]
    (refine fin_x rfl ?_ ?_ <;> simp [pack, lo, loL, V.closed, closedL, mv_closed, no (by simp [no1P, e3])])
  by_cases e4 : c.text = []
  case neg =>
    simp (maxSteps := 1000000) (disch := omega) only [rg, gD, Nat.reduceBEq, Nat.reduceEqDiff, Nat.reduceAdd, Int.reduceEq, Int.reduceLT, Int.reduceLE, Int.reduceToNat, reduceIte, reduceCtorEq, Nat.reduceLeDiff, Nat.reduceLT, Nat.reduceMul, Nat.reduceSub, c28, cmdV, tasksV, e0, e1, e2, e3, e4]
    (refine fin_x rfl ?_ ?_ <;> simp [pack, lo, loL, V.closed, closedL, mv_closed, no (by simp [no1P, e4])])
  simp (maxSteps := 1000000) (disch := omega) only [rg, gD, Nat.reduceBEq, Nat.reduceEqDiff, Nat.reduceAdd, Int.reduceEq, Int.reduceLT, Int.reduceLE, Int.reduceToNat, reduceIte, reduceCtorEq, Nat.reduceLeDiff, Nat.reduceLT, Nat.reduceMul, Nat.reduceSub, c28, cmdV, tasksV, e0, e1, e2, e3, e4]
  (refine fin_x rfl ?_ ?_ <;> simp [pack, lo, loL, V.closed, closedL, mv_closed, decide_eq_true (show no1P c from ⟨e0, e1, e2, e3, e4⟩)])
def no2P (c : Cmd) : Prop := c.token = 0 ∧ c.time = 0 ∧ c.text = [] ∧ noDag c.dag
instance (c : Cmd) : Decidable (no2P c) := by unfold no2P; infer_instance
theorem no2 (c : Cmd) : PCall Try.prog 28 [cmdV c, .bool false, .bool false, .bool true, .bool true, .bool true, .bool true] (.bool (decide (no2P c))) := by
  refine en28 (by simp) (by simp [closedL, V.closed, cmdV_closed]) ?_
  have no : ¬ no2P c → decide (no2P c) = false := decide_eq_false
  by_cases e2 : c.token = 0
  case neg =>
    simp (maxSteps := 1000000) (disch := omega) only [rg, gD, Nat.reduceBEq, Nat.reduceEqDiff, Nat.reduceAdd, Int.reduceEq, Int.reduceLT, Int.reduceLE, Int.reduceToNat, reduceIte, reduceCtorEq, Nat.reduceLeDiff, Nat.reduceLT, Nat.reduceMul, Nat.reduceSub, c28, cmdV, tasksV, e2]
    (refine fin_x rfl ?_ ?_ <;> simp [pack, lo, loL, V.closed, closedL, mv_closed, no (by simp [no2P, e2])])
  by_cases e3 : c.time = 0
  case neg =>
    simp (maxSteps := 1000000) (disch := omega) only [rg, gD, Nat.reduceBEq, Nat.reduceEqDiff, Nat.reduceAdd, Int.reduceEq, Int.reduceLT, Int.reduceLE, Int.reduceToNat, reduceIte, reduceCtorEq, Nat.reduceLeDiff, Nat.reduceLT, Nat.reduceMul, Nat.reduceSub, c28, cmdV, tasksV, e2, e3]
    (refine fin_x rfl ?_ ?_ <;> simp [pack, lo, loL, V.closed, closedL, mv_closed, no (by simp [no2P, e3])])
  by_cases e4 : c.text = []
  case neg =>
    simp (maxSteps := 1000000) (disch := omega) only [rg, gD, Nat.reduceBEq, Nat.reduceEqDiff, Nat.reduceAdd, Int.reduceEq, Int.reduceLT, Int.reduceLE, Int.reduceToNat, reduceIte, reduceCtorEq, Nat.reduceLeDiff, Nat.reduceLT, Nat.reduceMul, Nat.reduceSub, c28, cmdV, tasksV, e2, e3, e4]
    (refine fin_x rfl ?_ ?_ <;> simp [pack, lo, loL, V.closed, closedL, mv_closed, no (by simp [no2P, e4])])
  by_cases e5 : c.dag.name = []
  case neg =>
    simp (maxSteps := 1000000) (disch := omega) only [rg, gD, Nat.reduceBEq, Nat.reduceEqDiff, Nat.reduceAdd, Int.reduceEq, Int.reduceLT, Int.reduceLE, Int.reduceToNat, reduceIte, reduceCtorEq, Nat.reduceLeDiff, Nat.reduceLT, Nat.reduceMul, Nat.reduceSub, c28, cmdV, tasksV, e2, e3, e4, e5]
    (refine fin_x rfl ?_ ?_ <;> simp [pack, lo, loL, V.closed, closedL, mv_closed, no (by simp [no2P, noDag, e5])])
  by_cases e6 : c.dag.tasks.length = 0
  case neg =>
    simp (maxSteps := 1000000) (disch := omega) only [rg, gD, Nat.reduceBEq, Nat.reduceEqDiff, Nat.reduceAdd, Int.reduceEq, Int.reduceLT, Int.reduceLE, Int.reduceToNat, reduceIte, reduceCtorEq, Nat.reduceLeDiff, Nat.reduceLT, Nat.reduceMul, Nat.reduceSub, c28, cmdV, tasksV, e2, e3, e4, e5, show (0 : Int) < c.dag.tasks.length by omega]
    (refine fin_x rfl ?_ ?_ <;> simp [pack, lo, loL, V.closed, closedL, mv_closed, no (by simp [no2P, noDag, e6])])
  simp (maxSteps := 1000000) (disch := omega) only [rg, gD, Nat.reduceBEq, Nat.reduceEqDiff, Nat.reduceAdd, Int.reduceEq, Int.reduceLT, Int.reduceLE, Int.reduceToNat, reduceIte, reduceCtorEq, Nat.reduceLeDiff, Nat.reduceLT, Nat.reduceMul, Nat.reduceSub, c28, cmdV, tasksV, e2, e3, e4, e5, show ¬ (0 : Int) < c.dag.tasks.length by omega]
  (refine fin_x rfl ?_ ?_ <;> simp [pack, lo, loL, V.closed, closedL, mv_closed, decide_eq_true (show no2P c from ⟨e2, e3, e4, e5, e6⟩)])
def no46P (c : Cmd) : Prop := c.key = [] ∧ c.name = [] ∧ c.time = 0 ∧ c.text = [] ∧ noDag c.dag
instance (c : Cmd) : Decidable (no46P c) := by unfold no46P; infer_instance
theorem no46 (c : Cmd) : PCall Try.prog 28 [cmdV c, .bool true, .bool true, .bool false, .bool true, .bool true, .bool true] (.bool (decide (no46P c))) := by
  refine en28 (by simp) (by simp [closedL, V.closed, cmdV_closed]) ?_
  have no : ¬ no46P c → decide (no46P c) = false := decide_eq_false
  by_cases e0 : c.key = []
  case neg =>
    simp (maxSteps := 1000000) (disch := omega) only [rg, gD, Nat.reduceBEq, Nat.reduceEqDiff, Nat.reduceAdd, Int.reduceEq, Int.reduceLT, Int.reduceLE, Int.reduceToNat, reduceIte, reduceCtorEq, Nat.reduceLeDiff, Nat.reduceLT, Nat.reduceMul, Nat.reduceSub, c28, cmdV, tasksV, e0]
    (refine fin_x rfl ?_ ?_ <;> simp [pack, lo, loL, V.closed, closedL, mv_closed, no (by simp [no46P, e0])])
  by_cases e1 : c.name = []
  case neg =>
    simp (maxSteps := 1000000) (disch := omega) only [rg, gD, Nat.reduceBEq, Nat.reduceEqDiff, Nat.reduceAdd, Int.reduceEq, Int.reduceLT, Int.reduceLE, Int.reduceToNat, reduceIte, reduceCtorEq, Nat.reduceLeDiff, Nat.reduceLT, Nat.reduceMul, Nat.reduceSub, c28, cmdV, tasksV, e0, e1]
    (refine fin_x rfl ?_ ?_ <;> simp [pack, lo, loL, V.closed, closedL, mv_closed, no (by simp [no46P, e1])])
  by_cases e3 : c.time = 0
  case neg =>
    simp (maxSteps := 1000000) (disch := omega) only [rg, gD, Nat.reduceBEq, Nat.reduceEqDiff, Nat.reduceAdd, Int.reduceEq, Int.reduceLT, Int.reduceLE, Int.reduceToNat, reduceIte, reduceCtorEq, Nat.reduceLeDiff, Nat.reduceLT, Nat.reduceMul, Nat.reduceSub, c28, cmdV, tasksV, e0, e1, e3]
    (refine fin_x rfl ?_ ?_ <;> simp [pack, lo, loL, V.closed, closedL, mv_closed, no (by simp [no46P, e3])])
  by_cases e4 : c.text = []
  case neg =>
    simp (maxSteps := 1000000) (disch := omega) only [rg, gD, Nat.reduceBEq, Nat.reduceEqDiff, Nat.reduceAdd, Int.reduceEq, Int.reduceLT, Int.reduceLE, Int.reduceToNat, reduceIte, reduceCtorEq, Nat.reduceLeDiff, Nat.reduceLT, Nat.reduceMul, Nat.reduceSub, c28, cmdV, tasksV, e0, e1, e3, e4]
    (refine fin_x rfl ?_ ?_ <;> simp [pack, lo, loL, V.closed, closedL, mv_closed, no (by simp [no46P, e4])])
  by_cases e5 : c.dag.name = []
  case neg =>
    simp (maxSteps := 1000000) (disch := omega) only [rg, gD, Nat.reduceBEq, Nat.reduceEqDiff, Nat.reduceAdd, Int.reduceEq, Int.reduceLT, Int.reduceLE, Int.reduceToNat, reduceIte, reduceCtorEq, Nat.reduceLeDiff, Nat.reduceLT, Nat.reduceMul, Nat.reduceSub, c28, cmdV, tasksV, e0, e1, e3, e4, e5]
    (refine fin_x rfl ?_ ?_ <;> simp [pack, lo, loL, V.closed, closedL, mv_closed, no (by simp [no46P, noDag, e5])])
  by_cases e6 : c.dag.tasks.length = 0
  case neg =>
    simp (maxSteps := 1000000) (disch := omega) only [rg, gD, Nat.reduceBEq, Nat.reduceEqDiff, Nat.reduceAdd, Int.reduceEq, Int.reduceLT, Int.reduceLE, Int.reduceToNat, reduceIte, reduceCtorEq, Nat.reduceLeDiff, Nat.reduceLT, Nat.reduceMul, Nat.reduceSub, c28, cmdV, tasksV, e0, e1, e3, e4, e5, show (0 : Int) < c.dag.tasks.length by omega]
    (refine fin_x rfl ?_ ?_ <;> simp [pack, lo, loL, V.closed, closedL, mv_closed, no (by simp [no46P, noDag, e6])])
  simp (maxSteps := 1000000) (disch := omega) only [rg, gD, Nat.reduceBEq, Nat.reduceEqDiff, Nat.reduceAdd, Int.reduceEq, Int.reduceLT, Int.reduceLE, Int.reduceToNat, reduceIte, reduceCtorEq, Nat.reduceLeDiff, Nat.reduceLT, Nat.reduceMul, Nat.reduceSub, c28, cmdV, tasksV, e0, e1, e3, e4, e5, show ¬ (0 : Int) < c.dag.tasks.length by omega]
  (refine fin_x rfl ?_ ?_ <;> simp [pack, lo, loL, V.closed, closedL, mv_closed, decide_eq_true (show no46P c from ⟨e0, e1, e3, e4, e5, e6⟩)])
def no5P (c : Cmd) : Prop := c.key = [] ∧ c.name = [] ∧ c.time = 0 ∧ noDag c.dag
instance (c : Cmd) : Decidable (no5P c) := by unfold no5P; infer_instance
theorem no5 (c : Cmd) : PCall Try.prog 28 [cmdV c, .bool true, .bool true, .bool false, .bool true, .bool false, .bool true] (.bool (decide (no5P c))) := by
  refine en28 (by simp) (by simp [closedL, V.closed, cmdV_closed]) ?_
  have no : ¬ no5P c → decide (no5P c) = false := decide_eq_false
  by_cases e0 : c.key = []
  case neg =>
    simp (maxSteps := 1000000) (disch := omega) only [rg, gD, Nat.reduceBEq, Nat.reduceEqDiff, Nat.reduceAdd, Int.reduceEq, Int.reduceLT, Int.reduceLE, Int.reduceToNat, reduceIte, reduceCtorEq, Nat.reduceLeDiff, Nat.reduceLT, Nat.reduceMul, Nat.reduceSub, c28, cmdV, tasksV, e0]
    (refine fin_x rfl ?_ ?_ <;> simp [pack, lo, loL, V.closed, closedL, mv_closed, no (by simp [no5P, e0])])
  by_cases e1 : c.name = []
  case neg =>
    simp (maxSteps := 1000000) (disch := omega) only [rg, gD, Nat.reduceBEq, Nat.reduceEqDiff, Nat.reduceAdd, Int.reduceEq, Int.reduceLT, Int.reduceLE, Int.reduceToNat, reduceIte, reduceCtorEq, Nat.reduceLeDiff, Nat.reduceLT, Nat.reduceMul, Nat.reduceSub, c28, cmdV, tasksV, e0, e1]
    (refine fin_x rfl ?_ ?_ <;> simp [pack, lo, loL, V.closed, closedL, mv_closed, no (by simp [no5P, e1])])
  by_cases e3 : c.time = 0
  case neg =>
    simp (maxSteps := 1000000) (disch := omega) only [rg, gD, Nat.reduceBEq, Nat.reduceEqDiff, Nat.reduceAdd, Int.reduceEq, Int.reduceLT, Int.reduceLE, Int.reduceToNat, reduceIte, reduceCtorEq, Nat.reduceLeDiff, Nat.reduceLT, Nat.reduceMul, Nat.reduceSub, c28, cmdV, tasksV, e0, e1, e3]
    (refine fin_x rfl ?_ ?_ <;> simp [pack, lo, loL, V.closed, closedL, mv_closed, no (by simp [no5P, e3])])
  by_cases e5 : c.dag.name = []
  case neg =>
    simp (maxSteps := 1000000) (disch := omega) only [rg, gD, Nat.reduceBEq, Nat.reduceEqDiff, Nat.reduceAdd, Int.reduceEq, Int.reduceLT, Int.reduceLE, Int.reduceToNat, reduceIte, reduceCtorEq, Nat.reduceLeDiff, Nat.reduceLT, Nat.reduceMul, Nat.reduceSub, c28, cmdV, tasksV, e0, e1, e3, e5]
    (refine fin_x rfl ?_ ?_ <;> simp [pack, lo, loL, V.closed, closedL, mv_closed, no (by simp [no5P, noDag, e5])])
  by_cases e6 : c.dag.tasks.length = 0
  case neg =>
    simp (maxSteps := 1000000) (disch := omega) only [rg, gD, Nat.reduceBEq, Nat.reduceEqDiff, Nat.reduceAdd, Int.reduceEq, Int.reduceLT, Int.reduceLE, Int.reduceToNat, reduceIte, reduceCtorEq, Nat.reduceLeDiff, Nat.reduceLT, Nat.reduceMul, Nat.reduceSub, c28, cmdV, tasksV, e0, e1, e3, e5, show (0 : Int) < c.dag.tasks.length by omega]
    (refine fin_x rfl ?_ ?_ <;> simp [pack, lo, loL, V.closed, closedL, mv_closed, no (by simp [no5P, noDag, e6])])
  simp (maxSteps := 1000000) (disch := omega) only [rg, gD, Nat.reduceBEq, Nat.reduceEqDiff, Nat.reduceAdd, Int.reduceEq, Int.reduceLT, Int.reduceLE, Int.reduceToNat, reduceIte, reduceCtorEq, Nat.reduceLeDiff, Nat.reduceLT, Nat.reduceMul, Nat.reduceSub, c28, cmdV, tasksV, e0, e1, e3, e5, show ¬ (0 : Int) < c.dag.tasks.length by omega]
  (refine fin_x rfl ?_ ?_ <;> simp [pack, lo, loL, V.closed, closedL, mv_closed, decide_eq_true (show no5P c from ⟨e0, e1, e3, e5, e6⟩)])
def no79P (c : Cmd) : Prop := c.name = [] ∧ c.token = 0 ∧ c.time = 0 ∧ c.text = [] ∧ noDag c.dag
instance (c : Cmd) : Decidable (no79P c) := by unfold no79P; infer_instance
theorem no79 (c : Cmd) : PCall Try.prog 28 [cmdV c, .bool false, .bool true, .bool true, .bool true, .bool true, .bool true] (.bool (decide (no79P c))) := by
  refine en28 (by simp) (by simp [closedL, V.closed, cmdV_closed]) ?_
  have no : ¬ no79P c → decide (no79P c) = false := decide_eq_false
  by_cases e1 : c.name = []
  case neg =>
    simp (maxSteps := 1000000) (disch := omega) only [rg, gD, Nat.reduceBEq, Nat.reduceEqDiff, Nat.reduceAdd, Int.reduceEq, Int.reduceLT, Int.reduceLE, Int.reduceToNat, reduceIte, reduceCtorEq, Nat.reduceLeDiff, Nat.reduceLT, Nat.reduceMul, Nat.reduceSub, c28, cmdV, tasksV, e1]
    (refine fin_x rfl ?_ ?_ <;> simp [pack, lo, loL, V.closed, closedL, mv_closed, no (by simp [no79P, e1])])
  by_cases e2 : c.token = 0
  case neg =>
    simp (maxSteps := 1000000) (disch := omega) only [rg, gD, Nat.reduceBEq, Nat.reduceEqDiff, Nat.reduceAdd, Int.reduceEq, Int.reduceLT, Int.reduceLE, Int.reduceToNat, reduceIte, reduceCtorEq, Nat.reduceLeDiff, Nat.reduceLT, Nat.reduceMul, Nat.reduceSub, c28, cmdV, tasksV, e1, e2]
    (refine fin_x rfl ?_ ?_ <;> simp [pack, lo, loL, V.closed, closedL, mv_closed, no (by simp [no79P, e2])])
  by_cases e3 : c.time = 0
  case neg =>
    simp (maxSteps := 1000000) (disch := omega) only [rg, gD, Nat.reduceBEq, Nat.reduceEqDiff, Nat.reduceAdd, Int.reduceEq, Int.reduceLT, Int.reduceLE, Int.reduceToNat, reduceIte, reduceCtorEq, Nat.reduceLeDiff, Nat.reduceLT, Nat.reduceMul, Nat.reduceSub, c28, cmdV, tasksV, e1, e2, e3]
    (refine fin_x rfl ?_ ?_ <;> simp [pack, lo, loL, V.closed, closedL, mv_closed, no (by simp [no79P, e3])])
  by_cases e4 : c.text = []
  case neg =>
    simp (maxSteps := 1000000) (disch := omega) only [rg, gD, Nat.reduceBEq, Nat.reduceEqDiff, Nat.reduceAdd, Int.reduceEq, Int.reduceLT, Int.reduceLE, Int.reduceToNat, reduceIte, reduceCtorEq, Nat.reduceLeDiff, Nat.reduceLT, Nat.reduceMul, Nat.reduceSub, c28, cmdV, tasksV, e1, e2, e3, e4]
    (refine fin_x rfl ?_ ?_ <;> simp [pack, lo, loL, V.closed, closedL, mv_closed, no (by simp [no79P, e4])])
  by_cases e5 : c.dag.name = []
  case neg =>
    simp (maxSteps := 1000000) (disch := omega) only [rg, gD, Nat.reduceBEq, Nat.reduceEqDiff, Nat.reduceAdd, Int.reduceEq, Int.reduceLT, Int.reduceLE, Int.reduceToNat, reduceIte, reduceCtorEq, Nat.reduceLeDiff, Nat.reduceLT, Nat.reduceMul, Nat.reduceSub, c28, cmdV, tasksV, e1, e2, e3, e4, e5]
    (refine fin_x rfl ?_ ?_ <;> simp [pack, lo, loL, V.closed, closedL, mv_closed, no (by simp [no79P, noDag, e5])])
  by_cases e6 : c.dag.tasks.length = 0
  case neg =>
    simp (maxSteps := 1000000) (disch := omega) only [rg, gD, Nat.reduceBEq, Nat.reduceEqDiff, Nat.reduceAdd, Int.reduceEq, Int.reduceLT, Int.reduceLE, Int.reduceToNat, reduceIte, reduceCtorEq, Nat.reduceLeDiff, Nat.reduceLT, Nat.reduceMul, Nat.reduceSub, c28, cmdV, tasksV, e1, e2, e3, e4, e5, show (0 : Int) < c.dag.tasks.length by omega]
    (refine fin_x rfl ?_ ?_ <;> simp [pack, lo, loL, V.closed, closedL, mv_closed, no (by simp [no79P, noDag, e6])])
  simp (maxSteps := 1000000) (disch := omega) only [rg, gD, Nat.reduceBEq, Nat.reduceEqDiff, Nat.reduceAdd, Int.reduceEq, Int.reduceLT, Int.reduceLE, Int.reduceToNat, reduceIte, reduceCtorEq, Nat.reduceLeDiff, Nat.reduceLT, Nat.reduceMul, Nat.reduceSub, c28, cmdV, tasksV, e1, e2, e3, e4, e5, show ¬ (0 : Int) < c.dag.tasks.length by omega]
  (refine fin_x rfl ?_ ?_ <;> simp [pack, lo, loL, V.closed, closedL, mv_closed, decide_eq_true (show no79P c from ⟨e1, e2, e3, e4, e5, e6⟩)])
def no8P (c : Cmd) : Prop := c.key = [] ∧ c.name = [] ∧ c.token = 0 ∧ c.text = [] ∧ noDag c.dag
instance (c : Cmd) : Decidable (no8P c) := by unfold no8P; infer_instance
theorem no8 (c : Cmd) : PCall Try.prog 28 [cmdV c, .bool true, .bool true, .bool true, .bool false, .bool true, .bool true] (.bool (decide (no8P c))) := by
  refine en28 (by simp) (by simp [closedL, V.closed, cmdV_closed]) ?_
  have no : ¬ no8P c → decide (no8P c) = false := decide_eq_false
  by_cases e0 : c.key = []
  case neg =>
    simp (maxSteps := 1000000) (disch := omega) only [rg, gD, Nat.reduceBEq, Nat.reduceEqDiff, Nat.reduceAdd, Int.reduceEq, Int.reduceLT, Int.reduceLE, Int.reduceToNat, reduceIte, reduceCtorEq, Nat.reduceLeDiff, Nat.reduceLT, Nat.reduceMul, Nat.reduceSub, c28, cmdV, tasksV, e0]
    (refine fin_x rfl ?_ ?_ <;> simp [pack, lo, loL, V.closed, closedL, mv_closed, no (by simp [no8P, e0])])
  by_cases e1 : c.name = []
  case neg =>
    simp (maxSteps := 1000000) (disch := omega) only [rg, gD, Nat.reduceBEq, Nat.reduceEqDiff, Nat.reduceAdd, Int.reduceEq, Int.reduceLT, Int.reduceLE, Int.reduceToNat, reduceIte, reduceCtorEq, Nat.reduceLeDiff, Nat.reduceLT, Nat.reduceMul, Nat.reduceSub, c28, cmdV, tasksV, e0, e1]
    (refine fin_x rfl ?_ ?_ <;> simp [pack, lo, loL, V.closed, closedL, mv_closed, no (by simp [no8P, e1])])
  by_cases e2 : c.token = 0
  case neg =>
    simp (maxSteps := 1000000) (disch := omega) only [rg, gD, Nat.reduceBEq, Nat.reduceEqDiff, Nat.reduceAdd, Int.reduceEq, Int.reduceLT, Int.reduceLE, Int.reduceToNat, reduceIte, reduceCtorEq, Nat.reduceLeDiff, Nat.reduceLT, Nat.reduceMul, Nat.reduceSub, c28, cmdV, tasksV, e0, e1, e2]
    (refine fin_x rfl ?_ ?_ <;> simp [pack, lo, loL, V.closed, closedL, mv_closed, no (by simp [no8P, e2])])
  by_cases e4 : c.text = []
  case neg =>
    simp (maxSteps := 1000000) (disch := omega) only [rg, gD, Nat.reduceBEq, Nat.reduceEqDiff, Nat.reduceAdd, Int.reduceEq, Int.reduceLT, Int.reduceLE, Int.reduceToNat, reduceIte, reduceCtorEq, Nat.reduceLeDiff, Nat.reduceLT, Nat.reduceMul, Nat.reduceSub, c28, cmdV, tasksV, e0, e1, e2, e4]
    (refine fin_x rfl ?_ ?_ <;> simp [pack, lo, loL, V.closed, closedL, mv_closed, no (by simp [no8P, e4])])
  by_cases e5 : c.dag.name = []
  case neg =>
    simp (maxSteps := 1000000) (disch := omega) only [rg, gD, Nat.reduceBEq, Nat.reduceEqDiff, Nat.reduceAdd, Int.reduceEq, Int.reduceLT, Int.reduceLE, Int.reduceToNat, reduceIte, reduceCtorEq, Nat.reduceLeDiff, Nat.reduceLT, Nat.reduceMul, Nat.reduceSub, c28, cmdV, tasksV, e0, e1, e2, e4, e5]
    (refine fin_x rfl ?_ ?_ <;> simp [pack, lo, loL, V.closed, closedL, mv_closed, no (by simp [no8P, noDag, e5])])
  by_cases e6 : c.dag.tasks.length = 0
  case neg =>
    simp (maxSteps := 1000000) (disch := omega) only [rg, gD, Nat.reduceBEq, Nat.reduceEqDiff, Nat.reduceAdd, Int.reduceEq, Int.reduceLT, Int.reduceLE, Int.reduceToNat, reduceIte, reduceCtorEq, Nat.reduceLeDiff, Nat.reduceLT, Nat.reduceMul, Nat.reduceSub, c28, cmdV, tasksV, e0, e1, e2, e4, e5, show (0 : Int) < c.dag.tasks.length by omega]
    (refine fin_x rfl ?_ ?_ <;> simp [pack, lo, loL, V.closed, closedL, mv_closed, no (by simp [no8P, noDag, e6])])
  simp (maxSteps := 1000000) (disch := omega) only [rg, gD, Nat.reduceBEq, Nat.reduceEqDiff, Nat.reduceAdd, Int.reduceEq, Int.reduceLT, Int.reduceLE, Int.reduceToNat, reduceIte, reduceCtorEq, Nat.reduceLeDiff, Nat.reduceLT, Nat.reduceMul, Nat.reduceSub, c28, cmdV, tasksV, e0, e1, e2, e4, e5, show ¬ (0 : Int) < c.dag.tasks.length by omega]
  (refine fin_x rfl ?_ ?_ <;> simp [pack, lo, loL, V.closed, closedL, mv_closed, decide_eq_true (show no8P c from ⟨e0, e1, e2, e4, e5, e6⟩)])
def no0P (c : Cmd) : Prop := c.key = [] ∧ c.name = [] ∧ c.token = 0 ∧ c.time = 0 ∧ c.text = [] ∧ noDag c.dag
instance (c : Cmd) : Decidable (no0P c) := by unfold no0P; infer_instance
theorem no0 (c : Cmd) : PCall Try.prog 28 [cmdV c, .bool true, .bool true, .bool true, .bool true, .bool true, .bool true] (.bool (decide (no0P c))) := by
  refine en28 (by simp) (by simp [closedL, V.closed, cmdV_closed]) ?_
  have no : ¬ no0P c → decide (no0P c) = false := decide_eq_false
  by_cases e0 : c.key = []
  case neg =>
    simp (maxSteps := 1000000) (disch := omega) only [rg, gD, Nat.reduceBEq, Nat.reduceEqDiff, Nat.reduceAdd, Int.reduceEq, Int.reduceLT, Int.reduceLE, Int.reduceToNat, reduceIte, reduceCtorEq, Nat.reduceLeDiff, Nat.reduceLT, Nat.reduceMul, Nat.reduceSub, c28, cmdV, tasksV, e0]
    (refine fin_x rfl ?_ ?_ <;> simp [pack, lo, loL, V.closed, closedL, mv_closed, no (by simp [no0P, e0])])
  by_cases e1 : c.name = []
  case neg =>
    simp (maxSteps := 1000000) (disch := omega) only [rg, gD, Nat.reduceBEq, Nat.reduceEqDiff, Nat.reduceAdd, Int.reduceEq, Int.reduceLT, Int.reduceLE, Int.reduceToNat, reduceIte, reduceCtorEq, Nat.reduceLeDiff, Nat.reduceLT, Nat.reduceMul, Nat.reduceSub, c28, cmdV, tasksV, e0, e1]
    (refine fin_x rfl ?_ ?_ <;> simp [pack, lo, loL, V.closed, closedL, mv_closed, no (by simp [no0P, e1])])
  by_cases e2 : c.token = 0
  case neg =>
    simp (maxSteps := 1000000) (disch := omega) only [rg, gD, Nat.reduceBEq, Nat.reduceEqDiff, Nat.reduceAdd, Int.reduceEq, Int.reduceLT, Int.reduceLE, Int.reduceToNat, reduceIte, reduceCtorEq, Nat.reduceLeDiff, Nat.reduceLT, Nat.reduceMul, Nat.reduceSub, c28, cmdV, tasksV, e0, e1, e2]
    (refine fin_x rfl ?_ ?_ <;> simp [pack, lo, loL, V.closed, closedL, mv_closed, no (by simp [no0P, e2])])
  by_cases e3 : c.time = 0
  case neg =>
    simp (maxSteps := 1000000) (disch := omega) only [rg, gD, Nat.reduceBEq, Nat.reduceEqDiff, Nat.reduceAdd, Int.reduceEq, Int.reduceLT, Int.reduceLE, Int.reduceToNat, reduceIte, reduceCtorEq, Nat.reduceLeDiff, Nat.reduceLT, Nat.reduceMul, Nat.reduceSub, c28, cmdV, tasksV, e0, e1, e2, e3]
    (refine fin_x rfl ?_ ?_ <;> simp [pack, lo, loL, V.closed, closedL, mv_closed, no (by simp [no0P, e3])])
  by_cases e4 : c.text = []
  case neg =>
    simp (maxSteps := 1000000) (disch := omega) only [rg, gD, Nat.reduceBEq, Nat.reduceEqDiff, Nat.reduceAdd, Int.reduceEq, Int.reduceLT, Int.reduceLE, Int.reduceToNat, reduceIte, reduceCtorEq, Nat.reduceLeDiff, Nat.reduceLT, Nat.reduceMul, Nat.reduceSub, c28, cmdV, tasksV, e0, e1, e2, e3, e4]
    (refine fin_x rfl ?_ ?_ <;> simp [pack, lo, loL, V.closed, closedL, mv_closed, no (by simp [no0P, e4])])
  by_cases e5 : c.dag.name = []
  case neg =>
    simp (maxSteps := 1000000) (disch := omega) only [rg, gD, Nat.reduceBEq, Nat.reduceEqDiff, Nat.reduceAdd, Int.reduceEq, Int.reduceLT, Int.reduceLE, Int.reduceToNat, reduceIte, reduceCtorEq, Nat.reduceLeDiff, Nat.reduceLT, Nat.reduceMul, Nat.reduceSub, c28, cmdV, tasksV, e0, e1, e2, e3, e4, e5]
    (refine fin_x rfl ?_ ?_ <;> simp [pack, lo, loL, V.closed, closedL, mv_closed, no (by simp [no0P, noDag, e5])])
  by_cases e6 : c.dag.tasks.length = 0
  case neg =>
    simp (maxSteps := 1000000) (disch := omega) only [rg, gD, Nat.reduceBEq, Nat.reduceEqDiff, Nat.reduceAdd, Int.reduceEq, Int.reduceLT, Int.reduceLE, Int.reduceToNat, reduceIte, reduceCtorEq, Nat.reduceLeDiff, Nat.reduceLT, Nat.reduceMul, Nat.reduceSub, c28, cmdV, tasksV, e0, e1, e2, e3, e4, e5, show (0 : Int) < c.dag.tasks.length by omega]
    (refine fin_x rfl ?_ ?_ <;> simp [pack, lo, loL, V.closed, closedL, mv_closed, no (by simp [no0P, noDag, e6])])
  simp (maxSteps := 1000000) (disch := omega) only [rg, gD, Nat.reduceBEq, Nat.reduceEqDiff, Nat.reduceAdd, Int.reduceEq, Int.reduceLT, Int.reduceLE, Int.reduceToNat, reduceIte, reduceCtorEq, Nat.reduceLeDiff, Nat.reduceLT, Nat.reduceMul, Nat.reduceSub, c28, cmdV, tasksV, e0, e1, e2, e3, e4, e5, show ¬ (0 : Int) < c.dag.tasks.length by omega]
  (refine fin_x rfl ?_ ?_ <;> simp [pack, lo, loL, V.closed, closedL, mv_closed, decide_eq_true (show no0P c from ⟨e0, e1, e2, e3, e4, e5, e6⟩)])

theorem bare_no (c : Cmd) : (c.kind = 1 → (bareP c ↔ no1P c)) ∧ (c.kind = 2 → (bareP c ↔ no2P c)) ∧ (c.kind = 4 ∨ c.kind = 6 → (bareP c ↔ no46P c)) ∧ (c.kind = 5 → (bareP c ↔ no5P c)) ∧ (c.kind = 7 ∨ c.kind = 9 → (bareP c ↔ no79P c)) ∧ (c.kind = 8 → (bareP c ↔ no8P c)) ∧
    (c.kind = 3 ∨ c.kind = 10 → (bareP c ↔ no0P c)) := by
  refine ⟨fun h => ?_, fun h => ?_, fun h => ?_, fun h => ?_, fun h => ?_, fun h => ?_, fun h => ?_⟩
  · simp [bareP, no1P, h]
  · simp [bareP, no2P, h]
  · rcases h with h | h <;> simp [bareP, no46P, h]
  · simp [bareP, no5P, h]
  · rcases h with h | h <;> simp [bareP, no79P, h]
  · simp [bareP, no8P, h]
  · rcases h with h | h <;> simp [bareP, no0P, h]
end Go.Proofs.Ytjlpmndipceboaa.Ev
end
