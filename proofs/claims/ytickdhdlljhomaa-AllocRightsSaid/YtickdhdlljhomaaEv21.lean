/-
  Functions that touch own objects of the caller, or tell new ones: contracts with a footprint.
-/
import Derived.Test.YtickdhdlljhomaaEv19
set_option linter.unusedSimpArgs false
set_option linter.unusedVariables false
namespace Go.Proofs.Ytickdhdlljhomaa.Ev
open Go

mutual
/-- All objects that it names are below n. -/
def V.low (n : Nat) : V → Bool
  | .ptr id _ _ | .sl id _ _ | .map id => decide (id < n)
  | .fptr e _ => e.low n
  | .fsl _ _ l => lowL n l
  | .fn _ fs cs => lowL n fs && lowL n cs
  | .ifc _ v => v.low n
  | .agg l => lowL n l
  | .tup l => lowL n l
  | _ => true
def lowL (n : Nat) : List V → Bool
  | [] => true
  | v :: vs => v.low n && lowL n vs
end

mutual
theorem V.low_closed {n : Nat} : ∀ (v : V), v.closed = true → v.low n = true
  | .bool _, _ | .int _ _, _ | .str _, _ | .nilp, _ | .nilf, _ | .nili, _ | .nilm, _ => by simp [V.low]
  | .fptr e _, c => by simp only [V.low]; exact V.low_closed e (by simpa only [V.closed] using c)
  | .fsl _ _ l, c => by simp only [V.low]; exact lowL_closed l (by simpa only [V.closed] using c)
  | .fn _ fs cs, c => by
    simp only [V.closed, Bool.and_eq_true] at c
    simp only [V.low, Bool.and_eq_true]; exact ⟨lowL_closed fs c.1, lowL_closed cs c.2⟩
  | .ifc _ v, c => by simp only [V.low]; exact V.low_closed v (by simpa only [V.closed] using c)
  | .agg l, c => by simp only [V.low]; exact lowL_closed l (by simpa only [V.closed] using c)
  | .tup l, c => by simp only [V.low]; exact lowL_closed l (by simpa only [V.closed] using c)
  | .ptr _ _ _, c => by simp [V.closed] at c
  | .sl _ _ _, c => by simp [V.closed] at c
  | .map _, c => by simp [V.closed] at c
theorem lowL_closed {n : Nat} : ∀ (l : List V), closedL l = true → lowL n l = true
  | [], _ => rfl
  | v :: vs, c => by
    simp only [closedL, Bool.and_eq_true] at c
    simp only [lowL, Bool.and_eq_true]; exact ⟨V.low_closed v c.1, lowL_closed vs c.2⟩
end

mutual
theorem R.low {g g' : G} {n : Nat} (hi : ∀ id, id < n → g'.ι id = g.ι id) (h : ∀ b cs, g.F b = some cs → g'.F b = some cs) : ∀ (v : V) (x : Value), v.low n = true → R g v x → R g' v x
  | .bool _, _, _, r | .int _ _, _, _, r | .str _, _, _, r | .nilp, _, _, r | .nilf, _, _, r | .nili, _, _, r | .nilm, _, _, r => by simpa only [R] using r
  | .ptr id _ _, _, c, r => by
    simp only [V.low, decide_eq_true_eq] at c
    simp only [R, hi id c] at r ⊢; exact r
  | .sl id _ _, _, c, r => by
    simp only [V.low, decide_eq_true_eq] at c
    simp only [R, hi id c] at r ⊢; exact r
  | .map id, _, c, r => by
    simp only [V.low, decide_eq_true_eq] at c
    simp only [R, hi id c] at r ⊢; exact r
  | .fptr e _, _, c, r => by
    simp only [R] at r ⊢; obtain ⟨b, o, y, e1, ⟨pre, post, e2, e2'⟩, e3⟩ := r
    exact ⟨b, o, y, R.low hi h e y (by simpa only [V.low] using c) e1, ⟨pre, post, h _ _ e2, e2'⟩, e3⟩
  | .fsl _ _ l, _, c, r => by
    simp only [R] at r ⊢
    obtain ⟨a, cap, xs, e1, e2, e3, e4, e5, e6, e7, e8⟩ := r
    exact ⟨a, cap, xs, e1, RL.low hi h l xs (by simpa only [V.low] using c) e2, e3, e4, e5, e6, e7, e8.imp id fun ⟨b, o, i, pre, post, j, j'⟩ => ⟨b, o, i, pre, post, h _ _ j, j'⟩⟩
  | .fn _ fs cs, _, c, r => by
    simp only [V.low, Bool.and_eq_true] at c
    simp only [R] at r ⊢; obtain ⟨xs, ys, e1, e2, e3⟩ := r; exact ⟨xs, ys, e1, RC.low hi h fs _ c.1 e2, RC.low hi h cs _ c.2 e3⟩
  | .ifc _ v, _, c, r => by simp only [R] at r ⊢; obtain ⟨y, e1, e2⟩ := r; exact ⟨y, e1, R.low hi h v y (by simpa only [V.low] using c) e2⟩
  | .agg l, _, c, r => by simp only [R] at r ⊢; obtain ⟨xs, e1, e2, e3⟩ := r; exact ⟨xs, e1, RC.low hi h l _ (by simpa only [V.low] using c) e2, e3⟩
  | .tup l, _, c, r => by simp only [R] at r ⊢; obtain ⟨xs, e1, e2⟩ := r; exact ⟨xs, e1, RC.low hi h l _ (by simpa only [V.low] using c) e2⟩
theorem RC.low {g g' : G} {n : Nat} (hi : ∀ id, id < n → g'.ι id = g.ι id) (h : ∀ b cs, g.F b = some cs → g'.F b = some cs) : ∀ (l : List V) (xs : List Value), lowL n l = true → RC g l xs → RC g' l xs
  | [], _, _, r => by simpa only [RC] using r
  | v :: vs, _, c, r => by
    simp only [lowL, Bool.and_eq_true] at c
    simp only [RC] at r ⊢; obtain ⟨y, ys, e, e1, e2⟩ := r; exact ⟨y, ys, e, R.low hi h v y c.1 e1, RC.low hi h vs ys c.2 e2⟩
theorem RL.low {g g' : G} {n : Nat} (hi : ∀ id, id < n → g'.ι id = g.ι id) (h : ∀ b cs, g.F b = some cs → g'.F b = some cs) : ∀ (l : List V) (xs : List Value), lowL n l = true → RL g l xs → RL g' l xs
  | [], _, _, r => by simpa only [RL] using r
  | v :: vs, _, c, r => by
    simp only [lowL, Bool.and_eq_true] at c
    simp only [RL] at r ⊢; obtain ⟨y, ys, e, ⟨e0, e1⟩, e2⟩ := r; exact ⟨y, ys, e, ⟨e0, R.low hi h v y c.1 e1⟩, RL.low hi h vs ys c.2 e2⟩
end

def Ob.low (n : Nat) : Ob → Bool
  | .arr _ l => lowL n l
  | .mp l => lowL n (l.map (·.1)) && lowL n (l.map (·.2))

theorem appd_cases (ds : List (Nat × Option Ob)) (id : Nat) : (id ∈ ds.map (·.1) ∧ ∃ o, ∀ m, appd ds m id = o) ∨ ∀ m, appd ds m id = m id := by
  induction ds with
  | nil => exact .inr fun _ => rfl
  | cons p ds ih =>
    obtain ⟨i, o⟩ := p
    rcases ih with ⟨h1, o', h2⟩ | h
    · exact .inl ⟨by simp at h1 ⊢; exact .inr h1, o', fun m => h2 _⟩
    · by_cases e : id = i
      · subst e
        exact .inl ⟨by simp, o, fun m => by simp [appd, h, upd]⟩
      · exact .inr fun m => by simp [appd, h, upd, e]

/-- The end of a function that tells r and leaves of its heap what ds tells. -/
def FinA (rvs : List RV) (m0 : Hm) (n : Nat) (r : V) (ds : List (Nat × Option Ob)) (k : Nat) : QA := fun e σ H =>
  (e = .norm ∨ e = .ret) ∧ (∃ l, resE σ H.m rvs = some l ∧ (pack l = r ∨ loosen (pack l) = r ∨ lo (pack l) = r)) ∧ H.n ≤ n + k ∧ ∀ id, appd ds m0 id = none ∨ appd ds m0 id = H.m id

theorem ι_live {g : G} {w : World} {id : Nat} {o : Ob} (h : ORep g w id o) : ∃ p, g.ι id = some p := by
  cases o <;> (simp only [ORep] at h; obtain ⟨_, _, _, h⟩ := h)
  · obtain ⟨_, _, _, h, _⟩ := h; exact ⟨_, h⟩
  · exact ⟨_, h.1⟩

/-- **A function's contract with a footprint, from the evaluator.** -/
theorem enterA {P : Program} (hm : P.follows .mixedOrders = true) {f : Nat} {fn : Func} {c0 : Code} {c : C} {rvs : List RV} (hf : P.funcs[f]? = some fn) (hb : fn.body = some c0) (hn : (fn.name == "runtime.NumGoroutine") = false)
    (hc : chkC P fn.ntmps c0 c = true) (hr : chkRes P fn.results.toList rvs = true) {vs : List V} {H : Hp} {fp : List Nat} {r : V} {ds : List (Nat × Option Ob)} {k : Nat} (hlen : vs.length ≤ fn.ntmps) (hcl : lowL H.n vs = true)
    (hfp : ∀ id ∈ fp, id < H.n ∧ ∀ o, H.m id = some o → o.low H.n = true) (hds : ∀ p ∈ ds, p.1 ∈ fp ∨ (H.n ≤ p.1 ∧ p.1 < H.n + k))
    (h : ev P c (argsE 0 vs) ⟨H.n, only fp H.m⟩ (FinA rvs (only fp H.m) H.n r ds k)) : ACall P f vs H fp r ds k := by
  refine ⟨⟨fn, hf, by rw [hb]; rfl, hn⟩, hds, fun m g w xs hag hfr hs hx => ?_⟩
  refine calls_of_wp hf hb ?_
  have m0s : ∀ id o, only fp H.m id = some o → id ∈ fp ∧ m id = some o ∧ H.m id = some o := by
    intro id o k
    simp only [only] at k
    split at k
    · rename_i hid; exact ⟨hid, by rw [hag id hid]; exact k, k⟩
    · cases k
  obtain ⟨g0, hg0, hg0n, hg0F⟩ : ∃ g0 : G, (∀ id, id < H.n → g0.ι id = g.ι id) ∧ (∀ id, H.n ≤ id → g0.ι id = none) ∧ g0.F = g.F :=
    ⟨⟨fun id => if id < H.n then g.ι id else none, g.F⟩, fun id h => by simp [h], fun id h => by simp [show ¬ id < H.n by omega], rfl⟩
  have hsub0 : ∀ id p, g0.ι id = some p → g.ι id = some p := by
    intro id p hp
    rcases Nat.lt_or_ge id H.n with h | h
    · rw [← hg0 id h]; exact hp
    · rw [hg0n id h] at hp; cases hp
  have hs0 : RS g0 (only fp H.m) w := by
    refine ⟨by rw [hg0F]; exact hs.fro, ?_, ?_⟩
    · intro id o k
      obtain ⟨k1, k2, k3⟩ := m0s id o k
      obtain ⟨j1, j2⟩ := hfp id k1
      have := hs.live id o k2
      have hl := j2 o k3
      cases o with
      | arr sz l =>
        obtain ⟨b, n, cs, e, ys, post, h1, h2, h3, h4, h6, h7, h8⟩ := this
        exact ⟨b, n, cs, e, ys, post, by rw [hg0 id j1]; exact h1, h2, h3, by rw [hg0F]; exact h4, RL.low hg0 (by rw [hg0F]; exact fun _ _ h => h) _ _ (by simpa only [Ob.low] using hl) h6, h7, h8⟩
      | mp l =>
        simp only [Ob.low, Bool.and_eq_true] at hl
        obtain ⟨b, es, clock, h1, h2, h3, h4, h5, h6⟩ := this
        exact ⟨b, es, clock, by rw [hg0 id j1]; exact h1, h2, by rw [hg0F]; exact h3, RC.low hg0 (by rw [hg0F]; exact fun _ _ h => h) _ _ hl.1 h4, RC.low hg0 (by rw [hg0F]; exact fun _ _ h => h) _ _ hl.2 h5, h6⟩
    · intro id id' o o' b s n s' n' h1 h2 h3 h4
      exact hs.inj id id' o o' b s n s' n' (m0s _ _ h1).2.1 (m0s _ _ h2).2.1 (hsub0 _ _ h3) (hsub0 _ _ h4)
  have hx0 : RC g0 vs xs.toList := RC.low hg0 (by rw [hg0F]; exact fun _ _ h => h) _ _ hcl hx
  have hxl : xs.size = vs.length := by simpa using hx.length
  have ha0 : RA g0 (argsE 0 vs) { tmps := xs ++ Array.replicate (fn.ntmps - xs.size) undef, defers := [] } fn.ntmps := by
    refine ⟨fun t v ht => ?_, by simp; omega, rfl⟩
    obtain ⟨_, h2⟩ := find_args ht
    obtain ⟨x, h3, h4⟩ := hx0.get h2
    have hlt : t < xs.size := by have := (List.getElem?_eq_some_iff.1 h2).1; omega
    have : (xs ++ Array.replicate (fn.ntmps - xs.size) undef).getD t undef = x := by
      simp only [Nat.sub_zero] at h3
      have h3' : xs[t]? = some x := by simpa using h3
      simp [Array.getElem?_append_left hlt, h3']
    rw [this]; exact h4
  refine wp_mono (ev_sound hm hc h hs0 (fun id hid => hg0n id hid) ha0) ?_
  rintro e a' w' ⟨ae, σ', H', g', k1, ⟨hae, ⟨l, k2, k4⟩, hk, hsubF⟩, k5, k6, k7, k8⟩
  obtain ⟨x, q1, q2⟩ := res_sound (P := P) (fn := fn) k5 k7 hr k2
  obtain ⟨f1, f2, f3⟩ := k6
  have hlow' : ∀ id p, g'.ι id = some p → id < H'.n := fun id p hp => by
    rcases Nat.lt_or_ge id H'.n with h | h
    · exact h
    · rw [f1 id h] at hp; cases hp
  obtain ⟨g2, hg2a, hg2b, hg2F⟩ : ∃ g2 : G, (∀ id, id < H.n + k → g2.ι id = g'.ι id) ∧ (∀ id, H.n + k ≤ id → g2.ι id = g.ι id) ∧ g2.F = g'.F :=
    ⟨⟨fun id => if id < H.n + k then g'.ι id else g.ι id, g'.F⟩, fun id h => by simp [h], fun id h => by simp [show ¬ id < H.n + k by omega], rfl⟩
  have hle' : g'.le g2 := ⟨fun id p hp => by rw [hg2a id (by have := hlow' id p hp; omega)]; exact hp, by rw [hg2F]; exact fun _ _ h => h⟩
  have hIE : IExt g g2 H.n k := by
    intro id hid
    rcases Nat.lt_or_ge id H.n with h | h
    · rw [hg2a id (by omega), f2 id h, hg0 id h]
    · exact hg2b id (by omega)
  have hle : g.le g2 := by
    refine ⟨fun id p hp => ?_, fun b cs hb' => by rw [hg2F]; exact k8.le.F b cs (by rw [hg0F]; exact hb')⟩
    by_cases hid : H.n ≤ id ∧ id < H.n + k
    · rw [(hfr id hid.1 hid.2).1] at hp; cases hp
    · rw [hIE id hid]; exact hp
  have hr2 : R g2 r x := by
    rcases k4 with rfl | rfl | rfl
    · exact R.mono hle' _ _ q2
    · exact loosen_R (R.mono hle' _ _ q2)
    · exact (lo_R _ _ (R.mono hle' _ _ q2)).1
  have hm1 : ∀ id o, appd ds (only fp H.m) id = some o → H'.m id = some o := by
    intro id o ho
    rcases hsubF id with e | e
    · rw [e] at ho; cases ho
    · rw [← e]; exact ho
  have hs1 : RS g2 (appd ds (only fp H.m)) w' := by
    refine ⟨by rw [hg2F]; exact k5.fro, ?_, ?_⟩
    · intro id o ho
      have hl := k5.live id o (hm1 id o ho)
      exact hl.keep hle' fun b s n hb' => ⟨rfl, by rw [hg2F]; exact hl.unF hb'⟩
    · intro id id' o o' b s n s' n' h1 h2 h3 h4
      obtain ⟨p, hp⟩ := ι_live (k5.live id o (hm1 id o h1))
      obtain ⟨p', hp'⟩ := ι_live (k5.live id' o' (hm1 id' o' h2))
      rw [hg2a id (by have := hlow' id p hp; omega)] at h3
      rw [hg2a id' (by have := hlow' id' p' hp'; omega)] at h4
      exact k5.inj id id' o o' b s n s' n' (hm1 _ _ h1) (hm1 _ _ h2) h3 h4
  have own0 : ∀ b, Own g0 (only fp H.m) b → Own g (only fp H.m) b := fun b ⟨id, o, s, n, h1, h2⟩ => ⟨id, o, s, n, h1, hsub0 _ _ h2⟩
  have own1 : ∀ b, Own g2 (appd ds (only fp H.m)) b → Own g' H'.m b := by
    rintro b ⟨id, o, s, n, h1, h2⟩
    obtain ⟨p, hp⟩ := ι_live (k5.live id o (hm1 id o h1))
    rw [hg2a id (by have := hlow' id p hp; omega)] at h2
    exact ⟨id, o, s, n, hm1 _ _ h1, h2⟩
  have hx1 : Ext g (only fp H.m) w g2 (appd ds (only fp H.m)) w' :=
    ⟨k8.size, fun b hb' ho => k8.old b hb' (fun h => ho (own0 b h)), hle, fun b hb' => (k8.own b (own1 b hb')).imp (fun h => h) (own0 b),
      fun b cs hb' => by
        rw [hg2F] at hb'
        rcases k8.froz b cs hb' with h | h | h
        · rw [hg0F] at h; exact .inl h
        · exact .inr (.inl h)
        · exact .inr (.inr (own0 b h)), k8.os, k8.tape, k8.output⟩
  have hdom : ∀ id, id ∈ ds.map (·.1) → (only fp H.m id = none → m id = none) := by
    intro id hid h0
    obtain ⟨p, hp, rfl⟩ := List.mem_map.1 hid
    rcases hds p hp with h | h
    · rw [hag _ h]; simpa [only, h] using h0
    · exact (hfr _ h.1 h.2).2
  have fr := frame hs (fun id o ho => (m0s id o ho).2.1) hs1 hx1 (fun id o ho => by
    rcases appd_cases ds id with ⟨h1, _⟩ | h1
    · by_cases h0 : only fp H.m id = none
      · exact .inl (hdom id h1 h0)
      · exact .inr h0
    · rw [h1] at ho; exact .inr (by rw [ho]; simp))
  have em : (fun id => match appd ds (only fp H.m) id with | some o => some o | none => if only fp H.m id = none then m id else none) = appd ds m := by
    funext id
    rcases appd_cases ds id with ⟨h1, o, h2⟩ | h1
    · rw [h2, h2]
      cases o with
      | some o => rfl
      | none =>
        simp only
        by_cases h0 : only fp H.m id = none
        · rw [if_pos h0]; exact hdom id h1 h0
        · rw [if_neg h0]
    · rw [h1, h1]
      cases h0 : only fp H.m id with
      | some o => simp only; exact (m0s id o h0).2.1.symm
      | none => simp
  have fr' : RS g2 (appd ds m) w' ∧ Ext g m w g2 (appd ds m) w' := by rw [← em]; exact fr
  rcases hae with rfl | rfl
  · cases e <;> simp only [AEx.is] at k1
    exact ⟨k7.defs, x, q1, x, g2, rfl, hr2, fr'.1, hIE, fr'.2⟩
  · cases e <;> simp only [AEx.is] at k1
    exact ⟨k7.defs, x, q1, x, g2, rfl, hr2, fr'.1, hIE, fr'.2⟩

end Go.Proofs.Ytickdhdlljhomaa.Ev
