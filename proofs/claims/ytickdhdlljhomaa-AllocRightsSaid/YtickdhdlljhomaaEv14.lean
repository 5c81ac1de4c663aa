/-
  Code: what the evaluator says of compact code, the machine does with the program's code.
-/
import Derived.Test.YtickdhdlljhomaaEvS
import Derived.Deep.LoopGhost
set_option linter.unusedSimpArgs false
set_option linter.unusedVariables false
namespace Go.Proofs.Ytickdhdlljhomaa.Ev
open Go

def chkOuts (dl : List (Option Nat)) : List (Nat × Src) → Bool
  | [] => true
  | (t, s) :: r => (match s with | .r d => fnd t dl == some d | .v t' => t == t' && (fnd t dl).isNone | .k _ => false) && chkOuts dl r

def chkC (P : Program) (N : Nat) : Code → C → Bool
  | .region _ ops draw, .reg d is outs => draw == d && chkRs P N 0 [] ops.toList is && (!draw || chkD 0 [] [] ops.toList is) && chkOuts (dlT ops.toList []) outs
  | .seq a b, .seq a' b' => chkC P N a a' && chkC P N b b'
  | .seq a b, .cut a' b' => chkC P N a a' && chkC P N b b'
  | .cond c x y, .cond s a b => cs [] c s && chkC P N x a && chkC P N y b
  | .block id a, .block id' a' => id == id' && chkC P N a a'
  | .loop a, .loop a' => chkC P N a a'
  | .exit id, .exit id' => id == id'
  | .ret, .ret => true
  | .skip, .skip => true
  | c, .frz b => chkC P N c b
  | _, _ => false

/-- What holds of a frame and its variables. -/
structure RA (g : G) (σ : Sg) (a : Act) (N : Nat) : Prop where
  vR : ∀ t v, find t σ = some v → R g v (a.tmps.getD t undef)
  sizeA : a.tmps.size = N
  defs : a.defers = []

theorem RA.rg {g : G} {σ : Sg} {a : Act} {N : Nat} (h : RA g σ a N) : RG g σ [] [] a N :=
  ⟨by simp [fnd], fun t v _ hf => h.vR t v hf, rfl, h.sizeA, h.defs⟩

theorem outs_sound {g : G} {σ : Sg} {dl : List (Option Nat)} {env : List V} {a : Act} {N : Nat} (h : RG g σ dl env a N) : ∀ {outs : List (Nat × Src)} {K : Sg → Prop}, chkOuts dl outs = true → outsE (look σ env) outs K →
    ∃ σ', K σ' ∧ RA g σ' a N
  | [], K, _, hk => ⟨[], hk, by simp [find], h.sizeA, h.defs⟩
  | (t, s) :: r, K, hc, hk => by
    simp only [chkOuts, Bool.and_eq_true] at hc
    simp only [outsE] at hk
    obtain ⟨v, e, hk⟩ := wv_some hk
    obtain ⟨σ', k1, k2⟩ := outs_sound h hc.2 hk
    refine ⟨(t, v) :: σ', k1, fun u z hz => ?_, h.sizeA, h.defs⟩
    simp only [find] at hz
    split at hz
    · rename_i hu; subst hu
      simp at hz; subst hz
      cases s <;> simp only at hc
      · exact h.eR _ _ _ (by simpa using hc.1) e
      · simp at hc; obtain ⟨⟨rfl, h1⟩, _⟩ := hc; exact h.vR _ _ h1 e
      · cases hc.1
    · exact k2.vR u z hz

def AEx.is : AEx → Exit → Prop
  | .norm, .normal => True
  | .exit id, .exit id' => id = id'
  | .ret, .ret => True
  | _, _ => False

def Post (g : G) (H : Hp) (w : World) (N : Nat) (Q : QA) (e : Exit) (a' : Act) (w' : World) : Prop :=
  ∃ ae σ' H' g', ae.is e ∧ Q ae σ' H' ∧ RS g' H'.m w' ∧ Fr g H g' H' ∧ RA g' σ' a' N ∧ Ext g H.m w g' H'.m w'

theorem dlOf_eq : ∀ (os : List Oper) (dl : List (Option Nat)), dlOf dl os = dlT os dl
  | [], _ => rfl
  | o :: os, dl => by simp only [dlOf, dlOf_eq os, dlT, List.map_cons, List.reverse_cons, List.append_assoc, List.singleton_append]

theorem chkRs_spec {P : Program} {N : Nat} {os0 : List Oper} {is0 : List RI} : ∀ {os : List Oper} {is : List RI} {n : Nat} {dl : List (Option Nat)}, chkRs P N n dl os is = true → os0.drop n = os → is0.drop n = is → dl = dlT (os0.take n) [] →
    os.length = is.length ∧ (∀ (i : Nat) o r, n ≤ i → os0[i]? = some o → is0[i]? = some r → chkG i (dlT (os0.take i) []) o.guard r.g = true ∧ dstOk N o.dst = true)
  | [], [], n, dl, _, h1, _, _ => ⟨rfl, fun i o r hi ho _ => by
      have : os0.length ≤ n := by have := congrArg List.length h1; simp at this; omega
      have := (List.getElem?_eq_some_iff.1 ho).1; omega⟩
  | o :: os, r :: is, n, dl, h, h1, h2, h3 => by
    simp only [chkRs, Bool.and_eq_true] at h
    obtain ⟨⟨⟨c1, c2⟩, c3⟩, c4⟩ := h
    have hon : os0[n]? = some o := by
      have := congrArg (·[0]?) h1; simp only [List.getElem?_drop] at this; simpa using this
    have hrn : is0[n]? = some r := by
      have := congrArg (·[0]?) h2; simp only [List.getElem?_drop] at this; simpa using this
    obtain ⟨l1, l2⟩ := chkRs_spec (os0 := os0) (is0 := is0) c4 (by simpa [List.drop_drop, Nat.add_comm] using congrArg (List.drop 1) h1) (by simpa [List.drop_drop, Nat.add_comm] using congrArg (List.drop 1) h2)
      (by rw [h3]; simp only [dlT, List.append_nil]; rw [List.take_add_one, hon]; simp)
    refine ⟨by simp [l1], fun i o' r' hi ho hr => ?_⟩
    by_cases hin : i = n
    · subst hin
      rw [hon] at ho; simp at ho; subst ho
      rw [hrn] at hr; simp at hr; subst hr
      rw [← h3]; exact ⟨c1, c3⟩
    · exact l2 i o' r' (by omega) ho hr
  | [], _ :: _, _, _, h, _, _, _ => by simp [chkRs] at h
  | _ :: _, [], _, _, h, _, _, _ => by simp [chkRs] at h

theorem region_sound {P : Program} (hm : P.follows .mixedOrders = true) {N id : Nat} {ops : Array Oper} {draw : Bool} {is : List RI} {outs : List (Nat × Src)} {σ : Sg} {H : Hp} {Q : QA} {g : G} {a : Act} {w : World}
    (hc : chkC P N (.region id ops draw) (.reg draw is outs) = true) (h : ev P (.reg draw is outs) σ H Q) (hs : RS g H.m w) (hf : ∀ id, H.n ≤ id → g.ι id = none) (hr : RA g σ a N) :
    (Code.region id ops draw).wp P (Post g H w N Q) a w := by
  simp only [chkC, Bool.and_eq_true] at hc
  obtain ⟨⟨⟨_, c1⟩, c2⟩, c3⟩ := hc
  simp only [ev] at h
  cases draw with
  | false =>
    refine wp_region ?_
    have := seq_sound (P := P) (ops := ops) (N := N) (σ := σ) (Q := Post g H w N Q) is ops.toList 0 [] [] [] H _ a w g (by simp) rfl (by intro j d h; omega) (by simp) c1 h hs hf hr.rg
      (fun env' H' g' a' w' k1 k2 k3 k4 k5 => by
        rw [dlOf_eq] at k2
        obtain ⟨σ', q1, q2⟩ := outs_sound k2 c3 k1
        exact ⟨.norm, σ', H', g', trivial, q1, k3, k4, q2, k5⟩)
    rwa [Array.length_toList, ← List.range_eq_range'] at this
  | true =>
    refine wp_region_any hm ?_
    obtain ⟨ts, l1, l2, l3⟩ := trace (ops := ops) c1 h
    obtain ⟨s1, s2⟩ := chkRs_spec (os0 := ops.toList) (is0 := is) c1 (by simp) (by simp) (by simp [dlT])
    have c2' : chkD 0 [] [] ops.toList is = true := by simpa using c2
    have hw : RS g H.m { w with drawn := w.drawn + 1 } ∧ Ext g H.m w g H.m { w with drawn := w.drawn + 1 } := hs.heap ⟨rfl, rfl, rfl⟩ rfl
    refine any_sound (g0 := g) (w0 := w) (H := H) (σ := σ) (N := N) (ts := ts) (is := is) l1 s1.symm l3 (fun i o r ho hr' => chkD_spec (os0 := ops.toList) (is0 := is) c2' (by simp) (by simp) (by simp [dlT]) (by simp) (Nat.zero_le _) i o r (Nat.zero_le _) ho hr')
      (fun i o r ho hr' => (s2 i o r (Nat.zero_le _) ho hr').1) (fun o ho => ?_) ?_ ops.size (Array.replicate ops.size false) g a _ (by simp) ?_ ?_
    · obtain ⟨i, hi⟩ := List.mem_iff_getElem?.1 ho
      have hil := (List.getElem?_eq_some_iff.1 hi).1
      exact (s2 i o is[i] (Nat.zero_le _) hi (List.getElem?_eq_getElem (by omega))).2
    · intro g' a' w' hd
      have hmD : mD (fun i => decide (i < ops.size)) 0 ts H.m = appT ts H.m := mD_all fun q hq => by rw [l1] at hq; simpa using hq
      have rg : RG g' σ (dlT ops.toList []) (envT ts []) a' N := by
        refine ⟨?_, ?_, by simp [envT, dlT, l1], hd.sizeA, hd.defs⟩
        · intro t d v hfd hn
          obtain ⟨o, h1, h2, h3⟩ := fnd_some hfd
          obtain ⟨u, hu⟩ : ∃ u, ts[ops.toList.length - 1 - d]? = some u := ⟨_, List.getElem?_eq_getElem (by omega)⟩
          have := nth_rev hu
          rw [l1, show ops.toList.length - 1 - (ops.toList.length - 1 - d) = d by omega, hn] at this
          simp at this; subst this
          have h1' : ops[ops.toList.length - 1 - d]? = some o := by simpa using h1
          have hlt := (Array.getElem?_eq_some_iff.1 h1').1
          exact hd.vals _ o u t (by simpa using hlt) h1' hu h2
        · intro t v hfd hn
          exact hd.vars t v hn fun j o _ hj => fnd_none hfd j o (by simpa using hj)
      obtain ⟨σ', q1, q2⟩ := outs_sound rg c3 (by simpa using l2)
      refine ⟨.norm, σ', ⟨H.n + sumT ts, appT ts H.m⟩, g', trivial, q1, by rw [← hmD]; exact hd.rs, ⟨?_, hd.low, Nat.le_add_right _ _⟩, q2, by rw [← hmD]; exact hd.ext⟩
      intro id hid
      simp only at hid
      cases hp : g'.ι id with
      | none => rfl
      | some p =>
        rcases hd.fresh id p hp with h3 | ⟨j, u, _, hju, h4, h5⟩
        · omega
        · have hjl := (List.getElem?_eq_some_iff.1 hju).1
          have := (l3 j ops.toList[j] is[j] u (List.getElem?_eq_getElem (by omega)) (List.getElem?_eq_getElem (by omega)) hju).n
          have e1 := sumT_take hju
          have e2 := sumT_mono (ts := ts) (show j + 1 ≤ ts.length by omega)
          rw [List.take_length] at e2
          omega
    · simp
      exact Nat.le_trans List.countP_le_length (by simp)
    · have hn : mD (fun i => (Array.replicate ops.size false).getD i false) 0 ts H.m = H.m := mD_none fun q hq => by
        rw [Nat.zero_add]; simp [Array.getElem?_replicate]; split <;> rfl
      refine ⟨by rw [hn]; exact hw.1, ?_, ?_, ?_, by rw [hn]; exact hw.2, hr.sizeA, hr.defs, ?_, fun _ _ => rfl⟩
      · intro id p hp
        rcases Nat.lt_or_ge id H.n with h | h
        · exact .inl h
        · rw [hf id h] at hp; cases hp
      · intro j o t d hL
        simp [Array.getElem?_replicate] at hL
        split at hL <;> cases hL
      · intro t v hfd _; exact hr.vR t v hfd
      · intro j o hL
        simp [Array.getElem?_replicate] at hL
        split at hL <;> cases hL

theorem ev_sound {P : Program} (hm : P.follows .mixedOrders = true) {N : Nat} : ∀ {c : C} {code : Code} {σ : Sg} {H : Hp} {Q : QA} {g : G} {a : Act} {w : World}, chkC P N code c = true → ev P c σ H Q → RS g H.m w → (∀ id, H.n ≤ id → g.ι id = none) → RA g σ a N →
    code.wp P (Post g H w N Q) a w := by
  intro c
  induction c with
  | frz c ih =>
    intro code σ H Q g a w hc h hs hf hr
    have hc' : chkC P N code c = true := by cases code <;> simpa only [chkC] using hc
    simp only [ev] at h
    rcases h with h | ⟨fz, h⟩
    · exact ih hc' h hs hf hr
    obtain ⟨F', p1, p2, p3, p4⟩ := freezeSome hs fz
    have hle : g.le ⟨g.ι, F'⟩ := ⟨fun _ _ k => k, p1⟩
    have hsub : ∀ id o, without fz H.m id = some o → H.m id = some o := fun id o k => by simp only [without] at k; split at k; cases k; exact k
    have hx : Ext g H.m w ⟨g.ι, F'⟩ (without fz H.m) w :=
      ⟨Nat.le_refl _, fun _ _ _ => rfl, hle, fun b ⟨id, o, s, n, k1, k2⟩ => .inr ⟨id, o, s, n, hsub _ _ k1, k2⟩, fun b cs k => (p2 b cs k).imp (fun h => h) .inr, rfl, rfl, rfl⟩
    refine wp_mono (ih hc' h p3 hf ⟨fun t v ht => ?_, hr.sizeA, hr.defs⟩) ?_
    · obtain ⟨u, k1, k2⟩ := frzS_find ht
      rcases k2 with rfl | k2
      · exact R.mono hle _ _ (hr.vR t _ k1)
      · exact (snap_sound (g := g) (g' := ⟨g.ι, F'⟩) (hs.only fz) p1 p4 4 _ _ v k2 (hr.vR t _ k1)).1
    · rintro e a' w' ⟨ae, σ', H', g', k1, k2, k3, k4, k5, k6⟩
      exact ⟨ae, σ', H', g', k1, k2, k3, k4, k5, hx.trans k6⟩
  | reg d is outs =>
    intro code σ H Q g a w hc h hs hf hr
    cases code <;> try (simp [chkC] at hc; done)
    rename_i id ops draw
    have hd : draw = d := by simp only [chkC, Bool.and_eq_true, beq_iff_eq] at hc; exact hc.1.1.1
    subst hd
    exact region_sound hm hc h hs hf hr
  | seq c1 c2 ihx ihy =>
    intro code σ H Q g a w hc h hs hf hr
    cases code with
    | seq x y =>
      simp only [chkC, Bool.and_eq_true] at hc
      simp only [ev] at h
      refine wp_seq (wp_mono (ihx hc.1 h hs hf hr) ?_)
      rintro e a' w' ⟨ae, σ', H', g', k1, k2, k3, k4, k5, k6⟩
      cases ae with
      | norm =>
        cases e <;> simp only [AEx.is] at k1
        refine wp_mono (ihy hc.2 k2 k3 k4.1 k5) ?_
        rintro e a'' w'' ⟨ae, σ'', H'', g'', q1, q2, q3, q4, q5, q6⟩
        exact ⟨ae, σ'', H'', g'', q1, q2, q3, k4.trans q4, q5, k6.trans q6⟩
      | exit id =>
        cases e <;> simp only [AEx.is] at k1
        exact ⟨.exit id, σ', H', g', k1, k2, k3, k4, k5, k6⟩
      | ret =>
        cases e <;> simp only [AEx.is] at k1
        exact ⟨.ret, σ', H', g', trivial, k2, k3, k4, k5, k6⟩
    | _ => simp [chkC] at hc
  | cut c1 c2 ihx ihy =>
    intro code σ H Q g a w hc h hs hf hr
    cases code with
    | seq x y =>
      simp only [chkC, Bool.and_eq_true] at hc
      simp only [ev] at h
      obtain ⟨M, h, hM⟩ := h
      refine wp_seq (wp_mono (ihx hc.1 h hs hf hr) ?_)
      rintro e a' w' ⟨ae, σ', H', g', k1, k2, k3, k4, k5, k6⟩
      cases ae with
      | norm =>
        cases e <;> simp only [AEx.is] at k1
        refine wp_mono (ihy hc.2 (hM σ' H' k2) k3 k4.1 k5) ?_
        rintro e a'' w'' ⟨ae, σ'', H'', g'', q1, q2, q3, q4, q5, q6⟩
        exact ⟨ae, σ'', H'', g'', q1, q2, q3, k4.trans q4, q5, k6.trans q6⟩
      | exit id =>
        cases e <;> simp only [AEx.is] at k1
        exact ⟨.exit id, σ', H', g', k1, k2, k3, k4, k5, k6⟩
      | ret =>
        cases e <;> simp only [AEx.is] at k1
        exact ⟨.ret, σ', H', g', trivial, k2, k3, k4, k5, k6⟩
    | _ => simp [chkC] at hc
  | cond s c1 c2 ihy ihz =>
    intro code σ H Q g a w hc h hs hf hr
    cases code <;> try (simp [chkC] at hc; done)
    rename_i x y z
    simp only [chkC, Bool.and_eq_true] at hc
    simp only [ev] at h
    cases hl : look σ [] s with
    | none => simp [hl] at h
    | some v =>
      rw [hl] at h
      cases v <;> try (exact h.elim)
      rename_i t
      have hx := hr.rg.rel [x] x (by simp) s _ hc.1.1 hl
      simp only [R] at hx
      cases t with
      | true => exact wp_cond hx (ihy hc.1.2 (h.1 rfl) hs hf hr)
      | false => exact wp_cond hx (ihz hc.2 (h.2 rfl) hs hf hr)
  | block id' c ih =>
    intro code σ H Q g a w hc h hs hf hr
    cases code <;> try (simp [chkC] at hc; done)
    rename_i id x
    simp only [chkC, Bool.and_eq_true, beq_iff_eq] at hc
    obtain ⟨rfl, hc⟩ := hc
    simp only [ev] at h
    refine wp_block (wp_mono (ih hc h hs hf hr) ?_)
    rintro e a' w' ⟨ae, σ', H', g', k1, k2, k3, k4, k5, k6⟩
    cases ae with
    | norm =>
      cases e <;> simp only [AEx.is] at k1
      exact ⟨.norm, σ', H', g', trivial, by simpa using k2, k3, k4, k5, k6⟩
    | exit i =>
      cases e <;> simp only [AEx.is] at k1
      subst k1
      simp only [Exit.inBlock]
      by_cases hi : i = id
      · subst hi
        rw [if_pos rfl]
        exact ⟨.norm, σ', H', g', trivial, by simpa using k2, k3, k4, k5, k6⟩
      · rw [if_neg hi]
        exact ⟨.exit i, σ', H', g', rfl, by simpa [hi] using k2, k3, k4, k5, k6⟩
    | ret =>
      cases e <;> simp only [AEx.is] at k1
      exact ⟨.ret, σ', H', g', trivial, by simpa using k2, k3, k4, k5, k6⟩
  | loop c ih =>
    intro code σ H Q g a w hc h hs hf hr
    cases code <;> try (simp [chkC] at hc; done)
    simp only [chkC] at hc
    simp only [ev] at h
    obtain ⟨I, μ, h0, hround⟩ := h
    refine wp_loop_ghost (fun n a' w' => ∃ σ' H' g', I σ' H' ∧ μ σ' H' = n ∧ RS g' H'.m w' ∧ Fr g H g' H' ∧ RA g' σ' a' N ∧ Ext g H.m w g' H'.m w') (μ σ H) ⟨σ, H, g, h0, rfl, hs, .refl hf, hr, Ext.refl _ _ _⟩ ?_
    rintro n a' w' ⟨σ', H', g', k1, rfl, k3, k4, k5, k6⟩
    refine wp_mono (ih hc (hround σ' H' k1) k3 k4.1 k5) ?_
    rintro e a'' w'' ⟨ae, σ'', H'', g'', q1, q2, q3, q4, q5, q6⟩
    cases ae with
    | norm =>
      cases e <;> simp only [AEx.is] at q1
      exact ⟨_, q2.2, σ'', H'', g'', q2.1, rfl, q3, k4.trans q4, q5, k6.trans q6⟩
    | exit id =>
      cases e <;> simp only [AEx.is] at q1
      exact ⟨.exit id, σ'', H'', g'', q1, q2, q3, k4.trans q4, q5, k6.trans q6⟩
    | ret =>
      cases e <;> simp only [AEx.is] at q1
      exact ⟨.ret, σ'', H'', g'', trivial, q2, q3, k4.trans q4, q5, k6.trans q6⟩
  | exit id =>
    intro code σ H Q g a w hc h hs hf hr
    cases code <;> try (simp [chkC] at hc; done)
    simp [chkC] at hc; subst hc
    exact wp_exit ⟨.exit _, σ, H, g, rfl, h, hs, .refl hf, hr, Ext.refl _ _ _⟩
  | ret =>
    intro code σ H Q g a w hc h hs hf hr
    cases code <;> try (simp [chkC] at hc; done)
    exact wp_ret ⟨.ret, σ, H, g, trivial, h, hs, .refl hf, hr, Ext.refl _ _ _⟩
  | skip =>
    intro code σ H Q g a w hc h hs hf hr
    cases code <;> try (simp [chkC] at hc; done)
    exact wp_skip ⟨.norm, σ, H, g, trivial, h, hs, .refl hf, hr, Ext.refl _ _ _⟩

end Go.Proofs.Ytickdhdlljhomaa.Ev
