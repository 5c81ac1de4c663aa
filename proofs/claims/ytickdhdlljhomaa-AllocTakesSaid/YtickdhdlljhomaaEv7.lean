/-
  Slices of slices, literals, make, append, copy, bytes and texts, calls.
-/
import Derived.Test.YtickdhdlljhomaaEv6
set_option linter.unusedSimpArgs false
set_option linter.unusedVariables false
namespace Go.Proofs.Ytickdhdlljhomaa.Ev
open Go

section
variable {P : Program} {dl : List (Option Nat)} {L : Src → Option V} {H : Hp} {K : KI} {dst : Option Tmp} {ty : TypeId} {pos : String} {after : Array Edge} {gu : Option (Nat × Bool)}

theorem wo_some {all : List Operand} {lo : Option Operand} {lo' : Option Src} {K : Option V → Prop} (h : wo L lo' K) (hc : csO dl lo lo' = true) (hm : ∀ x ∈ lo, x ∈ all) :
    ∃ ov, K ov ∧ ((ov = none ∧ lo = none) ∨ ∃ x v, lo = some x ∧ ov = some v ∧ ∀ g a, Rel dl L all g a → R g v (a.eval x)) := by
  cases lo' with
  | none => cases lo <;> simp [csO] at hc; exact ⟨none, h, .inl ⟨rfl, rfl⟩⟩
  | some s =>
    cases lo <;> simp [csO] at hc
    rename_i x
    obtain ⟨v, e, h⟩ := wv_some h
    exact ⟨some v, h, .inr ⟨x, v, rfl, rfl, fun g a hr => hr x (hm x (by simp)) s v hc e⟩⟩

/-- A bound as the machine asks it. -/
theorem bnd_run {all : List Operand} {d : Nat} {lo : Option Operand} {ov : Option V} {K : Nat → Prop} (h : bnd d ov K) (ho : (ov = none ∧ lo = none) ∨ ∃ x v, lo = some x ∧ ov = some v ∧ ∀ g a, Rel dl L all g a → R g v (a.eval x)) :
    ∃ n, K n ∧ ((lo = none ∧ n = d) ∨ ∃ x, lo = some x ∧ ∀ g a, Rel dl L all g a → ∃ k, a.eval x = .int k (n : Int)) := by
  rcases ho with ⟨rfl, rfl⟩ | ⟨x, v, rfl, rfl, hx⟩
  · exact ⟨d, h, .inl ⟨rfl, rfl⟩⟩
  · cases v <;> simp only [bnd] at h <;> try exact h.elim
    rename_i k n
    refine ⟨n.toNat, h.2, .inr ⟨x, rfl, fun g a hr => ⟨k, ?_⟩⟩⟩
    have := hx g a hr
    simp only [R] at this
    rw [this, Int.toNat_of_nonneg h.1]

theorem run_sliceBound {k : IntKind} {n y : Nat} {code : BoundsCode} (w : World) (h : n ≤ y) : (Instr.sliceBound (.int k (n : Int)) y code).run P w = .ok n w := by
  simp [Instr.sliceBound, asIntOf, show (n : Int) ≤ (y : Int) by omega]

theorem s_slc {t el : TypeId} {sz : Nat} {inf : TypeInfo} {x : Operand} {lo hi mx : Option Operand} {x' : Src} {lo' hi' mx' : Option Src} (ht : P.underlying t = some (.slice el)) (hinf : P.info? el = some inf) (hsz : inf.size = sz)
    (h1 : cs dl x x' = true) (h2 : csO dl lo lo' = true) (h3 : csO dl hi hi' = true) (h4 : csO dl mx mx' = true)
    (h : evI P L H K (.slc sz x' lo' hi' mx')) : OpGood P dl L H ⟨dst, .slice t x lo hi mx, ty, pos, after, gu⟩ (.slc sz x' lo' hi' mx') K := by
  simp only [evI] at h; obtain ⟨u, e1, hA⟩ := wv_some h; clear h
  obtain ⟨vlo, hB, olo⟩ := wo_some (all := (⟨dst, .slice t x lo hi mx, ty, pos, after, gu⟩ : Oper).op.operands.toList) hA h2 (fun y hy => by simp [Op.operands, Option.mem_def.1 hy]); clear hA
  obtain ⟨vhi, hA, ohi⟩ := wo_some (all := (⟨dst, .slice t x lo hi mx, ty, pos, after, gu⟩ : Oper).op.operands.toList) hB h3 (fun y hy => by simp [Op.operands, Option.mem_def.1 hy]); clear hB
  obtain ⟨vmx, hB, omx⟩ := wo_some (all := (⟨dst, .slice t x lo hi mx, ty, pos, after, gu⟩ : Oper).op.operands.toList) hA h4 (fun y hy => by simp [Op.operands, Option.mem_def.1 hy]); clear hA
  have start : ∀ (a : Act) (w : World) (A : Option Addr) (len cap l' h' m' : Nat), a.eval x = .slice A len cap → (Instr.sliceBounds true len cap (lo.map a.eval) (hi.map a.eval) (mx.map a.eval)).run P w = .ok (l', h', m') w →
      (execOp a.eval ⟨dst, .slice t x lo hi mx, ty, pos, after, gu⟩).run P w = .ok (.value (.slice (if m' = l' then A else A.map (·.add (l' * sz))) (h' - l') (m' - l'))) w := fun a w A len cap l' h' m' e r => by
    simp [execOp, e, Instr.sliceAt, Instr.slice, run_underlying ht, r, sizeOf, typeInfo, hinf, hsz]
  cases u <;> try exact False.elim hB
  · -- an object's
    rename_i id off len
    cases ho : H.m id with
    | none => simp [ho] at hB
    | some o =>
      cases o with
      | mp l => simp [ho] at hB
      | arr sz' l =>
        simp only [ho] at hB
        obtain ⟨rfl, hB⟩ := hB
        cases vmx with
        | none =>
          simp only [evSlc] at hB
          obtain ⟨a0, hC, q1⟩ := bnd_run hB olo
          obtain ⟨b0, hD, q2⟩ := bnd_run hC ohi
          obtain ⟨le1, le2, hK⟩ := hD
          have omx' : mx = none := by
            rcases omx with ⟨_, h⟩ | ⟨_, _, _, h, _⟩
            · exact h
            · cases h
          subst omx'
          refine good_read (by simp [Ins.kind]) hK fun m g a w hm hs hr => ?_
          have r1 := hr x (by simp [Op.operands]) _ _ h1 e1
          simp only [R] at r1
          obtain ⟨b, sz2, n, A, cap, p1, p2, p3, p4⟩ := r1
          obtain ⟨b', n', cs', el', xs, post, z1, z2, z3, z4, z5, z6, z7⟩ := live_cells hs ((hm id (by simp)).trans ho)
          rw [z1] at p1; simp at p1; obtain ⟨rfl, rfl, rfl⟩ := p1
          have hb : (Instr.sliceBounds true len cap (lo.map a.eval) (hi.map a.eval) none).run P w = .ok (a0, b0, cap) w := by
            rcases q1 with ⟨rfl, rfl⟩ | ⟨y, rfl, q1⟩ <;> rcases q2 with ⟨rfl, rfl⟩ | ⟨z, rfl, q2⟩
            · simp [Instr.sliceBounds]
            · obtain ⟨k, q2⟩ := q2 g a hr
              simp [Instr.sliceBounds, q2, run_sliceBound w (show b0 ≤ cap by omega)]
            · obtain ⟨k, q1⟩ := q1 g a hr
              simp [Instr.sliceBounds, q1, run_sliceBound w (show a0 ≤ b0 by omega)]
            · obtain ⟨k, q1⟩ := q1 g a hr
              obtain ⟨k', q2⟩ := q2 g a hr
              simp [Instr.sliceBounds, q1, q2, run_sliceBound w (show a0 ≤ b0 by omega), run_sliceBound w (show b0 ≤ cap by omega)]
          refine ⟨_, start a w _ _ _ a0 b0 cap p2 (by simpa using hb), ?_⟩
          simp only [R]
          by_cases hc : cap = a0
          · rw [if_pos hc]
            exact ⟨b', sz', n', A, cap - a0, z1, rfl, by omega, .inr (by omega)⟩
          · rw [if_neg hc]
            rcases p4 with ⟨rfl, p4⟩ | p4
            · refine ⟨b', sz', n', _, cap - a0, z1, rfl, by omega, .inl ⟨?_, ?_⟩⟩
              · show (⟨b', off * sz', none⟩ : Addr).add (a0 * sz') = _
                rw [add_plain, Nat.add_mul]
              · rw [show off + a0 + (cap - a0) = off + cap by omega]; exact p4
            · omega
        | some vm =>
          simp only [evSlc] at hB
          obtain ⟨⟨km, rfl⟩, hB⟩ := hB
          · skip
            obtain ⟨a0, hC, q1⟩ := bnd_run hB olo
            obtain ⟨b0, hD, q2⟩ := bnd_run hC ohi
            obtain ⟨rfl, rfl, hK⟩ := hD
            rcases omx with ⟨h, _⟩ | ⟨xm, v, rfl, hv, qm⟩
            · cases h
            · simp at hv
              subst hv
              refine good_read (by simp [Ins.kind]) hK fun m g a w hm hs hr => ?_
              have r1 := hr x (by simp [Op.operands]) _ _ h1 e1
              have rm := qm g a hr
              simp only [R] at r1 rm
              obtain ⟨b, sz2, n, A, cap, p1, p2, p3, p4⟩ := r1
              have hm0 : ∀ code, (Instr.sliceBound (.int km 0) cap code).run P w = .ok 0 w := fun code => run_sliceBound (n := 0) w (by omega)
              have hhi : hi ≠ none := by
                rintro rfl
                rcases q2 with ⟨_, h⟩ | ⟨_, h, _⟩
                · exact absurd h (by omega)
                · cases h
              have hb : (Instr.sliceBounds true len cap (lo.map a.eval) (hi.map a.eval) (some (a.eval xm))).run P w = .ok (0, 0, 0) w := by
                rcases q2 with ⟨rfl, _⟩ | ⟨z, rfl, q2⟩
                · exact absurd rfl hhi
                · obtain ⟨k', q2'⟩ := q2 g a hr
                  show (Instr.sliceBounds true len cap (lo.map a.eval) (some (a.eval z)) (some (a.eval xm))).run P w = .ok (0, 0, 0) w
                  rw [q2', rm]
                  have h00 : ∀ kk code, (Instr.sliceBound (.int kk 0) 0 code).run P w = .ok 0 w := fun kk code => run_sliceBound (n := 0) w (by omega)
                  rcases q1 with ⟨rfl, _⟩ | ⟨y, rfl, q1⟩
                  · simp [Instr.sliceBounds, hm0, h00]
                  · obtain ⟨k, q1'⟩ := q1 g a hr
                    simp [Instr.sliceBounds, hm0, q1', h00]
              refine ⟨_, start a w _ _ _ 0 0 0 p2 (by simpa using hb), ?_⟩
              simp only [R, RL]
              exact ⟨some A, 0, [], by simp, rfl, by simp, by simp, by simp, by simp, by simp, by simp⟩
  · -- what stands for good
    rename_i st sz' l
    simp only [evSlc] at hB
    obtain ⟨rfl, hB⟩ := hB
    obtain ⟨a0, hC, q1⟩ := bnd_run hB olo
    obtain ⟨b0, hD, q2⟩ := bnd_run hC ohi
    clear hB hC
    -- the bound behind, whichever it is
    have ex : ∃ mo : Option Nat, a0 ≤ b0 ∧ b0 ≤ l.length ∧ (∀ c, mo = some c → b0 ≤ c ∧ c ≤ l.length) ∧ K (.fsl (slSt st l.length b0 mo) sz' ((l.take b0).drop a0)) [] [] 0 ∧
        ((mo = none ∧ mx = none) ∨ ∃ c y, mo = some c ∧ mx = some y ∧ hi ≠ none ∧ ∀ g a, Rel dl L (⟨dst, .slice t x lo hi mx, ty, pos, after, gu⟩ : Oper).op.operands.toList g a → ∃ k, a.eval y = .int k (c : Int)) := by
      cases vmx with
      | none =>
        rcases omx with ⟨_, h⟩ | ⟨_, _, _, h, _⟩
        · exact ⟨none, hD.1, hD.2.1, by simp, hD.2.2, .inl ⟨rfl, h⟩⟩
        · cases h
      | some vm =>
        cases vm <;> simp only at hD <;> try exact hD.elim
        rename_i km nm
        obtain ⟨z0, z1, z2, z3, z4, hK⟩ := hD
        rcases omx with ⟨h, _⟩ | ⟨xm, v, hx, hv, qm⟩
        · cases h
        · simp at hv; subst hv
          refine ⟨some nm.toNat, z2, by omega, by simp; omega, hK, .inr ⟨nm.toNat, xm, rfl, hx, ?_, fun g a hr => ⟨km, ?_⟩⟩⟩
          · rcases ohi with ⟨h, _⟩ | ⟨_, _, h, _⟩
            · exact absurd h z1
            · rw [h]; simp
          · have := qm g a hr
            simp only [R] at this
            rw [this, Int.toNat_of_nonneg z0]
    obtain ⟨mo, le1, le2, lem, hK, om⟩ := ex
    refine good_pure hK fun g a w hr => ?_
    have r1 := hr x (by simp [Op.operands]) _ _ h1 e1
    simp only [R] at r1
    obtain ⟨A, cap, xs, p1, p2, p3, p4, p5, p6, p7, p8⟩ := r1
    have hb : (Instr.sliceBounds true l.length cap (lo.map a.eval) (hi.map a.eval) (mx.map a.eval)).run P w = .ok (a0, b0, mo.getD cap) w := by
      rcases om with ⟨rfl, rfl⟩ | ⟨c, ym, rfl, rfl, hne, om⟩
      · rcases q1 with ⟨rfl, rfl⟩ | ⟨y, rfl, q1⟩ <;> rcases q2 with ⟨rfl, rfl⟩ | ⟨z, rfl, q2⟩
        · simp [Instr.sliceBounds]
        · obtain ⟨k, q2⟩ := q2 g a hr
          simp [Instr.sliceBounds, q2, run_sliceBound w (show b0 ≤ cap by omega)]
        · obtain ⟨k, q1⟩ := q1 g a hr
          simp [Instr.sliceBounds, q1, run_sliceBound w le1]
        · obtain ⟨k, q1⟩ := q1 g a hr
          obtain ⟨k', q2⟩ := q2 g a hr
          simp [Instr.sliceBounds, q1, q2, run_sliceBound w le1, run_sliceBound w (show b0 ≤ cap by omega)]
      · obtain ⟨km, om'⟩ := om g a hr
        have hcl := lem c rfl
        rcases q2 with ⟨rfl, _⟩ | ⟨z, rfl, q2⟩
        · exact absurd rfl hne
        · obtain ⟨k', q2'⟩ := q2 g a hr
          show (Instr.sliceBounds true l.length cap (lo.map a.eval) (some (a.eval z)) (some (a.eval ym))).run P w = .ok (a0, b0, c) w
          rw [q2', om']
          rcases q1 with ⟨rfl, rfl⟩ | ⟨y, rfl, q1⟩
          · simp [Instr.sliceBounds, run_sliceBound w (show b0 ≤ c by omega), run_sliceBound w (show c ≤ cap by omega)]
          · obtain ⟨k, q1'⟩ := q1 g a hr
            simp [Instr.sliceBounds, q1', run_sliceBound w le1, run_sliceBound w (show b0 ≤ c by omega), run_sliceBound w (show c ≤ cap by omega)]
    refine ⟨_, start a w _ _ _ a0 b0 (mo.getD cap) p1 hb, ?_⟩
    have hmo : b0 ≤ mo.getD cap ∧ mo.getD cap ≤ cap := by
      cases mo with
      | none => simp; omega
      | some c => have := lem c rfl; simp; omega
    obtain ⟨as, bs, s1, s2, s3, s4⟩ := RL.split b0 p2 p3 le2
    have p3' : ∀ v ∈ l.take b0, v.size = sz' := fun v hv => p3 v (List.mem_of_mem_take hv)
    obtain ⟨cs', ds', t1, t2, t3, t4⟩ := RL.split a0 s3 p3' (by simp; omega)
    simp only [R]
    refine ⟨if mo.getD cap = a0 then A else A.map (·.add (a0 * sz')), mo.getD cap - a0, ds', ?_, t4, fun v hv => p3' v (List.mem_of_mem_drop hv), by simp; omega, ?_, ?_, ?_, ?_⟩
    · congr 1; simp; omega
    · intro h
      have : A = none := by
        split at h
        · exact h
        · simpa using h
      have := p5 this
      omega
    · refine ⟨fun h => ?_, fun h => ?_⟩
      · have : st = .nil := by
          unfold slSt at h; split at h
          · rfl
          · split at h <;> split at h <;> cases h
          · split at h
            · split at h <;> cases h
            · cases h
          · cases h
        rw [p6.1 this]; split <;> rfl
      · exfalso
        unfold slSt at h; split at h
        · cases h
        · split at h <;> split at h <;> cases h
        · split at h
          · split at h <;> cases h
          · cases h
        · cases h
    · intro h
      have : mo.getD cap = b0 := by
        unfold slSt at h
        split at h
        · cases h
        · have hc := p7 rfl
          split at h
          · split at h
            · assumption
            · cases h
          · split at h
            · rename_i h'; simp; omega
            · cases h
        · split at h
          · split at h
            · assumption
            · cases h
          · cases h
        · cases h
      simp; omega
    · by_cases he : a0 = b0
      · exact .inl (by simp; omega)
      · refine .inr ?_
        rcases p8 with rfl | ⟨b, o, rfl, hF⟩
        · simp at le2; omega
        · rw [if_neg (by omega)]
          refine ⟨b, o + a0 * sz', by simp [add_plain], ?_⟩
          rw [s1, t1] at hF
          have := hF.sub (as := cs') (bs := bs)
          rwa [t2] at this

end
end Go.Proofs.Ytickdhdlljhomaa.Ev
