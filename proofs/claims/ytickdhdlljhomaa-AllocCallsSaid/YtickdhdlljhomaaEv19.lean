/-
  Rows that grow.
-/
import Derived.Test.YtickdhdlljhomaaEv18
set_option linter.unusedSimpArgs false
set_option linter.unusedVariables false
namespace Go.Proofs.Ytickdhdlljhomaa.Ev
open Go

/-- A loop, its continuation out of sight. -/
theorem x_lp {P : Program} {σ : Sg} {H : Hp} {Q : QA} {a : C} (I : Sg → Hp → Prop) (μ : Sg → Hp → Nat) (h0 : I σ H)
    (h : ∀ (T : QA) (σ : Sg) (H : Hp), I σ H → (∀ σ' H', I σ' H' → μ σ' H' < μ σ H → T .norm σ' H') → (∀ id σ' H', Q (.exit id) σ' H' → T (.exit id) σ' H') → (∀ σ' H', Q .ret σ' H' → T .ret σ' H') → evX P a σ H T) : evX P (.loop a) σ H Q :=
  ⟨I, μ, h0, fun σ H hi => h (Rd I μ (μ σ H) Q) σ H hi (fun σ' H' h1 h2 => ⟨h1, h2⟩) (fun id σ' H' h => h) (fun σ' H' h => h)⟩

/-- A row that a loop lets grow: nothing yet, or an own block. -/
def Buf (H : Hp) (sz : Nat) (v : V) (l : List V) : Prop :=
  (∃ st, (st ≠ .loose ∧ st ≠ .nn) ∧ v = .fsl st sz [] ∧ l = []) ∨ ∃ id, id < H.n ∧ v = .sl id 0 l.length ∧ H.m id = some (.arr sz l)

theorem Buf.start {H : Hp} {sz : Nat} {st : St} (h : st ≠ .loose ∧ st ≠ .nn) : Buf H sz (.fsl st sz []) [] := .inl ⟨st, h, rfl, rfl⟩

theorem Buf.rd {H : Hp} {sz : Nat} {v : V} {l : List V} (h : Buf H sz v l) : rd H.m v = some (sz, l) := by
  rcases h with ⟨st, _, rfl, rfl⟩ | ⟨id, h1, rfl, h2⟩
  · rfl
  · simp [Ev.rd, h2]

/-- What a heap keeps of an older one. -/
theorem app_buf {H : Hp} {sz bt : Nat} {v y : V} {l ys : List V} {K : KI} (h : Buf H sz v l) (hy : Ev.rd H.m y = some (sz, ys)) (hne : ys ≠ []) (hl : (l.length + ys.length) * bt ≤ 140737488355328)
    (k : ∀ v' fp ds, Buf ⟨H.n + 1, appd ds H.m⟩ sz v' (l ++ ys) → (∀ id, id < H.n → (∀ o n, v ≠ .sl id o n) → appd ds H.m id = H.m id) → K v' fp ds 1) : fin (appO H sz bt v y) K := by
  have e : (l ++ ys).length = l.length + ys.length := List.length_append
  unfold appO
  rw [hy]
  rcases h with ⟨st, h0, rfl, rfl⟩ | ⟨id, h1, rfl, h2⟩
  · cases ys with
    | nil => exact absurd rfl hne
    | cons a ys =>
      refine ⟨⟨rfl, rfl, h0, by simpa using hl⟩, k _ _ _ (.inr ⟨H.n, by simp, by simp, by simp [appd, upd]⟩) fun id hid _ => ?_⟩
      have : id ≠ H.n := by omega
      simp [appd, upd, this]
  · simp only [h2]
    refine ⟨⟨trivial, trivial, trivial, Nat.le_refl _, hl⟩, k _ _ _ (.inr ⟨H.n, by simp, by simp, by simp [appd, upd]⟩) fun i hid hv => ?_⟩
    have h3 : i ≠ H.n := by omega
    have h4 : i ≠ id := fun e => hv 0 l.length (by rw [e])
    simp [appd, upd, h3, h4]

/-- Freezing of a grown row. -/
theorem Buf.frz {H : Hp} {sz : Nat} {v : V} {l : List V} (h : Buf H sz v l) (hc : closedL l = true) : ∃ fz st, frzV fz H.m v = .fsl st sz l := by
  rcases h with ⟨st, h0, rfl, rfl⟩ | ⟨id, h1, rfl, h2⟩
  · exact ⟨[], st, frz_f rfl⟩
  · exact ⟨[id], .loose, by rw [frz_sl h2 (by simp) (by simp) hc]; simp⟩

end Go.Proofs.Ytickdhdlljhomaa.Ev
