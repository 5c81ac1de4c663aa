/-
  Laws: from a contract to the rows' statements: what an argument's reading tells of its value.
-/
import Derived.Test.YtickdhdlljhomaaEv19
import Derived.Deep.Grids
import Derived.Below
set_option linter.unusedSimpArgs false
set_option linter.unusedVariables false
namespace Go.Proofs.Ytickdhdlljhomaa.Ev
open Go

/-- All that stands in a world stands. -/
def gW (w : World) : G := ⟨fun _ => none, fun b => match w.heap[b]? with | some (.cells cs _ _) => some cs.toList | _ => none⟩

theorem gW_RS (w : World) : RS (gW w) (fun _ => none) w := by
  refine ⟨fun b cs h => ?_, by simp, by simp⟩
  simp only [gW] at h
  split at h
  · rename_i c e fr hb; simp at h; subst h; exact ⟨e, fr, by simpa using hb⟩
  · cases h

theorem law_calls {P : Program} {f : Nat} {vs : List V} {xs : Array Value} {W : World} (h : PCall P f vs (.bool true)) (hx : RC (gW W) vs xs.toList) :
    Calls P f xs W fun e w' => e = .returned (.bool true) ∧ Go.RowKit.Below W.heap.size W w' := by
  refine (h.2 _ _ _ _ (gW_RS W) hx).mono ?_
  rintro e w' ⟨x, F', rfl, hr, hs, hx⟩
  simp only [R] at hr; subst hr
  exact ⟨rfl, hx.os, hx.tape, hx.output, hx.size, fun k hk => hx.old k hk (fun ⟨_, _, _, _, h, _⟩ => by cases h)⟩

theorem fat_of_cells {w : World} {a : Addr} {len : Nat} (X : Nat → Value) (hl : 0 < len) (h : ∀ i, i < len → w.cell? (a.add i) = some (X i)) :
    a = ⟨a.block, a.off, none⟩ ∧ FAt (gW w) a.block a.off ((List.range len).map X) := by
  have h0 := h 0 hl
  cases hb : w.heap[a.block]? with
  | none => simp [World.cell?, Addr.add, hb] at h0
  | some o =>
    cases o with
    | cells c e fr =>
      cases hsp : a.spot with
      | some q => simp [World.cell?, Addr.add, hb, hsp] at h0
      | none =>
        have get : ∀ i, i < len → c.toList[a.off + i]? = some (X i) := by
          intro i hi
          have := h i hi
          have ha : a.add i = ⟨a.block, a.off + i, none⟩ := by
            unfold Addr.add
            split
            · rename_i e; subst e; cases a; simp at hsp; simp [hsp]
            · rfl
          rw [ha] at this
          simpa [World.cell?, hb] using this
        have hoff : a.off + (len - 1) < c.toList.length := (List.getElem?_eq_some_iff.1 (get (len - 1) (by omega))).1
        refine ⟨by cases a; simp at hsp; simp [hsp], c.toList.take a.off, c.toList.drop (a.off + len), ?_, by rw [List.length_take]; omega⟩
        simp only [gW, hb, Option.some.injEq]
        have hmin : (c.toList.take a.off).length = a.off := by rw [List.length_take]; omega
        have hxl : ((List.range len).map X).length = len := by simp
        refine List.ext_getElem? fun i => ?_
        by_cases h1 : i < a.off
        · rw [List.append_assoc, List.getElem?_append_left (by omega), List.getElem?_take_of_lt h1]
        · by_cases h2 : i < a.off + len
          · rw [List.append_assoc, List.getElem?_append_right (by omega), List.getElem?_append_left (by omega), hmin, List.getElem?_map, List.getElem?_range (by omega)]
            have := get (i - a.off) (by omega)
            rw [show a.off + (i - a.off) = i by omega] at this
            simpa using this
          · rw [List.append_assoc, List.getElem?_append_right (by omega), List.getElem?_append_right (by omega), hmin, hxl, List.getElem?_drop]
            congr 1
            omega
    | _ => simp [World.cell?, Addr.add, hb] at h0

theorem RL_one {g : G} {α : Type} (mk : α → V) (mx : α → Value) (hc : ∀ a, (mx a).cells.toList = [mx a]) (he : ∀ a, (mk a).isEl = true) (hr : ∀ a, R g (mk a) (mx a)) : ∀ l : List α, RL g (l.map mk) (l.map mx)
  | [] => by simp [RL]
  | a :: l => by
    simp only [List.map_cons, RL]
    exact ⟨mx a, l.map mx, by rw [hc]; rfl, ⟨he a, hr a⟩, RL_one mk mx hc he hr l⟩

/-- A row of cells, each told by itself. -/
theorem open_cells {w : World} {a : Option Addr} {len cap : Nat} {α : Type} (mk : α → V) (mx : α → Value) (hc : ∀ a, (mx a).cells.toList = [mx a]) (hs : ∀ a, (mk a).size = 1) (he : ∀ a, (mk a).isEl = true) (hr : ∀ a, R (gW w) (mk a) (mx a)) (Z : Nat → α)
    (h : (a = none ∧ len = 0 ∧ cap = 0) ∨ ∃ b, a = some b ∧ len ≤ cap ∧ ∀ i, i < len → w.cell? (b.add i) = some (mx (Z i))) :
    ∃ st, R (gW w) (.fsl st 1 (((List.range len).map Z).map mk)) (.slice a len cap) ∧ (st = .nil ∨ st = .nn) := by
  rcases h with ⟨rfl, rfl, rfl⟩ | ⟨b, rfl, hl, hcell⟩
  · refine ⟨.nil, ?_, .inl rfl⟩
    simp only [R]
    exact ⟨none, 0, [], rfl, by simp [RL], by simp, by simp, by simp, by simp, by simp, .inl (by simp)⟩
  · refine ⟨.nn, ?_, .inr rfl⟩
    simp only [R]
    refine ⟨some b, cap, ((List.range len).map Z).map mx, by simp, RL_one mk mx hc he hr _, ?_, by simpa using hl, by simp, by simp, by simp, ?_⟩
    · intro v hv
      simp only [List.mem_map] at hv
      obtain ⟨x, _, rfl⟩ := hv
      exact hs x
    · by_cases h0 : len = 0
      · left; subst h0; simp
      · right
        obtain ⟨e, hf⟩ := fat_of_cells (fun i => mx (Z i)) (by omega) hcell
        rw [List.map_map]
        exact ⟨b.block, b.off, by rw [e], hf⟩

/-- A row of which is not told whether it is nil is nil, or is not. -/
theorem nil_or {g : G} {sz : Nat} {l : List V} {x : Value} (h : R g (.fsl .loose sz l) x) : (R g (.fsl .nil sz l) x ∧ l = []) ∨ R g (.fsl .nn sz l) x := by
  simp only [R] at h ⊢
  obtain ⟨a, cap, xs, e1, e2, e3, e4, e5, e6, e7, e8⟩ := h
  by_cases ha : a = none
  · have := e5 ha
    exact .inl ⟨⟨a, cap, xs, e1, e2, e3, e4, e5, ⟨fun _ => ha, by simp⟩, by simp, e8⟩, List.eq_nil_of_length_eq_zero (by omega)⟩
  · exact .inr ⟨a, cap, xs, e1, e2, e3, e4, e5, ⟨by simp, fun _ => ha⟩, by simp, e8⟩

/-- A contract, whether the first argument is nil or not. -/
theorem PCall.first {P : Program} {f sz : Nat} {l vs : List V} {r : V} (h1 : l = [] → PCall P f (.fsl .nil sz [] :: vs) r) (h2 : PCall P f (.fsl .nn sz l :: vs) r) : PCall P f (.fsl .loose sz l :: vs) r := by
  refine ⟨h2.1, fun m g w xs hs hx => ?_⟩
  simp only [RC] at hx
  obtain ⟨y, ys, e1, e2, e3⟩ := hx
  rcases nil_or e2 with ⟨k, rfl⟩ | k
  · exact (h1 rfl).2 m g w xs hs (by simp only [RC]; exact ⟨y, ys, e1, k, e3⟩)
  · exact h2.2 m g w xs hs (by simp only [RC]; exact ⟨y, ys, e1, k, e3⟩)

theorem R_str {g : G} (s : ByteArray) : R g (.str s.data.toList) (.string s) := by simp [R]

end Go.Proofs.Ytickdhdlljhomaa.Ev
