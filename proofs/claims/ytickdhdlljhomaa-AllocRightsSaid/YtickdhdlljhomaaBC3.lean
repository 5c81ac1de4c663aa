/-
  The program's code in compact form, with its checks.
-/
import Derived.Test.YtickdhdlljhomaaBC2
import Derived.Test.YtickdhdlljhomaaProg
import Derived.KernelRfl
set_option linter.unusedSimpArgs false
namespace Go.Proofs.Ytickdhdlljhomaa.Ev
open Go
/-- `slices.IndexFunc[[][]bool,[]bool]` -/
def c52 : C :=
  (.seq
    (.reg false [p (.mov (.k (.int .i64 0)))] [(0, .v 0), (1, .v 1)])
  (.seq
    (.seq
      (.reg false [p (.mov (.v 0)),
        p (.len false (.r 0)),
        p (.mov (.k (.int .i64 0)))] [(0, .v 0), (1, .v 1), (7, .r 1), (8, .r 0)])
      (.block 0
        (.loop
          (.seq
            (.reg false [p (.bin .lss (.v 8) (.v 7))] [(0, .v 0), (1, .v 1), (7, .v 7), (8, .v 8), (9, .r 0)])
          (.seq
            (.cond (.v 9)
              .skip
              (.exit 0))
          (.seq
            (.block 1
              (.seq
                (.reg false [p (.mov (.v 8)),
                  p (.mov (.r 0))] [(0, .v 0), (1, .v 1), (5, .r 0), (7, .v 7), (8, .v 8)])
              (.seq
                (.reg false [p (.mov (.v 1)),
                  p (.mov (.v 0)),
                  p (.mov (.v 5)),
                  p (.iad 1 (.r 1) (.r 0)),
                  p (.load (none) (.r 0)),
                  p (.call false (.r 4) [.r 0])] [(0, .v 0), (1, .v 1), (5, .v 5), (7, .v 7), (8, .v 8), (16, .r 0)])
                (.cond (.v 16)
                  (.seq
                    (.reg false [p (.mov (.v 5)),
                      p (.mov (.r 0))] [(4, .r 0)])
                    .ret)
                  .skip))))
            (.reg false [p (.bin .add (.v 8) (.k (.int .i64 1))),
              p (.mov (.r 0))] [(0, .v 0), (1, .v 1), (7, .v 7), (8, .r 0)])))))))
  (.frz
  (.seq
    (.reg false [p (.mov (.k (.int .i64 (-1))))] [(4, .r 0)])
    .ret))))
def r52 : List RV := [.t 4]
theorem chk52 : ∃ c0, Try.f52.body = some c0 ∧ chkC Try.prog Try.f52.ntmps c0 c52 = true ∧ chkRes Try.prog Try.f52.results.toList r52 = true := ⟨_, rfl, by kernel_rfl, by kernel_rfl⟩
theorem ena52 {vs : List V} {H : Hp} {fp : List Nat} {r : V} {ds : List (Nat × Option Ob)} {k : Nat} (hlen : vs.length ≤ 19) (hcl : lowL H.n vs = true) (hfp : ∀ id ∈ fp, id < H.n ∧ ∀ o, H.m id = some o → o.low H.n = true) (hds : ∀ p ∈ ds, p.1 ∈ fp ∨ (H.n ≤ p.1 ∧ p.1 < H.n + k)) (h : evX Try.prog c52 (argsE 0 vs) ⟨H.n, only fp H.m⟩ (FinA r52 (only fp H.m) H.n r ds k)) : ACall Try.prog 52 vs H fp r ds k := by
  obtain ⟨c0, h1, h2, h3⟩ := chk52
  exact enterA (P := Try.prog) (f := 52) (by kernel_rfl) Try.func52 h1 (by kernel_rfl) h2 h3 hlen hcl hfp hds (ofX h)
theorem en52 {vs : List V} {r : V} (hlen : vs.length ≤ 19) (hcl : closedL vs = true) (h : evX Try.prog c52 (argsE 0 vs) ⟨0, fun _ => none⟩ (Fin r52 r)) : PCall Try.prog 52 vs r := by
  obtain ⟨c0, h1, h2, h3⟩ := chk52
  exact enterP (P := Try.prog) (f := 52) (by kernel_rfl) Try.func52 h1 (by kernel_rfl) h2 h3 hlen hcl (ofX h)

/-- `slices.ContainsFunc[[][]bool,[]bool]` -/
def c45 : C :=
  (.seq
    (.reg false [p (.mov (.k (.bool false)))] [(0, .v 0), (1, .v 1)])
  (.seq
    (.reg false [p (.mov (.v 0)),
      p (.mov (.v 1)),
      p (.call false (.k (.fn 52 [] [])) [.r 1, .r 0]),
      p (.bin .geq (.r 0) (.k (.int .i64 0))),
      p (.mov (.r 0))] [(4, .r 0)])
    .ret))
def r45 : List RV := [.t 4]
theorem chk45 : ∃ c0, Try.f45.body = some c0 ∧ chkC Try.prog Try.f45.ntmps c0 c45 = true ∧ chkRes Try.prog Try.f45.results.toList r45 = true := ⟨_, rfl, by kernel_rfl, by kernel_rfl⟩
theorem ena45 {vs : List V} {H : Hp} {fp : List Nat} {r : V} {ds : List (Nat × Option Ob)} {k : Nat} (hlen : vs.length ≤ 9) (hcl : lowL H.n vs = true) (hfp : ∀ id ∈ fp, id < H.n ∧ ∀ o, H.m id = some o → o.low H.n = true) (hds : ∀ p ∈ ds, p.1 ∈ fp ∨ (H.n ≤ p.1 ∧ p.1 < H.n + k)) (h : evX Try.prog c45 (argsE 0 vs) ⟨H.n, only fp H.m⟩ (FinA r45 (only fp H.m) H.n r ds k)) : ACall Try.prog 45 vs H fp r ds k := by
  obtain ⟨c0, h1, h2, h3⟩ := chk45
  exact enterA (P := Try.prog) (f := 45) (by kernel_rfl) Try.func45 h1 (by kernel_rfl) h2 h3 hlen hcl hfp hds (ofX h)
theorem en45 {vs : List V} {r : V} (hlen : vs.length ≤ 9) (hcl : closedL vs = true) (h : evX Try.prog c45 (argsE 0 vs) ⟨0, fun _ => none⟩ (Fin r45 r)) : PCall Try.prog 45 vs r := by
  obtain ⟨c0, h1, h2, h3⟩ := chk45
  exact enterP (P := Try.prog) (f := 45) (by kernel_rfl) Try.func45 h1 (by kernel_rfl) h2 h3 hlen hcl (ofX h)

/-- `penelope/bits.First$1` -/
def c46 : C :=
  (.seq
    (.reg false [p (.mov (.k (.bool false)))] [(0, .v 0), (1, .v 1)])
  (.seq
    (.reg false [p (.mov (.v 0)),
      p (.load (none) (.v 1)),
      p (.call true (.k (.fn 47 [] [])) [.r 1, .r 0]),
      p (.mov (.r 0))] [(3, .r 0)])
    .ret))
def r46 : List RV := [.t 3]
theorem chk46 : ∃ c0, Try.f46.body = some c0 ∧ chkC Try.prog Try.f46.ntmps c0 c46 = true ∧ chkRes Try.prog Try.f46.results.toList r46 = true := ⟨_, rfl, by kernel_rfl, by kernel_rfl⟩
theorem ena46 {vs : List V} {H : Hp} {fp : List Nat} {r : V} {ds : List (Nat × Option Ob)} {k : Nat} (hlen : vs.length ≤ 7) (hcl : lowL H.n vs = true) (hfp : ∀ id ∈ fp, id < H.n ∧ ∀ o, H.m id = some o → o.low H.n = true) (hds : ∀ p ∈ ds, p.1 ∈ fp ∨ (H.n ≤ p.1 ∧ p.1 < H.n + k)) (h : evX Try.prog c46 (argsE 0 vs) ⟨H.n, only fp H.m⟩ (FinA r46 (only fp H.m) H.n r ds k)) : ACall Try.prog 46 vs H fp r ds k := by
  obtain ⟨c0, h1, h2, h3⟩ := chk46
  exact enterA (P := Try.prog) (f := 46) (by kernel_rfl) Try.func46 h1 (by kernel_rfl) h2 h3 hlen hcl hfp hds (ofX h)
theorem en46 {vs : List V} {r : V} (hlen : vs.length ≤ 7) (hcl : closedL vs = true) (h : evX Try.prog c46 (argsE 0 vs) ⟨0, fun _ => none⟩ (Fin r46 r)) : PCall Try.prog 46 vs r := by
  obtain ⟨c0, h1, h2, h3⟩ := chk46
  exact enterP (P := Try.prog) (f := 46) (by kernel_rfl) Try.func46 h1 (by kernel_rfl) h2 h3 hlen hcl (ofX h)

/-- `penelope/bits.at` -/
def c47 : C :=
  (.seq
    (.reg false [p (.mov (.k (.bool false)))] [(0, .v 0), (1, .v 1)])
  (.seq
    (.reg false [p (.mov (.v 1)),
      p (.mov (.v 0)),
      p (.len false (.r 0)),
      p (.bin .lss (.r 2) (.r 0)),
      p (.mov (.r 0)),
      ⟨.mov (.v 0), some (0, true), []⟩,
      ⟨.mov (.v 1), some (1, true), []⟩,
      ⟨.iad 1 (.r 1) (.r 0), some (2, true), []⟩,
      ⟨.load (none) (.r 0), some (3, true), []⟩,
      p (.pick (.r 4) (.r 0) (.k (.bool false))),
      p (.mov (.r 0))] [(4, .r 0)])
    .ret))
def r47 : List RV := [.t 4]
theorem chk47 : ∃ c0, Try.f47.body = some c0 ∧ chkC Try.prog Try.f47.ntmps c0 c47 = true ∧ chkRes Try.prog Try.f47.results.toList r47 = true := ⟨_, rfl, by kernel_rfl, by kernel_rfl⟩

theorem en47 {vs : List V} {r : V} (hlen : vs.length ≤ 15) (hcl : closedL vs = true) (h : evX Try.prog c47 (argsE 0 vs) ⟨0, fun _ => none⟩ (Fin r47 r)) : PCall Try.prog 47 vs r := by
  obtain ⟨c0, h1, h2, h3⟩ := chk47
  exact enterP (P := Try.prog) (f := 47) (by kernel_rfl) Try.func47 h1 (by kernel_rfl) h2 h3 hlen hcl (ofX h)

/-- `penelope/bits.longest` -/
def c44 : C :=
  (.seq
    (.reg false [p (.mov (.k (.int .i64 0)))] [(0, .v 0)])
  (.seq
    (.reg false [p (.mov (.k (.int .i64 0)))] [(0, .v 0), (3, .r 0)])
  (.seq
    (.seq
      (.reg false [p (.mov (.v 0)),
        p (.len false (.r 0)),
        p (.mov (.k (.int .i64 0)))] [(3, .v 3), (6, .r 2), (7, .r 1), (8, .r 0)])
      (.block 0
        (.loop
          (.seq
            (.reg false [p (.bin .lss (.v 8) (.v 7))] [(3, .v 3), (6, .v 6), (7, .v 7), (8, .v 8), (9, .r 0)])
          (.seq
            (.cond (.v 9)
              .skip
              (.exit 0))
          (.seq
            (.block 1
              (.seq
                (.reg false [p (.iad 1 (.v 6) (.v 8)),
                  p (.load (none) (.r 0)),
                  p (.mov (.r 0))] [(3, .v 3), (5, .r 0), (6, .v 6), (7, .v 7), (8, .v 8)])
                (.reg false [p (.mov (.v 3)),
                  p (.mov (.v 5)),
                  p (.len false (.r 0)),
                  p (.mnx true (.r 2) [.r 0]),
                  p (.mov (.r 0))] [(3, .r 0), (6, .v 6), (7, .v 7), (8, .v 8)])))
            (.reg false [p (.bin .add (.v 8) (.k (.int .i64 1))),
              p (.mov (.r 0))] [(3, .v 3), (6, .v 6), (7, .v 7), (8, .r 0)])))))))
  (.frz
  (.seq
    (.reg false [p (.mov (.v 3)),
      p (.mov (.r 0))] [(2, .r 0)])
    .ret)))))
def r44 : List RV := [.t 2]
theorem chk44 : ∃ c0, Try.f44.body = some c0 ∧ chkC Try.prog Try.f44.ntmps c0 c44 = true ∧ chkRes Try.prog Try.f44.results.toList r44 = true := ⟨_, rfl, by kernel_rfl, by kernel_rfl⟩

theorem en44 {vs : List V} {r : V} (hlen : vs.length ≤ 18) (hcl : closedL vs = true) (h : evX Try.prog c44 (argsE 0 vs) ⟨0, fun _ => none⟩ (Fin r44 r)) : PCall Try.prog 44 vs r := by
  obtain ⟨c0, h1, h2, h3⟩ := chk44
  exact enterP (P := Try.prog) (f := 44) (by kernel_rfl) Try.func44 h1 (by kernel_rfl) h2 h3 hlen hcl (ofX h)

/-- `penelope/bits.First` -/
def c23 : C :=
  (.seq
    (.reg false [p (.mov (.k (.int .i64 0)))] [(0, .v 0), (1, .v 1)])
  (.seq
    (.seq
      (.reg false [p (.mov (.v 0)),
        p (.mnx true (.r 0) [.k (.int .i64 0)]),
        p (.alloc 1 (.int .i64 0)),
        p (.store (none) (.r 0) (.r 1))] [(1, .v 1), (5, .r 1)])
      (.block 0
        (.loop
          (.seq
            (.seq
              (.reg true [p (.load (none) (.v 5)),
                p (.mov (.v 1)),
                p (.call true (.k (.fn 44 [] [])) [.r 0]),
                p (.bin .lss (.r 2) (.r 0))] [(1, .v 1), (5, .v 5), (11, .r 0)])
              (.cond (.v 11)
                .skip
                (.exit 0)))
          (.seq
            (.block 1
              (.seq
                (.reg false [p (.mov (.v 1)),
                  p (.mkf 46 [] [.v 5]),
                  p (.call false (.k (.fn 45 [] [])) [.r 1, .r 0]),
                  p (.un .not (.r 0))] [(1, .v 1), (5, .v 5), (17, .r 0)])
                (.cond (.v 17)
                  (.seq
                    (.reg false [p (.load (none) (.v 5)),
                      p (.mov (.r 0))] [(4, .r 0)])
                    .ret)
                  .skip)))
          (.seq
            (.seq
              (.reg false [p (.load (none) (.v 5))] [(1, .v 1), (19, .r 0)])
              (.reg false [p (.alloc 1 (.int .i64 0)),
                p (.store (none) (.r 0) (.v 19))] [(1, .v 1), (5, .r 1)]))
            (.reg false [p (.load (none) (.v 5)),
              p (.bin .add (.r 0) (.k (.int .i64 1))),
              p (.store (none) (.v 5) (.r 0))] [(1, .v 1), (5, .v 5)])))))))
  (.frz
  (.seq
    (.reg false [p (.mov (.k (.int .i64 (-1))))] [(4, .r 0)])
    .ret))))
def r23 : List RV := [.t 4]
theorem chk23 : ∃ c0, Try.f23.body = some c0 ∧ chkC Try.prog Try.f23.ntmps c0 c23 = true ∧ chkRes Try.prog Try.f23.results.toList r23 = true := ⟨_, rfl, by kernel_rfl, by kernel_rfl⟩

theorem en23 {vs : List V} {r : V} (hlen : vs.length ≤ 20) (hcl : closedL vs = true) (h : evX Try.prog c23 (argsE 0 vs) ⟨0, fun _ => none⟩ (Fin r23 r)) : PCall Try.prog 23 vs r := by
  obtain ⟨c0, h1, h2, h3⟩ := chk23
  exact enterP (P := Try.prog) (f := 23) (by kernel_rfl) Try.func23 h1 (by kernel_rfl) h2 h3 hlen hcl (ofX h)

/-- `penelope/bits.Count$1` -/
def c48 : C :=
  (.seq
    (.reg false [p (.mov (.k (.bool false)))] [(0, .v 0), (1, .v 1)])
  (.seq
    (.reg false [p (.mov (.v 0)),
      p (.load (none) (.v 1)),
      p (.call true (.k (.fn 47 [] [])) [.r 1, .r 0]),
      p (.un .not (.r 0)),
      p (.mov (.r 0))] [(3, .r 0)])
    .ret))
def r48 : List RV := [.t 3]
theorem chk48 : ∃ c0, Try.f48.body = some c0 ∧ chkC Try.prog Try.f48.ntmps c0 c48 = true ∧ chkRes Try.prog Try.f48.results.toList r48 = true := ⟨_, rfl, by kernel_rfl, by kernel_rfl⟩
theorem ena48 {vs : List V} {H : Hp} {fp : List Nat} {r : V} {ds : List (Nat × Option Ob)} {k : Nat} (hlen : vs.length ≤ 8) (hcl : lowL H.n vs = true) (hfp : ∀ id ∈ fp, id < H.n ∧ ∀ o, H.m id = some o → o.low H.n = true) (hds : ∀ p ∈ ds, p.1 ∈ fp ∨ (H.n ≤ p.1 ∧ p.1 < H.n + k)) (h : evX Try.prog c48 (argsE 0 vs) ⟨H.n, only fp H.m⟩ (FinA r48 (only fp H.m) H.n r ds k)) : ACall Try.prog 48 vs H fp r ds k := by
  obtain ⟨c0, h1, h2, h3⟩ := chk48
  exact enterA (P := Try.prog) (f := 48) (by kernel_rfl) Try.func48 h1 (by kernel_rfl) h2 h3 hlen hcl hfp hds (ofX h)
theorem en48 {vs : List V} {r : V} (hlen : vs.length ≤ 8) (hcl : closedL vs = true) (h : evX Try.prog c48 (argsE 0 vs) ⟨0, fun _ => none⟩ (Fin r48 r)) : PCall Try.prog 48 vs r := by
  obtain ⟨c0, h1, h2, h3⟩ := chk48
  exact enterP (P := Try.prog) (f := 48) (by kernel_rfl) Try.func48 h1 (by kernel_rfl) h2 h3 hlen hcl (ofX h)

/-- `penelope/bits.Count` -/
def c25 : C :=
  (.seq
    (.reg false [p (.mov (.k (.int .i64 0)))] [(0, .v 0)])
  (.seq
    (.reg false [p (.mov (.k (.int .i64 0)))] [(0, .v 0), (3, .r 0)])
  (.seq
    (.seq
      (.reg false [p (.mov (.v 0)),
        p (.call true (.k (.fn 44 [] [])) [.r 0]),
        p (.mov (.k (.int .i64 0)))] [(0, .v 0), (3, .v 3), (6, .r 1), (7, .r 0)])
      (.block 0
        (.loop
          (.seq
            (.reg false [p (.bin .lss (.v 7) (.v 6))] [(0, .v 0), (3, .v 3), (6, .v 6), (7, .v 7), (8, .r 0)])
          (.seq
            (.cond (.v 8)
              .skip
              (.exit 0))
          (.seq
            (.block 1
              (.seq
                (.reg false [p (.mov (.v 7)),
                  p (.alloc 1 (.int .i64 0)),
                  p (.store (none) (.r 0) (.r 1))] [(0, .v 0), (3, .v 3), (4, .r 1), (6, .v 6), (7, .v 7)])
              (.seq
                (.reg false [p (.mov (.v 0)),
                  p (.mkf 48 [] [.v 4]),
                  p (.call false (.k (.fn 45 [] [])) [.r 1, .r 0]),
                  p (.un .not (.r 0))] [(0, .v 0), (3, .v 3), (6, .v 6), (7, .v 7), (13, .r 0)])
                (.cond (.v 13)
                  (.reg false [p (.mov (.v 3)),
                    p (.bin .add (.r 0) (.k (.int .i64 1))),
                    p (.mov (.r 0))] [(0, .v 0), (3, .r 0), (6, .v 6), (7, .v 7)])
                  .skip))))
            (.reg false [p (.bin .add (.v 7) (.k (.int .i64 1))),
              p (.mov (.r 0))] [(0, .v 0), (3, .v 3), (6, .v 6), (7, .r 0)])))))))
  (.frz
  (.seq
    (.reg false [p (.mov (.v 3)),
      p (.mov (.r 0))] [(2, .r 0)])
    .ret)))))
def r25 : List RV := [.t 2]
theorem chk25 : ∃ c0, Try.f25.body = some c0 ∧ chkC Try.prog Try.f25.ntmps c0 c25 = true ∧ chkRes Try.prog Try.f25.results.toList r25 = true := ⟨_, rfl, by kernel_rfl, by kernel_rfl⟩

theorem en25 {vs : List V} {r : V} (hlen : vs.length ≤ 18) (hcl : closedL vs = true) (h : evX Try.prog c25 (argsE 0 vs) ⟨0, fun _ => none⟩ (Fin r25 r)) : PCall Try.prog 25 vs r := by
  obtain ⟨c0, h1, h2, h3⟩ := chk25
  exact enterP (P := Try.prog) (f := 25) (by kernel_rfl) Try.func25 h1 (by kernel_rfl) h2 h3 hlen hcl (ofX h)

/-- `penelope/penelopelaw05.BitsFirst$1` -/
def c24 : C :=
  (.seq
    (.reg false [p (.mov (.k (.bool false)))] [(0, .v 0), (1, .v 1)])
  (.seq
    (.reg false [p (.load (none) (.v 1)),
      p (.mov (.v 0)),
      p (.len false (.r 0)),
      p (.bin .geq (.r 2) (.r 0)),
      p (.mov (.r 0)),
      ⟨.mov (.v 0), some (0, false), []⟩,
      ⟨.load (none) (.v 1), some (1, false), []⟩,
      ⟨.iad 1 (.r 1) (.r 0), some (2, false), []⟩,
      ⟨.load (none) (.r 0), some (3, false), []⟩,
      ⟨.un .not (.r 0), some (4, false), []⟩,
      p (.pick (.r 5) (.k (.bool true)) (.r 0)),
      p (.mov (.r 0))] [(3, .r 0)])
    .ret))
def r24 : List RV := [.t 3]
theorem chk24 : ∃ c0, Try.f24.body = some c0 ∧ chkC Try.prog Try.f24.ntmps c0 c24 = true ∧ chkRes Try.prog Try.f24.results.toList r24 = true := ⟨_, rfl, by kernel_rfl, by kernel_rfl⟩
theorem ena24 {vs : List V} {H : Hp} {fp : List Nat} {r : V} {ds : List (Nat × Option Ob)} {k : Nat} (hlen : vs.length ≤ 15) (hcl : lowL H.n vs = true) (hfp : ∀ id ∈ fp, id < H.n ∧ ∀ o, H.m id = some o → o.low H.n = true) (hds : ∀ p ∈ ds, p.1 ∈ fp ∨ (H.n ≤ p.1 ∧ p.1 < H.n + k)) (h : evX Try.prog c24 (argsE 0 vs) ⟨H.n, only fp H.m⟩ (FinA r24 (only fp H.m) H.n r ds k)) : ACall Try.prog 24 vs H fp r ds k := by
  obtain ⟨c0, h1, h2, h3⟩ := chk24
  exact enterA (P := Try.prog) (f := 24) (by kernel_rfl) Try.func24 h1 (by kernel_rfl) h2 h3 hlen hcl hfp hds (ofX h)
theorem en24 {vs : List V} {r : V} (hlen : vs.length ≤ 15) (hcl : closedL vs = true) (h : evX Try.prog c24 (argsE 0 vs) ⟨0, fun _ => none⟩ (Fin r24 r)) : PCall Try.prog 24 vs r := by
  obtain ⟨c0, h1, h2, h3⟩ := chk24
  exact enterP (P := Try.prog) (f := 24) (by kernel_rfl) Try.func24 h1 (by kernel_rfl) h2 h3 hlen hcl (ofX h)

/-- `penelope/penelopelaw05.BitsFirst` -/
def c6 : C :=
  (.seq
    (.reg false [p (.mov (.k (.bool false)))] [(0, .v 0), (1, .v 1), (2, .v 2), (3, .v 3)])
  (.seq
    (.reg true [p (.mov (.v 0)),
      p (.mov (.v 0)),
      p (.len false (.r 0)),
      p (.mnx false (.r 0) [.k (.int .i64 300)]),
      p (.slc 1 (.r 3) none (some (.r 0)) none),
      p (.mov (.v 1)),
      p (.mov (.v 1)),
      p (.len false (.r 0)),
      p (.mnx false (.r 0) [.k (.int .i64 300)]),
      p (.slc 1 (.r 3) none (some (.r 0)) none),
      p (.mov (.r 5)),
      p (.mov (.r 1))] [(0, .r 1), (1, .r 0), (2, .v 2), (3, .v 3)])
  (.seq
    (.reg false [p (.mov (.v 2)),
      p (.mnx true (.r 0) [.k (.int .i64 0)]),
      p (.mnx false (.r 0) [.k (.int .i64 400)]),
      p (.mov (.v 3)),
      p (.mnx true (.r 0) [.k (.int .i64 0)]),
      p (.mnx false (.r 0) [.k (.int .i64 400)]),
      p (.mov (.r 3)),
      p (.mov (.r 1))] [(0, .v 0), (1, .v 1), (2, .r 1), (3, .r 0)])
  (.seq
    (.reg false [p (.mov (.v 2)),
      p (.mov (.v 0)),
      p (.mov (.v 1)),
      p (.bsl 1 [.r 1, .r 0]),
      p (.call true (.k (.fn 23 [] [])) [.r 3, .r 0]),
      p (.mov (.v 2)),
      p (.mov (.v 3)),
      p (.bin .add (.r 1) (.r 0)),
      p (.mov (.v 0)),
      p (.mov (.v 1)),
      p (.bsl 1 [.r 1, .r 0]),
      p (.call true (.k (.fn 23 [] [])) [.r 3, .r 0]),
      p (.alloc 1 (.int .i64 0)),
      p (.store (none) (.r 0) (.r 8)),
      p (.mov (.r 2))] [(0, .v 0), (1, .v 1), (2, .v 2), (9, .r 2), (10, .r 0)])
  (.seq
    (.seq
      (.reg false [p (.load (none) (.v 9)),
        p (.bin .eql (.r 0) (.k (.int .i64 (-1))))] [(0, .v 0), (1, .v 1), (2, .v 2), (9, .v 9), (10, .v 10), (41, .r 0)])
      (.cond (.v 41)
        (.seq
          (.reg false [p (.call true (.k (.fn 17 [] [])) []),
            p (.mov (.r 0)),
            ⟨.mov (.v 10), some (0, true), []⟩,
            ⟨.bin .eql (.r 0) (.k (.int .i64 (-1))), some (1, true), []⟩,
            p (.pick (.r 2) (.r 0) (.k (.bool false))),
            p (.mov (.r 0))] [(8, .r 0)])
          .ret)
        .skip))
  (.seq
    (.reg false [p (.mkf 24 [] [.v 9]),
      p (.mov (.r 0))] [(0, .v 0), (1, .v 1), (2, .v 2), (9, .v 9), (10, .v 10), (11, .r 0)])
  (.seq
    (.reg true [p (.call true (.k (.fn 17 [] [])) []),
      p (.mov (.r 0)),
      ⟨.load (none) (.v 9), some (0, true), []⟩,
      ⟨.mov (.v 2), some (1, true), []⟩,
      ⟨.bin .geq (.r 1) (.r 0), some (2, true), []⟩,
      p (.pick (.r 3) (.r 0) (.k (.bool false))),
      p (.mov (.r 0)),
      ⟨.load (none) (.v 9), some (0, true), []⟩,
      ⟨.mov (.v 0), some (1, true), []⟩,
      ⟨.len false (.r 0), some (2, true), []⟩,
      ⟨.mov (.v 1), some (3, true), []⟩,
      ⟨.len false (.r 0), some (4, true), []⟩,
      ⟨.mnx true (.r 2) [.r 0], some (5, true), []⟩,
      ⟨.bin .lss (.r 5) (.r 0), some (6, true), []⟩,
      p (.pick (.r 7) (.r 0) (.k (.bool false))),
      p (.mov (.r 0)),
      ⟨.mov (.v 11), some (0, true), []⟩,
      ⟨.mov (.v 0), some (1, true), []⟩,
      ⟨.call false (.r 1) [.r 0], some (2, true), [15, 10]⟩,
      p (.pick (.r 3) (.r 0) (.k (.bool false))),
      p (.mov (.r 0)),
      ⟨.mov (.v 11), some (0, true), []⟩,
      ⟨.mov (.v 1), some (1, true), []⟩,
      ⟨.call false (.r 1) [.r 0], some (2, true), [20, 15, 4]⟩,
      p (.pick (.r 3) (.r 0) (.k (.bool false))),
      p (.mov (.r 0)),
      ⟨.mov (.v 10), some (0, true), []⟩,
      ⟨.bin .eql (.r 0) (.k (.int .i64 (-1))), some (1, true), []⟩,
      ⟨.mov (.r 0), some (2, true), []⟩,
      ⟨.mov (.v 10), some (0, false), []⟩,
      ⟨.load (none) (.v 9), some (1, false), [11, 6]⟩,
      ⟨.bin .geq (.r 1) (.r 0), some (2, false), []⟩,
      ⟨.pick (.r 3) (.k (.bool true)) (.r 0), some (6, true), []⟩,
      p (.pick (.r 7) (.r 0) (.k (.bool false))),
      p (.mov (.r 0)),
      ⟨.load (none) (.v 9), some (0, true), [16, 11]⟩,
      ⟨.mov (.v 0), some (1, true), []⟩,
      ⟨.mov (.v 1), some (2, true), []⟩,
      ⟨.bsl 1 [.r 1, .r 0], some (3, true), []⟩,
      ⟨.call true (.k (.fn 23 [] [])) [.r 3, .r 0], some (4, true), []⟩,
      ⟨.load (none) (.v 9), some (5, true), [21, 16]⟩,
      ⟨.bin .eql (.r 1) (.r 0), some (6, true), []⟩,
      p (.pick (.r 7) (.r 0) (.k (.bool false))),
      p (.mov (.r 0)),
      ⟨.mov (.v 2), some (0, true), []⟩,
      ⟨.mov (.v 1), some (1, true), []⟩,
      ⟨.mov (.v 0), some (2, true), []⟩,
      ⟨.bsl 1 [.r 1, .r 0], some (3, true), []⟩,
      ⟨.call true (.k (.fn 23 [] [])) [.r 3, .r 0], some (4, true), []⟩,
      ⟨.load (none) (.v 9), some (5, true), [30, 25]⟩,
      ⟨.bin .eql (.r 1) (.r 0), some (6, true), []⟩,
      p (.pick (.r 7) (.r 0) (.k (.bool false))),
      p (.mov (.r 0))] [(8, .r 0)])
    .ret)))))))
def r6 : List RV := [.t 8]
theorem chk6 : ∃ c0, Try.f6.body = some c0 ∧ chkC Try.prog Try.f6.ntmps c0 c6 = true ∧ chkRes Try.prog Try.f6.results.toList r6 = true := ⟨_, rfl, by kernel_rfl, by kernel_rfl⟩

theorem en6 {vs : List V} {r : V} (hlen : vs.length ≤ 100) (hcl : closedL vs = true) (h : evX Try.prog c6 (argsE 0 vs) ⟨0, fun _ => none⟩ (Fin r6 r)) : PCall Try.prog 6 vs r := by
  obtain ⟨c0, h1, h2, h3⟩ := chk6
  exact enterP (P := Try.prog) (f := 6) (by kernel_rfl) Try.func6 h1 (by kernel_rfl) h2 h3 hlen hcl (ofX h)

/-- `penelope/penelopelaw05.BitsFinds` -/
def c7 : C :=
  (.seq
    (.reg false [p (.mov (.k (.bool false)))] [(0, .v 0), (1, .v 1)])
  (.seq
    (.reg false [p (.bsl 1 []),
      p (.mov (.v 0)),
      p (.mov (.v 0)),
      p (.len false (.r 0)),
      p (.mnx false (.r 0) [.k (.int .i64 5)]),
      p (.slc 1 (.r 3) none (some (.r 0)) none),
      p (.app 1 24 (.r 5) (.r 0)),
      p (.mov (.r 0))] [(0, .r 0), (1, .v 1)])
  (.seq
    (.seq
      (.reg false [p (.mov (.v 0)),
        p (.len false (.r 0)),
        p (.mov (.k (.int .i64 0)))] [(0, .v 0), (1, .v 1), (14, .r 1), (15, .r 0)])
      (.block 0
        (.loop
          (.seq
            (.reg false [p (.bin .lss (.v 15) (.v 14))] [(0, .v 0), (1, .v 1), (14, .v 14), (15, .v 15), (16, .r 0)])
          (.seq
            (.cond (.v 16)
              .skip
              (.exit 0))
          (.seq
            (.block 1
              (.seq
                (.reg false [p (.mov (.v 15)),
                  p (.mov (.r 0))] [(0, .v 0), (1, .v 1), (5, .r 0), (14, .v 14), (15, .v 15)])
                (.reg true [p (.mov (.v 0)),
                  p (.mov (.v 5)),
                  p (.mov (.v 0)),
                  p (.mov (.v 5)),
                  p (.iad 1 (.r 1) (.r 0)),
                  p (.load (none) (.r 0)),
                  p (.mov (.v 0)),
                  p (.mov (.v 5)),
                  p (.iad 1 (.r 1) (.r 0)),
                  p (.load (none) (.r 0)),
                  p (.len false (.r 0)),
                  p (.mnx false (.r 0) [.k (.int .i64 300)]),
                  p (.slc 1 (.r 6) none (some (.r 0)) none),
                  p (.iad 1 (.r 12) (.r 11)),
                  p (.store (none) (.r 0) (.r 1))] [(0, .v 0), (1, .v 1), (14, .v 14), (15, .v 15)])))
            (.reg false [p (.bin .add (.v 15) (.k (.int .i64 1))),
              p (.mov (.r 0))] [(0, .v 0), (1, .v 1), (14, .v 14), (15, .r 0)])))))))
  (.frz
  (.seq
    (.reg false [p (.call true (.k (.fn 17 [] [])) []),
      p (.mov (.r 0)),
      ⟨.mov (.v 0), some (0, true), []⟩,
      ⟨.call true (.k (.fn 25 [] [])) [.r 0], some (1, true), []⟩,
      ⟨.mov (.v 0), some (2, true), []⟩,
      ⟨.call true (.k (.fn 26 [] [])) [.r 0], some (3, true), []⟩,
      ⟨.bin .eql (.r 2) (.r 0), some (4, true), []⟩,
      p (.pick (.r 5) (.r 0) (.k (.bool false))),
      p (.mov (.r 0)),
      ⟨.mov (.v 1), some (0, true), []⟩,
      ⟨.mov (.v 0), some (1, true), []⟩,
      ⟨.call true (.k (.fn 23 [] [])) [.r 1, .r 0], some (2, true), []⟩,
      ⟨.mov (.v 1), some (3, true), []⟩,
      ⟨.mov (.v 0), some (4, true), []⟩,
      ⟨.call true (.k (.fn 27 [] [])) [.r 1, .r 0], some (5, true), []⟩,
      ⟨.bin .eql (.r 3) (.r 0), some (6, true), []⟩,
      p (.pick (.r 7) (.r 0) (.k (.bool false))),
      p (.mov (.r 0))] [(4, .r 0)])
    .ret)))))
def r7 : List RV := [.t 4]
theorem chk7 : ∃ c0, Try.f7.body = some c0 ∧ chkC Try.prog Try.f7.ntmps c0 c7 = true ∧ chkRes Try.prog Try.f7.results.toList r7 = true := ⟨_, rfl, by kernel_rfl, by kernel_rfl⟩

theorem en7 {vs : List V} {r : V} (hlen : vs.length ≤ 50) (hcl : closedL vs = true) (h : evX Try.prog c7 (argsE 0 vs) ⟨0, fun _ => none⟩ (Fin r7 r)) : PCall Try.prog 7 vs r := by
  obtain ⟨c0, h1, h2, h3⟩ := chk7
  exact enterP (P := Try.prog) (f := 7) (by kernel_rfl) Try.func7 h1 (by kernel_rfl) h2 h3 hlen hcl (ofX h)

/-- `penelope/penelopelaw05.BitsCounts` -/
def c8 : C :=
  (.seq
    (.reg false [p (.mov (.k (.bool false)))] [(0, .v 0), (1, .v 1)])
  (.seq
    (.reg false [p (.mov (.v 0)),
      p (.mov (.v 0)),
      p (.len false (.r 0)),
      p (.mnx false (.r 0) [.k (.int .i64 300)]),
      p (.slc 1 (.r 3) none (some (.r 0)) none),
      p (.mov (.r 0))] [(0, .r 0), (1, .v 1)])
  (.seq
    (.reg false [p (.mov (.v 0)),
      p (.bsl 1 [.r 0]),
      p (.call true (.k (.fn 25 [] [])) [.r 0]),
      p (.mov (.r 0))] [(0, .v 0), (1, .v 1), (5, .r 0)])
  (.seq
    (.reg false [p (.mov (.v 0)),
      p (.bsl 1 [.r 0]),
      p (.call true (.k (.fn 23 [] [])) [.k (.int .i64 0), .r 0]),
      p (.mov (.r 0))] [(0, .v 0), (1, .v 1), (5, .v 5), (6, .r 0)])
  (.seq
    (.seq
      (.reg false [p (.mov (.v 0)),
        p (.len false (.r 0)),
        p (.bin .eql (.r 0) (.k (.int .i64 0)))] [(0, .v 0), (1, .v 1), (5, .v 5), (6, .v 6), (26, .r 0)])
      (.cond (.v 26)
        (.seq
          (.reg false [p (.call true (.k (.fn 17 [] [])) []),
            p (.mov (.r 0)),
            ⟨.mov (.v 5), some (0, true), []⟩,
            ⟨.bin .eql (.r 0) (.k (.int .i64 0)), some (1, true), []⟩,
            p (.pick (.r 2) (.r 0) (.k (.bool false))),
            p (.mov (.r 0)),
            ⟨.mov (.v 6), some (0, true), []⟩,
            ⟨.bin .eql (.r 0) (.k (.int .i64 (-1))), some (1, true), []⟩,
            p (.pick (.r 2) (.r 0) (.k (.bool false))),
            p (.mov (.r 0))] [(4, .r 0)])
          .ret)
        .skip))
  (.seq
    (.reg false [p (.mov (.v 1)),
      p (.mov (.v 0)),
      p (.len false (.r 0)),
      p (.bin .rem (.r 2) (.r 0)),
      p (.mov (.v 0)),
      p (.len false (.r 0)),
      p (.bin .add (.r 2) (.r 0)),
      p (.mov (.v 0)),
      p (.len false (.r 0)),
      p (.bin .rem (.r 2) (.r 0)),
      p (.mov (.r 0))] [(0, .v 0), (1, .r 0), (5, .v 5), (6, .v 6)])
  (.seq
    (.reg false [p (.mov (.v 0)),
      p (.mov (.v 1)),
      p (.bsl 1 [.r 0]),
      p (.call true (.k (.fn 21 [] [])) [.r 2, .k (.bool true), .r 0]),
      p (.mov (.r 0)),
      p (.ext (.r 0) 0),
      p (.ext (.r 1) 1),
      p (.mov (.r 1)),
      p (.mov (.r 1))] [(0, .v 0), (1, .v 1), (5, .v 5), (6, .v 6), (7, .r 1), (8, .r 0)])
  (.seq
    (.reg false [p (.mov (.v 0)),
      p (.mov (.v 1)),
      p (.bsl 1 [.r 0]),
      p (.call true (.k (.fn 21 [] [])) [.r 2, .k (.bool false), .r 0]),
      p (.mov (.r 0)),
      p (.ext (.r 0) 0),
      p (.ext (.r 1) 1),
      p (.mov (.r 1)),
      p (.mov (.r 1))] [(0, .v 0), (5, .v 5), (6, .v 6), (7, .v 7), (8, .v 8), (9, .r 1), (10, .r 0)])
  (.seq
    (.seq
      (.reg false [p (.mov (.v 8)),
        p (.bin .neq (.r 0) (.k (.int .i64 0))),
        p (.mov (.r 0)),
        ⟨.mov (.v 10), some (0, false), []⟩,
        ⟨.bin .neq (.r 0) (.k (.int .i64 0)), some (1, false), []⟩,
        p (.pick (.r 2) (.k (.bool true)) (.r 0)),
        p (.mov (.r 0)),
        ⟨.mov (.v 7), some (0, false), []⟩,
        ⟨.bsl 1 [.r 0], some (1, false), []⟩,
        ⟨.call true (.k (.fn 25 [] [])) [.r 0], some (2, false), []⟩,
        ⟨.mov (.v 9), some (3, false), []⟩,
        ⟨.bsl 1 [.r 0], some (4, false), []⟩,
        ⟨.call true (.k (.fn 25 [] [])) [.r 0], some (5, false), []⟩,
        ⟨.bin .add (.r 0) (.k (.int .i64 1)), some (6, false), []⟩,
        ⟨.bin .neq (.r 4) (.r 0), some (7, false), []⟩,
        p (.pick (.r 8) (.k (.bool true)) (.r 0)),
        p (.mov (.r 0)),
        ⟨.mov (.v 0), some (0, false), []⟩,
        ⟨.mov (.v 9), some (1, false), []⟩,
        ⟨.bsl 1 [.r 1, .r 0], some (2, false), []⟩,
        ⟨.call true (.k (.fn 25 [] [])) [.r 0], some (3, false), []⟩,
        ⟨.mov (.v 9), some (4, false), []⟩,
        ⟨.bsl 1 [.r 0], some (5, false), []⟩,
        ⟨.call true (.k (.fn 25 [] [])) [.r 0], some (6, false), []⟩,
        ⟨.bin .neq (.r 3) (.r 0), some (7, false), []⟩,
        p (.pick (.r 8) (.k (.bool true)) (.r 0)),
        p (.mov (.r 0)),
        ⟨.call true (.k (.fn 17 [] [])) [], some (0, false), []⟩,
        ⟨.un .not (.r 0), some (1, false), []⟩,
        p (.pick (.r 2) (.k (.bool true)) (.r 0))] [(0, .v 0), (5, .v 5), (6, .v 6), (89, .r 0)])
      (.cond (.v 89)
        (.seq
          (.reg false [p (.mov (.k (.bool false)))] [(4, .r 0)])
          .ret)
        .skip))
  (.seq
    (.seq
      (.reg false [p (.mov (.v 0)),
        p (.len false (.r 0)),
        p (.mov (.k (.int .i64 0)))] [(0, .v 0), (5, .v 5), (6, .v 6), (90, .r 2), (91, .r 1), (92, .r 0)])
      (.block 0
        (.loop
          (.seq
            (.reg false [p (.bin .lss (.v 92) (.v 91))] [(0, .v 0), (5, .v 5), (6, .v 6), (90, .v 90), (91, .v 91), (92, .v 92), (93, .r 0)])
          (.seq
            (.cond (.v 93)
              .skip
              (.exit 0))
          (.seq
            (.block 1
              (.seq
                (.reg false [p (.mov (.v 92)),
                  p (.iad 1 (.v 90) (.v 92)),
                  p (.load (none) (.r 0)),
                  p (.mov (.r 2)),
                  p (.mov (.r 1))] [(0, .v 0), (5, .v 5), (6, .v 6), (11, .r 1), (12, .r 0), (90, .v 90), (91, .v 91), (92, .v 92)])
              (.seq
                (.reg false [p (.mov (.v 12)),
                  p (.un .not (.r 0))] [(0, .v 0), (5, .v 5), (6, .v 6), (11, .v 11), (90, .v 90), (91, .v 91), (92, .v 92), (98, .r 0)])
                (.cond (.v 98)
                  (.seq
                    (.reg false [p (.mov (.v 6)),
                      p (.mov (.v 11)),
                      p (.bin .eql (.r 1) (.r 0)),
                      p (.mov (.r 0))] [(4, .r 0)])
                    .ret)
                  .skip))))
            (.reg false [p (.bin .add (.v 92) (.k (.int .i64 1))),
              p (.mov (.r 0))] [(0, .v 0), (5, .v 5), (6, .v 6), (90, .v 90), (91, .v 91), (92, .r 0)])))))))
  (.frz
  (.seq
    (.reg false [p (.mov (.v 6)),
      p (.bin .eql (.r 0) (.k (.int .i64 (-1)))),
      p (.mov (.r 0)),
      ⟨.mov (.v 5), some (0, true), []⟩,
      ⟨.mov (.v 0), some (1, true), []⟩,
      ⟨.len false (.r 0), some (2, true), []⟩,
      ⟨.bin .eql (.r 2) (.r 0), some (3, true), []⟩,
      p (.pick (.r 4) (.r 0) (.k (.bool false))),
      p (.mov (.r 0))] [(4, .r 0)])
    .ret))))))))))))
def r8 : List RV := [.t 4]
theorem chk8 : ∃ c0, Try.f8.body = some c0 ∧ chkC Try.prog Try.f8.ntmps c0 c8 = true ∧ chkRes Try.prog Try.f8.results.toList r8 = true := ⟨_, rfl, by kernel_rfl, by kernel_rfl⟩

theorem en8 {vs : List V} {r : V} (hlen : vs.length ≤ 111) (hcl : closedL vs = true) (h : evX Try.prog c8 (argsE 0 vs) ⟨0, fun _ => none⟩ (Fin r8 r)) : PCall Try.prog 8 vs r := by
  obtain ⟨c0, h1, h2, h3⟩ := chk8
  exact enterP (P := Try.prog) (f := 8) (by kernel_rfl) Try.func8 h1 (by kernel_rfl) h2 h3 hlen hcl (ofX h)

/-- `penelope/peneloperef05.Count` -/
def c26 : C :=
  (.seq
    (.reg false [p (.mov (.k (.int .i64 0)))] [(0, .v 0)])
  (.seq
    (.reg false [p (.mov (.k (.int .i64 0)))] [(0, .v 0), (3, .r 0)])
  (.seq
    (.seq
      (.reg false [p (.mov (.k (.int .i64 0)))] [(0, .v 0), (3, .v 3), (4, .r 0)])
      (.block 0
        (.loop
          (.seq
            (.seq
              (.reg false [p (.mov (.v 4)),
                p (.mov (.v 0)),
                p (.call true (.k (.fn 49 [] [])) [.r 0]),
                p (.bin .lss (.r 2) (.r 0))] [(0, .v 0), (3, .v 3), (4, .v 4), (8, .r 0)])
              (.cond (.v 8)
                .skip
                (.exit 0)))
          (.seq
            (.block 1
              (.seq
                (.reg false [p (.mov (.v 0)),
                  p (.mov (.v 4)),
                  p (.call true (.k (.fn 50 [] [])) [.r 1, .r 0]),
                  p (.mov (.v 0)),
                  p (.len false (.r 0)),
                  p (.bin .eql (.r 2) (.r 0))] [(0, .v 0), (3, .v 3), (4, .v 4), (16, .r 0)])
                (.cond (.v 16)
                  (.reg false [p (.mov (.v 3)),
                    p (.bin .add (.r 0) (.k (.int .i64 1))),
                    p (.mov (.r 0))] [(0, .v 0), (3, .r 0), (4, .v 4)])
                  .skip)))
            (.reg false [p (.mov (.v 4)),
              p (.bin .add (.r 0) (.k (.int .i64 1))),
              p (.mov (.r 0))] [(0, .v 0), (3, .v 3), (4, .r 0)]))))))
  (.frz
  (.seq
    (.reg false [p (.mov (.v 3)),
      p (.mov (.r 0))] [(2, .r 0)])
    .ret)))))
def r26 : List RV := [.t 2]
theorem chk26 : ∃ c0, Try.f26.body = some c0 ∧ chkC Try.prog Try.f26.ntmps c0 c26 = true ∧ chkRes Try.prog Try.f26.results.toList r26 = true := ⟨_, rfl, by kernel_rfl, by kernel_rfl⟩

theorem en26 {vs : List V} {r : V} (hlen : vs.length ≤ 20) (hcl : closedL vs = true) (h : evX Try.prog c26 (argsE 0 vs) ⟨0, fun _ => none⟩ (Fin r26 r)) : PCall Try.prog 26 vs r := by
  obtain ⟨c0, h1, h2, h3⟩ := chk26
  exact enterP (P := Try.prog) (f := 26) (by kernel_rfl) Try.func26 h1 (by kernel_rfl) h2 h3 hlen hcl (ofX h)

/-- `penelope/peneloperef05.First` -/
def c27 : C :=
  (.seq
    (.reg false [p (.mov (.k (.int .i64 0)))] [(0, .v 0), (1, .v 1)])
  (.seq
    (.seq
      (.reg false [p (.mov (.k (.int .i64 0)))] [(0, .v 0), (1, .v 1), (5, .r 0)])
      (.block 0
        (.loop
          (.seq
            (.seq
              (.reg false [p (.mov (.v 5)),
                p (.mov (.v 1)),
                p (.call true (.k (.fn 49 [] [])) [.r 0]),
                p (.bin .lss (.r 2) (.r 0))] [(0, .v 0), (1, .v 1), (5, .v 5), (9, .r 0)])
              (.cond (.v 9)
                .skip
                (.exit 0)))
          (.seq
            (.block 1
              (.seq
                (.reg false [p (.mov (.v 5)),
                  p (.mov (.v 0)),
                  p (.bin .geq (.r 1) (.r 0)),
                  p (.mov (.r 0)),
                  ⟨.mov (.v 1), some (0, true), []⟩,
                  ⟨.mov (.v 5), some (1, true), []⟩,
                  ⟨.call true (.k (.fn 50 [] [])) [.r 1, .r 0], some (2, true), []⟩,
                  ⟨.bin .eql (.r 0) (.k (.int .i64 0)), some (3, true), []⟩,
                  p (.pick (.r 4) (.r 0) (.k (.bool false)))] [(0, .v 0), (1, .v 1), (5, .v 5), (20, .r 0)])
                (.cond (.v 20)
                  (.seq
                    (.reg false [p (.mov (.v 5)),
                      p (.mov (.r 0))] [(4, .r 0)])
                    .ret)
                  .skip)))
            (.reg false [p (.mov (.v 5)),
              p (.bin .add (.r 0) (.k (.int .i64 1))),
              p (.mov (.r 0))] [(0, .v 0), (1, .v 1), (5, .r 0)]))))))
  (.frz
  (.seq
    (.reg false [p (.mov (.k (.int .i64 (-1))))] [(4, .r 0)])
    .ret))))
def r27 : List RV := [.t 4]
theorem chk27 : ∃ c0, Try.f27.body = some c0 ∧ chkC Try.prog Try.f27.ntmps c0 c27 = true ∧ chkRes Try.prog Try.f27.results.toList r27 = true := ⟨_, rfl, by kernel_rfl, by kernel_rfl⟩

theorem en27 {vs : List V} {r : V} (hlen : vs.length ≤ 22) (hcl : closedL vs = true) (h : evX Try.prog c27 (argsE 0 vs) ⟨0, fun _ => none⟩ (Fin r27 r)) : PCall Try.prog 27 vs r := by
  obtain ⟨c0, h1, h2, h3⟩ := chk27
  exact enterP (P := Try.prog) (f := 27) (by kernel_rfl) Try.func27 h1 (by kernel_rfl) h2 h3 hlen hcl (ofX h)

/-- `penelope/peneloperef05.Longest` -/
def c49 : C :=
  (.seq
    (.reg false [p (.mov (.k (.int .i64 0)))] [(0, .v 0)])
  (.seq
    (.reg false [p (.mov (.k (.int .i64 0)))] [(0, .v 0), (3, .r 0)])
  (.seq
    (.seq
      (.reg false [p (.mov (.v 0)),
        p (.len false (.r 0)),
        p (.mov (.k (.int .i64 0)))] [(3, .v 3), (6, .r 2), (7, .r 1), (8, .r 0)])
      (.block 0
        (.loop
          (.seq
            (.reg false [p (.bin .lss (.v 8) (.v 7))] [(3, .v 3), (6, .v 6), (7, .v 7), (8, .v 8), (9, .r 0)])
          (.seq
            (.cond (.v 9)
              .skip
              (.exit 0))
          (.seq
            (.block 1
              (.seq
                (.reg false [p (.iad 1 (.v 6) (.v 8)),
                  p (.load (none) (.r 0)),
                  p (.mov (.r 0))] [(3, .v 3), (5, .r 0), (6, .v 6), (7, .v 7), (8, .v 8)])
              (.seq
                (.reg false [p (.mov (.v 5)),
                  p (.len false (.r 0)),
                  p (.mov (.v 3)),
                  p (.bin .gtr (.r 1) (.r 0))] [(3, .v 3), (5, .v 5), (6, .v 6), (7, .v 7), (8, .v 8), (15, .r 0)])
                (.cond (.v 15)
                  (.reg false [p (.mov (.v 5)),
                    p (.len false (.r 0)),
                    p (.mov (.r 0))] [(3, .r 0), (6, .v 6), (7, .v 7), (8, .v 8)])
                  .skip))))
            (.reg false [p (.bin .add (.v 8) (.k (.int .i64 1))),
              p (.mov (.r 0))] [(3, .v 3), (6, .v 6), (7, .v 7), (8, .r 0)])))))))
  (.frz
  (.seq
    (.reg false [p (.mov (.v 3)),
      p (.mov (.r 0))] [(2, .r 0)])
    .ret)))))
def r49 : List RV := [.t 2]
theorem chk49 : ∃ c0, Try.f49.body = some c0 ∧ chkC Try.prog Try.f49.ntmps c0 c49 = true ∧ chkRes Try.prog Try.f49.results.toList r49 = true := ⟨_, rfl, by kernel_rfl, by kernel_rfl⟩

theorem en49 {vs : List V} {r : V} (hlen : vs.length ≤ 20) (hcl : closedL vs = true) (h : evX Try.prog c49 (argsE 0 vs) ⟨0, fun _ => none⟩ (Fin r49 r)) : PCall Try.prog 49 vs r := by
  obtain ⟨c0, h1, h2, h3⟩ := chk49
  exact enterP (P := Try.prog) (f := 49) (by kernel_rfl) Try.func49 h1 (by kernel_rfl) h2 h3 hlen hcl (ofX h)

/-- `penelope/peneloperef05.How` -/
def c50 : C :=
  (.seq
    (.reg false [p (.mov (.k (.int .i64 0)))] [(0, .v 0), (1, .v 1)])
  (.seq
    (.reg false [p (.mov (.k (.int .i64 0)))] [(0, .v 0), (1, .v 1), (5, .r 0)])
  (.seq
    (.seq
      (.reg false [p (.mov (.v 0)),
        p (.len false (.r 0)),
        p (.mov (.k (.int .i64 0)))] [(1, .v 1), (5, .v 5), (8, .r 2), (9, .r 1), (10, .r 0)])
      (.block 0
        (.loop
          (.seq
            (.reg false [p (.bin .lss (.v 10) (.v 9))] [(1, .v 1), (5, .v 5), (8, .v 8), (9, .v 9), (10, .v 10), (11, .r 0)])
          (.seq
            (.cond (.v 11)
              .skip
              (.exit 0))
          (.seq
            (.block 1
              (.seq
                (.reg false [p (.iad 1 (.v 8) (.v 10)),
                  p (.load (none) (.r 0)),
                  p (.mov (.r 0))] [(1, .v 1), (5, .v 5), (7, .r 0), (8, .v 8), (9, .v 9), (10, .v 10)])
              (.seq
                (.reg false [p (.mov (.v 7)),
                  p (.mov (.v 1)),
                  p (.call true (.k (.fn 42 [] [])) [.r 1, .r 0])] [(1, .v 1), (5, .v 5), (8, .v 8), (9, .v 9), (10, .v 10), (16, .r 0)])
                (.cond (.v 16)
                  (.reg false [p (.mov (.v 5)),
                    p (.bin .add (.r 0) (.k (.int .i64 1))),
                    p (.mov (.r 0))] [(1, .v 1), (5, .r 0), (8, .v 8), (9, .v 9), (10, .v 10)])
                  .skip))))
            (.reg false [p (.bin .add (.v 10) (.k (.int .i64 1))),
              p (.mov (.r 0))] [(1, .v 1), (5, .v 5), (8, .v 8), (9, .v 9), (10, .r 0)])))))))
  (.frz
  (.seq
    (.reg false [p (.mov (.v 5)),
      p (.mov (.r 0))] [(4, .r 0)])
    .ret)))))
def r50 : List RV := [.t 4]
theorem chk50 : ∃ c0, Try.f50.body = some c0 ∧ chkC Try.prog Try.f50.ntmps c0 c50 = true ∧ chkRes Try.prog Try.f50.results.toList r50 = true := ⟨_, rfl, by kernel_rfl, by kernel_rfl⟩

theorem en50 {vs : List V} {r : V} (hlen : vs.length ≤ 21) (hcl : closedL vs = true) (h : evX Try.prog c50 (argsE 0 vs) ⟨0, fun _ => none⟩ (Fin r50 r)) : PCall Try.prog 50 vs r := by
  obtain ⟨c0, h1, h2, h3⟩ := chk50
  exact enterP (P := Try.prog) (f := 50) (by kernel_rfl) Try.func50 h1 (by kernel_rfl) h2 h3 hlen hcl (ofX h)


end Go.Proofs.Ytickdhdlljhomaa.Ev
