/-
  The program's code in compact form, with its checks.
-/
import Derived.Test.YtickdhdlljhomaaBC3
import Derived.Test.YtickdhdlljhomaaProg
import Derived.KernelRfl
set_option linter.unusedSimpArgs false
namespace Go.Proofs.Ytickdhdlljhomaa.Ev
open Go
/-- `penelope/alloc.New` -/
def c28 : C :=
  (.seq
    (.reg false [p (.alloc 2 (.agg [.fsl .nil 1 [], .fsl .nil 1 []])),
      p (.mov (.k (.int .i64 0)))] [(0, .v 0), (2, .r 1)])
  (.seq
    (.seq
      (.reg false [p (.mov (.v 0)),
        p (.bin .lss (.r 0) (.k (.int .i64 24))),
        p (.mov (.r 0)),
        ⟨.mov (.v 0), some (0, false), []⟩,
        ⟨.bin .gtr (.r 0) (.k (.int .i64 2048)), some (1, false), []⟩,
        p (.pick (.r 2) (.k (.bool true)) (.r 0))] [(0, .v 0), (2, .v 2), (11, .r 0)])
      (.cond (.v 11)
        (.seq
          (.reg false [p (.build [.fsl .nil 1 [], .fsl .nil 1 []] []),
            p (.store (some 2) (.v 2) (.r 0)),
            p (.mov (.k (.int .i64 1)))] [(2, .v 2), (3, .r 0)])
          .ret)
        .skip))
  (.seq
    (.reg false [p (.mov (.v 0)),
      p (.mks 1 1 (.bool false) (.r 0)),
      p (.mov (.r 0))] [(2, .v 2), (4, .r 0)])
  (.seq
    (.seq
      (.reg false [p (.mov (.k (.int .i64 0)))] [(2, .v 2), (4, .v 4), (15, .r 0)])
      (.block 0
        (.loop
          (.seq
            (.reg false [p (.bin .lss (.v 15) (.k (.int .i64 10)))] [(2, .v 2), (4, .v 4), (15, .v 15), (16, .r 0)])
          (.seq
            (.cond (.v 16)
              .skip
              (.exit 0))
          (.seq
            (.block 1
              (.seq
                (.reg false [p (.mov (.v 15)),
                  p (.mov (.r 0))] [(2, .v 2), (4, .v 4), (5, .r 0), (15, .v 15)])
                (.reg false [p (.mov (.v 4)),
                  p (.mov (.v 5)),
                  p (.iad 1 (.r 1) (.r 0)),
                  p (.store (none) (.r 0) (.k (.bool true)))] [(2, .v 2), (4, .v 4), (15, .v 15)])))
            (.reg false [p (.bin .add (.v 15) (.k (.int .i64 1))),
              p (.mov (.r 0))] [(2, .v 2), (4, .v 4), (15, .r 0)])))))))
  (.frz
  (.seq
    (.reg false [p (.mov (.v 4)),
      p (.mov (.v 4)),
      p (.call false (.k (.fn 43 [] [])) [.r 0]),
      p (.build [.fsl .nil 1 [], .fsl .nil 1 []] [(0, 1, .r 2), (1, 1, .r 0)]),
      p (.store (some 2) (.v 2) (.r 0)),
      p (.mov (.k (.int .i64 0)))] [(2, .v 2), (3, .r 0)])
    .ret))))))
def r28 : List RV := [.c 2 (some 2), .t 3]
theorem chk28 : ∃ c0, Try.f28.body = some c0 ∧ chkC Try.prog Try.f28.ntmps c0 c28 = true ∧ chkRes Try.prog Try.f28.results.toList r28 = true := ⟨_, rfl, by kernel_rfl, by kernel_rfl⟩

theorem en28 {vs : List V} {r : V} (hlen : vs.length ≤ 26) (hcl : closedL vs = true) (h : evX Try.prog c28 (argsE 0 vs) ⟨0, fun _ => none⟩ (Fin r28 r)) : PCall Try.prog 28 vs r := by
  obtain ⟨c0, h1, h2, h3⟩ := chk28
  exact enterP (P := Try.prog) (f := 28) (by kernel_rfl) Try.func28 h1 (by kernel_rfl) h2 h3 hlen hcl (ofX h)

/-- `penelope/alloc.Right` -/
def c32 : C :=
  (.seq
    (.reg false [p (.box 2 (.v 0)),
      p (.mov (.k (.bool false)))] [(1, .r 1)])
  (.seq
    (.reg false [p (.fad 1 (.v 1)),
      p (.load (none) (.r 0)),
      p (.len false (.r 0)),
      p (.mov (.r 0))] [(1, .v 1), (3, .r 0)])
  (.seq
    (.seq
      (.reg false [p (.fad 0 (.v 1)),
        p (.load (none) (.r 0)),
        p (.len false (.r 0)),
        p (.mov (.v 3)),
        p (.bin .neq (.r 1) (.r 0)),
        p (.mov (.r 0)),
        ⟨.mov (.v 3), some (0, false), []⟩,
        ⟨.bin .lss (.r 0) (.k (.int .i64 24)), some (1, false), []⟩,
        p (.pick (.r 2) (.k (.bool true)) (.r 0)),
        p (.mov (.r 0)),
        ⟨.mov (.v 3), some (0, false), []⟩,
        ⟨.bin .gtr (.r 0) (.k (.int .i64 2048)), some (1, false), []⟩,
        p (.pick (.r 2) (.k (.bool true)) (.r 0))] [(1, .v 1), (19, .r 0)])
      (.cond (.v 19)
        (.seq
          (.reg false [p (.mov (.k (.bool false)))] [(2, .r 0)])
          .ret)
        .skip))
  (.seq
    (.reg true [p (.fad 0 (.v 1)),
      p (.load (none) (.r 0)),
      p (.slc 1 (.r 0) none (some (.k (.int .i64 10))) none),
      p (.fad 1 (.v 1)),
      p (.load (none) (.r 0)),
      p (.slc 1 (.r 0) none (some (.k (.int .i64 10))) none),
      p (.bsl 1 [.r 3, .r 0]),
      p (.call true (.k (.fn 25 [] [])) [.r 0]),
      p (.bin .eql (.r 0) (.k (.int .i64 10))),
      p (.mov (.r 0))] [(2, .r 0)])
    .ret))))
def r32 : List RV := [.t 2]
theorem chk32 : ∃ c0, Try.f32.body = some c0 ∧ chkC Try.prog Try.f32.ntmps c0 c32 = true ∧ chkRes Try.prog Try.f32.results.toList r32 = true := ⟨_, rfl, by kernel_rfl, by kernel_rfl⟩

theorem en32 {vs : List V} {r : V} (hlen : vs.length ≤ 29) (hcl : closedL vs = true) (h : evX Try.prog c32 (argsE 0 vs) ⟨0, fun _ => none⟩ (Fin r32 r)) : PCall Try.prog 32 vs r := by
  obtain ⟨c0, h1, h2, h3⟩ := chk32
  exact enterP (P := Try.prog) (f := 32) (by kernel_rfl) Try.func32 h1 (by kernel_rfl) h2 h3 hlen hcl (ofX h)

/-- `penelope/alloc.Free` -/
def c34 : C :=
  (.seq
    (.reg false [p (.box 2 (.v 0)),
      p (.mov (.k (.int .i64 0)))] [(1, .r 1)])
  (.seq
    (.seq
      (.reg false [p (.load (some 2) (.v 1)),
        p (.call true (.k (.fn 32 [] [])) [.r 0]),
        p (.un .not (.r 0))] [(1, .v 1), (8, .r 0)])
      (.cond (.v 8)
        (.seq
          (.reg false [p (.mov (.k (.int .i64 0)))] [(2, .r 0)])
          .ret)
        .skip))
  (.seq
    (.reg false [p (.mov (.k (.int .i64 0)))] [(1, .v 1), (3, .r 0)])
  (.seq
    (.seq
      (.reg false [p (.fad 1 (.v 1)),
        p (.load (none) (.r 0)),
        p (.len false (.r 0)),
        p (.mov (.k (.int .i64 0)))] [(1, .v 1), (3, .v 3), (10, .r 2), (11, .r 1), (12, .r 0)])
      (.block 0
        (.loop
          (.seq
            (.reg false [p (.bin .lss (.v 12) (.v 11))] [(1, .v 1), (3, .v 3), (10, .v 10), (11, .v 11), (12, .v 12), (13, .r 0)])
          (.seq
            (.cond (.v 13)
              .skip
              (.exit 0))
          (.seq
            (.block 1
              (.seq
                (.reg false [p (.mov (.v 12)),
                  p (.iad 1 (.v 10) (.v 12)),
                  p (.load (none) (.r 0)),
                  p (.mov (.r 2)),
                  p (.mov (.r 1))] [(1, .v 1), (3, .v 3), (4, .r 1), (5, .r 0), (10, .v 10), (11, .v 11), (12, .v 12)])
              (.seq
                (.reg false [p (.mov (.v 5)),
                  p (.un .not (.r 0)),
                  p (.mov (.r 0)),
                  ⟨.fad 0 (.v 1), some (0, true), []⟩,
                  ⟨.load (none) (.r 0), some (1, true), []⟩,
                  ⟨.mov (.v 4), some (2, true), []⟩,
                  ⟨.iad 1 (.r 1) (.r 0), some (3, true), []⟩,
                  ⟨.load (none) (.r 0), some (4, true), []⟩,
                  ⟨.un .not (.r 0), some (5, true), []⟩,
                  p (.pick (.r 6) (.r 0) (.k (.bool false)))] [(1, .v 1), (3, .v 3), (10, .v 10), (11, .v 11), (12, .v 12), (26, .r 0)])
                (.cond (.v 26)
                  (.reg false [p (.mov (.v 3)),
                    p (.bin .add (.r 0) (.k (.int .i64 1))),
                    p (.mov (.r 0))] [(1, .v 1), (3, .r 0), (10, .v 10), (11, .v 11), (12, .v 12)])
                  .skip))))
            (.reg false [p (.bin .add (.v 12) (.k (.int .i64 1))),
              p (.mov (.r 0))] [(1, .v 1), (3, .v 3), (10, .v 10), (11, .v 11), (12, .r 0)])))))))
  (.frz
  (.seq
    (.reg false [p (.mov (.v 3)),
      p (.mov (.r 0))] [(2, .r 0)])
    .ret))))))
def r34 : List RV := [.t 2]
theorem chk34 : ∃ c0, Try.f34.body = some c0 ∧ chkC Try.prog Try.f34.ntmps c0 c34 = true ∧ chkRes Try.prog Try.f34.results.toList r34 = true := ⟨_, rfl, by kernel_rfl, by kernel_rfl⟩

theorem en34 {vs : List V} {r : V} (hlen : vs.length ≤ 31) (hcl : closedL vs = true) (h : evX Try.prog c34 (argsE 0 vs) ⟨0, fun _ => none⟩ (Fin r34 r)) : PCall Try.prog 34 vs r := by
  obtain ⟨c0, h1, h2, h3⟩ := chk34
  exact enterP (P := Try.prog) (f := 34) (by kernel_rfl) Try.func34 h1 (by kernel_rfl) h2 h3 hlen hcl (ofX h)

/-- `penelope/alloc.Take` -/
def c36 : C :=
  (.seq
    (.reg false [p (.box 2 (.v 0)),
      p (.alloc 2 (.agg [.fsl .nil 1 [], .fsl .nil 1 []])),
      p (.mov (.k (.int .i64 0))),
      p (.mov (.k (.int .i64 0)))] [(1, .r 3), (2, .r 2)])
  (.seq
    (.seq
      (.reg false [p (.load (some 2) (.v 1)),
        p (.call true (.k (.fn 32 [] [])) [.r 0]),
        p (.un .not (.r 0))] [(1, .v 1), (2, .v 2), (10, .r 0)])
      (.cond (.v 10)
        (.seq
          (.reg false [p (.build [.fsl .nil 1 [], .fsl .nil 1 []] []),
            p (.store (some 2) (.v 2) (.r 0)),
            p (.mov (.k (.int .i64 0))),
            p (.mov (.k (.int .i64 1)))] [(2, .v 2), (3, .r 1), (4, .r 0)])
          .ret)
        .skip))
  (.seq
    (.reg false [p (.fad 0 (.v 1)),
      p (.load (none) (.r 0)),
      p (.fad 1 (.v 1)),
      p (.load (none) (.r 0)),
      p (.bsl 1 [.r 2, .r 0]),
      p (.call true (.k (.fn 23 [] [])) [.k (.int .i64 0), .r 0]),
      p (.mov (.r 0))] [(1, .v 1), (2, .v 2), (5, .r 0)])
  (.seq
    (.seq
      (.reg false [p (.mov (.v 5)),
        p (.bin .lss (.r 0) (.k (.int .i64 0)))] [(1, .v 1), (2, .v 2), (5, .v 5), (19, .r 0)])
      (.cond (.v 19)
        (.seq
          (.reg false [p (.build [.fsl .nil 1 [], .fsl .nil 1 []] []),
            p (.store (some 2) (.v 2) (.r 0)),
            p (.mov (.k (.int .i64 0))),
            p (.mov (.k (.int .i64 60)))] [(2, .v 2), (3, .r 1), (4, .r 0)])
          .ret)
        .skip))
  (.seq
    (.reg false [p (.fad 1 (.v 1)),
      p (.load (none) (.r 0)),
      p (.mov (.v 5)),
      p (.bsl 1 [.r 0]),
      p (.call true (.k (.fn 21 [] [])) [.r 2, .k (.bool true), .r 0]),
      p (.mov (.r 0)),
      p (.ext (.r 0) 0),
      p (.ext (.r 1) 1),
      p (.mov (.r 1)),
      p (.mov (.r 1))] [(1, .v 1), (2, .v 2), (5, .v 5), (6, .r 1), (7, .r 0)])
  (.seq
    (.reg false [p (.mov (.v 6)),
      p (.fad 1 (.v 1)),
      p (.store (none) (.r 0) (.r 1))] [(1, .v 1), (2, .v 2), (5, .v 5), (7, .v 7)])
  (.seq
    (.reg false [p (.load (some 2) (.v 1)),
      p (.mov (.v 5)),
      p (.mov (.v 7)),
      p (.store (some 2) (.v 2) (.r 2)),
      p (.mov (.r 2)),
      p (.mov (.r 2))] [(2, .v 2), (3, .r 1), (4, .r 0)])
    .ret)))))))
def r36 : List RV := [.c 2 (some 2), .t 3, .t 4]
theorem chk36 : ∃ c0, Try.f36.body = some c0 ∧ chkC Try.prog Try.f36.ntmps c0 c36 = true ∧ chkRes Try.prog Try.f36.results.toList r36 = true := ⟨_, rfl, by kernel_rfl, by kernel_rfl⟩

theorem en36 {vs : List V} {r : V} (hlen : vs.length ≤ 34) (hcl : closedL vs = true) (h : evX Try.prog c36 (argsE 0 vs) ⟨0, fun _ => none⟩ (Fin r36 r)) : PCall Try.prog 36 vs r := by
  obtain ⟨c0, h1, h2, h3⟩ := chk36
  exact enterP (P := Try.prog) (f := 36) (by kernel_rfl) Try.func36 h1 (by kernel_rfl) h2 h3 hlen hcl (ofX h)

/-- `penelope/alloc.Give` -/
def c37 : C :=
  (.seq
    (.reg false [p (.box 2 (.v 0)),
      p (.alloc 2 (.agg [.fsl .nil 1 [], .fsl .nil 1 []])),
      p (.mov (.k (.int .i64 0)))] [(1, .v 1), (2, .r 2), (4, .r 1)])
  (.seq
    (.seq
      (.reg false [p (.load (some 2) (.v 2)),
        p (.call true (.k (.fn 32 [] [])) [.r 0]),
        p (.un .not (.r 0))] [(1, .v 1), (2, .v 2), (4, .v 4), (11, .r 0)])
      (.cond (.v 11)
        (.seq
          (.reg false [p (.build [.fsl .nil 1 [], .fsl .nil 1 []] []),
            p (.store (some 2) (.v 4) (.r 0)),
            p (.mov (.k (.int .i64 1)))] [(4, .v 4), (5, .r 0)])
          .ret)
        .skip))
  (.seq
    (.reg false [p (.fad 1 (.v 2)),
      p (.load (none) (.r 0)),
      p (.call false (.k (.fn 43 [] [])) [.r 0]),
      p (.mov (.r 0))] [(1, .v 1), (2, .v 2), (4, .v 4), (6, .r 0)])
  (.seq
    (.seq
      (.reg false [p (.mov (.v 1)),
        p (.len false (.r 0)),
        p (.mov (.k (.int .i64 0)))] [(2, .v 2), (4, .v 4), (6, .v 6), (16, .r 2), (17, .r 1), (18, .r 0)])
      (.block 0
        (.loop
          (.seq
            (.reg false [p (.bin .lss (.v 18) (.v 17))] [(2, .v 2), (4, .v 4), (6, .v 6), (16, .v 16), (17, .v 17), (18, .v 18), (19, .r 0)])
          (.seq
            (.cond (.v 19)
              .skip
              (.exit 0))
          (.seq
            (.block 1
              (.seq
                (.reg false [p (.iad 1 (.v 16) (.v 18)),
                  p (.load (none) (.r 0)),
                  p (.mov (.r 0))] [(2, .v 2), (4, .v 4), (6, .v 6), (8, .r 0), (16, .v 16), (17, .v 17), (18, .v 18)])
              (.seq
                (.seq
                  (.reg false [p (.mov (.v 8)),
                    p (.bin .lss (.r 0) (.k (.int .i64 10))),
                    p (.mov (.r 0)),
                    ⟨.mov (.v 8), some (0, false), []⟩,
                    ⟨.mov (.v 6), some (1, false), []⟩,
                    ⟨.len false (.r 0), some (2, false), []⟩,
                    ⟨.bin .geq (.r 2) (.r 0), some (3, false), []⟩,
                    p (.pick (.r 4) (.k (.bool true)) (.r 0)),
                    p (.mov (.r 0)),
                    ⟨.mov (.v 6), some (0, false), []⟩,
                    ⟨.mov (.v 8), some (1, false), []⟩,
                    ⟨.iad 1 (.r 1) (.r 0), some (2, false), []⟩,
                    ⟨.load (none) (.r 0), some (3, false), []⟩,
                    ⟨.un .not (.r 0), some (4, false), []⟩,
                    p (.pick (.r 5) (.k (.bool true)) (.r 0))] [(2, .v 2), (4, .v 4), (6, .v 6), (8, .v 8), (16, .v 16), (17, .v 17), (18, .v 18), (36, .r 0)])
                  (.cond (.v 36)
                    (.seq
                      (.reg false [p (.build [.fsl .nil 1 [], .fsl .nil 1 []] []),
                        p (.store (some 2) (.v 4) (.r 0)),
                        p (.mov (.k (.int .i64 30)))] [(4, .v 4), (5, .r 0)])
                      .ret)
                    .skip))
                (.reg false [p (.mov (.v 6)),
                  p (.mov (.v 8)),
                  p (.iad 1 (.r 1) (.r 0)),
                  p (.store (none) (.r 0) (.k (.bool false)))] [(2, .v 2), (4, .v 4), (6, .v 6), (16, .v 16), (17, .v 17), (18, .v 18)]))))
            (.reg false [p (.bin .add (.v 18) (.k (.int .i64 1))),
              p (.mov (.r 0))] [(2, .v 2), (4, .v 4), (6, .v 6), (16, .v 16), (17, .v 17), (18, .r 0)])))))))
  (.frz
  (.seq
    (.reg false [p (.mov (.v 6)),
      p (.fad 1 (.v 2)),
      p (.store (none) (.r 0) (.r 1))] [(2, .v 2), (4, .v 4)])
  (.seq
    (.reg false [p (.load (some 2) (.v 2)),
      p (.store (some 2) (.v 4) (.r 0)),
      p (.mov (.k (.int .i64 0)))] [(4, .v 4), (5, .r 0)])
    .ret)))))))
def r37 : List RV := [.c 4 (some 2), .t 5]
theorem chk37 : ∃ c0, Try.f37.body = some c0 ∧ chkC Try.prog Try.f37.ntmps c0 c37 = true ∧ chkRes Try.prog Try.f37.results.toList r37 = true := ⟨_, rfl, by kernel_rfl, by kernel_rfl⟩

theorem en37 {vs : List V} {r : V} (hlen : vs.length ≤ 45) (hcl : closedL vs = true) (h : evX Try.prog c37 (argsE 0 vs) ⟨0, fun _ => none⟩ (Fin r37 r)) : PCall Try.prog 37 vs r := by
  obtain ⟨c0, h1, h2, h3⟩ := chk37
  exact enterP (P := Try.prog) (f := 37) (by kernel_rfl) Try.func37 h1 (by kernel_rfl) h2 h3 hlen hcl (ofX h)

/-- `penelope/alloc.Commit` -/
def c39 : C :=
  (.seq
    (.reg false [p (.box 2 (.v 0)),
      p (.alloc 2 (.agg [.fsl .nil 1 [], .fsl .nil 1 []])),
      p (.mov (.k (.int .i64 0)))] [(1, .r 2), (2, .r 1)])
  (.seq
    (.seq
      (.reg false [p (.load (some 2) (.v 1)),
        p (.call true (.k (.fn 32 [] [])) [.r 0]),
        p (.un .not (.r 0))] [(1, .v 1), (2, .v 2), (7, .r 0)])
      (.cond (.v 7)
        (.seq
          (.reg false [p (.build [.fsl .nil 1 [], .fsl .nil 1 []] []),
            p (.store (some 2) (.v 2) (.r 0)),
            p (.mov (.k (.int .i64 1)))] [(2, .v 2), (3, .r 0)])
          .ret)
        .skip))
  (.seq
    (.reg false [p (.fad 1 (.v 1)),
      p (.load (none) (.r 0)),
      p (.len false (.r 0)),
      p (.mks 1 1 (.bool false) (.r 0)),
      p (.mov (.r 0))] [(1, .v 1), (2, .v 2), (4, .r 0)])
  (.frz
  (.seq
    (.reg false [p (.mov (.v 4)),
      p (.fad 1 (.v 1)),
      p (.load (none) (.r 0)),
      p (.cpy 1 (.r 2) (.r 0))] [(1, .v 1), (2, .v 2), (4, .v 4)])
  (.frz
  (.seq
    (.reg false [p (.mov (.v 4)),
      p (.fad 0 (.v 1)),
      p (.store (none) (.r 0) (.r 1))] [(1, .v 1), (2, .v 2)])
  (.seq
    (.reg false [p (.load (some 2) (.v 1)),
      p (.store (some 2) (.v 2) (.r 0)),
      p (.mov (.k (.int .i64 0)))] [(2, .v 2), (3, .r 0)])
    .ret))))))))
def r39 : List RV := [.c 2 (some 2), .t 3]
theorem chk39 : ∃ c0, Try.f39.body = some c0 ∧ chkC Try.prog Try.f39.ntmps c0 c39 = true ∧ chkRes Try.prog Try.f39.results.toList r39 = true := ⟨_, rfl, by kernel_rfl, by kernel_rfl⟩

theorem en39 {vs : List V} {r : V} (hlen : vs.length ≤ 20) (hcl : closedL vs = true) (h : evX Try.prog c39 (argsE 0 vs) ⟨0, fun _ => none⟩ (Fin r39 r)) : PCall Try.prog 39 vs r := by
  obtain ⟨c0, h1, h2, h3⟩ := chk39
  exact enterP (P := Try.prog) (f := 39) (by kernel_rfl) Try.func39 h1 (by kernel_rfl) h2 h3 hlen hcl (ofX h)

/-- `penelope/peneloperef06.Like` -/
def c29 : C :=
  (.seq
    (.reg false [p (.box 2 (.v 0)),
      p (.box 2 (.v 1)),
      p (.mov (.k (.bool false)))] [(2, .r 2), (3, .r 1)])
  (.seq
    (.reg false [p (.fad 0 (.v 2)),
      p (.load (none) (.r 0)),
      p (.fad 0 (.v 3)),
      p (.load (none) (.r 0)),
      p (.call true (.k (.fn 20 [] [])) [.r 2, .r 0]),
      p (.mov (.r 0)),
      ⟨.fad 1 (.v 2), some (0, true), []⟩,
      ⟨.load (none) (.r 0), some (1, true), []⟩,
      ⟨.fad 1 (.v 3), some (2, true), []⟩,
      ⟨.load (none) (.r 0), some (3, true), []⟩,
      ⟨.call true (.k (.fn 20 [] [])) [.r 2, .r 0], some (4, true), []⟩,
      p (.pick (.r 5) (.r 0) (.k (.bool false))),
      p (.mov (.r 0))] [(4, .r 0)])
    .ret))
def r29 : List RV := [.t 4]
theorem chk29 : ∃ c0, Try.f29.body = some c0 ∧ chkC Try.prog Try.f29.ntmps c0 c29 = true ∧ chkRes Try.prog Try.f29.results.toList r29 = true := ⟨_, rfl, by kernel_rfl, by kernel_rfl⟩

theorem en29 {vs : List V} {r : V} (hlen : vs.length ≤ 17) (hcl : closedL vs = true) (h : evX Try.prog c29 (argsE 0 vs) ⟨0, fun _ => none⟩ (Fin r29 r)) : PCall Try.prog 29 vs r := by
  obtain ⟨c0, h1, h2, h3⟩ := chk29
  exact enterP (P := Try.prog) (f := 29) (by kernel_rfl) Try.func29 h1 (by kernel_rfl) h2 h3 hlen hcl (ofX h)

/-- `penelope/peneloperef06.Right` -/
def c33 : C :=
  (.seq
    (.reg false [p (.box 2 (.v 0)),
      p (.mov (.k (.bool false)))] [(1, .r 1)])
  (.seq
    (.seq
      (.reg false [p (.fad 0 (.v 1)),
        p (.load (none) (.r 0)),
        p (.len false (.r 0)),
        p (.fad 1 (.v 1)),
        p (.load (none) (.r 0)),
        p (.len false (.r 0)),
        p (.bin .neq (.r 3) (.r 0)),
        p (.mov (.r 0)),
        ⟨.fad 1 (.v 1), some (0, false), []⟩,
        ⟨.load (none) (.r 0), some (1, false), []⟩,
        ⟨.len false (.r 0), some (2, false), []⟩,
        ⟨.bin .lss (.r 0) (.k (.int .i64 24)), some (3, false), []⟩,
        p (.pick (.r 4) (.k (.bool true)) (.r 0)),
        p (.mov (.r 0)),
        ⟨.fad 1 (.v 1), some (0, false), []⟩,
        ⟨.load (none) (.r 0), some (1, false), []⟩,
        ⟨.len false (.r 0), some (2, false), []⟩,
        ⟨.bin .gtr (.r 0) (.k (.int .i64 2048)), some (3, false), []⟩,
        p (.pick (.r 4) (.k (.bool true)) (.r 0))] [(1, .v 1), (22, .r 0)])
      (.cond (.v 22)
        (.seq
          (.reg false [p (.mov (.k (.bool false)))] [(2, .r 0)])
          .ret)
        .skip))
  (.seq
    (.seq
      (.reg false [p (.mov (.k (.int .i64 0)))] [(1, .v 1), (3, .r 0)])
      (.block 0
        (.loop
          (.seq
            (.seq
              (.reg false [p (.mov (.v 3)),
                p (.bin .lss (.r 0) (.k (.int .i64 10)))] [(1, .v 1), (3, .v 3), (24, .r 0)])
              (.cond (.v 24)
                .skip
                (.exit 0)))
          (.seq
            (.block 1
              (.seq
                (.reg false [p (.fad 0 (.v 1)),
                  p (.load (none) (.r 0)),
                  p (.mov (.v 3)),
                  p (.iad 1 (.r 1) (.r 0)),
                  p (.load (none) (.r 0)),
                  p (.un .not (.r 0)),
                  p (.mov (.r 0)),
                  ⟨.fad 1 (.v 1), some (0, false), []⟩,
                  ⟨.load (none) (.r 0), some (1, false), []⟩,
                  ⟨.mov (.v 3), some (2, false), []⟩,
                  ⟨.iad 1 (.r 1) (.r 0), some (3, false), []⟩,
                  ⟨.load (none) (.r 0), some (4, false), []⟩,
                  ⟨.un .not (.r 0), some (5, false), []⟩,
                  p (.pick (.r 6) (.k (.bool true)) (.r 0))] [(1, .v 1), (3, .v 3), (40, .r 0)])
                (.cond (.v 40)
                  (.seq
                    (.reg false [p (.mov (.k (.bool false)))] [(2, .r 0)])
                    .ret)
                  .skip)))
            (.reg false [p (.mov (.v 3)),
              p (.bin .add (.r 0) (.k (.int .i64 1))),
              p (.mov (.r 0))] [(1, .v 1), (3, .r 0)]))))))
  (.frz
  (.seq
    (.reg false [p (.mov (.k (.bool true)))] [(2, .r 0)])
    .ret)))))
def r33 : List RV := [.t 2]
theorem chk33 : ∃ c0, Try.f33.body = some c0 ∧ chkC Try.prog Try.f33.ntmps c0 c33 = true ∧ chkRes Try.prog Try.f33.results.toList r33 = true := ⟨_, rfl, by kernel_rfl, by kernel_rfl⟩

theorem en33 {vs : List V} {r : V} (hlen : vs.length ≤ 41) (hcl : closedL vs = true) (h : evX Try.prog c33 (argsE 0 vs) ⟨0, fun _ => none⟩ (Fin r33 r)) : PCall Try.prog 33 vs r := by
  obtain ⟨c0, h1, h2, h3⟩ := chk33
  exact enterP (P := Try.prog) (f := 33) (by kernel_rfl) Try.func33 h1 (by kernel_rfl) h2 h3 hlen hcl (ofX h)

/-- `penelope/peneloperef06.New` -/
def c30 : C :=
  (.seq
    (.reg false [p (.alloc 2 (.agg [.fsl .nil 1 [], .fsl .nil 1 []]))] [(0, .v 0), (2, .r 0)])
  (.seq
    (.reg false [p (.build [.fsl .nil 1 [], .fsl .nil 1 []] []),
      p (.alloc 2 (.agg [.fsl .nil 1 [], .fsl .nil 1 []])),
      p (.store (some 2) (.r 0) (.r 1))] [(0, .v 0), (2, .v 2), (3, .r 1)])
  (.seq
    (.seq
      (.reg false [p (.mov (.k (.int .i64 0)))] [(0, .v 0), (2, .v 2), (3, .v 3), (4, .r 0)])
      (.block 0
        (.loop
          (.seq
            (.seq
              (.reg false [p (.mov (.v 4)),
                p (.mov (.v 0)),
                p (.bin .lss (.r 1) (.r 0))] [(0, .v 0), (2, .v 2), (3, .v 3), (4, .v 4), (8, .r 0)])
              (.cond (.v 8)
                .skip
                (.exit 0)))
          (.seq
            (.block 1
              (.seq
                (.reg false [p (.fad 0 (.v 3)),
                  p (.load (none) (.r 0)),
                  p (.mov (.v 4)),
                  p (.bin .lss (.r 0) (.k (.int .i64 10))),
                  p (.bsl 1 [.r 0]),
                  p (.app 1 1 (.r 3) (.r 0)),
                  p (.fad 0 (.v 3)),
                  p (.store (none) (.r 0) (.r 1))] [(0, .v 0), (2, .v 2), (3, .v 3), (4, .v 4)])
                (.reg false [p (.fad 1 (.v 3)),
                  p (.load (none) (.r 0)),
                  p (.mov (.v 4)),
                  p (.bin .lss (.r 0) (.k (.int .i64 10))),
                  p (.bsl 1 [.r 0]),
                  p (.app 1 1 (.r 3) (.r 0)),
                  p (.fad 1 (.v 3)),
                  p (.store (none) (.r 0) (.r 1))] [(0, .v 0), (2, .v 2), (3, .v 3), (4, .v 4)])))
            (.reg false [p (.mov (.v 4)),
              p (.bin .add (.r 0) (.k (.int .i64 1))),
              p (.mov (.r 0))] [(0, .v 0), (2, .v 2), (3, .v 3), (4, .r 0)]))))))
  (.frz
  (.seq
    (.reg false [p (.load (some 2) (.v 3)),
      p (.store (some 2) (.v 2) (.r 0))] [(2, .v 2)])
    .ret)))))
def r30 : List RV := [.c 2 (some 2)]
theorem chk30 : ∃ c0, Try.f30.body = some c0 ∧ chkC Try.prog Try.f30.ntmps c0 c30 = true ∧ chkRes Try.prog Try.f30.results.toList r30 = true := ⟨_, rfl, by kernel_rfl, by kernel_rfl⟩

theorem en30 {vs : List V} {r : V} (hlen : vs.length ≤ 26) (hcl : closedL vs = true) (h : evX Try.prog c30 (argsE 0 vs) ⟨0, fun _ => none⟩ (Fin r30 r)) : PCall Try.prog 30 vs r := by
  obtain ⟨c0, h1, h2, h3⟩ := chk30
  exact enterP (P := Try.prog) (f := 30) (by kernel_rfl) Try.func30 h1 (by kernel_rfl) h2 h3 hlen hcl (ofX h)

/-- `penelope/peneloperef06.Free` -/
def c35 : C :=
  (.seq
    (.reg false [p (.box 2 (.v 0)),
      p (.mov (.k (.int .i64 0)))] [(1, .r 1)])
  (.seq
    (.reg false [p (.mov (.k (.int .i64 0)))] [(1, .v 1), (3, .r 0)])
  (.seq
    (.seq
      (.reg false [p (.load (some 2) (.v 1)),
        p (.call true (.k (.fn 33 [] [])) [.r 0]),
        p (.un .not (.r 0))] [(1, .v 1), (3, .v 3), (7, .r 0)])
      (.cond (.v 7)
        (.seq
          (.reg false [p (.mov (.k (.int .i64 0)))] [(2, .r 0)])
          .ret)
        .skip))
  (.seq
    (.seq
      (.reg false [p (.fad 1 (.v 1)),
        p (.load (none) (.r 0)),
        p (.len false (.r 0)),
        p (.mov (.k (.int .i64 0)))] [(1, .v 1), (3, .v 3), (10, .r 1), (11, .r 0)])
      (.block 0
        (.loop
          (.seq
            (.reg false [p (.bin .lss (.v 11) (.v 10))] [(1, .v 1), (3, .v 3), (10, .v 10), (11, .v 11), (12, .r 0)])
          (.seq
            (.cond (.v 12)
              .skip
              (.exit 0))
          (.seq
            (.block 1
              (.seq
                (.reg false [p (.mov (.v 11)),
                  p (.mov (.r 0))] [(1, .v 1), (3, .v 3), (4, .r 0), (10, .v 10), (11, .v 11)])
              (.seq
                (.reg false [p (.load (some 2) (.v 1)),
                  p (.mov (.v 4)),
                  p (.call true (.k (.fn 38 [] [])) [.r 1, .r 0])] [(1, .v 1), (3, .v 3), (10, .v 10), (11, .v 11), (16, .r 0)])
                (.cond (.v 16)
                  (.reg false [p (.mov (.v 3)),
                    p (.bin .add (.r 0) (.k (.int .i64 1))),
                    p (.mov (.r 0))] [(1, .v 1), (3, .r 0), (10, .v 10), (11, .v 11)])
                  .skip))))
            (.reg false [p (.bin .add (.v 11) (.k (.int .i64 1))),
              p (.mov (.r 0))] [(1, .v 1), (3, .v 3), (10, .v 10), (11, .r 0)])))))))
  (.frz
  (.seq
    (.reg false [p (.mov (.v 3)),
      p (.mov (.r 0))] [(2, .r 0)])
    .ret))))))
def r35 : List RV := [.t 2]
theorem chk35 : ∃ c0, Try.f35.body = some c0 ∧ chkC Try.prog Try.f35.ntmps c0 c35 = true ∧ chkRes Try.prog Try.f35.results.toList r35 = true := ⟨_, rfl, by kernel_rfl, by kernel_rfl⟩

theorem en35 {vs : List V} {r : V} (hlen : vs.length ≤ 21) (hcl : closedL vs = true) (h : evX Try.prog c35 (argsE 0 vs) ⟨0, fun _ => none⟩ (Fin r35 r)) : PCall Try.prog 35 vs r := by
  obtain ⟨c0, h1, h2, h3⟩ := chk35
  exact enterP (P := Try.prog) (f := 35) (by kernel_rfl) Try.func35 h1 (by kernel_rfl) h2 h3 hlen hcl (ofX h)

/-- `penelope/peneloperef06.IsFree` -/
def c38 : C :=
  (.seq
    (.reg false [p (.box 2 (.v 0)),
      p (.mov (.k (.bool false)))] [(1, .v 1), (2, .r 1)])
  (.seq
    (.reg false [p (.mov (.v 1)),
      p (.bin .geq (.r 0) (.k (.int .i64 0))),
      p (.mov (.r 0)),
      ⟨.mov (.v 1), some (0, true), []⟩,
      ⟨.fad 1 (.v 2), some (1, true), []⟩,
      ⟨.load (none) (.r 0), some (2, true), []⟩,
      ⟨.len false (.r 0), some (3, true), []⟩,
      ⟨.bin .lss (.r 3) (.r 0), some (4, true), []⟩,
      p (.pick (.r 5) (.r 0) (.k (.bool false))),
      p (.mov (.r 0)),
      ⟨.fad 1 (.v 2), some (0, true), []⟩,
      ⟨.load (none) (.r 0), some (1, true), []⟩,
      ⟨.mov (.v 1), some (2, true), []⟩,
      ⟨.iad 1 (.r 1) (.r 0), some (3, true), []⟩,
      ⟨.load (none) (.r 0), some (4, true), []⟩,
      ⟨.un .not (.r 0), some (5, true), []⟩,
      p (.pick (.r 6) (.r 0) (.k (.bool false))),
      p (.mov (.r 0)),
      ⟨.fad 0 (.v 2), some (0, true), []⟩,
      ⟨.load (none) (.r 0), some (1, true), []⟩,
      ⟨.mov (.v 1), some (2, true), []⟩,
      ⟨.iad 1 (.r 1) (.r 0), some (3, true), []⟩,
      ⟨.load (none) (.r 0), some (4, true), []⟩,
      ⟨.un .not (.r 0), some (5, true), []⟩,
      p (.pick (.r 6) (.r 0) (.k (.bool false))),
      p (.mov (.r 0))] [(4, .r 0)])
    .ret))
def r38 : List RV := [.t 4]
theorem chk38 : ∃ c0, Try.f38.body = some c0 ∧ chkC Try.prog Try.f38.ntmps c0 c38 = true ∧ chkRes Try.prog Try.f38.results.toList r38 = true := ⟨_, rfl, by kernel_rfl, by kernel_rfl⟩

theorem en38 {vs : List V} {r : V} (hlen : vs.length ≤ 30) (hcl : closedL vs = true) (h : evX Try.prog c38 (argsE 0 vs) ⟨0, fun _ => none⟩ (Fin r38 r)) : PCall Try.prog 38 vs r := by
  obtain ⟨c0, h1, h2, h3⟩ := chk38
  exact enterP (P := Try.prog) (f := 38) (by kernel_rfl) Try.func38 h1 (by kernel_rfl) h2 h3 hlen hcl (ofX h)

/-- `penelope/peneloperef06.with` -/
def c51 : C :=
  (.seq
    (.reg false [p (.box 2 (.v 0)),
      p (.alloc 2 (.agg [.fsl .nil 1 [], .fsl .nil 1 []]))] [(1, .v 1), (2, .v 2), (3, .r 1), (6, .r 0)])
  (.seq
    (.reg false [p (.fad 0 (.v 3)),
      p (.load (none) (.r 0)),
      p (.build [.fsl .nil 1 [], .fsl .nil 1 []] [(0, 1, .r 0)]),
      p (.alloc 2 (.agg [.fsl .nil 1 [], .fsl .nil 1 []])),
      p (.store (some 2) (.r 0) (.r 1))] [(1, .v 1), (2, .v 2), (3, .v 3), (6, .v 6), (7, .r 1)])
  (.seq
    (.seq
      (.reg false [p (.fad 1 (.v 3)),
        p (.load (none) (.r 0)),
        p (.len false (.r 0)),
        p (.mov (.k (.int .i64 0)))] [(1, .v 1), (2, .v 2), (3, .v 3), (6, .v 6), (7, .v 7), (14, .r 1), (15, .r 0)])
      (.block 0
        (.loop
          (.seq
            (.reg false [p (.bin .lss (.v 15) (.v 14))] [(1, .v 1), (2, .v 2), (3, .v 3), (6, .v 6), (7, .v 7), (14, .v 14), (15, .v 15), (16, .r 0)])
          (.seq
            (.cond (.v 16)
              .skip
              (.exit 0))
          (.seq
            (.block 1
              (.seq
                (.reg false [p (.mov (.v 15)),
                  p (.mov (.r 0))] [(1, .v 1), (2, .v 2), (3, .v 3), (6, .v 6), (7, .v 7), (8, .r 0), (14, .v 14), (15, .v 15)])
              (.seq
                (.reg false [p (.mov (.v 8)),
                  p (.mov (.v 1)),
                  p (.bin .eql (.r 1) (.r 0))] [(1, .v 1), (2, .v 2), (3, .v 3), (6, .v 6), (7, .v 7), (8, .v 8), (14, .v 14), (15, .v 15), (20, .r 0)])
                (.cond (.v 20)
                  (.reg false [p (.fad 1 (.v 7)),
                    p (.load (none) (.r 0)),
                    p (.mov (.v 2)),
                    p (.bsl 1 [.r 0]),
                    p (.app 1 1 (.r 2) (.r 0)),
                    p (.fad 1 (.v 7)),
                    p (.store (none) (.r 0) (.r 1))] [(1, .v 1), (2, .v 2), (3, .v 3), (6, .v 6), (7, .v 7), (14, .v 14), (15, .v 15)])
                  (.reg true [p (.fad 1 (.v 7)),
                    p (.load (none) (.r 0)),
                    p (.fad 1 (.v 3)),
                    p (.load (none) (.r 0)),
                    p (.mov (.v 8)),
                    p (.iad 1 (.r 1) (.r 0)),
                    p (.load (none) (.r 0)),
                    p (.bsl 1 [.r 0]),
                    ⟨.app 1 1 (.r 6) (.r 0), none, [4, 2, 1]⟩,
                    p (.fad 1 (.v 7)),
                    p (.store (none) (.r 0) (.r 1))] [(1, .v 1), (2, .v 2), (3, .v 3), (6, .v 6), (7, .v 7), (14, .v 14), (15, .v 15)])))))
            (.reg false [p (.bin .add (.v 15) (.k (.int .i64 1))),
              p (.mov (.r 0))] [(1, .v 1), (2, .v 2), (3, .v 3), (6, .v 6), (7, .v 7), (14, .v 14), (15, .r 0)])))))))
  (.frz
  (.seq
    (.reg false [p (.load (some 2) (.v 7)),
      p (.store (some 2) (.v 6) (.r 0))] [(6, .v 6)])
    .ret)))))
def r51 : List RV := [.c 6 (some 2)]
theorem chk51 : ∃ c0, Try.f51.body = some c0 ∧ chkC Try.prog Try.f51.ntmps c0 c51 = true ∧ chkRes Try.prog Try.f51.results.toList r51 = true := ⟨_, rfl, by kernel_rfl, by kernel_rfl⟩

theorem en51 {vs : List V} {r : V} (hlen : vs.length ≤ 39) (hcl : closedL vs = true) (h : evX Try.prog c51 (argsE 0 vs) ⟨0, fun _ => none⟩ (Fin r51 r)) : PCall Try.prog 51 vs r := by
  obtain ⟨c0, h1, h2, h3⟩ := chk51
  exact enterP (P := Try.prog) (f := 51) (by kernel_rfl) Try.func51 h1 (by kernel_rfl) h2 h3 hlen hcl (ofX h)

/-- `penelope/peneloperef06.Take` -/
def c40 : C :=
  (.seq
    (.reg false [p (.box 2 (.v 0)),
      p (.alloc 2 (.agg [.fsl .nil 1 [], .fsl .nil 1 []])),
      p (.mov (.k (.int .i64 0))),
      p (.mov (.k (.int .i64 0)))] [(1, .r 3), (2, .r 2)])
  (.seq
    (.seq
      (.reg false [p (.fad 1 (.v 1)),
        p (.load (none) (.r 0)),
        p (.len false (.r 0)),
        p (.mov (.k (.int .i64 0)))] [(1, .v 1), (2, .v 2), (8, .r 1), (9, .r 0)])
      (.block 0
        (.loop
          (.seq
            (.reg false [p (.bin .lss (.v 9) (.v 8))] [(1, .v 1), (2, .v 2), (8, .v 8), (9, .v 9), (10, .r 0)])
          (.seq
            (.cond (.v 10)
              .skip
              (.exit 0))
          (.seq
            (.block 1
              (.seq
                (.reg false [p (.mov (.v 9)),
                  p (.mov (.r 0))] [(1, .v 1), (2, .v 2), (5, .r 0), (8, .v 8), (9, .v 9)])
              (.seq
                (.reg false [p (.load (some 2) (.v 1)),
                  p (.mov (.v 5)),
                  p (.call true (.k (.fn 38 [] [])) [.r 1, .r 0])] [(1, .v 1), (2, .v 2), (5, .v 5), (8, .v 8), (9, .v 9), (14, .r 0)])
                (.cond (.v 14)
                  (.seq
                    (.reg false [p (.load (some 2) (.v 1)),
                      p (.mov (.v 5)),
                      p (.call true (.k (.fn 51 [] [])) [.r 1, .r 0, .k (.bool true)]),
                      p (.mov (.v 5)),
                      p (.store (some 2) (.v 2) (.r 1)),
                      p (.mov (.r 1)),
                      p (.mov (.k (.int .i64 0)))] [(2, .v 2), (3, .r 1), (4, .r 0)])
                    .ret)
                  .skip))))
            (.reg false [p (.bin .add (.v 9) (.k (.int .i64 1))),
              p (.mov (.r 0))] [(1, .v 1), (2, .v 2), (8, .v 8), (9, .r 0)])))))))
  (.frz
  (.seq
    (.reg false [p (.build [.fsl .nil 1 [], .fsl .nil 1 []] []),
      p (.store (some 2) (.v 2) (.r 0)),
      p (.mov (.k (.int .i64 0))),
      p (.mov (.k (.int .i64 60)))] [(2, .v 2), (3, .r 1), (4, .r 0)])
    .ret))))
def r40 : List RV := [.c 2 (some 2), .t 3, .t 4]
theorem chk40 : ∃ c0, Try.f40.body = some c0 ∧ chkC Try.prog Try.f40.ntmps c0 c40 = true ∧ chkRes Try.prog Try.f40.results.toList r40 = true := ⟨_, rfl, by kernel_rfl, by kernel_rfl⟩

theorem en40 {vs : List V} {r : V} (hlen : vs.length ≤ 21) (hcl : closedL vs = true) (h : evX Try.prog c40 (argsE 0 vs) ⟨0, fun _ => none⟩ (Fin r40 r)) : PCall Try.prog 40 vs r := by
  obtain ⟨c0, h1, h2, h3⟩ := chk40
  exact enterP (P := Try.prog) (f := 40) (by kernel_rfl) Try.func40 h1 (by kernel_rfl) h2 h3 hlen hcl (ofX h)

/-- `penelope/peneloperef06.Give` -/
def c41 : C :=
  (.seq
    (.reg false [p (.box 2 (.v 0)),
      p (.alloc 2 (.agg [.fsl .nil 1 [], .fsl .nil 1 []])),
      p (.mov (.k (.int .i64 0)))] [(1, .v 1), (2, .r 2), (4, .r 1)])
  (.seq
    (.seq
      (.reg false [p (.mov (.v 1)),
        p (.len false (.r 0)),
        p (.mov (.k (.int .i64 0)))] [(2, .v 2), (4, .v 4), (8, .r 2), (9, .r 1), (10, .r 0)])
      (.block 0
        (.loop
          (.seq
            (.reg false [p (.bin .lss (.v 10) (.v 9))] [(2, .v 2), (4, .v 4), (8, .v 8), (9, .v 9), (10, .v 10), (11, .r 0)])
          (.seq
            (.cond (.v 11)
              .skip
              (.exit 0))
          (.seq
            (.block 1
              (.seq
                (.reg false [p (.iad 1 (.v 8) (.v 10)),
                  p (.load (none) (.r 0)),
                  p (.mov (.r 0))] [(2, .v 2), (4, .v 4), (7, .r 0), (8, .v 8), (9, .v 9), (10, .v 10)])
              (.seq
                (.seq
                  (.reg false [p (.mov (.v 7)),
                    p (.bin .lss (.r 0) (.k (.int .i64 10))),
                    p (.mov (.r 0)),
                    ⟨.mov (.v 7), some (0, false), []⟩,
                    ⟨.fad 1 (.v 2), some (1, false), []⟩,
                    ⟨.load (none) (.r 0), some (2, false), []⟩,
                    ⟨.len false (.r 0), some (3, false), []⟩,
                    ⟨.bin .geq (.r 3) (.r 0), some (4, false), []⟩,
                    p (.pick (.r 5) (.k (.bool true)) (.r 0)),
                    p (.mov (.r 0)),
                    ⟨.fad 1 (.v 2), some (0, false), []⟩,
                    ⟨.load (none) (.r 0), some (1, false), []⟩,
                    ⟨.mov (.v 7), some (2, false), []⟩,
                    ⟨.iad 1 (.r 1) (.r 0), some (3, false), []⟩,
                    ⟨.load (none) (.r 0), some (4, false), []⟩,
                    ⟨.un .not (.r 0), some (5, false), []⟩,
                    p (.pick (.r 6) (.k (.bool true)) (.r 0))] [(2, .v 2), (4, .v 4), (7, .v 7), (8, .v 8), (9, .v 9), (10, .v 10), (30, .r 0)])
                  (.cond (.v 30)
                    (.seq
                      (.reg false [p (.build [.fsl .nil 1 [], .fsl .nil 1 []] []),
                        p (.store (some 2) (.v 4) (.r 0)),
                        p (.mov (.k (.int .i64 30)))] [(4, .v 4), (5, .r 0)])
                      .ret)
                    .skip))
                (.reg false [p (.load (some 2) (.v 2)),
                  p (.mov (.v 7)),
                  p (.call true (.k (.fn 51 [] [])) [.r 1, .r 0, .k (.bool false)]),
                  p (.store (some 2) (.v 2) (.r 0))] [(2, .v 2), (4, .v 4), (8, .v 8), (9, .v 9), (10, .v 10)]))))
            (.reg false [p (.bin .add (.v 10) (.k (.int .i64 1))),
              p (.mov (.r 0))] [(2, .v 2), (4, .v 4), (8, .v 8), (9, .v 9), (10, .r 0)])))))))
  (.frz
  (.seq
    (.reg false [p (.load (some 2) (.v 2)),
      p (.store (some 2) (.v 4) (.r 0)),
      p (.mov (.k (.int .i64 0)))] [(4, .v 4), (5, .r 0)])
    .ret))))
def r41 : List RV := [.c 4 (some 2), .t 5]
theorem chk41 : ∃ c0, Try.f41.body = some c0 ∧ chkC Try.prog Try.f41.ntmps c0 c41 = true ∧ chkRes Try.prog Try.f41.results.toList r41 = true := ⟨_, rfl, by kernel_rfl, by kernel_rfl⟩

theorem en41 {vs : List V} {r : V} (hlen : vs.length ≤ 37) (hcl : closedL vs = true) (h : evX Try.prog c41 (argsE 0 vs) ⟨0, fun _ => none⟩ (Fin r41 r)) : PCall Try.prog 41 vs r := by
  obtain ⟨c0, h1, h2, h3⟩ := chk41
  exact enterP (P := Try.prog) (f := 41) (by kernel_rfl) Try.func41 h1 (by kernel_rfl) h2 h3 hlen hcl (ofX h)

/-- `penelope/penelopelaw06.alive` -/
def c31 : C :=
  (.seq
    (.reg false [p (.mov (.k (.bool false)))] [])
  (.seq
    (.reg false [p (.call true (.k (.fn 28 [] [])) [.k (.int .i64 24)]),
      p (.mov (.r 0)),
      p (.ext (.r 0) 0),
      p (.ext (.r 1) 1),
      p (.alloc 2 (.agg [.fsl .nil 1 [], .fsl .nil 1 []])),
      p (.store (some 2) (.r 0) (.r 2)),
      p (.mov (.r 2))] [(1, .r 2), (2, .r 0)])
  (.seq
    (.reg false [p (.mov (.v 2)),
      p (.bin .eql (.r 0) (.k (.int .i64 0))),
      p (.mov (.r 0)),
      ⟨.load (some 2) (.v 1), some (0, true), []⟩,
      ⟨.call true (.k (.fn 32 [] [])) [.r 0], some (1, true), []⟩,
      p (.pick (.r 2) (.r 0) (.k (.bool false))),
      p (.mov (.r 0)),
      ⟨.load (some 2) (.v 1), some (0, true), []⟩,
      ⟨.call true (.k (.fn 34 [] [])) [.r 0], some (1, true), []⟩,
      ⟨.bin .eql (.r 0) (.k (.int .i64 14)), some (2, true), []⟩,
      p (.pick (.r 3) (.r 0) (.k (.bool false))),
      p (.mov (.r 0))] [(0, .r 0)])
    .ret)))
def r31 : List RV := [.t 0]
theorem chk31 : ∃ c0, Try.f31.body = some c0 ∧ chkC Try.prog Try.f31.ntmps c0 c31 = true ∧ chkRes Try.prog Try.f31.results.toList r31 = true := ⟨_, rfl, by kernel_rfl, by kernel_rfl⟩

theorem en31 {vs : List V} {r : V} (hlen : vs.length ≤ 18) (hcl : closedL vs = true) (h : evX Try.prog c31 (argsE 0 vs) ⟨0, fun _ => none⟩ (Fin r31 r)) : PCall Try.prog 31 vs r := by
  obtain ⟨c0, h1, h2, h3⟩ := chk31
  exact enterP (P := Try.prog) (f := 31) (by kernel_rfl) Try.func31 h1 (by kernel_rfl) h2 h3 hlen hcl (ofX h)

/-- `penelope/penelopelaw06.AllocRights` -/
def c9 : C :=
  (.seq
    (.reg false [p (.box 2 (.v 0)),
      p (.mov (.k (.bool false)))] [(1, .v 1), (2, .r 1)])
  (.seq
    (.reg false [p (.mov (.v 1)),
      p (.call true (.k (.fn 28 [] [])) [.r 0]),
      p (.mov (.r 0)),
      p (.ext (.r 0) 0),
      p (.ext (.r 1) 1),
      p (.alloc 2 (.agg [.fsl .nil 1 [], .fsl .nil 1 []])),
      p (.store (some 2) (.r 0) (.r 2)),
      p (.mov (.r 2))] [(1, .v 1), (2, .v 2), (5, .r 2), (6, .r 0)])
  (.seq
    (.seq
      (.reg false [p (.mov (.v 1)),
        p (.bin .lss (.r 0) (.k (.int .i64 24))),
        p (.mov (.r 0)),
        ⟨.mov (.v 1), some (0, false), []⟩,
        ⟨.bin .gtr (.r 0) (.k (.int .i64 2048)), some (1, false), []⟩,
        p (.pick (.r 2) (.k (.bool true)) (.r 0))] [(1, .v 1), (2, .v 2), (5, .v 5), (6, .v 6), (17, .r 0)])
      (.cond (.v 17)
        (.seq
          (.reg false [p (.mov (.v 6)),
            p (.bin .neq (.r 0) (.k (.int .i64 1))),
            p (.mov (.r 0)),
            ⟨.load (some 2) (.v 5), some (0, false), []⟩,
            ⟨.build [.fsl .nil 1 [], .fsl .nil 1 []] [], some (1, false), []⟩,
            ⟨.call true (.k (.fn 29 [] [])) [.r 1, .r 0], some (2, false), []⟩,
            ⟨.un .not (.r 0), some (3, false), []⟩,
            p (.pick (.r 4) (.k (.bool true)) (.r 0))] [(2, .v 2), (25, .r 0)])
          (.cond (.v 25)
            (.seq
              (.reg false [p (.mov (.k (.bool false)))] [(4, .r 0)])
              .ret)
            .skip))
        (.seq
          (.reg true [p (.mov (.v 6)),
            p (.bin .neq (.r 0) (.k (.int .i64 0))),
            p (.mov (.r 0)),
            ⟨.load (some 2) (.v 5), some (0, false), []⟩,
            ⟨.mov (.v 1), some (1, false), []⟩,
            ⟨.call true (.k (.fn 30 [] [])) [.r 0], some (2, false), []⟩,
            ⟨.call true (.k (.fn 29 [] [])) [.r 2, .r 0], some (3, false), []⟩,
            ⟨.un .not (.r 0), some (4, false), []⟩,
            p (.pick (.r 5) (.k (.bool true)) (.r 0))] [(2, .v 2), (34, .r 0)])
          (.cond (.v 34)
            (.seq
              (.reg false [p (.mov (.k (.bool false)))] [(4, .r 0)])
              .ret)
            .skip))))
  (.seq
    (.reg true [p (.call true (.k (.fn 31 [] [])) []),
      p (.mov (.r 0)),
      ⟨.load (some 2) (.v 2), some (0, true), []⟩,
      ⟨.call true (.k (.fn 32 [] [])) [.r 0], some (1, true), []⟩,
      ⟨.load (some 2) (.v 2), some (2, true), []⟩,
      ⟨.call true (.k (.fn 33 [] [])) [.r 0], some (3, true), []⟩,
      ⟨.eqb false (.r 2) (.r 0), some (4, true), []⟩,
      p (.pick (.r 5) (.r 0) (.k (.bool false))),
      p (.mov (.r 0)),
      ⟨.load (some 2) (.v 2), some (0, true), []⟩,
      ⟨.call true (.k (.fn 34 [] [])) [.r 0], some (1, true), []⟩,
      ⟨.load (some 2) (.v 2), some (2, true), []⟩,
      ⟨.call true (.k (.fn 35 [] [])) [.r 0], some (3, true), []⟩,
      ⟨.bin .eql (.r 2) (.r 0), some (4, true), []⟩,
      p (.pick (.r 5) (.r 0) (.k (.bool false))),
      p (.mov (.r 0))] [(4, .r 0)])
    .ret))))
def r9 : List RV := [.t 4]
theorem chk9 : ∃ c0, Try.f9.body = some c0 ∧ chkC Try.prog Try.f9.ntmps c0 c9 = true ∧ chkRes Try.prog Try.f9.results.toList r9 = true := ⟨_, rfl, by kernel_rfl, by kernel_rfl⟩

theorem en9 {vs : List V} {r : V} (hlen : vs.length ≤ 50) (hcl : closedL vs = true) (h : evX Try.prog c9 (argsE 0 vs) ⟨0, fun _ => none⟩ (Fin r9 r)) : PCall Try.prog 9 vs r := by
  obtain ⟨c0, h1, h2, h3⟩ := chk9
  exact enterP (P := Try.prog) (f := 9) (by kernel_rfl) Try.func9 h1 (by kernel_rfl) h2 h3 hlen hcl (ofX h)

/-- `penelope/penelopelaw06.AllocTakes` -/
def c10 : C :=
  (.seq
    (.reg false [p (.box 2 (.v 0)),
      p (.mov (.k (.bool false)))] [(1, .r 1)])
  (.seq
    (.seq
      (.reg false [p (.load (some 2) (.v 1)),
        p (.call true (.k (.fn 33 [] [])) [.r 0]),
        p (.un .not (.r 0))] [(1, .v 1), (13, .r 0)])
      (.cond (.v 13)
        (.seq
          (.reg false [p (.call true (.k (.fn 31 [] [])) []),
            p (.mov (.r 0))] [(2, .r 0)])
          .ret)
        .skip))
  (.seq
    (.reg false [p (.load (some 2) (.v 1)),
      p (.call true (.k (.fn 36 [] [])) [.r 0]),
      p (.mov (.r 0)),
      p (.ext (.r 0) 0),
      p (.ext (.r 1) 1),
      p (.ext (.r 2) 2),
      p (.alloc 2 (.agg [.fsl .nil 1 [], .fsl .nil 1 []])),
      p (.store (some 2) (.r 0) (.r 3)),
      p (.mov (.r 3)),
      p (.mov (.r 3))] [(1, .v 1), (3, .r 3), (4, .r 1), (5, .r 0)])
  (.seq
    (.seq
      (.reg false [p (.mov (.v 5)),
        p (.bin .neq (.r 0) (.k (.int .i64 0)))] [(1, .v 1), (3, .v 3), (4, .v 4), (5, .v 5), (22, .r 0)])
      (.cond (.v 22)
        (.seq
          (.reg false [p (.call true (.k (.fn 31 [] [])) []),
            p (.mov (.r 0)),
            ⟨.mov (.v 5), some (0, true), []⟩,
            ⟨.bin .eql (.r 0) (.k (.int .i64 60)), some (1, true), []⟩,
            p (.pick (.r 2) (.r 0) (.k (.bool false))),
            p (.mov (.r 0)),
            ⟨.load (some 2) (.v 1), some (0, true), []⟩,
            ⟨.call true (.k (.fn 34 [] [])) [.r 0], some (1, true), []⟩,
            ⟨.bin .eql (.r 0) (.k (.int .i64 0)), some (2, true), []⟩,
            p (.pick (.r 3) (.r 0) (.k (.bool false))),
            p (.mov (.r 0))] [(2, .r 0)])
          .ret)
        .skip))
  (.seq
    (.reg false [p (.load (some 2) (.v 3)),
      p (.mov (.v 4)),
      p (.bsl 1 [.r 0]),
      p (.call true (.k (.fn 37 [] [])) [.r 2, .r 0]),
      p (.mov (.r 0)),
      p (.ext (.r 0) 0),
      p (.ext (.r 1) 1),
      p (.alloc 2 (.agg [.fsl .nil 1 [], .fsl .nil 1 []])),
      p (.store (some 2) (.r 0) (.r 2)),
      p (.mov (.r 2))] [(1, .v 1), (3, .v 3), (4, .v 4), (6, .r 2), (7, .r 0)])
  (.seq
    (.reg false [p (.load (some 2) (.v 6)),
      p (.call true (.k (.fn 36 [] [])) [.r 0]),
      p (.mov (.r 0)),
      p (.ext (.r 0) 0),
      p (.ext (.r 1) 1),
      p (.ext (.r 2) 2),
      p (.alloc 2 (.agg [.fsl .nil 1 [], .fsl .nil 1 []])),
      p (.store (some 2) (.r 0) (.r 3)),
      p (.mov (.r 3)),
      p (.mov (.r 3))] [(1, .v 1), (3, .v 3), (4, .v 4), (6, .v 6), (7, .v 7), (9, .r 1), (10, .r 0)])
  (.seq
    (.reg true [p (.call true (.k (.fn 31 [] [])) []),
      p (.mov (.r 0)),
      ⟨.mov (.v 7), some (0, true), []⟩,
      ⟨.bin .eql (.r 0) (.k (.int .i64 0)), some (1, true), []⟩,
      p (.pick (.r 2) (.r 0) (.k (.bool false))),
      p (.mov (.r 0)),
      ⟨.mov (.v 10), some (0, true), []⟩,
      ⟨.bin .eql (.r 0) (.k (.int .i64 0)), some (1, true), []⟩,
      p (.pick (.r 2) (.r 0) (.k (.bool false))),
      p (.mov (.r 0)),
      ⟨.load (some 2) (.v 1), some (0, true), []⟩,
      ⟨.mov (.v 4), some (1, true), []⟩,
      ⟨.call true (.k (.fn 38 [] [])) [.r 1, .r 0], some (2, true), []⟩,
      p (.pick (.r 3) (.r 0) (.k (.bool false))),
      p (.mov (.r 0)),
      ⟨.load (some 2) (.v 3), some (0, true), []⟩,
      ⟨.mov (.v 4), some (1, true), []⟩,
      ⟨.call true (.k (.fn 38 [] [])) [.r 1, .r 0], some (2, true), []⟩,
      ⟨.un .not (.r 0), some (3, true), []⟩,
      p (.pick (.r 4) (.r 0) (.k (.bool false))),
      p (.mov (.r 0)),
      ⟨.load (some 2) (.v 3), some (0, true), []⟩,
      ⟨.call true (.k (.fn 34 [] [])) [.r 0], some (1, true), []⟩,
      ⟨.load (some 2) (.v 1), some (2, true), []⟩,
      ⟨.call true (.k (.fn 34 [] [])) [.r 0], some (3, true), []⟩,
      ⟨.bin .sub (.r 0) (.k (.int .i64 1)), some (4, true), []⟩,
      ⟨.bin .eql (.r 3) (.r 0), some (5, true), []⟩,
      p (.pick (.r 6) (.r 0) (.k (.bool false))),
      p (.mov (.r 0)),
      ⟨.load (some 2) (.v 6), some (0, true), []⟩,
      ⟨.load (some 2) (.v 1), some (1, true), []⟩,
      ⟨.call true (.k (.fn 29 [] [])) [.r 1, .r 0], some (2, true), []⟩,
      p (.pick (.r 3) (.r 0) (.k (.bool false))),
      p (.mov (.r 0)),
      ⟨.mov (.v 9), some (0, true), []⟩,
      ⟨.mov (.v 4), some (1, true), []⟩,
      ⟨.bin .eql (.r 1) (.r 0), some (2, true), []⟩,
      p (.pick (.r 3) (.r 0) (.k (.bool false))),
      p (.mov (.r 0))] [(2, .r 0)])
    .ret)))))))
def r10 : List RV := [.t 2]
theorem chk10 : ∃ c0, Try.f10.body = some c0 ∧ chkC Try.prog Try.f10.ntmps c0 c10 = true ∧ chkRes Try.prog Try.f10.results.toList r10 = true := ⟨_, rfl, by kernel_rfl, by kernel_rfl⟩

theorem en10 {vs : List V} {r : V} (hlen : vs.length ≤ 84) (hcl : closedL vs = true) (h : evX Try.prog c10 (argsE 0 vs) ⟨0, fun _ => none⟩ (Fin r10 r)) : PCall Try.prog 10 vs r := by
  obtain ⟨c0, h1, h2, h3⟩ := chk10
  exact enterP (P := Try.prog) (f := 10) (by kernel_rfl) Try.func10 h1 (by kernel_rfl) h2 h3 hlen hcl (ofX h)

/-- `penelope/penelopelaw06.AllocCalls` -/
def c12 : C :=
  (.seq
    (.reg false [p (.box 2 (.v 0)),
      p (.mov (.k (.bool false)))] [(1, .v 1), (2, .r 1)])
  (.seq
    (.reg false [p (.mov (.v 1)),
      p (.mov (.v 1)),
      p (.len false (.r 0)),
      p (.mnx false (.r 0) [.k (.int .i64 20)]),
      p (.slc 1 (.r 3) none (some (.r 0)) none),
      p (.mov (.r 0))] [(1, .r 0), (2, .v 2)])
  (.seq
    (.reg false [p (.load (some 2) (.v 2)),
      p (.call true (.k (.fn 36 [] [])) [.r 0]),
      p (.mov (.r 0)),
      p (.ext (.r 0) 0),
      p (.ext (.r 1) 1),
      p (.ext (.r 2) 2),
      p (.alloc 2 (.agg [.fsl .nil 1 [], .fsl .nil 1 []])),
      p (.store (some 2) (.r 0) (.r 3)),
      p (.mov (.r 3)),
      p (.mov (.r 3))] [(1, .v 1), (2, .v 2), (5, .r 3), (6, .r 1), (7, .r 0)])
  (.seq
    (.reg false [p (.load (some 2) (.v 2)),
      p (.mov (.v 1)),
      p (.call true (.k (.fn 37 [] [])) [.r 1, .r 0]),
      p (.mov (.r 0)),
      p (.ext (.r 0) 0),
      p (.ext (.r 1) 1),
      p (.alloc 2 (.agg [.fsl .nil 1 [], .fsl .nil 1 []])),
      p (.store (some 2) (.r 0) (.r 2)),
      p (.mov (.r 2))] [(1, .v 1), (2, .v 2), (5, .v 5), (6, .v 6), (7, .v 7), (8, .r 2), (9, .r 0)])
  (.seq
    (.reg false [p (.load (some 2) (.v 2)),
      p (.call true (.k (.fn 39 [] [])) [.r 0]),
      p (.mov (.r 0)),
      p (.ext (.r 0) 0),
      p (.ext (.r 1) 1),
      p (.alloc 2 (.agg [.fsl .nil 1 [], .fsl .nil 1 []])),
      p (.store (some 2) (.r 0) (.r 2)),
      p (.mov (.r 2))] [(1, .v 1), (2, .v 2), (5, .v 5), (6, .v 6), (7, .v 7), (8, .v 8), (9, .v 9), (10, .r 2), (11, .r 0)])
  (.seq
    (.seq
      (.reg false [p (.load (some 2) (.v 2)),
        p (.call true (.k (.fn 33 [] [])) [.r 0]),
        p (.un .not (.r 0))] [(1, .v 1), (2, .v 2), (5, .v 5), (6, .v 6), (7, .v 7), (8, .v 8), (9, .v 9), (10, .v 10), (11, .v 11), (42, .r 0)])
      (.cond (.v 42)
        (.seq
          (.reg false [p (.build [.fsl .nil 1 [], .fsl .nil 1 []] []),
            p (.alloc 2 (.agg [.fsl .nil 1 [], .fsl .nil 1 []])),
            p (.store (some 2) (.r 0) (.r 1))] [(5, .v 5), (6, .v 6), (7, .v 7), (8, .v 8), (9, .v 9), (10, .v 10), (11, .v 11), (12, .r 1)])
        (.seq
          (.reg false [p (.call true (.k (.fn 31 [] [])) []),
            p (.mov (.r 0)),
            ⟨.mov (.v 7), some (0, true), []⟩,
            ⟨.bin .eql (.r 0) (.k (.int .i64 1)), some (1, true), []⟩,
            p (.pick (.r 2) (.r 0) (.k (.bool false))),
            p (.mov (.r 0)),
            ⟨.mov (.v 9), some (0, true), []⟩,
            ⟨.bin .eql (.r 0) (.k (.int .i64 1)), some (1, true), []⟩,
            p (.pick (.r 2) (.r 0) (.k (.bool false))),
            p (.mov (.r 0)),
            ⟨.mov (.v 11), some (0, true), []⟩,
            ⟨.bin .eql (.r 0) (.k (.int .i64 1)), some (1, true), []⟩,
            p (.pick (.r 2) (.r 0) (.k (.bool false))),
            p (.mov (.r 0)),
            ⟨.mov (.v 6), some (0, true), []⟩,
            ⟨.bin .eql (.r 0) (.k (.int .i64 0)), some (1, true), []⟩,
            p (.pick (.r 2) (.r 0) (.k (.bool false))),
            p (.mov (.r 0)),
            ⟨.load (some 2) (.v 5), some (0, true), []⟩,
            ⟨.load (some 2) (.v 12), some (1, true), []⟩,
            ⟨.call true (.k (.fn 29 [] [])) [.r 1, .r 0], some (2, true), []⟩,
            p (.pick (.r 3) (.r 0) (.k (.bool false))),
            p (.mov (.r 0)),
            ⟨.load (some 2) (.v 8), some (0, true), []⟩,
            ⟨.load (some 2) (.v 12), some (1, true), []⟩,
            ⟨.call true (.k (.fn 29 [] [])) [.r 1, .r 0], some (2, true), []⟩,
            p (.pick (.r 3) (.r 0) (.k (.bool false))),
            p (.mov (.r 0)),
            ⟨.load (some 2) (.v 10), some (0, true), []⟩,
            ⟨.load (some 2) (.v 12), some (1, true), []⟩,
            ⟨.call true (.k (.fn 29 [] [])) [.r 1, .r 0], some (2, true), []⟩,
            p (.pick (.r 3) (.r 0) (.k (.bool false))),
            p (.mov (.r 0))] [(4, .r 0)])
          .ret))
        .skip))
  (.seq
    (.reg false [p (.load (some 2) (.v 2)),
      p (.call true (.k (.fn 40 [] [])) [.r 0]),
      p (.mov (.r 0)),
      p (.ext (.r 0) 0),
      p (.ext (.r 1) 1),
      p (.ext (.r 2) 2),
      p (.alloc 2 (.agg [.fsl .nil 1 [], .fsl .nil 1 []])),
      p (.store (some 2) (.r 0) (.r 3)),
      p (.mov (.r 3)),
      p (.mov (.r 3))] [(1, .v 1), (2, .v 2), (5, .v 5), (6, .v 6), (7, .v 7), (8, .v 8), (9, .v 9), (10, .v 10), (11, .v 11), (13, .r 3), (14, .r 1), (15, .r 0)])
  (.seq
    (.reg false [p (.load (some 2) (.v 2)),
      p (.mov (.v 1)),
      p (.call true (.k (.fn 41 [] [])) [.r 1, .r 0]),
      p (.mov (.r 0)),
      p (.ext (.r 0) 0),
      p (.ext (.r 1) 1),
      p (.alloc 2 (.agg [.fsl .nil 1 [], .fsl .nil 1 []])),
      p (.store (some 2) (.r 0) (.r 2)),
      p (.mov (.r 2))] [(2, .v 2), (5, .v 5), (6, .v 6), (7, .v 7), (8, .v 8), (9, .v 9), (10, .v 10), (11, .v 11), (13, .v 13), (14, .v 14), (15, .v 15), (16, .r 2), (17, .r 0)])
  (.seq
    (.reg false [p (.call true (.k (.fn 31 [] [])) []),
      p (.mov (.r 0)),
      ⟨.mov (.v 7), some (0, true), []⟩,
      ⟨.mov (.v 15), some (1, true), []⟩,
      ⟨.bin .eql (.r 1) (.r 0), some (2, true), []⟩,
      p (.pick (.r 3) (.r 0) (.k (.bool false))),
      p (.mov (.r 0)),
      ⟨.mov (.v 6), some (0, true), []⟩,
      ⟨.mov (.v 14), some (1, true), []⟩,
      ⟨.bin .eql (.r 1) (.r 0), some (2, true), []⟩,
      p (.pick (.r 3) (.r 0) (.k (.bool false))),
      p (.mov (.r 0)),
      ⟨.load (some 2) (.v 5), some (0, true), []⟩,
      ⟨.load (some 2) (.v 13), some (1, true), []⟩,
      ⟨.call true (.k (.fn 29 [] [])) [.r 1, .r 0], some (2, true), []⟩,
      p (.pick (.r 3) (.r 0) (.k (.bool false))),
      p (.mov (.r 0)),
      ⟨.mov (.v 9), some (0, true), []⟩,
      ⟨.mov (.v 17), some (1, true), []⟩,
      ⟨.bin .eql (.r 1) (.r 0), some (2, true), []⟩,
      p (.pick (.r 3) (.r 0) (.k (.bool false))),
      p (.mov (.r 0)),
      ⟨.load (some 2) (.v 8), some (0, true), []⟩,
      ⟨.load (some 2) (.v 16), some (1, true), []⟩,
      ⟨.call true (.k (.fn 29 [] [])) [.r 1, .r 0], some (2, true), []⟩,
      p (.pick (.r 3) (.r 0) (.k (.bool false))),
      p (.mov (.r 0)),
      ⟨.mov (.v 11), some (0, true), []⟩,
      ⟨.bin .eql (.r 0) (.k (.int .i64 0)), some (1, true), []⟩,
      p (.pick (.r 2) (.r 0) (.k (.bool false))),
      p (.mov (.r 0)),
      ⟨.load (some 2) (.v 10), some (0, true), []⟩,
      ⟨.fad 1 (.v 2), some (1, true), []⟩,
      ⟨.load (none) (.r 0), some (2, true), []⟩,
      ⟨.fad 1 (.v 2), some (3, true), []⟩,
      ⟨.load (none) (.r 0), some (4, true), []⟩,
      ⟨.build [.fsl .nil 1 [], .fsl .nil 1 []] [(0, 1, .r 2), (1, 1, .r 0)], some (5, true), []⟩,
      ⟨.call true (.k (.fn 29 [] [])) [.r 5, .r 0], some (6, true), []⟩,
      p (.pick (.r 7) (.r 0) (.k (.bool false))),
      p (.mov (.r 0))] [(4, .r 0)])
    .ret)))))))))
def r12 : List RV := [.t 4]
theorem chk12 : ∃ c0, Try.f12.body = some c0 ∧ chkC Try.prog Try.f12.ntmps c0 c12 = true ∧ chkRes Try.prog Try.f12.results.toList r12 = true := ⟨_, rfl, by kernel_rfl, by kernel_rfl⟩

theorem en12 {vs : List V} {r : V} (hlen : vs.length ≤ 127) (hcl : closedL vs = true) (h : evX Try.prog c12 (argsE 0 vs) ⟨0, fun _ => none⟩ (Fin r12 r)) : PCall Try.prog 12 vs r := by
  obtain ⟨c0, h1, h2, h3⟩ := chk12
  exact enterP (P := Try.prog) (f := 12) (by kernel_rfl) Try.func12 h1 (by kernel_rfl) h2 h3 hlen hcl (ofX h)

/-- `penelope/penelopelaw06.AllocFills` -/
def c11 : C :=
  (.seq
    (.reg false [p (.box 2 (.v 0)),
      p (.mov (.k (.bool false)))] [(1, .v 1), (2, .r 1)])
  (.seq
    (.seq
      (.reg false [p (.load (some 2) (.v 2)),
        p (.call true (.k (.fn 33 [] [])) [.r 0]),
        p (.un .not (.r 0)),
        p (.mov (.r 0)),
        ⟨.fad 1 (.v 2), some (0, false), []⟩,
        ⟨.load (none) (.r 0), some (1, false), []⟩,
        ⟨.len false (.r 0), some (2, false), []⟩,
        ⟨.bin .gtr (.r 0) (.k (.int .i64 300)), some (3, false), []⟩,
        p (.pick (.r 4) (.k (.bool true)) (.r 0))] [(1, .v 1), (2, .v 2), (24, .r 0)])
      (.cond (.v 24)
        (.seq
          (.reg false [p (.call true (.k (.fn 31 [] [])) []),
            p (.mov (.r 0))] [(4, .r 0)])
          .ret)
        .skip))
  (.seq
    (.reg false [p (.load (some 2) (.v 2)),
      p (.alloc 2 (.agg [.fsl .nil 1 [], .fsl .nil 1 []])),
      p (.store (some 2) (.r 0) (.r 1))] [(1, .v 1), (2, .v 2), (5, .r 1)])
  (.seq
    (.reg false [p (.mov (.k (.fsl .nil 1 [])))] [(1, .v 1), (2, .v 2), (5, .v 5), (6, .r 0)])
  (.seq
    (.seq
      (.reg false [p (.load (some 2) (.v 2)),
        p (.call true (.k (.fn 34 [] [])) [.r 0]),
        p (.mov (.k (.int .i64 0)))] [(1, .v 1), (2, .v 2), (5, .v 5), (6, .v 6), (28, .r 1), (29, .r 0)])
      (.block 0
        (.loop
          (.seq
            (.reg false [p (.bin .lss (.v 29) (.v 28))] [(1, .v 1), (2, .v 2), (5, .v 5), (6, .v 6), (28, .v 28), (29, .v 29), (30, .r 0)])
          (.seq
            (.cond (.v 30)
              .skip
              (.exit 0))
          (.seq
            (.block 1
              (.seq
                (.reg false [p (.load (some 2) (.v 5)),
                  p (.call true (.k (.fn 36 [] [])) [.r 0]),
                  p (.mov (.r 0)),
                  p (.ext (.r 0) 0),
                  p (.ext (.r 1) 1),
                  p (.ext (.r 2) 2),
                  p (.alloc 2 (.agg [.fsl .nil 1 [], .fsl .nil 1 []])),
                  p (.store (some 2) (.r 0) (.r 3)),
                  p (.mov (.r 3)),
                  p (.mov (.r 3))] [(1, .v 1), (2, .v 2), (5, .v 5), (6, .v 6), (7, .r 3), (8, .r 1), (9, .r 0), (28, .v 28), (29, .v 29)])
              (.seq
                (.seq
                  (.reg false [p (.mov (.v 9)),
                    p (.bin .neq (.r 0) (.k (.int .i64 0))),
                    p (.mov (.r 0)),
                    ⟨.mov (.v 6), some (0, false), []⟩,
                    ⟨.len false (.r 0), some (1, false), []⟩,
                    ⟨.bin .gtr (.r 0) (.k (.int .i64 0)), some (2, false), []⟩,
                    ⟨.mov (.r 0), some (3, false), []⟩,
                    ⟨.mov (.v 6), some (0, true), []⟩,
                    ⟨.mov (.v 6), some (1, true), []⟩,
                    ⟨.len false (.r 0), some (2, true), []⟩,
                    ⟨.bin .sub (.r 0) (.k (.int .i64 1)), some (3, true), []⟩,
                    ⟨.iad 1 (.r 3) (.r 0), some (4, true), []⟩,
                    ⟨.load (none) (.r 0), some (5, true), []⟩,
                    ⟨.mov (.v 8), some (6, true), []⟩,
                    ⟨.bin .geq (.r 1) (.r 0), some (7, true), []⟩,
                    ⟨.pick (.r 8) (.r 0) (.k (.bool false)), some (12, false), []⟩,
                    p (.pick (.r 13) (.k (.bool true)) (.r 0))] [(1, .v 1), (2, .v 2), (5, .v 5), (6, .v 6), (7, .v 7), (8, .v 8), (28, .v 28), (29, .v 29), (53, .r 0)])
                  (.cond (.v 53)
                    (.seq
                      (.reg false [p (.mov (.k (.bool false)))] [(4, .r 0)])
                      .ret)
                    .skip))
              (.seq
                (.reg false [p (.load (some 2) (.v 7)),
                  p (.store (some 2) (.v 5) (.r 0))] [(1, .v 1), (2, .v 2), (5, .v 5), (6, .v 6), (8, .v 8), (28, .v 28), (29, .v 29)])
                (.reg false [p (.mov (.v 6)),
                  p (.mov (.v 8)),
                  p (.bsl 1 [.r 0]),
                  p (.app 1 8 (.r 2) (.r 0)),
                  p (.mov (.r 0))] [(1, .v 1), (2, .v 2), (5, .v 5), (6, .r 0), (28, .v 28), (29, .v 29)])))))
            (.reg false [p (.bin .add (.v 29) (.k (.int .i64 1))),
              p (.mov (.r 0))] [(1, .v 1), (2, .v 2), (5, .v 5), (6, .v 6), (28, .v 28), (29, .r 0)])))))))
  (.frz
  (.seq
    (.seq
      (.reg false [p (.load (some 2) (.v 5)),
        p (.call true (.k (.fn 36 [] [])) [.r 0]),
        p (.mov (.r 0)),
        p (.ext (.r 0) 0),
        p (.ext (.r 1) 1),
        p (.ext (.r 2) 2),
        p (.alloc 2 (.agg [.fsl .nil 1 [], .fsl .nil 1 []])),
        p (.store (some 2) (.r 0) (.r 3)),
        p (.mov (.r 3)),
        p (.mov (.r 3))] [(1, .v 1), (2, .v 2), (5, .v 5), (6, .v 6), (12, .r 0)])
    (.seq
      (.reg false [p (.mov (.v 12)),
        p (.bin .neq (.r 0) (.k (.int .i64 60))),
        p (.mov (.r 0)),
        ⟨.load (some 2) (.v 5), some (0, false), []⟩,
        ⟨.call true (.k (.fn 34 [] [])) [.r 0], some (1, false), []⟩,
        ⟨.bin .neq (.r 0) (.k (.int .i64 0)), some (2, false), []⟩,
        p (.pick (.r 3) (.k (.bool true)) (.r 0))] [(1, .v 1), (2, .v 2), (5, .v 5), (6, .v 6), (72, .r 0)])
      (.cond (.v 72)
        (.seq
          (.reg false [p (.mov (.k (.bool false)))] [(4, .r 0)])
          .ret)
        .skip)))
  (.seq
    (.seq
      (.reg false [p (.mov (.v 6)),
        p (.len false (.r 0)),
        p (.mov (.r 0))] [(1, .v 1), (2, .v 2), (5, .v 5), (6, .v 6), (13, .r 0)])
    (.seq
      (.reg false [p (.mov (.v 13)),
        p (.bin .gtr (.r 0) (.k (.int .i64 0)))] [(1, .v 1), (2, .v 2), (5, .v 5), (6, .v 6), (13, .v 13), (76, .r 0)])
      (.cond (.v 76)
        (.seq
          (.reg false [p (.mov (.v 1)),
            p (.mov (.v 13)),
            p (.bin .rem (.r 1) (.r 0)),
            p (.mov (.v 13)),
            p (.bin .add (.r 1) (.r 0)),
            p (.mov (.v 13)),
            p (.bin .rem (.r 1) (.r 0)),
            p (.mov (.r 0))] [(1, .r 0), (2, .v 2), (5, .v 5), (6, .v 6)])
          (.reg true [p (.bsl 1 []),
            p (.mov (.v 6)),
            p (.mov (.v 1)),
            p (.slc 1 (.r 1) (some (.r 0)) none none),
            p (.app 1 8 (.r 3) (.r 0)),
            p (.mov (.v 6)),
            p (.mov (.v 1)),
            ⟨.slc 1 (.r 1) none (some (.r 0)) none, none, [2]⟩,
            ⟨.app 1 8 (.r 3) (.r 0), none, [4]⟩,
            p (.mov (.r 0))] [(2, .v 2), (5, .v 5), (6, .r 0)]))
        .skip)))
  (.seq
    (.reg false [p (.load (some 2) (.v 5)),
      p (.mov (.v 6)),
      p (.call true (.k (.fn 37 [] [])) [.r 1, .r 0]),
      p (.mov (.r 0)),
      p (.ext (.r 0) 0),
      p (.ext (.r 1) 1),
      p (.alloc 2 (.agg [.fsl .nil 1 [], .fsl .nil 1 []])),
      p (.store (some 2) (.r 0) (.r 2)),
      p (.mov (.r 2))] [(2, .v 2), (14, .r 2), (15, .r 0)])
  (.seq
    (.reg false [p (.call true (.k (.fn 31 [] [])) []),
      p (.mov (.r 0)),
      ⟨.mov (.v 15), some (0, true), []⟩,
      ⟨.bin .eql (.r 0) (.k (.int .i64 0)), some (1, true), []⟩,
      p (.pick (.r 2) (.r 0) (.k (.bool false))),
      p (.mov (.r 0)),
      ⟨.load (some 2) (.v 14), some (0, true), []⟩,
      ⟨.load (some 2) (.v 2), some (1, true), []⟩,
      ⟨.call true (.k (.fn 29 [] [])) [.r 1, .r 0], some (2, true), []⟩,
      p (.pick (.r 3) (.r 0) (.k (.bool false))),
      p (.mov (.r 0))] [(4, .r 0)])
    .ret))))))))))
def r11 : List RV := [.t 4]
theorem chk11 : ∃ c0, Try.f11.body = some c0 ∧ chkC Try.prog Try.f11.ntmps c0 c11 = true ∧ chkRes Try.prog Try.f11.results.toList r11 = true := ⟨_, rfl, by kernel_rfl, by kernel_rfl⟩

theorem en11 {vs : List V} {r : V} (hlen : vs.length ≤ 109) (hcl : closedL vs = true) (h : evX Try.prog c11 (argsE 0 vs) ⟨0, fun _ => none⟩ (Fin r11 r)) : PCall Try.prog 11 vs r := by
  obtain ⟨c0, h1, h2, h3⟩ := chk11
  exact enterP (P := Try.prog) (f := 11) (by kernel_rfl) Try.func11 h1 (by kernel_rfl) h2 h3 hlen hcl (ofX h)


end Go.Proofs.Ytickdhdlljhomaa.Ev
