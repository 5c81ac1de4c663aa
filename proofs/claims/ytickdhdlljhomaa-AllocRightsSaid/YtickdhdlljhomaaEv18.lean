/-
  The evaluator once more: regions, branches and loops, with their continuations by name.
-/
import Derived.Test.YtickdhdlljhomaaEv17
set_option linter.unusedSimpArgs false
set_option linter.unusedVariables false
namespace Go.Proofs.Ytickdhdlljhomaa.Ev
open Go

def CallP (P : Program) (f : Nat) (vs : List V) (K : KI) : Prop := ∃ r, PCall P f vs r ∧ K r [] [] 0
def CallA (P : Program) (f : Nat) (vs : List V) (H : Hp) (K : KI) : Prop := ∃ fp r ds k, ACall P f vs H fp r ds k ∧ K r fp ds k
def Bts (o : Option (Nat × List V)) (fp : List Nat) (K : KI) : Prop := ∃ s : List UInt8, o = some (1, s.map (fun b => .int .u8 b.toNat)) ∧ K (.str s) fp [] 0

def opX (P : Program) (L : Src → Option V) (H : Hp) (K : KI) : Ins → Prop
  | .call b f args => (match L f, lk L args with
    | some (.fn f fs cs), some vs => (match b with | true => CallP P f (fs ++ vs ++ cs) K | false => CallA P f (fs ++ vs ++ cs) H K)
    | _, _ => False)
  | .bts x => (match L x with | some v => Bts (rd H.m v) (fpS v) K | none => False)
  | i => fin (opI L H i) K

def setN : Nat → V → List V → List V
  | _, _, [] => []
  | 0, v, _ :: r => v :: r
  | n + 1, v, x :: r => x :: setN n v r

theorem setN_self : ∀ {n : Nat} {v : V} {l : List V}, nth n l = some v → setN n v l = l
  | _, _, [], h => by simp [setN]
  | 0, v, x :: r, h => by simp [nth] at h; subst h; rfl
  | n + 1, v, x :: r, h => by simp only [nth] at h; simp only [setN, setN_self h]

def pkF (b : Bool) (v : V) (o : Option V) : Option V := match b with | true => some v | false => o
theorem pkF_t {v : V} {o : Option V} : pkF true v o = some v := rfl
theorem pkF_f {v : V} {o : Option V} : pkF false v o = o := rfl
theorem find_n {t : Nat} : find t [] = none := rfl
theorem find_c {t t' : Nat} {v : V} {r : Sg} : find t ((t', v) :: r) = pkF (t == t') v (find t r) := by
  simp only [find]
  by_cases h : t = t'
  · subst h; simp [pkF]
  · have : (t == t') = false := by simpa using h
    rw [if_neg h, this]; rfl
def consO (t : Nat) (o : Option V) (r : Option Sg) : Option Sg := match o with | some v => (match r with | some σ => some ((t, v) :: σ) | none => none) | none => none
theorem consO_s {t : Nat} {v : V} {σ : Sg} : consO t (some v) (some σ) = some ((t, v) :: σ) := rfl
def outO (L : Src → Option V) : List (Nat × Src) → Option Sg
  | [] => some []
  | (t, s) :: os => consO t (L s) (outO L os)
def finS (o : Option Sg) (H : Hp) (Q : QA) : Prop := match o with | some σ => Q .norm σ H | none => False
def Ot (σ : Sg) (outs : List (Nat × Src)) (Q : QA) : List V → Hp → Prop := fun env H => finS (outO (look σ env) outs) H Q

def gd (o : Option V) (b : Bool) (x y z : Prop) : Prop := match o with
  | some (.bool c) => (c = b → x) ∧ (c = !b → y)
  | some (.tup []) => z
  | _ => False

def evX1 (P : Program) (σ : Sg) : List RI → List V → Lg → Hp → (List V → Hp → Prop) → Prop
  | [], env, _, H, K => K env H
  | i :: is, env, lg, H, K =>
    match i.g with
    | none => opX P (look σ env) H (fun v fp ds k => compat i.u lg fp (ds.map (·.1)) ∧ evX1 P σ is (v :: env) ((fp, ds.map (·.1)) :: lg) ⟨H.n + k, appd ds H.m⟩ K) i.i
    | some (d, b) => gd (nth d env) b
        (opX P (look σ (setN d (.bool b) env)) H (fun v fp ds k => compat i.u lg fp (ds.map (·.1)) ∧ evX1 P σ is (v :: setN d (.bool b) env) ((fp, ds.map (·.1)) :: lg) ⟨H.n + k, appd ds H.m⟩ K) i.i)
        (evX1 P σ is (.tup [] :: setN d (.bool !b) env) (([], []) :: lg) H K)
        (evX1 P σ is (.tup [] :: env) (([], []) :: lg) H K)

def Nx (P : Program) (σ : Sg) (is : List RI) (env : List V) (lg : Lg) (H : Hp) (u : List Nat) (K : List V → Hp → Prop) : KI :=
  fun v fp ds k => compat u lg fp (ds.map (·.1)) ∧ evX1 P σ is (v :: env) ((fp, ds.map (·.1)) :: lg) ⟨H.n + k, appd ds H.m⟩ K

def evX (P : Program) : C → Sg → Hp → QA → Prop
  | .reg _ is outs, σ, H, Q => evX1 P σ is [] [] H (Ot σ outs Q)
  | .seq a b, σ, H, Q => evX P a σ H fun e σ' H' => match e with | .norm => evX P b σ' H' Q | e => Q e σ' H'
  | .cut a b, σ, H, Q => ∃ M : Sg → Hp → Prop, (evX P a σ H fun e σ' H' => match e with | .norm => M σ' H' | e => Q e σ' H') ∧ ∀ σ' H', M σ' H' → evX P b σ' H' Q
  | .cond s a b, σ, H, Q => gd (look σ [] s) true (evX P a σ H Q) (evX P b σ H Q) False
  | .block id a, σ, H, Q => evX P a σ H fun e σ' H' => if e = .exit id then Q .norm σ' H' else Q e σ' H'
  | .loop a, σ, H, Q => ∃ (I : Sg → Hp → Prop) (μ : Sg → Hp → Nat), I σ H ∧ ∀ σ H, I σ H → evX P a σ H fun e σ' H' => match e with
    | .norm => I σ' H' ∧ μ σ' H' < μ σ H
    | e => Q e σ' H'
  | .exit id, σ, H, Q => Q (.exit id) σ H
  | .ret, σ, H, Q => Q .ret σ H
  | .skip, σ, H, Q => Q .norm σ H
  | .frz a, σ, H, Q => evX P a σ H Q ∨ ∃ fz : List Nat, evX P a (frzS fz H.m σ) ⟨H.n, without fz H.m⟩ Q

def Th (P : Program) (b : C) (Q : QA) : QA := fun e σ' H' => match e with | .norm => evX P b σ' H' Q | e => Q e σ' H'
def Bk (id : Nat) (Q : QA) : QA := fun e σ' H' => if e = .exit id then Q .norm σ' H' else Q e σ' H'
/-- Behind a round. -/
def Rd (I : Sg → Hp → Prop) (μ : Sg → Hp → Nat) (n : Nat) (Q : QA) : QA := fun e σ' H' => match e with
    | .norm => I σ' H' ∧ μ σ' H' < n
    | e => Q e σ' H'

def evG (P : Program) (σ : Sg) (is : List RI) (env : List V) (lg : Lg) (H : Hp) (u : List Nat) (K : List V → Hp → Prop) (i : Ins) (d : Nat) (b : Bool) (o : Option V) : Prop :=
  gd o b (opX P (look σ (setN d (.bool b) env)) H (Nx P σ is (setN d (.bool b) env) lg H u K) i) (evX1 P σ is (.tup [] :: setN d (.bool !b) env) (([], []) :: lg) H K) (evX1 P σ is (.tup [] :: env) (([], []) :: lg) H K)
def evC (P : Program) (a b : C) (σ : Sg) (H : Hp) (Q : QA) (o : Option V) : Prop := gd o true (evX P a σ H Q) (evX P b σ H Q) False

section
variable {P : Program} {σ : Sg} {H : Hp} {Q : QA} {env : List V} {lg : Lg} {K : List V → Hp → Prop} {is : List RI}
theorem x_nil : evX1 P σ [] env lg H K = K env H := rfl
theorem x_op {i : Ins} {u : List Nat} : evX1 P σ (⟨i, none, u⟩ :: is) env lg H K = opX P (look σ env) H (Nx P σ is env lg H u K) i := rfl
theorem x_p {i : Ins} : evX1 P σ (p i :: is) env lg H K = opX P (look σ env) H (Nx P σ is env lg H [] K) i := rfl
theorem x_g {i : Ins} {u : List Nat} {d : Nat} {b : Bool} : evX1 P σ (⟨i, some (d, b), u⟩ :: is) env lg H K = evG P σ is env lg H u K i d b (nth d env) := rfl
theorem g_tt {i : Ins} {u : List Nat} {d : Nat} : evG P σ is env lg H u K i d true (some (.bool true)) = opX P (look σ (setN d (.bool true) env)) H (Nx P σ is (setN d (.bool true) env) lg H u K) i := by simp [evG, gd]
theorem g_ff {i : Ins} {u : List Nat} {d : Nat} : evG P σ is env lg H u K i d false (some (.bool false)) = opX P (look σ (setN d (.bool false) env)) H (Nx P σ is (setN d (.bool false) env) lg H u K) i := by simp [evG, gd]
theorem g_tf {i : Ins} {u : List Nat} {d : Nat} : evG P σ is env lg H u K i d true (some (.bool false)) = evX1 P σ is (.tup [] :: setN d (.bool false) env) (([], []) :: lg) H K := by simp [evG, gd]
theorem g_ft {i : Ins} {u : List Nat} {d : Nat} : evG P σ is env lg H u K i d false (some (.bool true)) = evX1 P σ is (.tup [] :: setN d (.bool true) env) (([], []) :: lg) H K := by simp [evG, gd]
theorem g_0 {i : Ins} {u : List Nat} {d : Nat} {b : Bool} : evG P σ is env lg H u K i d b (some (.tup [])) = evX1 P σ is (.tup [] :: env) (([], []) :: lg) H K := rfl
/-- A guard that may go both ways. -/
theorem g_b {i : Ins} {u : List Nat} {d : Nat} {b c : Bool} : evG P σ is env lg H u K i d b (some (.bool c)) = ((c = b → opX P (look σ (setN d (.bool b) env)) H (Nx P σ is (setN d (.bool b) env) lg H u K) i) ∧ (c = !b → evX1 P σ is (.tup [] :: setN d (.bool !b) env) (([], []) :: lg) H K)) := rfl
theorem g_d {i : Ins} {u : List Nat} {d : Nat} {b : Bool} {q : Prop} [Decidable q] : evG P σ is env lg H u K i d b (some (.bool (decide q))) = ((decide q = b → opX P (look σ (setN d (.bool b) env)) H (Nx P σ is (setN d (.bool b) env) lg H u K) i) ∧ (decide q = !b → evX1 P σ is (.tup [] :: setN d (.bool !b) env) (([], []) :: lg) H K)) := rfl
theorem g_n {i : Ins} {u : List Nat} {d : Nat} {b c : Bool} : evG P σ is env lg H u K i d b (some (.bool !c)) = (((!c) = b → opX P (look σ (setN d (.bool b) env)) H (Nx P σ is (setN d (.bool b) env) lg H u K) i) ∧ ((!c) = !b → evX1 P σ is (.tup [] :: setN d (.bool !b) env) (([], []) :: lg) H K)) := rfl
theorem g_e {i : Ins} {u : List Nat} {d : Nat} {b x y : Bool} : evG P σ is env lg H u K i d b (some (.bool (x == y))) = (((x == y) = b → opX P (look σ (setN d (.bool b) env)) H (Nx P σ is (setN d (.bool b) env) lg H u K) i) ∧ ((x == y) = !b → evX1 P σ is (.tup [] :: setN d (.bool !b) env) (([], []) :: lg) H K)) := rfl
theorem x_nx {u : List Nat} {v : V} {fp : List Nat} {ds : List (Nat × Option Ob)} {k : Nat} : Nx P σ is env lg H u K v fp ds k =
  (compat u lg fp (ds.map (·.1)) ∧ evX1 P σ is (v :: env) ((fp, ds.map (·.1)) :: lg) ⟨H.n + k, appd ds H.m⟩ K) := rfl
theorem x_ot {outs : List (Nat × Src)} : Ot σ outs Q env H = finS (outO (look σ env) outs) H Q := rfl
theorem x_reg {d : Bool} {outs : List (Nat × Src)} : evX P (.reg d is outs) σ H Q = evX1 P σ is [] [] H (Ot σ outs Q) := rfl
theorem x_seq {a b : C} : evX P (.seq a b) σ H Q = evX P a σ H (Th P b Q) := rfl
theorem x_cond {s : Src} {a b : C} : evX P (.cond s a b) σ H Q = evC P a b σ H Q (look σ [] s) := rfl
theorem c_t {a b : C} : evC P a b σ H Q (some (.bool true)) = evX P a σ H Q := by simp [evC, gd]
theorem c_f {a b : C} : evC P a b σ H Q (some (.bool false)) = evX P b σ H Q := by simp [evC, gd]
/-- A branch that may go both ways. -/
theorem c_b {a b : C} {c : Bool} : evC P a b σ H Q (some (.bool c)) = ((c = true → evX P a σ H Q) ∧ (c = false → evX P b σ H Q)) := rfl
theorem c_d {a b : C} {q : Prop} [Decidable q] : evC P a b σ H Q (some (.bool (decide q))) = ((q → evX P a σ H Q) ∧ (¬ q → evX P b σ H Q)) := by simp [evC, gd]
theorem c_n {a b : C} {c : Bool} : evC P a b σ H Q (some (.bool !c)) = ((c = false → evX P a σ H Q) ∧ (c = true → evX P b σ H Q)) := by simp [evC, gd]
theorem c_e {a b : C} {x y : Bool} : evC P a b σ H Q (some (.bool (x == y))) = ((x = y → evX P a σ H Q) ∧ (¬ x = y → evX P b σ H Q)) := by simp [evC, gd]
theorem x_block {id : Nat} {a : C} : evX P (.block id a) σ H Q = evX P a σ H (Bk id Q) := rfl
theorem x_exit {id : Nat} : evX P (.exit id) σ H Q = Q (.exit id) σ H := rfl
theorem x_ret : evX P .ret σ H Q = Q .ret σ H := rfl
theorem x_skip : evX P .skip σ H Q = Q .norm σ H := rfl
theorem th_n {b : C} : Th P b Q .norm σ H = evX P b σ H Q := rfl
theorem th_e {b : C} {id : Nat} : Th P b Q (.exit id) σ H = Q (.exit id) σ H := rfl
theorem th_r {b : C} : Th P b Q .ret σ H = Q .ret σ H := rfl
theorem bk_n {id : Nat} : Bk id Q .norm σ H = Q .norm σ H := rfl
theorem bk_e {id i : Nat} : Bk id Q (.exit i) σ H = if i = id then Q .norm σ H else Q (.exit i) σ H := by simp [Bk]
theorem bk_r {id : Nat} : Bk id Q .ret σ H = Q .ret σ H := rfl
theorem rd_n {I : Sg → Hp → Prop} {μ : Sg → Hp → Nat} {n : Nat} : Rd I μ n Q .norm σ H = (I σ H ∧ μ σ H < n) := rfl
theorem rd_e {I : Sg → Hp → Prop} {μ : Sg → Hp → Nat} {n id : Nat} : Rd I μ n Q (.exit id) σ H = Q (.exit id) σ H := rfl
theorem rd_r {I : Sg → Hp → Prop} {μ : Sg → Hp → Nat} {n : Nat} : Rd I μ n Q .ret σ H = Q .ret σ H := rfl
theorem fin_s {c : Prop} {v : V} {fp : List Nat} {ds : List (Nat × Option Ob)} {k : Nat} {K : KI} : fin (some (c, v, fp, ds, k)) K = (c ∧ K v fp ds k) := rfl
theorem fin_o {c : Prop} {v : V} {K : KI} : fin (okc c v) K = (c ∧ K v [] [] 0) := rfl
theorem finS_s {σ' : Sg} : finS (some σ') H Q = Q .norm σ' H := rfl
theorem compat_nil {lg : Lg} {fp ds : List Nat} : compat [] lg fp ds = True := by simp [compat]
theorem upd_eq {m : Hm} {id : Nat} {o : Option Ob} : upd m id o id = o := by simp [upd]
theorem upd_ne {m : Hm} {id i : Nat} {o : Option Ob} (h : i ≠ id) : upd m id o i = m i := by simp [upd, h]
theorem x_loop {a : C} (I : Sg → Hp → Prop) (μ : Sg → Hp → Nat) (h0 : I σ H) (h : ∀ σ H, I σ H → evX P a σ H (Rd I μ (μ σ H) Q)) : evX P (.loop a) σ H Q := ⟨I, μ, h0, h⟩
theorem x_frz {a : C} (fz : List Nat) (h : evX P a (frzS fz H.m σ) ⟨H.n, without fz H.m⟩ Q) : evX P (.frz a) σ H Q := .inr ⟨fz, h⟩
theorem x_frz0 {a : C} (h : evX P a σ H Q) : evX P (.frz a) σ H Q := .inl h
end

theorem cell_b {x : Bool} : V.cell (.bool x) = true := rfl
theorem size_b {x : Bool} : V.size (.bool x) = 1 := rfl
theorem isEl_b {x : Bool} : V.isEl (.bool x) = true := rfl
theorem parts_b {x : Bool} : V.parts (.bool x) = [.bool x] := rfl
theorem getC_b {x : Bool} : getC none 0 (.bool x) = some (.bool x) := rfl
theorem setC_b {x : Bool} {v : V} : setC none 0 (.bool x) v = if v.cell = true then some v else none := by cases v <;> rfl
theorem cell_i {x : IntKind} {y : Int} : V.cell (.int x y) = true := rfl
theorem size_i {x : IntKind} {y : Int} : V.size (.int x y) = 1 := rfl
theorem isEl_i {x : IntKind} {y : Int} : V.isEl (.int x y) = true := rfl
theorem parts_i {x : IntKind} {y : Int} : V.parts (.int x y) = [.int x y] := rfl
theorem getC_i {x : IntKind} {y : Int} : getC none 0 (.int x y) = some (.int x y) := rfl
theorem setC_i {x : IntKind} {y : Int} {v : V} : setC none 0 (.int x y) v = if v.cell = true then some v else none := by cases v <;> rfl
theorem cell_s {x : List UInt8} : V.cell (.str x) = true := rfl
theorem size_s {x : List UInt8} : V.size (.str x) = 1 := rfl
theorem isEl_s {x : List UInt8} : V.isEl (.str x) = true := rfl
theorem parts_s {x : List UInt8} : V.parts (.str x) = [.str x] := rfl
theorem getC_s {x : List UInt8} : getC none 0 (.str x) = some (.str x) := rfl
theorem setC_s {x : List UInt8} {v : V} : setC none 0 (.str x) v = if v.cell = true then some v else none := by cases v <;> rfl
theorem cell_np : V.cell (.nilp) = true := rfl
theorem size_np : V.size (.nilp) = 1 := rfl
theorem isEl_np : V.isEl (.nilp) = true := rfl
theorem parts_np : V.parts (.nilp) = [.nilp] := rfl
theorem getC_np : getC none 0 (.nilp) = some (.nilp) := rfl
theorem setC_np {v : V} : setC none 0 (.nilp) v = if v.cell = true then some v else none := by cases v <;> rfl
theorem cell_p {x y z : Nat} : V.cell (.ptr x y z) = true := rfl
theorem size_p {x y z : Nat} : V.size (.ptr x y z) = 1 := rfl
theorem isEl_p {x y z : Nat} : V.isEl (.ptr x y z) = true := rfl
theorem parts_p {x y z : Nat} : V.parts (.ptr x y z) = [.ptr x y z] := rfl
theorem getC_p {x y z : Nat} : getC none 0 (.ptr x y z) = some (.ptr x y z) := rfl
theorem setC_p {x y z : Nat} {v : V} : setC none 0 (.ptr x y z) v = if v.cell = true then some v else none := by cases v <;> rfl
theorem cell_fp {x : V} {y : Nat} : V.cell (.fptr x y) = true := rfl
theorem size_fp {x : V} {y : Nat} : V.size (.fptr x y) = 1 := rfl
theorem isEl_fp {x : V} {y : Nat} : V.isEl (.fptr x y) = true := rfl
theorem parts_fp {x : V} {y : Nat} : V.parts (.fptr x y) = [.fptr x y] := rfl
theorem getC_fp {x : V} {y : Nat} : getC none 0 (.fptr x y) = some (.fptr x y) := rfl
theorem setC_fp {x : V} {y : Nat} {v : V} : setC none 0 (.fptr x y) v = if v.cell = true then some v else none := by cases v <;> rfl
theorem cell_sl {x y z : Nat} : V.cell (.sl x y z) = true := rfl
theorem size_sl {x y z : Nat} : V.size (.sl x y z) = 1 := rfl
theorem isEl_sl {x y z : Nat} : V.isEl (.sl x y z) = true := rfl
theorem parts_sl {x y z : Nat} : V.parts (.sl x y z) = [.sl x y z] := rfl
theorem getC_sl {x y z : Nat} : getC none 0 (.sl x y z) = some (.sl x y z) := rfl
theorem setC_sl {x y z : Nat} {v : V} : setC none 0 (.sl x y z) v = if v.cell = true then some v else none := by cases v <;> rfl
theorem cell_fs {x : St} {y : Nat} {z : List V} : V.cell (.fsl x y z) = true := rfl
theorem size_fs {x : St} {y : Nat} {z : List V} : V.size (.fsl x y z) = 1 := rfl
theorem isEl_fs {x : St} {y : Nat} {z : List V} : V.isEl (.fsl x y z) = true := rfl
theorem parts_fs {x : St} {y : Nat} {z : List V} : V.parts (.fsl x y z) = [.fsl x y z] := rfl
theorem getC_fs {x : St} {y : Nat} {z : List V} : getC none 0 (.fsl x y z) = some (.fsl x y z) := rfl
theorem setC_fs {x : St} {y : Nat} {z : List V} {v : V} : setC none 0 (.fsl x y z) v = if v.cell = true then some v else none := by cases v <;> rfl
theorem cell_fn {x : Nat} {y z : List V} : V.cell (.fn x y z) = true := rfl
theorem size_fn {x : Nat} {y z : List V} : V.size (.fn x y z) = 1 := rfl
theorem isEl_fn {x : Nat} {y z : List V} : V.isEl (.fn x y z) = true := rfl
theorem parts_fn {x : Nat} {y z : List V} : V.parts (.fn x y z) = [.fn x y z] := rfl
theorem getC_fn {x : Nat} {y z : List V} : getC none 0 (.fn x y z) = some (.fn x y z) := rfl
theorem setC_fn {x : Nat} {y z : List V} {v : V} : setC none 0 (.fn x y z) v = if v.cell = true then some v else none := by cases v <;> rfl
theorem cell_nf : V.cell (.nilf) = true := rfl
theorem size_nf : V.size (.nilf) = 1 := rfl
theorem isEl_nf : V.isEl (.nilf) = true := rfl
theorem parts_nf : V.parts (.nilf) = [.nilf] := rfl
theorem getC_nf : getC none 0 (.nilf) = some (.nilf) := rfl
theorem setC_nf {v : V} : setC none 0 (.nilf) v = if v.cell = true then some v else none := by cases v <;> rfl
theorem cell_ic {x : Nat} {y : V} : V.cell (.ifc x y) = true := rfl
theorem size_ic {x : Nat} {y : V} : V.size (.ifc x y) = 1 := rfl
theorem isEl_ic {x : Nat} {y : V} : V.isEl (.ifc x y) = true := rfl
theorem parts_ic {x : Nat} {y : V} : V.parts (.ifc x y) = [.ifc x y] := rfl
theorem getC_ic {x : Nat} {y : V} : getC none 0 (.ifc x y) = some (.ifc x y) := rfl
theorem setC_ic {x : Nat} {y : V} {v : V} : setC none 0 (.ifc x y) v = if v.cell = true then some v else none := by cases v <;> rfl
theorem cell_ni : V.cell (.nili) = true := rfl
theorem size_ni : V.size (.nili) = 1 := rfl
theorem isEl_ni : V.isEl (.nili) = true := rfl
theorem parts_ni : V.parts (.nili) = [.nili] := rfl
theorem getC_ni : getC none 0 (.nili) = some (.nili) := rfl
theorem setC_ni {v : V} : setC none 0 (.nili) v = if v.cell = true then some v else none := by cases v <;> rfl
theorem cell_m {x : Nat} : V.cell (.map x) = true := rfl
theorem size_m {x : Nat} : V.size (.map x) = 1 := rfl
theorem isEl_m {x : Nat} : V.isEl (.map x) = true := rfl
theorem parts_m {x : Nat} : V.parts (.map x) = [.map x] := rfl
theorem getC_m {x : Nat} : getC none 0 (.map x) = some (.map x) := rfl
theorem setC_m {x : Nat} {v : V} : setC none 0 (.map x) v = if v.cell = true then some v else none := by cases v <;> rfl
theorem cell_nm : V.cell (.nilm) = true := rfl
theorem size_nm : V.size (.nilm) = 1 := rfl
theorem isEl_nm : V.isEl (.nilm) = true := rfl
theorem parts_nm : V.parts (.nilm) = [.nilm] := rfl
theorem getC_nm : getC none 0 (.nilm) = some (.nilm) := rfl
theorem setC_nm {v : V} : setC none 0 (.nilm) v = if v.cell = true then some v else none := by cases v <;> rfl
theorem size_a {l : List V} : V.size (.agg l) = l.length := rfl
theorem cell_a {l : List V} : V.cell (.agg l) = false := rfl
theorem parts_a {l : List V} : V.parts (.agg l) = l := rfl
theorem isEl_a {l : List V} : V.isEl (.agg l) = true := rfl
theorem getC_a {l : List V} {i : Nat} : getC none i (.agg l) = l[i]? := by simp [getC]
theorem getC_k {l : List V} {i n : Nat} : getC (some n) i (.agg l) = if i + n ≤ l.length then some (.agg ((l.drop i).take n)) else none := by simp [getC]
theorem setC_a {l : List V} {i : Nat} {v : V} : setC none i (.agg l) v = if i < l.length ∧ v.cell = true then some (.agg (l.set i v)) else none := by simp [setC]
theorem setC_k {l y : List V} {i n : Nat} : setC (some n) i (.agg l) (.agg y) = if y.length = n ∧ i + n ≤ l.length then some (.agg (l.take i ++ y ++ l.drop (i + n))) else none := by simp [setC]

theorem frz_nil {fz : List Nat} {m : Hm} : frzS fz m [] = [] := rfl
theorem frz_cons {fz : List Nat} {m : Hm} {t : Nat} {v : V} {σ : Sg} : frzS fz m ((t, v) :: σ) = (t, frzV fz m v) :: frzS fz m σ := rfl
theorem frz_c {fz : List Nat} {m : Hm} {v : V} (h : v.closed = true) : frzV fz m v = v := by simp [frzV, snap, h]
theorem frz_b {fz : List Nat} {m : Hm} {b : Bool} : frzV fz m (.bool b) = .bool b := frz_c rfl
theorem frz_i {fz : List Nat} {m : Hm} {k : IntKind} {n : Int} : frzV fz m (.int k n) = .int k n := frz_c rfl
theorem frz_s {fz : List Nat} {m : Hm} {s : List UInt8} : frzV fz m (.str s) = .str s := frz_c rfl
theorem frz_f {fz : List Nat} {m : Hm} {st : St} {sz : Nat} {l : List V} (h : closedL l = true) : frzV fz m (.fsl st sz l) = .fsl st sz l := frz_c (by simpa [V.closed] using h)
theorem mapO_closed {n : Nat} {m : Hm} : ∀ {l : List V}, closedL l = true → mapO (snap n m) l = some l
  | [], _ => rfl
  | v :: l, h => by
    simp only [closedL, Bool.and_eq_true] at h
    have e : snap n m v = some v := by cases n <;> simp [snap, h.1]
    simp [mapO, e, mapO_closed h.2]
theorem frz_sl {fz : List Nat} {m : Hm} {id off len sz : Nat} {l : List V} (h : m id = some (.arr sz l)) (hi : id ∈ fz) (hl : off + len ≤ l.length) (hc : closedL l = true) : frzV fz m (.sl id off len) = .fsl .loose sz ((l.drop off).take len) := by
  have hc' : closedL ((l.drop off).take len) = true := by
    rw [closedL_iff] at hc ⊢
    exact fun v hv => hc v (List.mem_of_mem_drop (List.mem_of_mem_take hv))
  have e0 : only fz m id = some (.arr sz l) := by simp [only, hi, h]
  rw [frzV, snap, if_neg (by simp [V.closed])]
  simp only [e0, hl, if_true, mapO_closed hc']

theorem fin_mono {o : Rs} {K K' : KI} (h : ∀ v fp ds k, K v fp ds k → K' v fp ds k) (k : fin o K) : fin o K' := by
  unfold fin at k ⊢
  split at k
  · exact ⟨k.1, h _ _ _ _ k.2⟩
  · exact k

theorem lk_wvs {L : Src → Option V} {ss : List Src} {vs : List V} {K : List V → Prop} (h : lk L ss = some vs) (k : K vs) : wvs L ss K := lk_sound h k

theorem opX_sound {P : Program} {L : Src → Option V} {H : Hp} {K K' : KI} (hK : ∀ v fp ds k, K v fp ds k → K' v fp ds k) (i : Ins) (h : opX P L H K i) : evI P L H K' i := by
  unfold opX at h
  split at h
  · rename_i b f args
    split at h
    · rename_i f fs cs vs h1 h2
      simp only [evI, h1, wv]
      refine lk_sound h2 ?_
      split at h
      · obtain ⟨r, k1, k2⟩ := h
        simp only [if_true]
        exact ⟨r, k1, hK _ _ _ _ k2⟩
      · obtain ⟨fp, r, ds, k, k1, k2⟩ := h
        rw [if_neg (by decide)]
        exact ⟨fp, r, ds, k, k1, hK _ _ _ _ k2⟩
    · exact h.elim
  · rename_i x
    split at h
    · rename_i v h1
      obtain ⟨s, k1, k2⟩ := h
      simp only [evI, h1, wv, k1]
      exact ⟨trivial, s, rfl, hK _ _ _ _ k2⟩
    · exact h.elim
  · exact opI_sound _ (fin_mono hK h)

theorem outO_sound {L : Src → Option V} : ∀ {os : List (Nat × Src)} {σ : Sg} {K : Sg → Prop}, outO L os = some σ → K σ → outsE L os K
  | [], σ, K, h, k => by simp [outO] at h; subst h; exact k
  | (t, s) :: os, σ, K, h, k => by
    simp only [outO, consO] at h
    split at h
    · rename_i v hv
      split at h
      · rename_i σ' hs
        simp at h; subst h
        simp only [outsE, hv, wv]
        exact outO_sound (K := fun σ => K ((t, v) :: σ)) hs k
      · cases h
    · cases h

theorem evX1_sound {P : Program} {σ : Sg} {K K' : List V → Hp → Prop} (hK : ∀ env H, K env H → K' env H) : ∀ {is : List RI} {env : List V} {lg : Lg} {H : Hp}, evX1 P σ is env lg H K → evR P σ is env lg H K'
  | [], env, lg, H, h => hK _ _ h
  | i :: is, env, lg, H, h => by
    simp only [evX1] at h
    simp only [evR]
    split at h
    · rename_i hg
      simp only [hg]
      exact opX_sound (fun v fp ds k h => ⟨h.1, evX1_sound hK h.2⟩) _ h
    · rename_i d b hg
      simp only [hg]
      unfold gd at h
      split at h
      · rename_i c hc
        simp only [hc]
        by_cases hcb : c = b
        · rw [if_pos hcb]
          have := h.1 hcb
          subst hcb
          rw [setN_self hc] at this
          exact opX_sound (fun v fp ds k h => ⟨h.1, evX1_sound hK h.2⟩) _ this
        · rw [if_neg hcb]
          have hcn : c = !b := by cases c <;> cases b <;> simp at hcb ⊢
          have := h.2 hcn
          subst hcn
          rw [setN_self hc] at this
          exact evX1_sound hK this
      · rename_i hc; simp only [hc]; exact evX1_sound hK h
      · exact h.elim

theorem evX_sound {P : Program} : ∀ {c : C} {σ : Sg} {H : Hp} {Q Q' : QA}, (∀ e σ H, Q e σ H → Q' e σ H) → evX P c σ H Q → ev P c σ H Q' := by
  intro c
  induction c with
  | reg d is outs =>
    intro σ H Q Q' hQ h
    simp only [evX] at h; simp only [ev]
    refine evX1_sound (fun env H' h => ?_) h
    simp only [Ot, finS] at h
    split at h
    · rename_i σ' h1; exact outO_sound h1 (hQ _ _ _ h)
    · exact h.elim
  | seq a b iha ihb =>
    intro σ H Q Q' hQ h
    simp only [evX] at h; simp only [ev]
    refine iha (fun e σ' H' h => ?_) h
    cases e with
    | norm => exact ihb hQ h
    | exit id => exact hQ _ _ _ h
    | ret => exact hQ _ _ _ h
  | cut a b iha ihb =>
    intro σ H Q Q' hQ h
    simp only [evX] at h; simp only [ev]
    obtain ⟨M, h1, h2⟩ := h
    refine ⟨M, iha (fun e σ' H' h => ?_) h1, fun σ' H' h => ihb hQ (h2 σ' H' h)⟩
    cases e with
    | norm => exact h
    | exit id => exact hQ _ _ _ h
    | ret => exact hQ _ _ _ h
  | cond s a b iha ihb =>
    intro σ H Q Q' hQ h
    simp only [evX, gd] at h; simp only [ev]
    split at h
    · rename_i c hc
      simp only [hc]
      exact ⟨fun e => iha hQ (h.1 e), fun e => ihb hQ (h.2 (by simp [e]))⟩
    · exact h.elim
    · exact h.elim
  | block id a iha =>
    intro σ H Q Q' hQ h
    simp only [evX] at h; simp only [ev]
    refine iha (fun e σ' H' h => ?_) h
    split at h
    · rename_i he; rw [if_pos he]; exact hQ _ _ _ h
    · rename_i he; rw [if_neg he]; exact hQ _ _ _ h
  | loop a iha =>
    intro σ H Q Q' hQ h
    simp only [evX] at h; simp only [ev]
    obtain ⟨I, μ, h0, h1⟩ := h
    refine ⟨I, μ, h0, fun σ H hi => iha (fun e σ' H' h => ?_) (h1 σ H hi)⟩
    cases e with
    | norm => exact h
    | exit id => exact hQ _ _ _ h
    | ret => exact hQ _ _ _ h
  | exit id => intro σ H Q Q' hQ h; exact hQ _ _ _ h
  | ret => intro σ H Q Q' hQ h; exact hQ _ _ _ h
  | skip => intro σ H Q Q' hQ h; exact hQ _ _ _ h
  | frz a iha =>
    intro σ H Q Q' hQ h
    simp only [evX] at h; simp only [ev]
    rcases h with h | ⟨fz, h⟩
    · exact .inl (iha hQ h)
    · exact .inr ⟨fz, iha hQ h⟩

theorem ofX {P : Program} {c : C} {σ : Sg} {H : Hp} {Q : QA} (h : evX P c σ H Q) : ev P c σ H Q := evX_sound (fun _ _ _ h => h) h

/-- The rules of a step, at once. -/
theorem xr : (∀ {P : Program} {σ : Sg} {H : Hp} {env : List V} {lg : Lg} {K : List V → Hp → Prop}, evX1 P σ [] env lg H K = K env H) ∧
    (∀ {P : Program} {σ : Sg} {H : Hp} {env : List V} {lg : Lg} {K : List V → Hp → Prop} {is : List RI} {i : Ins} {u : List Nat}, evX1 P σ (⟨i, none, u⟩ :: is) env lg H K = opX P (look σ env) H (Nx P σ is env lg H u K) i) ∧
    (∀ {P : Program} {σ : Sg} {H : Hp} {env : List V} {lg : Lg} {K : List V → Hp → Prop} {is : List RI} {i : Ins}, evX1 P σ (p i :: is) env lg H K = opX P (look σ env) H (Nx P σ is env lg H [] K) i) ∧
    (∀ {P : Program} {σ : Sg} {H : Hp} {env : List V} {lg : Lg} {K : List V → Hp → Prop} {is : List RI} {i : Ins} {u : List Nat} {d : Nat} {b : Bool}, evX1 P σ (⟨i, some (d, b), u⟩ :: is) env lg H K = evG P σ is env lg H u K i d b (nth d env)) ∧
    (∀ {P : Program} {σ : Sg} {H : Hp} {env : List V} {lg : Lg} {K : List V → Hp → Prop} {is : List RI} {i : Ins} {u : List Nat} {d : Nat}, evG P σ is env lg H u K i d true (some (.bool true)) = opX P (look σ (setN d (.bool true) env)) H (Nx P σ is (setN d (.bool true) env) lg H u K) i) ∧
    (∀ {P : Program} {σ : Sg} {H : Hp} {env : List V} {lg : Lg} {K : List V → Hp → Prop} {is : List RI} {i : Ins} {u : List Nat} {d : Nat}, evG P σ is env lg H u K i d false (some (.bool false)) = opX P (look σ (setN d (.bool false) env)) H (Nx P σ is (setN d (.bool false) env) lg H u K) i) ∧
    (∀ {P : Program} {σ : Sg} {H : Hp} {env : List V} {lg : Lg} {K : List V → Hp → Prop} {is : List RI} {i : Ins} {u : List Nat} {d : Nat}, evG P σ is env lg H u K i d true (some (.bool false)) = evX1 P σ is (.tup [] :: setN d (.bool false) env) (([], []) :: lg) H K) ∧
    (∀ {P : Program} {σ : Sg} {H : Hp} {env : List V} {lg : Lg} {K : List V → Hp → Prop} {is : List RI} {i : Ins} {u : List Nat} {d : Nat}, evG P σ is env lg H u K i d false (some (.bool true)) = evX1 P σ is (.tup [] :: setN d (.bool true) env) (([], []) :: lg) H K) ∧
    (∀ {P : Program} {σ : Sg} {H : Hp} {env : List V} {lg : Lg} {K : List V → Hp → Prop} {is : List RI} {i : Ins} {u : List Nat} {d : Nat} {b : Bool}, evG P σ is env lg H u K i d b (some (.tup [])) = evX1 P σ is (.tup [] :: env) (([], []) :: lg) H K) ∧
    (∀ {P : Program} {σ : Sg} {H : Hp} {env : List V} {lg : Lg} {K : List V → Hp → Prop} {is : List RI} {i : Ins} {u : List Nat} {d : Nat} {b : Bool} {q : Prop} [Decidable q], evG P σ is env lg H u K i d b (some (.bool (decide q))) = ((decide q = b → opX P (look σ (setN d (.bool b) env)) H (Nx P σ is (setN d (.bool b) env) lg H u K) i) ∧ (decide q = !b → evX1 P σ is (.tup [] :: setN d (.bool !b) env) (([], []) :: lg) H K))) ∧
    (∀ {P : Program} {σ : Sg} {H : Hp} {env : List V} {lg : Lg} {K : List V → Hp → Prop} {is : List RI} {i : Ins} {u : List Nat} {d : Nat} {b c : Bool}, evG P σ is env lg H u K i d b (some (.bool !c)) = (((!c) = b → opX P (look σ (setN d (.bool b) env)) H (Nx P σ is (setN d (.bool b) env) lg H u K) i) ∧ ((!c) = !b → evX1 P σ is (.tup [] :: setN d (.bool !b) env) (([], []) :: lg) H K))) ∧
    (∀ {P : Program} {σ : Sg} {H : Hp} {env : List V} {lg : Lg} {K : List V → Hp → Prop} {is : List RI} {i : Ins} {u : List Nat} {d : Nat} {b x y : Bool}, evG P σ is env lg H u K i d b (some (.bool (x == y))) = (((x == y) = b → opX P (look σ (setN d (.bool b) env)) H (Nx P σ is (setN d (.bool b) env) lg H u K) i) ∧ ((x == y) = !b → evX1 P σ is (.tup [] :: setN d (.bool !b) env) (([], []) :: lg) H K))) ∧
    (∀ {P : Program} {σ : Sg} {H : Hp} {env : List V} {lg : Lg} {K : List V → Hp → Prop} {is : List RI} {u : List Nat} {v : V} {fp : List Nat} {ds : List (Nat × Option Ob)} {k : Nat}, Nx P σ is env lg H u K v fp ds k = (compat u lg fp (ds.map (·.1)) ∧ evX1 P σ is (v :: env) ((fp, ds.map (·.1)) :: lg) ⟨H.n + k, appd ds H.m⟩ K)) ∧
    (∀ {σ : Sg} {H : Hp} {Q : QA} {env : List V} {outs : List (Nat × Src)}, Ot σ outs Q env H = finS (outO (look σ env) outs) H Q) ∧
    (∀ {P : Program} {σ : Sg} {H : Hp} {Q : QA} {is : List RI} {d : Bool} {outs : List (Nat × Src)}, evX P (.reg d is outs) σ H Q = evX1 P σ is [] [] H (Ot σ outs Q)) ∧
    (∀ {P : Program} {σ : Sg} {H : Hp} {Q : QA} {a b : C}, evX P (.seq a b) σ H Q = evX P a σ H (Th P b Q)) ∧
    (∀ {P : Program} {σ : Sg} {H : Hp} {Q : QA} {s : Src} {a b : C}, evX P (.cond s a b) σ H Q = evC P a b σ H Q (look σ [] s)) ∧
    (∀ {P : Program} {σ : Sg} {H : Hp} {Q : QA} {a b : C}, evC P a b σ H Q (some (.bool true)) = evX P a σ H Q) ∧
    (∀ {P : Program} {σ : Sg} {H : Hp} {Q : QA} {a b : C}, evC P a b σ H Q (some (.bool false)) = evX P b σ H Q) ∧
    (∀ {P : Program} {σ : Sg} {H : Hp} {Q : QA} {a b : C} {q : Prop} [Decidable q], evC P a b σ H Q (some (.bool (decide q))) = ((q → evX P a σ H Q) ∧ (¬ q → evX P b σ H Q))) ∧
    (∀ {P : Program} {σ : Sg} {H : Hp} {Q : QA} {a b : C} {c : Bool}, evC P a b σ H Q (some (.bool !c)) = ((c = false → evX P a σ H Q) ∧ (c = true → evX P b σ H Q))) ∧
    (∀ {P : Program} {σ : Sg} {H : Hp} {Q : QA} {a b : C} {x y : Bool}, evC P a b σ H Q (some (.bool (x == y))) = ((x = y → evX P a σ H Q) ∧ (¬ x = y → evX P b σ H Q))) ∧
    (∀ {P : Program} {σ : Sg} {H : Hp} {Q : QA} {id : Nat} {a : C}, evX P (.block id a) σ H Q = evX P a σ H (Bk id Q)) ∧
    (∀ {P : Program} {σ : Sg} {H : Hp} {Q : QA} {id : Nat}, evX P (.exit id) σ H Q = Q (.exit id) σ H) ∧
    (∀ {P : Program} {σ : Sg} {H : Hp} {Q : QA}, evX P .ret σ H Q = Q .ret σ H) ∧
    (∀ {P : Program} {σ : Sg} {H : Hp} {Q : QA}, evX P .skip σ H Q = Q .norm σ H) ∧
    (∀ {P : Program} {σ : Sg} {H : Hp} {Q : QA} {b : C}, Th P b Q .norm σ H = evX P b σ H Q) ∧
    (∀ {P : Program} {σ : Sg} {H : Hp} {Q : QA} {b : C} {id : Nat}, Th P b Q (.exit id) σ H = Q (.exit id) σ H) ∧
    (∀ {P : Program} {σ : Sg} {H : Hp} {Q : QA} {b : C}, Th P b Q .ret σ H = Q .ret σ H) ∧
    (∀ {σ : Sg} {H : Hp} {Q : QA} {id : Nat}, Bk id Q .norm σ H = Q .norm σ H) ∧
    (∀ {σ : Sg} {H : Hp} {Q : QA} {id i : Nat}, Bk id Q (.exit i) σ H = if i = id then Q .norm σ H else Q (.exit i) σ H) ∧
    (∀ {σ : Sg} {H : Hp} {Q : QA} {id : Nat}, Bk id Q .ret σ H = Q .ret σ H) ∧
    (∀ {σ : Sg} {H : Hp} {Q : QA} {I : Sg → Hp → Prop} {μ : Sg → Hp → Nat} {n : Nat}, Rd I μ n Q .norm σ H = (I σ H ∧ μ σ H < n)) ∧
    (∀ {σ : Sg} {H : Hp} {Q : QA} {I : Sg → Hp → Prop} {μ : Sg → Hp → Nat} {n id : Nat}, Rd I μ n Q (.exit id) σ H = Q (.exit id) σ H) ∧
    (∀ {σ : Sg} {H : Hp} {Q : QA} {I : Sg → Hp → Prop} {μ : Sg → Hp → Nat} {n : Nat}, Rd I μ n Q .ret σ H = Q .ret σ H) ∧
    (∀ {c : Prop} {v : V} {fp : List Nat} {ds : List (Nat × Option Ob)} {k : Nat} {K : KI}, fin (some (c, v, fp, ds, k)) K = (c ∧ K v fp ds k)) ∧
    (∀ {c : Prop} {v : V} {K : KI}, fin (okc c v) K = (c ∧ K v [] [] 0)) ∧
    (∀ {H : Hp} {Q : QA} {σ' : Sg}, finS (some σ') H Q = Q .norm σ' H) ∧
    (∀ {lg : Lg} {fp ds : List Nat}, compat [] lg fp ds = True) ∧
    (∀ {m : Hm} {id : Nat} {o : Option Ob}, upd m id o id = o) ∧
    (∀ {m : Hm} {id i : Nat} {o : Option Ob} (h : i ≠ id), upd m id o i = m i) :=
  ⟨by intros; exact x_nil, by intros; exact x_op, by intros; exact x_p, by intros; exact x_g, by intros; exact g_tt, by intros; exact g_ff, by intros; exact g_tf, by intros; exact g_ft, by intros; exact g_0, by intros; exact g_d, by intros; exact g_n, by intros; exact g_e, by intros; exact x_nx, by intros; exact x_ot, by intros; exact x_reg, by intros; exact x_seq, by intros; exact x_cond, by intros; exact c_t, by intros; exact c_f, by intros; exact c_d, by intros; exact c_n, by intros; exact c_e, by intros; exact x_block, by intros; exact x_exit, by intros; exact x_ret, by intros; exact x_skip, by intros; exact th_n, by intros; exact th_e, by intros; exact th_r, by intros; exact bk_n, by intros; exact bk_e, by intros; exact bk_r, by intros; exact rd_n, by intros; exact rd_e, by intros; exact rd_r, by intros; exact fin_s, by intros; exact fin_o, by intros; exact finS_s, by intros; exact compat_nil, by intros; exact upd_eq, fun h => upd_ne h⟩
/-- The rules of values, at once. -/
theorem vr : (∀ {x : Bool}, V.cell (.bool x) = true) ∧
    (∀ {x : Bool}, V.size (.bool x) = 1) ∧
    (∀ {x : Bool}, V.isEl (.bool x) = true) ∧
    (∀ {x : Bool}, V.parts (.bool x) = [.bool x]) ∧
    (∀ {x : Bool}, getC none 0 (.bool x) = some (.bool x)) ∧
    (∀ {x : Bool} {v : V}, setC none 0 (.bool x) v = if v.cell = true then some v else none) ∧
    (∀ {x : IntKind} {y : Int}, V.cell (.int x y) = true) ∧
    (∀ {x : IntKind} {y : Int}, V.size (.int x y) = 1) ∧
    (∀ {x : IntKind} {y : Int}, V.isEl (.int x y) = true) ∧
    (∀ {x : IntKind} {y : Int}, V.parts (.int x y) = [.int x y]) ∧
    (∀ {x : IntKind} {y : Int}, getC none 0 (.int x y) = some (.int x y)) ∧
    (∀ {x : IntKind} {y : Int} {v : V}, setC none 0 (.int x y) v = if v.cell = true then some v else none) ∧
    (∀ {x : List UInt8}, V.cell (.str x) = true) ∧
    (∀ {x : List UInt8}, V.size (.str x) = 1) ∧
    (∀ {x : List UInt8}, V.isEl (.str x) = true) ∧
    (∀ {x : List UInt8}, V.parts (.str x) = [.str x]) ∧
    (∀ {x : List UInt8}, getC none 0 (.str x) = some (.str x)) ∧
    (∀ {x : List UInt8} {v : V}, setC none 0 (.str x) v = if v.cell = true then some v else none) ∧
    (V.cell (.nilp) = true) ∧
    (V.size (.nilp) = 1) ∧
    (V.isEl (.nilp) = true) ∧
    (V.parts (.nilp) = [.nilp]) ∧
    (getC none 0 (.nilp) = some (.nilp)) ∧
    (∀  {v : V}, setC none 0 (.nilp) v = if v.cell = true then some v else none) ∧
    (∀ {x y z : Nat}, V.cell (.ptr x y z) = true) ∧
    (∀ {x y z : Nat}, V.size (.ptr x y z) = 1) ∧
    (∀ {x y z : Nat}, V.isEl (.ptr x y z) = true) ∧
    (∀ {x y z : Nat}, V.parts (.ptr x y z) = [.ptr x y z]) ∧
    (∀ {x y z : Nat}, getC none 0 (.ptr x y z) = some (.ptr x y z)) ∧
    (∀ {x y z : Nat} {v : V}, setC none 0 (.ptr x y z) v = if v.cell = true then some v else none) ∧
    (∀ {x : V} {y : Nat}, V.cell (.fptr x y) = true) ∧
    (∀ {x : V} {y : Nat}, V.size (.fptr x y) = 1) ∧
    (∀ {x : V} {y : Nat}, V.isEl (.fptr x y) = true) ∧
    (∀ {x : V} {y : Nat}, V.parts (.fptr x y) = [.fptr x y]) ∧
    (∀ {x : V} {y : Nat}, getC none 0 (.fptr x y) = some (.fptr x y)) ∧
    (∀ {x : V} {y : Nat} {v : V}, setC none 0 (.fptr x y) v = if v.cell = true then some v else none) ∧
    (∀ {x y z : Nat}, V.cell (.sl x y z) = true) ∧
    (∀ {x y z : Nat}, V.size (.sl x y z) = 1) ∧
    (∀ {x y z : Nat}, V.isEl (.sl x y z) = true) ∧
    (∀ {x y z : Nat}, V.parts (.sl x y z) = [.sl x y z]) ∧
    (∀ {x y z : Nat}, getC none 0 (.sl x y z) = some (.sl x y z)) ∧
    (∀ {x y z : Nat} {v : V}, setC none 0 (.sl x y z) v = if v.cell = true then some v else none) ∧
    (∀ {x : St} {y : Nat} {z : List V}, V.cell (.fsl x y z) = true) ∧
    (∀ {x : St} {y : Nat} {z : List V}, V.size (.fsl x y z) = 1) ∧
    (∀ {x : St} {y : Nat} {z : List V}, V.isEl (.fsl x y z) = true) ∧
    (∀ {x : St} {y : Nat} {z : List V}, V.parts (.fsl x y z) = [.fsl x y z]) ∧
    (∀ {x : St} {y : Nat} {z : List V}, getC none 0 (.fsl x y z) = some (.fsl x y z)) ∧
    (∀ {x : St} {y : Nat} {z : List V} {v : V}, setC none 0 (.fsl x y z) v = if v.cell = true then some v else none) ∧
    (∀ {x : Nat} {y z : List V}, V.cell (.fn x y z) = true) ∧
    (∀ {x : Nat} {y z : List V}, V.size (.fn x y z) = 1) ∧
    (∀ {x : Nat} {y z : List V}, V.isEl (.fn x y z) = true) ∧
    (∀ {x : Nat} {y z : List V}, V.parts (.fn x y z) = [.fn x y z]) ∧
    (∀ {x : Nat} {y z : List V}, getC none 0 (.fn x y z) = some (.fn x y z)) ∧
    (∀ {x : Nat} {y z : List V} {v : V}, setC none 0 (.fn x y z) v = if v.cell = true then some v else none) ∧
    (V.cell (.nilf) = true) ∧
    (V.size (.nilf) = 1) ∧
    (V.isEl (.nilf) = true) ∧
    (V.parts (.nilf) = [.nilf]) ∧
    (getC none 0 (.nilf) = some (.nilf)) ∧
    (∀  {v : V}, setC none 0 (.nilf) v = if v.cell = true then some v else none) ∧
    (∀ {x : Nat} {y : V}, V.cell (.ifc x y) = true) ∧
    (∀ {x : Nat} {y : V}, V.size (.ifc x y) = 1) ∧
    (∀ {x : Nat} {y : V}, V.isEl (.ifc x y) = true) ∧
    (∀ {x : Nat} {y : V}, V.parts (.ifc x y) = [.ifc x y]) ∧
    (∀ {x : Nat} {y : V}, getC none 0 (.ifc x y) = some (.ifc x y)) ∧
    (∀ {x : Nat} {y : V} {v : V}, setC none 0 (.ifc x y) v = if v.cell = true then some v else none) ∧
    (V.cell (.nili) = true) ∧
    (V.size (.nili) = 1) ∧
    (V.isEl (.nili) = true) ∧
    (V.parts (.nili) = [.nili]) ∧
    (getC none 0 (.nili) = some (.nili)) ∧
    (∀  {v : V}, setC none 0 (.nili) v = if v.cell = true then some v else none) ∧
    (∀ {x : Nat}, V.cell (.map x) = true) ∧
    (∀ {x : Nat}, V.size (.map x) = 1) ∧
    (∀ {x : Nat}, V.isEl (.map x) = true) ∧
    (∀ {x : Nat}, V.parts (.map x) = [.map x]) ∧
    (∀ {x : Nat}, getC none 0 (.map x) = some (.map x)) ∧
    (∀ {x : Nat} {v : V}, setC none 0 (.map x) v = if v.cell = true then some v else none) ∧
    (V.cell (.nilm) = true) ∧
    (V.size (.nilm) = 1) ∧
    (V.isEl (.nilm) = true) ∧
    (V.parts (.nilm) = [.nilm]) ∧
    (getC none 0 (.nilm) = some (.nilm)) ∧
    (∀  {v : V}, setC none 0 (.nilm) v = if v.cell = true then some v else none) ∧
    (∀ {l : List V}, V.size (.agg l) = l.length) ∧
    (∀ {l : List V}, V.cell (.agg l) = false) ∧
    (∀ {l : List V}, V.parts (.agg l) = l) ∧
    (∀ {l : List V}, V.isEl (.agg l) = true) ∧
    (∀ {l : List V} {i : Nat}, getC none i (.agg l) = l[i]?) ∧
    (∀ {l : List V} {i n : Nat}, getC (some n) i (.agg l) = if i + n ≤ l.length then some (.agg ((l.drop i).take n)) else none) ∧
    (∀ {l : List V} {i : Nat} {v : V}, setC none i (.agg l) v = if i < l.length ∧ v.cell = true then some (.agg (l.set i v)) else none) ∧
    (∀ {l y : List V} {i n : Nat}, setC (some n) i (.agg l) (.agg y) = if y.length = n ∧ i + n ≤ l.length then some (.agg (l.take i ++ y ++ l.drop (i + n))) else none) ∧
    (∀ {fz : List Nat} {m : Hm}, frzS fz m [] = []) ∧
    (∀ {fz : List Nat} {m : Hm} {t : Nat} {v : V} {σ : Sg}, frzS fz m ((t, v) :: σ) = (t, frzV fz m v) :: frzS fz m σ) ∧
    (∀ {fz : List Nat} {m : Hm} {b : Bool}, frzV fz m (.bool b) = .bool b) ∧
    (∀ {fz : List Nat} {m : Hm} {k : IntKind} {n : Int}, frzV fz m (.int k n) = .int k n) ∧
    (∀ {fz : List Nat} {m : Hm} {s : List UInt8}, frzV fz m (.str s) = .str s) :=
  ⟨by intros; exact cell_b, by intros; exact size_b, by intros; exact isEl_b, by intros; exact parts_b, by intros; exact getC_b, by intros; exact setC_b, by intros; exact cell_i, by intros; exact size_i, by intros; exact isEl_i, by intros; exact parts_i, by intros; exact getC_i, by intros; exact setC_i, by intros; exact cell_s, by intros; exact size_s, by intros; exact isEl_s, by intros; exact parts_s, by intros; exact getC_s, by intros; exact setC_s, by intros; exact cell_np, by intros; exact size_np, by intros; exact isEl_np, by intros; exact parts_np, by intros; exact getC_np, by intros; exact setC_np, by intros; exact cell_p, by intros; exact size_p, by intros; exact isEl_p, by intros; exact parts_p, by intros; exact getC_p, by intros; exact setC_p, by intros; exact cell_fp, by intros; exact size_fp, by intros; exact isEl_fp, by intros; exact parts_fp, by intros; exact getC_fp, by intros; exact setC_fp, by intros; exact cell_sl, by intros; exact size_sl, by intros; exact isEl_sl, by intros; exact parts_sl, by intros; exact getC_sl, by intros; exact setC_sl, by intros; exact cell_fs, by intros; exact size_fs, by intros; exact isEl_fs, by intros; exact parts_fs, by intros; exact getC_fs, by intros; exact setC_fs, by intros; exact cell_fn, by intros; exact size_fn, by intros; exact isEl_fn, by intros; exact parts_fn, by intros; exact getC_fn, by intros; exact setC_fn, by intros; exact cell_nf, by intros; exact size_nf, by intros; exact isEl_nf, by intros; exact parts_nf, by intros; exact getC_nf, by intros; exact setC_nf, by intros; exact cell_ic, by intros; exact size_ic, by intros; exact isEl_ic, by intros; exact parts_ic, by intros; exact getC_ic, by intros; exact setC_ic, by intros; exact cell_ni, by intros; exact size_ni, by intros; exact isEl_ni, by intros; exact parts_ni, by intros; exact getC_ni, by intros; exact setC_ni, by intros; exact cell_m, by intros; exact size_m, by intros; exact isEl_m, by intros; exact parts_m, by intros; exact getC_m, by intros; exact setC_m, by intros; exact cell_nm, by intros; exact size_nm, by intros; exact isEl_nm, by intros; exact parts_nm, by intros; exact getC_nm, by intros; exact setC_nm, by intros; exact size_a, by intros; exact cell_a, by intros; exact parts_a, by intros; exact isEl_a, by intros; exact getC_a, by intros; exact getC_k, by intros; exact setC_a, by intros; exact setC_k, by intros; exact frz_nil, by intros; exact frz_cons, by intros; exact frz_b, by intros; exact frz_i, by intros; exact frz_s⟩

/-- The end, where what is told is told in full. -/
theorem fin_c {rvs : List RV} {r : V} {σ : Sg} {H : Hp} {l : List V} (hl : resE σ H.m rvs = some l) (hc : (pack l).closed = true) (hr : pack l = r ∨ loosen (pack l) = r ∨ lo (pack l) = r) : Fin rvs r .ret σ H :=
  ⟨.inr rfl, l, hl, pack l, by simp [snap, hc], hr⟩

end Go.Proofs.Ytickdhdlljhomaa.Ev
