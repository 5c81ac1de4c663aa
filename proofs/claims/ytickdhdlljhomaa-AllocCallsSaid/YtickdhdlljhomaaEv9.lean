/-
  Append, make, copy, bytes and texts, calls.
-/
import Derived.Test.YtickdhdlljhomaaEv8
set_option linter.unusedSimpArgs false
set_option linter.unusedVariables false
namespace Go.Proofs.Ytickdhdlljhomaa.Ev
open Go

theorem RL.take {g : G} {sz : Nat} {l : List V} {xs : List Value} (k : Nat) (h : RL g l xs) (hz : ∀ v ∈ l, v.size = sz) (hk : k ≤ l.length) : RL g (l.take k) (xs.take (k * sz)) := by
  obtain ⟨as, bs, rfl, h1, h2, h3⟩ := RL.split k h hz hk
  rwa [List.take_left' h1]

theorem setCells_row {P : Program} {w : World} {b o : Nat} {cs : Array Value} {e : TypeId} {vs : List Value} (hb : w.heap[b]? = some (.cells cs e (0, 0))) (hf : o + vs.length ≤ cs.size) (h1 : ∀ v ∈ vs, v.oneCell' = true) :
    w.setCells b o vs = w.setRow b (cs.toList.take o ++ vs ++ cs.toList.drop (o + vs.length)).toArray := by
  have a1 := run_storeCells_at P b o e vs 0 cs w hb (by simpa using hf) h1
  have a2 := run_storeCells_cells (P := P) b o vs 0 w (fun j hj => by simp [World.cell?, hb]; omega) (fun j hj => by simp [World.frozen?, hb]) h1
  rw [a1] at a2
  simp only [Nat.add_zero] at a2
  injection a2 with _ a3
  exact a3.symm

section
variable {P : Program} {dl : List (Option Nat)} {L : Src → Option V} {H : Hp} {K : KI} {dst : Option Tmp} {ty : TypeId} {pos : String} {after : Array Edge} {gu : Option (Nat × Bool)}

theorem s_app {t tx el : TypeId} {sz bt : Nat} {inf : TypeInfo} {zv : Value} {x y : Operand} {x' y' : Src} (ht : P.underlying t = some (.slice el)) (htx : ∃ e', P.underlying tx = some (.slice e')) (hi : P.info? el = some inf) (hsz : inf.size = sz) (hbt : inf.bytes = bt) (hbt1 : 1 ≤ bt) (hz : inf.zero = some zv) (hzs : zv.cells.size = sz)
    (h1 : cs dl x x' = true) (h2 : cs dl y y' = true) (h : evI P L H K (.app sz bt x' y')) :
    OpGood P dl L H ⟨dst, .call { callee := .builtin .append, args := #[x, y], argTypes := #[t, tx] }, ty, pos, after, gu⟩ (.app sz bt x' y') K := by
  simp only [evI] at h; obtain ⟨u, e1, hA⟩ := wv_some h; clear h; obtain ⟨v, e2, hB⟩ := wv_some hA; clear hA
  obtain ⟨e', hk⟩ := htx
  have start : ∀ (a : Act) (w w' : World) (r : Value), (Builtin.append_ #[t, tx] ty #[a.eval x, a.eval y]).run P w = .ok r w' →
      (execOp a.eval ⟨dst, .call { callee := .builtin .append, args := #[x, y], argTypes := #[t, tx] }, ty, pos, after, gu⟩).run P w = .ok (.value r) w' := fun a w w' r hr => by
    simp [execOp, resolve, invoke, builtin, hr]
  cases hd : rd H.m v with
  | none => simp [hd] at hB
  | some p =>
    obtain ⟨sz', ys⟩ := p
    simp only [hd] at hB
    obtain ⟨rfl, hB⟩ := hB
    have agree : ∀ {m : Hm}, (∀ id ∈ fpS v, m id = H.m id) → rd m v = some (sz', ys) := fun {m} hm => by
      cases v <;> simp only [rd] at hd ⊢ <;> try exact hd
      rw [hm _ (by simp [fpS])]; exact hd
    have rx : ∀ {g : G} {a : Act}, Rel dl L (⟨dst, .call { callee := .builtin .append, args := #[x, y], argTypes := #[t, tx] }, ty, pos, after, gu⟩ : Oper).op.operands.toList g a → R g u (a.eval x) ∧ R g v (a.eval y) := fun {g a} hr =>
      ⟨hr x (by simp [Op.operands, Call.operands]) _ _ h1 e1, hr y (by simp [Op.operands, Call.operands]) _ _ h2 e2⟩
    cases u <;> try exact False.elim hB
    · -- an object's
      rename_i id off len
      cases ho : H.m id with
      | none => simp [ho] at hB
      | some o =>
        cases o with
        | mp l => simp [ho] at hB
        | arr sz l =>
          simp only [ho] at hB
          obtain ⟨rfl, rfl, hlen, hbytes, hK⟩ := hB
          refine ⟨_, _, _, _, hK, ?_, by simp [Ins.kind], by simp [Ins.kind], fun m g w a hm hf hs hr Kc Q hk' => ?_⟩
          · intro p hp
            simp at hp
            rcases hp with rfl | rfl
            · exact .inl (by simp)
            · exact .inr ⟨Nat.le_refl _, by simp⟩
          obtain ⟨r1, r2⟩ := rx hr
          have hmo : m id = some (.arr sz l) := (hm id (by simp)).trans ho
          obtain ⟨news, src, rl, hzy, hcells⟩ := src_of hs r2 (agree fun i hi => hm i (by simp [hi])) hk
          simp only [R] at r1
          obtain ⟨b, sz2, n, A, cap, p1, p2, p3, p4⟩ := r1
          obtain ⟨b', n', cs', el', xs, post, z1, z2, z3, z4, z5, z6, z7⟩ := live_cells hs hmo
          rw [z1] at p1; simp at p1; obtain ⟨rfl, rfl, rfl⟩ := p1
          have hfn : g.ι H.n = none := (hf H.n (Nat.le_refl _) (by omega)).1
          have hne : id ≠ H.n := fun e => by rw [e, hfn] at z1; cases z1
          have hIE : ∀ b s n, IExt g (g.lay H.n b s n) H.n 1 := fun b s n i hi => by
            simp only [G.lay]; rw [if_neg (fun e => hi (by omega))]
          obtain ⟨as, bs, s1, s2, s3, s4⟩ := RL.split len z5 z6 hlen
          have hz3 : ∀ v ∈ l.take len, v.size = sz := fun v hv => z6 v (List.mem_of_mem_take hv)
          have hzz : ∀ v ∈ l.take len ++ ys, v.size = sz := fun v hv => (List.mem_append.1 hv).elim (hz3 v) (hzy v)
          have hnl := src.newsLen
          by_cases hroom : len + ys.length ≤ cap ∧ 0 < ys.length
          · -- in place
            obtain ⟨hroom, hpos⟩ := hroom
            rcases p4 with ⟨rfl, p4⟩ | p4
            · simp only [Nat.zero_add, Nat.zero_mul] at p2 p4
              have hfit : len * sz + news.length ≤ cs'.size := by
                rw [hnl, ← Nat.add_mul, z3]; exact Nat.le_trans (Nat.mul_le_mul_right _ hroom) p4
              have run := run_append_room_src (P := P) (w := w) t tx ty el inf ht hi b' 0 len cap (a.eval y) ys.length news (by rw [hsz]; exact src) hroom
                (by intro j hj; simp [World.cell?, z2, hsz]; omega) (by intro j hj; simp [World.frozen?, z2])
              rw [← p2, hsz, Nat.zero_add, setCells_row (P := P) z2 hfit src.one] at run
              have hlist : cs'.toList.take (len * sz) ++ news ++ cs'.toList.drop (len * sz + news.length) = (as ++ news) ++ (cs'.toList.drop (len * sz + news.length)) := by
                rw [z7, s1, List.append_assoc as bs, List.take_left' s2]
              obtain ⟨k1, k2⟩ := hs.put (w' := w.setRow b' (cs'.toList.take (len * sz) ++ news ++ cs'.toList.drop (len * sz + news.length)).toArray) (l := l.take len ++ ys) (xs := as ++ news) (post := cs'.toList.drop (len * sz + news.length))
                (Still.row _ _ _) hmo z1 (setRow_heap w b' cs' _ el' (0, 0) z2) (fun k hk => setRow_other w b' k _ hk) (by simp)
                (by simp only [List.size_toArray, List.length_append, List.length_take, List.length_drop, Array.length_toList]; omega)
                (s3.append rl) hzz (by simpa using hlist)
              obtain ⟨k3, k4⟩ := k1.rename (id := id) (id' := H.n) (by simp [upd]; rfl) z1 hfn
              have hmm : upd (upd (upd m id (some (.arr sz (l.take len ++ ys)))) id none) H.n (some (.arr sz (l.take len ++ ys))) = appd [(id, none), (H.n, some (.arr sz (l.take len ++ ys)))] m := by
                funext i; simp only [appd, upd]; split <;> first | rfl | (split <;> rfl)
              rw [hmm] at k3 k4
              refine wp_of_run (start a w _ _ run) (hk' _ _ _ k3 (hIE _ _ _) (k2.trans k4) ?_)
              simp only [R]
              exact ⟨b', sz, n', ⟨b', 0, none⟩, cap, by simp [G.lay], rfl, hroom, .inl ⟨by simp, by simpa using p4⟩⟩
            · omega
          · by_cases hnil : ys.length = 0
            · -- nothing is appended
              have hys : ys = [] := by simpa using hnil
              subst hys
              simp only [RL] at rl; subst rl
              have run := run_append_nothing (P := P) w t tx ty el inf ht hi (some A) len cap p3 (a.eval y) (by rw [hsz]; exact src)
              rw [← p2] at run
              obtain ⟨k1, k2⟩ := hs.put (w' := w) (l := l.take len ++ []) (xs := as) (post := bs ++ post) ⟨rfl, rfl, rfl⟩ hmo z1 z2 (fun _ _ => rfl) rfl z3 (by simpa using s3) hzz (by rw [z7, s1]; simp)
              obtain ⟨k3, k4⟩ := k1.rename (id := id) (id' := H.n) (by simp [upd]; rfl) z1 hfn
              have hmm : upd (upd (upd m id (some (.arr sz (l.take len ++ [])))) id none) H.n (some (.arr sz (l.take len ++ []))) = appd [(id, none), (H.n, some (.arr sz (l.take len ++ [])))] m := by
                funext i; simp only [appd, upd]; split <;> first | rfl | (split <;> rfl)
              rw [List.append_nil] at hmm k3 k4
              refine wp_of_run (start a w _ _ run) (hk' _ _ _ (by rw [List.append_nil, ← hmm]; exact k3) (hIE _ _ _) (by rw [List.append_nil, ← hmm]; rw [List.append_nil] at k2; exact k2.trans k4) ?_)
              rw [p2]
              simp only [R]
              exact ⟨b', sz, n', A, cap, by simp [G.lay], rfl, p3, p4⟩
            · -- a new row
              have hgt : cap < len + ys.length := by omega
              have hfit : Builtin.nextslicecap (len + ys.length) cap * inf.bytes ≤ 281474976710656 := growslice_fits hgt (by rw [hbt]; exact hbytes)
              have h63 : ((len + ys.length : Nat) : Int) ≤ 9223372036854775807 := by
                have : len + ys.length ≤ (len + ys.length) * bt := Nat.le_mul_of_pos_right _ (by omega)
                omega
              have hold : (Builtin.firstCells inf.size len (.slice (some A) len cap)).run P w.drew = .ok as.toArray w.drew := by
                rw [hsz]
                rcases p4 with ⟨rfl, p4⟩ | p4
                · have hc : CAt w b' (0 * sz) as := ⟨cs', el', _, [], bs ++ post, z2, by rw [z7, s1]; simp, by simp⟩
                  exact run_firstCells_some w.drew sz len _ len cap as s2 (fun j u hu => by simpa using hc.cell' hu)
                · have hl0 : len = 0 := by omega
                  subst hl0
                  have : as = [] := by simpa using s2
                  subst this
                  exact run_firstCells_some w.drew sz 0 _ 0 cap [] (by simp) (by simp)
              have run := run_append_grow_src (P := P) (w := w) t tx ty el inf zv ht hi hz (some A) len cap as hold (a.eval y) ys.length news (by rw [hsz]; exact src) hgt h63 hfit
              rw [← p2] at run
              obtain ⟨k1, k2⟩ := hs.kill id
              have hge := grownCap_ge w (len + ys.length) cap el
              obtain ⟨k3, k4⟩ := k1.new_live (id := H.n) (sz := sz) (cs := (as ++ news).toArray ++ Builtin.zeroCells zv.cells (grownCap w (len + ys.length) cap el - (len + ys.length))) (l := l.take len ++ ys) (xs := as ++ news) (post := (Builtin.zeroCells zv.cells (grownCap w (len + ys.length) cap el - (len + ys.length))).toList) (Still.drewAlloc w _) rfl hfn (s3.append rl) hzz (by simp)
              refine wp_of_run (start a w _ _ run) (hk' _ _ _ k3 (hIE _ _ _) (k2.trans k4) ?_)
              simp only [R]
              refine ⟨w.heap.size, sz, _, ⟨w.heap.size, 0, none⟩, grownCap w (len + ys.length) cap el, if_pos rfl, rfl, hge, .inl ⟨by simp, ?_⟩⟩
              have hzc : (Builtin.zeroCells zv.cells (grownCap w (len + ys.length) cap el - (len + ys.length))).size = (grownCap w (len + ys.length) cap el - (len + ys.length)) * sz := by simp [Builtin.zeroCells, hzs]
              simp only [List.size_toArray, Array.size_append, List.length_append, hzc, s2, hnl, Nat.zero_add]
              rw [← Nat.add_mul, ← Nat.add_mul]; exact Nat.mul_le_mul_right _ (by omega)
    · -- what stands for good
      rename_i st sz'' l
      obtain ⟨rfl, hB⟩ := hB
      cases ys with
      | nil =>
        refine good_read (by simp [Ins.kind]) hB fun m g a w hm hs hr => ?_
        obtain ⟨r1, r2⟩ := rx hr
        obtain ⟨news, src, rl, hzy, hcells⟩ := src_of hs r2 (agree hm) hk
        simp only [RL] at rl; subst rl
        have r1' := r1
        simp only [R] at r1
        obtain ⟨A, cap, xs, p1, p2, p3, p4, p5⟩ := r1
        have run := run_append_nothing (P := P) w t tx ty el inf ht hi A l.length cap p4 (a.eval y) (by rw [hsz]; exact src)
        rw [← p1] at run
        exact ⟨a.eval x, start a w w _ run, r1'⟩
      | cons y0 ys =>
        simp only at hB
        obtain ⟨hst, hbytes, hK⟩ := hB
        refine ⟨_, _, _, _, hK, ?_, by simp [Ins.kind], by simp [Ins.kind], fun m g w a hm hf hs hr Kc Q hk' => ?_⟩
        · intro p hp
          simp at hp; subst hp
          exact .inr ⟨Nat.le_refl _, by simp⟩
        obtain ⟨r1, r2⟩ := rx hr
        obtain ⟨news, src, rl, hzy, hcells⟩ := src_of hs r2 (agree hm) hk
        simp only [R] at r1
        obtain ⟨A, cap, xs, p1, p2, p3, p4, p5, p6, p7, p8⟩ := r1
        have hcap : cap = l.length := by
          cases st with
          | nil => have := p5 (p6.1 rfl); omega
          | full => exact p7 rfl
          | loose => exact absurd rfl hst.1
          | nn => exact absurd rfl hst.2
        have hfn : g.ι H.n = none := (hf H.n (Nat.le_refl _) (by omega)).1
        have hIE : ∀ b s n, IExt g (g.lay H.n b s n) H.n 1 := fun b s n i hi => by
          simp only [G.lay]; rw [if_neg (fun e => hi (by omega))]
        have hnl := src.newsLen
        have hgt : cap < l.length + (y0 :: ys).length := by simp; omega
        have hfit : Builtin.nextslicecap (l.length + (y0 :: ys).length) cap * inf.bytes ≤ 281474976710656 := growslice_fits hgt (by rw [hbt]; exact hbytes)
        have h63 : ((l.length + (y0 :: ys).length : Nat) : Int) ≤ 9223372036854775807 := by
          have : l.length + (y0 :: ys).length ≤ (l.length + (y0 :: ys).length) * bt := Nat.le_mul_of_pos_right _ (by omega)
          omega
        have hxl := p2.length p3
        have hold : (Builtin.firstCells inf.size l.length (.slice A l.length cap)).run P w.drew = .ok xs.toArray w.drew := by
          rw [hsz]
          cases A with
          | none =>
            have : l = [] := by have := p5 rfl; exact List.length_eq_zero_iff.1 (by omega)
            subst this
            simp only [RL] at p2; subst p2
            exact run_firstCells_none w.drew _ _ _ _
          | some q =>
            rcases p8 with rfl | ⟨b, o, hq, hF⟩
            · simp only [RL] at p2; subst p2
              exact run_firstCells_some w.drew _ 0 _ 0 cap [] (by simp) (by simp)
            · simp at hq; subst hq
              have hc := hF.cells hs
              exact run_firstCells_some w.drew _ _ _ _ cap xs hxl (fun j u hu => by simpa using hc.cell' hu)
        have run := run_append_grow_src (P := P) (w := w) t tx ty el inf zv ht hi hz A l.length cap xs hold (a.eval y) (y0 :: ys).length news (by rw [hsz]; exact src) hgt h63 hfit
        rw [← p1] at run
        have hge := grownCap_ge w (l.length + (y0 :: ys).length) cap el
        obtain ⟨k3, k4⟩ := hs.new_live (id := H.n) (sz := sz'') (cs := (xs ++ news).toArray ++ Builtin.zeroCells zv.cells (grownCap w (l.length + (y0 :: ys).length) cap el - (l.length + (y0 :: ys).length))) (l := l ++ (y0 :: ys)) (xs := xs ++ news)
          (post := (Builtin.zeroCells zv.cells (grownCap w (l.length + (y0 :: ys).length) cap el - (l.length + (y0 :: ys).length))).toList) (Still.drewAlloc w _) rfl hfn (p2.append rl) (fun v hv => (List.mem_append.1 hv).elim (p3 v) (hzy v)) (by simp)
        refine wp_of_run (start a w _ _ run) (hk' _ _ _ k3 (hIE _ _ _) k4 ?_)
        simp only [R]
        refine ⟨w.heap.size, sz'', _, ⟨w.heap.size, 0, none⟩, grownCap w (l.length + (y0 :: ys).length) cap el, if_pos rfl, rfl, hge, .inl ⟨by simp, ?_⟩⟩
        generalize (y0 :: ys).length = nn at hge hnl ⊢
        have hzc : (Builtin.zeroCells zv.cells (grownCap w (l.length + nn) cap el - (l.length + nn))).size = (grownCap w (l.length + nn) cap el - (l.length + nn)) * sz'' := by simp [Builtin.zeroCells, hzs]
        simp only [List.size_toArray, Array.size_append, List.length_append, hzc, hxl, hnl, Nat.zero_add]
        rw [← Nat.add_mul, ← Nat.add_mul]; exact Nat.mul_le_mul_right _ (by omega)


theorem madeCells_list (z : Array Value) (n : Nat) : (madeCells z (n * z.size)).toList = (List.replicate n z.toList).flatten := by
  by_cases h0 : z.size = 0
  · have : z = #[] := by simpa using h0
    subst this
    simp [madeCells]
  induction n with
  | zero => simp [madeCells]
  | succ n ih =>
    rw [List.replicate_succ, List.flatten_cons, ← ih]
    simp only [madeCells, Array.toList_map, Array.toList_range]
    rw [Nat.add_mul, Nat.one_mul, Nat.add_comm, List.range_add, List.map_append, List.map_map]
    congr 1
    · apply List.ext_getElem
      · simp
      · intro i h1 h2
        simp at h1
        simp [Nat.mod_eq_of_lt h1, h1]
    · apply List.map_congr_left
      intro i _
      simp

theorem RL.replicate {g : G} {z : V} {zv : Value} (h : R g z zv) (he : z.isEl = true) : ∀ n, RL g (List.replicate n z) (List.replicate n zv.cells.toList).flatten
  | 0 => by simp [RL]
  | n + 1 => by simp only [List.replicate_succ, List.flatten_cons, RL]; exact ⟨zv, _, rfl, ⟨he, h⟩, RL.replicate h he n⟩

theorem s_mks {t el : TypeId} {sz bt : Nat} {inf : TypeInfo} {z : V} {zv : Value} {x : Operand} {x' : Src} (ht : P.underlying t = some (.slice el)) (hi : P.info? el = some inf) (hsz : inf.size = sz) (hbt : inf.bytes = bt) (hz : inf.zero = some zv) (hzs : zv.cells.size = sz)
    (hk : kon z zv = true) {y : Operand} (h1 : cs dl x x' = true) (h2 : cs dl y x' = true) (h : evI P L H K (.mks sz bt z x')) : OpGood P dl L H ⟨dst, .makeSlice t x y, ty, pos, after, gu⟩ (.mks sz bt z x') K := by
  simp only [evI] at h; obtain ⟨u, e1, hA⟩ := wv_some h; clear h
  split at hA
  · rename_i n
    obtain ⟨h0, h63, hb, hzz, hze, hK⟩ := hA
    refine good_new rfl hK fun m g a w hs hr => ?_
    have q := hr x (by simp [Op.operands]) _ _ h1 e1
    have q' := hr y (by simp [Op.operands]) _ _ h2 e1
    simp only [R] at q q'
    have run := run_make (P := P) w t el inf zv ht hi hz .i64 .i64 n n h0 (Int.le_refl _) (by rw [hbt]; exact hb) h63
    have hm : (madeCells zv.cells (n.toNat * inf.size)).toList = (List.replicate n.toNat zv.cells.toList).flatten := by
      rw [hsz, ← hzs]; exact madeCells_list _ _
    refine ⟨.slice (some ⟨w.heap.size, 0, none⟩) n.toNat n.toNat, _, madeCells zv.cells (n.toNat * inf.size), el, (List.replicate n.toNat zv.cells.toList).flatten, [], ?_, Still.alloc w (.cells (madeCells zv.cells (n.toNat * inf.size)) el), rfl, RL.replicate (kon_R g z zv hk) hze _, ?_, by simpa using hm, ?_⟩
    · simp only [execOp, q, q', Sem.run_bind, run, Result.andThen_ok, Sem.run_pure]
    · intro v hv; rw [List.eq_of_mem_replicate hv]; exact hzz
    · simp only [R]
      refine ⟨w.heap.size, sz, (madeCells zv.cells (n.toNat * inf.size)).size, _, n.toNat, by simp [G.lay], rfl, Nat.le_refl _, .inl ⟨by simp, ?_⟩⟩
      rw [size_madeCells, hsz, Nat.zero_add]; exact Nat.le_refl _
  · exact hA.elim

theorem s_cpy {t tx el : TypeId} {sz : Nat} {inf : TypeInfo} {x y : Operand} {x' y' : Src} (ht : P.underlying t = some (.slice el)) (htx : ∃ e', P.underlying tx = some (.slice e')) (hi : P.info? el = some inf) (hsz : inf.size = sz)
    (h1 : cs dl x x' = true) (h2 : cs dl y y' = true) (h : evI P L H K (.cpy sz x' y')) :
    OpGood P dl L H ⟨dst, .call { callee := .builtin .copy, args := #[x, y], argTypes := #[t, tx] }, ty, pos, after, gu⟩ (.cpy sz x' y') K := by
  simp only [evI] at h; obtain ⟨u, e1, hA⟩ := wv_some h; clear h; obtain ⟨v, e2, hB⟩ := wv_some hA; clear hA
  obtain ⟨e', hk⟩ := htx
  have start : ∀ (a : Act) (w w' : World) (r : Value), (Builtin.copy_ #[t, tx] ty #[a.eval x, a.eval y]).run P w = .ok r w' →
      (execOp a.eval ⟨dst, .call { callee := .builtin .copy, args := #[x, y], argTypes := #[t, tx] }, ty, pos, after, gu⟩).run P w = .ok (.value r) w' := fun a w w' r hr => by
    simp [execOp, resolve, invoke, builtin, hr]
  cases hd : rd H.m v with
  | none => simp [hd] at hB
  | some p =>
    obtain ⟨sz', ys⟩ := p
    simp only [hd] at hB
    obtain ⟨rfl, hB⟩ := hB
    have agree : ∀ {m : Hm}, (∀ id ∈ fpS v, m id = H.m id) → rd m v = some (sz', ys) := fun {m} hm => by
      cases v <;> simp only [rd] at hd ⊢ <;> try exact hd
      rw [hm _ (by simp [fpS])]; exact hd
    have rx : ∀ {g : G} {a : Act}, Rel dl L (⟨dst, .call { callee := .builtin .copy, args := #[x, y], argTypes := #[t, tx] }, ty, pos, after, gu⟩ : Oper).op.operands.toList g a → R g u (a.eval x) ∧ R g v (a.eval y) := fun {g a} hr =>
      ⟨hr x (by simp [Op.operands, Call.operands]) _ _ h1 e1, hr y (by simp [Op.operands, Call.operands]) _ _ h2 e2⟩
    have wpc : ∀ {m : Hm} {g : G} {w : World} {a : Act} (k : Nat), RS g m w → R g v (a.eval y) → rd m v = some (sz', ys) → k ≤ ys.length →
        ∃ news, RL g ys news ∧ (∀ v ∈ ys, v.size = sz') ∧ (∀ u ∈ news, u.oneCell' = true) ∧ (Builtin.lenOf (a.eval y)).run P w = .ok ys.length w ∧ (Builtin.firstCells sz' k (a.eval y)).run P w = .ok (news.take (k * sz')).toArray w := fun {m g w a} k hs r2 hrd hkl => by
      obtain ⟨news, src, rl, hzy, hcells⟩ := src_of hs r2 hrd hk
      refine ⟨news, rl, hzy, src.one, src.len w, ?_⟩
      have hnl := src.newsLen
      have hlt : (news.take (k * sz')).length = k * sz' := by rw [List.length_take, hnl]; exact Nat.min_eq_left (Nat.mul_le_mul_right _ hkl)
      have hcl := src.cells
      have hln := src.len w
      clear src
      generalize a.eval y = yv at hcl hln r2 hcells ⊢
      cases yv <;> try (cases v <;> simp only [rd] at hrd <;> first | (simp at hrd; done) | (simp [R] at r2; done))
      rename_i A n cap
      have hn : n = ys.length := by simpa [Builtin.lenOf] using hln
      subst hn
      cases A with
      | none =>
        simp [Builtin.firstCells] at hcl
        have : news = [] := by cases news <;> simp at hcl ⊢
        subst this
        simp [Builtin.firstCells]
      | some A =>
        refine run_firstCells_some w sz' k A _ cap _ hlt fun j u hu => ?_
        have hj : news[j]? = some u := by
          rw [List.getElem?_take] at hu; split at hu
          · exact hu
          · cases hu
        exact hcells A _ cap rfl j u hj
    cases u <;> try exact False.elim hB
    · rename_i id off len
      cases ho : H.m id with
      | none => simp [ho] at hB
      | some o =>
        cases o with
        | mp l => simp [ho] at hB
        | arr sz l =>
          simp only [ho] at hB
          obtain ⟨rfl, hfit, hK⟩ := hB
          refine ⟨_, _, _, _, hK, by simp, by simp [Ins.kind], by simp [Ins.kind], fun m g w a hm hf hs hr Kc Q hk' => ?_⟩
          obtain ⟨r1, r2⟩ := rx hr
          have hmo : m id = some (.arr sz l) := (hm id (by simp)).trans ho
          have hmin : min ys.length len ≤ ys.length := Nat.min_le_left _ _
          obtain ⟨news, rl, hzy, hone, hlen, hcl⟩ := wpc (a := a) (min ys.length len) hs r2 (agree fun i hi => hm i (by simp [hi])) hmin
          simp only [R] at r1
          obtain ⟨b, sz2, n, A, cap, p1, p2, p3, p4⟩ := r1
          obtain ⟨b', n', cs', el', xs, post, z1, z2, z3, z4, z5, z6, z7⟩ := live_cells hs hmo
          rw [z1] at p1; simp at p1; obtain ⟨rfl, rfl, rfl⟩ := p1
          have hxl := z5.length z6
          have htl : (news.take (min ys.length len * sz)).length = min ys.length len * sz := by
            rw [List.length_take, rl.length hzy]; exact Nat.min_eq_left (Nat.mul_le_mul_right _ hmin)
          have hst : ∃ w', (storeCells A (news.take (min ys.length len * sz)) 0).run P w = .ok () w' ∧ RS g (upd m id (some (.arr sz (l.take off ++ ys.take len ++ l.drop (off + min ys.length len))))) w' ∧
              Ext g m w g (upd m id (some (.arr sz (l.take off ++ ys.take len ++ l.drop (off + min ys.length len))))) w' := by
            have hzz : ∀ v ∈ l.take off ++ ys.take len ++ l.drop (off + min ys.length len), v.size = sz := fun v hv => by
              rcases List.mem_append.1 hv with hv | hv
              · rcases List.mem_append.1 hv with hv | hv
                · exact z6 v (List.mem_of_mem_take hv)
                · exact hzy v (List.mem_of_mem_take hv)
              · exact z6 v (List.mem_of_mem_drop hv)
            have hyt : ys.take len = ys.take (min ys.length len) := by
              rw [List.take_eq_take_iff]; omega
            obtain ⟨as, bs, s1, s2, s3, s4⟩ := RL.split off z5 z6 (by omega)
            have hz4 : ∀ v ∈ l.drop off, v.size = sz := fun v hv => z6 v (List.mem_of_mem_drop hv)
            obtain ⟨cs2, ds, t1, t2, t3, t4⟩ := RL.split (min ys.length len) s4 hz4 (by simp; omega)
            rw [List.drop_drop] at t4
            have hrl : RL g (l.take off ++ ys.take len ++ l.drop (off + min ys.length len)) (as ++ news.take (min ys.length len * sz) ++ ds) := by
              rw [hyt]; exact (s3.append (rl.take _ hzy hmin)).append t4
            by_cases h0 : min ys.length len * sz = 0
            · have hnil : news.take (min ys.length len * sz) = [] := by rw [h0]; rfl
              rw [hnil] at hrl ⊢
              have hc2 : cs2 = [] := by apply List.eq_nil_of_length_eq_zero; omega
              subst hc2
              obtain ⟨k1, k2⟩ := hs.put (w' := w) (xs := as ++ [] ++ ds) (post := post) ⟨rfl, rfl, rfl⟩ hmo z1 z2 (fun _ _ => rfl) rfl z3 hrl hzz (by rw [z7, s1, t1]; simp)
              exact ⟨w, rfl, k1, k2⟩
            · have hlp : 0 < len := by
                rcases Nat.eq_zero_or_pos len with h | h
                · subst h; simp at h0
                · exact h
              rcases p4 with ⟨rfl, p4⟩ | p4
              · have hfit2 : off * sz + (news.take (min ys.length len * sz)).length ≤ cs'.size := by
                  rw [htl, ← Nat.add_mul]
                  have h1 : (off + min ys.length len) * sz ≤ l.length * sz := Nat.mul_le_mul_right _ (by omega)
                  have h2 : xs.length ≤ cs'.size := by rw [← Array.length_toList, z7]; simp
                  omega
                have run := run_storeCells_at P b' (off * sz) el' (news.take (min ys.length len * sz)) 0 cs' w z2 (by simpa using hfit2) (fun u hu => hone u (List.mem_of_mem_take hu))
                simp only [Nat.add_zero] at run
                have hlist : cs'.toList.take (off * sz) ++ news.take (min ys.length len * sz) ++ cs'.toList.drop (off * sz + (news.take (min ys.length len * sz)).length) = (as ++ news.take (min ys.length len * sz) ++ ds) ++ post := by
                  rw [z7, s1, t1, htl]
                  rw [List.append_assoc as, List.append_assoc as, List.take_left' s2]
                  have : as ++ (cs2 ++ ds ++ post) = (as ++ cs2) ++ (ds ++ post) := by simp
                  rw [show as ++ ((cs2 ++ ds) ++ post) = (as ++ cs2) ++ (ds ++ post) by simp, List.drop_left' (by simp [s2, t2])]
                  simp
                have hl2 := congrArg List.length hlist
                have hl3 := congrArg List.length z7
                rw [s1, t1] at hl3
                generalize cs'.toList.take (off * sz) ++ news.take (min ys.length len * sz) ++ cs'.toList.drop (off * sz + (news.take (min ys.length len * sz)).length) = ws at run hlist hl2
                obtain ⟨k1, k2⟩ := hs.put (w' := w.setRow b' ws.toArray) (xs := as ++ news.take (min ys.length len * sz) ++ ds) (post := post) (Still.row _ _ _) hmo z1 (setRow_heap w b' cs' _ el' (0, 0) z2) (fun k hk => setRow_other w b' k _ hk) (by simp)
                  (by simp only [List.length_append, Array.length_toList, List.size_toArray, htl] at hl2 hl3 ⊢; omega) hrl hzz (by simpa using hlist)
                exact ⟨_, run, k1, k2⟩
              · omega
          obtain ⟨w', run, k1, k2⟩ := hst
          refine wp_of_run (start a w w' (goInt ((min ys.length len : Nat) : Int)) ?_) (hk' _ _ _ k1 (fun _ _ => rfl) k2 (by simp only [R, goInt]))
          rw [p2]
          have hmm : Nat.min ys.length len = min ys.length len := rfl
          simp [Builtin.copy_, run_underlying ht, hlen, hmm, sizeOf, typeInfo, hi, hsz, hcl, run]
    · rename_i st sz2 l
      cases l with
      | cons _ _ => exact False.elim hB
      | nil =>
        simp only at hB
        refine good_read (by simp [Ins.kind]) hB fun m g a w hm hs hr => ?_
        obtain ⟨r1, r2⟩ := rx hr
        obtain ⟨news, rl, hzy, hone, hlen, hcl⟩ := wpc (a := a) 0 hs r2 (agree hm) (Nat.zero_le _)
        simp only [R] at r1
        obtain ⟨A, cap, xs, p1, _⟩ := r1
        refine ⟨goInt 0, start a w w _ ?_, by simp [R, goInt]⟩
        rw [p1]
        have hmm : Nat.min ys.length 0 = 0 := Nat.min_zero _
        simp only [Nat.zero_mul, List.take_zero] at hcl
        cases A <;> simp [Builtin.copy_, run_underlying ht, hlen, hmm, sizeOf, typeInfo, hi, hsz, hcl, storeCells]

theorem s_callp {f : Operand} {args : Array Operand} {ts : Array TypeId} {f' : Src} {args' : List Src} (h1 : cs dl f f' = true) (h2 : csL dl args.toList args' = true) (h : evI P L H K (.call true f' args')) :
    OpGood P dl L H ⟨dst, .call { callee := .value f, args := args, argTypes := ts }, ty, pos, after, gu⟩ (.call true f' args') K := by
  simp only [evI] at h; obtain ⟨u, e1, hA⟩ := wv_some h; clear h
  obtain ⟨vs, hB, l, k⟩ := wvs_some hA
  cases u <;> try exact False.elim hB
  rename_i fn fs cs'
  simp only [if_true] at hB
  obtain ⟨r, ⟨⟨fd, hb1, hb2, hb3⟩, hp⟩, hK⟩ := hB
  refine ⟨r, [], [], 0, hK, by simp, fun _ => ⟨rfl, rfl, rfl⟩, fun _ => ⟨rfl, rfl⟩, fun m g w a hm hf hs hr Kc Q hk => ?_⟩
  have q1 := hr f (by simp [Op.operands, Call.operands]) _ _ h1 e1
  have q2 := csL_RC hr h2 (fun y hy => by simp at hy; simp [Op.operands, Call.operands, hy]) l k
  simp only [R] at q1
  obtain ⟨xs, ys, e2, e3, e4⟩ := q1
  have hrc : RC g (fs ++ vs ++ cs') (xs ++ args.map a.eval ++ ys).toList := by
    simp only [Array.toList_append, Array.toList_map]; exact (e3.append q2).append e4
  have run : (execOp a.eval ⟨dst, .call { callee := .value f, args := args, argTypes := ts }, ty, pos, after, gu⟩).run P w = .ok (.enter fn (xs ++ args.map a.eval ++ ys)) w := by
    have hb2' : fd.body ≠ none := by intro e; rw [e] at hb2; cases hb2
    have hb3' : ¬ fd.name = "runtime.NumGoroutine" := by simpa using hb3
    simp [execOp, resolve, e2, Deferred.ofValue, invoke, callFunc, hb1, hb3', hb2']
  unfold Oper.wp; rw [run]
  refine (hp m g w _ hs hrc).mono ?_
  rintro e w' ⟨x, F', rfl, r1, r2, r3⟩
  exact hk ⟨g.ι, F'⟩ x w' r2 (fun _ _ => rfl) r3 r1

theorem s_calli {f : Operand} {args : Array Operand} {ts : Array TypeId} {f' : Src} {args' : List Src} (h1 : cs dl f f' = true) (h2 : csL dl args.toList args' = true) (h : evI P L H K (.call false f' args')) :
    OpGood P dl L H ⟨dst, .call { callee := .value f, args := args, argTypes := ts }, ty, pos, after, gu⟩ (.call false f' args') K := by
  simp only [evI] at h; obtain ⟨u, e1, hA⟩ := wv_some h; clear h
  obtain ⟨vs, hB, l, k⟩ := wvs_some hA
  cases u <;> try exact False.elim hB
  rename_i fn fs cs'
  simp only [Bool.false_eq_true, if_false] at hB
  obtain ⟨fp, r, ds, kk, ⟨⟨fd, hb1, hb2, hb3⟩, hds, hp⟩, hK⟩ := hB
  refine ⟨r, fp, ds, kk, hK, hds, by simp [Ins.kind], by simp [Ins.kind], fun m g w a hm hf hs hr Kc Q hk => ?_⟩
  have q1 := hr f (by simp [Op.operands, Call.operands]) _ _ h1 e1
  have q2 := csL_RC hr h2 (fun y hy => by simp at hy; simp [Op.operands, Call.operands, hy]) l k
  simp only [R] at q1
  obtain ⟨xs, ys, e2, e3, e4⟩ := q1
  have hrc : RC g (fs ++ vs ++ cs') (xs ++ args.map a.eval ++ ys).toList := by
    simp only [Array.toList_append, Array.toList_map]; exact (e3.append q2).append e4
  have run : (execOp a.eval ⟨dst, .call { callee := .value f, args := args, argTypes := ts }, ty, pos, after, gu⟩).run P w = .ok (.enter fn (xs ++ args.map a.eval ++ ys)) w := by
    have hb2' : fd.body ≠ none := by intro e; rw [e] at hb2; cases hb2
    have hb3' : ¬ fd.name = "runtime.NumGoroutine" := by simpa using hb3
    simp [execOp, resolve, e2, Deferred.ofValue, invoke, callFunc, hb1, hb3', hb2']
  unfold Oper.wp; rw [run]
  refine (hp m g w _ hm hf hs hrc).mono ?_
  rintro e w' ⟨x, g', rfl, r1, r2, r3, r4⟩
  exact hk g' x w' r2 r3 r4 r1

theorem s_bts {src d e : TypeId} {x : Operand} {x' : Src} (hsrc : P.underlying src = some (.slice e)) (he : P.underlying e = some (.int .u8)) (hd : P.underlying d = some .string) (h1 : cs dl x x' = true) (h : evI P L H K (.bts x')) :
    OpGood P dl L H ⟨dst, .convert src d x, ty, pos, after, gu⟩ (.bts x') K := by
  simp only [evI] at h; obtain ⟨u, e1, hA⟩ := wv_some h; clear h
  cases hrd : rd H.m u with
  | none => simp [hrd] at hA
  | some p =>
    obtain ⟨sz, l⟩ := p
    simp only [hrd] at hA
    obtain ⟨rfl, s, rfl, hK⟩ := hA
    refine good_read (by simp [Ins.kind]) hK fun m g a w hm hs hr => ?_
    have q := hr x (by simp [Op.operands]) _ _ h1 e1
    have agree : rd m u = some (1, s.map fun b => V.int .u8 b.toNat) := by
      cases u <;> simp only [rd] at hrd ⊢ <;> try exact hrd
      rw [hm _ (by simp [fpS])]; exact hrd
    obtain ⟨news, sr, rl, hzy, hcells⟩ := src_of hs q agree hsrc
    have hn : news = (s.map fun b => (b.toNat : Int)).map (Value.int .u8) := by
      clear sr hcells hzy agree hrd e1 q hK
      induction s generalizing news with
      | nil => simpa [RL] using rl
      | cons b s ih =>
        simp only [List.map_cons, RL] at rl
        obtain ⟨y, ys, rfl, ⟨_, r1⟩, r2⟩ := rl
        simp only [R] at r1; subst r1
        simp [Value.cells, ih _ r2]
    refine ⟨.string ⟨s.toArray⟩, ?_, by simp [R]⟩
    have hln := sr.len w
    have hfc := sr.cells
    have hx : ∃ A n c, a.eval x = .slice A n c := by
      cases u <;> simp only [rd] at agree <;> try (simp at agree; done)
      · simp only [R] at q; obtain ⟨_, _, _, A, c, _, e, _⟩ := q; exact ⟨_, _, _, e⟩
      · simp only [R] at q; obtain ⟨A, c, _, e, _⟩ := q; exact ⟨_, _, _, e⟩
    obtain ⟨A, n, c, ex⟩ := hx
    rw [ex] at hln hfc
    have hnl : n = s.length := by simpa [Builtin.lenOf] using hln
    simp only [execOp, ex, Sem.run_bind, run_convert_bytes_string w src d e A n c hsrc he hd]
    cases A with
    | none =>
      simp [Builtin.firstCells] at hfc
      have hs0 : s = [] := by
        have : news = [] := by cases news <;> simp at hfc ⊢
        rw [hn] at this; simpa using this
      subst hs0
      simp [Conv.bytesToString]; rfl
    | some A =>
      simp only [Builtin.firstCells, Nat.mul_one, List.length_map] at hfc
      rw [← hnl, hn] at hfc
      rw [run_bytesToString w A n c _ hfc, foldl_push_bytes]
      simp only [Result.andThen_ok, Sem.run_pure]
      congr 3
      apply ByteArray.ext
      simp [ByteArray.empty, ByteArray.emptyWithCapacity, List.map_map, Function.comp_def]
      rfl

theorem modify_push {α : Type} (xs : Array α) (a : α) (f : α → α) : (xs.push a).modify xs.size f = xs.push (f a) := by
  apply Array.ext
  · simp
  · intro i h1 h2
    rw [Array.getElem_modify]
    by_cases h : xs.size = i
    · subst h; simp
    · have : i < xs.size := by simp at h2; omega
      rw [if_neg h, Array.getElem_push_lt this, Array.getElem_push_lt this]

theorem s_stb {src d e : TypeId} {ud : TypeDesc} {x : Operand} {x' : Src} (hsrc : P.underlying src = some ud) (hd : P.underlying d = some (.slice e)) (he : P.underlying e = some (.int .u8)) (h1 : cs dl x x' = true) (h : evI P L H K (.stb x')) :
    OpGood P dl L H ⟨dst, .convert src d x, ty, pos, after, gu⟩ (.stb x') K := by
  simp only [evI] at h; obtain ⟨u, e1, hA⟩ := wv_some h; clear h
  cases u <;> try exact False.elim hA
  rename_i s
  simp only at hA
  refine good_froze hA fun m g a w hs hr => ?_
  have q := hr x (by simp [Op.operands]) _ _ h1 e1
  simp only [R] at q
  have hge := grownCap_ge w s.length 0 e
  have hsz : (⟨s.toArray⟩ : ByteArray).size = s.length := by simp [ByteArray.size]
  obtain ⟨cells, hcells⟩ : ∃ cells : Array Value, cells = (s.toArray.map fun b => Value.int .u8 (b.toNat : Int)) ++ Array.replicate (grownCap w s.length 0 e - s.length) (.int .u8 0) := ⟨_, rfl⟩
  have hcs : cells.size = grownCap w s.length 0 e := by rw [hcells]; simp; omega
  obtain ⟨W, hW⟩ : ∃ W : World, W = { w with drawn := w.drawn + 1, heap := w.heap.push (.cells cells e (cells.size, cells.size + 1)) } := ⟨_, rfl⟩
  have run : (convert src d (.string ⟨s.toArray⟩)).run P w = .ok (.slice (some ⟨w.heap.size, 0, none⟩) s.length (grownCap w s.length 0 e)) W := by
    have e1 : (convert src d (.string ⟨s.toArray⟩)).run P w = (Conv.stringToBytes e ⟨s.toArray⟩).run P w := by
      cases ud <;> simp [convert, run_underlying hsrc, run_underlying hd, run_underlying he]
    rw [e1]
    simp only [Conv.stringToBytes, Sem.run_bind, run_choose, Question.forced, Bool.false_eq_true, if_false, Result.andThen_ok, hsz, newRow, run_newObj, Sem.run_pure, markStringish, run_shape]
    rw [show (Question.cut (.appendCap s.length 0 e) (w.tape w.drawn (.appendCap s.length 0 e))) = grownCap w s.length 0 e from rfl]
    rw [show (Array.map (fun b : UInt8 => Value.int IntKind.u8 (b.toNat : Int)) s.toArray ++ Array.replicate (grownCap w s.length 0 e - s.length) (Value.int IntKind.u8 0)) = cells from hcells.symm]
    simp [World.shape?, World.freeze, hW]
    rw [modify_push]
    simp
  refine ⟨.slice (some ⟨w.heap.size, 0, none⟩) s.length (grownCap w s.length 0 e), W, cells, e, (cells.size, cells.size + 1), ?_, ?_, ?_, ?_⟩
  · simp only [execOp, q, Sem.run_bind, run, Result.andThen_ok, Sem.run_pure]
  · rw [hW]; exact ⟨rfl, rfl, rfl⟩
  · rw [hW]
  · simp only [R]
    refine ⟨some ⟨w.heap.size, 0, none⟩, grownCap w s.length 0 e, s.map fun b => Value.int .u8 (b.toNat : Int), by simp, ?_, ?_, by simpa using hge, by simp, by simp, by simp, .inr ⟨w.heap.size, 0, rfl, ?_⟩⟩
    · clear hcells hcs hW run hge hsz q e1 hA
      induction s with
      | nil => simp [RL]
      | cons b s ih => simp only [List.map_cons, RL]; exact ⟨.int .u8 b.toNat, _, rfl, ⟨rfl, by simp [R]⟩, ih⟩
    · intro v hv
      obtain ⟨b, _, rfl⟩ := List.mem_map.1 hv; rfl
    · refine ⟨[], List.replicate (grownCap w s.length 0 e - s.length) (.int .u8 0), ?_, rfl⟩
      simp [G.froze, hcells]

end
end Go.Proofs.Ytickdhdlljhomaa.Ev
