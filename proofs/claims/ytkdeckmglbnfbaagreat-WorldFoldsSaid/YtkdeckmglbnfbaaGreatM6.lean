/-
  Part 6 of what the proof of the statement WorldFolds leans on: the evaluator, the functions in compact form, and what they answer.
-/
import Derived.Test.YtkdeckmglbnfbaaGreatM5
import Derived.Test.YtkdeckmglbnfbaaGreatProg
import Derived.KernelRfl
set_option linter.unusedSimpArgs false
set_option linter.unusedVariables false
set_option maxRecDepth 10000
namespace Go.Proofs.YtkdeckmglbnfbaaGreat.Ev
open Go
section
theorem c7x (w:Wd) (c:Cmd) (ok:WdOk w) (hw:WR w) (H:Hp) (id b:Nat) (r:Rn) (hr:r∈w.runs) (h:Bx H id b w c) :
    ACall Tryz.prog 156 [rnV r,.ptr b 0 0] H [b,id] (rnE (a3k w.now (fun t s => a2y t s w.now) c.token r)) [] 2:=by
  refine ena156 (by simp) (by simp [lowL,V.low,h.lq,V.low_closed _ (a0g r)]) h.fp (by simp) ?_
  have q1:only [b,id] H.m b=some (.arr 1 [.ptr id 0 0]):=by simp [only,h.hq]
  have q2:only [b,id] H.m id=some (.arr 12 [drV w c]):=by simp [only,h.ho]
  unfold drV drU at q2
  have l1:¬ b=H.n:=by have:=h.lq; omega
  have l2:¬ id=H.n:=by have:=h.li; omega
  have l3:¬ b=H.n+1:=by have:=h.lq; omega
  have l4:¬ id=H.n+1:=by have:=h.li; omega
  have hb:=d0e r w.now c.token (ok.run r hr) (hw.runs r hr).2
  generalize a3k w.now (fun t s => a2y t s w.now) c.token r=z at hb
  unfold rnE at hb
  simp (maxSteps:=1000000) (disch:=omega) only [rg,gD,simprocAttr,c156,q1,q2,l1,l2,l3,l4,a1e,a2a]
  refine ⟨⟨rfl,rfl⟩, ?_⟩
  refine ⟨_,hb, ?_⟩
  simp (maxSteps:=1000000) (disch:=omega) only [rg,gD,simprocAttr,q1,q2,l1,l2,l3,l4,a1e,a2a]
  refine a1v (l:=[rnV z.1,.int .i64 z.2]) (by simp (disch:=omega) only [r156,resE,find,a2i,a0d,a0c,reduceIte,Nat.reduceEqDiff]; rfl) (.inl rfl) (by simp) (fun j => ?_)
  by_cases hj:j=H.n
  · subst hj; left; simp [appd,only]; omega
  · by_cases hj2:j=H.n+1
    · subst hj2; left; simp [appd,only]; omega
    · right; simp [appd,upd,hj,hj2]
set_option maxHeartbeats 1000000 in
theorem d5j (w:Wd) (c:Cmd) (ok:WdOk w) (hw:WR w):DoC 94 w c (a3e w (fun t s => a2y t s w.now) c.token):=by
  refine mkDo (k:=w.runs.length*1001+9) ena94 (by simp) fun id h m hid ho fin => ?_
  have hoo:=(show only [id] m id=m id by simp [only]).trans ho
  have l1:¬ id=h:=by omega
  have l2:¬ id=h+1:=by omega
  have l3:¬ h=id:=by omega
  have l4:¬ h+1=id:=by omega
  simp (maxSteps:=1000000) (disch:=omega) only [rg,gD,simprocAttr,c94,hoo,l1,l2]
  refine ⟨_,_,_,_,b7u w c ok hw 156 h (fun t s => a2y t s w.now) _ id ⟨by simp only []; omega,by simp only []; omega,by simp (disch:=omega) only [a0c,hoo]; rfl,(by simp (disch:=omega) only [a0d,a0c,wo_0,wo_1,wo_2])⟩ (fun H' r hr hb => c7x w c ok hw H' id h r hr hb), ?_⟩
  generalize a3e w (fun t s => a2y t s w.now) c.token=z at fin ⊢
  simp (maxSteps:=1000000) (disch:=omega) only [rg,gD,simprocAttr,ansV,hoo,l1,l2,l3,l4]
  refine fin _ _ _ (by simp (disch:=omega) only [r94,resE,find,a2i,a0d,a0c,reduceIte,Nat.reduceEqDiff]; rfl) (by simp [lo,loL,ansV,a0h,a0v,a0l a0n]) (by simp only []; omega) ?_
  simp (disch:=omega) only [a0c,a0d]
theorem c3c (w:Wd) (c:Cmd) (ok:WdOk w) (hw:WR w) (H:Hp) (id b:Nat) (r:Rn) (hr:r∈w.runs) (h:Bx H id b w c) :
    ACall Tryz.prog 158 [rnV r,.ptr b 0 0] H [b,id] (rnE (a3k w.now (fun t s => a2o s c.text) c.token r)) [] 2:=by
  refine ena158 (by simp) (by simp [lowL,V.low,h.lq,V.low_closed _ (a0g r)]) h.fp (by simp) ?_
  have q1:only [b,id] H.m b=some (.arr 1 [.ptr id 0 0]):=by simp [only,h.hq]
  have q2:only [b,id] H.m id=some (.arr 12 [drV w c]):=by simp [only,h.ho]
  unfold drV drU at q2
  have l1:¬ b=H.n:=by have:=h.lq; omega
  have l2:¬ id=H.n:=by have:=h.li; omega
  have l3:¬ b=H.n+1:=by have:=h.lq; omega
  have l4:¬ id=H.n+1:=by have:=h.li; omega
  have hb:=d0w r w.now c.token c.text (ok.run r hr) (hw.runs r hr).2
  generalize a3k w.now (fun t s => a2o s c.text) c.token r=z at hb
  unfold rnE at hb
  simp (maxSteps:=1000000) (disch:=omega) only [rg,gD,simprocAttr,c158,q1,q2,l1,l2,l3,l4,a1e,a2a]
  refine ⟨⟨rfl,rfl⟩, ?_⟩
  refine ⟨_,hb, ?_⟩
  simp (maxSteps:=1000000) (disch:=omega) only [rg,gD,simprocAttr,q1,q2,l1,l2,l3,l4,a1e,a2a]
  refine a1v (l:=[rnV z.1,.int .i64 z.2]) (by simp (disch:=omega) only [r158,resE,find,a2i,a0d,a0c,reduceIte,Nat.reduceEqDiff]; rfl) (.inl rfl) (by simp) (fun j => ?_)
  by_cases hj:j=H.n
  · subst hj; left; simp [appd,only]; omega
  · by_cases hj2:j=H.n+1
    · subst hj2; left; simp [appd,only]; omega
    · right; simp [appd,upd,hj,hj2]
set_option maxHeartbeats 1000000 in
theorem d5v (w:Wd) (c:Cmd) (ok:WdOk w) (hw:WR w):DoC 95 w c (a3e w (fun t s => a2o s c.text) c.token):=by
  refine mkDo (k:=w.runs.length*1001+9) ena95 (by simp) fun id h m hid ho fin => ?_
  have hoo:=(show only [id] m id=m id by simp [only]).trans ho
  have l1:¬ id=h:=by omega
  have l2:¬ id=h+1:=by omega
  have l3:¬ h=id:=by omega
  have l4:¬ h+1=id:=by omega
  simp (maxSteps:=1000000) (disch:=omega) only [rg,gD,simprocAttr,c95,hoo,l1,l2]
  refine ⟨_,_,_,_,b7u w c ok hw 158 h (fun t s => a2o s c.text) _ id ⟨by simp only []; omega,by simp only []; omega,by simp (disch:=omega) only [a0c,hoo]; rfl,(by simp (disch:=omega) only [a0d,a0c,wo_0,wo_1,wo_2])⟩ (fun H' r hr hb => c3c w c ok hw H' id h r hr hb), ?_⟩
  generalize a3e w (fun t s => a2o s c.text) c.token=z at fin ⊢
  simp (maxSteps:=1000000) (disch:=omega) only [rg,gD,simprocAttr,ansV,hoo,l1,l2,l3,l4]
  refine fin _ _ _ (by simp (disch:=omega) only [r95,resE,find,a2i,a0d,a0c,reduceIte,Nat.reduceEqDiff]; rfl) (by simp [lo,loL,ansV,a0h,a0v,a0l a0n]) (by simp only []; omega) ?_
  simp (disch:=omega) only [a0c,a0d]
theorem c7z (w:Wd) (c:Cmd) (ok:WdOk w) (hw:WR w) (H:Hp) (id b:Nat) (r:Rn) (hr:r∈w.runs) (h:Bx H id b w c) :
    ACall Tryz.prog 160 [rnV r,.ptr b 0 0] H [b,id] (rnE (a3k w.now (fun t s => a2c t s w.now) c.token r)) [] 2:=by
  refine ena160 (by simp) (by simp [lowL,V.low,h.lq,V.low_closed _ (a0g r)]) h.fp (by simp) ?_
  have q1:only [b,id] H.m b=some (.arr 1 [.ptr id 0 0]):=by simp [only,h.hq]
  have q2:only [b,id] H.m id=some (.arr 12 [drV w c]):=by simp [only,h.ho]
  unfold drV drU at q2
  have l1:¬ b=H.n:=by have:=h.lq; omega
  have l2:¬ id=H.n:=by have:=h.li; omega
  have l3:¬ b=H.n+1:=by have:=h.lq; omega
  have l4:¬ id=H.n+1:=by have:=h.li; omega
  have hb:=c9x r w.now c.token (ok.run r hr) (hw.runs r hr).2
  generalize a3k w.now (fun t s => a2c t s w.now) c.token r=z at hb
  unfold rnE at hb
  simp (maxSteps:=1000000) (disch:=omega) only [rg,gD,simprocAttr,c160,q1,q2,l1,l2,l3,l4,a1e,a2a]
  refine ⟨⟨rfl,rfl⟩, ?_⟩
  refine ⟨_,hb, ?_⟩
  simp (maxSteps:=1000000) (disch:=omega) only [rg,gD,simprocAttr,q1,q2,l1,l2,l3,l4,a1e,a2a]
  refine a1v (l:=[rnV z.1,.int .i64 z.2]) (by simp (disch:=omega) only [r160,resE,find,a2i,a0d,a0c,reduceIte,Nat.reduceEqDiff]; rfl) (.inl rfl) (by simp) (fun j => ?_)
  by_cases hj:j=H.n
  · subst hj; left; simp [appd,only]; omega
  · by_cases hj2:j=H.n+1
    · subst hj2; left; simp [appd,only]; omega
    · right; simp [appd,upd,hj,hj2]
set_option maxHeartbeats 1000000 in
theorem d2y (w:Wd) (c:Cmd) (ok:WdOk w) (hw:WR w):DoC 96 w c (a3e w (fun t s => a2c t s w.now) c.token):=by
  refine mkDo (k:=w.runs.length*1001+9) ena96 (by simp) fun id h m hid ho fin => ?_
  have hoo:=(show only [id] m id=m id by simp [only]).trans ho
  have l1:¬ id=h:=by omega
  have l2:¬ id=h+1:=by omega
  have l3:¬ h=id:=by omega
  have l4:¬ h+1=id:=by omega
  simp (maxSteps:=1000000) (disch:=omega) only [rg,gD,simprocAttr,c96,hoo,l1,l2]
  refine ⟨_,_,_,_,b7u w c ok hw 160 h (fun t s => a2c t s w.now) _ id ⟨by simp only []; omega,by simp only []; omega,by simp (disch:=omega) only [a0c,hoo]; rfl,(by simp (disch:=omega) only [a0d,a0c,wo_0,wo_1,wo_2])⟩ (fun H' r hr hb => c7z w c ok hw H' id h r hr hb), ?_⟩
  generalize a3e w (fun t s => a2c t s w.now) c.token=z at fin ⊢
  simp (maxSteps:=1000000) (disch:=omega) only [rg,gD,simprocAttr,ansV,hoo,l1,l2,l3,l4]
  refine fin _ _ _ (by simp (disch:=omega) only [r96,resE,find,a2i,a0d,a0c,reduceIte,Nat.reduceEqDiff]; rfl) (by simp [lo,loL,ansV,a0h,a0v,a0l a0n]) (by simp only []; omega) ?_
  simp (disch:=omega) only [a0c,a0d]
end
section
def a3c (id:Nat) (k:Int):V :=
  if k=1 then .fn 91 [.ptr id 0 0] [] else if k=2 then .fn 92 [.ptr id 0 0] [] else if k=3 then .fn 93 [.ptr id 0 0] [] else if k=4 then .fn 94 [.ptr id 0 0] [] else if k=5 then .fn 95 [.ptr id 0 0] [] else if k=6 then .fn 96 [.ptr id 0 0] [] else if k=7 then .fn 97 [.ptr id 0 0] [] else if k=8 then .fn 98 [.ptr id 0 0] [] else if k=9 then .fn 99 [.ptr id 0 0] [] else if k=10 then .fn 100 [.ptr id 0 0] [] else .nilf
set_option maxHeartbeats 1000000 in
theorem d3s (w:Wd) (c:Cmd) (H:Hp) (id:Nat) (hid:id < H.n) (ho:H.m id=some (.arr 12 [drV w c])):ACall Tryz.prog 38 [.ptr id 0 0] H [id] (a3c id c.kind) [] 0:=by
  refine ena38 (by simp) (by simp [lowL,V.low,hid]) (by simp [hid,ho,Ob.low,lowL,b5c]) (by simp) ?_
  have hoo:only [id] H.m id=some (.arr 12 [drV w c]):=by simp [only,ho]
  unfold drV drU at hoo
  by_cases k1:c.kind=1
  · have hz:a3c id c.kind=.fn 91 [.ptr id 0 0] []:=by unfold a3c; rw [ if_pos k1]
    rw [hz]
    simp (maxSteps:=1000000) (disch:=omega) only [rg,gD,simprocAttr,c38,hoo,eq_true k1]
    exact a1v (l:=[_]) rfl (.inl rfl) (by simp) (fun j => .inr rfl)
  by_cases k2:c.kind=2
  · have hz:a3c id c.kind=.fn 92 [.ptr id 0 0] []:=by unfold a3c; rw [if_neg k1,if_pos k2]
    rw [hz]
    simp (maxSteps:=1000000) (disch:=omega) only [rg,gD,simprocAttr,c38,hoo,eq_true k2,eq_false k1]
    exact a1v (l:=[_]) rfl (.inl rfl) (by simp) (fun j => .inr rfl)
  by_cases k3:c.kind=3
  · have hz:a3c id c.kind=.fn 93 [.ptr id 0 0] []:=by unfold a3c; rw [if_neg k1,if_neg k2,if_pos k3]
    rw [hz]
    simp (maxSteps:=1000000) (disch:=omega) only [rg,gD,simprocAttr,c38,hoo,eq_true k3,eq_false k1,eq_false k2]
    exact a1v (l:=[_]) rfl (.inl rfl) (by simp) (fun j => .inr rfl)
  by_cases k4:c.kind=4
  · have hz:a3c id c.kind=.fn 94 [.ptr id 0 0] []:=by unfold a3c; rw [if_neg k1,if_neg k2,if_neg k3,if_pos k4]
    rw [hz]
    simp (maxSteps:=1000000) (disch:=omega) only [rg,gD,simprocAttr,c38,hoo,eq_true k4,eq_false k1,eq_false k2,eq_false k3]
    exact a1v (l:=[_]) rfl (.inl rfl) (by simp) (fun j => .inr rfl)
  by_cases k5:c.kind=5
  · have hz:a3c id c.kind=.fn 95 [.ptr id 0 0] []:=by unfold a3c; rw [if_neg k1,if_neg k2,if_neg k3,if_neg k4,if_pos k5]
    rw [hz]
    simp (maxSteps:=1000000) (disch:=omega) only [rg,gD,simprocAttr,c38,hoo,eq_true k5,eq_false k1,eq_false k2,eq_false k3,eq_false k4]
    exact a1v (l:=[_]) rfl (.inl rfl) (by simp) (fun j => .inr rfl)
  by_cases k6:c.kind=6
  · have hz:a3c id c.kind=.fn 96 [.ptr id 0 0] []:=by unfold a3c; rw [if_neg k1,if_neg k2,if_neg k3,if_neg k4,if_neg k5,if_pos k6]
    rw [hz]
    simp (maxSteps:=1000000) (disch:=omega) only [rg,gD,simprocAttr,c38,hoo,eq_true k6,eq_false k1,eq_false k2,eq_false k3,eq_false k4,eq_false k5]
    exact a1v (l:=[_]) rfl (.inl rfl) (by simp) (fun j => .inr rfl)
  by_cases k7:c.kind=7
  · have hz:a3c id c.kind=.fn 97 [.ptr id 0 0] []:=by unfold a3c; rw [if_neg k1,if_neg k2,if_neg k3,if_neg k4,if_neg k5,if_neg k6,if_pos k7]
    rw [hz]
    simp (maxSteps:=1000000) (disch:=omega) only [rg,gD,simprocAttr,c38,hoo,eq_true k7,eq_false k1,eq_false k2,eq_false k3,eq_false k4,eq_false k5,eq_false k6]
    exact a1v (l:=[_]) rfl (.inl rfl) (by simp) (fun j => .inr rfl)
  by_cases k8:c.kind=8
  · have hz:a3c id c.kind=.fn 98 [.ptr id 0 0] []:=by unfold a3c; rw [if_neg k1,if_neg k2,if_neg k3,if_neg k4,if_neg k5,if_neg k6,if_neg k7,if_pos k8]
    rw [hz]
    simp (maxSteps:=1000000) (disch:=omega) only [rg,gD,simprocAttr,c38,hoo,eq_true k8,eq_false k1,eq_false k2,eq_false k3,eq_false k4,eq_false k5,eq_false k6,eq_false k7]
    exact a1v (l:=[_]) rfl (.inl rfl) (by simp) (fun j => .inr rfl)
  by_cases k9:c.kind=9
  · have hz:a3c id c.kind=.fn 99 [.ptr id 0 0] []:=by unfold a3c; rw [if_neg k1,if_neg k2,if_neg k3,if_neg k4,if_neg k5,if_neg k6,if_neg k7,if_neg k8,if_pos k9]
    rw [hz]
    simp (maxSteps:=1000000) (disch:=omega) only [rg,gD,simprocAttr,c38,hoo,eq_true k9,eq_false k1,eq_false k2,eq_false k3,eq_false k4,eq_false k5,eq_false k6,eq_false k7,eq_false k8]
    exact a1v (l:=[_]) rfl (.inl rfl) (by simp) (fun j => .inr rfl)
  by_cases k10:c.kind=10
  · have hz:a3c id c.kind=.fn 100 [.ptr id 0 0] []:=by unfold a3c; rw [if_neg k1,if_neg k2,if_neg k3,if_neg k4,if_neg k5,if_neg k6,if_neg k7,if_neg k8,if_neg k9,if_pos k10]
    rw [hz]
    simp (maxSteps:=1000000) (disch:=omega) only [rg,gD,simprocAttr,c38,hoo,eq_true k10,eq_false k1,eq_false k2,eq_false k3,eq_false k4,eq_false k5,eq_false k6,eq_false k7,eq_false k8,eq_false k9]
    exact a1v (l:=[_]) rfl (.inl rfl) (by simp) (fun j => .inr rfl)
  have hz:a3c id c.kind=.nilf:=by unfold a3c; rw [if_neg k1,if_neg k2,if_neg k3,if_neg k4,if_neg k5,if_neg k6,if_neg k7,if_neg k8,if_neg k9,if_neg k10]
  rw [hz]
  simp (maxSteps:=1000000) (disch:=omega) only [rg,gD,simprocAttr,c38,hoo,eq_false k1,eq_false k2,eq_false k3,eq_false k4,eq_false k5,eq_false k6,eq_false k7,eq_false k8,eq_false k9,eq_false k10]
  exact a1v (l:=[_]) rfl (.inl rfl) (by simp) (fun j => .inr rfl)
theorem c1b (w:Wd) (c:Cmd) (ok:WdOk w) (hw:WR w) (hdd:a2w c.dag) :
    (∃ mth,(∀ id,a3c id c.kind=.fn mth [.ptr id 0 0] [])∧DoC mth w c (a1u w c))∨((∀ id,a3c id c.kind=.nilf)∧a1u w c=(w,whyA 230)):=by
  by_cases k1:c.kind=1
  · left
    refine ⟨91,fun id => by unfold a3c; rw [ if_pos k1], ?_⟩
    have hz:a1u w c=a2t w c.dag:=by unfold a1u; rw [ if_pos k1]
    rw [hz]; exact c8c w c ok hw hdd
  by_cases k2:c.kind=2
  · left
    refine ⟨92,fun id => by unfold a3c; rw [if_neg k1,if_pos k2], ?_⟩
    have hz:a1u w c=a5i w c.key c.name:=by unfold a1u; rw [if_neg k1,if_pos k2]
    rw [hz]; exact d0g w c ok hw
  by_cases k3:c.kind=3
  · left
    refine ⟨93,fun id => by unfold a3c; rw [if_neg k1,if_neg k2,if_pos k3], ?_⟩
    have hz:a1u w c=a5s w:=by unfold a1u; rw [if_neg k1,if_neg k2,if_pos k3]
    rw [hz]; exact d2w w c ok hw
  by_cases k4:c.kind=4
  · left
    refine ⟨94,fun id => by unfold a3c; rw [if_neg k1,if_neg k2,if_neg k3,if_pos k4], ?_⟩
    have hz:a1u w c=a3e w (fun t s => a2y t s w.now) c.token:=by unfold a1u; rw [if_neg k1,if_neg k2,if_neg k3,if_pos k4]
    rw [hz]; exact d5j w c ok hw
  by_cases k5:c.kind=5
  · left
    refine ⟨95,fun id => by unfold a3c; rw [if_neg k1,if_neg k2,if_neg k3,if_neg k4,if_pos k5], ?_⟩
    have hz:a1u w c=a3e w (fun t s => a2o s c.text) c.token:=by unfold a1u; rw [if_neg k1,if_neg k2,if_neg k3,if_neg k4,if_pos k5]
    rw [hz]; exact d5v w c ok hw
  by_cases k6:c.kind=6
  · left
    refine ⟨96,fun id => by unfold a3c; rw [if_neg k1,if_neg k2,if_neg k3,if_neg k4,if_neg k5,if_pos k6], ?_⟩
    have hz:a1u w c=a3e w (fun t s => a2c t s w.now) c.token:=by unfold a1u; rw [if_neg k1,if_neg k2,if_neg k3,if_neg k4,if_neg k5,if_pos k6]
    rw [hz]; exact d2y w c ok hw
  by_cases k7:c.kind=7
  · left
    refine ⟨97,fun id => by unfold a3c; rw [if_neg k1,if_neg k2,if_neg k3,if_neg k4,if_neg k5,if_neg k6,if_pos k7], ?_⟩
    have hz:a1u w c=a3n w c.key:=by unfold a1u; rw [if_neg k1,if_neg k2,if_neg k3,if_neg k4,if_neg k5,if_neg k6,if_pos k7]
    rw [hz]; exact c7g w c ok hw
  by_cases k8:c.kind=8
  · left
    refine ⟨98,fun id => by unfold a3c; rw [if_neg k1,if_neg k2,if_neg k3,if_neg k4,if_neg k5,if_neg k6,if_neg k7,if_pos k8], ?_⟩
    have hz:a1u w c=a6f w c.time:=by unfold a1u; rw [if_neg k1,if_neg k2,if_neg k3,if_neg k4,if_neg k5,if_neg k6,if_neg k7,if_pos k8]
    rw [hz]; exact d5q w c
  by_cases k9:c.kind=9
  · left
    refine ⟨99,fun id => by unfold a3c; rw [if_neg k1,if_neg k2,if_neg k3,if_neg k4,if_neg k5,if_neg k6,if_neg k7,if_neg k8,if_pos k9], ?_⟩
    have hz:a1u w c=a5n w c.key:=by unfold a1u; rw [if_neg k1,if_neg k2,if_neg k3,if_neg k4,if_neg k5,if_neg k6,if_neg k7,if_neg k8,if_pos k9]
    rw [hz]; exact c8q w c ok hw
  by_cases k10:c.kind=10
  · left
    refine ⟨100,fun id => by unfold a3c; rw [if_neg k1,if_neg k2,if_neg k3,if_neg k4,if_neg k5,if_neg k6,if_neg k7,if_neg k8,if_neg k9,if_pos k10], ?_⟩
    have hz:a1u w c=(w,whyA 0):=by unfold a1u; rw [if_neg k1,if_neg k2,if_neg k3,if_neg k4,if_neg k5,if_neg k6,if_neg k7,if_neg k8,if_neg k9,if_pos k10]
    rw [hz]; exact d4i w c
  right
  exact ⟨fun id => by unfold a3c; rw [if_neg k1,if_neg k2,if_neg k3,if_neg k4,if_neg k5,if_neg k6,if_neg k7,if_neg k8,if_neg k9,if_neg k10],by unfold a1u; rw [if_neg k1,if_neg k2,if_neg k3,if_neg k4,if_neg k5,if_neg k6,if_neg k7,if_neg k8,if_neg k9,if_neg k10]⟩
abbrev Same (w:Wd) (p:Wd×Ans):Prop:=p.2.why≠0→p.1=w
theorem Same.w {w:Wd} {a:Ans}:Same w (w,a):=fun _ => rfl
theorem Same.z {w w':Wd} {a:Ans} (h:a.why=0):Same w (w',a):=fun hh => absurd h hh
theorem c6i (w:Wd) (c:Cmd):Same w (a1u w c):=by
  unfold a1u
  by_cases k1:c.kind=1
  · rw [if_pos k1]; unfold a2t; repeat' split
    all_goals first | exact Same.w | exact Same.z rfl
  rw [if_neg k1]; by_cases k2:c.kind=2
  · rw [if_pos k2]; unfold a5i; repeat' split
    all_goals first | exact Same.w | exact Same.z rfl
  rw [if_neg k2]; by_cases k3:c.kind=3
  · rw [if_pos k3]; unfold a5s; repeat' split
    all_goals first | exact Same.w | exact Same.z rfl
  rw [if_neg k3]
  have ht:∀ f,Same w (a3e w f c.token):=fun f => by
    unfold a3e; repeat' split
    all_goals first | exact Same.w | exact Same.z rfl
  by_cases k4:c.kind=4
  · rw [if_pos k4]; exact ht _
  rw [if_neg k4]; by_cases k5:c.kind=5
  · rw [if_pos k5]; exact ht _
  rw [if_neg k5]; by_cases k6:c.kind=6
  · rw [if_pos k6]; exact ht _
  rw [if_neg k6]; by_cases k7:c.kind=7
  · rw [if_pos k7]; unfold a3n; repeat' split
    all_goals first | exact Same.w | exact Same.z rfl
  rw [if_neg k7]; by_cases k8:c.kind=8
  · rw [if_pos k8]; unfold a6f; repeat' split
    all_goals first | exact Same.w | exact Same.z rfl
  rw [if_neg k8]; by_cases k9:c.kind=9
  · rw [if_pos k9]; unfold a5n; repeat' split
    all_goals first | exact Same.w | exact Same.z rfl
  rw [if_neg k9]; split<;>exact Same.w
theorem DoC.call {f:Nat} {w:Wd} {c:Cmd} {p:Wd×Ans} (h:DoC f w c p) {H:Hp} {id:Nat} {K:KI} (hid:id < H.n) (ho:H.m id=some (.arr 12 [drV w c])) (hk:∀ k,K (ansV p.2) [id] [(id,some (.arr 12 [drV p.1 c]))] k):CallA Tryz.prog f [.ptr id 0 0] H K:=by
  obtain ⟨k,h1⟩:=h H id hid ho
  exact ⟨_,_,_,_,h1,hk k⟩
theorem c8d (a:Ans):getC none 0 (ansV a)=some (.int .i64 a.why):=rfl
open Classical in
set_option maxHeartbeats 1000000 in
theorem b9l (w:Wd) (c:Cmd) (ok:WdOk w) (hdd:a2w c.dag):PCall Tryz.prog 14 [wdV w,cmdV c] (waV (doS w c)):=by
  have hnr:=ok.runs
  refine en14 (by simp) (by simp [a0b,a1n,a3y]) ?_
  have hwr:=b2c w ok
  unfold wdV at hwr
  by_cases h:WR w
  case neg =>
    rw [decide_eq_false h] at hwr
    simp (maxSteps:=1000000) (disch:=omega) only [rg,gD,simprocAttr,c14,wdV,cmdV]
    refine ⟨_,hwr, ?_⟩
    simp (maxSteps:=1000000) (disch:=omega) only [rg,gD,simprocAttr,wdV]
    refine ⟨_,a1s 1, ?_⟩
    simp (maxSteps:=1000000) (disch:=omega) only [rg,gD,simprocAttr,ansV]
    (refine a0f rfl ?_ ?_<;>simp [pack,lo,loL,V.closed,a0b,a0a,doS,h,waV,whyA,wdV,ansV,a0h,a0v,a0l a0y,a0l a1i,a0l a0n,a0a a0i,a0g,a0e])
  have hds:doS w c=a1u w c:=by unfold doS; rw [if_pos h]
  rw [hds]
  rw [decide_eq_true h] at hwr
  have hsame:=c6i w c
  simp (maxSteps:=1000000) (disch:=omega) only [rg,gD,simprocAttr,c14,wdV,cmdV]
  refine ⟨_,hwr, ?_⟩
  simp (maxSteps:=1000000) (disch:=omega) only [rg,gD,simprocAttr,wdV,cmdV]
  refine ⟨rfl, ?_⟩
  refine ⟨_,_,_,_,d3s w c _ 4 (by simp) (by simp (disch:=omega) only [a0d,a0c,wo_0,wo_1,wo_2,drV,drU]), ?_⟩
  rcases c1b w c ok h hdd with ⟨mth,h1,h2⟩ | ⟨h1,h2⟩
  · generalize a1u w c=z at h2 hsame
    rw [h1]
    simp (maxSteps:=1000000) (disch:=omega) only [rg,gD,simprocAttr,wdV,cmdV]
    refine h2.call (by simp) (by simp (disch:=omega) only [a0d,a0c,wo_0,wo_1,wo_2,drV,drU]) fun k => ?_
    by_cases z0:z.2.why=0
    · simp (maxSteps:=1000000) (disch:=omega) only [rg,gD,simprocAttr,ansV,eq_true z0,drV,drU]
      refine ⟨by simp [a1h,disj,nthL]<;>omega, ?_⟩
      refine a0f (by simp (disch:=omega) only [r14,resE,find,a2i,a0d,a0c,reduceIte,Nat.reduceEqDiff]; rfl) ?_ ?_<;>simp [pack,lo,loL,V.closed,a0b,a0a,waV,wdV,ansV,a0h,a0v,a0l a0y,a0l a1i,a0l a0n,a0a a0i,a0g,a0e]
    · have hz:=hsame z0
      simp (maxSteps:=1000000) (disch:=omega) only [rg,gD,simprocAttr,ansV,eq_false z0,drV,drU]
      refine ⟨by simp [a1h,disj,nthL]<;>omega, ?_⟩
      refine a0f (by simp (disch:=omega) only [r14,resE,find,a2i,a0d,a0c,reduceIte,Nat.reduceEqDiff]; rfl) ?_ ?_<;>simp [pack,lo,loL,V.closed,a0b,a0a,waV,wdV,ansV,a0h,a0v,a0l a0y,a0l a1i,a0l a0n,a0a a0i,a0g,a0e,hz]
  · rw [h1,h2]
    simp (maxSteps:=1000000) (disch:=omega) only [rg,gD,simprocAttr,wdV,cmdV]
    refine ⟨_,a1s 230, ?_⟩
    simp (maxSteps:=1000000) (disch:=omega) only [rg,gD,simprocAttr,ansV]
    (refine a0f rfl ?_ ?_<;>simp [pack,lo,loL,V.closed,a0b,a0a,waV,whyA,wdV,ansV,a0h,a0v,a0l a0y,a0l a1i,a0l a0n,a0a a0i,a0g,a0e])
end
abbrev a4o (s:Stt):Prop:=s.result.length≤4611686018427387904
theorem b8v:a4o zS:=by simp [a4o,zS]
theorem a7q (s:Stt) (h:a4o s):a4o (a1o s):=by unfold a1o; split<;>exact h
theorem b3n (s:Stt) (h:a4o s):a4o (a2r s):=by unfold a2r; split<;>exact h
theorem c0o (t:Task) (s:Stt) (now:Int) (h:a4o s):a4o (a2c t s now).1:=by
  unfold a2c; split
  · exact b8v
  · split<;>exact h
theorem c8r (t:Task) (s:Stt) (now:Int) (h:a4o s):a4o (a2y t s now).1:=by
  unfold a2y; split
  · exact b8v
  · exact h
theorem c9d (s:Stt) (r:Str) (h:a4o s):a4o (a2o s r).1:=by
  unfold a2o; split
  · exact b8v
  · split
    · exact b8v
    · rename_i h2; simp only [a4o]; omega
theorem c7m (t:Task) (s:Stt) (now token:Int) (h:a4o s):a4o (a1z t s now token).1:=by
  unfold a1z; split
  · exact b8v
  · split
    · exact b8v
    · exact h
theorem c2u (t:Task) (s:Stt) (now:Int) (h:a4o s):a4o (a1b t s now):=by
  unfold a1b; split
  · exact h
  · exact c0o t s _ h
theorem a9u {r:Rn} (now:Int) (h:∀ s∈r.states,a4o s):∀ s∈(a1m now r).states,a4o s :=
  b1e (p:=a4o) a7q b3n (fun t s => c2u t s now) h _
structure Shr (r r':Rn):Prop where
  shp:Shp r r'
  res:∀ s∈r'.states,a4o s
theorem Shr.ok {r r':Rn} (h:Shr r r') (ok:RnOk r) (hr:RnR r):RnOk r'∧RnL r':=by
  obtain ⟨h1,h2,h3,h4⟩:=hr.small
  refine ⟨⟨by rw [h.shp.key]; exact ok.key,by rw [h.shp.dag]; exact ok.needs,by rw [h.shp.dag]; exact ok.tasks,by rw [h.shp.len]; exact ok.states,h.res⟩,⟨?_,by rw [h.shp.len]; omega⟩⟩
  rw [h.shp.dag]; exact ⟨ok.tasks,ok.needs⟩
theorem c4r {r:Rn} {now token:Int} (hr:RnR r) (ok:RnOk r) (h:(a3a now token r).2.2=0):Shr r (a3a now token r).1:=by
  have hs:=a3h now r
  have hres:=a9u now ok.results
  have hlen:=hr.len
  unfold a3a a4g at h ⊢
  split at h
  · cases h
  split at h
  · cases h
  split at h
  · cases h
  rename_i h1 h2 h3
  rw [if_neg h1,if_neg h2,if_neg h3]
  split at h
  · rename_i i hi
    simp only [hi]
    obtain ⟨hg,_,_⟩:=a4k hi
    rw [a6h (by rw [hs.dag,← hlen,← hs.len]; exact hg) hg]
    exact ⟨hs.trans (a4f _ _ _),b3m hres (c7m _ _ _ _ (hres _ (List.getElem_mem hg)))⟩
  · cases h
theorem d0l {r:Rn} {now token:Int} {f:Task→Stt→Stt×Int} (ok:RnOk r) (hf:∀ t s,a4o s→a4o (f t s).1) (h:(a3k now f token r).2=0):Shr r (a3k now f token r).1:=by
  have hs:=a3h now r
  have hres:=a9u now ok.results
  unfold a3k b5i at h ⊢
  split at h
  · cases h
  · split at h
    · split at h
      · rename_i hz; exact absurd h hz
      · rename_i i _ _ t s _ hss hz
        simp only [hz,if_false]
        have hm:s∈(a1m now r).states:=List.mem_of_getElem? hss
        exact ⟨hs.trans ((a4f _ _ _).trans (a5u _)),b1x a7q b3n (b3m hres (hf t s (hres s hm)))⟩
    · cases h
theorem c2l {r:Rn} {now:Int} (ok:RnOk r) (h:(a2f now r).2=0):Shr r (a2f now r).1:=by
  have hs:=a3h now r
  have hres:=a9u now ok.results
  unfold a2f a6x at h ⊢
  split at h
  · cases h
  · rename_i hz; rw [if_neg hz]
    exact ⟨⟨hs.key,hs.dag,(a3u _ _).trans hs.len⟩,b1c a7q hres _⟩
structure WdM (w:Wd):Prop where
  ok:WdOk w
  run:∀ r∈w.runs,RnL r
theorem WdM.L {w:Wd} (h:WdM w):WdL w:=⟨by have:=h.ok.dags; omega,by have:=h.ok.runs; omega,h.ok.dag,h.run⟩
theorem WdM.set {w w':Wd} {i:Nat} {r:Rn} (h:WdM w) (e1:w'.dags=w.dags) (e2:w'.runs=w.runs.set i r) (h1:RnOk r) (h2:RnL r):WdM w':=by
  have hm:∀ x∈w'.runs,x∈w.runs∨x=r:=fun x hx => by rw [e2] at hx; exact List.mem_or_eq_of_mem_set hx
  refine ⟨⟨by rw [e1]; exact h.ok.dags,by rw [e2,List.length_set]; exact h.ok.runs,by rw [e1]; exact h.ok.dag,fun x hx => ?_⟩,fun x hx => ?_⟩
  · rcases hm x hx with hx | rfl
    · exact h.ok.run x hx
    · exact h1
  · rcases hm x hx with hx | rfl
    · exact h.run x hx
    · exact h2
theorem b7v {α:Type} {l:List α} {i e:Nat} {a x:α} (h:x∈l.take i++a::l.drop (i+e)):x∈l∨x=a:=by
  rcases List.mem_append.1 h with h | h
  · exact .inl (List.mem_of_mem_take h)
  · rcases List.mem_cons.1 h with h | h
    · exact .inr h
    · exact .inl (List.mem_of_mem_drop h)
theorem d7a {key:Str} {d:Dag} (hk:key.length≤4611686018427387904) (hd:a2w d) (h:a0t d=0):RnOk (newS key d)∧RnL (newS key d):=by
  obtain ⟨h1,h2,h3⟩:=b0b h
  have hs:=a5u (a4x key d)
  have hst:=a3j key d
  have hlen:(newS key d).states.length=d.tasks.length:=hs.len.trans hst
  have hdag:(newS key d).dag=d:=hs.dag
  refine ⟨⟨by rw [show (newS key d).key=key from hs.key]; exact hk,by rw [hdag]; exact hd.2,by rw [hdag]; exact hd.1,by omega,b1x a7q b3n fun s hs => ?_⟩,⟨by rw [hdag]; exact hd,by omega⟩⟩
  simp only [a4x,List.mem_replicate] at hs
  rw [hs.2]; exact b8v
theorem d7n (w:Wd) (c:Cmd) (h:WdM w) (hw:WR w) (hd:a2w c.dag):WdM (a1u w c).1:=by
  have htold:∀ f:Task→Stt→Stt×Int,(∀ t s,a4o s→a4o (f t s).1)→WdM (a3e w f c.token).1:=fun f hf => by
    unfold a3e
    split
    · exact h
    · rename_i i hi
      obtain ⟨hg,_,_⟩:=a4k hi
      rw [a2k hg]
      split
      · exact h
      · rename_i hz
        have hm:=List.getElem_mem hg
        have hz':(a3k w.now f c.token w.runs[i]).2=0:=Classical.not_not.1 hz
        obtain ⟨k1,k2⟩:=(d0l (h.ok.run _ hm) hf hz').ok (h.ok.run _ hm) (hw.runs _ hm).2
        exact h.set rfl rfl k1 k2
  unfold a1u
  by_cases k1:c.kind=1
  · rw [if_pos k1]; unfold a2t; repeat' split
    all_goals first | exact h | skip
    have hn:=hw.ndags
    refine ⟨⟨?_,h.ok.runs,fun d hx => ?_,h.ok.run⟩,h.run⟩
    · simp only [putD,List.length_append,List.length_take,List.length_cons,List.length_drop]; omega
    · rcases b7v (e:=0) hx with hx | rfl
      · exact h.ok.dag d hx
      · exact hd
  rw [if_neg k1]; by_cases k2:c.kind=2
  · rw [if_pos k2]; unfold a5i; repeat' split
    all_goals first | exact h | skip
    rename_i hk1 hin hk3 hk4
    have hn:=hw.nruns
    have hin':c.name∈a1j w.dags:=Classical.not_not.1 hin
    obtain ⟨hi,hnm⟩:=b3b hw.rdags hin'
    rw [a2k hi]
    have hm:=List.getElem_mem hi
    obtain ⟨g1,g2⟩:=d7a (key:=c.key) (by omega) (h.ok.dag _ hm) (hw.dags _ hm)
    refine ⟨⟨h.ok.dags, ?_,h.ok.dag,fun d hx => ?_⟩,fun d hx => ?_⟩
    · simp only [putR,List.length_append,List.length_take,List.length_cons,List.length_drop]; omega
    · rcases b7v hx with hx | rfl
      · exact h.ok.run d hx
      · exact g1
    · rcases b7v hx with hx | rfl
      · exact h.run d hx
      · exact g2
  rw [if_neg k2]; by_cases k3:c.kind=3
  · rw [if_pos k3]; unfold a5s; split
    · exact h
    split
    · exact h
    · rename_i i hi
      obtain ⟨hg,hp,_⟩:=a4k hi
      rw [a2k hg]
      have hm:=List.getElem_mem hg
      have hz:(a3a w.now (w.token+1) w.runs[i]).2.2=0:=by simpa [a5v] using hp
      obtain ⟨g1,g2⟩:=(c4r (hw.runs _ hm).2 (h.ok.run _ hm) hz).ok (h.ok.run _ hm) (hw.runs _ hm).2
      exact h.set rfl rfl g1 g2
  rw [if_neg k3]; by_cases k4:c.kind=4
  · rw [if_pos k4]; exact htold _ fun t s => c8r t s _
  rw [if_neg k4]; by_cases k5:c.kind=5
  · rw [if_pos k5]; exact htold _ fun t s => c9d s _
  rw [if_neg k5]; by_cases k6:c.kind=6
  · rw [if_pos k6]; exact htold _ fun t s => c0o t s _
  rw [if_neg k6]; by_cases k7:c.kind=7
  · rw [if_pos k7]; unfold a3n; split
    · exact h
    split
    · exact h
    · rename_i hc hz
      obtain ⟨hi,hnm⟩:=a6j hw.rruns (Classical.not_not.1 hc)
      rw [a2k hi] at hz ⊢
      have hm:=List.getElem_mem hi
      have hz':(a2f w.now w.runs[lbR c.key w.runs]).2=0:=Classical.not_not.1 hz
      obtain ⟨g1,g2⟩:=(c2l (h.ok.run _ hm) hz').ok (h.ok.run _ hm) (hw.runs _ hm).2
      exact h.set rfl rfl g1 g2
  rw [if_neg k7]; by_cases k8:c.kind=8
  · rw [if_pos k8]; unfold a6f; split
    · exact h
    · exact ⟨⟨h.ok.dags,h.ok.runs,h.ok.dag,h.ok.run⟩,h.run⟩
  rw [if_neg k8]; by_cases k9:c.kind=9
  · rw [if_pos k9]; unfold a5n; split<;>exact h
  rw [if_neg k9]; split<;>exact h
theorem do_M (w:Wd) (c:Cmd) (h:WdM w) (hd:a2w c.dag):WdM (doS w c).1:=by
  unfold doS; split
  · rename_i hw; exact d7n w c h hw hd
  · exact h
theorem d6f (w:Wd) (c:Cmd) (hw:WR w):(a1u w c).2.states.length≤1000000:=by
  have z:∀ n,(whyA n).states.length≤1000000:=fun n => by simp [whyA]
  unfold a1u a2t a5i a5s a3e a3n a6f
  repeat' split
  all_goals first | exact z _ | (simp; done) | skip
  unfold a5n
  split
  · exact z _
  · rename_i hc
    obtain ⟨hi,hnm⟩:=a6j hw.rruns (Classical.not_not.1 hc)
    rw [a2k hi]
    have:=(hw.runs _ (List.getElem_mem hi)).2.small.2.1
    show (a1m _ _).states.length≤_
    rw [(a3h _ _).len]; omega
theorem do_A (w:Wd) (c:Cmd):(doS w c).2.states.length≤1000000:=by
  unfold doS; split
  · rename_i hw; exact d6f w c hw
  · simp [whyA]
def r13:List RV:=[.c 2 (some 4)]
def c16:C :=
  (.seq
 (.reg false [p (.mov (.k (.bool false)))] [])
 (.seq
 (.reg false [p (.build [.int .i64 0,.int .i64 0,.fsl .nil 2 [],.fsl .nil 5 []] []),
 p (.build [.int .i64 0,.str [],.str [],.int .i64 0,.int .i64 0,.str [],.str [],.fsl .nil 4 []] [(0,1,.k (.int .i64 3))]),
 p (.call true (.k (.fn 14 [] [])) [.r 1,.r 0]),
 p (.mov (.r 0)),
 p (.ext (.r 0) 0),
 p (.ext (.r 1) 1),
 p (.alloc 4 (.agg [.int .i64 0,.int .i64 0,.fsl .nil 2 [],.fsl .nil 5 []])),
 p (.alloc 6 (.agg [.int .i64 0,.str [],.int .i64 0,.int .i64 0,.int .i64 0,.fsl .nil 5 []])),
 p (.store (some 4) (.r 1) (.r 3)),
 p (.store (some 6) (.r 1) (.r 3))] [(2,.r 2)])
 (.seq
 (.reg false [p (.fad 0 (.v 2)),
 p (.load (none) (.r 0)),
 p (.bin .eql (.r 0) (.k (.int .i64 192))),
 p (.mov (.r 0)),
 ⟨.build [.int .i64 0,.int .i64 0,.fsl .nil 2 [],.fsl .nil 5 []] [],some (0,true),[]⟩,
 ⟨.call true (.k (.fn 17 [] [])) [.r 0],some (1,true),[]⟩,
 p (.pick (.r 2) (.r 0) (.k (.bool false))),
 p (.mov (.r 0))] [(0,.r 0)])
 .ret)))
def r16:List RV:=[.t 0]
theorem en16:EnP Tryz.prog 16 16 c16 r16:=a0x (by kernel_rfl) Tryz.func16 (by kernel_rfl) ⟨_,rfl,by kernel_rfl,by kernel_rfl⟩
def c21:C :=
  (.seq
 (.reg false [p (.mov (.k (.fsl .nil 8 [])))] [(0,.v 0)])
 (.seq
 (.reg false [p (.mov (.v 0)),
 p (.mov (.v 0)),
 p (.len false (.r 0)),
 p (.mnx false (.r 0) [.k (.int .i64 60)]),
 p (.slc 8 (.r 3) none (some (.r 0)) none),
 p (.mov (.r 0))] [(2,.r 0)])
 .ret))
def r21:List RV:=[.t 2]
theorem en21:EnP Tryz.prog 21 8 c21 r21:=a0x (by kernel_rfl) Tryz.func21 (by kernel_rfl) ⟨_,rfl,by kernel_rfl,by kernel_rfl⟩
def c3:C :=
  (.seq
 (.reg false [p (.box 4 (.v 0)),
 p (.box 8 (.v 1)),
 p (.mov (.k (.bool false)))] [(2,.r 2),(3,.r 1)])
 (.seq
 (.reg false [p (.load (some 4) (.v 2)),
 p (.call true (.k (.fn 13 [] [])) [.r 0]),
 p (.store (some 4) (.v 2) (.r 0))] [(2,.v 2),(3,.v 3)])
 (.seq
 (.reg false [p (.load (some 4) (.v 2)),
 p (.load (some 8) (.v 3)),
 p (.call true (.k (.fn 14 [] [])) [.r 1,.r 0]),
 p (.mov (.r 0)),
 p (.ext (.r 0) 0),
 p (.ext (.r 1) 1),
 p (.alloc 4 (.agg [.int .i64 0,.int .i64 0,.fsl .nil 2 [],.fsl .nil 5 []])),
 p (.alloc 6 (.agg [.int .i64 0,.str [],.int .i64 0,.int .i64 0,.int .i64 0,.fsl .nil 5 []])),
 p (.store (some 4) (.r 1) (.r 3)),
 p (.store (some 6) (.r 1) (.r 3))] [(2,.v 2),(3,.v 3),(5,.r 3),(6,.r 2)])
 (.seq
 (.reg false [p (.load (some 4) (.v 2)),
 p (.load (some 8) (.v 3)),
 p (.call true (.k (.fn 15 [] [])) [.r 1,.r 0]),
 p (.mov (.r 0)),
 p (.ext (.r 0) 0),
 p (.ext (.r 1) 1),
 p (.alloc 4 (.agg [.int .i64 0,.int .i64 0,.fsl .nil 2 [],.fsl .nil 5 []])),
 p (.alloc 6 (.agg [.int .i64 0,.str [],.int .i64 0,.int .i64 0,.int .i64 0,.fsl .nil 5 []])),
 p (.store (some 4) (.r 1) (.r 3)),
 p (.store (some 6) (.r 1) (.r 3))] [(2,.v 2),(5,.v 5),(6,.v 6),(7,.r 3),(8,.r 2)])
 (.seq
 (.reg true [p (.call true (.k (.fn 16 [] [])) []),
 p (.mov (.r 0)),
 ⟨.load (some 4) (.v 2),some (0,true),[]⟩,
 ⟨.call true (.k (.fn 17 [] [])) [.r 0],some (1,true),[]⟩,
 ⟨.load (some 4) (.v 2),some (2,true),[]⟩,
 ⟨.call true (.k (.fn 18 [] [])) [.r 0],some (3,true),[]⟩,
 ⟨.eqb false (.r 2) (.r 0),some (4,true),[]⟩,
 p (.pick (.r 5) (.r 0) (.k (.bool false))),
 p (.mov (.r 0)),
 ⟨.load (some 4) (.v 5),some (0,true),[]⟩,
 ⟨.load (some 4) (.v 7),some (1,true),[]⟩,
 ⟨.call true (.k (.fn 19 [] [])) [.r 1,.r 0],some (2,true),[]⟩,
 p (.pick (.r 3) (.r 0) (.k (.bool false))),
 p (.mov (.r 0)),
 ⟨.load (some 6) (.v 6),some (0,true),[]⟩,
 ⟨.load (some 6) (.v 8),some (1,true),[]⟩,
 ⟨.call true (.k (.fn 20 [] [])) [.r 1,.r 0],some (2,true),[]⟩,
 p (.pick (.r 3) (.r 0) (.k (.bool false))),
 p (.mov (.r 0))] [(4,.r 0)])
 .ret)))))
def r3:List RV:=[.t 4]
def c4:C :=
  (.seq
 (.reg false [p (.box 4 (.v 0)),
 p (.box 8 (.v 1)),
 p (.mov (.k (.bool false)))] [(2,.r 2),(3,.r 1)])
 (.seq
 (.reg false [p (.load (some 4) (.v 2)),
 p (.call true (.k (.fn 13 [] [])) [.r 0]),
 p (.store (some 4) (.v 2) (.r 0))] [(2,.v 2),(3,.v 3)])
 (.seq
 (.seq
 (.reg false [p (.load (some 4) (.v 2)),
 p (.call true (.k (.fn 18 [] [])) [.r 0]),
 p (.un .not (.r 0))] [(2,.v 2),(3,.v 3),(13,.r 0)])
 (.cond (.v 13)
 (.seq
 (.reg false [p (.call true (.k (.fn 16 [] [])) []),
 p (.mov (.r 0))] [(4,.r 0)])
 .ret)
 .skip))
 (.seq
 (.reg false [p (.load (some 4) (.v 2)),
 p (.load (some 8) (.v 3)),
 p (.call true (.k (.fn 14 [] [])) [.r 1,.r 0]),
 p (.mov (.r 0)),
 p (.ext (.r 0) 0),
 p (.ext (.r 1) 1),
 p (.alloc 4 (.agg [.int .i64 0,.int .i64 0,.fsl .nil 2 [],.fsl .nil 5 []])),
 p (.alloc 6 (.agg [.int .i64 0,.str [],.int .i64 0,.int .i64 0,.int .i64 0,.fsl .nil 5 []])),
 p (.store (some 4) (.r 1) (.r 3)),
 p (.store (some 6) (.r 1) (.r 3))] [(2,.v 2),(3,.v 3),(5,.r 3),(6,.r 2)])
 (.seq
 (.seq
 (.reg false [p (.load (some 4) (.v 5)),
 p (.call true (.k (.fn 18 [] [])) [.r 0]),
 p (.un .not (.r 0)),
 p (.mov (.r 0)),
 ⟨.fad 0 (.v 5),some (0,false),[]⟩,
 ⟨.load (none) (.r 0),some (1,false),[]⟩,
 ⟨.fad 0 (.v 2),some (2,false),[]⟩,
 ⟨.load (none) (.r 0),some (3,false),[]⟩,
 ⟨.bin .lss (.r 2) (.r 0),some (4,false),[]⟩,
 p (.pick (.r 5) (.k (.bool true)) (.r 0)),
 p (.mov (.r 0)),
 ⟨.fad 1 (.v 5),some (0,false),[]⟩,
 ⟨.load (none) (.r 0),some (1,false),[]⟩,
 ⟨.fad 1 (.v 2),some (2,false),[]⟩,
 ⟨.load (none) (.r 0),some (3,false),[]⟩,
 ⟨.bin .lss (.r 2) (.r 0),some (4,false),[]⟩,
 p (.pick (.r 5) (.k (.bool true)) (.r 0)),
 p (.mov (.r 0)),
 ⟨.fad 2 (.v 5),some (0,false),[]⟩,
 ⟨.load (none) (.r 0),some (1,false),[]⟩,
 ⟨.len false (.r 0),some (2,false),[]⟩,
 ⟨.fad 2 (.v 2),some (3,false),[]⟩,
 ⟨.load (none) (.r 0),some (4,false),[]⟩,
 ⟨.len false (.r 0),some (5,false),[]⟩,
 ⟨.bin .lss (.r 3) (.r 0),some (6,false),[]⟩,
 p (.pick (.r 7) (.k (.bool true)) (.r 0)),
 p (.mov (.r 0)),
 ⟨.fad 3 (.v 5),some (0,false),[]⟩,
 ⟨.load (none) (.r 0),some (1,false),[]⟩,
 ⟨.len false (.r 0),some (2,false),[]⟩,
 ⟨.fad 3 (.v 2),some (3,false),[]⟩,
 ⟨.load (none) (.r 0),some (4,false),[]⟩,
 ⟨.len false (.r 0),some (5,false),[]⟩,
 ⟨.bin .lss (.r 3) (.r 0),some (6,false),[]⟩,
 p (.pick (.r 7) (.k (.bool true)) (.r 0)),
 p (.mov (.r 0)),
 ⟨.fad 0 (.v 6),some (0,false),[]⟩,
 ⟨.load (none) (.r 0),some (1,false),[]⟩,
 ⟨.bin .neq (.r 0) (.k (.int .i64 0)),some (2,false),[]⟩,
 ⟨.mov (.r 0),some (3,false),[]⟩,
 ⟨.load (some 4) (.v 5),some (0,true),[]⟩,
 ⟨.load (some 4) (.v 2),some (1,true),[]⟩,
 ⟨.call true (.k (.fn 19 [] [])) [.r 1,.r 0],some (2,true),[]⟩,
 ⟨.un .not (.r 0),some (3,true),[]⟩,
 ⟨.pick (.r 4) (.r 0) (.k (.bool false)),some (8,false),[]⟩,
 p (.pick (.r 9) (.k (.bool true)) (.r 0))] [(3,.v 3),(5,.v 5),(6,.v 6),(66,.r 0)])
 (.cond (.v 66)
 (.seq
 (.reg false [p (.mov (.k (.bool false)))] [(4,.r 0)])
 .ret)
 .skip))
 (.seq
 (.seq
 (.reg false [p (.fad 0 (.v 3)),
 p (.load (none) (.r 0)),
 p (.bin .neq (.r 0) (.k (.int .i64 1))),
 p (.mov (.r 0)),
 ⟨.fad 0 (.v 3),some (0,true),[]⟩,
 ⟨.load (none) (.r 0),some (1,true),[]⟩,
 ⟨.bin .neq (.r 0) (.k (.int .i64 2)),some (2,true),[]⟩,
 p (.pick (.r 3) (.r 0) (.k (.bool false)))] [(3,.v 3),(5,.v 5),(6,.v 6),(74,.r 0)])
 (.cond (.v 74)
 (.seq
 (.reg false [p (.call true (.k (.fn 16 [] [])) []),
 p (.mov (.r 0))] [(4,.r 0)])
 .ret)
 .skip))
 (.seq
 (.reg false [p (.load (some 4) (.v 5)),
 p (.load (some 8) (.v 3)),
 p (.call true (.k (.fn 14 [] [])) [.r 1,.r 0]),
 p (.mov (.r 0)),
 p (.ext (.r 0) 0),
 p (.ext (.r 1) 1),
 p (.alloc 4 (.agg [.int .i64 0,.int .i64 0,.fsl .nil 2 [],.fsl .nil 5 []])),
 p (.alloc 6 (.agg [.int .i64 0,.str [],.int .i64 0,.int .i64 0,.int .i64 0,.fsl .nil 5 []])),
 p (.store (some 4) (.r 1) (.r 3)),
 p (.store (some 6) (.r 1) (.r 3))] [(5,.v 5),(6,.v 6),(7,.r 3),(8,.r 2)])
 (.seq
 (.reg false [p (.call true (.k (.fn 16 [] [])) []),
 p (.mov (.r 0)),
 ⟨.load (some 4) (.v 5),some (0,true),[]⟩,
 ⟨.load (some 4) (.v 7),some (1,true),[]⟩,
 ⟨.call true (.k (.fn 19 [] [])) [.r 1,.r 0],some (2,true),[]⟩,
 p (.pick (.r 3) (.r 0) (.k (.bool false))),
 p (.mov (.r 0)),
 ⟨.load (some 6) (.v 6),some (0,true),[]⟩,
 ⟨.load (some 6) (.v 8),some (1,true),[]⟩,
 ⟨.call true (.k (.fn 20 [] [])) [.r 1,.r 0],some (2,true),[]⟩,
 p (.pick (.r 3) (.r 0) (.k (.bool false))),
 p (.mov (.r 0))] [(4,.r 0)])
 .ret))))))))
def r4:List RV:=[.t 4]
def c6:C :=
  (.seq
 (.reg false [p (.box 4 (.v 0)),
 p (.mov (.k (.bool false)))] [(1,.v 1),(2,.v 2),(3,.v 3),(4,.r 1)])
 (.seq
 (.reg false [p (.load (some 4) (.v 4)),
 p (.call true (.k (.fn 13 [] [])) [.r 0]),
 p (.store (some 4) (.v 4) (.r 0))] [(1,.v 1),(2,.v 2),(3,.v 3),(4,.v 4)])
 (.seq
 (.seq
 (.reg false [p (.load (some 4) (.v 4)),
 p (.call true (.k (.fn 18 [] [])) [.r 0]),
 p (.un .not (.r 0))] [(1,.v 1),(2,.v 2),(3,.v 3),(4,.v 4),(19,.r 0)])
 (.cond (.v 19)
 (.seq
 (.reg false [p (.call true (.k (.fn 16 [] [])) []),
 p (.mov (.r 0))] [(8,.r 0)])
 .ret)
 .skip))
 (.seq
 (.reg false [p (.mov (.k (.fn 22 [] [])))] [(1,.v 1),(2,.v 2),(3,.v 3),(4,.v 4),(9,.r 0)])
 (.seq
 (.reg true [p (.mov (.v 9)),
 p (.mov (.v 9)),
 p (.load (some 4) (.v 4)),
 p (.mov (.v 1)),
 p (.call false (.r 2) [.r 1,.r 0]),
 p (.mov (.v 2)),
 p (.call false (.r 5) [.r 1,.r 0]),
 p (.mov (.v 9)),
 p (.mov (.v 9)),
 ⟨.load (some 4) (.v 4),none,[4,2]⟩,
 p (.mov (.v 2)),
 p (.call false (.r 2) [.r 1,.r 0]),
 p (.mov (.v 1)),
 p (.call false (.r 5) [.r 1,.r 0]),
 ⟨.alloc 4 (.agg [.int .i64 0,.int .i64 0,.fsl .nil 2 [],.fsl .nil 5 []]),none,[11,9,7,4,2,0]⟩,
 ⟨.alloc 4 (.agg [.int .i64 0,.int .i64 0,.fsl .nil 2 [],.fsl .nil 5 []]),none,[12,10,8,5,3,1,0]⟩,
 p (.store (some 4) (.r 1) (.r 9)),
 p (.store (some 4) (.r 1) (.r 3))] [(3,.v 3),(4,.v 4),(10,.r 3),(11,.r 2)])
 (.seq
 (.reg false [p (.load (some 4) (.v 10)),
 p (.alloc 4 (.agg [.int .i64 0,.int .i64 0,.fsl .nil 2 [],.fsl .nil 5 []])),
 p (.store (some 4) (.r 0) (.r 1))] [(3,.v 3),(4,.v 4),(10,.v 10),(11,.v 11),(12,.r 1)])
 (.seq
 (.seq
 (.reg false [p (.fad 0 (.v 10)),
 p (.load (none) (.r 0)),
 p (.build [.int .i64 0,.str [],.str [],.int .i64 0,.int .i64 0,.str [],.str [],.fsl .nil 4 []] [(0,1,.k (.int .i64 8)),(4,1,.r 0)]),
 p (.mov (.v 3)),
 p (.build [.int .i64 0,.str [],.str [],.int .i64 0,.int .i64 0,.str [],.str [],.fsl .nil 4 []] [(0,1,.k (.int .i64 9)),(1,1,.r 0)]),
 p (.build [.int .i64 0,.str [],.str [],.int .i64 0,.int .i64 0,.str [],.str [],.fsl .nil 4 []] [(0,1,.k (.int .i64 10))]),
 p (.build [.int .i64 0,.str [],.str [],.int .i64 0,.int .i64 0,.str [],.str [],.fsl .nil 4 []] [(0,1,.k (.int .i64 9))]),
 p (.bsl 8 [.r 4,.r 2,.r 1,.r 0]),
 p (.len false (.r 0)),
 p (.mov (.k (.int .i64 0)))] [(4,.v 4),(10,.v 10),(11,.v 11),(12,.v 12),(43,.r 2),(44,.r 1),(45,.r 0)])
 (.block 0
 (.loop
 (.seq
 (.reg false [p (.bin .lss (.v 45) (.v 44))] [(4,.v 4),(10,.v 10),(11,.v 11),(12,.v 12),(43,.v 43),(44,.v 44),(45,.v 45),(46,.r 0)])
 (.seq
 (.cond (.v 46)
 .skip
 (.exit 0))
 (.seq
 (.block 1
 (.seq
 (.reg false [p (.iad 8 (.v 43) (.v 45)),
 p (.load (some 8) (.r 0)),
 p (.alloc 8 (.agg [.int .i64 0,.str [],.str [],.int .i64 0,.int .i64 0,.str [],.str [],.fsl .nil 4 []])),
 p (.store (some 8) (.r 0) (.r 1))] [(4,.v 4),(10,.v 10),(11,.v 11),(12,.v 12),(14,.r 1),(43,.v 43),(44,.v 44),(45,.v 45)])
 (.reg false [p (.load (some 4) (.v 12)),
 p (.load (some 8) (.v 14)),
 p (.call true (.k (.fn 14 [] [])) [.r 1,.r 0]),
 p (.mov (.r 0)),
 p (.ext (.r 0) 0),
 p (.ext (.r 1) 1),
 p (.store (some 4) (.v 12) (.r 1))] [(4,.v 4),(10,.v 10),(11,.v 11),(12,.v 12),(43,.v 43),(44,.v 44),(45,.v 45)])))
 (.reg false [p (.bin .add (.v 45) (.k (.int .i64 1))),
 p (.mov (.r 0))] [(4,.v 4),(10,.v 10),(11,.v 11),(12,.v 12),(43,.v 43),(44,.v 44),(45,.r 0)])))))))
 (.frz
 (.seq
 (.reg false [p (.call true (.k (.fn 16 [] [])) []),
 p (.mov (.r 0)),
 ⟨.load (some 4) (.v 10),some (0,true),[]⟩,
 ⟨.load (some 4) (.v 11),some (1,true),[]⟩,
 ⟨.call true (.k (.fn 19 [] [])) [.r 1,.r 0],some (2,true),[]⟩,
 p (.pick (.r 3) (.r 0) (.k (.bool false))),
 p (.mov (.r 0)),
 ⟨.load (some 4) (.v 10),some (0,true),[]⟩,
 ⟨.load (some 4) (.v 12),some (1,true),[]⟩,
 ⟨.call true (.k (.fn 19 [] [])) [.r 1,.r 0],some (2,true),[]⟩,
 p (.pick (.r 3) (.r 0) (.k (.bool false))),
 p (.mov (.r 0)),
 ⟨.fad 0 (.v 10),some (0,true),[]⟩,
 ⟨.load (none) (.r 0),some (1,true),[]⟩,
 ⟨.fad 0 (.v 4),some (2,true),[]⟩,
 ⟨.load (none) (.r 0),some (3,true),[]⟩,
 ⟨.bin .geq (.r 2) (.r 0),some (4,true),[]⟩,
 p (.pick (.r 5) (.r 0) (.k (.bool false))),
 p (.mov (.r 0))] [(8,.r 0)])
 .ret)))))))))
def c7:C :=
  (.seq
 (.reg false [p (.mov (.k (.bool false)))] [(0,.v 0)])
 (.seq
 (.reg false [p (.mov (.v 0)),
 p (.call true (.k (.fn 21 [] [])) [.r 0]),
 p (.mov (.r 0))] [(0,.r 0)])
 (.seq
 (.reg false [p (.mov (.v 0)),
 p (.call true (.k (.fn 23 [] [])) [.r 0]),
 p (.mov (.r 0)),
 p (.ext (.r 0) 0),
 p (.ext (.r 1) 1),
 p (.alloc 4 (.agg [.int .i64 0,.int .i64 0,.fsl .nil 2 [],.fsl .nil 5 []])),
 p (.store (some 4) (.r 0) (.r 2)),
 p (.mov (.r 2))] [(0,.v 0),(3,.r 2),(4,.r 0)])
 (.seq
 (.reg false [p (.alloc 4 (.agg [.int .i64 0,.int .i64 0,.fsl .nil 2 [],.fsl .nil 5 []]))] [(0,.v 0),(3,.v 3),(4,.v 4),(5,.r 0)])
 (.seq
 (.reg false [p (.mov (.k (.fsl .nil 6 [])))] [(0,.v 0),(3,.v 3),(4,.v 4),(5,.v 5),(6,.r 0)])
 (.seq
 (.seq
 (.reg false [p (.mov (.v 0)),
 p (.len false (.r 0)),
 p (.mov (.k (.int .i64 0)))] [(3,.v 3),(4,.v 4),(5,.v 5),(6,.v 6),(18,.r 2),(19,.r 1),(20,.r 0)])
 (.block 0
 (.loop
 (.seq
 (.reg false [p (.bin .lss (.v 20) (.v 19))] [(3,.v 3),(4,.v 4),(5,.v 5),(6,.v 6),(18,.v 18),(19,.v 19),(20,.v 20),(21,.r 0)])
 (.seq
 (.cond (.v 21)
 .skip
 (.exit 0))
 (.seq
 (.block 1
 (.seq
 (.reg false [p (.iad 8 (.v 18) (.v 20)),
 p (.load (some 8) (.r 0)),
 p (.alloc 8 (.agg [.int .i64 0,.str [],.str [],.int .i64 0,.int .i64 0,.str [],.str [],.fsl .nil 4 []])),
 p (.store (some 8) (.r 0) (.r 1))] [(3,.v 3),(4,.v 4),(5,.v 5),(6,.v 6),(8,.r 1),(18,.v 18),(19,.v 19),(20,.v 20)])
 (.seq
 (.reg false [p (.load (some 4) (.v 5)),
 p (.load (some 8) (.v 8)),
 p (.call true (.k (.fn 15 [] [])) [.r 1,.r 0]),
 p (.mov (.r 0)),
 p (.ext (.r 0) 0),
 p (.ext (.r 1) 1),
 p (.alloc 4 (.agg [.int .i64 0,.int .i64 0,.fsl .nil 2 [],.fsl .nil 5 []])),
 p (.alloc 6 (.agg [.int .i64 0,.str [],.int .i64 0,.int .i64 0,.int .i64 0,.fsl .nil 5 []])),
 p (.store (some 4) (.r 1) (.r 3)),
 p (.store (some 6) (.r 1) (.r 3))] [(3,.v 3),(4,.v 4),(5,.v 5),(6,.v 6),(9,.r 3),(10,.r 2),(18,.v 18),(19,.v 19),(20,.v 20)])
 (.reg true [p (.load (some 4) (.v 9)),
 p (.mov (.v 6)),
 p (.load (some 6) (.v 10)),
 p (.bsl 6 [.r 0]),
 ⟨.app 6 72 (.r 2) (.r 0),none,[3]⟩,
 p (.store (some 4) (.v 5) (.r 4)),
 p (.mov (.r 1))] [(3,.v 3),(4,.v 4),(5,.v 5),(6,.r 0),(18,.v 18),(19,.v 19),(20,.v 20)]))))
 (.reg false [p (.bin .add (.v 20) (.k (.int .i64 1))),
 p (.mov (.r 0))] [(3,.v 3),(4,.v 4),(5,.v 5),(6,.v 6),(18,.v 18),(19,.v 19),(20,.r 0)])))))))
 (.frz
 (.seq
 (.reg false [p (.call true (.k (.fn 16 [] [])) []),
 p (.mov (.r 0)),
 ⟨.load (some 4) (.v 3),some (0,true),[]⟩,
 ⟨.load (some 4) (.v 5),some (1,true),[]⟩,
 ⟨.call true (.k (.fn 19 [] [])) [.r 1,.r 0],some (2,true),[]⟩,
 p (.pick (.r 3) (.r 0) (.k (.bool false))),
 p (.mov (.r 0)),
 ⟨.mov (.v 4),some (0,true),[]⟩,
 ⟨.mov (.v 6),some (1,true),[]⟩,
 ⟨.call true (.k (.fn 24 [] [])) [.r 1,.r 0],some (2,true),[]⟩,
 p (.pick (.r 3) (.r 0) (.k (.bool false))),
 p (.mov (.r 0))] [(2,.r 0)])
 .ret))))))))
def r7:List RV:=[.t 2]
theorem en7:EnP Tryz.prog 7 47 c7 r7:=a0x (by kernel_rfl) Tryz.func7 (by kernel_rfl) ⟨_,rfl,by kernel_rfl,by kernel_rfl⟩
def zW:Wd:=⟨0,0,[],[]⟩
theorem zW_M:WdM zW:=⟨⟨by simp [zW],by simp [zW],by simp [zW],by simp [zW]⟩,by simp [zW]⟩
section
theorem d6r:WR zW:=by
  refine ⟨by simp [zW,MT],by simp [zW,MT],by simp [zW],by simp [zW], ?_, ?_,by simp [zW],by simp [zW], ?_⟩
  · intro i h; simp [zW,a1j] at h
  · intro i h; simp [zW,a1k] at h
  · simp [zW,a2d,Tk]
def c3S:Cmd:=⟨3,[],[],0,0,[],⟨[],[]⟩⟩
theorem c8g:doS zW c3S=(zW,whyA 192):=by
  unfold doS; rw [if_pos d6r]
  simp [a1u,c3S,a5s,zW,MT,fndS]
abbrev z4V:V:=V.agg [V.int .i64 0,V.int .i64 0,V.fsl .nil 2 [],V.fsl .nil 5 []]
abbrev z6V:V:=V.agg [V.int .i64 0,V.str [],V.int .i64 0,V.int .i64 0,V.int .i64 0,V.fsl .nil 5 []]
theorem b8x (b:Wd):setC (some 4) 0 z4V (wdV b)=some (wdV b):=rfl
theorem b8f (b:Ans):setC (some 6) 0 z6V (ansV b)=some (ansV b):=rfl
theorem c0k (b:Ans):getC (some 6) 0 (ansV b)=some (ansV b):=rfl
theorem b9p (b:Cmd):getC (some 8) 0 (cmdV b)=some (cmdV b):=rfl
open Classical in
theorem b7n:PCall Tryz.prog 16 [] (.bool true):=by
  refine en16 (by simp) (by simp [a0b]) ?_
  have h1:PCall Tryz.prog 14 [z4V,V.agg [.int .i64 3,.str [],.str [],.int .i64 0,.int .i64 0,.str [],.str [],.fsl .nil 4 []]] (waV (zW,whyA 192)):=by
    have:=b9l zW c3S zW_M.ok (by simp [c3S,a2w])
    rw [c8g] at this
    exact this.of_eq (by simp [wdV,cmdV,c3S,zW,loL,lo,a0v,a0j])
  have h2:PCall Tryz.prog 17 [z4V] (.bool true):=by
    have:=b2c zW zW_M.ok
    rw [decide_eq_true d6r] at this
    exact this.of_eq (by simp [wdV,zW,loL,lo,a0v])
  simp (maxSteps:=1000000) (disch:=omega) only [rg,gD,simprocAttr,c16]
  refine ⟨_,h1, ?_⟩
  simp (maxSteps:=1000000) (disch:=omega) only [rg,gD,simprocAttr,waV,b8x,b8f,c8d,whyA]
  refine ⟨_,h2, ?_⟩
  simp (maxSteps:=1000000) (disch:=omega) only [rg,gD,simprocAttr]
  (refine a0f rfl ?_ ?_<;>simp [pack,lo,loL,V.closed,a0b,a0a])
end
theorem b9k:reachBytes≤4611686018427387904:=by decide
def yDag:Ty:=.st (fDag .nil)
def tCmd:Ty:=.st (.cons yI (.cons .s (.cons .s (.cons yI (.cons yI (.cons .s (.cons yDag .nil)))))))
theorem d2k {d:Dag} (h:d7w d):a2w d:=by
  have hr:=b9k
  obtain ⟨g1,g2,g3⟩:=h
  exact ⟨by omega,fun t ht => by obtain ⟨_,z2,_⟩:=g3 t ht; omega⟩
theorem d8p {vs:List V} (h:TyV tCmd vs):∃ c:Cmd,vs=[.int .i64 c.kind,.str c.key,.str c.name,.int .i64 c.token,.int .i64 c.time,.str c.text,.str c.dag.name,a0j c.dag.tasks]∧a2w c.dag:=by
  obtain ⟨u1,w1,rfl,h1,u2,w2,rfl,h2,u3,w3,rfl,h3,u4,w4,rfl,h4,u5,w5,rfl,h5,u6,w6,rfl,h6,u7,w7,rfl,h7,rfl⟩:=h
  obtain ⟨a,rfl,qa⟩:=c1a h1
  obtain ⟨b,rfl,qb⟩:=c8v h2
  obtain ⟨c,rfl,qc⟩:=c8v h3
  obtain ⟨d,rfl,qd⟩:=c1a h4
  obtain ⟨e,rfl,qe⟩:=c1a h5
  obtain ⟨f,rfl,qf⟩:=c8v h6
  obtain ⟨g,ws,rfl,q,hw⟩:=d2p (r:=.nil) h7
  obtain rfl:ws=[]:=hw
  exact ⟨⟨a,b,c,d,e,f,g⟩,rfl,d2k q⟩
noncomputable def a1x (w:Wd):List Cmd→Wd×List Ans
  | [] => (w,[])
  | c::l => ((a1x (doS w c).1 l).1,(doS w c).2::(a1x (doS w c).1 l).2)
theorem b3x (c:Cmd):∀ (l:List Cmd) (w:Wd),a1x w (l++[c])=((doS (a1x w l).1 c).1,(a1x w l).2++[(doS (a1x w l).1 c).2])
  | [],w => rfl
  | a::l,w => by simp only [List.cons_append,a1x,b3x c l]
theorem b4x {l:List Cmd} {k:Nat} (w:Wd) (h:k < l.length):a1x w (l.take (k+1))=((doS (a1x w (l.take k)).1 l[k]).1,(a1x w (l.take k)).2++[(doS (a1x w (l.take k)).1 l[k]).2]):=by
  rw [List.take_succ_eq_append_getElem h,b3x]
theorem b5h:∀ (l:List Cmd) (w:Wd),WdM w→(∀ c∈l,a2w c.dag)→WdM (a1x w l).1
  | [],w,h,_ => h
  | c::l,w,h,hd => b5h l _ (do_M w c h (hd c (by simp))) (fun c hc => hd c (by simp [hc]))
theorem c7i:∀ (l:List Cmd) (w:Wd),∀ a∈(a1x w l).2,a.states.length≤1000000
  | [],w,a,h => by simp [a1x] at h
  | c::l,w,a,h => by
    simp only [a1x,List.mem_cons] at h
    rcases h with rfl | h
    · exact do_A w c
    · exact c7i l _ a h
theorem a9g:∀ (l:List Cmd) (w:Wd),(a1x w l).2.length=l.length
  | [],w => rfl
  | c::l,w => by simp [a1x,a9g l]
def b0n (l:List Cmd):V:=.fsl .loose 8 (mv cmdV l)
abbrev z8V:V:=V.agg [V.int .i64 0,V.str [],V.str [],V.int .i64 0,V.int .i64 0,V.str [],V.str [],V.fsl .nil 4 []]
theorem c5v (b:Cmd):setC (some 8) 0 z8V (cmdV b)=some (cmdV b):=rfl
def wz (k:Nat) (w:Wd):V:=if k=0 then z4V else wdV w
theorem c9a (k:Nat) (w:Wd) (h:k=0→w=zW):lo (wz k w)=wdV w:=by
  unfold wz; split
  · rename_i e; rw [h e]; simp [lo,loL,wdV,zW,a0v]
  · exact d1j w
theorem c5n (k:Nat) (w:Wd):(wz k w).closed=true:=by
  unfold wz; split
  · rfl
  · exact a1n w
theorem b1m (k:Nat) (w:Wd):getC (some 4) 0 (wz k w)=some (wz k w):=by unfold wz; split<;>rfl
theorem c3t (k:Nat) (w b:Wd):setC (some 4) 0 (wz k w) (wdV b)=some (wdV b):=by unfold wz; split<;>rfl
theorem c9z (k:Nat) (w:Wd):setC (some 4) 0 z4V (wz k w)=some (wz k w):=by unfold wz; split<;>rfl
theorem c1n (l:List Cmd) (hl:l.length≤1000000) (hd:∀ c∈l,a2w c.dag):PCall Tryz.prog 23 [b0n l] (.tup [wdV (a1x zW l).1,a8s (a1x zW l).2]):=by
  refine en23 (by simp) (by simp [a0b,b0n,V.closed,a0a a3y]) ?_
  simp (maxSteps:=1000000) (disch:=omega) only [rg,gD,simprocAttr,c23,b0n,a0k]
  refine x_it l.length (fun k σ H => 2≤H.n∧H.m 0=some (.arr 4 [z4V])∧H.m 1=some (.arr 4 [wz k (a1x zW (l.take k)).1])∧(∃ v,Gro 2 H.n H.m 6 v (mv ansV (a1x zW (l.take k)).2) ∧
    σ=[(2,.ptr 0 0 0),(4,.ptr 1 0 0),(5,v),(9,.fsl .loose 8 (mv cmdV l)),(10,.int .i64 (l.length:Int)),(11,.int .i64 (k:Int))])) ⟨Nat.le_refl 2,(by simp (disch:=omega) only [a0d,a0c,wo_0,wo_1,wo_2]),(by simp (disch:=omega) only [a0d,a0c,wo_0,wo_1,wo_2,wz,if_true]),.fsl .nil 6 [],.nil,rfl⟩ ?_
  rintro T k σ ⟨n,m⟩ hkk ⟨hn,e0,e1,v,hg,rfl⟩ hN hX hR
  simp only at hn e0 e1 hg
  have hlen:=a9g (l.take k) zW
  have hM:=b5h (l.take k) zW zW_M (fun c hc => hd c (List.mem_of_mem_take hc))
  have hz0:k=0→(a1x zW (l.take k)).1=zW:=by rintro rfl; rfl
  by_cases hk:k < l.length
  · have hfk:=b4x zW hk
    have hdo:=(b9l _ l[k] hM.ok (hd _ (List.getElem_mem hk)))
    have hdo2:PCall Tryz.prog 14 [wz k (a1x zW (l.take k)).1,cmdV l[k]] (waV (doS (a1x zW (l.take k)).1 l[k])) :=
      hdo.of_eq (by simp only [loL,c9a k _ hz0,b7x])
    generalize doS (a1x zW (l.take k)).1 l[k]=z at hdo2 hfk
    unfold waV at hdo2
    have l1:(1:Nat)≠n:=by omega
    have l2:(1:Nat)≠n+1:=by omega
    have l3:(0:Nat)≠n:=by omega
    have l4:(0:Nat)≠n+1:=by omega
    simp (maxSteps:=1000000) (disch:=omega) only [rg,gD,simprocAttr,show (k:Int) < l.length by omega,a0m hk,Int.toNat_natCast,b9p,c5v,e1,b1m]
    refine ⟨_,hdo2, ?_⟩
    simp (maxSteps:=1000000) (disch:=omega) only [rg,gD,simprocAttr,e1,c3t,b8f,c0k]
    refine ⟨⟨rfl,rfl⟩, ?_⟩
    refine a4h (lo:=2) (bt:=72) (hg.keep (by simp only []; omega) (fun id h1 h2 => by simp (disch:=omega) only [a0c])) (by simp only []; omega) (ys:=[ansV z.2]) (by rfl) (by simp) (by rw [a0k]; simp at hlen ⊢; omega) fun v' fp ds hg' hlo hkp => ?_
    have z0:=hlo 0 (by omega)
    have z1:=hlo 1 (by omega)
    simp (disch:=omega) only [a0c,a0d,e0,e1] at z0 z1
    rw [x_nx]
    refine ⟨by simp only [a1t], ?_⟩
    simp only [] at z0 z1 hg' hkp ⊢
    generalize appd ds _=m5 at z0 z1 hg' ⊢
    simp (maxSteps:=1000000) (disch:=omega) only [rg,gD,simprocAttr]
    refine hN _ _ hk ⟨by simp only []; omega,z0, ?_,v', ?_,rfl⟩
    · show m5 1=_
      rw [z1,hfk]; simp [wz]
    · rw [hfk,← a5k]; exact hg'
  · obtain rfl:k=l.length:=by omega
    rw [List.take_length] at e1 hg hlen hM
    simp (maxSteps:=1000000) (disch:=omega) only [rg,gD,simprocAttr,Int.lt_irrefl]
    refine hX _ _ _ ?_
    simp (maxSteps:=1000000) (disch:=omega) only [rg,gD,simprocAttr]
    refine a0s ?_
    simp (maxSteps:=1000000) (disch:=omega) only [rg,gD,simprocAttr,e0,e1,b1m,c9z]
    have hg2:Gro 2 n (upd m 0 (some (.arr 4 [wz l.length (a1x zW l).1]))) 6 v (mv ansV (a1x zW l).2):=hg.keep (Nat.le_refl n) (fun id h1 h2 => by simp (disch:=omega) only [a0c])
    obtain ⟨st,hs⟩:=hg2.snap (a0a a5b) 2
    refine b2t (v:=.tup [wz l.length (a1x zW l).1,.fsl st 6 (mv ansV (a1x zW l).2)]) (l:=[wz l.length (a1x zW l).1,v])
      (by simp only [r23,resE,find,a2i,a0d,reduceIte,Nat.reduceEqDiff,List.getElem?_cons_zero,b1m]) ?_ ?_
    · exact b1d (b4y (a8t (c5n _ _)) (b4y hs (a0z rfl)))
    · have e:=c9a l.length (a1x zW l).1 (fun h => by rw [List.length_eq_zero_iff.1 h]; rfl)
      simp only [lo,loL,e,a8s,a0l c4o]
section
theorem d0b {lo:Nat} {H:Hp} {sz bt:Nat} {v y:V} {l ys:List V} {K:KI} (h:Gro lo H.n H.m sz v l) (hlo:lo≤H.n) (hy:Ev.rd H.m y=some (sz,ys)) (hfy:fpS y=[]) (hne:ys≠[]) (hl:(l.length+ys.length)*bt≤140737488355328)
    (k:∀ v' fp ds,Gro lo (H.n+1) (appd ds H.m) sz v' (l++ys)→(∀ id,id < lo→appd ds H.m id=H.m id)→(∀ p∈ds.map (·.1),p=H.n∨∃ n,v=.sl p 0 n)→(∀ i∈fp,∃ n,v=.sl i 0 n)→K v' fp ds 1):fin (appO H sz bt v y) K:=by
  have e:(l++ys).length=l.length+ys.length:=List.length_append
  unfold appO
  rw [hy]
  rcases h with ⟨st,h0,rfl,rfl⟩ | ⟨id,h1,h1',rfl,h2⟩
  · cases ys with
    | nil => exact absurd rfl hne
    | cons a ys =>
      refine ⟨⟨rfl,rfl,h0,by simpa using hl⟩,k _ _ _ (.inr ⟨H.n,hlo,by simp,by simp,by simp [appd,upd]⟩) (fun id hid => ?_) (by simp) (by rw [hfy]; simp)⟩
      have:id≠H.n:=by omega
      simp [appd,upd,this]
  · simp only [h2]
    refine ⟨⟨trivial,trivial,trivial,Nat.le_refl _,hl⟩,k _ _ _ (.inr ⟨H.n,hlo,by simp,by simp,by simp [appd,upd]⟩) (fun i hid => ?_) (fun p hp => ?_) (fun i hi => ?_)⟩
    · have h3:i≠H.n:=by omega
      have h4:i≠id:=by omega
      simp [appd,upd,h3,h4]
    · simp at hp
      rcases hp with rfl | rfl
      · exact .inr ⟨_,rfl⟩
      · exact .inl rfl
    · rw [hfy] at hi; simp at hi; subst hi; exact ⟨_,rfl⟩
theorem Gro.id {lo n:Nat} {m:Hm} {sz:Nat} {l:List V} {p k:Nat} (h:Gro lo n m sz (.sl p 0 k) l):lo≤p∧p < n:=by
  rcases h with ⟨st,_,e,_⟩ | ⟨id,h1,h2,e,_⟩
  · cases e
  · simp at e; rw [e.1]; exact ⟨h1,h2⟩
theorem d4c {j:Nat} {lg:Lg} {fp ds:List Nat} {b:Nat} (h:nthL j lg=([b],[])) (hd:∀ p∈ds,p≠b):a1h [j] lg fp ds:=by
  intro i hi
  simp at hi; subst hi
  rw [h]
  refine ⟨rfl, ?_⟩
  simp only [disj,List.all_eq_true,List.append_nil]
  intro p hp
  simp [hd p hp]
theorem c4u (l:List Cmd) (hl:l.length≤4611686018427387904):PCall Tryz.prog 21 [b0n l] (b0n (l.take 60)):=by
  refine en21 (by simp) (by simp [a0b,b0n,V.closed,a0a a3y]) ?_
  have d1:List.take (min (l.length:Int) 60).toNat (mv cmdV l)=mv cmdV (l.take 60):=by
    rw [d4q]; congr 1
    by_cases c:l.length≤60
    · rw [List.take_of_length_le (by omega),List.take_of_length_le c]
    · rw [show (min (l.length:Int) 60).toNat=60 by omega]
  have sl:∀ a b,slSt .loose a b none=.loose:=fun _ _ => rfl
  simp (maxSteps:=1000000) (disch:=omega) only [rg,gD,simprocAttr,c21,b0n,a0k,d1,sl]
  refine ⟨⟨by omega,by omega,by omega⟩, ?_⟩
  (refine a0f rfl ?_ ?_<;>simp [pack,lo,loL,V.closed,a0b,a0a,b0n,a0a a3y,a0l b7x])
open Classical in
set_option maxHeartbeats 1000000 in
theorem d8h (l0:List Cmd) (hl0:l0.length≤4611686018427387904) (hd0:∀ c∈l0,a2w c.dag):PCall Tryz.prog 7 [b0n l0] (.bool true):=by
  refine en7 (by simp) (by simp [a0b,b0n,V.closed,a0a a3y]) ?_
  have hsh:=c4u l0 hl0
  have hd:∀ c∈l0.take 60,a2w c.dag:=fun c hc => hd0 c (List.mem_of_mem_take hc)
  have hl:(l0.take 60).length≤60:=by simp; omega
  generalize l0.take 60=l at hsh hd hl
  have hfo:=c1n l (by omega) hd
  have hlen0:=a9g l zW
  have hM0:=b5h l zW zW_M hd
  have hA0:=c7i l zW
  have h5:=d4r (a1x zW l).1 (a1x zW l).1 hM0.L hM0.L
  have h6:=c4v (a1x zW l).2 (a1x zW l).2 (by omega) (by omega) hA0 hA0
  rw [decide_eq_true rfl] at h5 h6
  unfold b0n at hsh hfo
  simp (maxSteps:=1000000) (disch:=omega) only [rg,gD,simprocAttr,c7,b0n]
  refine ⟨_,hsh, ?_⟩
  simp (maxSteps:=1000000) (disch:=omega) only [rg,gD,simprocAttr]
  refine ⟨_,hfo, ?_⟩
  simp (maxSteps:=1000000) (disch:=omega) only [rg,gD,simprocAttr,b8x,a0k]
  refine x_it l.length (fun k σ H => 2≤H.n∧H.m 0=some (.arr 4 [wdV (a1x zW l).1])∧H.m 1=some (.arr 4 [wz k (a1x zW (l.take k)).1])∧(∃ v,Gro 2 H.n H.m 6 v (mv ansV (a1x zW (l.take k)).2) ∧
    σ=[(3,.ptr 0 0 0),(4,a8s (a1x zW l).2),(5,.ptr 1 0 0),(6,v),(18,.fsl .loose 8 (mv cmdV l)),(19,.int .i64 (l.length:Int)),(20,.int .i64 (k:Int))])) ⟨Nat.le_refl 2,(by simp (disch:=omega) only [a0d,a0c,wo_0,wo_1,wo_2]),(by simp (disch:=omega) only [a0d,a0c,wo_0,wo_1,wo_2,wz,if_true]),.fsl .nil 6 [],.nil,rfl⟩ ?_
  rintro T k σ ⟨n,m⟩ hkk ⟨hn,e0,e1,v,hg,rfl⟩ hN hX hR
  simp only at hn e0 e1 hg
  have hlen:=a9g (l.take k) zW
  have hM:=b5h (l.take k) zW zW_M (fun c hc => hd c (List.mem_of_mem_take hc))
  have hz0:k=0→(a1x zW (l.take k)).1=zW:=by rintro rfl; rfl
  by_cases hk:k < l.length
  · have hfk:=b4x zW hk
    have hdo:=(d5y _ l[k] hM.ok (hd _ (List.getElem_mem hk)))
    have hdo2:PCall Tryz.prog 15 [wz k (a1x zW (l.take k)).1,cmdV l[k]] (waV (doS (a1x zW (l.take k)).1 l[k])) :=
      hdo.of_eq (by simp only [loL,c9a k _ hz0,b7x])
    generalize doS (a1x zW (l.take k)).1 l[k]=z at hdo2 hfk
    unfold waV at hdo2
    have l1:(1:Nat)≠n:=by omega
    have l2:(1:Nat)≠n+1:=by omega
    have l3:(0:Nat)≠n:=by omega
    have l4:(0:Nat)≠n+1:=by omega
    simp (maxSteps:=1000000) (disch:=omega) only [rg,gD,simprocAttr,show (k:Int) < l.length by omega,a0m hk,Int.toNat_natCast,b9p,c5v,e1,b1m]
    refine ⟨_,hdo2, ?_⟩
    simp (maxSteps:=1000000) (disch:=omega) only [rg,gD,simprocAttr,e1,b8x,b8f,c0k,c7p]
    refine ⟨⟨rfl,rfl⟩, ?_⟩
    refine d0b (lo:=2) (bt:=72) (hg.keep (by simp only []; omega) (fun id h1 h2 => by simp (disch:=omega) only [a0c])) (by simp only []; omega) (ys:=[ansV z.2]) (by rfl) rfl (by simp) (by rw [a0k]; simp at hlen ⊢; omega) fun v' fp ds hg' hlo hps hfp => ?_
    have z0:=hlo 0 (by omega)
    have z1:=hlo 1 (by omega)
    simp (disch:=omega) only [a0c,a0d,e0,e1] at z0 z1
    rw [x_nx]
    refine ⟨d4c rfl fun p hp => ?_, ?_⟩
    · rcases hps p hp with e | ⟨k2,e⟩
      · rw [e]; simp only []; omega
      · rw [e] at hg; have:=hg.id; omega
    simp only [] at z0 z1 hg' ⊢
    generalize appd ds _=m5 at z0 z1 hg' ⊢
    simp (maxSteps:=1000000) (disch:=omega) only [rg,gD,simprocAttr,z1,c3t]
    refine hN _ _ hk ⟨by simp only []; omega,(by simp (disch:=omega) only [a0d,a0c,wo_0,wo_1,wo_2,z0]), ?_,v', ?_,rfl⟩
    · rw [hfk]; simp [wz,upd]
    · rw [hfk,← a5k]; exact hg'.keep (Nat.le_refl _) (fun id h1 h2 => by simp (disch:=omega) only [a0c])
  · obtain rfl:k=l.length:=by omega
    rw [List.take_length] at e1 hg hlen hM hz0
    simp (maxSteps:=1000000) (disch:=omega) only [rg,gD,simprocAttr,Int.lt_irrefl]
    refine hX _ _ _ ?_
    simp (maxSteps:=1000000) (disch:=omega) only [rg,gD,simprocAttr]
    obtain ⟨fz,st,f1,f2,f3⟩:=hg.frz (a0a a5b)
    refine c8m fz ?_
    have hac:(a8s (a1x zW l).2).closed=true:=by simp [a8s,V.closed,a0a a5b]
    have w0:a1p fz m 0=some (.arr 4 [wdV (a1x zW l).1]):=by
      unfold a1p; rw [if_neg (fun h => by have:=f1 0 h; omega)]; exact e0
    have w1:a1p fz m 1=some (.arr 4 [wz l.length (a1x zW l).1]):=by
      unfold a1p; rw [if_neg (fun h => by have:=f1 1 h; omega)]; exact e1
    have hcm:(V.fsl .loose 8 (mv cmdV l)).closed=true:=by simp [V.closed,a0a a3y]
    simp only [frzS,b0l,f3,b2n hac,b2n hcm,d2h,d8d]
    have h5':PCall Tryz.prog 19 [wdV (a1x zW l).1,wz l.length (a1x zW l).1] (.bool true):=h5.of_eq (by simp only [loL,d1j,c9a l.length _ hz0])
    have h6':PCall Tryz.prog 24 [a8s (a1x zW l).2,.fsl st 6 (mv ansV (a1x zW l).2)] (.bool true):=h6.of_eq (by simp only [loL,lo,a8s,a0l c4o])
    simp (maxSteps:=1000000) (disch:=omega) only [rg,gD,simprocAttr]
    refine ⟨_,b7n, ?_⟩
    simp (maxSteps:=1000000) (disch:=omega) only [rg,gD,simprocAttr,w0,w1,c7p,b1m]
    refine ⟨_,h5', ?_⟩
    simp (maxSteps:=1000000) (disch:=omega) only [rg,gD,simprocAttr]
    refine ⟨_,h6', ?_⟩
    simp (maxSteps:=1000000) (disch:=omega) only [rg,gD,simprocAttr]
    (refine a0f rfl ?_ ?_<;>simp [pack,lo,loL,V.closed,a0b,a0a])
end
def d9z:Ty:=.l 8 112 tCmd
theorem d9j {vs:List V} (h:TyV d9z vs):∃ l:List Cmd,vs=[.fsl .loose 8 (mv cmdV l)]∧l.length≤4611686018427387904∧∀ c∈l,a2w c.dag:=by
  obtain ⟨l,rfl,h1,h2⟩:=b8t (e:=tCmd) (f:=cmdV) (q:=fun c => a2w c.dag) (fun us hu => by obtain ⟨c,rfl,hc⟩:=d8p hu; exact ⟨c,rfl,hc⟩) h
  have hr:=b9k
  exact ⟨l,rfl,by omega,h2⟩
end Go.Proofs.YtkdeckmglbnfbaaGreat.Ev
