/-
  Calls that share objects with their caller: numbers from 100000 on are the same on both sides. No statement of the seat is proved here; no conditions.
-/
import Derived.Test.YthniagdphhcnkaaGreatDoorPtr
namespace Go.Proofs.YthniagdphhcnkaaGreatDoor
open Go.RowKit
set_option linter.unusedVariables false
set_option linter.unusedSimpArgs false

mutual
def AV.hi : AV → Bool
 | .any => true
 | .f _ => true
 | .sl id _ _ _ _ => decide (100000 ≤ id)
 | .ptr id _ _ => decide (100000 ≤ id)
 | .map id _ => decide (100000 ≤ id)
 | .agg l => AV.hiL l
 | .tup l => AV.hiL l
 | .clo _ l => AV.hiL l
 | .slc id _ _ _ _ _ => decide (100000 ≤ id)
def AV.hiL : List AV → Bool
 | [] => true
 | a :: l => a.hi && AV.hiL l
end
theorem AV.hiL_all : ∀ l : List AV,AV.hiL l = l.all AV.hi
 | [] => rfl
 | a :: l => by rw [AV.hiL,AV.hiL_all l];rfl
theorem RepA.hi_ {G G' : Ghost} {Z : Nat → Prop} {w : World} {a : AV} {v : Value} (hg : ∀ id,100000 ≤ id → G' id = G id) (h : RepA G Z w a v) : a.hi = true → RepA G' Z w a v := by
 induction h with
 | any v => exact fun _ => .any v
 | f hf => exact fun _ => .f hf
 | slOld id ver sz off n v h1 h2 h3 =>
  intro hp
  have := hg id (by simpa [AV.hi] using hp)
  exact .slOld _ _ _ _ _ _ (by rw [this];exact h1) (by rw [this];exact h2) h3
 | slCap id ver sz off A loc h1 =>
  intro hp
  exact .slCap _ _ _ _ _ loc (by rw [hg id (by simpa [AV.hi] using hp)];exact h1)
 | slLive id ver sz off n g o c h1 h2 h3 h4 =>
  intro hp
  exact .slLive _ _ _ _ _ g o c (by rw [hg id (by simpa [AV.hi] using hp)];exact h1) h2 h3 h4
 | ptrOld id ver off v h1 h2 h3 =>
  intro hp
  have := hg id (by simpa [AV.hi] using hp)
  exact .ptrOld _ _ _ _ (by rw [this];exact h1) (by rw [this];exact h2) h3
 | ptrLive id ver off g o h1 =>
  intro hp
  exact .ptrLive _ _ _ g o (by rw [hg id (by simpa [AV.hi] using hp)];exact h1)
 | mapOld id ver v h1 h2 h3 =>
  intro hp
  have := hg id (by simpa [AV.hi] using hp)
  exact .mapOld _ _ _ (by rw [this];exact h1) (by rw [this];exact h2) h3
 | mapLive id ver g o h1 =>
  intro hp
  exact .mapLive _ _ g o (by rw [hg id (by simpa [AV.hi] using hp)];exact h1)
 | agg cells us h1 h2 _ ih =>
  intro hp
  rw [AV.hi,AV.hiL_all] at hp
  exact .agg cells us h1 h2 fun j a u ha hu => ih j a u ha hu (List.all_eq_true.1 hp a (List.mem_of_getElem? ha))
 | tup cells us h1 _ ih =>
  intro hp
  rw [AV.hi,AV.hiL_all] at hp
  exact .tup cells us h1 fun j a u ha hu => ih j a u ha hu (List.all_eq_true.1 hp a (List.mem_of_getElem? ha))
 | clo f cells us h1 _ ih =>
  intro hp
  rw [AV.hi,AV.hiL_all] at hp
  exact .clo f cells us h1 fun j a u ha hu => ih j a u ha hu (List.all_eq_true.1 hp a (List.mem_of_getElem? ha))
 | slcOld id ver sz off n c v h1 h2 h3 =>
  intro hp
  have := hg id (by simpa [AV.hi] using hp)
  exact .slcOld _ _ _ _ _ _ _ (by rw [this];exact h1) (by rw [this];exact h2) h3
 | slcLive id ver sz off n c g o h1 h2 h3 h4 =>
  intro hp
  exact .slcLive _ _ _ _ _ _ g o (by rw [hg id (by simpa [AV.hi] using hp)];exact h1) h2 h3 h4
def hiP (H : Heap) : Heap := fun id => if id < 100000 then (0,none) else H id
def mixH (H' H : Heap) : Heap := fun id => if id < 100000 then H id else H' id
def HiC (H : Heap) : Prop := ∀ id,100000 ≤ id → ∀ cs,((H id).2 = some (.cells cs) ∨ ∃ t,(H id).2 = some (.ty cs t)) → cs.all AV.hi = true
theorem call_hi {P : Program} {f : FuncId} {args : List AV} {H Hc : Heap} {Q : AV → Heap → Prop} (hF : FCall P f args Hc Q) (hH : hiP H = Hc) (hq : ∀ r H',Q r H' → r.hi = true ∧ HiC H') (hc : HiC H) (ha : args.all AV.hi = true) :
  ACall P f args H (fun r H'' => ∃ H',Q r H' ∧ H'' = mixH H' H) := by
 subst hH
 refine ⟨hF.1,fun G Z w vs st hsz hrep => ?_⟩
 let Gc : Ghost := fun id => if id < 100000 then (0,none) else G id
 have gin : ∀ id,100000 ≤ id → Gc id = G id := fun id h => if_neg (by omega)
 have gout : ∀ id,id < 100000 → Gc id = (0,none) := fun id h => if_pos h
 have hin : ∀ id,100000 ≤ id → hiP H id = H id := fun id h => if_neg (by omega)
 have hout : ∀ id,id < 100000 → hiP H id = (0,none) := fun id h => if_pos h
 have gl : ∀ id g o,(Gc id).2 = some (some (g,o)) → 100000 ≤ id ∧ (G id).2 = some (some (g,o)) := fun id g o h => by
  by_cases e : id < 100000
  ·rw [gout id e] at h;cases h
  ·rw [gin id (by omega)] at h;exact ⟨by omega,h⟩
 have stc : St P Gc (hiP H) Z w := by
  refine ⟨fun id => ?_,fun id h => ?_,fun id o h => ?_,fun i1 i2 g o1 o2 h1 h2 => st.inj _ _ _ _ _ (gl _ _ _ h1).2 (gl _ _ _ h2).2,fun id g o h => st.disj _ _ _ (gl _ _ _ h).2,st.zlt,fun id g o h => st.glt _ _ _ (gl _ _ _ h).2,fun id g o h => st.ones _ _ _ (gl _ _ _ h).2⟩
  ·by_cases e : id < 100000
   ·rw [gout id e,hout id e]
   ·rw [gin id (by omega),hin id (by omega)];exact st.ver id
  ·by_cases e : id < 100000
   ·rw [gout id e]
   ·rw [hin id (by omega)] at h
    rw [gin id (by omega)];exact st.dead id h
  ·by_cases e : id < 100000
   ·rw [hout id e] at h;cases h
   ·rw [hin id (by omega)] at h
    rw [gin id (by omega)]
    obtain ⟨loc,h1,h2⟩ := st.obj id o h
    refine ⟨loc,h1,?_⟩
    cases loc with
    | none => cases o <;> exact h2
    | some q =>
     obtain ⟨g,ob⟩ := q
     cases o with
     | cells cs =>
      obtain ⟨arr,e,h3,h4⟩ := h2
      refine ⟨arr,e,h3,fun j a hj => ?_⟩
      obtain ⟨u,k1,k2,k3⟩ := h4 j a hj
      exact ⟨u,k1,k2,k3.hi_ gin (List.all_eq_true.1 (hc id (by omega) cs (.inl h)) a (List.mem_of_getElem? hj))⟩
     | ty cs tt =>
      obtain ⟨h00,arr,h3,h4⟩ := h2
      refine ⟨h00,arr,h3,fun j a hj => ?_⟩
      obtain ⟨u,k1,k2,k3⟩ := h4 j a hj
      exact ⟨u,k1,k2,k3.hi_ gin (List.all_eq_true.1 (hc id (by omega) cs (.inr ⟨_,h⟩)) a (List.mem_of_getElem? hj))⟩
     | _ => exact h2
 refine (hF.2 Gc Z w vs stc hsz fun j a v hj hv => (hrep j a v hj hv).hi_ gin (List.all_eq_true.1 ha a (List.mem_of_getElem? hj))).mono fun e w1 ⟨v,r,H1,G1,Z1,e1,hQ,st1,hh,hr⟩ => ?_
 obtain ⟨hrh,hcl⟩ := hq r H1 hQ
 let G2 : Ghost := fun id => if id < 100000 then G id else G1 id
 have g2h : ∀ id,100000 ≤ id → G2 id = G1 id := fun id h => if_neg (by omega)
 have g2l : ∀ id,id < 100000 → G2 id = G id := fun id h => if_pos h
 have m2h : ∀ id,100000 ≤ id → mixH H1 H id = H1 id := fun id h => if_neg (by omega)
 have m2l : ∀ id,id < 100000 → mixH H1 H id = H id := fun id h => if_pos h
 have nlow : ∀ id g o,id < 100000 → (G id).2 = some (some (g,o)) → ¬ LiveB Gc g := fun id g o h1 h2 ⟨id2,o2,h3⟩ => by
  obtain ⟨k1,k2⟩ := gl _ _ _ h3
  have := st.inj _ _ _ _ _ h2 k2
  omega
 have nz : ∀ id g o,id < 100000 → (G id).2 = some (some (g,o)) → ¬ Z1 g := fun id g o h1 h2 hz => by
  rcases hh.zout g hz with h | h | h
  ·exact st.disj _ _ _ h2 h
  ·exact nlow id g o h1 h2 h
  ·have := st.glt _ _ _ h2;omega
 have nl1 : ∀ id g o,id < 100000 → (G id).2 = some (some (g,o)) → ¬ LiveB G1 g := fun id g o h1 h2 hl => by
  rcases hh.live g hl with h | h
  ·exact nlow id g o h1 h2 h
  ·have := st.glt _ _ _ h2;omega
 have old : ∀ b,b < w.heap.size → ¬ LiveB Gc b → w1.heap[b]? = w.heap[b]? := hh.old
 have lvc : ∀ b,LiveB Gc b → LiveB G b := fun b ⟨id,o,h⟩ => ⟨id,o,(gl _ _ _ h).2⟩
 have hk : Keep G Z w G2 Z1 w1 := by
  refine ⟨hh.zin,fun id => ?_,fun id e => ?_,fun b arr e fz hlb h => ?_⟩
  ·by_cases e : id < 100000
   ·rw [g2l id e];exact Nat.le_refl _
   ·rw [g2h id (by omega)];have := hh.ver id (by omega);rw [gin id (by omega)] at this;exact this
  ·by_cases e' : id < 100000
   ·rw [g2l id e'];exact .inr rfl
   ·rw [g2h id (by omega)] at e ⊢
    have := hh.same id (by omega) (by rw [gin id (by omega)];exact e)
    rw [gin id (by omega)] at this;exact this
  ·by_cases hc : LiveB Gc b
   ·exact hh.room b arr e fz hc h
   ·exact ⟨arr,e,fz,by rw [old b (heap_lt h) hc];exact h,rfl⟩
 have st2 : St P G2 (mixH H1 H) Z1 w1 := by
  refine ⟨fun id => ?_,fun id h => ?_,fun id o h => ?_,fun i1 i2 g o1 o2 h1 h2 => ?_,fun id g o h => ?_,st1.zlt,fun id g o h => ?_,fun id g o h => ?_⟩
  ·by_cases e : id < 100000
   ·rw [g2l id e,m2l id e];exact st.ver id
   ·rw [g2h id (by omega),m2h id (by omega)];exact st1.ver id
  ·by_cases e : id < 100000
   ·rw [m2l id e] at h;rw [g2l id e];exact st.dead id h
   ·rw [m2h id (by omega)] at h;rw [g2h id (by omega)];exact st1.dead id h
  ·by_cases e : id < 100000
   ·rw [m2l id e] at h;rw [g2l id e]
    obtain ⟨loc,k1,k2⟩ := st.obj id o h
    refine ⟨loc,k1,?_⟩
    cases loc with
    | none => cases o <;> exact k2
    | some q =>
     obtain ⟨g,ob⟩ := q
     have hb := old g (st.glt _ _ _ k1) (nlow id g ob e k1)
     cases o with
     | cells cs =>
      obtain ⟨arr,e,k3,k4⟩ := k2
      exact ⟨arr,e,hb.trans k3,k4.mono fun a v hr => hr.keep hk⟩
     | ty cs tt =>
      obtain ⟨h00,arr,k3,k4⟩ := k2
      exact ⟨h00,arr,hb.trans k3,k4.mono fun a v hr => hr.keep hk⟩
     | _ =>
      obtain ⟨k3,es,clock,k4,k5⟩ := k2
      exact ⟨k3,es,clock,hb.trans k4,k5⟩
   ·rw [m2h id (by omega)] at h;rw [g2h id (by omega)]
    obtain ⟨loc,k1,k2⟩ := st1.obj id o h
    refine ⟨loc,k1,?_⟩
    cases loc with
    | none => cases o <;> exact k2
    | some q =>
     obtain ⟨g,ob⟩ := q
     cases o with
     | cells cs =>
      obtain ⟨arr,e,k3,k4⟩ := k2
      refine ⟨arr,e,k3,fun j a hj => ?_⟩
      obtain ⟨u,q1,q2,q3⟩ := k4 j a hj
      exact ⟨u,q1,q2,q3.hi_ g2h (List.all_eq_true.1 (hcl id (by omega) cs (.inl h)) a (List.mem_of_getElem? hj))⟩
     | ty cs tt =>
      obtain ⟨h00,arr,k3,k4⟩ := k2
      refine ⟨h00,arr,k3,fun j a hj => ?_⟩
      obtain ⟨u,q1,q2,q3⟩ := k4 j a hj
      exact ⟨u,q1,q2,q3.hi_ g2h (List.all_eq_true.1 (hcl id (by omega) cs (.inr ⟨_,h⟩)) a (List.mem_of_getElem? hj))⟩
     | _ => exact k2
  ·by_cases e1 : i1 < 100000 <;> by_cases e2 : i2 < 100000
   ·rw [g2l i1 e1] at h1;rw [g2l i2 e2] at h2;exact st.inj _ _ _ _ _ h1 h2
   ·rw [g2l i1 e1] at h1;rw [g2h i2 (by omega)] at h2;exact absurd ⟨i2,o2,h2⟩ (nl1 i1 g o1 e1 h1)
   ·rw [g2h i1 (by omega)] at h1;rw [g2l i2 e2] at h2;exact absurd ⟨i1,o1,h1⟩ (nl1 i2 g o2 e2 h2)
   ·rw [g2h i1 (by omega)] at h1;rw [g2h i2 (by omega)] at h2;exact st1.inj _ _ _ _ _ h1 h2
  ·by_cases e : id < 100000
   ·rw [g2l id e] at h;exact nz id g o e h
   ·rw [g2h id (by omega)] at h;exact st1.disj _ _ _ h
  ·by_cases e : id < 100000
   ·rw [g2l id e] at h;exact Nat.lt_of_lt_of_le (st.glt _ _ _ h) hh.size
   ·rw [g2h id (by omega)] at h;exact st1.glt _ _ _ h
  ·by_cases e : id < 100000
   ·rw [g2l id e] at h;exact (st.ones _ _ _ h).same (old g (st.glt _ _ _ h) (nlow id g o e h))
   ·rw [g2h id (by omega)] at h;exact st1.ones _ _ _ h
 refine ⟨v,r,_,G2,Z1,e1,⟨H1,hQ,rfl⟩,st2,⟨hk,hh.os,hh.tape,hh.output,hh.size,fun b hb hn => old b hb fun hc => hn (lvc b hc),fun b hb => ?_,fun b hb => ?_⟩,hr.hi_ g2h hrh⟩
 ·rcases hh.zout b hb with h | h | h
  ·exact .inl h
  ·exact .inr (.inl (lvc b h))
  ·exact .inr (.inr h)
 ·obtain ⟨id,o,h⟩ := hb
  by_cases e : id < 100000
  ·rw [g2l id e] at h;exact .inl ⟨id,o,h⟩
  ·rw [g2h id (by omega)] at h
   exact (hh.live b ⟨id,o,h⟩).imp (lvc b) (fun h => h)

abbrev Mv := List (Nat × Nat × Nat)
structure MvOk (H : Heap) (l : Mv) : Prop where
 xs : (l.map (·.1)).Nodup
 ys : (l.map (·.2.1)).Nodup
 ver : ∀ e ∈ l,100000 ≤ e.2.1 ∧ (H e.2.1).1 < e.2.2
section
variable {P : Program} {G : Ghost} {H : Heap} {Z : Nat → Prop} {w : World} {l : Mv}
end
end Go.Proofs.YthniagdphhcnkaaGreatDoor
