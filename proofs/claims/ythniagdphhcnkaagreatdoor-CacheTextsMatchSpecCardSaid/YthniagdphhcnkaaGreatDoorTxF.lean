/-
  copyCheck and String as calls that share the high numbers. No statement of the seat is proved here; no conditions.
-/
import Derived.Test.YthniagdphhcnkaaGreatDoorTxE
namespace Go.Proofs.YthniagdphhcnkaaGreatDoor
open Go.RowKit Go.Shelf
set_option linter.unusedVariables false
set_option linter.unusedSimpArgs false
set_option maxRecDepth 100000

theorem St.untype {P : Program} {G : Ghost} {H : Heap} {Z : Nat → Prop} {w : World} (st : St P G H Z w) {id ver : Nat} {cs : List AV} {t : TypeId} (hd : H id = (ver,some (.ty cs t))) : St P G (upd H id (ver,some (.cells cs))) Z w := by
 refine ⟨fun i => ?_,fun i h => ?_,fun i o h => ?_,st.inj,st.disj,st.zlt,st.glt,st.ones⟩
 ·by_cases e : i = id
  ·subst e;rw [upd_same,st.ver,hd]
  ·rw [upd_ne _ _ _ _ e];exact st.ver i
 ·by_cases e : i = id
  ·subst e;rw [upd_same] at h;cases h
  ·rw [upd_ne _ _ _ _ e] at h;exact st.dead i h
 ·by_cases e : i = id
  ·subst e
   rw [upd_same] at h
   obtain rfl := Option.some.inj h
   obtain ⟨loc,h1,h2⟩ := st.obj i (.ty cs t) (by rw [hd])
   refine ⟨loc,h1,?_⟩
   cases loc with
   | none => exact h2.elim
   | some q =>
    obtain ⟨g,o⟩ := q
    obtain ⟨h3,arr,h4,h5⟩ := h2
    exact ⟨arr,t,h4,h5⟩
  ·rw [upd_ne _ _ _ _ e] at h;exact st.obj i o h
theorem arg1P {G : Ghost} {Z : Nat → Prop} {w : World} {a : AV} {vs : Array Value} (hs : vs.size = [a].length) (h : ∀ (j : Nat) (x : AV) (v : Value),[a][j]? = some x → vs[j]? = some v → RepA G Z w x v) : ∃ v0,vs = #[v0] ∧ RepA G Z w a v0 := by
 obtain ⟨l⟩ := vs
 match l,hs with
 | [v0],_ => exact ⟨v0,rfl,h 0 _ v0 rfl rfl⟩
def bldN : List (Nat × Nat × AObj) := [(100001,1,.ty [.f (.lit (.pointer none)),.f .nil] 38)]
def bldE : List (Nat × Nat × AObj) := [(100001,1,.cells [.ptr 100001 1 0,.f .nil])]
def bldH (v : Nat) (y : ByteArray) : List (Nat × Nat × AObj) := [(100001,1,.cells [.ptr 100001 1 0,.sl 100002 v 1 0 y.size]),(100002,v,.ty (bytesL y) 5)]
theorem copyFresh_hi : FHi Tryz.prog 29 [.ptr 100001 1 0] bldN (fun r hl' => r = .tup [] ∧ hl' = bldE) := by
 refine ⟨by kernel_rfl,fun G Z w vs st hs hrep => ?_⟩
 obtain ⟨v0,rfl,hr⟩ := arg1P hs hrep
 obtain ⟨loc,h1,h2⟩ := st.obj 100001 _ rfl
 have hG1 : (G 100001).1 = 1 := st.ver 100001
 cases loc with
 | none => exact h2.elim
 | some q =>
  obtain ⟨g,o⟩ := q
  obtain ⟨ho,arr,hh,hc⟩ := h2
  subst ho
  have hG : G 100001 = (1,some (some (g,0))) := by rw [← hG1,← h1]
  obtain ⟨g',o',e,rfl⟩ := hr.ptr_ hG
  simp only [Option.some.injEq,Prod.mk.injEq] at e
  obtain ⟨rfl,rfl⟩ := e
  obtain ⟨u0,k1,k2,k3⟩ := hc 0 _ rfl
  obtain ⟨u1,j1,j2,j3⟩ := hc 1 _ rfl
  have hu0 : u0 = .pointer none := by cases k3 with | f h => cases h;rfl
  subst hu0
  have hsz := (Array.getElem?_eq_some_iff.1 j1).1
  have st2 := st.untype (id := 100001) (ver := 1) rfl
  refine (copyFresh_w g arr.size (by omega) w (by rw [cell_of_row w g _ arr _ (0,0) hh];exact k1) (by simp [World.shape?,hh]) (by simp [World.frozen?,hh])).mono fun e w' ⟨he,hw⟩ => ?_
  subst hw
  obtain ⟨s1,s2⟩ := st2.write (id := 100001) (ver := 1) (g := g) (o := 0) (off := 0) (cs := [.f (.lit (.pointer none)),.f .nil]) (by rw [upd_same]) hG (xs := [.ptr 100001 1 0]) (vs := [.pointer (some ⟨g,0,none⟩)]) rfl (by decide) (fun j x hj => by
   rcases j with _ | j
   ·obtain rfl := Option.some.inj hj
    exact ⟨_,rfl,rfl,RepA.ptrLive 100001 1 0 g 0 hG⟩
   ·simp at hj)
  refine ⟨_,.tup [],_,G,Z,he,⟨bldE,⟨rfl,rfl⟩,?_⟩,s1,s2.hist,.tup [] #[] rfl fun j x u h => by simp at h⟩
  funext id
  unfold hiP
  by_cases e : id = 100001
  ·subst e
   rw [if_neg (by decide),upd_same];rfl
  ·rw [upd_ne _ _ _ _ e,upd_ne _ _ _ _ e]
   have h3 : mkH bldN id = (0,none) := by
    show lookH id bldN = _
    unfold bldN
    rw [lookH_cons,if_neg e];rfl
   have h4 : mkH bldE id = (0,none) := by
    show lookH id bldE = _
    unfold bldE
    rw [lookH_cons,if_neg e];rfl
   rw [h3,h4]
   split <;> rfl
theorem copyUsed_hi (v : Nat) (y : ByteArray) : FHi Tryz.prog 29 [.ptr 100001 1 0] (bldH v y) (fun r hl' => r = .tup [] ∧ hl' = bldH v y) := by
 refine ⟨by kernel_rfl,fun G Z w vs st hs hrep => ?_⟩
 obtain ⟨v0,rfl,hr⟩ := arg1P hs hrep
 obtain ⟨loc,h1,h2⟩ := st.obj 100001 _ rfl
 have hG1 : (G 100001).1 = 1 := st.ver 100001
 cases loc with
 | none => cases (show ([.ptr 100001 1 0,.sl 100002 v 1 0 y.size] : List AV) = [] from h2)
 | some q =>
  obtain ⟨g,o⟩ := q
  obtain ⟨arr,t,hh,hc⟩ := h2
  have hG : G 100001 = (1,some (some (g,o))) := by rw [← hG1,← h1]
  obtain ⟨g',o',e,rfl⟩ := hr.ptr_ hG
  simp only [Option.some.injEq,Prod.mk.injEq] at e
  obtain ⟨rfl,rfl⟩ := e
  obtain ⟨u0,k1,k2,k3⟩ := hc 0 _ rfl
  obtain ⟨g',o',e,hu0⟩ := k3.ptr_ hG
  simp only [Option.some.injEq,Prod.mk.injEq] at e
  obtain ⟨rfl,rfl⟩ := e
  subst hu0
  refine (copyUsed_w g o w (by rw [cell_of_row w g _ arr _ (0,0) hh];exact k1)).mono fun e w' ⟨he,hw⟩ => ?_
  subst hw
  refine ⟨_,.tup [],_,G,Z,he,⟨bldH v y,⟨rfl,rfl⟩,?_⟩,st,(Step.refl _ _ _).hist,.tup [] #[] rfl fun j x u h => by simp at h⟩
  funext id
  unfold hiP
  split
  ·rename_i hid
   show _ = lookH id (bldH v y)
   unfold bldH
   rw [lookH_cons,if_neg (by omega),lookH_cons,if_neg (by omega)];rfl
  ·rfl
theorem Only.freeze (g n : Nat) (w : World) : Only g w (w.freeze ⟨g,0,none⟩ n) := by
 unfold World.freeze
 split
 ·exact Only.refl g w
 ·refine ⟨rfl,rfl,rfl,by simp,fun b hb hn => ?_,fun arr e fz h => ?_⟩
  ·simp only [Array.getElem?_modify]
   rw [if_neg (fun h => hn h.symm)]
  ·simp only [Array.getElem?_modify]
   rw [if_pos trivial,h]
   obtain ⟨lo,hi⟩ := fz
   exact ⟨_,_,_,rfl,rfl⟩
def bldS (v : Nat) (y : ByteArray) : List (Nat × Nat × AObj) := [(100001,1,.cells [.ptr 100001 1 0,.sl 100002 v 1 0 y.size]),(100002,v + 1,.cells [])]
theorem string_hi (v : Nat) (y : ByteArray) (hy : 0 < y.size) : FHi Tryz.prog 16 [.ptr 100001 1 0] (bldH v y) (fun r hl' => r = .f (.str y) ∧ hl' = bldS v y) := by
 refine ⟨by kernel_rfl,fun G Z w vs st hs hrep => ?_⟩
 have hyl : y.size = y.data.toList.length := by simp
 obtain ⟨v0,rfl,hr⟩ := arg1P hs hrep
 obtain ⟨loc,h1,h2⟩ := st.obj 100001 _ rfl
 have hG1 : (G 100001).1 = 1 := st.ver 100001
 cases loc with
 | none => cases (show ([.ptr 100001 1 0,.sl 100002 v 1 0 y.size] : List AV) = [] from h2)
 | some q =>
  obtain ⟨g,o⟩ := q
  obtain ⟨arr,t,hh,hc⟩ := h2
  have hG : G 100001 = (1,some (some (g,o))) := by rw [← hG1,← h1]
  obtain ⟨g',o',e,rfl⟩ := hr.ptr_ hG
  simp only [Option.some.injEq,Prod.mk.injEq] at e
  obtain ⟨rfl,rfl⟩ := e
  obtain ⟨u1,j1,j2,j3⟩ := hc 1 _ rfl
  obtain ⟨loc2,p1,p2⟩ := st.obj 100002 _ rfl
  have hG2 : (G 100002).1 = v := st.ver 100002
  cases loc2 with
  | none => exact p2.elim
  | some q2 =>
   obtain ⟨g2,o2⟩ := q2
   obtain ⟨ho,arr2,hh2,hc2⟩ := p2
   subst ho
   have hGb : G 100002 = (v,some (some (g2,0))) := by rw [← hG2,← p1]
   rcases j3.sl_ hGb with ⟨h0,_⟩ | ⟨g',o',c,hgo,hv,hnc,hcm,arr3,et,fz,hh3,hroom⟩
   ·omega
   ·simp only [Option.some.injEq,Prod.mk.injEq] at hgo
    obtain ⟨rfl,rfl⟩ := hgo
    rw [hh2] at hh3
    simp only [Option.some.injEq,Obj.cells.injEq] at hh3
    obtain ⟨rfl,rfl,rfl⟩ := hh3
    subst hv
    refine (string_w g o g2 c arr2 y.data.toList (fun e => by have h9 := congrArg List.length e;rw [← hyl] at h9;have h10 : y.size = 0 := h9;omega) w (by rw [cell_of_row w g _ arr _ (0,0) hh,j1,← hyl]) hh2 (by rw [← hyl];exact hnc) hcm (by omega) (fun j x hx => ?_)).mono fun e w' ⟨he,hw⟩ => ?_
    ·rw [cell_of_row w g2 _ arr2 _ (0,0) hh2]
     obtain ⟨u,q1,q2,q3⟩ := hc2 j (.f (.int .u8 x.toNat)) (by unfold bytesL;rw [List.getElem?_map,hx];rfl)
     rw [q1]
     cases q3 with | f h => cases h;rfl
    ·subst hw
     obtain ⟨s1,s2⟩ := st.change 100002 g2 ((Only.drew g2 w).trans (Only.freeze g2 y.data.toList.length w.drew)) (v + 1,some none) (v + 1,some (.cells [])) (.inr ⟨0,p1⟩) (.inr fun o h => by cases h) rfl (by show v ≤ v + 1;omega) (fun h => absurd h (by show v + 1 ≠ v;omega)) (.inr (.inl rfl)) (fun ⟨_,h⟩ => by cases h) (fun h => by cases h) fun o ho => ⟨_,rfl,fun hk => by
      obtain rfl := Option.some.inj ho
      rfl⟩
     refine ⟨_,.f (.str y),_,_,Z,he,⟨bldS v y,⟨rfl,rfl⟩,?_⟩,s1,s2.hist,.f (.str y)⟩
     funext id
     unfold hiP
     by_cases e : id = 100002
     ·subst e;rw [if_neg (by decide),upd_same];rfl
     ·rw [upd_ne _ _ _ _ e]
      show (if id < 100000 then (0,none) else lookH id (bldH v y)) = lookH id (bldS v y)
      unfold bldH bldS
      rw [lookH_cons,lookH_cons,lookH_cons,lookH_cons]
      by_cases e1 : id = 100001
      ·subst e1;rfl
      ·rw [if_neg e1,if_neg e,if_neg e1,if_neg e]
       split <;> rfl
end Go.Proofs.YthniagdphhcnkaaGreatDoor
