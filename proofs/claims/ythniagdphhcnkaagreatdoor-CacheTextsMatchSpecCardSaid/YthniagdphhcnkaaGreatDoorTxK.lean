/-
  A call in a drawn region that shares the high numbers and is handed a slice of its caller's, which is frozen for good. No statement of the seat is proved here; no conditions.
-/
import Derived.Test.YthniagdphhcnkaaGreatDoorTxG
namespace Go.Proofs.YthniagdphhcnkaaGreatDoor
open Go.RowKit Go.Shelf
set_option linter.unusedVariables false
set_option linter.unusedSimpArgs false
set_option maxRecDepth 100000

section
variable {P : Program} {H : Heap}
theorem St.fkill {G : Ghost} {Z : Nat → Prop} {w : World} (st : St P G H Z w) {i ver : Nat} {cs : List AV} (hi : H i = (ver,some (.cells cs))) :
  St P (wkG G (upd H i (ver,none)) []) (upd H i (ver,none)) (wkZ G (upd H i (ver,none)) [] Z) w ∧ Step G Z w (wkG G (upd H i (ver,none)) []) (wkZ G (upd H i (ver,none)) [] Z) w := by
 have hv : ∀ id,(upd H i (ver,none) id).1 = (H id).1 := fun id => by
  by_cases e : id = i
  ·subst e;rw [upd_same,hi]
  ·rw [upd_ne _ _ _ _ e]
 have g1 : ∀ id,(wkG G (upd H i (ver,none)) [] id).1 = (G id).1 := fun id => by rw [st.ver];exact hv id
 have g2 : ∀ id,id ≠ i → (H id).2.isSome = true → (wkG G (upd H i (ver,none)) [] id).2 = (G id).2 := fun id e h => by
  unfold wkG
  simp only
  rw [upd_ne _ _ _ _ e,if_pos h,if_neg (by simp)]
 have g3 : ∀ id,(wkG G (upd H i (ver,none)) [] id).2 = none ∨ (id ≠ i ∧ (wkG G (upd H i (ver,none)) [] id).2 = (G id).2) := fun id => by
  by_cases e : id = i
  ·subst e;left;unfold wkG;simp only;rw [upd_same];rfl
  ·cases h : (H id).2 with
   | none => left;unfold wkG;simp only;rw [upd_ne _ _ _ _ e,h];rfl
   | some o => right;exact ⟨e,g2 id e (by rw [h];rfl)⟩
 have gl : ∀ id g o,(wkG G (upd H i (ver,none)) [] id).2 = some (some (g,o)) → id ≠ i ∧ (G id).2 = some (some (g,o)) := fun id g o h => by
  rcases g3 id with h1 | ⟨h1,h2⟩
  ·rw [h1] at h;cases h
  ·exact ⟨h1,by rw [← h2];exact h⟩
 have zz : ∀ b,wkZ G (upd H i (ver,none)) [] Z b → Z b ∨ ∃ id o,(G id).2 = some (some (b,o)) ∧ (id = i ∨ (H id).2 = none) := fun b h => by
  rcases h with h | ⟨id,o,h1,h2⟩
  ·exact .inl h
  ·right
   refine ⟨id,o,h1,?_⟩
   by_cases e : id = i
   ·exact .inl e
   ·rw [upd_ne _ _ _ _ e] at h2
    exact .inr (h2.resolve_right (by simp))
 have hk : Keep G Z w (wkG G (upd H i (ver,none)) []) (wkZ G (upd H i (ver,none)) [] Z) w := ⟨fun b h => ⟨.inl h,rfl⟩,fun id => Nat.le_of_eq (g1 id).symm,fun id _ => (g3 id).imp (fun h => h) (fun h => h.2),fun b arr e fz _ h => ⟨arr,e,fz,h,rfl⟩⟩
 have nlive : ∀ id,(H id).2 = none → ∀ b o,(G id).2 ≠ some (some (b,o)) := fun id h b o h2 => by rw [st.dead id h] at h2;cases h2
 refine ⟨⟨fun id => rfl,fun id h => ?_,fun id o h => ?_,fun i1 i2 g o1 o2 h1 h2 => st.inj _ _ _ _ _ (gl _ _ _ h1).2 (gl _ _ _ h2).2,fun id g o h hz => ?_,⟨fun b hz => ?_,st.zlt.kn.mono hk.zin⟩,fun id g o h => st.glt _ _ _ (gl _ _ _ h).2,fun id g o h => st.ones _ _ _ (gl _ _ _ h).2⟩,
  ⟨hk,rfl,rfl,rfl,Nat.le_refl _,fun _ _ _ => rfl,fun b hz => ?_,fun b ⟨id,o,h⟩ => .inl ⟨id,o,(gl _ _ _ h).2⟩⟩⟩
 ·unfold wkG
  simp only
  rw [h];rfl
 ·by_cases e : id = i
  ·subst e;rw [upd_same] at h;cases h
  ·rw [upd_ne _ _ _ _ e] at h
   obtain ⟨loc,h1,h2⟩ := st.obj id o h
   refine ⟨loc,by rw [g2 id e (by rw [h];rfl)];exact h1,?_⟩
   cases loc with
   | none => cases o <;> exact h2
   | some q =>
    obtain ⟨g,ob⟩ := q
    cases o with
    | cells cs =>
     obtain ⟨arr,t,h3,h4⟩ := h2
     exact ⟨arr,t,h3,h4.mono fun a v hr => hr.keep hk⟩
    | ty cs t =>
     obtain ⟨h0,arr,h3,h4⟩ := h2
     exact ⟨h0,arr,h3,h4.mono fun a v hr => hr.keep hk⟩
    | map m => exact h2
 ·obtain ⟨hne,hG⟩ := gl _ _ _ h
  rcases zz g hz with hz | ⟨id2,o2,h1,h2⟩
  ·exact st.disj _ _ _ hG hz
  ·have := st.inj _ _ _ _ _ hG h1
   subst this
   rcases h2 with h2 | h2
   ·exact hne h2
   ·exact nlive _ h2 _ _ hG
 ·rcases zz b hz with hz | ⟨id,o,h1,_⟩
  ·exact st.zlt b hz
  ·exact st.glt _ _ _ h1
 ·rcases zz b hz with hz | ⟨id,o,h1,_⟩
  ·exact .inl hz
  ·exact .inr (.inl ⟨id,o,h1⟩)
theorem ACall.fkill {f : FuncId} {rest : List AV} {i ver : Nat} {ws : List ByteArray} {Q : AV → Heap → Prop} (hi : H i = (ver,some (.cells ((ws.map FV.str).map .f)))) (h : ACall P f (.f (frStrs ws) :: rest) (upd H i (ver,none)) Q) : ACall P f (.sl i ver 1 0 ws.length :: rest) H Q := by
 refine ⟨h.1,fun G Z w vs st hsz hrep => ?_⟩
 obtain ⟨s1,s2⟩ := st.fkill hi
 have hs : SlotOk H (upd H i (ver,none)) [] (.sl i ver 1 0 ws.length) (.f (frStrs ws)) :=
  so_row0 (enc := fun s => [FV.str s]) (fun _ => rfl) (by rw [upd_same]) (by
   rw [hi]
   simp only [cellsOf,if_pos]
   congr 2
   unfold rowF
   clear h hi hrep hsz
   induction ws with
   | nil => rfl
   | cons a l ih => rw [List.map_cons,ih];rfl) rfl
 refine (h.2 _ _ w vs s1 (by simpa using hsz) (fun j a v ha hv => ?_)).mono fun e w' ⟨v,r,H',G',Z',e1,hQ,st2,hh,hr⟩ => ⟨v,r,H',G',Z',e1,hQ,st2,s2.trans hh,hr⟩
 cases j with
 | zero =>
  obtain rfl := Option.some.inj ha
  exact SlotOk.rep st _ _ v hs (hrep 0 _ v rfl hv)
 | succ j => exact (hrep (j + 1) a v (by simpa using ha) hv).keep s2.toKeep
variable {R : Env → Heap → Prop} {Λ : Lams} {k : List It} {env : Env} {d j : Nat} {f : Operand} {args : List Operand} {g : Option (Nat × Bool)} {dos : List DO} {acc : List Fp} {od : List Nat} {fid : FuncId}
theorem callK5 {hl hl2 : List (Nat × Nat × AObj)} {r0 : AV} {caps : List AV} {ws : List ByteArray} (i ver : Nat) (hF : FHi P fid (.f (frStrs ws) :: caps) hl (fun r hl' => r = r0 ∧ hl' = hl2)) (hg : gd g env = some true) (hfn : evA env f = .clo (.func fid) caps) (ha : args.map (evA env) = [.sl i ver 1 0 ws.length]) (hni : isHi i = false) (hi : H i = (ver,some (.cells ((ws.map FV.str).map .f)))) (h1 : H 100001 = lookH 100001 hl) (h2 : H 100002 = lookH 100002 hl) (h3 : H 100101 = lookH 100101 hl) (h4 : H 100102 = lookH 100102 hl) (h5 : H 100103 = lookH 100103 hl)
  (hk1 : hl.all (fun p => isHi p.1) = true) (hk2 : hl2.all (fun p => isHi p.1) = true) (hr : r0.hi5 = true) (ho : hiObjs5 hl = true) (ho2 : hiObjs5 hl2 = true) (hp : caps.all AV.hi5 = true) (hk : noConf acc od [] (i :: W5) = true)
  (h : srun P R 300 Λ (.dops dos (j + 1) (addFp j [] (i :: W5) acc) :: k) (putE env (some d) r0) (upd (mixH5 (mkH hl2) H) i (ver,none))) : Ax P R Λ (.dops (⟨some d,.call f args,g,od⟩ :: dos) j acc :: k) env H := by
 have hH : ∀ id,isHi id = true → H id = lookH id hl := fun id hid => by
  have : id = 100001 ∨ id = 100002 ∨ id = 100101 ∨ id = 100102 ∨ id = 100103 := by simpa [isHi] using hid
  rcases this with rfl | rfl | rfl | rfl | rfl <;> assumption
 refine ax_dCall (f := f) (args := args) (rd := []) (wr := i :: W5) (v := r0) (H' := upd (mixH5 (mkH hl2) H) i (ver,none)) rfl hg (fun id hid => ?_) (fun H2 _ hw => ?_) hk (srun_sound 300 _ _ _ _ h)
 ·rw [List.mem_cons,not_or] at hid
  rw [upd_ne _ _ _ _ hid.1]
  exact if_pos (by have := mt mem_W5.2 hid.2;simpa using this)
 ·rw [hfn,ha]
  show ACall P fid (.sl i ver 1 0 ws.length :: caps) H2 _
  have hi2 : H2 i = (ver,some (.cells ((ws.map FV.str).map .f))) := (hw i List.mem_cons_self).trans hi
  refine ACall.fkill hi2 ?_
  have hH2 : ∀ id,isHi id = true → upd H2 i (ver,none) id = lookH id hl := fun id hid => by
   rw [upd_ne _ _ _ _ (fun e => by rw [e,hni] at hid;cases hid)]
   exact (hw id (List.mem_cons_of_mem _ (mem_W5.2 hid))).trans (hH id hid)
  have e : hiP5 (upd H2 i (ver,none)) = mkH hl := by
   funext id
   show (if isHi id = false then (0,none) else upd H2 i (ver,none) id) = lookH id hl
   by_cases e : isHi id = false
   ·rw [if_pos e,look_hi hk1 e]
   ·rw [if_neg e];exact hH2 id (hi5_of e)
  have at2 : ∀ {H' : Heap},hiP H' = mkH hl2 → ∀ id,isHi id = true → H' id = lookH id hl2 := fun hh id hid => hi_at hh (hi5_ge hid)
  refine ACall.mono (call_hi5 hF e (fun r H' ⟨hl',⟨q1,q2⟩,q3⟩ => by subst q1 q2;exact ⟨hr,hiC5_at (at2 q3) ho2⟩) (hiC5_at hH2 ho) (by rw [List.all_cons,hp];rfl)) fun r H'' ⟨H',⟨hl',⟨q1,q2⟩,q3⟩,q4⟩ => ?_
  subst q1 q2 q4
  refine ⟨rfl,?_⟩
  funext id
  unfold mix
  by_cases ei : id = i
  ·subst ei
   rw [if_pos List.mem_cons_self,upd_same]
   show (if isHi id = false then upd H2 id (ver,none) id else H' id) = _
   rw [if_pos hni,upd_same]
  ·by_cases e : isHi id = true
   ·rw [if_pos (List.mem_cons_of_mem _ (mem_W5.2 e)),upd_ne _ _ _ _ ei]
    show (if isHi id = false then upd H2 i (ver,none) id else H' id) = if isHi id = false then H id else mkH hl' id
    rw [if_neg (hi5_no e),if_neg (hi5_no e),at2 q3 id e];rfl
   ·rw [if_neg (fun hh => by rcases List.mem_cons.1 hh with hh | hh;exact ei hh;exact e (mem_W5.1 hh))]
    show (if isHi id = false then upd H2 i (ver,none) id else H' id) = H2 id
    rw [if_pos (by simpa using e),upd_ne _ _ _ _ ei]
theorem callK2 {hl hl2 : List (Nat × Nat × AObj)} {r0 : AV} {caps : List AV} {ws : List ByteArray} (i ver : Nat) (hF : FHi P fid (.f (frStrs ws) :: caps) hl (fun r hl' => r = r0 ∧ hl' = hl2)) (hg : gd g env = some true) (hfn : evA env f = .clo (.func fid) caps) (ha : args.map (evA env) = [.sl i ver 1 0 ws.length]) (hni : isHi i = false) (hi : H i = (ver,some (.cells ((ws.map FV.str).map .f)))) (h1 : H 100001 = lookH 100001 hl) (h2 : H 100002 = lookH 100002 hl) (h3 : H 100101 = lookH 100101 hl) (h4 : H 100102 = lookH 100102 hl) (h5 : H 100103 = lookH 100103 hl)
  (hk1 : hl.all (fun p => isHi p.1) = true) (hk2 : hl2.all (fun p => isHi p.1) = true) (hr : r0.hi5 = true) (ho : hiObjs5 hl = true) (ho2 : hiObjs5 hl2 = true) (hp : caps.all AV.hi5 = true) (hk : noConf acc od [] (i :: W5) = true) (q3 : lookH 100101 hl2 = lookH 100101 hl) (q4 : lookH 100102 hl2 = lookH 100102 hl) (q5 : lookH 100103 hl2 = lookH 100103 hl)
  (h : srun P R 300 Λ (.dops dos (j + 1) (addFp j [] (i :: W5) acc) :: k) (putE env (some d) r0) (upd (upd (upd H 100001 (lookH 100001 hl2)) 100002 (lookH 100002 hl2)) i (ver,none))) : Ax P R Λ (.dops (⟨some d,.call f args,g,od⟩ :: dos) j acc :: k) env H := by
 refine callK5 i ver hF hg hfn ha hni hi h1 h2 h3 h4 h5 hk1 hk2 hr ho ho2 hp hk ?_
 have e : mixH5 (mkH hl2) H = upd (upd H 100001 (lookH 100001 hl2)) 100002 (lookH 100002 hl2) := by
  funext id
  show (if isHi id = false then H id else lookH id hl2) = _
  by_cases e2 : id = 100002
  ·subst e2;rw [upd_same];rfl
  ·rw [upd_ne _ _ _ _ e2]
   by_cases e1 : id = 100001
   ·subst e1;rw [upd_same];rfl
   ·rw [upd_ne _ _ _ _ e1]
    by_cases e3 : isHi id = false
    ·rw [if_pos e3]
    ·rw [if_neg e3]
     have : id = 100001 ∨ id = 100002 ∨ id = 100101 ∨ id = 100102 ∨ id = 100103 := by have := hi5_of e3;simpa [isHi] using this
     rcases this with rfl | rfl | rfl | rfl | rfl
     ·exact absurd rfl e1
     ·exact absurd rfl e2
     ·rw [q3,h3]
     ·rw [q4,h4]
     ·rw [q5,h5]
 rw [e]
 exact h
end
end Go.Proofs.YthniagdphhcnkaaGreatDoor
