/-
  The document's Read. No statement of the seat is proved here; no conditions.
-/
import Derived.Test.YthniagdphhcnkaaGreatDoorTyL
import Derived.Test.YthniagdphhcnkaaGreatDoorTxQ
namespace Go.Proofs.YthniagdphhcnkaaGreatDoor
open Go.RowKit Go.Shelf
set_option linter.unusedVariables false
set_option linter.unusedSimpArgs false
set_option maxRecDepth 100000

def SB (c : Cache) : Prop := (∀ b ∈ c.2.2.1,b.1.size ≤ 2000000) ∧ ∀ e ∈ c.2.2.2,e.1.size ≤ 2000000 ∧ ∀ d ∈ e.2.1,d.size ≤ 2000000
theorem joinW_mem : ∀ {ws : List ByteArray} {x : ByteArray},x ∈ ws → x.size ≤ (joinW ws).size
 | [y],x,h => by
  obtain rfl := List.mem_singleton.1 h
  have e : (joinW [x]).size = x.size := by
   show (Lib.join [x.data.toList] _).toArray.size = _
   rw [Lib.join_one];simp
  omega
 | y :: z :: r,x,h => by
  have e : (joinW (y :: z :: r)).size = y.size + 1 + (joinW (z :: r)).size := by
   show (Lib.join (y.data.toList :: z.data.toList :: r.map (·.data.toList)) [32]).toArray.size = y.size + 1 + (Lib.join (z.data.toList :: r.map (·.data.toList)) [32]).toArray.size
   rw [join_two]
   simp
   omega
  rcases List.mem_cons.1 h with rfl | h
  ·omega
  ·have := joinW_mem h;omega
theorem lineW_sb {c c' : Cache} {f : Bool} {w : List ByteArray} (h : lineW c f w = some c') (hw : ∀ x ∈ w,x.size ≤ 2000000) (hc : SB c) : SB c' := by
 unfold lineW at h
 repeat' split at h
 all_goals first
  | cases h;done
  | (obtain rfl := Option.some.inj h;exact hc)
  | (rename_i d n0 n1 n2 n3 hd hn
     obtain rfl := Option.some.inj h
     refine ⟨fun b hb => ?_,hc.2⟩
     rcases List.mem_append.1 hb with hb | hb
     ·exact hc.1 b hb
     ·obtain rfl := List.mem_singleton.1 hb
      exact hw _ (List.mem_of_getElem? hd))
  | (rename_i d n0 hd hn
     obtain rfl := Option.some.inj h
     refine ⟨hc.1,fun e he => ?_⟩
     rcases List.mem_append.1 he with he | he
     ·exact hc.2 e he
     ·obtain rfl := List.mem_singleton.1 he
      exact ⟨hw _ (List.mem_of_getElem? hd),fun d hd => hw d (List.mem_of_mem_drop hd)⟩)
set_option maxHeartbeats 8000000 in
theorem ReadR_f (t0 : ByteArray) : FRet Tryz.prog 7 [.f (.str t0)] [.agg (pcs4 (readV t0).1),.c (.v (.int .i64 (readV t0).2.1)),.c (.v (.int .i64 (readV t0).2.2))] := by
 refine FCall.of_ax low_ref7_Read ?_
 dsimp only [l_ref7_Read]
 by_cases hbig : 2000000 < t0.size
 ·have e1 : readV t0 = (emptyC,0,2) := if_pos hbig
  rw [e1]
  have d1 : decide ((2000000 : Int) < t0.size) = true := dec_t (by omega)
  have d2 : decide ((t0.size : Int) > 2000000) = true := d1
  clear e1 hbig
  refine srun_sound 300 _ _ _ _ ?_
  repeat' (first
   | (simp -implicitDefEqProofs only [*,zr,Nat.reduceAdd,Nat.reduceSub,Nat.reduceMul,Nat.reduceLT,Nat.reduceLeDiff,Nat.reduceEqDiff,Nat.reduceBEq,reduceIte,reduceCtorEq,Int.reduceLE,Int.reduceLT,Int.reduceToNat,Int.reduceEq,Int.reduceNe])
   | ((first|apply zk0|apply zk1|apply zk2|apply zk3|apply zk4|apply zk5|apply zk6|apply zk7|apply zk8|apply zk9) <;> intro hc)
   |(refine callP0 rfl ?_)
   |(refine callD0 rfl ?_)
   | fail)
  exact endZ
 have e1 : readV t0 = outV (readGo (t0.size + 1) 0 emptyC t0) := if_neg hbig
 rw [e1]
 clear e1
 have hO : ∃ o,readGo (t0.size + 1) 0 emptyC t0 = o := ⟨_,rfl⟩
 obtain ⟨o,hO⟩ := hO
 rw [hO]
 have d1 : decide ((2000000 : Int) < t0.size) = false := dec_f (by omega)
 have d2 : decide ((t0.size : Int) > 2000000) = false := d1
 have hsz : t0.size ≤ 2000000 := by omega
 clear hbig
 replace hO := hide hO
 refine srun_sound 300 _ _ _ _ ?_
 repeat' (first
  | (simp -implicitDefEqProofs only [*,zr,Nat.reduceAdd,Nat.reduceSub,Nat.reduceMul,Nat.reduceLT,Nat.reduceLeDiff,Nat.reduceEqDiff,Nat.reduceBEq,reduceIte,reduceCtorEq,Int.reduceLE,Int.reduceLT,Int.reduceToNat,Int.reduceEq,Int.reduceNe])
  | ((first|apply zk0|apply zk1|apply zk2|apply zk3|apply zk4|apply zk5|apply zk6|apply zk7|apply zk8|apply zk9) <;> intro hc)
  |(refine callP0 rfl ?_)
  |(refine callD0 rfl ?_)
  | fail)
 refine ax_loopW (S := Nat × Cache × ByteArray) 48 [2,5] [2] (fun s => [(0,.f (.str s.2.2)),(6,.f (.int .i64 s.1))]) (fun s => [(80000,1,AObj.cells ((rowF fBlob s.2.1.2.2.1).map .f)),(81000,1,AObj.cells ((rowF fEntry s.2.1.2.2.2).map .f)),(5,1,AObj.cells [.f (.int .i64 s.2.1.1),.f (.int .i64 s.2.1.2.1),.sl 80000 1 5 0 s.2.1.2.2.1.length,.sl 81000 1 3 0 s.2.1.2.2.2.length])]) (fun s => readGo (t0.size + 1 - s.1) s.1 s.2.1 s.2.2 = o ∧ s.2.2.size + s.1 ≤ t0.size ∧ s.2.1.2.2.1.length ≤ s.1 ∧ s.2.1.2.2.2.length ≤ s.1 ∧ (∀ e ∈ s.2.1.2.2.2,e.2.1.length ≤ 2000001) ∧ SB s.2.1) (fun s => t0.size + 1 - s.1) ((0,emptyC,t0)) [80000,81000] [] ?_ rfl ?_ fun s hs => ?_
 ·exact ⟨hO.out,Nat.le_refl _,Nat.le_refl _,Nat.le_refl _,(fun e he => by cases he),(fun e he => by cases he),fun e he => by cases he⟩
 ·refine wk_i ?_ ?_ <;> simp only [emptyC,zw,Nat.reduceEqDiff,Nat.reduceBEq,Nat.reduceLT,Nat.reduceLeDiff,reduceIte,reduceCtorEq]
  exact ⟨rfl,rfl⟩
 simp only [sws_n,swh_n]
 obtain ⟨i,c,t⟩ := s
 obtain ⟨hG,hlt,hbl,hel,hrf,hsb⟩ := hs
 dsimp only at hG hlt hbl hel hrf hsb ⊢
 replace hO := hO.out
 clear hO
 rw [show t0.size + 1 - i = (t0.size - i) + 1 by omega,readGo] at hG
 by_cases hz : i = 0 ∨ t ≠ ⟨#[]⟩
 case neg =>
  rw [if_neg hz] at hG
  subst hG
  have di : decide ((i : Int) = 0) = false := dec_f (fun e => hz (.inl (by omega)))
  have dt : decide (t = (⟨#[]⟩ : ByteArray)) = true := dec_t (Classical.byContradiction fun e => hz (.inr e))
  have hC := CheckCacheR_f c ⟨⟨by omega,by omega,fun e he => by have := hrf e he;omega⟩,fun b hb => by have := hsb.1 b hb;omega,fun e he => ⟨by have := (hsb.2 e he).1;omega,fun d hd => by have := (hsb.2 e he).2 d hd;omega⟩⟩
  clear hz hlt hbl hel hrf hsb
  obtain ⟨room,lease,bl,en⟩ := c
  dsimp only
  refine srun_sound 300 _ _ _ _ ?_
  repeat' (first
   | (simp -implicitDefEqProofs only [*,zr,Nat.reduceAdd,Nat.reduceSub,Nat.reduceMul,Nat.reduceLT,Nat.reduceLeDiff,Nat.reduceEqDiff,Nat.reduceBEq,reduceIte,reduceCtorEq,Int.reduceLE,Int.reduceLT,Int.reduceToNat,Int.reduceEq,Int.reduceNe])
   | ((first|apply zk0|apply zk1|apply zk2|apply zk3|apply zk4|apply zk5|apply zk6|apply zk7|apply zk8|apply zk9) <;> intro hc)
   |(refine callP0 rfl ?_)
   |(refine callD0 rfl ?_)
   | fail)
  refine callG rfl hC rfl ?_ (by simp [RS.all,RC.all,FV.plain]) (by first | exact free_mk rfl | exact free_mk (by simp) | (repeat (first|exact free_0 | exact free_mk rfl | exact free_mk (by simp) | refine free_upd rfl ?_ | refine free_kill ?_))) ?_
  ·exact ⟨fz_own4 (c := (room,lease,bl,en)) rfl rfl,trivial⟩
  by_cases hk : ckCache (room,lease,bl,en) = 0
  ·have e1 : outV (.inl (room,lease,bl,en)) = ((room,lease,bl,en),0,0) := if_pos hk
   rw [e1,hk]
   have z1 : decide ((0 : Int) = 0) = true := rfl
   clear hk e1 hC
   repeat' (first
    | (simp -implicitDefEqProofs only [*,zr,Nat.reduceAdd,Nat.reduceSub,Nat.reduceMul,Nat.reduceLT,Nat.reduceLeDiff,Nat.reduceEqDiff,Nat.reduceBEq,reduceIte,reduceCtorEq,Int.reduceLE,Int.reduceLT,Int.reduceToNat,Int.reduceEq,Int.reduceNe])
    | ((first|apply zk0|apply zk1|apply zk2|apply zk3|apply zk4|apply zk5|apply zk6|apply zk7|apply zk8|apply zk9) <;> intro hc)
    |(refine callP0 rfl ?_)
    |(refine callD0 rfl ?_)
    | fail)
   exact endR (c := (room,lease,bl,en)) rfl rfl (by decide)
  ·have e1 : outV (.inl (room,lease,bl,en)) = (emptyC,0,ckCache (room,lease,bl,en)) := if_neg hk
   rw [e1]
   have z1 : decide (ckCache (room,lease,bl,en) = 0) = false := dec_f hk
   clear hk e1 hC
   generalize ckCache (room,lease,bl,en) = q at *
   repeat' (first
    | (simp -implicitDefEqProofs only [*,zr,Nat.reduceAdd,Nat.reduceSub,Nat.reduceMul,Nat.reduceLT,Nat.reduceLeDiff,Nat.reduceEqDiff,Nat.reduceBEq,reduceIte,reduceCtorEq,Int.reduceLE,Int.reduceLT,Int.reduceToNat,Int.reduceEq,Int.reduceNe])
    | ((first|apply zk0|apply zk1|apply zk2|apply zk3|apply zk4|apply zk5|apply zk6|apply zk7|apply zk8|apply zk9) <;> intro hc)
    |(refine callP0 rfl ?_)
    |(refine callD0 rfl ?_)
    | fail)
   exact endZ
 rw [if_pos hz] at hG
 have hcut := cut_f1 t 10 (by omega)
 have hcs := @cut_size t 10
 have hcl := cut_le t 10
 generalize cutS t 10 = q at *
 obtain ⟨s,rest,ok⟩ := q
 dsimp only at hG hcut hcs hcl
 have hcond : (decide ((i : Int) = 0) = true ∧ decide (((i + 1 : Nat) : Int) = 1) = true ∧ decide (t = (⟨#[]⟩ : ByteArray)) = true) ∨ (decide ((i : Int) = 0) = true ∧ decide (((i + 1 : Nat) : Int) = 1) = true ∧ decide (t = (⟨#[]⟩ : ByteArray)) = false) ∨ (decide ((i : Int) = 0) = false ∧ decide (((i + 1 : Nat) : Int) = 1) = false ∧ decide (t = (⟨#[]⟩ : ByteArray)) = false) := by
  by_cases hi0 : i = 0
  ·by_cases ht0 : t = ⟨#[]⟩
   ·exact .inl ⟨dec_t (by omega),dec_t (by omega),dec_t ht0⟩
   ·exact .inr (.inl ⟨dec_t (by omega),dec_t (by omega),dec_f ht0⟩)
  ·exact .inr (.inr ⟨dec_f (by omega),dec_f (by omega),dec_f (hz.resolve_left hi0)⟩)
 clear hz
 have h4 : IntKind.i64.wrap ((i : Int) + 1) = ((i + 1 : Nat) : Int) := by rw [wrap64] <;> omega
 cases ok
 ·rw [if_neg (by decide)] at hG
  subst hG
  have e1 : outV (.inr (i + 1)) = (emptyC,((i + 1 : Nat) : Int),10) := rfl
  rw [e1]
  clear e1 hcs
  rcases hcond with ⟨di,di2,dt⟩ | ⟨di,di2,dt⟩ | ⟨di,di2,dt⟩
  all_goals
   refine srun_sound 300 _ _ _ _ ?_
   repeat' (first
    | (simp -implicitDefEqProofs only [*,zr,Nat.reduceAdd,Nat.reduceSub,Nat.reduceMul,Nat.reduceLT,Nat.reduceLeDiff,Nat.reduceEqDiff,Nat.reduceBEq,reduceIte,reduceCtorEq,Int.reduceLE,Int.reduceLT,Int.reduceToNat,Int.reduceEq,Int.reduceNe])
    | ((first|apply zk0|apply zk1|apply zk2|apply zk3|apply zk4|apply zk5|apply zk6|apply zk7|apply zk8|apply zk9) <;> intro hc)
    |(refine callP0 rfl ?_)
    |(refine callD0 rfl ?_)
    |(refine cP (hcut) ?_)
    |(refine cD (hcut) ?_)
    |(refine cF (hcut) ?_)
    | fail)
   exact endZ
 rw [if_pos rfl] at hG
 have hcs := hcs rfl
 have hL := lineR_f c (decide ((i : Int) = 0)) s (by omega) (by omega) (by omega)
 have hlen := fun c' => @lineW_len c c' (decide ((i : Int) = 0)) (splitS s 32)
 have hwl : (splitS s 32).length ≤ 2000001 := by
  rw [splitS_len]
  have := Lib.countB_le (sep 32) (by show 1 ≤ 1;decide) s.size s (Nat.le_refl _)
  omega
 have hrf2 := fun c' h => @lineW_refs c c' (decide ((i : Int) = 0)) (splitS s 32) 2000001 h hwl hrf
 have hws : ∀ x ∈ splitS s 32,x.size ≤ 2000000 := fun x hx => by have h1 := joinW_mem hx;rw [join_words] at h1;omega
 have hsb2 := fun c' h => @lineW_sb c c' (decide ((i : Int) = 0)) (splitS s 32) h hws hsb
 clear hrf hsb hws
 generalize lineW c (decide ((i : Int) = 0)) (splitS s 32) = r at *
 cases r with
 | none =>
  subst hG
  have e1 : outV (.inr (i + 1)) = (emptyC,((i + 1 : Nat) : Int),10) := rfl
  rw [e1]
  clear e1 hlen hrf2 hsb2
  dsimp only [Option.getD_none,Option.isSome_none] at hL
  obtain ⟨room,lease,bl,en⟩ := c
  dsimp only [pcs4] at hL ⊢
  rcases hcond with ⟨di,di2,dt⟩ | ⟨di,di2,dt⟩ | ⟨di,di2,dt⟩
  all_goals
   rw [di] at hL
   refine srun_sound 300 _ _ _ _ ?_
   repeat' (first
    | (simp -implicitDefEqProofs only [*,zr,Nat.reduceAdd,Nat.reduceSub,Nat.reduceMul,Nat.reduceLT,Nat.reduceLeDiff,Nat.reduceEqDiff,Nat.reduceBEq,reduceIte,reduceCtorEq,Int.reduceLE,Int.reduceLT,Int.reduceToNat,Int.reduceEq,Int.reduceNe])
    | ((first|apply zk0|apply zk1|apply zk2|apply zk3|apply zk4|apply zk5|apply zk6|apply zk7|apply zk8|apply zk9) <;> intro hc)
    |(refine callP0 rfl ?_)
    |(refine callD0 rfl ?_)
    |(refine cP (hcut) ?_)
    |(refine cD (hcut) ?_)
    |(refine cF (hcut) ?_)
    | fail)
   refine gP hL 5 1 [.f (.int .i64 room),.f (.int .i64 lease),.sl 80000 1 5 0 bl.length,.sl 81000 1 3 0 en.length] [] [.f (.str s),.f (.bool _)] ?_
   repeat' (first
    | (simp -implicitDefEqProofs only [*,zr,Nat.reduceAdd,Nat.reduceSub,Nat.reduceMul,Nat.reduceLT,Nat.reduceLeDiff,Nat.reduceEqDiff,Nat.reduceBEq,reduceIte,reduceCtorEq,Int.reduceLE,Int.reduceLT,Int.reduceToNat,Int.reduceEq,Int.reduceNe])
    | ((first|apply zk0|apply zk1|apply zk2|apply zk3|apply zk4|apply zk5|apply zk6|apply zk7|apply zk8|apply zk9) <;> intro hc)
    |(refine callP0 rfl ?_)
    |(refine callD0 rfl ?_)
    | fail)
   exact endZ
 | some c' =>
  have hlen := hlen c' rfl
  have hrf2 := hide (hrf2 c' rfl)
  have hsb2 := hide (hsb2 c' rfl)
  dsimp only [Option.getD_some,Option.isSome_some] at hL hG
  obtain ⟨room,lease,bl,en⟩ := c
  obtain ⟨room2,lease2,bl2,en2⟩ := c'
  dsimp only [pcs4] at hL hlen hbl hel ⊢
  rcases hcond with ⟨di,di2,dt⟩ | ⟨di,di2,dt⟩ | ⟨di,di2,dt⟩
  all_goals
   rw [di] at hL
   refine srun_sound 300 _ _ _ _ ?_
   replace hG := hide hG
   repeat' (first
    | (simp -implicitDefEqProofs only [*,zr,Nat.reduceAdd,Nat.reduceSub,Nat.reduceMul,Nat.reduceLT,Nat.reduceLeDiff,Nat.reduceEqDiff,Nat.reduceBEq,reduceIte,reduceCtorEq,Int.reduceLE,Int.reduceLT,Int.reduceToNat,Int.reduceEq,Int.reduceNe])
    | ((first|apply zk0|apply zk1|apply zk2|apply zk3|apply zk4|apply zk5|apply zk6|apply zk7|apply zk8|apply zk9) <;> intro hc)
    |(refine callP0 rfl ?_)
    |(refine callD0 rfl ?_)
    |(refine cP (hcut) ?_)
    |(refine cD (hcut) ?_)
    |(refine cF (hcut) ?_)
    | fail)
   refine gP hL 5 1 [.f (.int .i64 room),.f (.int .i64 lease),.sl 80000 1 5 0 bl.length,.sl 81000 1 3 0 en.length] [] [.f (.str s),.f (.bool _)] ?_
   repeat' (first
    | (simp -implicitDefEqProofs only [*,zr,Nat.reduceAdd,Nat.reduceSub,Nat.reduceMul,Nat.reduceLT,Nat.reduceLeDiff,Nat.reduceEqDiff,Nat.reduceBEq,reduceIte,reduceCtorEq,Int.reduceLE,Int.reduceLT,Int.reduceToNat,Int.reduceEq,Int.reduceNe])
    | ((first|apply zk0|apply zk1|apply zk2|apply zk3|apply zk4|apply zk5|apply zk6|apply zk7|apply zk8|apply zk9) <;> intro hc)
    |(refine callP0 rfl ?_)
    |(refine callD0 rfl ?_)
    | fail)
   refine ⟨(i + 1,(room2,lease2,bl2,en2),rest),[(35,80000),(1035,81000)],⟨?_,?_,?_,?_,hrf2.out,hsb2.out⟩,?_,rfl,?_⟩
   ·dsimp only
    rw [show t0.size + 1 - (i + 1) = t0.size - i by omega]
    exact hG.out
   ·dsimp only;omega
   ·dsimp only;omega
   ·dsimp only;omega
   ·dsimp only;omega
   ·refine wk_i ?_ ?_ <;> simp only [zw,Nat.reduceEqDiff,Nat.reduceBEq,Nat.reduceLT,Nat.reduceLeDiff,reduceIte,reduceCtorEq]
theorem ReadR_z (t0 : ByteArray) : FRet Tryz.prog 7 [.f (.str t0)] [.agg (rcCache (readV t0).1),.c (.v (.int .i64 (readV t0).2.1)),.c (.v (.int .i64 (readV t0).2.2))] :=
 (ReadR_f t0).frz2 ⟨⟨rfl,rfl,rcF_row0 (fun _ => rfl),rcF_row0 (fun _ => rfl),trivial⟩,rfl,rfl,trivial⟩
end Go.Proofs.YthniagdphhcnkaaGreatDoor
