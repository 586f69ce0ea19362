/-
  cache.Read. No statement of the seat is proved here; no conditions.
-/
import Derived.Test.YthniagdphhcnkaaGreatDoorTxL
namespace Go.Proofs.YthniagdphhcnkaaGreatDoor
open Go.RowKit Go.Shelf
set_option linter.unusedVariables false
set_option linter.unusedSimpArgs false
set_option maxRecDepth 100000

def readGo : Nat → Nat → Cache → ByteArray → Cache ⊕ Nat
 | 0,i,c,t => .inr 0
 | k + 1,i,c,t => if i = 0 ∨ t ≠ ⟨#[]⟩ then (if (cutS t 10).2.2 = true then (match lineW c (decide ((i : Int) = 0)) (splitS (cutS t 10).1 32) with
   | some c' => readGo k (i + 1) c' (cutS t 10).2.1
   | none => .inr (i + 1)) else .inr (i + 1)) else .inl c
def outV : Cache ⊕ Nat → Cache × Int × Int
 | .inr n => (emptyC,n,10)
 | .inl c => if ckCache c = 0 then (c,0,0) else (emptyC,0,ckCache c)
def readV (t : ByteArray) : Cache × Int × Int := if 2000000 < t.size then (emptyC,0,2) else outV (readGo (t.size + 1) 0 emptyC t)
theorem lineW_len {c c' : Cache} {f : Bool} {w : List ByteArray} (h : lineW c f w = some c') : c'.2.2.1.length ≤ c.2.2.1.length + 1 ∧ c'.2.2.2.length ≤ c.2.2.2.length + 1 := by
 unfold lineW at h
 repeat' split at h
 all_goals first
  | cases h;done
  | (obtain rfl := Option.some.inj h;simp;done)
  | (obtain rfl := Option.some.inj h;exact ⟨Nat.le_succ _,Nat.le_succ _⟩)
theorem lineW_refs {c c' : Cache} {f : Bool} {w : List ByteArray} {N : Nat} (h : lineW c f w = some c') (hw : w.length ≤ N) (hc : ∀ e ∈ c.2.2.2,e.2.1.length ≤ N) : ∀ e ∈ c'.2.2.2,e.2.1.length ≤ N := by
 unfold lineW at h
 repeat' split at h
 all_goals first
  | cases h;done
  | (obtain rfl := Option.some.inj h;exact hc)
  | (obtain rfl := Option.some.inj h
     intro e he
     rcases List.mem_append.1 he with he | he
     ·exact hc e he
     ·obtain rfl := List.mem_singleton.1 he
      show (w.drop 3).length ≤ N
      rw [List.length_drop];omega)
theorem cut_size {t : ByteArray} {c : UInt8} (h : (cutS t c).2.2 = true) : (cutS t c).1.size + 1 + (cutS t c).2.1.size = t.size := by
 have h1 := congrArg List.length (cut_true h)
 rw [List.length_append,List.length_cons] at h1
 have e : ∀ b : ByteArray,b.data.toList.length = b.size := fun b => by simp
 rw [e,e,e] at h1
 omega
theorem cut_le (t : ByteArray) (c : UInt8) : (cutS t c).1.size ≤ t.size := by
 by_cases h : (cutS t c).2.2 = true
 ·have := cut_size h;omega
 ·unfold cutS at h ⊢
  split at h
  ·simp at h
  ·rename_i h2;rw [if_neg h2];exact Nat.le_refl _
theorem fz_own4 {H : Heap} {i1 v1 i2 v2 : Nat} {c : Cache} (h1 : cellsOf v1 (H i1) = some ((rowF fBlob c.2.2.1).map .f)) (h2 : cellsOf v2 (H i2) = some ((rowF fEntry c.2.2.2).map .f)) : FzOk H (.agg [.f (.int .i64 c.1),.f (.int .i64 c.2.1),.sl i1 v1 5 0 c.2.2.1.length,.sl i2 v2 3 0 c.2.2.2.length]) (aCache c) := by
 refine fz_so ?_
 dsimp only [aCache]
 rw [so_aa,so_cons,so_cons,so_cons,so_cons,so_nil]
 exact ⟨so_f,so_f,so_row0 (enc := fBlob) (fun _ => rfl) rfl h1 rfl,so_row0 (enc := fEntry) (fun _ => rfl) rfl h2 rfl,trivial⟩
theorem endR {H : Heap} {c : Cache} {n f : Int} {i1 v1 i2 v2 : Nat} (h1 : cellsOf v1 (H i1) = some ((rowF fBlob c.2.2.1).map .f)) (h2 : cellsOf v2 (H i2) = some ((rowF fEntry c.2.2.2).map .f)) (hne : i1 ≠ i2) :
  Rets [.agg (pcs4 c),.c (.v (.int .i64 n)),.c (.v (.int .i64 f))] (.tup [.agg [.f (.int .i64 c.1),.f (.int .i64 c.2.1),.sl i1 v1 5 0 c.2.2.1.length,.sl i2 v2 3 0 c.2.2.2.length],.f (.int .i64 n),.f (.int .i64 f)]) H :=
 ⟨[.agg [.f (.int .i64 c.1),.f (.int .i64 c.2.1),.sl i1 v1 5 0 c.2.2.1.length,.sl i2 v2 3 0 c.2.2.2.length],.f (.int .i64 n),.f (.int .i64 f)],rfl,⟨⟨rfl,rfl,.inr ⟨_,_,rfl,h1,lenB5 rfl⟩,.inr ⟨_,_,rfl,h2,lenE3 rfl⟩,rfl⟩,rfl,rfl,rfl⟩,by simp [idsC,idsS,hne]⟩
theorem endZ {H : Heap} {n f : Int} : Rets [.agg (pcs4 emptyC),.c (.v (.int .i64 n)),.c (.v (.int .i64 f))] (.tup [.agg [.f (.int .i64 0),.f (.int .i64 0),.f .nil,.f .nil],.f (.int .i64 n),.f (.int .i64 f)]) H :=
 ⟨[.agg [.f (.int .i64 0),.f (.int .i64 0),.f .nil,.f .nil],.f (.int .i64 n),.f (.int .i64 f)],rfl,⟨⟨rfl,rfl,.inl ⟨rfl,rfl,rfl⟩,.inl ⟨rfl,rfl,rfl⟩,rfl⟩,rfl,rfl,rfl⟩,by simp [idsC,idsS]⟩
set_option maxHeartbeats 8000000 in
theorem Read_f (t0 : ByteArray) : FRet Tryz.prog 6 [.f (.str t0)] [.agg (pcs4 (readV t0).1),.c (.v (.int .i64 (readV t0).2.1)),.c (.v (.int .i64 (readV t0).2.2))] := by
 refine FCall.of_ax low_cache_Read ?_
 dsimp only [l_cache_Read]
 by_cases hbig : 2000000 < t0.size
 ·have e1 : readV t0 = (emptyC,0,2) := if_pos hbig
  rw [e1]
  have d1 : decide ((2000000 : Int) < t0.size) = true := dec_t (by omega)
  have d2 : decide ((t0.size : Int) > 2000000) = true := d1
  clear e1 hbig
  refine srun_sound 300 _ _ _ _ ?_
  repeat' (first
   | (simp -implicitDefEqProofs only [*,zr,Nat.reduceAdd,Nat.reduceSub,Nat.reduceMul,Nat.reduceLT,Nat.reduceLeDiff,Nat.reduceEqDiff,Nat.reduceBEq,reduceIte,reduceCtorEq,Int.reduceLE,Int.reduceLT,Int.reduceToNat,Int.reduceEq,Int.reduceNe])
   | ((first|apply zk0|apply zk1|apply zk2|apply zk3|apply zk4|apply zk5|apply zk6|apply zk7|apply zk8|apply zk9) <;> intro hc)
   |(refine callP0 rfl ?_)
   |(refine callD0 rfl ?_)
   | fail)
  exact endZ
 have e1 : readV t0 = outV (readGo (t0.size + 1) 0 emptyC t0) := if_neg hbig
 rw [e1]
 clear e1
 have hO : ∃ o,readGo (t0.size + 1) 0 emptyC t0 = o := ⟨_,rfl⟩
 obtain ⟨o,hO⟩ := hO
 rw [hO]
 have d1 : decide ((2000000 : Int) < t0.size) = false := dec_f (by omega)
 have d2 : decide ((t0.size : Int) > 2000000) = false := d1
 have hsz : t0.size ≤ 2000000 := by omega
 clear hbig
 replace hO := hide hO
 refine srun_sound 300 _ _ _ _ ?_
 repeat' (first
  | (simp -implicitDefEqProofs only [*,zr,Nat.reduceAdd,Nat.reduceSub,Nat.reduceMul,Nat.reduceLT,Nat.reduceLeDiff,Nat.reduceEqDiff,Nat.reduceBEq,reduceIte,reduceCtorEq,Int.reduceLE,Int.reduceLT,Int.reduceToNat,Int.reduceEq,Int.reduceNe])
  | ((first|apply zk0|apply zk1|apply zk2|apply zk3|apply zk4|apply zk5|apply zk6|apply zk7|apply zk8|apply zk9) <;> intro hc)
  |(refine callP0 rfl ?_)
  |(refine callD0 rfl ?_)
  | fail)
 refine ax_loopW (S := Nat × Cache × ByteArray) 48 [2,5] [2] (fun s => [(0,.f (.str s.2.2)),(6,.f (.int .i64 s.1))]) (fun s => [(80000,1,AObj.cells ((rowF fBlob s.2.1.2.2.1).map .f)),(81000,1,AObj.cells ((rowF fEntry s.2.1.2.2.2).map .f)),(5,1,AObj.cells [.f (.int .i64 s.2.1.1),.f (.int .i64 s.2.1.2.1),.sl 80000 1 5 0 s.2.1.2.2.1.length,.sl 81000 1 3 0 s.2.1.2.2.2.length])]) (fun s => readGo (t0.size + 1 - s.1) s.1 s.2.1 s.2.2 = o ∧ s.2.2.size + s.1 ≤ t0.size ∧ s.2.1.2.2.1.length ≤ s.1 ∧ s.2.1.2.2.2.length ≤ s.1 ∧ ∀ e ∈ s.2.1.2.2.2,e.2.1.length ≤ 2000001) (fun s => t0.size + 1 - s.1) ((0,emptyC,t0)) [80000,81000] [] ?_ rfl ?_ fun s hs => ?_
 ·exact ⟨hO.out,Nat.le_refl _,Nat.le_refl _,Nat.le_refl _,fun e he => by cases he⟩
 ·refine wk_i ?_ ?_ <;> simp only [emptyC,zw,Nat.reduceEqDiff,Nat.reduceBEq,Nat.reduceLT,Nat.reduceLeDiff,reduceIte,reduceCtorEq]
  exact ⟨rfl,rfl⟩
 simp only [sws_n,swh_n]
 obtain ⟨i,c,t⟩ := s
 obtain ⟨hG,hlt,hbl,hel,hrf⟩ := hs
 dsimp only at hG hlt hbl hel hrf ⊢
 replace hO := hO.out
 clear hO
 rw [show t0.size + 1 - i = (t0.size - i) + 1 by omega,readGo] at hG
 by_cases hz : i = 0 ∨ t ≠ ⟨#[]⟩
 case neg =>
  rw [if_neg hz] at hG
  subst hG
  have di : decide ((i : Int) = 0) = false := dec_f (fun e => hz (.inl (by omega)))
  have dt : decide (t = (⟨#[]⟩ : ByteArray)) = true := dec_t (Classical.byContradiction fun e => hz (.inr e))
  have hC := CheckCache_f isDigest_f c ⟨by omega,by omega,fun e he => by have := hrf e he;omega⟩
  clear hz hlt hbl hel hrf
  obtain ⟨room,lease,bl,en⟩ := c
  dsimp only
  refine srun_sound 300 _ _ _ _ ?_
  repeat' (first
   | (simp -implicitDefEqProofs only [*,zr,Nat.reduceAdd,Nat.reduceSub,Nat.reduceMul,Nat.reduceLT,Nat.reduceLeDiff,Nat.reduceEqDiff,Nat.reduceBEq,reduceIte,reduceCtorEq,Int.reduceLE,Int.reduceLT,Int.reduceToNat,Int.reduceEq,Int.reduceNe])
   | ((first|apply zk0|apply zk1|apply zk2|apply zk3|apply zk4|apply zk5|apply zk6|apply zk7|apply zk8|apply zk9) <;> intro hc)
   |(refine callP0 rfl ?_)
   |(refine callD0 rfl ?_)
   | fail)
  refine callG rfl hC rfl ?_ (by simp [RS.all,RC.all,FV.plain]) (by first | exact free_mk rfl | exact free_mk (by simp) | (repeat (first|exact free_0 | exact free_mk rfl | exact free_mk (by simp) | refine free_upd rfl ?_ | refine free_kill ?_))) ?_
  ·exact ⟨fz_own4 (c := (room,lease,bl,en)) rfl rfl,trivial⟩
  by_cases hk : ckCache (room,lease,bl,en) = 0
  ·have e1 : outV (.inl (room,lease,bl,en)) = ((room,lease,bl,en),0,0) := if_pos hk
   rw [e1,hk]
   have z1 : decide ((0 : Int) = 0) = true := rfl
   clear hk e1 hC
   repeat' (first
    | (simp -implicitDefEqProofs only [*,zr,Nat.reduceAdd,Nat.reduceSub,Nat.reduceMul,Nat.reduceLT,Nat.reduceLeDiff,Nat.reduceEqDiff,Nat.reduceBEq,reduceIte,reduceCtorEq,Int.reduceLE,Int.reduceLT,Int.reduceToNat,Int.reduceEq,Int.reduceNe])
    | ((first|apply zk0|apply zk1|apply zk2|apply zk3|apply zk4|apply zk5|apply zk6|apply zk7|apply zk8|apply zk9) <;> intro hc)
    |(refine callP0 rfl ?_)
    |(refine callD0 rfl ?_)
    | fail)
   exact endR (c := (room,lease,bl,en)) rfl rfl (by decide)
  ·have e1 : outV (.inl (room,lease,bl,en)) = (emptyC,0,ckCache (room,lease,bl,en)) := if_neg hk
   rw [e1]
   have z1 : decide (ckCache (room,lease,bl,en) = 0) = false := dec_f hk
   clear hk e1 hC
   generalize ckCache (room,lease,bl,en) = q at *
   repeat' (first
    | (simp -implicitDefEqProofs only [*,zr,Nat.reduceAdd,Nat.reduceSub,Nat.reduceMul,Nat.reduceLT,Nat.reduceLeDiff,Nat.reduceEqDiff,Nat.reduceBEq,reduceIte,reduceCtorEq,Int.reduceLE,Int.reduceLT,Int.reduceToNat,Int.reduceEq,Int.reduceNe])
    | ((first|apply zk0|apply zk1|apply zk2|apply zk3|apply zk4|apply zk5|apply zk6|apply zk7|apply zk8|apply zk9) <;> intro hc)
    |(refine callP0 rfl ?_)
    |(refine callD0 rfl ?_)
    | fail)
   exact endZ
 rw [if_pos hz] at hG
 have hcut := cut_f1 t 10 (by omega)
 have hcs := @cut_size t 10
 have hcl := cut_le t 10
 generalize cutS t 10 = q at *
 obtain ⟨s,rest,ok⟩ := q
 dsimp only at hG hcut hcs hcl
 have hcond : (decide ((i : Int) = 0) = true) ∨ (decide ((i : Int) = 0) = false ∧ decide (t = (⟨#[]⟩ : ByteArray)) = false) := by
  by_cases hi0 : i = 0
  ·exact .inl (dec_t (by omega))
  ·exact .inr ⟨dec_f (by omega),dec_f (hz.resolve_left hi0)⟩
 clear hz
 have h4 : IntKind.i64.wrap ((i : Int) + 1) = ((i + 1 : Nat) : Int) := by rw [wrap64] <;> omega
 cases ok
 ·rw [if_neg (by decide)] at hG
  subst hG
  have e1 : outV (.inr (i + 1)) = (emptyC,((i + 1 : Nat) : Int),10) := rfl
  rw [e1]
  clear e1 hcs
  rcases hcond with di | ⟨di,dt⟩
  all_goals
   refine srun_sound 300 _ _ _ _ ?_
   repeat' (first
    | (simp -implicitDefEqProofs only [*,zr,Nat.reduceAdd,Nat.reduceSub,Nat.reduceMul,Nat.reduceLT,Nat.reduceLeDiff,Nat.reduceEqDiff,Nat.reduceBEq,reduceIte,reduceCtorEq,Int.reduceLE,Int.reduceLT,Int.reduceToNat,Int.reduceEq,Int.reduceNe])
    | ((first|apply zk0|apply zk1|apply zk2|apply zk3|apply zk4|apply zk5|apply zk6|apply zk7|apply zk8|apply zk9) <;> intro hc)
    |(refine callP0 rfl ?_)
    |(refine callD0 rfl ?_)
    |(refine cP (hcut) ?_)
    |(refine cD (hcut) ?_)
    |(refine cF (hcut) ?_)
    | fail)
   exact endZ
 rw [if_pos rfl] at hG
 have hcs := hcs rfl
 have hL := line_f c i s (by omega) (by omega) (by omega)
 have hlen := fun c' => @lineW_len c c' (decide ((i : Int) = 0)) (splitS s 32)
 have hwl : (splitS s 32).length ≤ 2000001 := by
  rw [splitS_len]
  have := Lib.countB_le (sep 32) (by show 1 ≤ 1;decide) s.size s (Nat.le_refl _)
  omega
 have hrf2 := fun c' h => @lineW_refs c c' (decide ((i : Int) = 0)) (splitS s 32) 2000001 h hwl hrf
 clear hrf
 generalize lineW c (decide ((i : Int) = 0)) (splitS s 32) = r at *
 cases r with
 | none =>
  subst hG
  have e1 : outV (.inr (i + 1)) = (emptyC,((i + 1 : Nat) : Int),10) := rfl
  rw [e1]
  clear e1 hlen hrf2
  dsimp only [Option.getD_none,Option.isSome_none] at hL
  obtain ⟨room,lease,bl,en⟩ := c
  dsimp only [pcs4] at hL ⊢
  rcases hcond with di | ⟨di,dt⟩
  all_goals
   refine srun_sound 300 _ _ _ _ ?_
   repeat' (first
    | (simp -implicitDefEqProofs only [*,zr,Nat.reduceAdd,Nat.reduceSub,Nat.reduceMul,Nat.reduceLT,Nat.reduceLeDiff,Nat.reduceEqDiff,Nat.reduceBEq,reduceIte,reduceCtorEq,Int.reduceLE,Int.reduceLT,Int.reduceToNat,Int.reduceEq,Int.reduceNe])
    | ((first|apply zk0|apply zk1|apply zk2|apply zk3|apply zk4|apply zk5|apply zk6|apply zk7|apply zk8|apply zk9) <;> intro hc)
    |(refine callP0 rfl ?_)
    |(refine callD0 rfl ?_)
    |(refine cP (hcut) ?_)
    |(refine cD (hcut) ?_)
    |(refine cF (hcut) ?_)
    | fail)
   refine gP hL 5 1 [.f (.int .i64 room),.f (.int .i64 lease),.sl 80000 1 5 0 bl.length,.sl 81000 1 3 0 en.length] [] [.f (.int .i64 i),.f (.str s)] ?_
   repeat' (first
    | (simp -implicitDefEqProofs only [*,zr,Nat.reduceAdd,Nat.reduceSub,Nat.reduceMul,Nat.reduceLT,Nat.reduceLeDiff,Nat.reduceEqDiff,Nat.reduceBEq,reduceIte,reduceCtorEq,Int.reduceLE,Int.reduceLT,Int.reduceToNat,Int.reduceEq,Int.reduceNe])
    | ((first|apply zk0|apply zk1|apply zk2|apply zk3|apply zk4|apply zk5|apply zk6|apply zk7|apply zk8|apply zk9) <;> intro hc)
    |(refine callP0 rfl ?_)
    |(refine callD0 rfl ?_)
    | fail)
   exact endZ
 | some c' =>
  have hlen := hlen c' rfl
  have hrf2 := hide (hrf2 c' rfl)
  dsimp only [Option.getD_some,Option.isSome_some] at hL hG
  obtain ⟨room,lease,bl,en⟩ := c
  obtain ⟨room2,lease2,bl2,en2⟩ := c'
  dsimp only [pcs4] at hL hlen hbl hel ⊢
  rcases hcond with di | ⟨di,dt⟩
  all_goals
   refine srun_sound 300 _ _ _ _ ?_
   replace hG := hide hG
   repeat' (first
    | (simp -implicitDefEqProofs only [*,zr,Nat.reduceAdd,Nat.reduceSub,Nat.reduceMul,Nat.reduceLT,Nat.reduceLeDiff,Nat.reduceEqDiff,Nat.reduceBEq,reduceIte,reduceCtorEq,Int.reduceLE,Int.reduceLT,Int.reduceToNat,Int.reduceEq,Int.reduceNe])
    | ((first|apply zk0|apply zk1|apply zk2|apply zk3|apply zk4|apply zk5|apply zk6|apply zk7|apply zk8|apply zk9) <;> intro hc)
    |(refine callP0 rfl ?_)
    |(refine callD0 rfl ?_)
    |(refine cP (hcut) ?_)
    |(refine cD (hcut) ?_)
    |(refine cF (hcut) ?_)
    | fail)
   refine gP hL 5 1 [.f (.int .i64 room),.f (.int .i64 lease),.sl 80000 1 5 0 bl.length,.sl 81000 1 3 0 en.length] [] [.f (.int .i64 i),.f (.str s)] ?_
   repeat' (first
    | (simp -implicitDefEqProofs only [*,zr,Nat.reduceAdd,Nat.reduceSub,Nat.reduceMul,Nat.reduceLT,Nat.reduceLeDiff,Nat.reduceEqDiff,Nat.reduceBEq,reduceIte,reduceCtorEq,Int.reduceLE,Int.reduceLT,Int.reduceToNat,Int.reduceEq,Int.reduceNe])
    | ((first|apply zk0|apply zk1|apply zk2|apply zk3|apply zk4|apply zk5|apply zk6|apply zk7|apply zk8|apply zk9) <;> intro hc)
    |(refine callP0 rfl ?_)
    |(refine callD0 rfl ?_)
    | fail)
   refine ⟨(i + 1,(room2,lease2,bl2,en2),rest),[(34,80000),(1034,81000)],⟨?_,?_,?_,?_,hrf2.out⟩,?_,rfl,?_⟩
   ·dsimp only
    rw [show t0.size + 1 - (i + 1) = t0.size - i by omega]
    exact hG.out
   ·dsimp only;omega
   ·dsimp only;omega
   ·dsimp only;omega
   ·dsimp only;omega
   ·refine wk_i ?_ ?_ <;> simp only [zw,Nat.reduceEqDiff,Nat.reduceBEq,Nat.reduceLT,Nat.reduceLeDiff,reduceIte,reduceCtorEq]
theorem Read_z (t0 : ByteArray) : FRet Tryz.prog 6 [.f (.str t0)] [.agg (rcCache (readV t0).1),.c (.v (.int .i64 (readV t0).2.1)),.c (.v (.int .i64 (readV t0).2.2))] :=
 (Read_f t0).frz2 ⟨⟨rfl,rfl,rcF_row0 (fun _ => rfl),rcF_row0 (fun _ => rfl),trivial⟩,rfl,rfl,trivial⟩
end Go.Proofs.YthniagdphhcnkaaGreatDoor
