/-
  cache.Text. No statement of the seat is proved here; no conditions.
-/
import Derived.Test.YthniagdphhcnkaaGreatDoorTxP
namespace Go.Proofs.YthniagdphhcnkaaGreatDoor
open Go.RowKit Go.Shelf
set_option linter.unusedVariables false
set_option linter.unusedSimpArgs false
set_option maxRecDepth 100000

section
variable {P : Program} {R : Env → Heap → Prop} {Λ : Lams} {k : List It} {env : Env} {H : Heap} {d : Nat} {f : Operand} {args : List Operand} {g : Option (Nat × Bool)} {los : List LO} {fid : FuncId} {args' : List AV} {rs : List RS}
theorem cPm (m : Nat) (hF : FRet P fid args' rs) (h : srun P R m Λ (.ops los :: k) (putE env (some d) (oneOrTup (putS d 0 rs))) (putHs d 0 rs H)) (hfree : ∀ j,j < nextSs 0 rs → H (d + 1000 * j) = (0,none)) (hg : gd g env = some true := by rfl) (hfn : evA env f = .f (.fn (.func fid)) := by rfl) (ha : LeL (args.map (evA env)) args' := by exact LeL.refl _) (hp : args'.all AV.pure = true := by rfl) : Ax P R Λ (.ops (⟨some d,.call f args,g⟩ :: los) :: k) env H :=
 ax_call (f := f) (args := args) rfl hg (Q := fun r H' => r = oneOrTup (putS d 0 rs) ∧ H' = putHs d 0 rs H) (by rw [hfn];exact (call_p (t := d) hF hp hfree).le ha) fun v H' hq => by obtain ⟨h1,h2⟩ := hq;subst h1 h2;exact srun_sound m _ _ _ _ h
end
theorem so_bytes {H H' : Heap} {nw : List Nat} (y : ByteArray) : SlotsOk H H' nw (bytesL y) (bytesL y) := by
 have e : bytesL y = (y.data.toList.map fun b => FV.int .u8 b.toNat).map .f := by unfold bytesL;rw [List.map_map];rfl
 rw [e]
 exact SlotsOk.fs rfl
theorem flatT_strs (l : List ByteArray) : (l.map fun s => [FV.str s]).flatten = l.map FV.str := by
 induction l with
 | nil => rfl
 | cons a l ih => rw [List.map_cons,List.flatten_cons,ih];rfl
theorem itoaB_f (n : Int) (h0 : 0 ≤ n) (h1 : n ≤ 9999999999) : FRet Tryz.prog 11 [.f (.int .i64 n)] [.c (.v (.str (itB n)))] := itoa_f n (by omega) (by omega)
set_option maxHeartbeats 4000000 in
theorem Text_bad (c : Cache) (hb : CBound c) (hk : ckCache c ≠ 0) : FRet Tryz.prog 4 [aCache c] [.c (.v (.str (TextV c).1)),.c (.v (.int .i64 (TextV c).2))] := by
 have e1 : TextV c = (⟨#[]⟩,ckCache c) := if_neg hk
 rw [e1]
 have hC := CheckCache_f isDigest_f c hb
 have d0 : decide (ckCache c = 0) = false := dec_f hk
 generalize ckCache c = q at *
 obtain ⟨room,lease,bl,en⟩ := c
 refine FCall.of_ax low_cache_Text ?_
 dsimp only [l_cache_Text,aCache] at hC ⊢
 refine srun_sound 300 _ _ _ _ ?_
 clear hk e1
 repeat' (first
  | (simp -implicitDefEqProofs only [*,zr,Nat.reduceAdd,Nat.reduceSub,Nat.reduceMul,Nat.reduceLT,Nat.reduceLeDiff,Nat.reduceEqDiff,Nat.reduceBEq,reduceIte,reduceCtorEq,Int.reduceLE,Int.reduceLT,Int.reduceToNat,Int.reduceEq,Int.reduceNe])
  | ((first|apply zk0|apply zk1|apply zk2|apply zk3|apply zk4|apply zk5|apply zk6|apply zk7|apply zk8|apply zk9) <;> intro hc)
  |(refine callP0 rfl ?_)
  |(refine callD0 rfl ?_)
  |(refine cP (hC) ?_)
  |(refine cD (hC) ?_)
  |(refine cF (hC) ?_)
  | fail)
 exact ret_vve rfl rfl
set_option maxHeartbeats 8000000 in
theorem Text_ok (c : Cache) (hb : CBound c) (hk : ckCache c = 0) : FRet Tryz.prog 4 [aCache c] [.c (.v (.str (TextV c).1)),.c (.v (.int .i64 (TextV c).2))] := by
 have e1 : TextV c = (if 2000000 < (txtB c).size then (⟨#[]⟩,2) else (txtB c,0)) := if_pos hk
 rw [e1]
 have hC := CheckCache_f isDigest_f c hb
 rw [hk] at hC
 have hO := hide (txOk_of hk)
 clear e1
 have d0 : decide ((0 : Int) = 0) = true := rfl
 have i1 := itoaB_f c.1 hO.out.room.1 hO.out.room.2
 have i2 := itoaB_f c.2.1 hO.out.lease.1 hO.out.lease.2
 have hln := line_new (wHead c) (by simp [wHead]) (by simp [wHead]) (by have := wHead_size hO.out;omega)
 refine FCall.of_ax low_cache_Text ?_
 dsimp only [l_cache_Text,aCache] at hC ⊢
 refine srun_sound 300 _ _ _ _ ?_
 simp -implicitDefEqProofs only [frBlobs,zr,Nat.reduceAdd,Nat.reduceSub,Nat.reduceMul,Nat.reduceLT,Nat.reduceLeDiff,Nat.reduceEqDiff,Nat.reduceBEq,reduceIte,reduceCtorEq,Int.reduceLE,Int.reduceLT,Int.reduceToNat,Int.reduceEq,Int.reduceNe]
 refine cPm 11 hC ?_ (fun _ h => absurd h (Nat.not_lt_zero _))
 simp -implicitDefEqProofs only [d0,zr,Nat.reduceAdd,Nat.reduceSub,Nat.reduceMul,Nat.reduceLT,Nat.reduceLeDiff,Nat.reduceEqDiff,Nat.reduceBEq,reduceIte,reduceCtorEq,Int.reduceLE,Int.reduceLT,Int.reduceToNat,Int.reduceEq,Int.reduceNe]
 refine ax_allocTy 100001 ?_
 refine srun_sound 300 _ _ _ _ ?_
 clear hC
 repeat' (first
  | (simp -implicitDefEqProofs only [*,addFp_wr,zr,Nat.reduceAdd,Nat.reduceSub,Nat.reduceMul,Nat.reduceLT,Nat.reduceLeDiff,Nat.reduceEqDiff,Nat.reduceBEq,reduceIte,reduceCtorEq,Int.reduceLE,Int.reduceLT,Int.reduceToNat,Int.reduceEq,Int.reduceNe])
  | ((first|apply zk0|apply zk1|apply zk2|apply zk3|apply zk4|apply zk5|apply zk6|apply zk7|apply zk8|apply zk9) <;> intro hc)
  |(refine callP0 rfl ?_)
  |(refine callD0 rfl ?_)
  |(refine cP (i1) ?_)
  |(refine cD (i1) ?_)
  |(refine cF (i1) ?_)
  |(refine cP (i2) ?_)
  |(refine cD (i2) ?_)
  |(refine cF (i2) ?_)
  | fail)
 refine callK2 27 1 (ws := wHead c) hln rfl rfl rfl rfl rfl rfl rfl rfl rfl rfl rfl (by rfl) rfl rfl (bldH_hi5 1 _) rfl rfl rfl rfl rfl ?_
 clear i1 i2 hln
 have e0 : lnB (wHead c) = txBl c (c.2.2.1.take 0) := rfl
 rw [e0]
 clear e0
 dsimp only [bldH]
 repeat' (first
  | (simp -implicitDefEqProofs only [*,List.length_map,zr,Nat.reduceAdd,Nat.reduceSub,Nat.reduceMul,Nat.reduceLT,Nat.reduceLeDiff,Nat.reduceEqDiff,Nat.reduceBEq,reduceIte,reduceCtorEq,Int.reduceLE,Int.reduceLT,Int.reduceToNat,Int.reduceEq,Int.reduceNe])
  | ((first|apply zk0|apply zk1|apply zk2|apply zk3|apply zk4|apply zk5|apply zk6|apply zk7|apply zk8|apply zk9) <;> intro hc)
  |(refine callP0 rfl ?_)
  |(refine callD0 rfl ?_)
  | fail)
 refine ax_loopU (S := Nat) 81 [1,5,6,7,30,31] [1] (fun s => [(32,.f (.int .i64 s))]) (fun s => [(100001,1,AObj.cells [.ptr 100001 1 0,.sl 100002 (s + 1) 1 0 (txBl c (c.2.2.1.take s)).size]),(100002,s + 1,AObj.ty (bytesL (txBl c (c.2.2.1.take s))) 5)]) (fun s => s ≤ c.2.2.1.length) (fun s => c.2.2.1.length - s) (0) [] ?_ ?_ fun s hs => ?_
 ·exact Nat.zero_le _
 ·refine wk_i ?_ ?_ <;> simp only [so_cc,zw,Nat.reduceEqDiff,Nat.reduceBEq,Nat.reduceLT,Nat.reduceLeDiff,reduceIte,reduceCtorEq]
  exact ⟨rfl,_,rfl,so_bytes _⟩
 dsimp only [cellsG]
 rcases Nat.lt_or_ge s c.2.2.1.length with hlt | hge
 ·obtain ⟨b,hb⟩ := get_some hlt
  have hbm := List.mem_of_getElem? hb
  have h4 := inc64 hlt (by have := hO.out.blen;omega)
  have h2 := lt_t hlt
  obtain ⟨_,g1,g2,g3,g4⟩ := hO.out.bl b hbm
  have i1 := itoaB_f _ g1.1 g1.2
  have i2 := itoaB_f _ g2.1 g2.2
  have i3 := itoaB_f _ g3.1 g3.2
  have i4 := itoaB_f _ g4.1 g4.2
  have hsz := txBl_size hO.out s hs
  have hLn := line_hi (s + 1) (txBl c (c.2.2.1.take s)) (wBlob b) hsz.1 (by have := hO.out.blen;omega) (by simp [wBlob]) (by simp [wBlob]) (by have := wBlob_size hO.out hbm;omega)
  have hsn := txBl_snoc (c := c) hb
  rw [← hsn] at hLn
  have hb5 := bldH_hi5 (s + 1) (txBl c (c.2.2.1.take s))
  have hb6 := bldH_hi5 (s + 1 + 1) (txBl c (c.2.2.1.take (s + 1)))
  clear g1 g2 g3 g4 hsn hsz
  generalize txBl c (c.2.2.1.take s) = T at *
  generalize hT2 : txBl c (c.2.2.1.take (s + 1)) = T2 at *
  replace hT2 := hide hT2
  obtain ⟨d,b1,b2,b3,b4⟩ := b
  refine srun_sound 300 _ _ _ _ ?_
  repeat' (first
   | (simp -implicitDefEqProofs only [*,addFp_wr,List.getElem?_map,Option.map_some,fBlob,zr,Nat.reduceAdd,Nat.reduceSub,Nat.reduceMul,Nat.reduceLT,Nat.reduceLeDiff,Nat.reduceEqDiff,Nat.reduceBEq,reduceIte,reduceCtorEq,Int.reduceLE,Int.reduceLT,Int.reduceToNat,Int.reduceEq,Int.reduceNe])
   | ((first|apply zk0|apply zk1|apply zk2|apply zk3|apply zk4|apply zk5|apply zk6|apply zk7|apply zk8|apply zk9) <;> intro hc)
   |(refine callP0 rfl ?_)
   |(refine callD0 rfl ?_)
   |(refine cP (i1) ?_)
   |(refine cD (i1) ?_)
   |(refine cF (i1) ?_)
   |(refine cP (i2) ?_)
   |(refine cD (i2) ?_)
   |(refine cF (i2) ?_)
   |(refine cP (i3) ?_)
   |(refine cD (i3) ?_)
   |(refine cF (i3) ?_)
   |(refine cP (i4) ?_)
   |(refine cD (i4) ?_)
   |(refine cF (i4) ?_)
   | fail)
  refine callK2 55 1 (ws := wBlob (d,b1,b2,b3,b4)) hLn rfl rfl rfl rfl rfl rfl rfl rfl rfl rfl rfl rfl rfl hb5 hb6 rfl rfl rfl rfl rfl ?_
  clear i1 i2 i3 i4 hLn hb5 hb6
  dsimp only [bldH]
  repeat' (first
   | (simp -implicitDefEqProofs only [*,zr,Nat.reduceAdd,Nat.reduceSub,Nat.reduceMul,Nat.reduceLT,Nat.reduceLeDiff,Nat.reduceEqDiff,Nat.reduceBEq,reduceIte,reduceCtorEq,Int.reduceLE,Int.reduceLT,Int.reduceToNat,Int.reduceEq,Int.reduceNe])
   | ((first|apply zk0|apply zk1|apply zk2|apply zk3|apply zk4|apply zk5|apply zk6|apply zk7|apply zk8|apply zk9) <;> intro hc)
   |(refine callP0 rfl ?_)
   |(refine callD0 rfl ?_)
   | fail)
  refine ⟨s + 1,hlt,by omega,?_⟩
  rw [hT2.out]
  refine wk_i ?_ ?_ <;> simp only [so_cc,zw,Nat.reduceEqDiff,Nat.reduceBEq,Nat.reduceLT,Nat.reduceLeDiff,reduceIte,reduceCtorEq]
  exact ⟨_,rfl,so_bytes _⟩
 ·obtain rfl : s = c.2.2.1.length := by omega
  have h2 := lt_f hge
  have e0 : txBl c (c.2.2.1.take c.2.2.1.length) = txEn c (c.2.2.2.take 0) := by rw [List.take_length];rfl
  rw [e0]
  obtain ⟨N,hN⟩ : ∃ N,c.2.2.1.length + 1 = N := ⟨_,rfl⟩
  rw [hN]
  clear hN e0 hge hs
  refine srun_sound 300 _ _ _ _ ?_
  repeat' (first
   | (simp -implicitDefEqProofs only [*,frEntries,List.length_map,zr,Nat.reduceAdd,Nat.reduceSub,Nat.reduceMul,Nat.reduceLT,Nat.reduceLeDiff,Nat.reduceEqDiff,Nat.reduceBEq,reduceIte,reduceCtorEq,Int.reduceLE,Int.reduceLT,Int.reduceToNat,Int.reduceEq,Int.reduceNe])
   | ((first|apply zk0|apply zk1|apply zk2|apply zk3|apply zk4|apply zk5|apply zk6|apply zk7|apply zk8|apply zk9) <;> intro hc)
   |(refine callP0 rfl ?_)
   |(refine callD0 rfl ?_)
   | fail)
  refine ax_loopU (S := Nat) 81 [5,6,7,59,60] [] (fun s => [(61,.f (.int .i64 s))]) (fun s => [(100001,1,AObj.cells [.ptr 100001 1 0,.sl 100002 (N + s) 1 0 (txEn c (c.2.2.2.take s)).size]),(100002,N + s,AObj.ty (bytesL (txEn c (c.2.2.2.take s))) 5)]) (fun s => s ≤ c.2.2.2.length) (fun s => c.2.2.2.length - s) (0) [] ?_ ?_ fun s hs => ?_
  ·exact Nat.zero_le _
  ·refine wk_i ?_ ?_ <;> simp only [so_cc,zw,Nat.reduceEqDiff,Nat.reduceBEq,Nat.reduceLT,Nat.reduceLeDiff,reduceIte,reduceCtorEq]
   exact ⟨rfl,_,rfl,so_bytes _⟩
  dsimp only [cellsG]
  clear h2
  rcases Nat.lt_or_ge s c.2.2.2.length with hlt | hge
  ·obtain ⟨b,hb⟩ := get_some hlt
   have hbm := List.mem_of_getElem? hb
   have h4 := inc64 hlt (by have := hO.out.elen;omega)
   have h2 := lt_t hlt
   obtain ⟨_,g1,g2,_⟩ := hO.out.en b hbm
   have i1 := itoaB_f _ g1.1 g1.2
   have hsz := txEn_size hO.out s hs
   have hLn := line_hi (N + s) (txEn c (c.2.2.2.take s)) (wEnt b) hsz.1 (by have := hO.out.elen;omega) (by simp [wEnt]) (by simp [wEnt];omega) (by have := wEnt_size hO.out hbm;omega)
   have hsn := txEn_snoc (c := c) hb
   rw [← hsn] at hLn
   have hb5 := bldH_hi5 (N + s) (txEn c (c.2.2.2.take s))
   have hb6 := bldH_hi5 (N + s + 1) (txEn c (c.2.2.2.take (s + 1)))
   have h8 : ((3 + b.2.1.length) * 16 ≤ 140737488355328) = True := by rw [eq_iff_iff,iff_true];omega
   clear g1 g2 hsn hsz
   generalize txEn c (c.2.2.2.take s) = T at *
   generalize hT2 : txEn c (c.2.2.2.take (s + 1)) = T2 at *
   replace hT2 := hide hT2
   obtain ⟨d,rf,b1⟩ := b
   refine srun_sound 300 _ _ _ _ ?_
   repeat' (first
    | (simp -implicitDefEqProofs only [*,addFp_wr,List.getElem?_map,Option.map_some,fEntry,frStrs,List.length_map,zr,Nat.reduceAdd,Nat.reduceSub,Nat.reduceMul,Nat.reduceLT,Nat.reduceLeDiff,Nat.reduceEqDiff,Nat.reduceBEq,reduceIte,reduceCtorEq,Int.reduceLE,Int.reduceLT,Int.reduceToNat,Int.reduceEq,Int.reduceNe])
    | ((first|apply zk0|apply zk1|apply zk2|apply zk3|apply zk4|apply zk5|apply zk6|apply zk7|apply zk8|apply zk9) <;> intro hc)
    |(refine callP0 rfl ?_)
    |(refine callD0 rfl ?_)
    |(refine cP (i1) ?_)
    |(refine cD (i1) ?_)
    |(refine cF (i1) ?_)
    | fail)
   have hwl : 3 + rf.length = (wEnt (d,rf,b1)).length := by simp [wEnt];omega
   have hfl := flatT_strs rf
   refine callK2 72 2 (ws := wEnt (d,rf,b1)) hLn rfl rfl (by rw [← hwl];rfl) rfl (by
    show (2,some (AObj.cells (_ :: _ :: _ :: (rf.map fun s => [FV.str s]).flatten.map .f))) = _
    rw [hfl];rfl) rfl rfl rfl rfl rfl rfl rfl rfl hb5 hb6 rfl rfl rfl rfl rfl ?_
   clear i1 hLn hb5 hb6
   dsimp only [bldH]
   repeat' (first
    | (simp -implicitDefEqProofs only [*,zr,Nat.reduceAdd,Nat.reduceSub,Nat.reduceMul,Nat.reduceLT,Nat.reduceLeDiff,Nat.reduceEqDiff,Nat.reduceBEq,reduceIte,reduceCtorEq,Int.reduceLE,Int.reduceLT,Int.reduceToNat,Int.reduceEq,Int.reduceNe])
    | ((first|apply zk0|apply zk1|apply zk2|apply zk3|apply zk4|apply zk5|apply zk6|apply zk7|apply zk8|apply zk9) <;> intro hc)
    |(refine callP0 rfl ?_)
    |(refine callD0 rfl ?_)
    | fail)
   refine ⟨s + 1,hlt,by omega,?_⟩
   rw [hT2.out]
   refine wk_i ?_ ?_ <;> simp only [so_cc,zw,Nat.reduceEqDiff,Nat.reduceBEq,Nat.reduceLT,Nat.reduceLeDiff,reduceIte,reduceCtorEq]
   exact ⟨_,rfl,so_bytes _⟩
  ·obtain rfl : s = c.2.2.2.length := by omega
   have h2 := lt_f hge
   have e0 : txEn c (c.2.2.2.take c.2.2.2.length) = txtB c := by rw [List.take_length];rfl
   have hsz := txEn_size hO.out c.2.2.2.length (Nat.le_refl _)
   rw [e0] at hsz ⊢
   have hel := hO.out.elen
   clear e0 hge hs hO
   have hLen := len_hi (N + c.2.2.2.length) (txtB c)
   have hStr := string_hi (N + c.2.2.2.length) (txtB c) hsz.1
   have hb5 := bldH_hi (N + c.2.2.2.length) (txtB c)
   generalize txtB c = T at *
   generalize N + c.2.2.2.length = V at *
   dsimp only [bldH] at hLen hStr hb5
   generalize hY : bytesL T = Y at *
   refine srun_sound 300 _ _ _ _ ?_
   repeat' (first
    | (simp -implicitDefEqProofs only [*,zr,Nat.reduceAdd,Nat.reduceSub,Nat.reduceMul,Nat.reduceLT,Nat.reduceLeDiff,Nat.reduceEqDiff,Nat.reduceBEq,reduceIte,reduceCtorEq,Int.reduceLE,Int.reduceLT,Int.reduceToNat,Int.reduceEq,Int.reduceNe])
    | ((first|apply zk0|apply zk1|apply zk2|apply zk3|apply zk4|apply zk5|apply zk6|apply zk7|apply zk8|apply zk9) <;> intro hc)
    |(refine callP0 rfl ?_)
    |(refine callD0 rfl ?_)
    | fail)
   refine callHi rfl hLen rfl rfl (hi_mk (small_mk rfl) rfl rfl rfl rfl rfl rfl) (by rintro r hl' ⟨rfl,rfl⟩;exact ⟨rfl,hb5⟩) hb5 rfl ?_
   rintro r hl' ⟨rfl,rfl⟩
   by_cases hbig : 2000000 < T.size
   ·have d1 : decide ((T.size : Int) > 2000000) = true := dec_t (by omega)
    have d2 : decide ((2000000 : Int) < T.size) = true := d1
    rw [if_pos hbig]
    replace hbig := hide hbig
    clear hStr hLen hb5 hsz
    refine srun_sound 300 _ _ _ _ ?_
    repeat' (first
     | (simp -implicitDefEqProofs only [*,mixH_at,zr,Nat.reduceAdd,Nat.reduceSub,Nat.reduceMul,Nat.reduceLT,Nat.reduceLeDiff,Nat.reduceEqDiff,Nat.reduceBEq,reduceIte,reduceCtorEq,Int.reduceLE,Int.reduceLT,Int.reduceToNat,Int.reduceEq,Int.reduceNe])
     | ((first|apply zk0|apply zk1|apply zk2|apply zk3|apply zk4|apply zk5|apply zk6|apply zk7|apply zk8|apply zk9) <;> intro hc)
     |(refine callP0 rfl ?_)
     |(refine callD0 rfl ?_)
     | fail)
    exact ret_vve rfl rfl
   ·have d1 : decide ((T.size : Int) > 2000000) = false := dec_f (by omega)
    have d2 : decide ((2000000 : Int) < T.size) = false := d1
    rw [if_neg hbig]
    replace hbig := hide hbig
    clear hLen hsz
    refine srun_sound 300 _ _ _ _ ?_
    repeat' (first
     | (simp -implicitDefEqProofs only [*,mixH_at,zr,Nat.reduceAdd,Nat.reduceSub,Nat.reduceMul,Nat.reduceLT,Nat.reduceLeDiff,Nat.reduceEqDiff,Nat.reduceBEq,reduceIte,reduceCtorEq,Int.reduceLE,Int.reduceLT,Int.reduceToNat,Int.reduceEq,Int.reduceNe])
     | ((first|apply zk0|apply zk1|apply zk2|apply zk3|apply zk4|apply zk5|apply zk6|apply zk7|apply zk8|apply zk9) <;> intro hc)
     |(refine callP0 rfl ?_)
     |(refine callD0 rfl ?_)
     | fail)
    refine callHi rfl hStr rfl rfl (hi_mk (small_mix (small_mk rfl)) rfl rfl rfl rfl rfl rfl) (by rintro r hl' ⟨rfl,rfl⟩;exact ⟨rfl,rfl⟩) hb5 rfl ?_
    rintro r hl' ⟨rfl,rfl⟩
    dsimp only [bldS]
    refine srun_sound 300 _ _ _ _ ?_
    repeat' (first
     | (simp -implicitDefEqProofs only [*,mixH_at,zr,Nat.reduceAdd,Nat.reduceSub,Nat.reduceMul,Nat.reduceLT,Nat.reduceLeDiff,Nat.reduceEqDiff,Nat.reduceBEq,reduceIte,reduceCtorEq,Int.reduceLE,Int.reduceLT,Int.reduceToNat,Int.reduceEq,Int.reduceNe])
     | ((first|apply zk0|apply zk1|apply zk2|apply zk3|apply zk4|apply zk5|apply zk6|apply zk7|apply zk8|apply zk9) <;> intro hc)
     |(refine callP0 rfl ?_)
     |(refine callD0 rfl ?_)
     | fail)
    exact ret_vve rfl rfl
theorem Text_f (c : Cache) (hb : CBound c) : FRet Tryz.prog 4 [aCache c] [.c (.v (.str (TextV c).1)),.c (.v (.int .i64 (TextV c).2))] := by
 by_cases hk : ckCache c = 0
 ·exact Text_ok c hb hk
 ·exact Text_bad c hb hk
end Go.Proofs.YthniagdphhcnkaaGreatDoor
