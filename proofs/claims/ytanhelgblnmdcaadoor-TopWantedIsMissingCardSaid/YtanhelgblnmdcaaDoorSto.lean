/-
  cache.store and cache.search. No statement of the seat is proved here; no conditions.
-/
import Derived.Test.YtanhelgblnmdcaaDoorPut
namespace Go.Proofs.YtanhelgblnmdcaaDoor
open Go.RowKit Go.Shelf
set_option linter.unusedVariables false
set_option linter.unusedSimpArgs false
set_option maxRecDepth 100000

theorem FRetM.cut1 {P : Program} {f : FuncId} {ri : List RS} {tl : List AV} {sz n : Nat} {ds t : List FV} (h : FRetM P f ri tl [.c (.own sz n (ds ++ t))]) (hl : n * sz ≤ ds.length) : FRetM P f ri tl [.c (.own sz n ds)] :=
 ⟨h.1,fun G Z w vs h1 h2 h3 => (h.2 G Z w vs h1 h2 h3).mono fun e w' ⟨v,r,H',G',Z',e1,⟨l,hr,hrs,hnd⟩,st,hh,hrep⟩ => by
  match l,hrs with
  | a :: l',hrs =>
   obtain ⟨k1,k2⟩ := hrs
   obtain rfl : l' = [] := k2
   have hnd2 : (idsC [a]).Nodup := by cases a <;> first | exact List.nodup_nil | simp [idsC]
   obtain ⟨H2,s2,j1,-⟩ := cut_st (pcs := [.own sz n (ds ++ t)]) (pcs2 := [.own sz n ds]) (cs := [a]) st ⟨k1,rfl⟩ ⟨rcCut_t hl,rfl⟩ hnd2
   exact ⟨v,r,H2,G',Z',e1,⟨[a],hr,⟨j1.1,rfl⟩,hnd⟩,s2,hh,hrep⟩⟩
theorem rsF_strs (L : List ByteArray) (xs : List FV) (hx : xs = L.map .str) : RsF [.c (.own 1 L.length xs)] [frStrs L] := by
 subst hx
 refine ⟨⟨L.map (fun s => [.str s]),rfl,List.length_map _,fun r hr => by obtain ⟨y,_,rfl⟩ := List.mem_map.1 hr;rfl,?_⟩,rfl⟩
 rw [List.take_of_length_le (by rw [List.length_map];omega)]
 induction L with
 | nil => rfl
 | cons x l ih => simp only [List.map_cons,List.flatten_cons,List.singleton_append];rw [← ih]
theorem cloneS_z (l : List ByteArray) (hl : l.length ≤ 1000000) : FRet Tryd.prog 21 [.f (frStrs l)] [.c (.v (frStrs l))] :=
 (cloneS_f l hl).frz (rsF_strs l _ (by simp only [rowF];induction l with
   | nil => rfl
   | cons x l ih => rw [List.map_cons,List.flatten_cons,List.map_cons,ih (by simp at hl;omega)];rfl))
theorem touch_g (room lease : Int) (bl : List Blob) (en : List Entry) (ds : List ByteArray) (at_ : Int) (uses holds : Bool) (hb : bl.length ≤ 1000000) (hr : Rising (fun b : Blob => b.1) bl) (hd : ds.length ≤ 1000000) :
  FRetP Tryd.prog 26 [.v (.int .i64 room),.v (.int .i64 lease),.own 5 bl.length (rowF fBlob bl),.own 3 en.length (rowF fEntry en)] [] [.f (frStrs ds),.f (.int .i64 at_),.f (.bool uses),.f (.bool holds)]
   [.v (.int .i64 room),.v (.int .i64 lease),.own 5 (touchL lease at_ uses holds bl ds).length (rowF fBlob (touchL lease at_ uses holds bl ds)),.own 3 en.length (rowF fEntry en)] [] := by
 have h := touch_f room lease bl en ds at_ uses holds hb hr hd
 rw [touchL_len]
 exact h
theorem delete_z (en : List Entry) (i : Nat) (hi : i < en.length) (hn : en.length ≤ 1000000) :
  FRetM Tryd.prog 47 [.c (.own 3 en.length (rowF fEntry en)),.c (.v (.int .i64 i)),.c (.v (.int .i64 (i + 1 : Nat)))] []
   [.c (.own 3 (en.take i ++ en.drop (i + 1)).length (rowF fEntry (en.take i ++ en.drop (i + 1))))] := by
 have h := delete_f en i (i + 1) (by omega) hi hn
 have e : i + (en.length - (i + 1)) = (en.take i ++ en.drop (i + 1)).length := by rw [List.length_append,List.length_take,List.length_drop];omega
 rw [e] at h
 exact h.cut1 (lenE rfl)
def oldI (en : List Entry) : Nat → Nat
 | 0 => 0
 | s + 1 => match en[s]?,en[oldI en s]? with
  | some x,some y => if x.2.2 < y.2.2 then s else oldI en s
  | _,_ => oldI en s
theorem oldI_lt {en : List Entry} (h : 0 < en.length) : ∀ s,s ≤ en.length → oldI en s < en.length
 | 0,_ => h
 | s + 1,hs => by
  have ih := oldI_lt h s (by omega)
  unfold oldI
  split
  ·split
   ·omega
   ·exact ih
  ·exact ih
def insE (en : List Entry) (e : Entry) : List Entry := en.take (eIdx en e.1) ++ e :: en.drop (eIdx en e.1)
def delE (en : List Entry) (i : Nat) : List Entry := en.take i ++ en.drop (i + 1)
theorem eIdx_le {en : List Entry} {d : ByteArray} : eIdx en d ≤ en.length := List.countP_le_length
theorem insE_len {en : List Entry} {e : Entry} : (insE en e).length = en.length + 1 := by
 have := eIdx_le (en := en) (d := e.1)
 rw [insE,List.length_append,List.length_take,List.length_cons,List.length_drop];omega
theorem delE_len {en : List Entry} {i : Nat} (h : i < en.length) : (delE en i).length = en.length - 1 := by
 rw [delE,List.length_append,List.length_take,List.length_drop];omega
theorem rising_del {en : List Entry} {i : Nat} (h : Rising (fun b : Entry => b.1) en) : Rising (fun b : Entry => b.1) (delE en i) := by
 have hp : en.Pairwise fun x y => strLt x.1 y.1 = true := by
  rw [List.pairwise_iff_getElem]
  intro i j hi hj hij
  exact h i j _ _ hij (List.getElem?_eq_getElem hi) (List.getElem?_eq_getElem hj)
 have hs : (delE en i).Sublist en := by
  have := List.take_append_drop i en
  conv => rhs;rw [← this]
  unfold delE
  refine List.Sublist.append (List.Sublist.refl _) ?_
  rw [← List.drop_drop]
  exact List.drop_sublist _ _
 have hq := List.pairwise_iff_getElem.1 (List.Pairwise.sublist hs hp)
 intro i j x y hij hx hy
 obtain ⟨h1,rfl⟩ := List.getElem?_eq_some_iff.1 hx
 obtain ⟨h2,rfl⟩ := List.getElem?_eq_some_iff.1 hy
 exact hq i j h1 h2 hij
def rAnsM (b : Bool) (m g : RC) : RS := .agg [.v (.bool b),m,g]
def rcS (l : List ByteArray) : RC := .own 1 l.length (l.map .str)
theorem plain_strs (l : List ByteArray) : [RS.c (rcS l)].all (RS.all FV.plain) = true := by
 simp [RS.all,RC.all,FV.plain,rcS]
def searchV (lease : Int) (bl : List Blob) (en : List Entry) (at_ : Int) (key : ByteArray) : List Blob × List Entry × Bool × RC := match en[eIdx en key]? with
 | some y => if hasE en key then (if missingOf bl y.2.1 = [] then (touchL lease at_ true true bl y.2.1,en.set (eIdx en key) (y.1,y.2.1,at_),true,.v .nil) else (bl,delE en (eIdx en key),false,rcS (missingOf bl y.2.1))) else (bl,en,false,.v .nil)
 | none => (bl,en,false,.v .nil)
set_option maxHeartbeats 4000000 in
theorem search_f (room lease : Int) (bl : List Blob) (en : List Entry) (e : Ev) (hb : bl.length ≤ 1000000) (hr : Rising (fun b : Blob => b.1) bl) (he : en.length ≤ 1000000) (hre : Rising (fun b : Entry => b.1) en) (hrf : ∀ x ∈ en,x.2.1.length ≤ 1000000) :
  FRetP Tryd.prog 30 [.v (.int .i64 room),.v (.int .i64 lease),.own 5 bl.length (rowF fBlob bl),.own 3 en.length (rowF fEntry en)] [] [aEv e]
   [.v (.int .i64 room),.v (.int .i64 lease),.own 5 (searchV lease bl en e.2.1 e.2.2.2.2.1).1.length (rowF fBlob (searchV lease bl en e.2.1 e.2.2.2.2.1).1),.own 3 (searchV lease bl en e.2.1 e.2.2.2.2.1).2.1.length (rowF fEntry (searchV lease bl en e.2.1 e.2.2.2.2.1).2.1)] [rAnsM (searchV lease bl en e.2.1 e.2.2.2.2.1).2.2.1 (searchV lease bl en e.2.1 e.2.2.2.2.1).2.2.2 (.v .nil)] := by
 obtain ⟨kind,at_,dg,ds,key,size⟩ := e
 dsimp only
 refine FCall.of_ax low_cache_search ?_
 dsimp only [l_cache_search,aEv]
 have hF := entryAt_f (room,lease,bl,en) key he hre
 have hR := hide hr
 have hE := hide hre
 have hX := hide hrf
 clear hr hre hrf
 refine srun_sound 300 _ _ _ _ ?_
 repeat' (first
  | (simp -implicitDefEqProofs only [*,addFp_wr,zr,Nat.reduceAdd,Nat.reduceSub,Nat.reduceMul,Nat.reduceLT,Nat.reduceLeDiff,Nat.reduceEqDiff,Nat.reduceBEq,reduceIte,reduceCtorEq,Int.reduceLE,Int.reduceLT,Int.reduceToNat,Int.reduceEq,Int.reduceNe])
  | ((first|apply zk0|apply zk1|apply zk2|apply zk3|apply zk4|apply zk5|apply zk6|apply zk7|apply zk8|apply zk9) <;> intro hc)
  |(refine callP0 rfl ?_)
  |(refine callD0 rfl ?_)
  | fail)
 refine gDC (tl := [.str key]) hF rfl rfl ?_
 clear hF
 cases hh : hasE en key
 ·have e1 : searchV lease bl en at_ key = (bl,en,false,.v .nil) := by
   unfold searchV
   split
   ·rw [hh];rfl
   ·rfl
  rw [e1]
  repeat' (first
   | (simp -implicitDefEqProofs only [*,addFp_wr,zr,Nat.reduceAdd,Nat.reduceSub,Nat.reduceMul,Nat.reduceLT,Nat.reduceLeDiff,Nat.reduceEqDiff,Nat.reduceBEq,reduceIte,reduceCtorEq,Int.reduceLE,Int.reduceLT,Int.reduceToNat,Int.reduceEq,Int.reduceNe])
   | ((first|apply zk0|apply zk1|apply zk2|apply zk3|apply zk4|apply zk5|apply zk6|apply zk7|apply zk8|apply zk9) <;> intro hc)
   |(refine callP0 rfl ?_)
   |(refine callD0 rfl ?_)
   | fail)
  exact end_1 rfl rfl rfl (lenB rfl) (lenE rfl)
 ·obtain ⟨y,hy,hyd⟩ := hasE_at hE.out hh
  replace hyd := hide hyd
  have hyl := hX.out y (List.mem_of_getElem? hy)
  have e0 : searchV lease bl en at_ key = if missingOf bl y.2.1 = [] then (touchL lease at_ true true bl y.2.1,en.set (eIdx en key) (y.1,y.2.1,at_),true,.v .nil) else (bl,delE en (eIdx en key),false,rcS (missingOf bl y.2.1)) := by
   unfold searchV
   rw [hy]
   show (if hasE en key = true then _ else _) = _
   rw [if_pos hh]
  obtain ⟨i,hi⟩ : ∃ i,eIdx en key = i := ⟨_,rfl⟩
  rw [hi] at hy e0 ⊢
  have hlt2 := (List.getElem?_eq_some_iff.1 hy).1
  have hL := lt_t hlt2
  have c1 := row_cell (enc := fEntry) (sz := 3) (j := 1) (fun _ => rfl) hy rfl
  have hM := missing_f (room,lease,bl,en) y.2.1 hb hR.out hyl
  have hml : (missingOf bl y.2.1).length ≤ 1000000 := Nat.le_trans (missing_len bl y.2.1) hyl
  rw [e0]
  clear e0
  repeat' (first
   | (simp -implicitDefEqProofs only [*,addFp_wr,zr,Nat.reduceAdd,Nat.reduceSub,Nat.reduceMul,Nat.reduceLT,Nat.reduceLeDiff,Nat.reduceEqDiff,Nat.reduceBEq,reduceIte,reduceCtorEq,Int.reduceLE,Int.reduceLT,Int.reduceToNat,Int.reduceEq,Int.reduceNe])
   | ((first|apply zk0|apply zk1|apply zk2|apply zk3|apply zk4|apply zk5|apply zk6|apply zk7|apply zk8|apply zk9) <;> intro hc)
   |(refine callP0 rfl ?_)
   |(refine callD0 rfl ?_)
   | fail)
  refine gG hM ⟨fz_ownc rfl rfl,fz_f,trivial⟩ ?_ (hp := plain_strs _)
  clear hM
  by_cases hm : missingOf bl y.2.1 = []
  ·rw [if_pos hm,hm]
   have p2 : (i * 3 + 2 + 1 ≤ en.length * 3) = True := by rw [eq_iff_iff,iff_true];omega
   have q0 : (rowF fEntry en).length = en.length * 3 := row_len (sz := 3) (fun _ => rfl)
   have e1 := row_set1 (enc := fEntry) (sz := 3) (j := 2) (y := (y.1,y.2.1,at_)) (v := .int .i64 at_) (fun _ => rfl) hy (by omega) rfl
   rw [splice_1] at e1
   have hT := touch_g room lease bl (en.set i (y.1,y.2.1,at_)) y.2.1 at_ true true hb hR.out hyl
   have hsl : (en.set i (y.1,y.2.1,at_)).length = en.length := List.length_set
   rw [hsl] at hT ⊢
   generalize en.set i (y.1,y.2.1,at_) = E2 at *
   replace hsl := hide hsl
   have d3 : decide (((0 : Nat) : Int) > 0) = false := by decide
   have d4 : decide ((0 : Nat) < 0) = false := by decide
   repeat' (first
    | (simp -implicitDefEqProofs only [*,addFp_wr,zr,Nat.reduceAdd,Nat.reduceSub,Nat.reduceMul,Nat.reduceLT,Nat.reduceLeDiff,Nat.reduceEqDiff,Nat.reduceBEq,reduceIte,reduceCtorEq,Int.reduceLE,Int.reduceLT,Int.reduceToNat,Int.reduceEq,Int.reduceNe])
    | ((first|apply zk0|apply zk1|apply zk2|apply zk3|apply zk4|apply zk5|apply zk6|apply zk7|apply zk8|apply zk9) <;> intro hc)
    |(refine callP0 rfl ?_)
    |(refine callD0 rfl ?_)
    | fail)
   refine gP hT 100001 1 [.f (.int .i64 room),.f (.int .i64 lease),.sl 80000 1 5 0 bl.length,.sl 81000 1 3 0 en.length] [] [.f (frStrs y.2.1),.f (.int .i64 at_),.f (.bool true),.f (.bool true)] ?_ (hpc := ⟨rfl,rfl,.inr ⟨_,_,rfl,rfl,lenB rfl⟩,.inr ⟨_,_,rfl,rfl,lenE hsl.out⟩,rfl⟩)
   clear hT
   repeat' (first
    | (simp -implicitDefEqProofs only [*,addFp_wr,zr,Nat.reduceAdd,Nat.reduceSub,Nat.reduceMul,Nat.reduceLT,Nat.reduceLeDiff,Nat.reduceEqDiff,Nat.reduceBEq,reduceIte,reduceCtorEq,Int.reduceLE,Int.reduceLT,Int.reduceToNat,Int.reduceEq,Int.reduceNe])
    | ((first|apply zk0|apply zk1|apply zk2|apply zk3|apply zk4|apply zk5|apply zk6|apply zk7|apply zk8|apply zk9) <;> intro hc)
    |(refine callP0 rfl ?_)
    |(refine callD0 rfl ?_)
    | fail)
   exact end_1 rfl rfl rfl (lenB rfl) (lenE hsl.out)
  ·rw [if_neg hm]
   have d3 : decide (((missingOf bl y.2.1).length : Int) > 0) = true := dcT (by have : 0 < (missingOf bl y.2.1).length := List.length_pos_iff.2 hm;omega)
   have d4 : decide (0 < (missingOf bl y.2.1).length) = true := dcT (List.length_pos_iff.2 hm)
   have hD := delete_z en i hlt2 he
   have hw := inc64 hlt2 (by omega)
   repeat' (first
    | (simp -implicitDefEqProofs only [*,addFp_wr,zr,Nat.reduceAdd,Nat.reduceSub,Nat.reduceMul,Nat.reduceLT,Nat.reduceLeDiff,Nat.reduceEqDiff,Nat.reduceBEq,reduceIte,reduceCtorEq,Int.reduceLE,Int.reduceLT,Int.reduceToNat,Int.reduceEq,Int.reduceNe])
    | ((first|apply zk0|apply zk1|apply zk2|apply zk3|apply zk4|apply zk5|apply zk6|apply zk7|apply zk8|apply zk9) <;> intro hc)
    |(refine callP0 rfl ?_)
    |(refine callD0 rfl ?_)
    | fail)
   refine gM hD [.sl 81000 1 3 0 en.length,.f (.int .i64 i),.f (.int .i64 (i + 1 : Nat))] [] ?_
   clear hD
   repeat' (first
    | (simp -implicitDefEqProofs only [*,addFp_wr,zr,Nat.reduceAdd,Nat.reduceSub,Nat.reduceMul,Nat.reduceLT,Nat.reduceLeDiff,Nat.reduceEqDiff,Nat.reduceBEq,reduceIte,reduceCtorEq,Int.reduceLE,Int.reduceLT,Int.reduceToNat,Int.reduceEq,Int.reduceNe])
    | ((first|apply zk0|apply zk1|apply zk2|apply zk3|apply zk4|apply zk5|apply zk6|apply zk7|apply zk8|apply zk9) <;> intro hc)
    |(refine callP0 rfl ?_)
    |(refine callD0 rfl ?_)
    | fail)
   exact ⟨[.agg [.f (.bool false),.sl 33 1 1 0 (missingOf bl y.2.1).length,.f .nil]],[.f (.int .i64 room),.f (.int .i64 lease),.sl 80000 1 5 0 bl.length,.sl 45 1 3 0 (delE en i).length],rfl,rfl,⟨rfl,rfl,.inr ⟨80000,1,rfl,rfl,lenB rfl⟩,.inr ⟨45,1,rfl,rfl,lenE rfl⟩,rfl⟩,⟨⟨rfl,.inr ⟨33,1,rfl,rfl,by rw [List.length_map,Nat.mul_one];exact Nat.le_refl _⟩,rfl,rfl⟩,rfl⟩,by simp [idsC,idsS],by simp [idsC,idsS]⟩
def stE (en : List Entry) (e : Entry) : List Entry := if hasE en e.1 then en.set (eIdx en e.1) e else if 1000 ≤ en.length then insE (delE en (oldI en en.length)) e else insE en e
def storeV (lease : Int) (bl : List Blob) (en : List Entry) (at_ : Int) (key : ByteArray) (ds : List ByteArray) : List Blob × List Entry × Bool × RC :=
 if missingOf bl ds = [] then (touchL lease at_ true false bl ds,stE en (key,ds,at_),true,.v .nil) else (bl,en,false,rcS (missingOf bl ds))
set_option maxHeartbeats 4000000 in
theorem store_f (room lease : Int) (bl : List Blob) (en : List Entry) (e : Ev) (hb : bl.length ≤ 1000000) (hr : Rising (fun b : Blob => b.1) bl) (he : en.length ≤ 1000000) (hre : Rising (fun b : Entry => b.1) en) (hd : e.2.2.2.1.length ≤ 1000000) :
  FRetP Tryd.prog 29 [.v (.int .i64 room),.v (.int .i64 lease),.own 5 bl.length (rowF fBlob bl),.own 3 en.length (rowF fEntry en)] [] [aEv e]
   [.v (.int .i64 room),.v (.int .i64 lease),.own 5 (storeV lease bl en e.2.1 e.2.2.2.2.1 e.2.2.2.1).1.length (rowF fBlob (storeV lease bl en e.2.1 e.2.2.2.2.1 e.2.2.2.1).1),.own 3 (storeV lease bl en e.2.1 e.2.2.2.2.1 e.2.2.2.1).2.1.length (rowF fEntry (storeV lease bl en e.2.1 e.2.2.2.2.1 e.2.2.2.1).2.1)] [rAnsM (storeV lease bl en e.2.1 e.2.2.2.2.1 e.2.2.2.1).2.2.1 (storeV lease bl en e.2.1 e.2.2.2.2.1 e.2.2.2.1).2.2.2 (.v .nil)] := by
 obtain ⟨kind,at_,dg,ds,key,size⟩ := e
 dsimp only at hd ⊢
 refine FCall.of_ax low_cache_store ?_
 dsimp only [l_cache_store,aEv,frStrs]
 have hM := missing_f (room,lease,bl,en) ds hb hr hd
 have hml : (missingOf bl ds).length ≤ 1000000 := Nat.le_trans (missing_len bl ds) hd
 have hR := hide hr
 have hE := hide hre
 clear hr hre
 refine srun_sound 300 _ _ _ _ ?_
 repeat' (first
  | (simp -implicitDefEqProofs only [*,addFp_wr,zr,Nat.reduceAdd,Nat.reduceSub,Nat.reduceMul,Nat.reduceLT,Nat.reduceLeDiff,Nat.reduceEqDiff,Nat.reduceBEq,reduceIte,reduceCtorEq,Int.reduceLE,Int.reduceLT,Int.reduceToNat,Int.reduceEq,Int.reduceNe])
  | ((first|apply zk0|apply zk1|apply zk2|apply zk3|apply zk4|apply zk5|apply zk6|apply zk7|apply zk8|apply zk9) <;> intro hc)
  |(refine callP0 rfl ?_)
  |(refine callD0 rfl ?_)
  | fail)
 refine gDC (tl := [frStrs ds]) hM rfl rfl ?_ (hp := plain_strs _)
 clear hM
 by_cases hm : missingOf bl ds = []
 ·have e0 : storeV lease bl en at_ key ds = (touchL lease at_ true false bl ds,stE en (key,ds,at_),true,.v .nil) := by
   unfold storeV
   rw [if_pos hm]
  rw [e0,hm]
  clear e0
  have hT := touch_g room lease bl en ds at_ true false hb hR.out hd
  have d3 : decide (((0 : Nat) : Int) > 0) = false := by decide
  have d4 : decide ((0 : Nat) < 0) = false := by decide
  repeat' (first
   | (simp -implicitDefEqProofs only [*,addFp_wr,zr,Nat.reduceAdd,Nat.reduceSub,Nat.reduceMul,Nat.reduceLT,Nat.reduceLeDiff,Nat.reduceEqDiff,Nat.reduceBEq,reduceIte,reduceCtorEq,Int.reduceLE,Int.reduceLT,Int.reduceToNat,Int.reduceEq,Int.reduceNe])
   | ((first|apply zk0|apply zk1|apply zk2|apply zk3|apply zk4|apply zk5|apply zk6|apply zk7|apply zk8|apply zk9) <;> intro hc)
   |(refine callP0 rfl ?_)
   |(refine callD0 rfl ?_)
   | fail)
  refine gP hT 100001 1 [.f (.int .i64 room),.f (.int .i64 lease),.sl 80000 1 5 0 bl.length,.sl 81000 1 3 0 en.length] [] [.f (frStrs ds),.f (.int .i64 at_),.f (.bool true),.f (.bool false)] ?_
  clear hT
  have hBl : (touchL lease at_ true false bl ds).length ≤ 1000000 := by rw [touchL_len];exact hb
  generalize touchL lease at_ true false bl ds = B at *
  have hcl := cloneS_z ds hd
  dsimp only [frStrs] at hcl
  repeat' (first
   | (simp -implicitDefEqProofs only [*,addFp_wr,zr,Nat.reduceAdd,Nat.reduceSub,Nat.reduceMul,Nat.reduceLT,Nat.reduceLeDiff,Nat.reduceEqDiff,Nat.reduceBEq,reduceIte,reduceCtorEq,Int.reduceLE,Int.reduceLT,Int.reduceToNat,Int.reduceEq,Int.reduceNe])
   | ((first|apply zk0|apply zk1|apply zk2|apply zk3|apply zk4|apply zk5|apply zk6|apply zk7|apply zk8|apply zk9) <;> intro hc)
   |(refine callP0 rfl ?_)
   |(refine callD0 rfl ?_)
   |(refine cP (hcl) ?_)
   |(refine cD (hcl) ?_)
   |(refine cF (hcl) ?_)
   |(refine cO (hcl) ?_)
   | fail)
  refine gDC (tl := [.str key]) (entryAt_f (room,lease,B,en) key he hE.out) rfl rfl ?_
  cases hh : hasE en key
  ·have hre : (rowF fEntry en).length = en.length * 3 := row_len (sz := 3) (fun _ => rfl)
   by_cases h1 : 1000 ≤ en.length
   ·have d1 : decide ((en.length : Int) ≥ 1000) = true := dcT (by omega)
    have d2 : decide (1000 ≤ en.length) = true := dcT h1
    have e2 : stE en (key,ds,at_) = insE (delE en (oldI en en.length)) (key,ds,at_) := by
     unfold stE
     rw [if_neg (by rw [hh];simp),if_pos h1]
    rw [e2]
    clear e2
    have hpos : 0 < en.length := by omega
    replace h1 := hide h1
    repeat' (first
     | (simp -implicitDefEqProofs only [*,addFp_wr,zr,Nat.reduceAdd,Nat.reduceSub,Nat.reduceMul,Nat.reduceLT,Nat.reduceLeDiff,Nat.reduceEqDiff,Nat.reduceBEq,reduceIte,reduceCtorEq,Int.reduceLE,Int.reduceLT,Int.reduceToNat,Int.reduceEq,Int.reduceNe])
     | ((first|apply zk0|apply zk1|apply zk2|apply zk3|apply zk4|apply zk5|apply zk6|apply zk7|apply zk8|apply zk9) <;> intro hc)
     |(refine callP0 rfl ?_)
     |(refine callD0 rfl ?_)
     | fail)
    refine ax_loopU (S := Nat) 116 [0,3,4,6,64,65] [3,4,6,28,1028,100001] (fun s => [(9,.f (.int .i64 (oldI en s))),(66,.f (.int .i64 s))]) (fun s => []) (fun s => s ≤ en.length) (fun s => en.length - s) (0) [] ?_ ?_ fun s hs => ?_
    ·exact Nat.zero_le _
    ·refine wk_i ?_ ?_ <;> simp only [show oldI en 0 = 0 from rfl,zw,Nat.reduceEqDiff,Nat.reduceBEq,Nat.reduceLT,Nat.reduceLeDiff,reduceIte,reduceCtorEq]
    refine srun_sound 300 _ _ _ _ ?_
    rcases Nat.lt_or_ge s en.length with hlt | hge
    ·obtain ⟨x,hx⟩ := get_some hlt
     obtain ⟨y,hy⟩ := get_some (oldI_lt hpos s (Nat.le_of_lt hlt))
     have h4 := inc64 hlt (by omega)
     have h2 := lt_t hlt
     have hn : oldI en (s + 1) = if x.2.2 < y.2.2 then s else oldI en s := by
      rw [oldI,hx,hy]
     have hol := oldI_lt hpos s (Nat.le_of_lt hlt)
     generalize oldI en s = o at *
     have hLo := lt_t hol
     have q0 : (rowF fEntry en).length = en.length * 3 := row_len (sz := 3) (fun _ => rfl)
     have p2 : (s * 3 + 3 ≤ en.length * 3) = True := by rw [eq_iff_iff,iff_true];omega
     have g1 := row_get (enc := fEntry) (sz := 3) (fun _ => rfl) hx
     have c2 := row_cell (enc := fEntry) (sz := 3) (j := 2) (fun _ => rfl) hy rfl
     by_cases hc : x.2.2 < y.2.2
     ·have dc : decide (x.2.2 < y.2.2) = true := dcT hc
      rw [if_pos hc] at hn
      replace hc := hide hc
      replace hn := hide hn
      repeat' (first
       | (simp -implicitDefEqProofs only [*,addFp_wr,fEntry,List.map_cons,List.map_nil,zr,Nat.reduceAdd,Nat.reduceSub,Nat.reduceMul,Nat.reduceLT,Nat.reduceLeDiff,Nat.reduceEqDiff,Nat.reduceBEq,reduceIte,reduceCtorEq,Int.reduceLE,Int.reduceLT,Int.reduceToNat,Int.reduceEq,Int.reduceNe])
       | ((first|apply zk0|apply zk1|apply zk2|apply zk3|apply zk4|apply zk5|apply zk6|apply zk7|apply zk8|apply zk9) <;> intro hc)
       |(refine callP0 rfl ?_)
       |(refine callD0 rfl ?_)
       | fail)
      refine ⟨s + 1,hlt,by omega,?_⟩
      rw [hn.out]
      refine wk_i ?_ ?_ <;> simp only [zw,Nat.reduceEqDiff,Nat.reduceBEq,Nat.reduceLT,Nat.reduceLeDiff,reduceIte,reduceCtorEq]
     ·have dc : decide (x.2.2 < y.2.2) = false := dcF hc
      rw [if_neg hc] at hn
      replace hc := hide hc
      replace hn := hide hn
      repeat' (first
       | (simp -implicitDefEqProofs only [*,addFp_wr,fEntry,List.map_cons,List.map_nil,zr,Nat.reduceAdd,Nat.reduceSub,Nat.reduceMul,Nat.reduceLT,Nat.reduceLeDiff,Nat.reduceEqDiff,Nat.reduceBEq,reduceIte,reduceCtorEq,Int.reduceLE,Int.reduceLT,Int.reduceToNat,Int.reduceEq,Int.reduceNe])
       | ((first|apply zk0|apply zk1|apply zk2|apply zk3|apply zk4|apply zk5|apply zk6|apply zk7|apply zk8|apply zk9) <;> intro hc)
       |(refine callP0 rfl ?_)
       |(refine callD0 rfl ?_)
       | fail)
      refine ⟨s + 1,hlt,by omega,?_⟩
      rw [hn.out]
      refine wk_i ?_ ?_ <;> simp only [zw,Nat.reduceEqDiff,Nat.reduceBEq,Nat.reduceLT,Nat.reduceLeDiff,reduceIte,reduceCtorEq]
    ·obtain rfl : s = en.length := by omega
     have h2 := lt_f hge
     have ho := oldI_lt hpos en.length (Nat.le_refl _)
     have hD := delete_z en (oldI en en.length) ho he
     change FRetM _ _ _ _ [.c (.own 3 (delE en (oldI en en.length)).length (rowF fEntry (delE en (oldI en en.length))))] at hD
     have hel : (delE en (oldI en en.length)).length ≤ 1000000 := by rw [delE_len ho];omega
     have hER := rising_del (i := oldI en en.length) hE.out
     have hw := inc64 ho (by omega)
     generalize oldI en en.length = o at *
     generalize delE en o = E2 at *
     replace hER := hide hER
     repeat' (first
      | (simp -implicitDefEqProofs only [*,addFp_wr,zr,Nat.reduceAdd,Nat.reduceSub,Nat.reduceMul,Nat.reduceLT,Nat.reduceLeDiff,Nat.reduceEqDiff,Nat.reduceBEq,reduceIte,reduceCtorEq,Int.reduceLE,Int.reduceLT,Int.reduceToNat,Int.reduceEq,Int.reduceNe])
      | ((first|apply zk0|apply zk1|apply zk2|apply zk3|apply zk4|apply zk5|apply zk6|apply zk7|apply zk8|apply zk9) <;> intro hc)
      |(refine callP0 rfl ?_)
      |(refine callD0 rfl ?_)
      | fail)
     refine gM hD [.sl 1028 1 3 0 en.length,.f (.int .i64 o),.f (.int .i64 (o + 1 : Nat))] [] ?_
     clear hD
     repeat' (first
      | (simp -implicitDefEqProofs only [*,addFp_wr,zr,Nat.reduceAdd,Nat.reduceSub,Nat.reduceMul,Nat.reduceLT,Nat.reduceLeDiff,Nat.reduceEqDiff,Nat.reduceBEq,reduceIte,reduceCtorEq,Int.reduceLE,Int.reduceLT,Int.reduceToNat,Int.reduceEq,Int.reduceNe])
      | ((first|apply zk0|apply zk1|apply zk2|apply zk3|apply zk4|apply zk5|apply zk6|apply zk7|apply zk8|apply zk9) <;> intro hc)
      |(refine callP0 rfl ?_)
      |(refine callD0 rfl ?_)
      | fail)
     refine gDC (tl := [.str key]) (entryAt_f (room,lease,B,E2) key hel hER.out) rfl rfl ?_
     have hIl := insE_len (en := E2) (e := (key,ds,at_))
     have hI := insertE_f E2 (eIdx E2 key) (key,ds,at_) eIdx_le hel
     change FRetM _ _ _ _ [.c (.own 3 (E2.length + 1) (rowF fEntry (insE E2 (key,ds,at_))))] at hI
     rw [hIl]
     obtain ⟨j,hj⟩ : ∃ j,eIdx E2 key = j := ⟨_,rfl⟩
     rw [hj] at hI ⊢
     generalize insE E2 (key,ds,at_) = J at *
     replace hIl := hide hIl
     repeat' (first
      | (simp -implicitDefEqProofs only [*,addFp_wr,zr,Nat.reduceAdd,Nat.reduceSub,Nat.reduceMul,Nat.reduceLT,Nat.reduceLeDiff,Nat.reduceEqDiff,Nat.reduceBEq,reduceIte,reduceCtorEq,Int.reduceLE,Int.reduceLT,Int.reduceToNat,Int.reduceEq,Int.reduceNe])
      | ((first|apply zk0|apply zk1|apply zk2|apply zk3|apply zk4|apply zk5|apply zk6|apply zk7|apply zk8|apply zk9) <;> intro hc)
      |(refine callP0 rfl ?_)
      |(refine callD0 rfl ?_)
      | fail)
     refine gDM hI [.sl 92 1 3 0 E2.length,.f (.int .i64 j),.sl 111 1 3 0 1] [] ?_
     clear hI
     repeat' (first
      | (simp -implicitDefEqProofs only [*,addFp_wr,zr,Nat.reduceAdd,Nat.reduceSub,Nat.reduceMul,Nat.reduceLT,Nat.reduceLeDiff,Nat.reduceEqDiff,Nat.reduceBEq,reduceIte,reduceCtorEq,Int.reduceLE,Int.reduceLT,Int.reduceToNat,Int.reduceEq,Int.reduceNe])
      | ((first|apply zk0|apply zk1|apply zk2|apply zk3|apply zk4|apply zk5|apply zk6|apply zk7|apply zk8|apply zk9) <;> intro hc)
      |(refine callP0 rfl ?_)
      |(refine callD0 rfl ?_)
      | fail)
     exact end_1 rfl rfl rfl (lenB rfl) (lenE hIl.out)
   ·have d1 : decide ((en.length : Int) ≥ 1000) = false := dcF (by omega)
    have d2 : decide (1000 ≤ en.length) = false := dcF h1
    have e2 : stE en (key,ds,at_) = insE en (key,ds,at_) := by
     unfold stE
     rw [if_neg (by rw [hh];simp),if_neg h1]
    rw [e2]
    clear e2
    replace h1 := hide h1
    have hIl := insE_len (en := en) (e := (key,ds,at_))
    have hI := insertE_f en (eIdx en key) (key,ds,at_) eIdx_le he
    change FRetM _ _ _ _ [.c (.own 3 (en.length + 1) (rowF fEntry (insE en (key,ds,at_))))] at hI
    rw [hIl]
    obtain ⟨j,hj⟩ : ∃ j,eIdx en key = j := ⟨_,rfl⟩
    rw [hj] at hI ⊢
    generalize insE en (key,ds,at_) = J at *
    replace hIl := hide hIl
    repeat' (first
     | (simp -implicitDefEqProofs only [*,addFp_wr,zr,Nat.reduceAdd,Nat.reduceSub,Nat.reduceMul,Nat.reduceLT,Nat.reduceLeDiff,Nat.reduceEqDiff,Nat.reduceBEq,reduceIte,reduceCtorEq,Int.reduceLE,Int.reduceLT,Int.reduceToNat,Int.reduceEq,Int.reduceNe])
     | ((first|apply zk0|apply zk1|apply zk2|apply zk3|apply zk4|apply zk5|apply zk6|apply zk7|apply zk8|apply zk9) <;> intro hc)
     |(refine callP0 rfl ?_)
     |(refine callD0 rfl ?_)
     | fail)
    refine gDM hI [.sl 1028 1 3 0 en.length,.f (.int .i64 j),.sl 111 1 3 0 1] [] ?_
    clear hI
    repeat' (first
     | (simp -implicitDefEqProofs only [*,addFp_wr,zr,Nat.reduceAdd,Nat.reduceSub,Nat.reduceMul,Nat.reduceLT,Nat.reduceLeDiff,Nat.reduceEqDiff,Nat.reduceBEq,reduceIte,reduceCtorEq,Int.reduceLE,Int.reduceLT,Int.reduceToNat,Int.reduceEq,Int.reduceNe])
     | ((first|apply zk0|apply zk1|apply zk2|apply zk3|apply zk4|apply zk5|apply zk6|apply zk7|apply zk8|apply zk9) <;> intro hc)
     |(refine callP0 rfl ?_)
     |(refine callD0 rfl ?_)
     | fail)
    exact end_1 rfl rfl rfl (lenB rfl) (lenE hIl.out)
  ·obtain ⟨y,hy,hyd⟩ := hasE_at hE.out hh
   replace hyd := hide hyd
   have e2 : stE en (key,ds,at_) = en.set (eIdx en key) (key,ds,at_) := by
    unfold stE
    rw [if_pos hh]
   rw [e2]
   obtain ⟨i,hi⟩ : ∃ i,eIdx en key = i := ⟨_,rfl⟩
   rw [hi] at hy ⊢
   have hlt2 := (List.getElem?_eq_some_iff.1 hy).1
   have hL := lt_t hlt2
   have p2 : (i * 3 + 3 ≤ en.length * 3) = True := by rw [eq_iff_iff,iff_true];omega
   have q0 : (rowF fEntry en).length = en.length * 3 := row_len (sz := 3) (fun _ => rfl)
   have e1 : ((((rowF fEntry en).map AV.f).set (i * 3) (.f (.str key))).set (i * 3 + 1) (.f (.fr 1 (ds.map fun s => [FV.str s])))).set (i * 3 + 1 + 1) (.f (.int .i64 at_)) = (rowF fEntry (en.set i (key,ds,at_))).map AV.f := row_set (enc := fEntry) (sz := 3) (x := (key,ds,at_)) (fun _ => rfl) hlt2
   repeat' (first
    | (simp -implicitDefEqProofs only [*,addFp_wr,zr,Nat.reduceAdd,Nat.reduceSub,Nat.reduceMul,Nat.reduceLT,Nat.reduceLeDiff,Nat.reduceEqDiff,Nat.reduceBEq,reduceIte,reduceCtorEq,Int.reduceLE,Int.reduceLT,Int.reduceToNat,Int.reduceEq,Int.reduceNe])
    | ((first|apply zk0|apply zk1|apply zk2|apply zk3|apply zk4|apply zk5|apply zk6|apply zk7|apply zk8|apply zk9) <;> intro hc)
    |(refine callP0 rfl ?_)
    |(refine callD0 rfl ?_)
    | fail)
   exact end_1 rfl rfl rfl (lenB rfl) (lenE List.length_set)
 ·have e0 : storeV lease bl en at_ key ds = (bl,en,false,rcS (missingOf bl ds)) := by
   unfold storeV
   rw [if_neg hm]
  rw [e0]
  clear e0
  have d3 : decide (((missingOf bl ds).length : Int) > 0) = true := dcT (by have : 0 < (missingOf bl ds).length := List.length_pos_iff.2 hm;omega)
  have d4 : decide (0 < (missingOf bl ds).length) = true := dcT (List.length_pos_iff.2 hm)
  repeat' (first
   | (simp -implicitDefEqProofs only [*,addFp_wr,zr,Nat.reduceAdd,Nat.reduceSub,Nat.reduceMul,Nat.reduceLT,Nat.reduceLeDiff,Nat.reduceEqDiff,Nat.reduceBEq,reduceIte,reduceCtorEq,Int.reduceLE,Int.reduceLT,Int.reduceToNat,Int.reduceEq,Int.reduceNe])
   | ((first|apply zk0|apply zk1|apply zk2|apply zk3|apply zk4|apply zk5|apply zk6|apply zk7|apply zk8|apply zk9) <;> intro hc)
   |(refine callP0 rfl ?_)
   |(refine callD0 rfl ?_)
   | fail)
  exact ⟨[.agg [.f (.bool false),.sl 17 1 1 0 (missingOf bl ds).length,.f .nil]],[.f (.int .i64 room),.f (.int .i64 lease),.sl 80000 1 5 0 bl.length,.sl 81000 1 3 0 en.length],rfl,rfl,⟨rfl,rfl,.inr ⟨80000,1,rfl,rfl,lenB rfl⟩,.inr ⟨81000,1,rfl,rfl,lenE rfl⟩,rfl⟩,⟨⟨rfl,.inr ⟨17,1,rfl,rfl,by rw [List.length_map,Nat.mul_one];exact Nat.le_refl _⟩,rfl,rfl⟩,rfl⟩,by simp [idsC,idsS],by simp [idsC,idsS]⟩
end Go.Proofs.YtanhelgblnmdcaaDoor
