/-
  Graphs on the machine: the order of a net. No statement of the seat is proved here; no conditions.
-/
import Derived.Test.YtagkdifaldikgaaGreatDoorGrF
import Derived.Test.YtagkdifaldikgaaGreatDoorFrz2
namespace Go.Proofs.YtagkdifaldikgaaGreatDoor
open Go.RowKit Go.Shelf
set_option linter.unusedVariables false
set_option linter.unusedSimpArgs false
set_option maxRecDepth 100000

structure NetOk (n : Nat) (D U : List (List Nat)) : Prop where
 dl : D.length = n
 ul : U.length = n
 nl : n ≤ 1000
 dr : ∀ r ∈ D,r.length ≤ 300 ∧ ∀ k ∈ r,k < n
 ur : ∀ r ∈ U,r.length ≤ 300000 ∧ ∀ k ∈ r,k < n
def fI (z : Int) : FV := .int .i64 z
theorem zeros_one (z : FV) : ∀ n : Nat,zeros n [z] = (List.replicate n z).map .f
 | 0 => rfl
 | n + 1 => by
  have := zeros_one z n
  unfold zeros at this ⊢
  rw [List.replicate_succ,List.flatten_cons,List.map_append,this,List.replicate_succ];rfl
theorem fset (L : List Int) (k : Nat) (z : Int) : ((L.map fI).map AV.f).set k (.f (.int .i64 z)) = ((L.set k z).map fI).map .f := by rw [List.map_set,List.map_set];rfl
theorem bset (L : List Bool) (k : Nat) (z : Bool) : ((L.map FV.bool).map AV.f).set k (.f (.bool z)) = ((L.set k z).map FV.bool).map .f := by rw [List.map_set,List.map_set]
def rdyIdx : List Int → List Bool → Nat
 | z :: L,b :: B => if (!b && decide (z ≤ 0)) = true then 0 else rdyIdx L B + 1
 | _,_ => 0
theorem rdyIdx_eq : ∀ {L : List Int} {B : List Bool} {i : Nat},L.length = B.length → (∀ (m : Nat) z b,m < i → L[m]? = some z → B[m]? = some b → (!b && decide (z ≤ 0)) = false) → (i = L.length ∨ ∃ z b,L[i]? = some z ∧ B[i]? = some b ∧ (!b && decide (z ≤ 0)) = true) → rdyIdx L B = i
 | [],[],i,_,_,hi => by
  rcases hi with rfl | ⟨z,b,h,_⟩
  ·rfl
  ·simp at h
 | [],b :: B,i,hl,_,_ => by cases hl
 | z :: L,[],i,hl,_,_ => by cases hl
 | z :: L,b :: B,0,hl,h,hi => by
  rcases hi with hi | ⟨z',b',h1,h2,h3⟩
  ·cases hi
  ·obtain rfl := Option.some.inj h1
   obtain rfl := Option.some.inj h2
   rw [rdyIdx,if_pos h3]
 | z :: L,b :: B,i + 1,hl,h,hi => by
  rw [rdyIdx,if_neg (by rw [h 0 z b (by omega) rfl rfl];decide),rdyIdx_eq (i := i) (by simpa using hl) (fun m z' b' hm h1 h2 => h (m + 1) z' b' (by omega) (by simpa using h1) (by simpa using h2)) ?_]
  rcases hi with hi | ⟨z',b',h1,h2,h3⟩
  ·exact .inl (by simpa using hi)
  ·exact .inr ⟨z',b',by simpa using h1,by simpa using h2,h3⟩
def decAt (L : List Int) (k : Nat) : List Int := L.set k (L.getD k 0 - 1)
theorem decAt_len (L : List Int) (k : Nat) : (decAt L k).length = L.length := by simp [decAt]
theorem decs_len : ∀ (l : List Nat) (L : List Int),(l.foldl decAt L).length = L.length
 | [],L => rfl
 | k :: l,L => by rw [List.foldl_cons,decs_len l,decAt_len]
structure OSt where
 left : List Int
 done : List Bool
 out : List Nat
def ordStep (U : List (List Nat)) (s : OSt) (i : Nat) : OSt := ⟨(U.getD i []).foldl decAt s.left,s.done.set i true,s.out ++ [i]⟩
def ordGo (U : List (List Nat)) : Nat → OSt → Option (List Nat)
 | 0,s => some s.out
 | m + 1,s => if rdyIdx s.left s.done = s.left.length then none else ordGo U m (ordStep U s (rdyIdx s.left s.done))
def lens0 (D : List (List Nat)) : List Int := D.map fun r => (r.length : Int)
def orderV (D U : List (List Nat)) : Option (List Nat) := ordGo U D.length ⟨lens0 D,List.replicate D.length false,[]⟩
structure OOk (n : Nat) (s : OSt) : Prop where
 ll : s.left.length = n
 bl : s.done.length = n
 ol : s.out.length ≤ n
 lo : ∀ z ∈ s.left,-(300000 * (s.out.length : Int)) ≤ z ∧ z ≤ 300
 oo : ∀ i ∈ s.out,i < n
theorem decAt_lo {L : List Int} {k : Nat} {a : Int} (h : ∀ z ∈ L,a ≤ z ∧ z ≤ 300) : ∀ z ∈ decAt L k,a - 1 ≤ z ∧ z ≤ 300 := fun z hz => by
 unfold decAt at hz
 by_cases hk : k < L.length
 ·rcases List.mem_or_eq_of_mem_set hz with hz | hz
  ·have := h z hz;omega
  ·have := h (L.getD k 0) (by rw [List.getD_eq_getElem?_getD,List.getElem?_eq_getElem hk];exact List.getElem_mem _)
   omega
 ·rw [List.set_eq_of_length_le (by omega)] at hz;have := h z hz;omega
theorem decs_lo : ∀ (l : List Nat) {L : List Int} {a : Int},(∀ z ∈ L,a ≤ z ∧ z ≤ 300) → ∀ z ∈ l.foldl decAt L,a - l.length ≤ z ∧ z ≤ 300
 | [],L,a,h,z,hz => by have := h z hz;simp only [List.length_nil];omega
 | k :: l,L,a,h,z,hz => by
  rw [List.foldl_cons] at hz
  have := decs_lo l (decAt_lo h) z hz
  rw [List.length_cons];omega
theorem ordStep_ok {n : Nat} {D U : List (List Nat)} {s : OSt} {i : Nat} (hN : NetOk n D U) (h : OOk n s) (hi : i < n) (ho : s.out.length < n) : OOk n (ordStep U s i) := by
 refine ⟨?_,?_,?_,fun z hz => ?_,fun k hk => ?_⟩
 ·show ((U.getD i []).foldl decAt s.left).length = n
  rw [decs_len];exact h.ll
 ·show (s.done.set i true).length = n
  rw [List.length_set];exact h.bl
 ·show (s.out ++ [i]).length ≤ n
  rw [List.length_append];simp only [List.length_cons,List.length_nil];omega
 ·have h1 := decs_lo _ h.lo z hz
  have h2 : (U.getD i []).length ≤ 300000 := by
   rw [List.getD_eq_getElem?_getD]
   cases e : U[i]? with
   | none => simp
   | some r => exact (hN.ur r (List.mem_of_getElem? e)).1
  show -(300000 * ((s.out ++ [i]).length : Int)) ≤ z ∧ z ≤ 300
  rw [List.length_append];simp only [List.length_cons,List.length_nil];omega
 ·rcases List.mem_append.1 hk with hk | hk
  ·exact h.oo k hk
  ·rw [List.mem_singleton.1 hk];exact hi
def lensTo (D : List (List Nat)) (n s : Nat) : List Int := lens0 (D.take s) ++ List.replicate (n - s) 0
theorem lensTo_len {D : List (List Nat)} {n s : Nat} (hD : D.length = n) (hs : s ≤ n) : (lensTo D n s).length = n := by
 rw [lensTo,List.length_append,lens0,List.length_map,List.length_take,List.length_replicate];omega
theorem lensTo_set {D : List (List Nat)} {n s : Nat} {r : List Nat} (hD : D.length = n) (hs : s < n) (hr : D[s]? = some r) : (lensTo D n s).set s r.length = lensTo D n (s + 1) := by
 have e : D.take (s + 1) = D.take s ++ [r] := by rw [List.take_add_one,hr];rfl
 have hl : (lens0 (D.take s)).length = s := by rw [lens0,List.length_map,List.length_take];omega
 rw [lensTo,lensTo,e,List.set_append_right _ _ (by omega),hl,Nat.sub_self,show n - s = (n - (s + 1)) + 1 by omega,List.replicate_succ,List.set_cons_zero]
 rw [show lens0 (D.take s ++ [r]) = lens0 (D.take s) ++ [(r.length : Int)] by simp [lens0],List.append_assoc];rfl
theorem lensTo_full {D : List (List Nat)} {n : Nat} (hD : D.length = n) : lensTo D n n = lens0 D := by rw [lensTo,Nat.sub_self,List.replicate_zero,List.append_nil,List.take_of_length_le (by omega)]
def ordR (o : Option (List Nat)) : FV := match o with
 | some l => frN l
 | none => .nil
def ordC (o : Option (List Nat)) : RC := match o with
 | some l => .own 1 l.length (l.map fN)
 | none => .v .nil
theorem order_o (g : Graph) (D U : List (List Nat)) (hN : NetOk g.length D U) : FRet Tryz.prog 36 [.f (fNet g D U)] [.c (ordC (orderV D U)),.c (.v (.bool (orderV D U).isSome))] := by
 have hnl := hN.nl
 have hdl := hN.dl
 have hul := hN.ul
 refine FCall.of_ax low_graph_net_order ?_
 dsimp only [l_graph_net_order,fNet,frNodes,frRows]
 refine srun_sound 300 _ _ _ _ ?_
 have k0 := le_tt (show (0 : Int) ≤ (g.length : Int) by omega)
 have k1 := le_tt (show ((g.length : Int) * ((8 : Nat) : Int)) ≤ 140737488355328 by omega)
 have k2 := le_tt (show (g.length : Int) ≤ 9223372036854775807 by omega)
 replace hN := hide hN
 repeat' (first
  | (simp -implicitDefEqProofs only [*,Int.le_refl,zr,Nat.reduceAdd,Nat.reduceSub,Nat.reduceMul,Nat.reduceLT,Nat.reduceLeDiff,Nat.reduceEqDiff,Nat.reduceBEq,reduceIte,reduceCtorEq,Int.reduceLE,Int.reduceLT,Int.reduceToNat,Int.reduceEq,Int.reduceNe])
  | ((first|apply zk0|apply zk1|apply zk2|apply zk3|apply zk4|apply zk5|apply zk6|apply zk7|apply zk8|apply zk9) <;> intro hc)
  |(refine callP0 rfl ?_)
  |(refine callD0 rfl ?_)
  | fail)
 have z0 : zeros g.length [FV.int .i64 0] = ((lensTo D g.length 0).map fI).map AV.f := by
  rw [zeros_one,lensTo];simp [lens0,fI]
 refine ax_loopU (S := Nat) 98 [0,4,21,22] [] (fun s => [(23,.f (.int .i64 s))]) (fun s => [(17,1,.cells (((lensTo D g.length s).map fI).map .f))]) (fun s => s ≤ g.length) (fun s => g.length - s) (0) [] ?_ ?_ fun s hs => ?_
 ·exact Nat.zero_le _
 ·refine wk_i ?_ ?_ <;> simp only [z0,zw,Nat.reduceEqDiff,Nat.reduceBEq,Nat.reduceLT,Nat.reduceLeDiff,reduceIte,reduceCtorEq]
 refine srun_sound 300 _ _ _ _ ?_
 clear z0
 rcases Nat.lt_or_ge s g.length with hlt | hge
 ·obtain ⟨r,hr⟩ := get_some (l := D) (i := s) (by omega)
  have h4 := inc64 hlt (by omega)
  have h2 := lt_t hlt
  have hll := lensTo_len hdl hs
  have hset := fset (lensTo D g.length s) s r.length
  rw [lensTo_set hdl hlt hr] at hset
  have hk := nle_t (show s + 1 ≤ g.length by omega)
  repeat' (first
   | (simp -implicitDefEqProofs only [*,List.getElem?_map,Option.map_some,frN,zr,Nat.reduceAdd,Nat.reduceSub,Nat.reduceMul,Nat.reduceLT,Nat.reduceLeDiff,Nat.reduceEqDiff,Nat.reduceBEq,reduceIte,reduceCtorEq,Int.reduceLE,Int.reduceLT,Int.reduceToNat,Int.reduceEq,Int.reduceNe])
   | ((first|apply zk0|apply zk1|apply zk2|apply zk3|apply zk4|apply zk5|apply zk6|apply zk7|apply zk8|apply zk9) <;> intro hc)
   |(refine callP0 rfl ?_)
   |(refine callD0 rfl ?_)
   | fail)
  refine ⟨s + 1,hlt,by omega,?_⟩
  refine wk_i ?_ ?_ <;> simp only [hset,zw,Nat.reduceEqDiff,Nat.reduceBEq,Nat.reduceLT,Nat.reduceLeDiff,reduceIte,reduceCtorEq]
 obtain rfl : s = g.length := by omega
 have h2 := lt_f hge
 rw [lensTo_full hdl]
 have k3 := le_tt (show ((g.length : Int) * ((1 : Nat) : Int)) ≤ 140737488355328 by omega)
 repeat' (first
  | (simp -implicitDefEqProofs only [*,Int.le_refl,zr,Nat.reduceAdd,Nat.reduceSub,Nat.reduceMul,Nat.reduceLT,Nat.reduceLeDiff,Nat.reduceEqDiff,Nat.reduceBEq,reduceIte,reduceCtorEq,Int.reduceLE,Int.reduceLT,Int.reduceToNat,Int.reduceEq,Int.reduceNe])
  | ((first|apply zk0|apply zk1|apply zk2|apply zk3|apply zk4|apply zk5|apply zk6|apply zk7|apply zk8|apply zk9) <;> intro hc)
  |(refine callP0 rfl ?_)
  |(refine callD0 rfl ?_)
  | fail)
 have z0 : zeros g.length [FV.bool false] = ((List.replicate g.length false).map FV.bool).map AV.f := by
  rw [zeros_one];simp
 refine ax_loopU (S := OSt) 98 [0,4,7] [] (fun s => [(8,.sl 77 1 1 0 s.out.length)]) (fun s => [(17,1,.cells ((s.left.map fI).map .f)),(39,1,.cells ((s.done.map FV.bool).map .f)),(77,1,.cells ((s.out.map fN).map .f))]) (fun s => OOk g.length s ∧ ordGo U (g.length - s.out.length) s = orderV D U) (fun s => g.length - s.out.length) (⟨lens0 D,List.replicate g.length false,[]⟩) [77] ?_ ?_ fun s hs => ?_
 ·refine ⟨⟨by simp [lens0,hdl],by simp,Nat.zero_le _,fun z hz => ?_,fun i hi => by cases hi⟩,?_⟩
  ·obtain ⟨r,hr,rfl⟩ := List.mem_map.1 hz
   have := (hN.out.dr r hr).1
   simp only [List.length_nil];omega
  ·rw [orderV,hdl];rfl
 ·refine wk_i ?_ ?_ <;> simp only [z0,zw,Nat.reduceEqDiff,Nat.reduceBEq,Nat.reduceLT,Nat.reduceLeDiff,reduceIte,reduceCtorEq]
 obtain ⟨L,B,O⟩ := s
 obtain ⟨hO,hgo⟩ := hs
 dsimp only at hO hgo ⊢
 have hOl := hO.ol
 have hLl := hO.ll
 have hBl := hO.bl
 dsimp only at hOl hLl hBl
 rcases Nat.lt_or_ge O.length g.length with hlt | hge2
 ·refine srun_sound 300 _ _ _ _ ?_
  have d1 := lt_t hlt
  clear z0
  repeat' (first
   | (simp -implicitDefEqProofs only [*,zr,Nat.reduceAdd,Nat.reduceSub,Nat.reduceMul,Nat.reduceLT,Nat.reduceLeDiff,Nat.reduceEqDiff,Nat.reduceBEq,reduceIte,reduceCtorEq,Int.reduceLE,Int.reduceLT,Int.reduceToNat,Int.reduceEq,Int.reduceNe])
   | ((first|apply zk0|apply zk1|apply zk2|apply zk3|apply zk4|apply zk5|apply zk6|apply zk7|apply zk8|apply zk9) <;> intro hc)
   |(refine callP0 rfl ?_)
   |(refine callD0 rfl ?_)
   | fail)
  refine ax_loopU (S := Nat) 98 [0,4,7,8] [17,39,77] (fun s => [(9,.f (.int .i64 s))]) (fun s => []) (fun s => s ≤ g.length ∧ ∀ (m : Nat) z b,m < s → L[m]? = some z → B[m]? = some b → (!b && decide (z ≤ 0)) = false) (fun s => g.length - s) (0) [] ?_ ?_ fun s hs => ?_
  ·exact ⟨Nat.zero_le _,fun m z b h => absurd h (Nat.not_lt_zero _)⟩
  ·refine wk_i ?_ ?_ <;> simp only [zw,Nat.reduceEqDiff,Nat.reduceBEq,Nat.reduceLT,Nat.reduceLeDiff,reduceIte,reduceCtorEq]
  obtain ⟨hi,hall⟩ := hs
  refine srun_sound 300 _ _ _ _ ?_
  rcases Nat.lt_or_ge s g.length with hlt2 | hge2
  ·obtain ⟨z,hz⟩ := get_some (l := L) (i := s) (by omega)
   obtain ⟨b,hb⟩ := get_some (l := B) (i := s) (by omega)
   have h4 := inc64 hlt2 (by omega)
   have h2 := lt_t hlt2
   have hn : ∀ (h : (!b && decide (z ≤ 0)) = false),∀ (m : Nat) z b,m < s + 1 → L[m]? = some z → B[m]? = some b → (!b && decide (z ≤ 0)) = false := fun h m z' b' hm e1 e2 => by
    rcases Nat.lt_or_ge m s with h3 | h3
    ·exact hall m z' b' h3 e1 e2
    ·obtain rfl : m = s := by omega
     rw [hz] at e1;rw [hb] at e2
     obtain rfl := Option.some.inj e1;obtain rfl := Option.some.inj e2;exact h
   cases b
   ·cases hq : decide (0 < z)
    ·have hz0 : z ≤ 0 := by have := of_decide_eq_false hq;omega
     have hR := rdyIdx_eq (i := s) (by omega) hall (.inr ⟨z,false,hz,hb,by simpa using hz0⟩)
     have he : decide ((s : Int) = (g.length : Int)) = false := dec_f (by omega)
     have he' : decide (s = g.length) = false := dec_f (by omega)
     have hsb := bset B s true
     have hk := nle_t (show s + 1 ≤ g.length by omega)
     have hk8 := nle_t (show (O.length + 1) * 8 ≤ 140737488355328 by omega)
     obtain ⟨row,hrow⟩ := get_some (l := U) (i := s) (by omega)
     replace hall := hide hall
     clear hn
     repeat' (first
      | (simp -implicitDefEqProofs only [*,List.getElem?_map,Option.map_some,fI,frN,zr,Nat.reduceAdd,Nat.reduceSub,Nat.reduceMul,Nat.reduceLT,Nat.reduceLeDiff,Nat.reduceEqDiff,Nat.reduceBEq,reduceIte,reduceCtorEq,Int.reduceLE,Int.reduceLT,Int.reduceToNat,Int.reduceEq,Int.reduceNe])
      | ((first|apply zk0|apply zk1|apply zk2|apply zk3|apply zk4|apply zk5|apply zk6|apply zk7|apply zk8|apply zk9) <;> intro hc)
      |(refine callP0 rfl ?_)
      |(refine callD0 rfl ?_)
      | fail)
     obtain ⟨i,rfl⟩ : ∃ i,i = s := ⟨_,rfl⟩
     obtain ⟨hrl,hrn⟩ := hN.out.ur row (List.mem_of_getElem? hrow)
     have hO1 : (O.map fN).map AV.f ++ [AV.f (FV.int .i64 i)] = ((O ++ [i]).map fN).map AV.f := by simp [fN]
     have hlo := hO.lo
     dsimp only at hlo
     refine ax_loopU (S := Nat) 98 [0,4,7,84,85] [] (fun s => [(8,.sl 77 1 1 0 (O.length + 1)),(86,.f (.int .i64 s))]) (fun s => [(17,1,.cells ((((row.take s).foldl decAt L).map fI).map .f)),(39,1,.cells (((B.set i true).map FV.bool).map .f)),(77,1,.cells (((O ++ [i]).map fN).map .f))]) (fun s => s ≤ row.length) (fun s => row.length - s) (0) [] ?_ ?_ fun s hs => ?_
     ·exact Nat.zero_le _
     ·refine wk_i ?_ ?_ <;> simp only [hO1,List.take_zero,List.foldl_nil,zw,Nat.reduceEqDiff,Nat.reduceBEq,Nat.reduceLT,Nat.reduceLeDiff,reduceIte,reduceCtorEq]
     refine srun_sound 300 _ _ _ _ ?_
     rcases Nat.lt_or_ge s row.length with hlt3 | hge3
     ·obtain ⟨k,hkr⟩ := get_some hlt3
      have hkn := hrn k (List.mem_of_getElem? hkr)
      have g4 := inc64 hlt3 (by omega)
      have g2 := lt_t hlt3
      have hl1 : ((row.take s).foldl decAt L).length = g.length := by rw [decs_len];exact hLl
      have hb1 := decs_lo (row.take s) hlo
      have ht : (row.take (s + 1)).foldl decAt L = decAt ((row.take s).foldl decAt L) k := by rw [List.take_add_one,hkr,List.foldl_append];rfl
      have htl : (row.take s).length ≤ row.length := by rw [List.length_take];omega
      generalize (row.take s).foldl decAt L = L1 at *
      obtain ⟨y,hy⟩ := get_some (l := L1) (i := k) (by omega)
      have hyb := hb1 y (List.mem_of_getElem? hy)
      have hw : IntKind.i64.wrap (y - 1) = y - 1 := by rw [wrap64] <;> omega
      have hst := fset L1 k (y - 1)
      rw [decAt,show L1.getD k 0 = y by rw [List.getD_eq_getElem?_getD,hy];rfl] at ht
      have hk3 := nle_t (show k + 1 ≤ g.length by omega)
      have hk4 : decide (k < g.length) = true := dec_t hkn
      replace hall := hide hall
      replace hlo := hide hlo
      replace hb1 := hide hb1
      repeat' (first
       | (simp -implicitDefEqProofs only [*,List.getElem?_map,Option.map_some,fI,fN,zr,Nat.reduceAdd,Nat.reduceSub,Nat.reduceMul,Nat.reduceLT,Nat.reduceLeDiff,Nat.reduceEqDiff,Nat.reduceBEq,reduceIte,reduceCtorEq,Int.reduceLE,Int.reduceLT,Int.reduceToNat,Int.reduceEq,Int.reduceNe])
       | ((first|apply zk0|apply zk1|apply zk2|apply zk3|apply zk4|apply zk5|apply zk6|apply zk7|apply zk8|apply zk9) <;> intro hc)
       |(refine callP0 rfl ?_)
       |(refine callD0 rfl ?_)
       | fail)
      refine ⟨s + 1,hlt3,by omega,?_⟩
      rw [ht]
      refine wk_i ?_ ?_ <;> simp only [hst,zw,Nat.reduceEqDiff,Nat.reduceBEq,Nat.reduceLT,Nat.reduceLeDiff,reduceIte,reduceCtorEq]
     ·obtain rfl : s = row.length := by omega
      have g2 := lt_f hge3
      have hrt : row.take row.length = row := List.take_length
      have hso := ordStep_ok hN.out hO hlt2 hlt
      have hUi : U.getD i [] = row := by rw [List.getD_eq_getElem?_getD,hrow];rfl
      rw [ordStep,hUi] at hso
      dsimp only at hso
      rw [show g.length - O.length = (g.length - (O.length + 1)) + 1 by omega,ordGo,hR,if_neg (by dsimp only;omega),ordStep,hUi] at hgo
      dsimp only at hgo
      rw [hrt]
      replace hall := hide hall
      replace hlo := hide hlo
      replace hgo := hide hgo
      repeat' (first
       | (simp -implicitDefEqProofs only [*,zr,Nat.reduceAdd,Nat.reduceSub,Nat.reduceMul,Nat.reduceLT,Nat.reduceLeDiff,Nat.reduceEqDiff,Nat.reduceBEq,reduceIte,reduceCtorEq,Int.reduceLE,Int.reduceLT,Int.reduceToNat,Int.reduceEq,Int.reduceNe])
       | ((first|apply zk0|apply zk1|apply zk2|apply zk3|apply zk4|apply zk5|apply zk6|apply zk7|apply zk8|apply zk9) <;> intro hc)
       |(refine callP0 rfl ?_)
       |(refine callD0 rfl ?_)
       | fail)
      have hlen : (O ++ [i]).length = O.length + 1 := by simp
      refine ⟨⟨row.foldl decAt L,B.set i true,O ++ [i]⟩,⟨hso,?_⟩,?_,?_⟩
      ·dsimp only;rw [hlen];exact hgo.out
      ·dsimp only;omega
      ·dsimp only
       rw [hlen]
       refine wk_i ?_ ?_ <;> simp only [zw,Nat.reduceEqDiff,Nat.reduceBEq,Nat.reduceLT,Nat.reduceLeDiff,reduceIte,reduceCtorEq]
    ·replace hn := hn (by have := of_decide_eq_true hq;simp;omega)
     replace hn := hide hn
     replace hall := hide hall
     repeat' (first
      | (simp -implicitDefEqProofs only [*,List.getElem?_map,Option.map_some,fI,zr,Nat.reduceAdd,Nat.reduceSub,Nat.reduceMul,Nat.reduceLT,Nat.reduceLeDiff,Nat.reduceEqDiff,Nat.reduceBEq,reduceIte,reduceCtorEq,Int.reduceLE,Int.reduceLT,Int.reduceToNat,Int.reduceEq,Int.reduceNe])
      | ((first|apply zk0|apply zk1|apply zk2|apply zk3|apply zk4|apply zk5|apply zk6|apply zk7|apply zk8|apply zk9) <;> intro hc)
      |(refine callP0 rfl ?_)
      |(refine callD0 rfl ?_)
      | fail)
     refine ⟨s + 1,⟨hlt2,hn.out⟩,by omega,?_⟩
     refine wk_i ?_ ?_ <;> simp only [zw,Nat.reduceEqDiff,Nat.reduceBEq,Nat.reduceLT,Nat.reduceLeDiff,reduceIte,reduceCtorEq]
   ·replace hn := hn rfl
    replace hn := hide hn
    replace hall := hide hall
    repeat' (first
     | (simp -implicitDefEqProofs only [*,List.getElem?_map,Option.map_some,fI,zr,Nat.reduceAdd,Nat.reduceSub,Nat.reduceMul,Nat.reduceLT,Nat.reduceLeDiff,Nat.reduceEqDiff,Nat.reduceBEq,reduceIte,reduceCtorEq,Int.reduceLE,Int.reduceLT,Int.reduceToNat,Int.reduceEq,Int.reduceNe])
     | ((first|apply zk0|apply zk1|apply zk2|apply zk3|apply zk4|apply zk5|apply zk6|apply zk7|apply zk8|apply zk9) <;> intro hc)
     |(refine callP0 rfl ?_)
     |(refine callD0 rfl ?_)
     | fail)
    refine ⟨s + 1,⟨hlt2,hn.out⟩,by omega,?_⟩
    refine wk_i ?_ ?_ <;> simp only [zw,Nat.reduceEqDiff,Nat.reduceBEq,Nat.reduceLT,Nat.reduceLeDiff,reduceIte,reduceCtorEq]
  obtain rfl : s = g.length := by omega
  have hR := rdyIdx_eq (i := g.length) (by omega) hall (.inl (by omega))
  have hV : orderV D U = none := by
   rw [← hgo,show g.length - O.length = (g.length - O.length - 1) + 1 by omega,ordGo,if_pos (by show rdyIdx L B = L.length;omega)]
  rw [hV]
  have h2 := lt_f hge2
  replace hall := hide hall
  have he : decide ((g.length : Int) = (g.length : Int)) = true := dec_t rfl
  repeat' (first
   | (simp -implicitDefEqProofs only [*,zr,Nat.reduceAdd,Nat.reduceSub,Nat.reduceMul,Nat.reduceLT,Nat.reduceLeDiff,Nat.reduceEqDiff,Nat.reduceBEq,reduceIte,reduceCtorEq,Int.reduceLE,Int.reduceLT,Int.reduceToNat,Int.reduceEq,Int.reduceNe])
   | ((first|apply zk0|apply zk1|apply zk2|apply zk3|apply zk4|apply zk5|apply zk6|apply zk7|apply zk8|apply zk9) <;> intro hc)
   |(refine callP0 rfl ?_)
   |(refine callD0 rfl ?_)
   | fail)
  exact ret_vve rfl rfl
 have hOe : O.length = g.length := by omega
 rw [hOe,Nat.sub_self,ordGo] at hgo
 rw [← hgo]
 clear hgo hO z0 hOl hge2
 refine srun_sound 300 _ _ _ _ ?_
 have d1 := lt_f (Nat.le_refl g.length)
 repeat' (first
  | (simp -implicitDefEqProofs only [*,zr,Nat.reduceAdd,Nat.reduceSub,Nat.reduceMul,Nat.reduceLT,Nat.reduceLeDiff,Nat.reduceEqDiff,Nat.reduceBEq,reduceIte,reduceCtorEq,Int.reduceLE,Int.reduceLT,Int.reduceToNat,Int.reduceEq,Int.reduceNe])
  | ((first|apply zk0|apply zk1|apply zk2|apply zk3|apply zk4|apply zk5|apply zk6|apply zk7|apply zk8|apply zk9) <;> intro hc)
  |(refine callP0 rfl ?_)
  |(refine callD0 rfl ?_)
  | fail)
 exact ⟨[.sl 77 1 1 0 g.length,.f (.bool true)],rfl,⟨.inr ⟨77,1,by rw [hOe],rfl,by rw [List.length_map,Nat.mul_one];exact Nat.le_refl _⟩,rfl,rfl⟩,by simp [idsS]⟩
theorem rsF_ord (o : Option (List Nat)) (b : FV) : RsF [.c (ordC o),.c (.v b)] [ordR o,b] := by
 cases o with
 | none => exact ⟨rfl,rfl,rfl⟩
 | some l => exact ⟨⟨l.map fun n => [fN n],rfl,List.length_map _,fun r hr => by obtain ⟨y,_,rfl⟩ := List.mem_map.1 hr;rfl,by
   rw [Nat.mul_one,List.take_of_length_le (by rw [List.length_map];exact Nat.le_refl _)]
   induction l with
   | nil => rfl
   | cons a l ih => rw [List.map_cons,List.map_cons,List.flatten_cons,← ih];rfl⟩,rfl,rfl⟩
theorem order_f (g : Graph) (D U : List (List Nat)) (hN : NetOk g.length D U) : FRet Tryz.prog 36 [.f (fNet g D U)] [.c (.v (ordR (orderV D U))),.c (.v (.bool (orderV D U).isSome))] :=
 (order_o g D U hN).frz (rsF_ord _ _)
end Go.Proofs.YtagkdifaldikgaaGreatDoor
