/-
  Graphs on the machine: tree, labels, Order. No statement of the seat is proved here; no conditions.
-/
import Derived.Test.YtagkdifaldikgaaGreatDoorGrG
namespace Go.Proofs.YtagkdifaldikgaaGreatDoor
open Go.RowKit Go.Shelf
set_option linter.unusedVariables false
set_option linter.unusedSimpArgs false
set_option maxRecDepth 100000

theorem pushAt_lt {R : List (List Nat)} {k i n : Nat} (hi : i < n) (h : ∀ r ∈ R,∀ u ∈ r,u < n) : ∀ r ∈ pushAt R k i,∀ u ∈ r,u < n := fun r hr u hu => by
 unfold pushAt at hr
 rcases List.mem_or_eq_of_mem_set hr with hr | hr
 ·exact h r hr u hu
 ·subst hr
  rcases List.mem_append.1 hu with hu | hu
  ·rw [List.getD_eq_getElem?_getD] at hu
   cases e : R[k]? with
   | none => rw [e] at hu;cases hu
   | some q => rw [e] at hu;exact h q (List.mem_of_getElem? e) u hu
  ·rw [List.mem_singleton.1 hu];exact hi
theorem pushRow_lt {i n : Nat} (hi : i < n) : ∀ (l : List Nat) {U : List (List Nat)},(∀ r ∈ U,∀ u ∈ r,u < n) → ∀ r ∈ pushRow U i l,∀ u ∈ r,u < n
 | [],U,h => h
 | k :: l,U,h => by
  rw [pushRow,List.foldl_cons,← pushRow];exact pushRow_lt hi l (pushAt_lt hi h)
theorem usTo_lt {D : List (List Nat)} {n N : Nat} : ∀ i,i ≤ N → ∀ r ∈ usTo D n i,∀ u ∈ r,u < N
 | 0,_,r,hr,u,hu => by rw [usTo] at hr;rw [(List.mem_replicate.1 hr).2] at hu;cases hu
 | i + 1,h,r,hr,u,hu => by rw [usTo] at hr;exact pushRow_lt (by omega) _ (usTo_lt i (by omega)) r hr u hu
theorem ret_vvve {x y z x' y' z' : FV} {H : Heap} (h : x' = x) (h' : y' = y) (h'' : z' = z) : Rets [.c (.v x),.c (.v y),.c (.v z)] (.tup [.f x',.f y',.f z']) H := by subst h h' h'';exact ⟨[_,_,_],rfl,⟨rfl,rfl,rfl,rfl⟩,List.nodup_nil⟩
theorem frStrs_eq (l : List ByteArray) : frStrs l = .fr 1 ((l.map FV.str).map fun x => [x]) := by unfold frStrs;rw [List.map_map];rfl
structure GOk (g : Graph) : Prop where
 len : g.length ≤ 1000
 rising : Rising (fun b : Node => b.1) g
 nodes : ∀ n ∈ g,ckNode n = 0
 deps : depsOk g = true
theorem gok_of {g : Graph} (h : opErr g = 0) : GOk g := by
 unfold opErr at h
 split at h
 ·cases h
 split at h
 ·rename_i h1 h2;exact absurd h h2
 rename_i h1 h2
 have hz : ∀ m,m < g.length → grErr g m = 0 := fun m hm => fe_zero (by simpa using h2) m hm
 split at h
 ·rename_i h3
  exact ⟨by omega,nodes_rising hz,nodes_ok hz,h3⟩
 ·cases h
def usersOf (g : Graph) : List (List Nat) := usTo (allDeps g) g.length g.length
theorem allDeps_ok {g : Graph} (h : GOk g) : ∀ r ∈ allDeps g,r.length ≤ 300 ∧ ∀ k ∈ r,k < g.length := fun r hr => by
 obtain ⟨n,hn,rfl⟩ := List.mem_map.1 hr
 refine ⟨by rw [depsOf,List.length_map];exact ck_deps (h.nodes n hn),fun k hk => ?_⟩
 obtain ⟨t,ht,rfl⟩ := List.mem_map.1 hk
 exact nIdx_lt h.rising (List.all_eq_true.1 (List.all_eq_true.1 h.deps n hn) t ht)
theorem net_ok {g : Graph} (h : GOk g) : NetOk g.length (allDeps g) (usersOf g) := by
 refine ⟨by simp [allDeps],usTo_len _ _ _,h.len,allDeps_ok h,fun r hr => ⟨?_,usTo_lt _ (Nat.le_refl _) r hr⟩⟩
 have := usTo_rows (fun r hr => (allDeps_ok h r hr).1) _ r hr
 have := h.len
 omega
def orderOf (g : Graph) : Option (List Nat) := orderV (allDeps g) (usersOf g)
def treeErr (g : Graph) : Int := if opErr g ≠ 0 then opErr g else if (orderOf g).isSome = true then 0 else 17
theorem tree_f (g : Graph) (hb : GBound g) : FRet Tryz.prog 22 [.f (frNodes g)] [.c (.v (if treeErr g = 0 then netOf g else nilP)),.c (.v (if treeErr g = 0 then ordR (orderOf g) else .nil)),.c (.v (.int .i64 (treeErr g)))] := by
 have hO := open_f g hb
 refine FCall.of_ax low_graph_tree ?_
 dsimp only [l_graph_tree]
 refine srun_sound 300 _ _ _ _ ?_
 unfold treeErr
 by_cases h0 : opErr g = 0
 ·have hR := order_f g _ _ (net_ok (gok_of h0))
  rw [h0,if_pos rfl] at hO
  rw [h0,if_neg (show ¬ ((0 : Int) ≠ 0) from fun h => h rfl)]
  change FRet Tryz.prog 36 [.f (netOf g)] [.c (.v (ordR (orderOf g))),.c (.v (.bool (orderOf g).isSome))] at hR
  generalize orderOf g = o at *
  generalize netOf g = w at *
  cases ho : o.isSome
  ·rw [ho] at hR
   rw [if_neg (by decide),if_neg (by decide)]
   repeat' (first
    | (simp -implicitDefEqProofs only [*,zr,Nat.reduceAdd,Nat.reduceSub,Nat.reduceMul,Nat.reduceLT,Nat.reduceLeDiff,Nat.reduceEqDiff,Nat.reduceBEq,reduceIte,reduceCtorEq,Int.reduceLE,Int.reduceLT,Int.reduceToNat,Int.reduceEq,Int.reduceNe])
    | ((first|apply zk0|apply zk1|apply zk2|apply zk3|apply zk4|apply zk5|apply zk6|apply zk7|apply zk8|apply zk9) <;> intro hc)
    |(refine callP0 rfl ?_)
    |(refine callD0 rfl ?_)
    |(refine cP (hO) ?_)
    |(refine cD (hO) ?_)
    |(refine cF (hO) ?_)
    |(refine cP (hR) ?_)
    |(refine cD (hR) ?_)
    |(refine cF (hR) ?_)
    | fail)
   exact ret_vvve rfl rfl rfl
  ·rw [ho] at hR
   rw [if_pos rfl,if_pos rfl]
   repeat' (first
    | (simp -implicitDefEqProofs only [*,zr,Nat.reduceAdd,Nat.reduceSub,Nat.reduceMul,Nat.reduceLT,Nat.reduceLeDiff,Nat.reduceEqDiff,Nat.reduceBEq,reduceIte,reduceCtorEq,Int.reduceLE,Int.reduceLT,Int.reduceToNat,Int.reduceEq,Int.reduceNe])
    | ((first|apply zk0|apply zk1|apply zk2|apply zk3|apply zk4|apply zk5|apply zk6|apply zk7|apply zk8|apply zk9) <;> intro hc)
    |(refine callP0 rfl ?_)
    |(refine callD0 rfl ?_)
    |(refine cP (hO) ?_)
    |(refine cD (hO) ?_)
    |(refine cF (hO) ?_)
    |(refine cP (hR) ?_)
    |(refine cD (hR) ?_)
    |(refine cF (hR) ?_)
    | fail)
   exact ret_vvve rfl rfl rfl
 ·rw [if_pos h0,if_neg h0,if_neg h0]
  rw [if_neg h0] at hO
  have hd := dec_f h0
  generalize opErr g = e at *
  repeat' (first
   | (simp -implicitDefEqProofs only [*,zr,Nat.reduceAdd,Nat.reduceSub,Nat.reduceMul,Nat.reduceLT,Nat.reduceLeDiff,Nat.reduceEqDiff,Nat.reduceBEq,reduceIte,reduceCtorEq,Int.reduceLE,Int.reduceLT,Int.reduceToNat,Int.reduceEq,Int.reduceNe])
   | ((first|apply zk0|apply zk1|apply zk2|apply zk3|apply zk4|apply zk5|apply zk6|apply zk7|apply zk8|apply zk9) <;> intro hc)
   |(refine callP0 rfl ?_)
   |(refine callD0 rfl ?_)
   |(refine cP (hO) ?_)
   |(refine cD (hO) ?_)
   |(refine cF (hO) ?_)
   | fail)
  exact ret_vvve rfl rfl rfl
def labN (g : Graph) (i : Nat) : ByteArray := match g[i]? with
 | some x => x.1
 | none => ByteArray.empty
theorem labN_of {g : Graph} {i : Nat} {x : Node} (h : g[i]? = some x) : labN g i = x.1 := by unfold labN;rw [h]
theorem labels_f (g : Graph) (D U : List (List Nat)) (l : List Nat) (hl : l.length ≤ 1000000) (hn : ∀ i ∈ l,i < g.length) : FRet Tryz.prog 23 [.f (fNet g D U),.f (frN l)] [.c (.v (frStrs (l.map (labN g))))] := by
 refine FCall.of_ax low_graph_net_labels ?_
 dsimp only [l_graph_net_labels,fNet,frNodes,frN]
 refine srun_sound 300 _ _ _ _ ?_
 repeat' (first
  | (simp -implicitDefEqProofs only [*,zr,Nat.reduceAdd,Nat.reduceSub,Nat.reduceMul,Nat.reduceLT,Nat.reduceLeDiff,Nat.reduceEqDiff,Nat.reduceBEq,reduceIte,reduceCtorEq,Int.reduceLE,Int.reduceLT,Int.reduceToNat,Int.reduceEq,Int.reduceNe])
  | ((first|apply zk0|apply zk1|apply zk2|apply zk3|apply zk4|apply zk5|apply zk6|apply zk7|apply zk8|apply zk9) <;> intro hc)
  |(refine callP0 rfl ?_)
  |(refine callD0 rfl ?_)
  | fail)
 refine ax_loopU (S := Nat) 27 [0,8,9] [] (fun s => [(5,.sl 24 1 1 0 s),(10,.f (.int .i64 s))]) (fun s => [(24,1,.cells ((((l.take s).map (labN g)).map FV.str).map .f))]) (fun s => s ≤ l.length) (fun s => l.length - s) (0) [24] ?_ ?_ fun s hs => ?_
 ·exact Nat.zero_le _
 ·refine wk_i ?_ ?_ <;> simp only [List.take_zero,zw,Nat.reduceEqDiff,Nat.reduceBEq,Nat.reduceLT,Nat.reduceLeDiff,reduceIte,reduceCtorEq]
 rcases Nat.lt_or_ge s l.length with hlt | hge
 ·refine srun_sound 300 _ _ _ _ ?_
  obtain ⟨i,hi⟩ := get_some hlt
  obtain ⟨x,hx⟩ := get_some (hn i (List.mem_of_getElem? hi))
  have hin := lt_t (hn i (List.mem_of_getElem? hi))
  have h4 := inc64 hlt (by omega)
  have h2 := lt_t hlt
  have hk8 := nle_t (show (s + 1) * 16 ≤ 140737488355328 by omega)
  have htl : (l.take s).length = s := by rw [List.length_take];omega
  have hst : (((l.take s).map (labN g)).map FV.str).map AV.f ++ [.f (.str x.1)] = (((l.take (s + 1)).map (labN g)).map FV.str).map AV.f := by
   rw [List.take_add_one,hi];simp [labN_of hx]
  repeat' (first
   | (simp -implicitDefEqProofs only [*,List.getElem?_map,Option.map_some,fN,fNode,zr,Nat.reduceAdd,Nat.reduceSub,Nat.reduceMul,Nat.reduceLT,Nat.reduceLeDiff,Nat.reduceEqDiff,Nat.reduceBEq,reduceIte,reduceCtorEq,Int.reduceLE,Int.reduceLT,Int.reduceToNat,Int.reduceEq,Int.reduceNe])
   | ((first|apply zk0|apply zk1|apply zk2|apply zk3|apply zk4|apply zk5|apply zk6|apply zk7|apply zk8|apply zk9) <;> intro hc)
   |(refine callP0 rfl ?_)
   |(refine callD0 rfl ?_)
   | fail)
  refine ⟨s + 1,hlt,by omega,?_⟩
  refine wk_i ?_ ?_ <;> simp only [hst,zw,Nat.reduceEqDiff,Nat.reduceBEq,Nat.reduceLT,Nat.reduceLeDiff,reduceIte,reduceCtorEq]
 obtain rfl : s = l.length := by omega
 have h2 := lt_f hge
 rw [List.take_length]
 refine ax_weak (nw := []) (n := 27) (el := [(5,.f (frStrs (l.map (labN g)))),(10,.f (.int .i64 l.length)),(9,.f (.int .i64 l.length))]) (hl := []) ?_ ?_
 ·refine ⟨rfl,small_mk rfl,rfl,rfl,⟨rfl,rfl,rfl,rfl,rfl⟩,⟨by decide,?_,by decide,.inl rfl,by decide,.inl ?_,trivial⟩,trivial⟩
  ·rw [frStrs_eq]
   exact so_cells1 (l := (l.map (labN g)).map FV.str) rfl rfl (by rw [List.length_map,List.length_map])
  ·simp
 refine srun_sound 300 _ _ _ _ ?_
 repeat' (first
  | (simp -implicitDefEqProofs only [*,frStrs,zr,Nat.reduceAdd,Nat.reduceSub,Nat.reduceMul,Nat.reduceLT,Nat.reduceLeDiff,Nat.reduceEqDiff,Nat.reduceBEq,reduceIte,reduceCtorEq,Int.reduceLE,Int.reduceLT,Int.reduceToNat,Int.reduceEq,Int.reduceNe])
  | ((first|apply zk0|apply zk1|apply zk2|apply zk3|apply zk4|apply zk5|apply zk6|apply zk7|apply zk8|apply zk9) <;> intro hc)
  |(refine callP0 rfl ?_)
  |(refine callD0 rfl ?_)
  | fail)
 exact ret_ve rfl
theorem rdyIdx_le : ∀ (L : List Int) (B : List Bool),L.length = B.length → rdyIdx L B ≤ L.length
 | [],[],_ => Nat.le_refl _
 | [],b :: B,h => by cases h
 | z :: L,[],h => by cases h
 | z :: L,b :: B,h => by
  rw [rdyIdx]
  split
  ·exact Nat.zero_le _
  ·have := rdyIdx_le L B (by simpa using h)
   rw [List.length_cons];omega
theorem start_ok {D U : List (List Nat)} {n : Nat} (hN : NetOk n D U) : OOk n ⟨lens0 D,List.replicate D.length false,[]⟩ := by
 refine ⟨by simp [lens0,hN.dl],by simp [hN.dl],Nat.zero_le _,fun z hz => ?_,fun i hi => by cases hi⟩
 obtain ⟨r,hr,rfl⟩ := List.mem_map.1 hz
 have := (hN.dr r hr).1
 simp only [List.length_nil];omega
theorem ordGo_len {D U : List (List Nat)} {n : Nat} (hN : NetOk n D U) {l : List Nat} : ∀ m (s : OSt),OOk n s → s.out.length + m = n → ordGo U m s = some l → l.length = n ∧ ∀ i ∈ l,i < n
 | 0,s,hO,hm,h => by obtain rfl := Option.some.inj h;exact ⟨by omega,hO.oo⟩
 | m + 1,s,hO,hm,h => by
  rw [ordGo] at h
  split at h
  ·cases h
  ·rename_i hne
   have h1 := rdyIdx_le s.left s.done (by rw [hO.ll,hO.bl])
   have h2 := hO.ll
   refine ordGo_len hN m _ (ordStep_ok hN hO (by omega) (by omega)) ?_ h
   show (s.out ++ [_]).length + m = n
   rw [List.length_append];simp only [List.length_cons,List.length_nil];omega
theorem order_len {D U : List (List Nat)} {n : Nat} (hN : NetOk n D U) {l : List Nat} (h : orderV D U = some l) : l.length = n ∧ ∀ i ∈ l,i < n := by
 unfold orderV at h
 rw [hN.dl] at h
 exact ordGo_len hN n _ (by have := start_ok hN;rwa [hN.dl] at this) (by simp) h
theorem Order_f (g : Graph) (hb : GBound g) : FRet Tryz.prog 11 [.f (frNodes g)] [.c (.v (if treeErr g = 0 then frStrs (((orderOf g).getD []).map (labN g)) else .nil)),.c (.v (.int .i64 (treeErr g)))] := by
 have hT := tree_f g hb
 refine FCall.of_ax low_graph_Order ?_
 dsimp only [l_graph_Order]
 refine srun_sound 300 _ _ _ _ ?_
 by_cases h0 : treeErr g = 0
 ·have h1 : opErr g = 0 := by
   unfold treeErr at h0
   split at h0
   ·rename_i h;exact absurd h0 h
   ·rename_i h;simpa using h
  have hN := net_ok (gok_of h1)
  obtain ⟨l,hl⟩ : ∃ l,orderOf g = some l := by
   unfold treeErr at h0
   rw [h1,if_neg (show ¬ ((0 : Int) ≠ 0) from fun h => h rfl)] at h0
   split at h0
   ·rename_i h;exact Option.isSome_iff_exists.1 h
   ·cases h0
  obtain ⟨h2,h3⟩ := order_len hN hl
  have hnl := hN.nl
  have hL := labels_f g (allDeps g) (usersOf g) l (by omega) h3
  change FRet Tryz.prog _ [.f (netOf g),_] _ at hL
  rw [h0,if_pos rfl,if_pos rfl,hl] at hT
  rw [h0,if_pos rfl,hl]
  repeat' (first
   | (simp -implicitDefEqProofs only [*,zr,Nat.reduceAdd,Nat.reduceSub,Nat.reduceMul,Nat.reduceLT,Nat.reduceLeDiff,Nat.reduceEqDiff,Nat.reduceBEq,reduceIte,reduceCtorEq,Int.reduceLE,Int.reduceLT,Int.reduceToNat,Int.reduceEq,Int.reduceNe])
   | ((first|apply zk0|apply zk1|apply zk2|apply zk3|apply zk4|apply zk5|apply zk6|apply zk7|apply zk8|apply zk9) <;> intro hc)
   |(refine callP0 rfl ?_)
   |(refine callD0 rfl ?_)
   |(refine cP (hT) ?_)
   |(refine cD (hT) ?_)
   |(refine cF (hT) ?_)
   |(refine cP (hL) ?_)
   |(refine cD (hL) ?_)
   |(refine cF (hL) ?_)
   | fail)
  exact ret_vve rfl rfl
 ·rw [if_neg h0,if_neg h0] at hT
  rw [if_neg h0]
  have hd := dec_f h0
  generalize treeErr g = e at *
  repeat' (first
   | (simp -implicitDefEqProofs only [*,zr,Nat.reduceAdd,Nat.reduceSub,Nat.reduceMul,Nat.reduceLT,Nat.reduceLeDiff,Nat.reduceEqDiff,Nat.reduceBEq,reduceIte,reduceCtorEq,Int.reduceLE,Int.reduceLT,Int.reduceToNat,Int.reduceEq,Int.reduceNe])
   | ((first|apply zk0|apply zk1|apply zk2|apply zk3|apply zk4|apply zk5|apply zk6|apply zk7|apply zk8|apply zk9) <;> intro hc)
   |(refine callP0 rfl ?_)
   |(refine callD0 rfl ?_)
   |(refine cP (hT) ?_)
   |(refine cD (hT) ?_)
   |(refine cF (hT) ?_)
   | fail)
  exact ret_vve rfl rfl
end Go.Proofs.YtagkdifaldikgaaGreatDoor
