/-
  Graphs on the machine: the search of a label, graphs by numbers. No statement of the seat is proved here; no conditions.
-/
import Derived.Test.YtagkdifaldikgaaGreatDoorGrD
import Derived.Test.YtagkdifaldikgaaGreatDoorFam
namespace Go.Proofs.YtagkdifaldikgaaGreatDoor
open Go.RowKit Go.Shelf
set_option linter.unusedVariables false
set_option linter.unusedSimpArgs false
set_option maxRecDepth 100000

theorem compare_f (a b : ByteArray) : FRet Tryz.prog 70 [.f (.str a),.f (.str b)] [.c (.v (.int .i64 (cmpB a b)))] :=
 fret_calls (by kernel_rfl) fun G Z w vs h1 h2 => by
  obtain ⟨v0,v1,rfl,r0,r1⟩ := args2 h1 h2
  obtain rfl := r0.str_
  obtain rfl := r1.str_
  have hcon := Any.strings_Compare Tryz.lays106 a b w
  change Calls Tryz.prog 70 _ _ _ at hcon
  exact hcon.mono fun e w' ⟨he,hb⟩ => ⟨_,he,fun Z' => .int _ _,by rw [hb];exact Below.refl _ _⟩
theorem wrapu64 {n : Int} (h1 : 0 ≤ n) (h2 : n ≤ 18446744073709551615) : IntKind.u64.wrap n = n := by
 rw [IntKind.wrap_u64];omega
theorem atC_f (b : Node) (s : ByteArray) : FRet Tryz.prog 69 [.agg ((fNode b).map .f),.f (.str s)] [.c (.v (.int .i64 (cmpB b.1 s)))] := by
 refine FCall.of_ax low_graph_at_c1 ?_
 dsimp only [l_graph_at_c1,fNode]
 refine srun_sound 300 _ _ _ _ ?_
 repeat' (first
  | (simp -implicitDefEqProofs only [*,zr,Nat.reduceAdd,Nat.reduceSub,Nat.reduceMul,Nat.reduceLT,Nat.reduceLeDiff,Nat.reduceEqDiff,Nat.reduceBEq,reduceIte,reduceCtorEq,Int.reduceLE,Int.reduceLT,Int.reduceToNat,Int.reduceEq,Int.reduceNe])
  | ((first|apply zk0|apply zk1|apply zk2|apply zk3|apply zk4|apply zk5|apply zk6|apply zk7|apply zk8|apply zk9) <;> intro hc)
  |(refine callP0 rfl ?_)
  |(refine callD0 rfl ?_)
  |(refine cP (compare_f _ _) ?_)
  |(refine cD (compare_f _ _) ?_)
  |(refine cF (compare_f _ _) ?_)
  | fail)
 exact ret_v
theorem bs_node (l : List Node) (tgt : ByteArray) (fn : FuncId) (cf : Node → Int) (hl : l.length ≤ 1000000) (hcmp : ∀ x ∈ l,FRet Tryz.prog fn [.agg ((fNode x).map .f),.f (.str tgt)] [.c (.v (.int .i64 (cf x)))]) (hmono : ∀ (i j : Nat) x y,i ≤ j → l[i]? = some x → l[j]? = some y → cf y < 0 → cf x < 0) :
  FRet Tryz.prog 68 [.f (.fr 6 (l.map fNode)),.f (.str tgt),.f (.fn (.func fn))] [.c (.v (.int .i64 (bsIdx cf l))),.c (.v (.bool (bsHit cf l)))] := by
 refine FCall.of_ax low_slices_BinarySearchFunc_api_Node_api_Node_string ?_
 dsimp only [l_slices_BinarySearchFunc_api_Node_api_Node_string]
 refine srun_sound 300 _ _ _ _ ?_
 repeat' (first
  | (simp -implicitDefEqProofs only [*,zr,Nat.reduceAdd,Nat.reduceSub,Nat.reduceMul,Nat.reduceLT,Nat.reduceLeDiff,Nat.reduceEqDiff,Nat.reduceBEq,reduceIte,reduceCtorEq,Int.reduceLE,Int.reduceLT,Int.reduceToNat,Int.reduceEq,Int.reduceNe])
  | ((first|apply zk0|apply zk1|apply zk2|apply zk3|apply zk4|apply zk5|apply zk6|apply zk7|apply zk8|apply zk9) <;> intro hc)
  |(refine callP0 rfl ?_)
  |(refine callD0 rfl ?_)
  | fail)
 refine ax_loopU (S := Nat × Nat) 49 [0,1,2,8] [] (fun s => [(9,.f (.int .i64 s.1)),(10,.f (.int .i64 s.2))]) (fun s => []) (fun s => s.1 ≤ s.2 ∧ s.2 ≤ l.length ∧ (∀ (m : Nat) x,m < s.1 → l[m]? = some x → cf x < 0) ∧ (∀ (m : Nat) x,s.2 ≤ m → l[m]? = some x → ¬ cf x < 0)) (fun s => s.2 - s.1) (0,l.length) [] ?_ ?_ fun s hs => ?_
 ·exact ⟨Nat.zero_le _,Nat.le_refl _,fun m x h => absurd h (by omega),fun m x h hx => by have := (List.getElem?_eq_some_iff.1 hx).1;omega⟩
 ·refine wk_i ?_ ?_ <;> simp only [zw,Nat.reduceEqDiff,Nat.reduceBEq,Nat.reduceLT,Nat.reduceLeDiff,reduceIte,reduceCtorEq]
 obtain ⟨i,j⟩ := s
 obtain ⟨hij,hj,hlo,hhi⟩ := hs
 dsimp only at hij hj hlo hhi ⊢
 refine srun_sound 300 _ _ _ _ ?_
 rcases Nat.lt_or_ge i j with hlt | hge
 ·have h2 := lt_t hlt
  have hw1 : IntKind.i64.wrap ((i : Int) + j) = ((i + j : Nat) : Int) := by rw [wrap64] <;> omega
  have hw2 : IntKind.u64.wrap ((i + j : Nat) : Int) = ((i + j : Nat) : Int) := wrapu64 (by omega) (by omega)
  have hw3 : Int.fdiv ((i + j : Nat) : Int) (2 ^ min 1 IntKind.u64.bits) = (((i + j) / 2 : Nat) : Int) := by
   rw [show min 1 IntKind.u64.bits = 1 from rfl,Int.fdiv_eq_ediv_of_nonneg _ (by decide)];omega
  have hw4 : IntKind.i64.wrap (((i + j) / 2 : Nat) : Int) = (((i + j) / 2 : Nat) : Int) := by rw [wrap64] <;> omega
  have hw5 : IntKind.i64.wrap ((((i + j) / 2 : Nat) : Int) + 1) = (((i + j) / 2 + 1 : Nat) : Int) := by rw [wrap64] <;> omega
  obtain ⟨x,hx⟩ := get_some (l := l) (i := (i + j) / 2) (by omega)
  have hm := List.mem_of_getElem? hx
  generalize hmid : (i + j) / 2 = mid at hw3 hw4 hw5 hx
  have hi1 : i ≤ mid := by omega
  have hi2 : mid < j := by omega
  clear hmid
  repeat' (first
   | (simp -implicitDefEqProofs only [*,List.getElem?_map,Option.map_some,fNode,zr,Nat.reduceAdd,Nat.reduceSub,Nat.reduceMul,Nat.reduceLT,Nat.reduceLeDiff,Nat.reduceEqDiff,Nat.reduceBEq,reduceIte,reduceCtorEq,Int.reduceLE,Int.reduceLT,Int.reduceToNat,Int.reduceEq,Int.reduceNe])
   | ((first|apply zk0|apply zk1|apply zk2|apply zk3|apply zk4|apply zk5|apply zk6|apply zk7|apply zk8|apply zk9) <;> intro hc)
   |(refine callP0 rfl ?_)
   |(refine callD0 rfl ?_)
   |(refine cP (hcmp x hm) ?_)
   |(refine cD (hcmp x hm) ?_)
   |(refine cF (hcmp x hm) ?_)
   | fail)
  ·refine ⟨(mid + 1,j),⟨hi2,hj,fun m y h1 h3 => hmono m mid y x (by omega) h3 hx (of_decide_eq_true hc),hhi⟩,by simp only;omega,?_⟩
   refine wk_i ?_ ?_ <;> simp only [zw,Nat.reduceEqDiff,Nat.reduceBEq,Nat.reduceLT,Nat.reduceLeDiff,reduceIte,reduceCtorEq]
  ·refine ⟨(i,mid),⟨hi1,by omega,hlo,fun m y h1 h3 h4 => of_decide_eq_false hc (hmono mid m x y h1 hx h3 h4)⟩,by simp only;omega,?_⟩
   refine wk_i ?_ ?_ <;> simp only [zw,Nat.reduceEqDiff,Nat.reduceBEq,Nat.reduceLT,Nat.reduceLeDiff,reduceIte,reduceCtorEq]
 ·obtain rfl : i = j := by omega
  have hidx : bsIdx cf l = i := bsIdx_eq hj hlo hhi
  have h2 := lt_f hge
  rcases Nat.lt_or_ge i l.length with h3 | h3
  ·obtain ⟨x,hx⟩ := get_some h3
   have hhit : bsHit cf l = decide (cf x = 0) := by rw [bsHit,hidx,hx]
   rw [hidx,hhit]
   have h4 := lt_t h3
   repeat' (first
    | (simp -implicitDefEqProofs only [*,List.getElem?_map,Option.map_some,fNode,zr,Nat.reduceAdd,Nat.reduceSub,Nat.reduceMul,Nat.reduceLT,Nat.reduceLeDiff,Nat.reduceEqDiff,Nat.reduceBEq,reduceIte,reduceCtorEq,Int.reduceLE,Int.reduceLT,Int.reduceToNat,Int.reduceEq,Int.reduceNe])
    | ((first|apply zk0|apply zk1|apply zk2|apply zk3|apply zk4|apply zk5|apply zk6|apply zk7|apply zk8|apply zk9) <;> intro hc)
    |(refine callP0 rfl ?_)
    |(refine callD0 rfl ?_)
    |(refine cP (hcmp x (List.mem_of_getElem? hx)) ?_)
    |(refine cD (hcmp x (List.mem_of_getElem? hx)) ?_)
    |(refine cF (hcmp x (List.mem_of_getElem? hx)) ?_)
    | fail)
   exact ret_vv
  ·have hhit : bsHit cf l = false := by rw [bsHit,hidx,List.getElem?_eq_none h3]
   rw [hidx,hhit]
   have h4 := lt_f h3
   repeat' (first
    | (simp -implicitDefEqProofs only [*,zr,Nat.reduceAdd,Nat.reduceSub,Nat.reduceMul,Nat.reduceLT,Nat.reduceLeDiff,Nat.reduceEqDiff,Nat.reduceBEq,reduceIte,reduceCtorEq,Int.reduceLE,Int.reduceLT,Int.reduceToNat,Int.reduceEq,Int.reduceNe])
    | ((first|apply zk0|apply zk1|apply zk2|apply zk3|apply zk4|apply zk5|apply zk6|apply zk7|apply zk8|apply zk9) <;> intro hc)
    |(refine callP0 rfl ?_)
    |(refine callD0 rfl ?_)
    | fail)
   exact ret_vv

abbrev Graph := List Node
def frNodes (g : Graph) : FV := .fr 6 (g.map fNode)
def nIdx (g : Graph) (t : ByteArray) : Nat := bsIdx (fun b : Node => cmpB b.1 t) g
def nHas (g : Graph) (t : ByteArray) : Bool := hasK (fun b : Node => b.1) g t
def atV (g : Graph) (t : ByteArray) : Int := if nHas g t = true then nIdx g t else -1
theorem at_f (g : Graph) (t : ByteArray) (hl : g.length ≤ 1000000) (hr : Rising (fun b : Node => b.1) g) : FRet Tryz.prog 46 [.f (frNodes g),.f (.str t)] [.c (.v (.int .i64 (atV g t)))] := by
 have k := bs_node g t 69 (fun b => cmpB b.1 t) hl (fun x _ => atC_f x t) (mono_of hr t)
 rw [bsHit_eq hr] at k
 unfold atV nHas nIdx
 generalize hasK (fun b : Node => b.1) g t = h at *
 generalize bsIdx (fun b : Node => cmpB b.1 t) g = i at *
 replace k := hide k
 refine FCall.of_ax low_graph_at ?_
 dsimp only [l_graph_at,frNodes]
 refine srun_sound 300 _ _ _ _ ?_
 cases h
 ·repeat' (first
   | (simp -implicitDefEqProofs only [*,zr,Nat.reduceAdd,Nat.reduceSub,Nat.reduceMul,Nat.reduceLT,Nat.reduceLeDiff,Nat.reduceEqDiff,Nat.reduceBEq,reduceIte,reduceCtorEq,Int.reduceLE,Int.reduceLT,Int.reduceToNat,Int.reduceEq,Int.reduceNe])
   | ((first|apply zk0|apply zk1|apply zk2|apply zk3|apply zk4|apply zk5|apply zk6|apply zk7|apply zk8|apply zk9) <;> intro hc)
   |(refine callP0 rfl ?_)
   |(refine callD0 rfl ?_)
   |(refine cP (k.out) ?_)
   |(refine cD (k.out) ?_)
   |(refine cF (k.out) ?_)
   | fail)
  exact ret_ve rfl
 ·repeat' (first
   | (simp -implicitDefEqProofs only [*,zr,Nat.reduceAdd,Nat.reduceSub,Nat.reduceMul,Nat.reduceLT,Nat.reduceLeDiff,Nat.reduceEqDiff,Nat.reduceBEq,reduceIte,reduceCtorEq,Int.reduceLE,Int.reduceLT,Int.reduceToNat,Int.reduceEq,Int.reduceNe])
   | ((first|apply zk0|apply zk1|apply zk2|apply zk3|apply zk4|apply zk5|apply zk6|apply zk7|apply zk8|apply zk9) <;> intro hc)
   |(refine callP0 rfl ?_)
   |(refine callD0 rfl ?_)
   |(refine cP (k.out) ?_)
   |(refine cD (k.out) ?_)
   |(refine cF (k.out) ?_)
   | fail)
  exact ret_ve rfl
def fN (n : Nat) : FV := .int .i64 n
def frN (l : List Nat) : FV := .fr 1 (l.map fun n => [fN n])
def depsOf (g : Graph) (n : Node) : List Nat := n.2.2.1.map (nIdx g)
def allDeps (g : Graph) : List (List Nat) := g.map (depsOf g)
def pushAt (R : List (List Nat)) (k i : Nat) : List (List Nat) := R.set k (R.getD k [] ++ [i])
theorem pushAt_len (R : List (List Nat)) (k i : Nat) : (pushAt R k i).length = R.length := by simp [pushAt]
def pushRow (U : List (List Nat)) (i : Nat) (l : List Nat) : List (List Nat) := l.foldl (fun U k => pushAt U k i) U
theorem pushRow_len (i : Nat) : ∀ (l : List Nat) (U : List (List Nat)),(pushRow U i l).length = U.length
 | [],U => rfl
 | k :: l,U => by rw [pushRow,List.foldl_cons,← pushRow,pushRow_len i l,pushAt_len]
theorem pushRow_snoc (U : List (List Nat)) (i : Nat) (l : List Nat) (k : Nat) : pushRow U i (l ++ [k]) = pushAt (pushRow U i l) k i := by rw [pushRow,List.foldl_append];rfl
def usTo (D : List (List Nat)) (n : Nat) : Nat → List (List Nat)
 | 0 => List.replicate n []
 | i + 1 => pushRow (usTo D n i) i (D.getD i [])
theorem usTo_len (D : List (List Nat)) (n : Nat) : ∀ i,(usTo D n i).length = n
 | 0 => by simp [usTo]
 | i + 1 => by rw [usTo,pushRow_len,usTo_len D n i]
def dTo (D : List (List Nat)) (n i : Nat) : List (List Nat) := D.take i ++ List.replicate (n - i) []
def RF (R : List (List Nat)) : List (List FV) := R.map fun r => r.map fN
def frRows (R : List (List Nat)) : FV := .fr 1 (R.map fun r => [frN r])
def fNet (g : Graph) (D U : List (List Nat)) : FV := .fp [frNodes g,frRows D,frRows U]
def netOf (g : Graph) : FV := fNet g (allDeps g) (usTo (allDeps g) g.length g.length)
def grErr (g : Graph) (i : Nat) : Int := match g[i]? with
 | none => 0
 | some n => if ckNode n ≠ 0 then ckNode n else prevV g i (fun e => if leS n.1 e.1 = true then 8 else 0)
theorem grErr_of {g : Graph} {i : Nat} {n : Node} (h : g[i]? = some n) : grErr g i = if ckNode n ≠ 0 then ckNode n else prevV g i (fun e => if leS n.1 e.1 = true then 8 else 0) := by unfold grErr;rw [h]
def depsOk (g : Graph) : Bool := g.all fun n => n.2.2.1.all (nHas g)
def opErr (g : Graph) : Int := if (1000 : Int) < g.length then 2 else if firstErr (grErr g) 0 g.length ≠ 0 then firstErr (grErr g) 0 g.length else if depsOk g = true then 0 else 9
def GBound (g : Graph) : Prop := (g.length : Int) ≤ 9223372036854775807 ∧ ∀ n ∈ g,NBound n
def nilP : FV := .lit (.pointer none)
theorem nodes_rising {g : Graph} (h : ∀ m,m < g.length → grErr g m = 0) : Rising (fun b : Node => b.1) g := rising_of fun i x y hx hy => by
 have h1 := h (i + 1) (List.getElem?_eq_some_iff.1 hy).1
 rw [grErr_of hy] at h1
 split at h1
 ·rename_i h2;exact absurd h1 h2
 ·exact leS_false (prevV_zero (p := fun e => leS y.1 e.1) hx (by decide) h1)
theorem nodes_ok {g : Graph} (h : ∀ m,m < g.length → grErr g m = 0) : ∀ n ∈ g,ckNode n = 0 := fun n hn => by
 obtain ⟨m,hm⟩ := List.mem_iff_getElem?.1 hn
 have h1 := h m (List.getElem?_eq_some_iff.1 hm).1
 rw [grErr_of hm] at h1
 split at h1
 ·assumption
 ·rename_i h2;simpa using h2
theorem ck_deps {n : Node} (h : ckNode n = 0) : n.2.2.1.length ≤ 300 := by
 unfold ckNode at h
 split at h
 ·cases h
 ·split at h
  ·cases h
  ·split at h
   ·cases h
   ·omega
theorem nIdx_at {g : Graph} {t : ByteArray} (hr : Rising (fun b : Node => b.1) g) (h : nHas g t = true) : ∃ x,g[nIdx g t]? = some x ∧ x.1 = t := by
 unfold nHas at h
 rw [← bsHit_eq hr,bsHit] at h
 unfold nIdx
 split at h
 ·rename_i x hx
  exact ⟨x,hx,cmpB_eq.1 (of_decide_eq_true h)⟩
 ·cases h
theorem nIdx_lt {g : Graph} {t : ByteArray} (hr : Rising (fun b : Node => b.1) g) (h : nHas g t = true) : nIdx g t < g.length := by
 obtain ⟨x,hx,_⟩ := nIdx_at hr h
 exact (List.getElem?_eq_some_iff.1 hx).1
theorem dTo_at {D : List (List Nat)} {n i : Nat} (hD : D.length = n) (h : i < n) : (dTo D n i)[i]? = some [] := by
 rw [dTo,List.getElem?_append_right (by rw [List.length_take];omega),List.length_take,List.getElem?_replicate,if_pos (by omega)]
theorem dTo_len {D : List (List Nat)} {n i : Nat} (hD : D.length = n) (h : i ≤ n) : (dTo D n i).length = n := by
 rw [dTo,List.length_append,List.length_take,List.length_replicate];omega
theorem dTo_set {D : List (List Nat)} {n i : Nat} {r : List Nat} (hD : D.length = n) (h : i < n) (hr : D[i]? = some r) : (dTo D n i).set i r = dTo D n (i + 1) := by
 have e : D.take (i + 1) = D.take i ++ [r] := by rw [List.take_add_one,hr];rfl
 rw [dTo,dTo,e,List.set_append_right _ _ (by rw [List.length_take];omega),List.length_take,show i - min i D.length = 0 by omega,show n - i = (n - (i + 1)) + 1 by omega,List.replicate_succ,List.set_cons_zero,List.append_assoc];rfl
theorem rf_set (R : List (List Nat)) (i : Nat) (r : List Nat) : RF (R.set i r) = (RF R).set i (r.map fN) := by unfold RF;rw [List.map_set]
theorem rf_at {R : List (List Nat)} {i : Nat} {r : List Nat} (h : R[i]? = some r) : (RF R)[i]? = some (r.map fN) := by unfold RF;rw [List.getElem?_map,h];rfl
theorem rf_len (R : List (List Nat)) : (RF R).length = R.length := by unfold RF;rw [List.length_map]
def dIn (D : List (List Nat)) (n i j : Nat) : List (List Nat) := (dTo D n i).set i ((D.getD i []).take j)
def uIn (D : List (List Nat)) (n i j : Nat) : List (List Nat) := pushRow (usTo D n i) i ((D.getD i []).take j)
theorem dIn_0 {D : List (List Nat)} {n i : Nat} (hD : D.length = n) (h : i < n) : dIn D n i 0 = dTo D n i := by
 rw [dIn,List.take_zero]
 have := dTo_at hD h
 have h2 : i < (dTo D n i).length := by rw [dTo_len hD (by omega)];exact h
 rw [List.getElem?_eq_getElem h2] at this
 have e := Option.some.inj this
 rw [← e,List.set_getElem_self]
theorem uIn_0 {D : List (List Nat)} {n i : Nat} : uIn D n i 0 = usTo D n i := by rw [uIn,List.take_zero];rfl
theorem dIn_all {D : List (List Nat)} {n i j : Nat} {r : List Nat} (hD : D.length = n) (h : i < n) (hr : D[i]? = some r) (hj : r.length ≤ j) : dIn D n i j = dTo D n (i + 1) := by
 rw [dIn,show D.getD i [] = r by rw [List.getD_eq_getElem?_getD,hr];rfl,List.take_of_length_le hj,dTo_set hD h hr]
theorem uIn_all {D : List (List Nat)} {n i j : Nat} {r : List Nat} (hr : D[i]? = some r) (hj : r.length ≤ j) : uIn D n i j = usTo D n (i + 1) := by
 rw [uIn,usTo,show D.getD i [] = r by rw [List.getD_eq_getElem?_getD,hr];rfl,List.take_of_length_le hj]
theorem dIn_at {D : List (List Nat)} {n i j : Nat} {r : List Nat} (hD : D.length = n) (h : i < n) (hr : D[i]? = some r) : (dIn D n i j)[i]? = some (r.take j) := by
 rw [dIn,show D.getD i [] = r by rw [List.getD_eq_getElem?_getD,hr];rfl,List.getElem?_set_self (by rw [dTo_len hD (by omega)];exact h)]
theorem dIn_len {D : List (List Nat)} {n i j : Nat} (hD : D.length = n) (h : i < n) : (dIn D n i j).length = n := by rw [dIn,List.length_set,dTo_len hD (by omega)]
theorem uIn_len {D : List (List Nat)} {n i j : Nat} : (uIn D n i j).length = n := by rw [uIn,pushRow_len,usTo_len]
theorem dIn_step {D : List (List Nat)} {n i j k : Nat} {r : List Nat} (hr : D[i]? = some r) (hk : r[j]? = some k) : dIn D n i (j + 1) = (dIn D n i j).set i (r.take j ++ [k]) := by
 rw [dIn,dIn,show D.getD i [] = r by rw [List.getD_eq_getElem?_getD,hr];rfl,List.set_set,List.take_add_one,hk];rfl
theorem uIn_step {D : List (List Nat)} {n i j k : Nat} {r ys : List Nat} (hr : D[i]? = some r) (hk : r[j]? = some k) (hy : (uIn D n i j)[k]? = some ys) : uIn D n i (j + 1) = (uIn D n i j).set k (ys ++ [i]) := by
 have e : uIn D n i (j + 1) = pushAt (uIn D n i j) k i := by
  rw [uIn,uIn,show D.getD i [] = r by rw [List.getD_eq_getElem?_getD,hr];rfl,List.take_add_one,hk];exact pushRow_snoc _ _ _ _
 rw [e,pushAt,show (uIn D n i j).getD k [] = ys by rw [List.getD_eq_getElem?_getD,hy];rfl]
theorem pushAt_rows {R : List (List Nat)} {k i B : Nat} (h : ∀ r ∈ R,r.length ≤ B) : ∀ r ∈ pushAt R k i,r.length ≤ B + 1 := fun r hr => by
 unfold pushAt at hr
 rcases List.mem_or_eq_of_mem_set hr with hr | hr
 ·have := h r hr;omega
 ·subst hr
  rw [List.length_append]
  have : (R.getD k []).length ≤ B := by
   rw [List.getD_eq_getElem?_getD]
   cases e : R[k]? with
   | none => simp
   | some q => exact h q (List.mem_of_getElem? e)
  simp only [List.length_cons,List.length_nil];omega
theorem pushRow_rows {i : Nat} : ∀ (l : List Nat) {U : List (List Nat)} {B : Nat},(∀ r ∈ U,r.length ≤ B) → ∀ r ∈ pushRow U i l,r.length ≤ B + l.length
 | [],U,B,h,r,hr => h r hr
 | k :: l,U,B,h,r,hr => by
  rw [pushRow,List.foldl_cons,← pushRow] at hr
  have := pushRow_rows l (pushAt_rows h) r hr
  rw [List.length_cons];omega
theorem usTo_rows {D : List (List Nat)} {n B : Nat} (h : ∀ r ∈ D,r.length ≤ B) : ∀ i,∀ r ∈ usTo D n i,r.length ≤ B * i
 | 0,r,hr => by
  rw [usTo] at hr
  rw [(List.mem_replicate.1 hr).2];simp
 | i + 1,r,hr => by
  rw [usTo] at hr
  have h1 := pushRow_rows _ (usTo_rows h i) r hr
  have h2 : (D.getD i []).length ≤ B := by
   rw [List.getD_eq_getElem?_getD]
   cases e : D[i]? with
   | none => simp
   | some q => exact h q (List.mem_of_getElem? e)
  rw [Nat.mul_add];omega
theorem uIn_rows {D : List (List Nat)} {n B i j : Nat} (h : ∀ r ∈ D,r.length ≤ B) : ∀ r ∈ uIn D n i j,r.length ≤ B * i + B := fun r hr => by
 have h1 := pushRow_rows _ (usTo_rows h i) r hr
 have h2 : ((D.getD i []).take j).length ≤ B := by
  rw [List.length_take,List.getD_eq_getElem?_getD]
  cases e : D[i]? with
  | none => simp
  | some q => have := h q (List.mem_of_getElem? e);simp only [Option.getD_some];omega
 omega
theorem rf_fr (R : List (List Nat)) : (RF R).map (fun r => FV.fr 1 (r.map fun x => [x])) = R.map frN := by
 unfold RF;rw [List.map_map];exact List.map_congr_left fun r _ => by simp [frN,List.map_map,Function.comp_def]
theorem frRows_eq (R : List (List Nat)) : frRows R = .fr 1 ((R.map frN).map fun x => [x]) := by unfold frRows;rw [List.map_map];rfl
theorem so_cells1 {H H' : Heap} {nw : List Nat} {id n : Nat} {l : List FV} (h : H id = (1,some (.cells (l.map .f)))) (h' : (H' id).2 = none) (hn : l.length = n) : SlotOk H H' nw (.sl id 1 1 0 n) (.f (.fr 1 (l.map fun x => [x]))) := by
 refine ⟨rfl,by rw [List.length_map];exact hn,fun x hx => ?_,h',_,by rw [h];rfl,by rw [List.length_map];omega,?_⟩
 ·obtain ⟨y,_,rfl⟩ := List.mem_map.1 hx;rfl
 ·have e : ∀ l : List FV,(l.map fun x => [x]).flatten = l := fun l => by induction l <;> simp_all
  rw [e,Nat.zero_mul,List.drop_zero,Nat.mul_one,List.take_of_length_le (by rw [List.length_map];omega)]
theorem dTo_full {D : List (List Nat)} {n : Nat} (hD : D.length = n) : dTo D n n = D := by rw [dTo,Nat.sub_self,List.replicate_zero,List.append_nil,List.take_of_length_le (by omega)]
end Go.Proofs.YtagkdifaldikgaaGreatDoor
