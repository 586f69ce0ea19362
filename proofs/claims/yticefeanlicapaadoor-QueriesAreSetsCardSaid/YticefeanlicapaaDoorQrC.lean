/-
  Answers: the search in a row of numbers, the closures. No statement of the seat is proved here; no conditions.
-/
import Derived.Test.YticefeanlicapaaDoorQrA
import Derived.Test.YticefeanlicapaaDoorQrB
namespace Go.Proofs.YticefeanlicapaaDoor
open Go.RowKit Go.Shelf
set_option linter.unusedVariables false
set_option linter.unusedSimpArgs false
set_option maxRecDepth 100000

theorem nanC_f (x : Int) : FRet Tryd.prog 48 [.f (.int .i64 x)] [.c (.v (.bool false))] := by
 have d : decide (x = x) = true := dcT rfl
 refine FCall.of_ax low_cmp_isNaN_int ?_
 dsimp only [l_cmp_isNaN_int]
 refine srun_sound 300 _ _ _ _ ?_
 repeat' (first
  | (simp -implicitDefEqProofs only [*,zr,Nat.reduceAdd,Nat.reduceSub,Nat.reduceMul,Nat.reduceLT,Nat.reduceLeDiff,Nat.reduceEqDiff,Nat.reduceBEq,reduceIte,reduceCtorEq,Int.reduceLE,Int.reduceLT,Int.reduceToNat,Int.reduceEq,Int.reduceNe])
  | ((first|apply zk0|apply zk1|apply zk2|apply zk3|apply zk4|apply zk5|apply zk6|apply zk7|apply zk8|apply zk9) <;> intro hc)
  |(refine callP0 rfl ?_)
  |(refine callD0 rfl ?_)
  | fail)
 exact ret_v
theorem nanS_f (x : Int) : FRet Tryd.prog 35 [.f (.int .i64 x)] [.c (.v (.bool false))] := by
 have d : decide (x = x) = true := dcT rfl
 refine FCall.of_ax low_slices_isNaN_int ?_
 dsimp only [l_slices_isNaN_int]
 refine srun_sound 300 _ _ _ _ ?_
 repeat' (first
  | (simp -implicitDefEqProofs only [*,zr,Nat.reduceAdd,Nat.reduceSub,Nat.reduceMul,Nat.reduceLT,Nat.reduceLeDiff,Nat.reduceEqDiff,Nat.reduceBEq,reduceIte,reduceCtorEq,Int.reduceLE,Int.reduceLT,Int.reduceToNat,Int.reduceEq,Int.reduceNe])
  | ((first|apply zk0|apply zk1|apply zk2|apply zk3|apply zk4|apply zk5|apply zk6|apply zk7|apply zk8|apply zk9) <;> intro hc)
  |(refine callP0 rfl ?_)
  |(refine callD0 rfl ?_)
  | fail)
 exact ret_v
theorem less_f (x y : Int) : FRet Tryd.prog 34 [.f (.int .i64 x),.f (.int .i64 y)] [.c (.v (.bool (decide (x < y))))] := by
 have k1 := nanC_f x
 have k2 := nanC_f y
 refine FCall.of_ax low_cmp_Less_int ?_
 dsimp only [l_cmp_Less_int]
 refine srun_sound 300 _ _ _ _ ?_
 repeat' (first
  | (simp -implicitDefEqProofs only [*,zr,Nat.reduceAdd,Nat.reduceSub,Nat.reduceMul,Nat.reduceLT,Nat.reduceLeDiff,Nat.reduceEqDiff,Nat.reduceBEq,reduceIte,reduceCtorEq,Int.reduceLE,Int.reduceLT,Int.reduceToNat,Int.reduceEq,Int.reduceNe])
  | ((first|apply zk0|apply zk1|apply zk2|apply zk3|apply zk4|apply zk5|apply zk6|apply zk7|apply zk8|apply zk9) <;> intro hc)
  |(refine callP0 rfl ?_)
  |(refine callD0 rfl ?_)
  |(refine cP (k1) ?_)
  |(refine cD (k1) ?_)
  |(refine cF (k1) ?_)
  |(refine cP (k2) ?_)
  |(refine cD (k2) ?_)
  |(refine cF (k2) ?_)
  | fail)
 exact ret_v
def encN (n : Nat) : List FV := [fN n]
abbrev RisN (L : List Nat) : Prop := L.Pairwise (· < ·)
def cfN (x : Nat) (a : Nat) : Int := (a : Int) - x
theorem monoN {L : List Nat} (h : RisN L) (x : Nat) (i j : Nat) (a b : Nat) (hij : i ≤ j) (ha : L[i]? = some a) (hb : L[j]? = some b) (hc : cfN x b < 0) : cfN x a < 0 := by
 rcases Nat.eq_or_lt_of_le hij with rfl | hlt
 ·rw [ha] at hb;obtain rfl := Option.some.inj hb;exact hc
 ·obtain ⟨k1,e1⟩ := List.getElem?_eq_some_iff.1 ha
  obtain ⟨k2,e2⟩ := List.getElem?_eq_some_iff.1 hb
  have := List.pairwise_iff_getElem.1 h i j k1 k2 hlt
  rw [e1,e2] at this
  unfold cfN at *
  omega
theorem hitN {L : List Nat} (h : RisN L) (x : Nat) : bsHit (cfN x) L = decide (x ∈ L) := by
 obtain ⟨h1,h2,h3⟩ := bs_lt (cf := cfN x) (monoN h x)
 unfold bsHit
 generalize bsIdx (cfN x) L = i at *
 cases hx : L[i]? with
 | none =>
  symm
  rw [decide_eq_false_iff_not]
  intro hm
  obtain ⟨m,hm⟩ := List.mem_iff_getElem?.1 hm
  have hlt : m < i := by
   have := (List.getElem?_eq_some_iff.1 hm).1
   have := List.getElem?_eq_none_iff.1 hx
   omega
  have := h2 m x hlt hm
  unfold cfN at this
  omega
 | some y =>
  have hy := h3 i y (Nat.le_refl _) hx
  unfold cfN at hy
  show decide (cfN x y = 0) = _
  rw [decide_eq_decide]
  constructor
  ·intro e
   unfold cfN at e
   have : y = x := by omega
   subst this
   exact List.mem_of_getElem? hx
  ·intro hm
   obtain ⟨m,hm⟩ := List.mem_iff_getElem?.1 hm
   rcases Nat.lt_trichotomy m i with g | g | g
   ·have := h2 m x g hm
    unfold cfN at this
    omega
   ·subst g
    rw [hx] at hm;obtain rfl := Option.some.inj hm
    unfold cfN;omega
   ·have k1 := List.pairwise_iff_getElem.1 h i m (List.getElem?_eq_some_iff.1 hx).1 (List.getElem?_eq_some_iff.1 hm).1 g
    rw [(List.getElem?_eq_some_iff.1 hx).2,(List.getElem?_eq_some_iff.1 hm).2] at k1
    omega
theorem wrapu64N {n : Int} (h1 : 0 ≤ n) (h2 : n ≤ 18446744073709551615) : IntKind.u64.wrap n = n := by
 rw [IntKind.wrap_u64];omega
set_option maxHeartbeats 1000000 in
theorem bsearch_f (l : List Nat) (x : Nat) (hl : l.length ≤ 1000000) (hr : RisN l) : FRet Tryd.prog 19 [.f (frN l),.f (.int .i64 x)] [.c (.v (.int .i64 (bsIdx (cfN x) l))),.c (.v (.bool (decide (x ∈ l))))] := by
 have hmono := monoN hr x
 rw [← hitN hr x]
 generalize hcf : cfN x = cf at *
 have hcfx : ∀ a : Nat,cf a = (a : Int) - x := fun a => by rw [← hcf];rfl
 replace hcf := hide hcf
 replace hr := hide hr
 refine FCall.of_ax low_slices_BinarySearch_int_int ?_
 dsimp only [l_slices_BinarySearch_int_int,frN]
 refine srun_sound 300 _ _ _ _ ?_
 replace hcfx := hide hcfx
 replace hmono := hide hmono
 repeat' (first
  | (simp -implicitDefEqProofs only [*,List.length_map,zr,Nat.reduceAdd,Nat.reduceSub,Nat.reduceMul,Nat.reduceLT,Nat.reduceLeDiff,Nat.reduceEqDiff,Nat.reduceBEq,reduceIte,reduceCtorEq,Int.reduceLE,Int.reduceLT,Int.reduceToNat,Int.reduceEq,Int.reduceNe])
  | ((first|apply zk0|apply zk1|apply zk2|apply zk3|apply zk4|apply zk5|apply zk6|apply zk7|apply zk8|apply zk9) <;> intro hc)
  |(refine callP0 rfl ?_)
  |(refine callD0 rfl ?_)
  | fail)
 refine ax_loopU (S := Nat × Nat) 54 [0,1,6] [] (fun s => [(7,.f (.int .i64 s.1)),(8,.f (.int .i64 s.2))]) (fun s => []) (fun s => s.1 ≤ s.2 ∧ s.2 ≤ l.length ∧ (∀ (m : Nat) x,m < s.1 → l[m]? = some x → cf x < 0) ∧ (∀ (m : Nat) x,s.2 ≤ m → l[m]? = some x → ¬ cf x < 0)) (fun s => s.2 - s.1) (0,l.length) [] ?_ ?_ fun s hs => ?_
 ·exact ⟨Nat.zero_le _,Nat.le_refl _,fun m x h => absurd h (by omega),fun m x h hx => by have := (List.getElem?_eq_some_iff.1 hx).1;omega⟩
 ·refine wk_i ?_ ?_ <;> simp only [zw,Nat.reduceEqDiff,Nat.reduceBEq,Nat.reduceLT,Nat.reduceLeDiff,reduceIte,reduceCtorEq]
 obtain ⟨i,j⟩ := s
 obtain ⟨hij,hj,hlo,hhi⟩ := hs
 dsimp only at hij hj hlo hhi ⊢
 refine srun_sound 300 _ _ _ _ ?_
 rcases Nat.lt_or_ge i j with hlt | hge
 ·have h2 := lt_t hlt
  have hw1 : IntKind.i64.wrap ((i : Int) + j) = ((i + j : Nat) : Int) := by rw [wrap64] <;> omega
  have hw2 : IntKind.u64.wrap ((i + j : Nat) : Int) = ((i + j : Nat) : Int) := wrapu64N (by omega) (by omega)
  have hw3 : Int.fdiv ((i + j : Nat) : Int) (2 ^ min 1 IntKind.u64.bits) = (((i + j) / 2 : Nat) : Int) := by
   rw [show min 1 IntKind.u64.bits = 1 from rfl,Int.fdiv_eq_ediv_of_nonneg _ (by decide)];omega
  have hw4 : IntKind.i64.wrap (((i + j) / 2 : Nat) : Int) = (((i + j) / 2 : Nat) : Int) := by rw [wrap64] <;> omega
  have hw5 : IntKind.i64.wrap ((((i + j) / 2 : Nat) : Int) + 1) = (((i + j) / 2 + 1 : Nat) : Int) := by rw [wrap64] <;> omega
  obtain ⟨y,hy⟩ := get_some (l := l) (i := (i + j) / 2) (by omega)
  generalize hmid : (i + j) / 2 = mid at hw3 hw4 hw5 hy
  have hi1 : i ≤ mid := by omega
  have hi2 : mid < j := by omega
  clear hmid
  have kl := less_f y x
  have hcy := hcfx.out y
  by_cases hc : (y : Int) < x
  ·have dc := dcT hc
   rw [dc] at kl
   have hn : cf y < 0 := by omega
   replace hcy := hide hcy
   replace hc := hide hc
   clear dc
   replace hlo := hide hlo
   replace hhi := hide hhi
   repeat' (first
    | (simp -implicitDefEqProofs only [*,List.getElem?_map,Option.map_some,fN,zr,Nat.reduceAdd,Nat.reduceSub,Nat.reduceMul,Nat.reduceLT,Nat.reduceLeDiff,Nat.reduceEqDiff,Nat.reduceBEq,reduceIte,reduceCtorEq,Int.reduceLE,Int.reduceLT,Int.reduceToNat,Int.reduceEq,Int.reduceNe])
    | ((first|apply zk0|apply zk1|apply zk2|apply zk3|apply zk4|apply zk5|apply zk6|apply zk7|apply zk8|apply zk9) <;> intro hc)
    |(refine callP0 rfl ?_)
    |(refine callD0 rfl ?_)
    |(refine cP (kl) ?_)
    |(refine cD (kl) ?_)
    |(refine cF (kl) ?_)
    | fail)
   refine ⟨(mid + 1,j),⟨hi2,hj,fun m z h1 h3 => hmono.out m mid z y (by omega) h3 hy hn,hhi.out⟩,by simp only;omega,?_⟩
   refine wk_i ?_ ?_ <;> simp only [zw,Nat.reduceEqDiff,Nat.reduceBEq,Nat.reduceLT,Nat.reduceLeDiff,reduceIte,reduceCtorEq]
  ·have dc := dcF hc
   rw [dc] at kl
   have hn : ¬ cf y < 0 := by omega
   replace hcy := hide hcy
   replace hc := hide hc
   clear dc
   replace hlo := hide hlo
   replace hhi := hide hhi
   repeat' (first
    | (simp -implicitDefEqProofs only [*,List.getElem?_map,Option.map_some,fN,zr,Nat.reduceAdd,Nat.reduceSub,Nat.reduceMul,Nat.reduceLT,Nat.reduceLeDiff,Nat.reduceEqDiff,Nat.reduceBEq,reduceIte,reduceCtorEq,Int.reduceLE,Int.reduceLT,Int.reduceToNat,Int.reduceEq,Int.reduceNe])
    | ((first|apply zk0|apply zk1|apply zk2|apply zk3|apply zk4|apply zk5|apply zk6|apply zk7|apply zk8|apply zk9) <;> intro hc)
    |(refine callP0 rfl ?_)
    |(refine callD0 rfl ?_)
    |(refine cP (kl) ?_)
    |(refine cD (kl) ?_)
    |(refine cF (kl) ?_)
    | fail)
   refine ⟨(i,mid),⟨hi1,by omega,hlo.out,fun m z h1 h3 h4 => hn (hmono.out mid m y z h1 hy h3 h4)⟩,by simp only;omega,?_⟩
   refine wk_i ?_ ?_ <;> simp only [zw,Nat.reduceEqDiff,Nat.reduceBEq,Nat.reduceLT,Nat.reduceLeDiff,reduceIte,reduceCtorEq]
 ·obtain rfl : i = j := by omega
  have hidx : bsIdx cf l = i := bsIdx_eq hj hlo hhi
  have h2 := lt_f hge
  replace hlo := hide hlo
  replace hhi := hide hhi
  rcases Nat.lt_or_ge i l.length with h3 | h3
  ·obtain ⟨y,hy⟩ := get_some h3
   have hhit : bsHit cf l = decide ((y : Int) = x) := by rw [bsHit,hidx,hy];show decide (cf y = 0) = _;rw [hcfx.out y,decide_eq_decide];omega
   rw [hidx,hhit]
   have h4 := lt_t h3
   have k1 := nanS_f y
   have k2 := nanS_f x
   clear hidx hhit
   cases hq : decide ((y : Int) = x)
   ·repeat' (first
     | (simp -implicitDefEqProofs only [*,List.getElem?_map,Option.map_some,fN,zr,Nat.reduceAdd,Nat.reduceSub,Nat.reduceMul,Nat.reduceLT,Nat.reduceLeDiff,Nat.reduceEqDiff,Nat.reduceBEq,reduceIte,reduceCtorEq,Int.reduceLE,Int.reduceLT,Int.reduceToNat,Int.reduceEq,Int.reduceNe])
     | ((first|apply zk0|apply zk1|apply zk2|apply zk3|apply zk4|apply zk5|apply zk6|apply zk7|apply zk8|apply zk9) <;> intro hc)
     |(refine callP0 rfl ?_)
     |(refine callD0 rfl ?_)
     |(refine cP (k1) ?_)
     |(refine cD (k1) ?_)
     |(refine cF (k1) ?_)
     |(refine cP (k2) ?_)
     |(refine cD (k2) ?_)
     |(refine cF (k2) ?_)
     | fail)
    exact ret_vv
   ·repeat' (first
     | (simp -implicitDefEqProofs only [*,List.getElem?_map,Option.map_some,fN,zr,Nat.reduceAdd,Nat.reduceSub,Nat.reduceMul,Nat.reduceLT,Nat.reduceLeDiff,Nat.reduceEqDiff,Nat.reduceBEq,reduceIte,reduceCtorEq,Int.reduceLE,Int.reduceLT,Int.reduceToNat,Int.reduceEq,Int.reduceNe])
     | ((first|apply zk0|apply zk1|apply zk2|apply zk3|apply zk4|apply zk5|apply zk6|apply zk7|apply zk8|apply zk9) <;> intro hc)
     |(refine callP0 rfl ?_)
     |(refine callD0 rfl ?_)
     |(refine cP (k1) ?_)
     |(refine cD (k1) ?_)
     |(refine cF (k1) ?_)
     |(refine cP (k2) ?_)
     |(refine cD (k2) ?_)
     |(refine cF (k2) ?_)
     | fail)
    exact ret_vv
  ·have hhit : bsHit cf l = false := by rw [bsHit,hidx,List.getElem?_eq_none h3]
   rw [hidx,hhit]
   have h4 := lt_f h3
   clear hidx hhit
   repeat' (first
    | (simp -implicitDefEqProofs only [*,zr,Nat.reduceAdd,Nat.reduceSub,Nat.reduceMul,Nat.reduceLT,Nat.reduceLeDiff,Nat.reduceEqDiff,Nat.reduceBEq,reduceIte,reduceCtorEq,Int.reduceLE,Int.reduceLT,Int.reduceToNat,Int.reduceEq,Int.reduceNe])
    | ((first|apply zk0|apply zk1|apply zk2|apply zk3|apply zk4|apply zk5|apply zk6|apply zk7|apply zk8|apply zk9) <;> intro hc)
    |(refine callP0 rfl ?_)
    |(refine callD0 rfl ?_)
    | fail)
   exact ret_vv
theorem has_f (rows : List (List Nat)) (k i : Nat) (L : List Nat) (hk : rows[k]? = some L) (hl : L.length ≤ 1000000) (hr : RisN L) : FRet Tryd.prog 18 [.f (.int .i64 k),.f (.int .i64 i),.f (.fp [frRows rows])] [.c (.v (.bool (decide (i ∈ L))))] := by
 have kb := bsearch_f L i hl hr
 refine FCall.of_ax low_graph_net_answer_c2 ?_
 dsimp only [l_graph_net_answer_c2,frRows]
 refine srun_sound 300 _ _ _ _ ?_
 generalize decide (i ∈ L) = d at *
 generalize bsIdx (cfN i) L = ix at *
 have hkl : (k : Int) < (rows.length : Int) := Int.ofNat_lt.2 (List.getElem?_eq_some_iff.1 hk).1
 repeat' (first
  | (simp -implicitDefEqProofs only [*,List.getElem?_map,Option.map_some,List.length_map,zr,Nat.reduceAdd,Nat.reduceSub,Nat.reduceMul,Nat.reduceLT,Nat.reduceLeDiff,Nat.reduceEqDiff,Nat.reduceBEq,reduceIte,reduceCtorEq,Int.reduceLE,Int.reduceLT,Int.reduceToNat,Int.reduceEq,Int.reduceNe])
  | ((first|apply zk0|apply zk1|apply zk2|apply zk3|apply zk4|apply zk5|apply zk6|apply zk7|apply zk8|apply zk9) <;> intro hc)
  |(refine callP0 rfl ?_)
  |(refine callD0 rfl ?_)
  |(refine cP (kb) ?_)
  |(refine cD (kb) ?_)
  |(refine cF (kb) ?_)
  | fail)
 exact ret_v
def hasC (rows : List (List Nat)) : FV := .fc (.func 18) [.fp [frRows rows]]
theorem union_f (A B : List Nat) (i : Nat) (ha : A.length ≤ 1000000 ∧ RisN A) (hb : B.length ≤ 1000000 ∧ RisN B) : FRet Tryd.prog 28 [.f (.int .i64 i),.f (.fp [hasC [A,B]])] [.c (.v (.bool (decide (i ∈ A) || decide (i ∈ B))))] := by
 have k1 := has_f [A,B] 0 i A rfl ha.1 ha.2
 have k2 := has_f [A,B] 1 i B rfl hb.1 hb.2
 generalize decide (i ∈ A) = a at *
 generalize decide (i ∈ B) = b at *
 refine FCall.of_ax low_graph_net_answer_c6 ?_
 dsimp only [l_graph_net_answer_c6,hasC]
 refine srun_sound 300 _ _ _ _ ?_
 cases a with
 | true =>
  repeat' (first
   | (simp -implicitDefEqProofs only [*,zr,Nat.reduceAdd,Nat.reduceSub,Nat.reduceMul,Nat.reduceLT,Nat.reduceLeDiff,Nat.reduceEqDiff,Nat.reduceBEq,reduceIte,reduceCtorEq,Int.reduceLE,Int.reduceLT,Int.reduceToNat,Int.reduceEq,Int.reduceNe])
   | ((first|apply zk0|apply zk1|apply zk2|apply zk3|apply zk4|apply zk5|apply zk6|apply zk7|apply zk8|apply zk9) <;> intro hc)
   |(refine callP0 rfl ?_)
   |(refine callD0 rfl ?_)
   |(refine cC (k1) ?_)
   |(refine cX (k1) ?_)
   |(refine cY (k1) ?_)
   |(refine cZ (k1) ?_)
   |(refine cC (k2) ?_)
   |(refine cX (k2) ?_)
   |(refine cY (k2) ?_)
   |(refine cZ (k2) ?_)
   | fail)
  exact ret_v
 | false =>
  repeat' (first
   | (simp -implicitDefEqProofs only [*,zr,Nat.reduceAdd,Nat.reduceSub,Nat.reduceMul,Nat.reduceLT,Nat.reduceLeDiff,Nat.reduceEqDiff,Nat.reduceBEq,reduceIte,reduceCtorEq,Int.reduceLE,Int.reduceLT,Int.reduceToNat,Int.reduceEq,Int.reduceNe])
   | ((first|apply zk0|apply zk1|apply zk2|apply zk3|apply zk4|apply zk5|apply zk6|apply zk7|apply zk8|apply zk9) <;> intro hc)
   |(refine callP0 rfl ?_)
   |(refine callD0 rfl ?_)
   |(refine cC (k1) ?_)
   |(refine cX (k1) ?_)
   |(refine cY (k1) ?_)
   |(refine cZ (k1) ?_)
   |(refine cC (k2) ?_)
   |(refine cX (k2) ?_)
   |(refine cY (k2) ?_)
   |(refine cZ (k2) ?_)
   | fail)
  exact ret_v
theorem minus_f (A B : List Nat) (i : Nat) (ha : A.length ≤ 1000000 ∧ RisN A) (hb : B.length ≤ 1000000 ∧ RisN B) : FRet Tryd.prog 29 [.f (.int .i64 i),.f (.fp [hasC [A,B]])] [.c (.v (.bool (decide (i ∈ A) && !decide (i ∈ B))))] := by
 have k1 := has_f [A,B] 0 i A rfl ha.1 ha.2
 have k2 := has_f [A,B] 1 i B rfl hb.1 hb.2
 generalize decide (i ∈ A) = a at *
 generalize decide (i ∈ B) = b at *
 refine FCall.of_ax low_graph_net_answer_c7 ?_
 dsimp only [l_graph_net_answer_c7,hasC]
 refine srun_sound 300 _ _ _ _ ?_
 cases a with
 | true =>
  repeat' (first
   | (simp -implicitDefEqProofs only [*,zr,Nat.reduceAdd,Nat.reduceSub,Nat.reduceMul,Nat.reduceLT,Nat.reduceLeDiff,Nat.reduceEqDiff,Nat.reduceBEq,reduceIte,reduceCtorEq,Int.reduceLE,Int.reduceLT,Int.reduceToNat,Int.reduceEq,Int.reduceNe])
   | ((first|apply zk0|apply zk1|apply zk2|apply zk3|apply zk4|apply zk5|apply zk6|apply zk7|apply zk8|apply zk9) <;> intro hc)
   |(refine callP0 rfl ?_)
   |(refine callD0 rfl ?_)
   |(refine cC (k1) ?_)
   |(refine cX (k1) ?_)
   |(refine cY (k1) ?_)
   |(refine cZ (k1) ?_)
   |(refine cC (k2) ?_)
   |(refine cX (k2) ?_)
   |(refine cY (k2) ?_)
   |(refine cZ (k2) ?_)
   | fail)
  exact ret_v
 | false =>
  repeat' (first
   | (simp -implicitDefEqProofs only [*,zr,Nat.reduceAdd,Nat.reduceSub,Nat.reduceMul,Nat.reduceLT,Nat.reduceLeDiff,Nat.reduceEqDiff,Nat.reduceBEq,reduceIte,reduceCtorEq,Int.reduceLE,Int.reduceLT,Int.reduceToNat,Int.reduceEq,Int.reduceNe])
   | ((first|apply zk0|apply zk1|apply zk2|apply zk3|apply zk4|apply zk5|apply zk6|apply zk7|apply zk8|apply zk9) <;> intro hc)
   |(refine callP0 rfl ?_)
   |(refine callD0 rfl ?_)
   |(refine cC (k1) ?_)
   |(refine cX (k1) ?_)
   |(refine cY (k1) ?_)
   |(refine cZ (k1) ?_)
   |(refine cC (k2) ?_)
   |(refine cX (k2) ?_)
   |(refine cY (k2) ?_)
   |(refine cZ (k2) ?_)
   | fail)
  exact ret_v
theorem bothQ_f (A B : List Nat) (i : Nat) (ha : A.length ≤ 1000000 ∧ RisN A) (hb : B.length ≤ 1000000 ∧ RisN B) : FRet Tryd.prog 30 [.f (.int .i64 i),.f (.fp [hasC [A,B]])] [.c (.v (.bool (decide (i ∈ A) && decide (i ∈ B))))] := by
 have k1 := has_f [A,B] 0 i A rfl ha.1 ha.2
 have k2 := has_f [A,B] 1 i B rfl hb.1 hb.2
 generalize decide (i ∈ A) = a at *
 generalize decide (i ∈ B) = b at *
 refine FCall.of_ax low_graph_net_answer_c8 ?_
 dsimp only [l_graph_net_answer_c8,hasC]
 refine srun_sound 300 _ _ _ _ ?_
 cases a with
 | true =>
  repeat' (first
   | (simp -implicitDefEqProofs only [*,zr,Nat.reduceAdd,Nat.reduceSub,Nat.reduceMul,Nat.reduceLT,Nat.reduceLeDiff,Nat.reduceEqDiff,Nat.reduceBEq,reduceIte,reduceCtorEq,Int.reduceLE,Int.reduceLT,Int.reduceToNat,Int.reduceEq,Int.reduceNe])
   | ((first|apply zk0|apply zk1|apply zk2|apply zk3|apply zk4|apply zk5|apply zk6|apply zk7|apply zk8|apply zk9) <;> intro hc)
   |(refine callP0 rfl ?_)
   |(refine callD0 rfl ?_)
   |(refine cC (k1) ?_)
   |(refine cX (k1) ?_)
   |(refine cY (k1) ?_)
   |(refine cZ (k1) ?_)
   |(refine cC (k2) ?_)
   |(refine cX (k2) ?_)
   |(refine cY (k2) ?_)
   |(refine cZ (k2) ?_)
   | fail)
  exact ret_v
 | false =>
  repeat' (first
   | (simp -implicitDefEqProofs only [*,zr,Nat.reduceAdd,Nat.reduceSub,Nat.reduceMul,Nat.reduceLT,Nat.reduceLeDiff,Nat.reduceEqDiff,Nat.reduceBEq,reduceIte,reduceCtorEq,Int.reduceLE,Int.reduceLT,Int.reduceToNat,Int.reduceEq,Int.reduceNe])
   | ((first|apply zk0|apply zk1|apply zk2|apply zk3|apply zk4|apply zk5|apply zk6|apply zk7|apply zk8|apply zk9) <;> intro hc)
   |(refine callP0 rfl ?_)
   |(refine callD0 rfl ?_)
   |(refine cC (k1) ?_)
   |(refine cX (k1) ?_)
   |(refine cY (k1) ?_)
   |(refine cZ (k1) ?_)
   |(refine cC (k2) ?_)
   |(refine cX (k2) ?_)
   |(refine cY (k2) ?_)
   |(refine cZ (k2) ?_)
   | fail)
  exact ret_v
end Go.Proofs.YticefeanlicapaaDoor
