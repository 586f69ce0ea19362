/-
  Answers: patterns, the other closures, the numbers that a closure takes. No statement of the seat is proved here; no conditions.
-/
import Derived.Test.YticefeanlicapaaDoorQrC
import Derived.Test.YticefeanlicapaaDoorLowB
import Derived.Test.YticefeanlicapaaDoorFrz3
namespace Go.Proofs.YticefeanlicapaaDoor
open Go.RowKit Go.Shelf
set_option linter.unusedVariables false
set_option linter.unusedSimpArgs false
set_option maxRecDepth 100000

theorem cutSuf_f0 (s p : ByteArray) (hs : (s.size : Int) ≤ 9223372036854775807) : FRet Tryd.prog 50 [.f (.str s),.f (.str p)] [.c (.v (.str (trimSuf s p))),.c (.v (.bool (hasSuf s p)))] := by
 have k := hasSuf_f s p hs
 refine FCall.of_ax low_internal_stringslite_CutSuffix ?_
 dsimp only [l_internal_stringslite_CutSuffix]
 unfold trimSuf
 refine srun_sound 300 _ _ _ _ ?_
 cases h : hasSuf s p
 ·rw [h] at k
  rw [if_neg (by decide)]
  repeat' (first
   | (simp -implicitDefEqProofs only [*,zr,Nat.reduceAdd,Nat.reduceSub,Nat.reduceMul,Nat.reduceLT,Nat.reduceLeDiff,Nat.reduceEqDiff,Nat.reduceBEq,reduceIte,reduceCtorEq,Int.reduceLE,Int.reduceLT,Int.reduceToNat,Int.reduceEq,Int.reduceNe])
   | ((first|apply zk0|apply zk1|apply zk2|apply zk3|apply zk4|apply zk5|apply zk6|apply zk7|apply zk8|apply zk9) <;> intro hc)
   |(refine callP0 rfl ?_)
   |(refine callD0 rfl ?_)
   |(refine cP (k) ?_)
   |(refine cD (k) ?_)
   |(refine cF (k) ?_)
   |(refine cO (k) ?_)
   | fail)
  exact ret_vv
 ·rw [if_pos rfl]
  have hle : (p.size : Int) ≤ s.size := by
   unfold hasSuf at h
   simp only [Bool.and_eq_true,decide_eq_true_eq] at h
   exact h.1
  rw [h] at k
  have hw : IntKind.i64.wrap ((s.size : Int) - p.size) = ((s.size - p.size : Nat) : Int) := by rw [wrap64] <;> omega
  have c1 : ((s.size - p.size : Nat) : Int) ≤ s.size := by omega
  have c2 : (0 : Int) ≤ ((s.size - p.size : Nat) : Int) := by omega
  replace c1 := le_tt c1
  replace c2 := le_tt c2
  clear h hle
  repeat' (first
   | (simp -implicitDefEqProofs only [*,zr,Nat.reduceAdd,Nat.reduceSub,Nat.reduceMul,Nat.reduceLT,Nat.reduceLeDiff,Nat.reduceEqDiff,Nat.reduceBEq,reduceIte,reduceCtorEq,Int.reduceLE,Int.reduceLT,Int.reduceToNat,Int.reduceEq,Int.reduceNe])
   | ((first|apply zk0|apply zk1|apply zk2|apply zk3|apply zk4|apply zk5|apply zk6|apply zk7|apply zk8|apply zk9) <;> intro hc)
   |(refine callP0 rfl ?_)
   |(refine callD0 rfl ?_)
   |(refine cP (k) ?_)
   |(refine cD (k) ?_)
   |(refine cF (k) ?_)
   |(refine cO (k) ?_)
   | fail)
  exact ret_vv
theorem cutSuf_f (s p : ByteArray) (hs : (s.size : Int) ≤ 9223372036854775807) : FRet Tryd.prog 40 [.f (.str s),.f (.str p)] [.c (.v (.str (trimSuf s p))),.c (.v (.bool (hasSuf s p)))] := by
 have k := cutSuf_f0 s p hs
 refine FCall.of_ax low_strings_CutSuffix ?_
 dsimp only [l_strings_CutSuffix]
 refine srun_sound 300 _ _ _ _ ?_
 generalize trimSuf s p = a at *
 generalize hasSuf s p = b at *
 repeat' (first
  | (simp -implicitDefEqProofs only [*,zr,Nat.reduceAdd,Nat.reduceSub,Nat.reduceMul,Nat.reduceLT,Nat.reduceLeDiff,Nat.reduceEqDiff,Nat.reduceBEq,reduceIte,reduceCtorEq,Int.reduceLE,Int.reduceLT,Int.reduceToNat,Int.reduceEq,Int.reduceNe])
  | ((first|apply zk0|apply zk1|apply zk2|apply zk3|apply zk4|apply zk5|apply zk6|apply zk7|apply zk8|apply zk9) <;> intro hc)
  |(refine callP0 rfl ?_)
  |(refine callD0 rfl ?_)
  |(refine cP (k) ?_)
  |(refine cD (k) ?_)
  |(refine cF (k) ?_)
  |(refine cO (k) ?_)
  | fail)
 exact ret_vv
theorem hasPre_f1 (s p : ByteArray) : FRet Tryd.prog 51 [.f (.str s),.f (.str p)] [.c (.v (.bool (hasPre s p)))] := by
 have k := hasPre_f s p
 generalize hasPre s p = b at *
 refine FCall.of_ax low_strings_HasPrefix ?_
 dsimp only [l_strings_HasPrefix]
 refine srun_sound 300 _ _ _ _ ?_
 repeat' (first
  | (simp -implicitDefEqProofs only [*,zr,Nat.reduceAdd,Nat.reduceSub,Nat.reduceMul,Nat.reduceLT,Nat.reduceLeDiff,Nat.reduceEqDiff,Nat.reduceBEq,reduceIte,reduceCtorEq,Int.reduceLE,Int.reduceLT,Int.reduceToNat,Int.reduceEq,Int.reduceNe])
  | ((first|apply zk0|apply zk1|apply zk2|apply zk3|apply zk4|apply zk5|apply zk6|apply zk7|apply zk8|apply zk9) <;> intro hc)
  |(refine callP0 rfl ?_)
  |(refine callD0 rfl ?_)
  |(refine cP (k) ?_)
  |(refine cD (k) ?_)
  |(refine cF (k) ?_)
  |(refine cO (k) ?_)
  | fail)
 exact ret_v
theorem withinP_f (s p : ByteArray) (hp : (p.size : Int) ≤ 140737488355328) : FRet Tryd.prog 41 [.f (.str s),.f (.str p)] [.c (.v (.bool (hasPre s (p ++ ⟨#[47]⟩))))] := by
 have k := hasPre_f1 s (p ++ ⟨#[47]⟩)
 have h9 : ((p : ByteArray).size + (⟨#[47]⟩ : ByteArray).size ≤ 9223372036854775807) = True := by
  rw [eq_iff_iff,iff_true]
  show p.size + 1 ≤ _
  omega
 refine FCall.of_ax low_blob_Within ?_
 dsimp only [l_blob_Within]
 refine srun_sound 300 _ _ _ _ ?_
 obtain ⟨b,hb⟩ : ∃ b,hasPre s (p ++ ⟨#[47]⟩) = b := ⟨_,rfl⟩
 rw [hb] at k ⊢
 repeat' (first
  | (simp -implicitDefEqProofs only [*,zr,Nat.reduceAdd,Nat.reduceSub,Nat.reduceMul,Nat.reduceLT,Nat.reduceLeDiff,Nat.reduceEqDiff,Nat.reduceBEq,reduceIte,reduceCtorEq,Int.reduceLE,Int.reduceLT,Int.reduceToNat,Int.reduceEq,Int.reduceNe])
  | ((first|apply zk0|apply zk1|apply zk2|apply zk3|apply zk4|apply zk5|apply zk6|apply zk7|apply zk8|apply zk9) <;> intro hc)
  |(refine callP0 rfl ?_)
  |(refine callD0 rfl ?_)
  |(refine cP (k) ?_)
  |(refine cD (k) ?_)
  |(refine cF (k) ?_)
  |(refine cO (k) ?_)
  | fail)
 exact ret_v
def inPatV (p g : ByteArray) : Bool :=
 if p.extract 2 p.size = ⟨#[46,46,46]⟩ then true
 else if hasSuf (p.extract 2 p.size) ⟨#[47,46,46,46]⟩ = true then decide (g = trimSuf (p.extract 2 p.size) ⟨#[47,46,46,46]⟩) || hasPre g (trimSuf (p.extract 2 p.size) ⟨#[47,46,46,46]⟩ ++ ⟨#[47]⟩)
 else decide (g = p.extract 2 p.size)
theorem inPattern_f (p g : ByteArray) (h2 : 2 ≤ p.size) (hs : (p.size : Int) ≤ 140737488355328) : FRet Tryd.prog 26 [.f (.str p),.f (.str g)] [.c (.v (.bool (inPatV p g)))] := by
 unfold inPatV
 have hel : (p.extract 2 p.size).size ≤ p.size := by rw [ByteArray.size_extract];omega
 have c1 : ((2 : Int) ≤ (p.size : Int) ∧ (p.size : Int) ≤ (p.size : Int)) = True := by rw [eq_iff_iff,iff_true];exact ⟨by omega,Int.le_refl _⟩
 have c2 : ((2 : Int) ≤ (p.size : Int)) = True := by rw [eq_iff_iff,iff_true];omega
 refine FCall.of_ax low_graph_inPattern ?_
 dsimp only [l_graph_inPattern]
 refine srun_sound 300 _ _ _ _ ?_
 generalize hr : p.extract 2 p.size = r at *
 have k := cutSuf_f r ⟨#[47,46,46,46]⟩ (by omega)
 have hle := trimSuf_le r ⟨#[47,46,46,46]⟩
 have k2 := withinP_f g (trimSuf r ⟨#[47,46,46,46]⟩) (by omega)
 generalize trimSuf r ⟨#[47,46,46,46]⟩ = q at *
 generalize hasSuf r ⟨#[47,46,46,46]⟩ = b at *
 generalize hasPre g (q ++ ⟨#[47]⟩) = w at *
 by_cases h0 : r = ⟨#[46,46,46]⟩
 ·rw [if_pos h0]
  have d0 := dcT h0
  replace h0 := hide h0
  repeat' (first
   | (simp -implicitDefEqProofs only [*,Int.le_refl,true_and,and_true,zr,Nat.reduceAdd,Nat.reduceSub,Nat.reduceMul,Nat.reduceLT,Nat.reduceLeDiff,Nat.reduceEqDiff,Nat.reduceBEq,reduceIte,reduceCtorEq,Int.reduceLE,Int.reduceLT,Int.reduceToNat,Int.reduceEq,Int.reduceNe])
   | ((first|apply zk0|apply zk1|apply zk2|apply zk3|apply zk4|apply zk5|apply zk6|apply zk7|apply zk8|apply zk9) <;> intro hc)
   |(refine callP0 rfl ?_)
   |(refine callD0 rfl ?_)
   | fail)
  exact ret_v
 rw [if_neg h0]
 have d0 := dcF h0
 replace h0 := hide h0
 cases b with
 | true =>
  rw [if_pos rfl]
  cases hq : decide (g = q) with
  | true =>
   repeat' (first
    | (simp -implicitDefEqProofs only [*,Int.le_refl,true_and,and_true,zr,Nat.reduceAdd,Nat.reduceSub,Nat.reduceMul,Nat.reduceLT,Nat.reduceLeDiff,Nat.reduceEqDiff,Nat.reduceBEq,reduceIte,reduceCtorEq,Int.reduceLE,Int.reduceLT,Int.reduceToNat,Int.reduceEq,Int.reduceNe])
    | ((first|apply zk0|apply zk1|apply zk2|apply zk3|apply zk4|apply zk5|apply zk6|apply zk7|apply zk8|apply zk9) <;> intro hc)
    |(refine callP0 rfl ?_)
    |(refine callD0 rfl ?_)
    |(refine cP (k) ?_)
    |(refine cD (k) ?_)
    |(refine cF (k) ?_)
    |(refine cO (k) ?_)
    | fail)
   exact ret_v
  | false =>
   repeat' (first
    | (simp -implicitDefEqProofs only [*,Int.le_refl,true_and,and_true,zr,Nat.reduceAdd,Nat.reduceSub,Nat.reduceMul,Nat.reduceLT,Nat.reduceLeDiff,Nat.reduceEqDiff,Nat.reduceBEq,reduceIte,reduceCtorEq,Int.reduceLE,Int.reduceLT,Int.reduceToNat,Int.reduceEq,Int.reduceNe])
    | ((first|apply zk0|apply zk1|apply zk2|apply zk3|apply zk4|apply zk5|apply zk6|apply zk7|apply zk8|apply zk9) <;> intro hc)
    |(refine callP0 rfl ?_)
    |(refine callD0 rfl ?_)
    |(refine cP (k) ?_)
    |(refine cD (k) ?_)
    |(refine cF (k) ?_)
    |(refine cO (k) ?_)
    |(refine cP (k2) ?_)
    |(refine cD (k2) ?_)
    |(refine cF (k2) ?_)
    |(refine cO (k2) ?_)
    | fail)
   exact ret_v
 | false =>
  rw [if_neg (show ¬ (false = true) from fun h => by cases h)]
  repeat' (first
   | (simp -implicitDefEqProofs only [*,Int.le_refl,true_and,and_true,zr,Nat.reduceAdd,Nat.reduceSub,Nat.reduceMul,Nat.reduceLT,Nat.reduceLeDiff,Nat.reduceEqDiff,Nat.reduceBEq,reduceIte,reduceCtorEq,Int.reduceLE,Int.reduceLT,Int.reduceToNat,Int.reduceEq,Int.reduceNe])
   | ((first|apply zk0|apply zk1|apply zk2|apply zk3|apply zk4|apply zk5|apply zk6|apply zk7|apply zk8|apply zk9) <;> intro hc)
   |(refine callP0 rfl ?_)
   |(refine callD0 rfl ?_)
   |(refine cP (k) ?_)
   |(refine cD (k) ?_)
   |(refine cF (k) ?_)
   |(refine cO (k) ?_)
   | fail)
  exact ret_v
def pkgV (t : ByteArray) : ByteArray := if okLab t = true then (labOf t).1 else ⟨#[]⟩
theorem pkgOf_f (t : ByteArray) (ht : (t.size : Int) ≤ 140737488355328) : FRet Tryd.prog 27 [.f (.str t)] [.c (.v (.str (pkgV t)))] := by
 have k := readLabel_f t ht
 unfold pkgV
 generalize (if okLab t = true then (labOf t).1 else ⟨#[]⟩) = a at *
 generalize (if okLab t = true then (labOf t).2 else ⟨#[]⟩) = b at *
 generalize (if okLab t = true then (0 : Int) else 10) = c at *
 refine FCall.of_ax low_graph_pkgOf ?_
 dsimp only [l_graph_pkgOf]
 refine srun_sound 300 _ _ _ _ ?_
 repeat' (first
  | (simp -implicitDefEqProofs only [*,zr,Nat.reduceAdd,Nat.reduceSub,Nat.reduceMul,Nat.reduceLT,Nat.reduceLeDiff,Nat.reduceEqDiff,Nat.reduceBEq,reduceIte,reduceCtorEq,Int.reduceLE,Int.reduceLT,Int.reduceToNat,Int.reduceEq,Int.reduceNe])
  | ((first|apply zk0|apply zk1|apply zk2|apply zk3|apply zk4|apply zk5|apply zk6|apply zk7|apply zk8|apply zk9) <;> intro hc)
  |(refine callP0 rfl ?_)
  |(refine callD0 rfl ?_)
  |(refine cP (k) ?_)
  |(refine cD (k) ?_)
  |(refine cF (k) ?_)
  |(refine cO (k) ?_)
  | fail)
 exact ret_v
theorem kindC_f (g : Graph) (D U : List (List Nat)) (A : List Nat) (q : QT) (k n : Int) (t : ByteArray) (ps : List QT) (hq : q = .mk k t n ps) (i : Nat) (x : Node) (hx : g[i]? = some x) (ha : A.length ≤ 1000000 ∧ RisN A) : FRet Tryd.prog 24 [.f (.int .i64 i),.f (.fp [hasC [A]]),.f (.fp [fNet g D U]),.f (.fp (encQ q))] [.c (.v (.bool (decide (i ∈ A) && decide (x.2.1 = t))))] := by
 have k1 := has_f [A] 0 i A rfl ha.1 ha.2
 have hil : (i : Int) < (g.length : Int) := Int.ofNat_lt.2 (List.getElem?_eq_some_iff.1 hx).1
 generalize decide (i ∈ A) = a at *
 subst hq
 obtain ⟨x1,x2,x3,x4,x5,x6⟩ := x
 refine FCall.of_ax low_graph_net_answer_c4 ?_
 dsimp only [l_graph_net_answer_c4,hasC,fNet,frNodes,encQ]
 refine srun_sound 300 _ _ _ _ ?_
 cases a with
 | true =>
  repeat' (first
   | (simp -implicitDefEqProofs only [*,List.getElem?_map,Option.map_some,List.length_map,fNode,zr,Nat.reduceAdd,Nat.reduceSub,Nat.reduceMul,Nat.reduceLT,Nat.reduceLeDiff,Nat.reduceEqDiff,Nat.reduceBEq,reduceIte,reduceCtorEq,Int.reduceLE,Int.reduceLT,Int.reduceToNat,Int.reduceEq,Int.reduceNe])
   | ((first|apply zk0|apply zk1|apply zk2|apply zk3|apply zk4|apply zk5|apply zk6|apply zk7|apply zk8|apply zk9) <;> intro hc)
   |(refine callP0 rfl ?_)
   |(refine callD0 rfl ?_)
   |(refine cC (k1) ?_)
   |(refine cX (k1) ?_)
   |(refine cY (k1) ?_)
   |(refine cZ (k1) ?_)
   | fail)
  exact ret_v
 | false =>
  repeat' (first
   | (simp -implicitDefEqProofs only [*,zr,Nat.reduceAdd,Nat.reduceSub,Nat.reduceMul,Nat.reduceLT,Nat.reduceLeDiff,Nat.reduceEqDiff,Nat.reduceBEq,reduceIte,reduceCtorEq,Int.reduceLE,Int.reduceLT,Int.reduceToNat,Int.reduceEq,Int.reduceNe])
   | ((first|apply zk0|apply zk1|apply zk2|apply zk3|apply zk4|apply zk5|apply zk6|apply zk7|apply zk8|apply zk9) <;> intro hc)
   |(refine callP0 rfl ?_)
   |(refine callD0 rfl ?_)
   |(refine cC (k1) ?_)
   |(refine cX (k1) ?_)
   |(refine cY (k1) ?_)
   |(refine cZ (k1) ?_)
   | fail)
  exact ret_v
theorem inC_f (g : Graph) (D U : List (List Nat)) (A : List Nat) (q : QT) (k n : Int) (t : ByteArray) (ps : List QT) (hq : q = .mk k t n ps) (ht : 2 ≤ t.size ∧ (t.size : Int) ≤ 140737488355328) (i : Nat) (x : Node) (hx : g[i]? = some x) (hxs : (x.1.size : Int) ≤ 140737488355328) (ha : A.length ≤ 1000000 ∧ RisN A) : FRet Tryd.prog 25 [.f (.int .i64 i),.f (.fp [hasC [A]]),.f (.fp (encQ q)),.f (.fp [fNet g D U])] [.c (.v (.bool (decide (i ∈ A) && inPatV t (pkgV x.1))))] := by
 have k1 := has_f [A] 0 i A rfl ha.1 ha.2
 have k2 := pkgOf_f x.1 hxs
 have k3 := inPattern_f t (pkgV x.1) ht.1 ht.2
 have hil : (i : Int) < (g.length : Int) := Int.ofNat_lt.2 (List.getElem?_eq_some_iff.1 hx).1
 generalize decide (i ∈ A) = a at *
 generalize inPatV t (pkgV x.1) = b at *
 generalize pkgV x.1 = pk at *
 subst hq
 obtain ⟨x1,x2,x3,x4,x5,x6⟩ := x
 dsimp only at k2
 refine FCall.of_ax low_graph_net_answer_c5 ?_
 dsimp only [l_graph_net_answer_c5,hasC,fNet,frNodes,encQ]
 refine srun_sound 300 _ _ _ _ ?_
 cases a with
 | true =>
  repeat' (first
   | (simp -implicitDefEqProofs only [*,List.getElem?_map,Option.map_some,List.length_map,fNode,zr,Nat.reduceAdd,Nat.reduceSub,Nat.reduceMul,Nat.reduceLT,Nat.reduceLeDiff,Nat.reduceEqDiff,Nat.reduceBEq,reduceIte,reduceCtorEq,Int.reduceLE,Int.reduceLT,Int.reduceToNat,Int.reduceEq,Int.reduceNe])
   | ((first|apply zk0|apply zk1|apply zk2|apply zk3|apply zk4|apply zk5|apply zk6|apply zk7|apply zk8|apply zk9) <;> intro hc)
   |(refine callP0 rfl ?_)
   |(refine callD0 rfl ?_)
   |(refine cC (k1) ?_)
   |(refine cX (k1) ?_)
   |(refine cY (k1) ?_)
   |(refine cZ (k1) ?_)
   |(refine cP (k2) ?_)
   |(refine cD (k2) ?_)
   |(refine cF (k2) ?_)
   |(refine cO (k2) ?_)
   |(refine cP (k3) ?_)
   |(refine cD (k3) ?_)
   |(refine cF (k3) ?_)
   |(refine cO (k3) ?_)
   | fail)
  exact ret_v
 | false =>
  repeat' (first
   | (simp -implicitDefEqProofs only [*,zr,Nat.reduceAdd,Nat.reduceSub,Nat.reduceMul,Nat.reduceLT,Nat.reduceLeDiff,Nat.reduceEqDiff,Nat.reduceBEq,reduceIte,reduceCtorEq,Int.reduceLE,Int.reduceLT,Int.reduceToNat,Int.reduceEq,Int.reduceNe])
   | ((first|apply zk0|apply zk1|apply zk2|apply zk3|apply zk4|apply zk5|apply zk6|apply zk7|apply zk8|apply zk9) <;> intro hc)
   |(refine callP0 rfl ?_)
   |(refine callD0 rfl ?_)
   |(refine cC (k1) ?_)
   |(refine cX (k1) ?_)
   |(refine cY (k1) ?_)
   |(refine cZ (k1) ?_)
   | fail)
  exact ret_v
theorem rcF_N {L : List Nat} : RcF (.own 1 L.length (rowF encN L)) (frN L) := rcF_row0 (enc := encN) (sz := 1) (l := L) (fun _ => rfl)
theorem filt_succ {p : Nat → Bool} (s : Nat) : (List.range (s + 1)).filter p = (List.range s).filter p ++ (if p s = true then [s] else []) := by
 rw [List.range_succ,List.filter_append,List.filter_cons,List.filter_nil]
theorem filt_len (p : Nat → Bool) (s : Nat) : ((List.range s).filter p).length ≤ s := by
 have := List.length_filter_le p (List.range s)
 rwa [List.length_range] at this
set_option maxHeartbeats 1000000 in
theorem some_f (g : Graph) (D U : List (List Nat)) (fn : FuncId) (caps : List AV) (p : Nat → Bool) (hg : g.length ≤ 1000) (hp : ∀ i,i < g.length → FRet Tryd.prog fn ([.f (.int .i64 i)] ++ caps) [.c (.v (.bool (p i)))]) (hcp : caps.all AV.pure = true) :
  FRet Tryd.prog 17 [.clo (.func fn) caps,.f (.fp [fNet g D U])] [.c (.v (frN ((List.range g.length).filter p)))] := by
 suffices h : FRet Tryd.prog 17 [.clo (.func fn) caps,.f (.fp [fNet g D U])] [.c (.own 1 ((List.range g.length).filter p).length (rowF encN ((List.range g.length).filter p)))] from h.frz2 ⟨rcF_N,trivial⟩
 refine FCall.of_ax low_graph_net_answer_c1 ?_
 dsimp only [l_graph_net_answer_c1,fNet,frNodes]
 refine srun_sound 300 _ _ _ _ ?_
 replace hp := hide hp
 repeat' (first
  | (simp -implicitDefEqProofs only [*,List.length_map,zr,Nat.reduceAdd,Nat.reduceSub,Nat.reduceMul,Nat.reduceLT,Nat.reduceLeDiff,Nat.reduceEqDiff,Nat.reduceBEq,reduceIte,reduceCtorEq,Int.reduceLE,Int.reduceLT,Int.reduceToNat,Int.reduceEq,Int.reduceNe])
  | ((first|apply zk0|apply zk1|apply zk2|apply zk3|apply zk4|apply zk5|apply zk6|apply zk7|apply zk8|apply zk9) <;> intro hc)
  |(refine callP0 rfl ?_)
  |(refine callD0 rfl ?_)
  | fail)
 refine ax_loopU (S := Nat) 23 [0,10] [] (fun s => [(4,.sl 20 1 1 0 ((List.range s).filter p).length),(11,.f (.int .i64 s))]) (fun s => [(20,1,AObj.cells ((rowF encN ((List.range s).filter p)).map AV.f))]) (fun s => s ≤ g.length) (fun s => g.length - s) (0) [20] ?_ ?_ fun s hs => ?_
 ·exact Nat.zero_le _
 ·refine wk_i ?_ ?_ <;> simp only [hcp,so_clo,List.range_zero,List.filter_nil,row_nil,List.map_nil,zw,Nat.reduceEqDiff,Nat.reduceBEq,Nat.reduceLT,Nat.reduceLeDiff,reduceIte,reduceCtorEq]
 refine srun_sound 300 _ _ _ _ ?_
 rcases Nat.lt_or_ge s g.length with hlt | hge
 ·have h4 := inc64 hlt (by omega)
  have h2 := lt_t hlt
  have kp := hp.out s hlt
  have hs2 := filt_succ (p := p) s
  have hle := filt_len p s
  have h8 : ((((List.range s).filter p).length + 1) * 8 ≤ 140737488355328) = True := by rw [eq_iff_iff,iff_true];omega
  have hrl : (rowF encN ((List.range s).filter p)).length = ((List.range s).filter p).length * 1 := row_len (fun _ => rfl)
  have hrs : rowF encN ((List.range s).filter p ++ [s]) = rowF encN ((List.range s).filter p) ++ encN s := row_snoc
  clear hle
  generalize (List.range s).filter p = m at *
  replace hs2 := hide hs2
  generalize hRm : rowF encN m = R at *
  replace hrs := hide hrs
  cases hh : p s
  ·rw [hh] at kp
   repeat' (first
    | (simp -implicitDefEqProofs only [*,zr,Nat.reduceAdd,Nat.reduceSub,Nat.reduceMul,Nat.reduceLT,Nat.reduceLeDiff,Nat.reduceEqDiff,Nat.reduceBEq,reduceIte,reduceCtorEq,Int.reduceLE,Int.reduceLT,Int.reduceToNat,Int.reduceEq,Int.reduceNe])
    | ((first|apply zk0|apply zk1|apply zk2|apply zk3|apply zk4|apply zk5|apply zk6|apply zk7|apply zk8|apply zk9) <;> intro hc)
    |(refine callP0 rfl ?_)
    |(refine callD0 rfl ?_)
    |(refine cC (kp) ?_)
    |(refine cX (kp) ?_)
    |(refine cY (kp) ?_)
    |(refine cZ (kp) ?_)
    | fail)
   have e := hs2.out
   rw [hh,if_neg (by decide),List.append_nil] at e
   refine ⟨s + 1,hlt,by omega,?_⟩
   rw [e,hRm]
   refine wk_i ?_ ?_ <;> simp only [hcp,so_clo,zw,Nat.reduceEqDiff,Nat.reduceBEq,Nat.reduceLT,Nat.reduceLeDiff,reduceIte,reduceCtorEq]
  ·rw [hh] at kp
   repeat' (first
    | (simp -implicitDefEqProofs only [*,zr,Nat.reduceAdd,Nat.reduceSub,Nat.reduceMul,Nat.reduceLT,Nat.reduceLeDiff,Nat.reduceEqDiff,Nat.reduceBEq,reduceIte,reduceCtorEq,Int.reduceLE,Int.reduceLT,Int.reduceToNat,Int.reduceEq,Int.reduceNe])
    | ((first|apply zk0|apply zk1|apply zk2|apply zk3|apply zk4|apply zk5|apply zk6|apply zk7|apply zk8|apply zk9) <;> intro hc)
    |(refine callP0 rfl ?_)
    |(refine callD0 rfl ?_)
    |(refine cC (kp) ?_)
    |(refine cX (kp) ?_)
    |(refine cY (kp) ?_)
    |(refine cZ (kp) ?_)
    | fail)
   have e := hs2.out
   rw [hh,if_pos rfl] at e
   refine ⟨s + 1,hlt,by omega,?_⟩
   rw [e,hrs.out]
   refine wk_i ?_ ?_ <;> simp only [hcp,so_clo,List.length_append,zw,Nat.reduceEqDiff,Nat.reduceBEq,Nat.reduceLT,Nat.reduceLeDiff,reduceIte,reduceCtorEq]
   all_goals first | exact SlotsOk.of_eq (by simp [encN,fN]) | rfl | omega
 ·obtain rfl : s = g.length := by omega
  have h2 := lt_f hge
  repeat' (first
   | (simp -implicitDefEqProofs only [*,zr,Nat.reduceAdd,Nat.reduceSub,Nat.reduceMul,Nat.reduceLT,Nat.reduceLeDiff,Nat.reduceEqDiff,Nat.reduceBEq,reduceIte,reduceCtorEq,Int.reduceLE,Int.reduceLT,Int.reduceToNat,Int.reduceEq,Int.reduceNe])
   | ((first|apply zk0|apply zk1|apply zk2|apply zk3|apply zk4|apply zk5|apply zk6|apply zk7|apply zk8|apply zk9) <;> intro hc)
   |(refine callP0 rfl ?_)
   |(refine callD0 rfl ?_)
   | fail)
  exact ret_o rfl (by rw [row_len (sz := 1) (fun _ => rfl)];exact Nat.le_refl _)
end Go.Proofs.YticefeanlicapaaDoor
