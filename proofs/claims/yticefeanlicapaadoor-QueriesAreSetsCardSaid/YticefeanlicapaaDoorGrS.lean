/-
  Graphs on the machine: how many steps it is. No statement of the seat is proved here; no conditions.
-/
import Derived.Test.YticefeanlicapaaDoorGrH
namespace Go.Proofs.YticefeanlicapaaDoor
open Go.RowKit Go.Shelf
set_option linter.unusedVariables false
set_option linter.unusedSimpArgs false
set_option maxRecDepth 100000

abbrev BSt := List Int × List Nat
def bPush (d : Int) (s : BSt) (k : Nat) : BSt := if s.1.getD k 0 < 0 then (s.1.set k d,s.2 ++ [k]) else s
def bRow (E : List (List Nat)) (O : List Int) (P : List Nat) (i : Nat) : BSt := (E.getD i []).foldl (bPush (O.getD i 0 + 1)) (O,P)
def bGo (E : List (List Nat)) : Nat → BSt → List Int
 | 0,s => s.1
 | _ + 1,(O,[]) => O
 | m + 1,(O,i :: P) => bGo E m (bRow E O P i)
def bInit (n : Nat) (from_ : List Nat) : BSt := from_.foldl (bPush 0) (List.replicate n (-1),[])
def stepsV (E : List (List Nat)) (n : Nat) (from_ : List Nat) : List Int := bGo E n (bInit n from_)
def negs (O : List Int) : Nat := O.countP fun z => decide (z < 0)
def mu (s : BSt) : Nat := negs s.1 + s.2.length
theorem getD_some {α : Type} {l : List α} {k : Nat} {x d : α} (h : l[k]? = some x) : l.getD k d = x := by rw [List.getD_eq_getElem?_getD,h];rfl
theorem negs_set : ∀ {O : List Int} {k : Nat} {d : Int},O.getD k 0 < 0 → 0 ≤ d → negs (O.set k d) + 1 = negs O
 | [],k,d,h,_ => by simp at h
 | z :: O,0,d,h,hd => by
  have h : z < 0 := h
  unfold negs
  rw [List.set_cons_zero,List.countP_cons,List.countP_cons,if_neg (by simp;omega),if_pos (by simpa using h)]
 | z :: O,k + 1,d,h,hd => by
  have h : O.getD k 0 < 0 := by simpa using h
  have := negs_set h hd
  unfold negs at this ⊢
  rw [List.set_cons_succ,List.countP_cons,List.countP_cons];omega
theorem mu_push {s : BSt} {d : Int} {k : Nat} (hd : 0 ≤ d) : mu (bPush d s k) = mu s := by
 unfold bPush
 split
 ·rename_i h
  have := negs_set h hd
  unfold mu
  simp only [List.length_append,List.length_cons,List.length_nil];omega
 ·rfl
structure BOk (n : Nat) (s : BSt) : Prop where
 len : s.1.length = n
 nn : ∀ k ∈ s.2,k < n ∧ 0 ≤ s.1.getD k 0
 lo : ∀ z ∈ s.1,-1 ≤ z ∧ z ≤ (n : Int) - mu s
 mn : mu s ≤ n
theorem getD_set {O : List Int} {k i : Nat} {d : Int} (hk : k < O.length) : (O.set k d).getD i 0 = if k = i then d else O.getD i 0 := by
 rw [List.getD_eq_getElem?_getD]
 split
 ·rename_i e;subst e;rw [List.getElem?_set_self hk];rfl
 ·rename_i e;rw [List.getElem?_set_ne e,List.getD_eq_getElem?_getD]
theorem push_keep {s : BSt} {d : Int} {k i : Nat} (h : 0 ≤ s.1.getD i 0) : (bPush d s k).1.getD i 0 = s.1.getD i 0 := by
 unfold bPush
 split
 ·rename_i h1
  have hk : k < s.1.length := by
   rcases Nat.lt_or_ge k s.1.length with h2 | h2
   ·exact h2
   ·rw [List.getD_eq_getElem?_getD,List.getElem?_eq_none h2] at h1;exact absurd h1 (by decide)
  show (s.1.set k d).getD i 0 = _
  rw [getD_set hk,if_neg (fun e => by subst e;omega)]
 ·rfl
theorem push_ok {n : Nat} {s : BSt} {d : Int} {k : Nat} (h : BOk n s) (hk : k < n) (hd : 0 ≤ d) (hdn : d ≤ (n : Int) - mu s) : BOk n (bPush d s k) := by
 have hm := mu_push (s := s) (k := k) hd
 have hkeep := fun i => push_keep (s := s) (d := d) (k := k) (i := i)
 refine ⟨?_,?_,?_,by rw [hm];exact h.mn⟩
 ·unfold bPush;split
  ·show (s.1.set k d).length = n
   rw [List.length_set];exact h.len
  ·exact h.len
 ·intro i hi
  have hc : i ∈ s.2 ∨ (i = k ∧ s.1.getD k 0 < 0) := by
   unfold bPush at hi
   split at hi
   ·rename_i h1
    rcases List.mem_append.1 hi with h2 | h2
    ·exact .inl h2
    ·exact .inr ⟨List.mem_singleton.1 h2,h1⟩
   ·exact .inl hi
  rcases hc with h2 | ⟨rfl,h2⟩
  ·have := h.nn i h2
   rw [hkeep i this.2];exact this
  ·refine ⟨hk,?_⟩
   unfold bPush
   rw [if_pos h2]
   show 0 ≤ (s.1.set i d).getD i 0
   rw [getD_set (by rw [h.len];exact hk),if_pos rfl];exact hd
 ·rw [hm]
  intro z hz
  unfold bPush at hz
  split at hz
  ·rcases List.mem_or_eq_of_mem_set hz with h2 | h2
   ·exact h.lo z h2
   ·subst h2;omega
  ·exact h.lo z hz
theorem init_ok {n : Nat} : ∀ {l : List Nat} {s : BSt},BOk n s → (∀ k ∈ l,k < n) → BOk n (l.foldl (bPush 0) s)
 | [],s,h,_ => h
 | k :: l,s,h,hl => by
  rw [List.foldl_cons]
  exact init_ok (push_ok h (hl k (List.mem_cons_self ..)) (Int.le_refl _) (by have := h.mn;omega)) fun i hi => hl i (List.mem_cons_of_mem _ hi)
theorem start_b (n : Nat) : BOk n (List.replicate n (-1),[]) := by
 have hm : mu (List.replicate n (-1),[]) = n := by simp [mu,negs,List.countP_replicate]
 refine ⟨by simp,fun k hk => (by cases hk),fun z hz => ?_,by rw [hm];exact Nat.le_refl _⟩
 rw [hm,(List.mem_replicate.1 hz).2];omega
theorem row_ok {n : Nat} {v : Int} {i : Nat} : ∀ {l : List Nat} {s : BSt},BOk n s → (∀ k ∈ l,k < n) → 0 ≤ v → s.1.getD i 0 = v → v + 1 ≤ (n : Int) - mu s → BOk n (l.foldl (bPush (v + 1)) s) ∧ (l.foldl (bPush (v + 1)) s).1.getD i 0 = v ∧ mu (l.foldl (bPush (v + 1)) s) = mu s
 | [],s,h,_,_,hv,_ => ⟨h,hv,rfl⟩
 | k :: l,s,h,hl,h0,hv,hm => by
  rw [List.foldl_cons]
  have e := mu_push (s := s) (d := v + 1) (k := k) (by omega)
  obtain ⟨a,b,c⟩ := row_ok (l := l) (s := bPush (v + 1) s k) (push_ok h (hl k (List.mem_cons_self ..)) (by omega) hm) (fun i hi => hl i (List.mem_cons_of_mem _ hi)) h0 (by rw [push_keep (by rw [hv];exact h0),hv]) (by rw [e];exact hm)
  exact ⟨a,b,c.trans e⟩
theorem pop_ok {n : Nat} {O : List Int} {i : Nat} {P : List Nat} (h : BOk n (O,i :: P)) : BOk n (O,P) ∧ i < n ∧ 0 ≤ O.getD i 0 ∧ O.getD i 0 + 1 ≤ (n : Int) - mu (O,P) ∧ mu (O,i :: P) = mu (O,P) + 1 := by
 have hm : mu (O,i :: P) = mu (O,P) + 1 := by simp [mu];omega
 obtain ⟨h1,h2⟩ := h.nn i (List.mem_cons_self ..)
 have hl := h.len
 have hmn := h.mn
 rw [hm] at hmn
 refine ⟨⟨h.len,fun k hk => h.nn k (List.mem_cons_of_mem _ hk),fun z hz => ?_,by omega⟩,h1,h2,?_,hm⟩
 ·have := h.lo z hz
  rw [hm] at this;omega
 ·have hlt : i < O.length := by have : O.length = n := hl;omega
  have := h.lo (O.getD i 0) (by rw [getD_some (List.getElem?_eq_getElem hlt)];exact List.getElem_mem _)
  rw [hm] at this;omega
def fillN (n s : Nat) : List Int := List.replicate s (-1) ++ List.replicate (n - s) 0
theorem fillN_set {n s : Nat} (h : s < n) : (fillN n s).set s (-1) = fillN n (s + 1) := by
 rw [fillN,fillN,List.set_append_right _ _ (by simp),List.length_replicate,Nat.sub_self,show n - s = (n - (s + 1)) + 1 by omega,List.replicate_succ,List.set_cons_zero,List.replicate_succ',List.append_assoc];rfl
theorem fillN_len {n s : Nat} (h : s ≤ n) : (fillN n s).length = n := by simp [fillN];omega
def frI (l : List Int) : FV := .fr 1 (l.map fun z => [fI z])
theorem frI_eq (l : List Int) : frI l = .fr 1 ((l.map fI).map fun x => [x]) := by unfold frI;rw [List.map_map];rfl
theorem push_t {s : BSt} {d : Int} {k : Nat} {z : Int} (h : s.1[k]? = some z) (hz : decide (z < 0) = true) : bPush d s k = (s.1.set k d,s.2 ++ [k]) := by
 unfold bPush;rw [getD_some h,if_pos (of_decide_eq_true hz)]
theorem push_f {s : BSt} {d : Int} {k : Nat} {z : Int} (h : s.1[k]? = some z) (hz : decide (z < 0) = false) : bPush d s k = s := by
 unfold bPush;rw [getD_some h,if_neg (of_decide_eq_false hz)]
theorem steps_f (E : List (List Nat)) (from_ : List Nat) (n : Nat) (hE : E.length = n) (hn : n ≤ 1000) (hEr : ∀ r ∈ E,r.length ≤ 300000 ∧ ∀ k ∈ r,k < n) (hf : ∀ k ∈ from_,k < n) (hfl : from_.length ≤ 1000000) :
  FRet Tryd.prog 39 [.f (frRows E),.f (frN from_)] [.c (.v (frI (stepsV E n from_)))] := by
 refine FCall.of_ax low_graph_steps ?_
 dsimp only [l_graph_steps,frRows,frN]
 refine srun_sound 300 _ _ _ _ ?_
 have k0 := le_tt (show (0 : Int) ≤ (n : Int) by omega)
 have k1 := le_tt (show ((n : Int) * ((8 : Nat) : Int)) ≤ 140737488355328 by omega)
 have k2 := le_tt (show (n : Int) ≤ 9223372036854775807 by omega)
 replace hEr := hide hEr
 replace hf := hide hf
 repeat' (first
  | (simp -implicitDefEqProofs only [*,Int.le_refl,zr,Nat.reduceAdd,Nat.reduceSub,Nat.reduceMul,Nat.reduceLT,Nat.reduceLeDiff,Nat.reduceEqDiff,Nat.reduceBEq,reduceIte,reduceCtorEq,Int.reduceLE,Int.reduceLT,Int.reduceToNat,Int.reduceEq,Int.reduceNe])
  | ((first|apply zk0|apply zk1|apply zk2|apply zk3|apply zk4|apply zk5|apply zk6|apply zk7|apply zk8|apply zk9) <;> intro hc)
  |(refine callP0 rfl ?_)
  |(refine callD0 rfl ?_)
  | fail)
 have z0 : zeros n [FV.int .i64 0] = ((fillN n 0).map fI).map AV.f := by
  rw [zeros_one,fillN];simp [fI]
 refine ax_loopU (S := Nat) 80 [0,1,5,17] [] (fun s => [(18,.f (.int .i64 s))]) (fun s => [(15,1,.cells (((fillN n s).map fI).map .f))]) (fun s => s ≤ n) (fun s => n - s) (0) [] ?_ ?_ fun s hs => ?_
 ·exact Nat.zero_le _
 ·refine wk_i ?_ ?_ <;> simp only [z0,zw,Nat.reduceEqDiff,Nat.reduceBEq,Nat.reduceLT,Nat.reduceLeDiff,reduceIte,reduceCtorEq]
 refine srun_sound 300 _ _ _ _ ?_
 clear z0
 rcases Nat.lt_or_ge s n with hlt | hge
 ·have h4 := inc64 hlt (by omega)
  have h2 := lt_t hlt
  have hll := fillN_len hs
  have hset := fset (fillN n s) s (-1)
  rw [fillN_set hlt] at hset
  have hk := nle_t (show s + 1 ≤ n by omega)
  repeat' (first
   | (simp -implicitDefEqProofs only [*,zr,Nat.reduceAdd,Nat.reduceSub,Nat.reduceMul,Nat.reduceLT,Nat.reduceLeDiff,Nat.reduceEqDiff,Nat.reduceBEq,reduceIte,reduceCtorEq,Int.reduceLE,Int.reduceLT,Int.reduceToNat,Int.reduceEq,Int.reduceNe])
   | ((first|apply zk0|apply zk1|apply zk2|apply zk3|apply zk4|apply zk5|apply zk6|apply zk7|apply zk8|apply zk9) <;> intro hc)
   |(refine callP0 rfl ?_)
   |(refine callD0 rfl ?_)
   | fail)
  refine ⟨s + 1,hlt,by omega,?_⟩
  refine wk_i ?_ ?_ <;> simp only [hset,zw,Nat.reduceEqDiff,Nat.reduceBEq,Nat.reduceLT,Nat.reduceLeDiff,reduceIte,reduceCtorEq]
 obtain rfl : n = s := by omega
 have h2 := lt_f hge
 have e0 : fillN n n = List.replicate n (-1) := by simp [fillN]
 rw [e0]
 repeat' (first
  | (simp -implicitDefEqProofs only [*,zr,Nat.reduceAdd,Nat.reduceSub,Nat.reduceMul,Nat.reduceLT,Nat.reduceLeDiff,Nat.reduceEqDiff,Nat.reduceBEq,reduceIte,reduceCtorEq,Int.reduceLE,Int.reduceLT,Int.reduceToNat,Int.reduceEq,Int.reduceNe])
  | ((first|apply zk0|apply zk1|apply zk2|apply zk3|apply zk4|apply zk5|apply zk6|apply zk7|apply zk8|apply zk9) <;> intro hc)
  |(refine callP0 rfl ?_)
  |(refine callD0 rfl ?_)
  | fail)
 have hB := fun j => init_ok (start_b n) (fun k hk => hf.out k (List.mem_of_mem_take (i := j) hk))
 refine ax_loopU (S := Nat) 80 [0,5,25,26] [] (fun s => [(7,.sl 42 1 1 0 (bInit n (from_.take s)).2.length),(27,.f (.int .i64 s))]) (fun s => [(15,1,.cells (((bInit n (from_.take s)).1.map fI).map .f)),(42,1,.cells (((bInit n (from_.take s)).2.map fN).map .f))]) (fun s => s ≤ from_.length) (fun s => from_.length - s) (0) [42] ?_ ?_ fun s hs => ?_
 ·exact Nat.zero_le _
 ·refine wk_i ?_ ?_ <;> simp only [bInit,List.take_zero,List.foldl_nil,zw,Nat.reduceEqDiff,Nat.reduceBEq,Nat.reduceLT,Nat.reduceLeDiff,reduceIte,reduceCtorEq]
 refine srun_sound 300 _ _ _ _ ?_
 rcases Nat.lt_or_ge s from_.length with hlt | hge3
 ·obtain ⟨k,hk⟩ := get_some hlt
  have hkn := hf.out k (List.mem_of_getElem? hk)
  have hBs : BOk n (bInit n (from_.take s)) := hB s
  have hnx : bInit n (from_.take (s + 1)) = bPush 0 (bInit n (from_.take s)) k := by
   unfold bInit;rw [List.take_add_one,hk,List.foldl_append];rfl
  replace hB := hide hB
  generalize bInit n (from_.take s) = st at *
  obtain ⟨O,Q⟩ := st
  have hOl : O.length = n := hBs.len
  have hQl : Q.length ≤ n := by have := hBs.mn;unfold mu at this;dsimp only at this;omega
  obtain ⟨z,hz⟩ := get_some (l := O) (i := k) (by omega)
  have f4 := inc64 hlt (by omega)
  have f2 := lt_t hlt
  have hset := fset O k 0
  have hk3 := nle_t (show k + 1 ≤ n by omega)
  have hk4 := lt_t hkn
  have hk8 := nle_t (show (Q.length + 1) * 8 ≤ 140737488355328 by omega)
  have hO1 : (Q.map fN).map AV.f ++ [AV.f (FV.int .i64 k)] = ((Q ++ [k]).map fN).map AV.f := by simp [fN]
  have hlen : (Q ++ [k]).length = Q.length + 1 := by simp
  dsimp only
  cases hq : decide (z < 0)
  ·rw [push_f hz hq] at hnx
   repeat' (first
    | (simp -implicitDefEqProofs only [*,List.getElem?_map,Option.map_some,fI,fN,zr,Nat.reduceAdd,Nat.reduceSub,Nat.reduceMul,Nat.reduceLT,Nat.reduceLeDiff,Nat.reduceEqDiff,Nat.reduceBEq,reduceIte,reduceCtorEq,Int.reduceLE,Int.reduceLT,Int.reduceToNat,Int.reduceEq,Int.reduceNe])
    | ((first|apply zk0|apply zk1|apply zk2|apply zk3|apply zk4|apply zk5|apply zk6|apply zk7|apply zk8|apply zk9) <;> intro hc)
    |(refine callP0 rfl ?_)
    |(refine callD0 rfl ?_)
    | fail)
   refine ⟨s + 1,hlt,by omega,?_⟩
   rw [hnx]
   refine wk_i ?_ ?_ <;> simp only [zw,Nat.reduceEqDiff,Nat.reduceBEq,Nat.reduceLT,Nat.reduceLeDiff,reduceIte,reduceCtorEq]
  ·rw [push_t hz hq] at hnx
   dsimp only at hnx
   repeat' (first
    | (simp -implicitDefEqProofs only [*,List.getElem?_map,Option.map_some,fI,fN,zr,Nat.reduceAdd,Nat.reduceSub,Nat.reduceMul,Nat.reduceLT,Nat.reduceLeDiff,Nat.reduceEqDiff,Nat.reduceBEq,reduceIte,reduceCtorEq,Int.reduceLE,Int.reduceLT,Int.reduceToNat,Int.reduceEq,Int.reduceNe])
    | ((first|apply zk0|apply zk1|apply zk2|apply zk3|apply zk4|apply zk5|apply zk6|apply zk7|apply zk8|apply zk9) <;> intro hc)
    |(refine callP0 rfl ?_)
    |(refine callD0 rfl ?_)
    | fail)
   refine ⟨s + 1,hlt,by omega,?_⟩
   rw [hnx]
   dsimp only
   rw [hlen]
   refine wk_i ?_ ?_ <;> simp only [hset,hO1,zw,Nat.reduceEqDiff,Nat.reduceBEq,Nat.reduceLT,Nat.reduceLeDiff,reduceIte,reduceCtorEq]
 obtain rfl : s = from_.length := by omega
 have f2 := lt_f hge3
 have hB0 : BOk n (bInit n (from_.take from_.length)) := hB from_.length
 rw [List.take_length] at hB0 ⊢
 clear hB hge3
 repeat' (first
  | (simp -implicitDefEqProofs only [*,zr,Nat.reduceAdd,Nat.reduceSub,Nat.reduceMul,Nat.reduceLT,Nat.reduceLeDiff,Nat.reduceEqDiff,Nat.reduceBEq,reduceIte,reduceCtorEq,Int.reduceLE,Int.reduceLT,Int.reduceToNat,Int.reduceEq,Int.reduceNe])
  | ((first|apply zk0|apply zk1|apply zk2|apply zk3|apply zk4|apply zk5|apply zk6|apply zk7|apply zk8|apply zk9) <;> intro hc)
  |(refine callP0 rfl ?_)
  |(refine callD0 rfl ?_)
  | fail)
 refine ax_loopU (S := List Int × Nat × List Nat) 80 [0,5] [] (fun s => [(7,.sl 42 1 1 s.2.1 (s.2.2.length - s.2.1))]) (fun s => [(15,1,.cells ((s.1.map fI).map .f)),(42,1,.cells ((s.2.2.map fN).map .f))]) (fun s => s.2.1 ≤ s.2.2.length ∧ BOk n (s.1,s.2.2.drop s.2.1) ∧ ∃ m,mu (s.1,s.2.2.drop s.2.1) ≤ m ∧ bGo E m (s.1,s.2.2.drop s.2.1) = stepsV E n from_) (fun s => mu (s.1,s.2.2.drop s.2.1)) ((bInit n from_).1,0,(bInit n from_).2) [] ?_ ?_ fun s hs => ?_
 ·exact ⟨Nat.zero_le _,hB0,n,hB0.mn,rfl⟩
 ·refine wk_i ?_ ?_ <;> simp only [Nat.sub_zero,zw,Nat.reduceEqDiff,Nat.reduceBEq,Nat.reduceLT,Nat.reduceLeDiff,reduceIte,reduceCtorEq]
 obtain ⟨O,off,Q⟩ := s
 obtain ⟨hoff,hBs,m,hm,hgo⟩ := hs
 dsimp only at hoff hBs hm hgo ⊢
 have hOl : O.length = n := hBs.len
 have hQl : Q.length - off ≤ n := by have := hBs.mn;unfold mu at this;rw [List.length_drop] at this;omega
 rcases Nat.lt_or_ge off Q.length with hlt | hge4
 ·obtain ⟨i,hi⟩ := get_some hlt
  have hdr : Q.drop off = i :: Q.drop (off + 1) := by
   obtain ⟨h1,h2⟩ := List.getElem?_eq_some_iff.1 hi
   rw [List.drop_eq_getElem_cons h1,h2]
  rw [hdr] at hBs hm hgo
  obtain ⟨hP,hin,hv0,hv1,hmu⟩ := pop_ok hBs
  obtain ⟨row,hrow⟩ := get_some (l := E) (i := i) (by omega)
  obtain ⟨hrl,hrn⟩ := hEr.out row (List.mem_of_getElem? hrow)
  obtain ⟨c,hc⟩ : ∃ c,Q.length - off = c + 1 := ⟨Q.length - off - 1,by omega⟩
  have hc' : Q.length - (off + 1) = c := by omega
  have d1 : decide ((0 : Int) < ((c + 1 : Nat) : Int)) = true := dec_t (by omega)
  have d2 : decide (0 < c + 1) = true := dec_t (by omega)
  have d3 := lt_t hin
  rw [hc]
  replace hgo := hide hgo
  replace hBs := hide hBs
  refine srun_sound 300 _ _ _ _ ?_
  have d5 : ((0 : Int) < ((c + 1 : Nat) : Int)) = True := by rw [eq_iff_iff,iff_true];omega
  have d6 : ((1 : Int) ≤ ((c + 1 : Nat) : Int)) = True := by rw [eq_iff_iff,iff_true];omega
  have hfi : fN i = FV.int .i64 i := rfl
  repeat' (first
   | (simp -implicitDefEqProofs only [*,List.getElem?_map,Option.map_some,frN,Nat.add_zero,Nat.add_sub_cancel,Int.le_refl,zr,Nat.reduceAdd,Nat.reduceSub,Nat.reduceMul,Nat.reduceLT,Nat.reduceLeDiff,Nat.reduceEqDiff,Nat.reduceBEq,reduceIte,reduceCtorEq,Int.reduceLE,Int.reduceLT,Int.reduceToNat,Int.reduceEq,Int.reduceNe])
   | ((first|apply zk0|apply zk1|apply zk2|apply zk3|apply zk4|apply zk5|apply zk6|apply zk7|apply zk8|apply zk9) <;> intro hc)
   |(refine callP0 rfl ?_)
   |(refine callD0 rfl ?_)
   | fail)
  have hv : O.getD i 0 = O.getD i 0 := rfl
  generalize hvv : O.getD i 0 = v at hv0 hv1
  have hR := fun j => row_ok (l := row.take j) hP (fun k hk => hrn k (List.mem_of_mem_take hk)) hv0 hvv hv1
  have hEi : E.getD i [] = row := getD_some hrow
  refine ax_loopU (S := (List Int × Nat × List Nat) × Nat) 80 [0,5,10,55,56] [] (fun s => [(7,.sl 42 1 1 s.1.2.1 (s.1.2.2.length - s.1.2.1)),(57,.f (.int .i64 s.2))]) (fun s => [(15,1,.cells ((s.1.1.map fI).map .f)),(42,1,.cells ((s.1.2.2.map fN).map .f))]) (fun s => s.2 ≤ row.length ∧ s.1.2.1 ≤ s.1.2.2.length ∧ (s.1.1,s.1.2.2.drop s.1.2.1) = (row.take s.2).foldl (bPush (v + 1)) (O,Q.drop (off + 1))) (fun s => row.length - s.2) ((O,off + 1,Q),0) [] ?_ ?_ fun s hs => ?_
  ·exact ⟨Nat.zero_le _,hlt,rfl⟩
  ·refine wk_i ?_ ?_ <;> simp only [hc',zw,Nat.reduceEqDiff,Nat.reduceBEq,Nat.reduceLT,Nat.reduceLeDiff,reduceIte,reduceCtorEq]
  obtain ⟨⟨O1,o1,Q1⟩,j⟩ := s
  obtain ⟨hj1,hj2,hj3⟩ := hs
  dsimp only at hj1 hj2 hj3 ⊢
  refine srun_sound 300 _ _ _ _ ?_
  have hRj := hR j
  rw [← hj3] at hRj
  obtain ⟨b1,b2,b3⟩ := hRj
  have hO1l : O1.length = n := b1.len
  have hQ1l : Q1.length - o1 ≤ n := by have := b1.mn;unfold mu at this;rw [List.length_drop] at this;omega
  have hmn1 := b1.mn
  replace hR := hide hR
  rcases Nat.lt_or_ge j row.length with hltj | hgej
  ·obtain ⟨k,hk⟩ := get_some hltj
   have hkn := hrn k (List.mem_of_getElem? hk)
   have hnx : (row.take (j + 1)).foldl (bPush (v + 1)) (O,Q.drop (off + 1)) = bPush (v + 1) (O1,Q1.drop o1) k := by
    rw [List.take_add_one,hk,List.foldl_append,← hj3];rfl
   obtain ⟨z,hz⟩ := get_some (l := O1) (i := k) (by omega)
   have hvi : O1[i]? = some v := by
    have h1 : i < O1.length := by omega
    have h2 : O1.getD i 0 = v := b2
    rw [getD_some (List.getElem?_eq_getElem h1)] at h2
    rw [List.getElem?_eq_getElem h1,h2]
   have g4 := inc64 hltj (by omega)
   have g2 := lt_t hltj
   have hw : IntKind.i64.wrap (v + 1) = v + 1 := by rw [wrap64] <;> omega
   have hset := fset O1 k (v + 1)
   have hk3 := nle_t (show k + 1 ≤ n by omega)
   have hk4 := lt_t hkn
   have hk8 := nle_t (show (Q1.length - o1 + 1) * 8 ≤ 140737488355328 by omega)
   have hoq : (Q1.length = o1 + (Q1.length - o1)) = True := by rw [eq_iff_iff,iff_true];omega
   have hO1 : ((Q1.map fN).map AV.f).drop o1 ++ [AV.f (FV.int .i64 k)] = ((Q1.drop o1 ++ [k]).map fN).map AV.f := by simp [fN,List.map_drop]
   have hlen : (Q1.drop o1 ++ [k]).length - 0 = Q1.length - o1 + 1 := by simp
   have hfk : fN k = FV.int .i64 k := rfl
   have hfv : fI v = FV.int .i64 v := rfl
   have hfz : fI z = FV.int .i64 z := rfl
   cases hq : decide (z < 0)
   ·rw [push_f (by exact hz) hq] at hnx
    replace hj3 := hide hj3
    repeat' (first
     | (simp -implicitDefEqProofs only [*,List.getElem?_map,Option.map_some,zr,Nat.reduceAdd,Nat.reduceSub,Nat.reduceMul,Nat.reduceLT,Nat.reduceLeDiff,Nat.reduceEqDiff,Nat.reduceBEq,reduceIte,reduceCtorEq,Int.reduceLE,Int.reduceLT,Int.reduceToNat,Int.reduceEq,Int.reduceNe])
     | ((first|apply zk0|apply zk1|apply zk2|apply zk3|apply zk4|apply zk5|apply zk6|apply zk7|apply zk8|apply zk9) <;> intro hc)
     |(refine callP0 rfl ?_)
     |(refine callD0 rfl ?_)
     | fail)
    refine ⟨((O1,o1,Q1),j + 1),⟨hltj,hj2,hnx.symm⟩,by dsimp only;omega,?_⟩
    refine wk_i ?_ ?_ <;> simp only [zw,Nat.reduceEqDiff,Nat.reduceBEq,Nat.reduceLT,Nat.reduceLeDiff,reduceIte,reduceCtorEq]
   ·rw [push_t (by exact hz) hq] at hnx
    dsimp only at hnx
    replace hj3 := hide hj3
    repeat' (first
     | (simp -implicitDefEqProofs only [*,List.getElem?_map,Option.map_some,zr,Nat.reduceAdd,Nat.reduceSub,Nat.reduceMul,Nat.reduceLT,Nat.reduceLeDiff,Nat.reduceEqDiff,Nat.reduceBEq,reduceIte,reduceCtorEq,Int.reduceLE,Int.reduceLT,Int.reduceToNat,Int.reduceEq,Int.reduceNe])
     | ((first|apply zk0|apply zk1|apply zk2|apply zk3|apply zk4|apply zk5|apply zk6|apply zk7|apply zk8|apply zk9) <;> intro hc)
     |(refine callP0 rfl ?_)
     |(refine callD0 rfl ?_)
     | fail)
    refine ⟨((O1.set k (v + 1),0,Q1.drop o1 ++ [k]),j + 1),⟨hltj,Nat.zero_le _,by rw [hnx];rfl⟩,by dsimp only;omega,?_⟩
    dsimp only
    rw [hlen]
    refine wk_i ?_ ?_ <;> simp only [hset,hO1,zw,Nat.reduceEqDiff,Nat.reduceBEq,Nat.reduceLT,Nat.reduceLeDiff,reduceIte,reduceCtorEq]
  ·obtain rfl : j = row.length := by omega
   have g2 := lt_f hgej
   rw [List.take_length] at hj3
   have hgo2 : ∃ m',mu (O1,Q1.drop o1) ≤ m' ∧ bGo E m' (O1,Q1.drop o1) = stepsV E n from_ := by
    obtain ⟨m',rfl⟩ : ∃ m',m = m' + 1 := ⟨m - 1,by omega⟩
    refine ⟨m',by omega,?_⟩
    have := hgo.out
    rw [bGo,bRow,hEi,hvv,← hj3] at this
    exact this
   replace hj3 := hide hj3
   replace hgo2 := hide hgo2
   repeat' (first
    | (simp -implicitDefEqProofs only [*,zr,Nat.reduceAdd,Nat.reduceSub,Nat.reduceMul,Nat.reduceLT,Nat.reduceLeDiff,Nat.reduceEqDiff,Nat.reduceBEq,reduceIte,reduceCtorEq,Int.reduceLE,Int.reduceLT,Int.reduceToNat,Int.reduceEq,Int.reduceNe])
    | ((first|apply zk0|apply zk1|apply zk2|apply zk3|apply zk4|apply zk5|apply zk6|apply zk7|apply zk8|apply zk9) <;> intro hc)
    |(refine callP0 rfl ?_)
    |(refine callD0 rfl ?_)
    | fail)
   refine ⟨(O1,o1,Q1),⟨hj2,b1,hgo2.out⟩,?_,?_⟩
   ·dsimp only;omega
   ·refine wk_i ?_ ?_ <;> simp only [zw,Nat.reduceEqDiff,Nat.reduceBEq,Nat.reduceLT,Nat.reduceLeDiff,reduceIte,reduceCtorEq]
 have hoe : off = Q.length := by omega
 rw [hoe,List.drop_length] at hgo
 have hgo' : O = stepsV E n from_ := by rw [← hgo];cases m <;> rfl
 rw [← hgo',hoe,Nat.sub_self]
 refine ax_weak (nw := []) (n := 80) (el := [(7,.sl 42 1 1 Q.length 0),(5,.f (frI O))]) (hl := [(42,1,.cells ((Q.map fN).map .f))]) ?_ ?_
 ·refine ⟨rfl,small_mk rfl,rfl,rfl,⟨rfl,rfl,rfl,rfl,rfl⟩,⟨by decide,?_,by decide,?_,trivial⟩,⟨?_,trivial⟩⟩
  ·exact ⟨rfl,rfl,rfl,rfl,rfl,rfl,by simp,rfl,rfl⟩
  ·rw [frI_eq]
   exact so_cells1 (l := O.map fI) rfl rfl (by rw [List.length_map];exact hOl)
  ·rw [if_neg (by simp)]
   exact ⟨_,rfl,SlotsOk.of_eq rfl⟩
 refine srun_sound 300 _ _ _ _ ?_
 have d1 : decide ((0 : Int) < ((0 : Nat) : Int)) = false := dec_f (by omega)
 repeat' (first
  | (simp -implicitDefEqProofs only [*,frI,zr,Nat.reduceAdd,Nat.reduceSub,Nat.reduceMul,Nat.reduceLT,Nat.reduceLeDiff,Nat.reduceEqDiff,Nat.reduceBEq,reduceIte,reduceCtorEq,Int.reduceLE,Int.reduceLT,Int.reduceToNat,Int.reduceEq,Int.reduceNe])
  | ((first|apply zk0|apply zk1|apply zk2|apply zk3|apply zk4|apply zk5|apply zk6|apply zk7|apply zk8|apply zk9) <;> intro hc)
  |(refine callP0 rfl ?_)
  |(refine callD0 rfl ?_)
  | fail)
 exact ret_ve rfl
end Go.Proofs.YticefeanlicapaaDoor
