/-
  (*net).answer. No statement of the seat is proved here; no conditions.
-/
import Derived.Test.YticefeanlicapaaDoorQrD
namespace Go.Proofs.YticefeanlicapaaDoor
open Go.RowKit Go.Shelf
set_option linter.unusedVariables false
set_option linter.unusedSimpArgs false
set_option maxRecDepth 100000

set_option maxHeartbeats 1000000 in
theorem some0_f (g : Graph) (D U : List (List Nat)) (fn : FuncId) (p : Nat → Bool) (hg : g.length ≤ 1000) (hp : ∀ i,i < g.length → FRet Tryd.prog fn [.f (.int .i64 i)] [.c (.v (.bool (p i)))]) :
  FRet Tryd.prog 17 [.f (.fn (.func fn)),.f (.fp [fNet g D U])] [.c (.v (frN ((List.range g.length).filter p)))] := by
 suffices h : FRet Tryd.prog 17 [.f (.fn (.func fn)),.f (.fp [fNet g D U])] [.c (.own 1 ((List.range g.length).filter p).length (rowF encN ((List.range g.length).filter p)))] from h.frz2 ⟨rcF_N,trivial⟩
 refine FCall.of_ax low_graph_net_answer_c1 ?_
 dsimp only [l_graph_net_answer_c1,fNet,frNodes]
 refine srun_sound 300 _ _ _ _ ?_
 replace hp := hide hp
 repeat' (first
  | (simp -implicitDefEqProofs only [*,List.length_map,zr,Nat.reduceAdd,Nat.reduceSub,Nat.reduceMul,Nat.reduceLT,Nat.reduceLeDiff,Nat.reduceEqDiff,Nat.reduceBEq,reduceIte,reduceCtorEq,Int.reduceLE,Int.reduceLT,Int.reduceToNat,Int.reduceEq,Int.reduceNe])
  | ((first|apply zk0|apply zk1|apply zk2|apply zk3|apply zk4|apply zk5|apply zk6|apply zk7|apply zk8|apply zk9) <;> intro hc)
  |(refine callP0 rfl ?_)
  |(refine callD0 rfl ?_)
  | fail)
 refine ax_loopU (S := Nat) 23 [0,10] [] (fun s => [(4,.sl 20 1 1 0 ((List.range s).filter p).length),(11,.f (.int .i64 s))]) (fun s => [(20,1,AObj.cells ((rowF encN ((List.range s).filter p)).map AV.f))]) (fun s => s ≤ g.length) (fun s => g.length - s) (0) [20] ?_ ?_ fun s hs => ?_
 ·exact Nat.zero_le _
 ·refine wk_i ?_ ?_ <;> simp only [List.range_zero,List.filter_nil,row_nil,List.map_nil,zw,Nat.reduceEqDiff,Nat.reduceBEq,Nat.reduceLT,Nat.reduceLeDiff,reduceIte,reduceCtorEq]
 refine srun_sound 300 _ _ _ _ ?_
 rcases Nat.lt_or_ge s g.length with hlt | hge
 ·have h4 := inc64 hlt (by omega)
  have h2 := lt_t hlt
  have kp := hp.out s hlt
  have hs2 := filt_succ (p := p) s
  have hle := filt_len p s
  have h8 : ((((List.range s).filter p).length + 1) * 8 ≤ 140737488355328) = True := by rw [eq_iff_iff,iff_true];omega
  have hrl : (rowF encN ((List.range s).filter p)).length = ((List.range s).filter p).length * 1 := row_len (fun _ => rfl)
  have hrs : rowF encN ((List.range s).filter p ++ [s]) = rowF encN ((List.range s).filter p) ++ encN s := row_snoc
  clear hle
  generalize (List.range s).filter p = m at *
  replace hs2 := hide hs2
  generalize hRm : rowF encN m = R at *
  replace hrs := hide hrs
  cases hh : p s
  ·rw [hh] at kp
   repeat' (first
    | (simp -implicitDefEqProofs only [*,zr,Nat.reduceAdd,Nat.reduceSub,Nat.reduceMul,Nat.reduceLT,Nat.reduceLeDiff,Nat.reduceEqDiff,Nat.reduceBEq,reduceIte,reduceCtorEq,Int.reduceLE,Int.reduceLT,Int.reduceToNat,Int.reduceEq,Int.reduceNe])
    | ((first|apply zk0|apply zk1|apply zk2|apply zk3|apply zk4|apply zk5|apply zk6|apply zk7|apply zk8|apply zk9) <;> intro hc)
    |(refine callP0 rfl ?_)
    |(refine callD0 rfl ?_)
    |(refine cP (kp) ?_)
    |(refine cD (kp) ?_)
    |(refine cF (kp) ?_)
    |(refine cO (kp) ?_)
    | fail)
   have e := hs2.out
   rw [hh,if_neg (by decide),List.append_nil] at e
   refine ⟨s + 1,hlt,by omega,?_⟩
   rw [e,hRm]
   refine wk_i ?_ ?_ <;> simp only [zw,Nat.reduceEqDiff,Nat.reduceBEq,Nat.reduceLT,Nat.reduceLeDiff,reduceIte,reduceCtorEq]
  ·rw [hh] at kp
   repeat' (first
    | (simp -implicitDefEqProofs only [*,zr,Nat.reduceAdd,Nat.reduceSub,Nat.reduceMul,Nat.reduceLT,Nat.reduceLeDiff,Nat.reduceEqDiff,Nat.reduceBEq,reduceIte,reduceCtorEq,Int.reduceLE,Int.reduceLT,Int.reduceToNat,Int.reduceEq,Int.reduceNe])
    | ((first|apply zk0|apply zk1|apply zk2|apply zk3|apply zk4|apply zk5|apply zk6|apply zk7|apply zk8|apply zk9) <;> intro hc)
    |(refine callP0 rfl ?_)
    |(refine callD0 rfl ?_)
    |(refine cP (kp) ?_)
    |(refine cD (kp) ?_)
    |(refine cF (kp) ?_)
    |(refine cO (kp) ?_)
    | fail)
   have e := hs2.out
   rw [hh,if_pos rfl] at e
   refine ⟨s + 1,hlt,by omega,?_⟩
   rw [e,hrs.out]
   refine wk_i ?_ ?_ <;> simp only [List.length_append,zw,Nat.reduceEqDiff,Nat.reduceBEq,Nat.reduceLT,Nat.reduceLeDiff,reduceIte,reduceCtorEq]
   all_goals first | exact SlotsOk.of_eq (by simp [encN,fN]) | rfl | omega
 ·obtain rfl : s = g.length := by omega
  have h2 := lt_f hge
  repeat' (first
   | (simp -implicitDefEqProofs only [*,zr,Nat.reduceAdd,Nat.reduceSub,Nat.reduceMul,Nat.reduceLT,Nat.reduceLeDiff,Nat.reduceEqDiff,Nat.reduceBEq,reduceIte,reduceCtorEq,Int.reduceLE,Int.reduceLT,Int.reduceToNat,Int.reduceEq,Int.reduceNe])
   | ((first|apply zk0|apply zk1|apply zk2|apply zk3|apply zk4|apply zk5|apply zk6|apply zk7|apply zk8|apply zk9) <;> intro hc)
   |(refine callP0 rfl ?_)
   |(refine callD0 rfl ?_)
   | fail)
  exact ret_o rfl (by rw [row_len (sz := 1) (fun _ => rfl)];exact Nat.le_refl _)
theorem all_f (i : Nat) : FRet Tryd.prog 20 [.f (.int .i64 i)] [.c (.v (.bool true))] := by
 refine FCall.of_ax low_graph_net_answer_c3 ?_
 dsimp only [l_graph_net_answer_c3]
 refine srun_sound 300 _ _ _ _ ?_
 repeat' (first
  | (simp -implicitDefEqProofs only [*,zr,Nat.reduceAdd,Nat.reduceSub,Nat.reduceMul,Nat.reduceLT,Nat.reduceLeDiff,Nat.reduceEqDiff,Nat.reduceBEq,reduceIte,reduceCtorEq,Int.reduceLE,Int.reduceLT,Int.reduceToNat,Int.reduceEq,Int.reduceNe])
  | ((first|apply zk0|apply zk1|apply zk2|apply zk3|apply zk4|apply zk5|apply zk6|apply zk7|apply zk8|apply zk9) <;> intro hc)
  |(refine callP0 rfl ?_)
  |(refine callD0 rfl ?_)
  | fail)
 exact ret_v
def ansK (g : Graph) (D U : List (List Nat)) (k : Int) (t : ByteArray) (n : Int) (Ls : List (List Nat)) : Int × List Nat :=
 if k = 1 then (0,(List.range g.length).filter fun _ => true)
 else if k = 2 then (if nHas g t = true then (0,[nIdx g t]) else (9,[]))
 else if k = 3 then (0,withinV D g.length (Ls.getD 0 []) n)
 else if k = 4 then (0,withinV U g.length (Ls.getD 0 []) n)
 else if k = 5 then (0,btwL D U g.length (Ls.getD 0 []) (Ls.getD 1 []))
 else if k = 6 then (0,(List.range g.length).filter fun i => decide (i ∈ Ls.getD 0 []) && decide (((g[i]?).getD default).2.1 = t))
 else if k = 7 then (0,(List.range g.length).filter fun i => decide (i ∈ Ls.getD 0 []) && inPatV t (pkgV ((g[i]?).getD default).1))
 else if k = 8 then (0,(List.range g.length).filter fun i => decide (i ∈ Ls.getD 0 []) || decide (i ∈ Ls.getD 1 []))
 else if k = 9 then (0,(List.range g.length).filter fun i => decide (i ∈ Ls.getD 0 []) && !decide (i ∈ Ls.getD 1 []))
 else (0,(List.range g.length).filter fun i => decide (i ∈ Ls.getD 0 []) && decide (i ∈ Ls.getD 1 []))
def fstF : List (Int × List Nat) → Int
 | [] => 0
 | x :: l => if x.1 ≠ 0 then x.1 else fstF l
theorem fstF_hit : ∀ {l : List (Int × List Nat)} {s : Nat} {x : Int × List Nat},(∀ m y,m < s → l[m]? = some y → y.1 = 0) → l[s]? = some x → x.1 ≠ 0 → fstF l = x.1
 | [],s,x,_,h,_ => by simp at h
 | q :: l,0,x,_,h,h0 => by simp at h;subst h;rw [fstF,if_pos h0]
 | q :: l,s + 1,x,ha,h,h0 => by
  rw [fstF,if_neg (fun hh => hh (ha 0 q (Nat.succ_pos s) rfl))]
  exact fstF_hit (fun m y hm hy => ha (m + 1) y (Nat.succ_lt_succ hm) (by simpa using hy)) (by simpa using h) h0
theorem fstF_zero : ∀ {l : List (Int × List Nat)},fstF l = 0 ↔ ∀ x ∈ l,x.1 = 0
 | [] => by simp [fstF]
 | q :: l => by
  rw [fstF]
  by_cases h : q.1 = 0
  ·rw [if_neg (fun hh => hh h),fstF_zero (l := l)]
   simp [h]
  ·rw [if_pos h]
   simp [h]
def ansF (g : Graph) (D U : List (List Nat)) (k : Int) (t : ByteArray) (n : Int) (Fs : List (Int × List Nat)) : Int × List Nat := if fstF Fs ≠ 0 then (fstF Fs,[]) else ansK g D U k t n (Fs.map (·.2))
def ansR (x : Int × List Nat) : List RS := [.c (.v (if x.1 = 0 then frN x.2 else .nil)),.c (.v (.int .i64 x.1))]
structure AOk (n : Nat) (L : List Nat) : Prop where
 len : L.length ≤ 1000000
 ris : RisN L
 lt : ∀ k ∈ L,k < n
theorem ra_err {H : Heap} {f : Int} (h : f ≠ 0) : RetsZ (ansR (f,[])) (.tup [.f .nil,.f (.int .i64 f)]) H := by
 unfold ansR
 rw [if_neg h]
 exact ⟨[.c (.v .nil),.c (.v (.int .i64 f))],⟨[_,_],rfl,⟨rfl,rfl,rfl⟩,List.nodup_nil⟩,rfl,rfl,trivial⟩
theorem ra_ok {H : Heap} {L : List Nat} : RetsZ (ansR (0,L)) (.tup [.f (frN L),.f (.int .i64 0)]) H :=
 ⟨[.c (.v (frN L)),.c (.v (.int .i64 0))],⟨[_,_],rfl,⟨rfl,rfl,rfl⟩,List.nodup_nil⟩,rfl,rfl,trivial⟩
theorem ra_one {H : Heap} {i : Nat} {id v : Nat} (h : cellsOf v (H id) = some [.f (.int .i64 i)]) : RetsZ (ansR (0,[i])) (.tup [.sl id v 1 0 1,.f (.int .i64 0)]) H :=
 ⟨[.c (.own 1 1 (rowF encN [i])),.c (.v (.int .i64 0))],⟨[.sl id v 1 0 1,.f (.int .i64 0)],rfl,⟨.inr ⟨_,_,rfl,h,Nat.le_refl _⟩,rfl,rfl⟩,by simp [idsS]⟩,rcF_N (L := [i]),rfl,trivial⟩
theorem row_one : ∀ Ls : List (List Nat),rowF (fun L : List Nat => [frN L]) Ls = Ls.map frN
 | [] => rfl
 | a :: l => by rw [row_cons,row_one l];rfl
theorem so_rows {H H' : Heap} {nw : List Nat} {id ver : Nat} {Ls : List (List Nat)} (hd : (H' id).2 = none) (hc : cellsOf ver (H id) = some ((Ls.map frN).map .f)) : SlotOk H H' nw (.sl id ver 1 0 Ls.length) (.f (frRows Ls)) := by
 have e := row_one Ls
 exact so_row0 (enc := fun L : List Nat => [frN L]) (sz := 1) (l := Ls) (fun _ => rfl) hd (by rw [e];exact hc) rfl
theorem len1 {α : Type} {l : List α} (h : l.length = 1) : ∃ x,l = [x] := by
 match l,h with
 | [x],_ => exact ⟨x,rfl⟩
theorem len2 {α : Type} {l : List α} (h : l.length = 2) : ∃ x y,l = [x,y] := by
 match l,h with
 | [x,y],_ => exact ⟨x,y,rfl⟩
theorem ckQ_parts {k : Int} {t : ByteArray} {n : Int} {ps : List QT} (h : ckQ (.mk k t n ps) = 0) : (1 ≤ k ∧ k ≤ 10) ∧ fitsQ k t = true ∧ ps.length = partsN k ∧ ckQs ps = 0 := by
 rw [ckQ] at h
 by_cases c1 : k < 1 ∨ 10 < k
 ·rw [if_pos c1] at h;cases h
 rw [if_neg c1] at h
 by_cases c2 : fitsQ k t = false ∨ ps.length ≠ partsN k
 ·rw [if_pos c2] at h;cases h
 rw [if_neg c2] at h
 by_cases c3 : rngQ k n = true
 ·rw [if_pos c3] at h;cases h
 rw [if_neg c3] at h
 refine ⟨by omega,?_,Decidable.byContradiction fun hh => c2 (.inr hh),h⟩
 cases hf : fitsQ k t with
 | true => rfl
 | false => exact absurd (.inl hf) c2
theorem isPat_size {t : ByteArray} (h : isPatV t = true) : 2 ≤ t.size := by
 unfold isPatV at h
 rw [Bool.and_eq_true] at h
 have h1 := h.1
 unfold hasPre at h1
 rw [Bool.and_eq_true,decide_eq_true_eq] at h1
 have h2 := h1.1
 have : ((⟨#[47,47]⟩ : ByteArray).size : Int) = 2 := rfl
 omega
set_option maxHeartbeats 4000000 in
theorem answer_f (g : Graph) (D U : List (List Nat)) (hg : GOk g) (hN : NetOk g.length D U) (hnb : ∀ x ∈ g,(x.1.size : Int) ≤ 140737488355328) (k : Int) (t : ByteArray) (n : Int) (ps : List QT) (hq : QOk t ps.length) (hck : ckQ (.mk k t n ps) = 0) (Fs : List (Int × List Nat)) (hFl : Fs.length = ps.length)
  (hF : ∀ (s : Nat) (p : QT) (x : Int × List Nat),ps[s]? = some p → Fs[s]? = some x → FRet Tryd.prog 9 [.f (fNet g D U),aQ p] (ansR x)) (hA : ∀ x ∈ Fs,x.1 = 0 → AOk g.length x.2) :
  FRet Tryd.prog 9 [.f (fNet g D U),aQ (.mk k t n ps)] (ansR (ansF g D U k t n Fs)) := by
 obtain ⟨hk10,hfit,hpl,-⟩ := ckQ_parts hck
 obtain ⟨hts,hlp⟩ := hq
 have hp2 : partsN k ≤ 2 := by unfold partsN;split <;> (try split) <;> omega
 clear hck
 refine FCall.frz (FCall.of_ax low_graph_net_answer ?_)
 dsimp only [l_graph_net_answer,aQ,encQ,List.map]
 refine srun_sound 300 _ _ _ _ ?_
 have hel := encQs_len ps
 obtain ⟨Ls,hLs⟩ : ∃ Ls,Fs.map (·.2) = Ls := ⟨_,rfl⟩
 have hLl : Ls.length = ps.length := by rw [← hLs,List.length_map,hFl]
 obtain ⟨R,hR⟩ : ∃ R,ansF g D U k t n Fs = R := ⟨_,rfl⟩
 rw [hR]
 replace hF := hide hF
 replace hA := hide hA
 replace hN := hide hN
 replace hg := hide hg
 replace hnb := hide hnb
 replace hLs := hide hLs
 replace hR := hide hR
 replace hfit := hide hfit
 replace hpl := hide hpl
 generalize hnet : fNet g D U = net at *
 have hone : net.isOne = true := by rw [← hnet];rfl
 repeat' (first
  | (simp -implicitDefEqProofs only [*,zr,Nat.reduceAdd,Nat.reduceSub,Nat.reduceMul,Nat.reduceLT,Nat.reduceLeDiff,Nat.reduceEqDiff,Nat.reduceBEq,reduceIte,reduceCtorEq,Int.reduceLE,Int.reduceLT,Int.reduceToNat,Int.reduceEq,Int.reduceNe])
  | ((first|apply zk0|apply zk1|apply zk2|apply zk3|apply zk4|apply zk5|apply zk6|apply zk7|apply zk8|apply zk9) <;> intro hc)
  |(refine callP0 rfl ?_)
  |(refine callD0 rfl ?_)
  | fail)
 refine ax_loopU (S := Nat) 113 [2,3,6,15,16] [2,3] (fun s => [(17,.f (.int .i64 s))]) (fun s => [(6,1,AObj.cells [.sl 33 1 1 0 s]),(33,1,AObj.cells (((Ls.take s).map frN).map AV.f))]) (fun s => s ≤ ps.length ∧ ∀ m y,m < s → Fs[m]? = some y → y.1 = 0) (fun s => ps.length - s) (0) [33] ?_ ?_ fun s hs => ?_
 ·exact ⟨Nat.zero_le _,fun m x h => absurd h (by omega)⟩
 ·refine wk_i ?_ ?_ <;> simp only [List.take_zero,List.map_nil,zw,Nat.reduceEqDiff,Nat.reduceBEq,Nat.reduceLT,Nat.reduceLeDiff,reduceIte,reduceCtorEq]
 obtain ⟨hi,hall⟩ := hs
 replace hall := hide hall
 rcases Nat.lt_or_ge s ps.length with hlt | hge
 ·obtain ⟨p,hp⟩ := get_some hlt
  obtain ⟨x,hx⟩ := get_some (l := Fs) (i := s) (by omega)
  have h4 := inc64 hlt (by omega)
  have h2 := lt_t hlt
  have he := encQs_at hp
  have ks := hF.out s p x hp hx
  have h8 : ((s + 1) * 24 ≤ 140737488355328) = True := by rw [eq_iff_iff,iff_true];have := hpl.out;omega
  have hll : ((Ls.take s).map frN).length = s * 1 := by rw [List.length_map,List.length_take];omega
  have hsn : (Ls.take (s + 1)).map frN = (Ls.take s).map frN ++ [frN x.2] := by
   have : Ls[s]? = some x.2 := by rw [← hLs.out,List.getElem?_map,hx];rfl
   rw [List.take_add_one,this,List.map_append];rfl
  have hA2 : x.1 = 0 → ∀ m y,m < s + 1 → Fs[m]? = some y → y.1 = 0 := fun h0 m y hm hy => by
   rcases Nat.lt_succ_iff_lt_or_eq.1 hm with h1 | rfl
   ·exact hall.out m y h1 hy
   ·rw [hx] at hy;obtain rfl := Option.some.inj hy;exact h0
  have hE : x.1 ≠ 0 → R = (x.1,[]) := fun h0 => by
   have := fstF_hit hall.out hx h0
   rw [← hR.out]
   unfold ansF
   rw [this,if_pos h0]
  obtain ⟨f,L⟩ := x
  dsimp only at hsn hA2 hE ks
  have hoL : (frN L).isOne = true := rfl
  replace hp := hide hp
  replace hx := hide hx
  replace hsn := hide hsn
  generalize (Ls.take s).map frN = rows at *
  generalize encQs ps = E at *
  obtain ⟨pk,pt,pn,pps⟩ := p
  dsimp only [aQ,encQ,List.map,ansR] at ks he
  by_cases h0 : f = 0
  ·rw [if_pos h0] at ks
   have d0 := dcT h0
   have hA3 := hA2 h0
   subst h0
   replace hE := hide hE
   replace hA3 := hide hA3
   clear hA2
   refine srun_sound 300 _ _ _ _ ?_
   repeat' (first
    | (simp -implicitDefEqProofs only [*,List.length_map,zr,Nat.reduceAdd,Nat.reduceSub,Nat.reduceMul,Nat.reduceLT,Nat.reduceLeDiff,Nat.reduceEqDiff,Nat.reduceBEq,reduceIte,reduceCtorEq,Int.reduceLE,Int.reduceLT,Int.reduceToNat,Int.reduceEq,Int.reduceNe])
    | ((first|apply zk0|apply zk1|apply zk2|apply zk3|apply zk4|apply zk5|apply zk6|apply zk7|apply zk8|apply zk9) <;> intro hc)
    |(refine callP0 rfl ?_)
    |(refine callD0 rfl ?_)
    |(refine cP (ks) ?_)
    |(refine cD (ks) ?_)
    |(refine cF (ks) ?_)
    |(refine cO (ks) ?_)
    | fail)
   refine ⟨s + 1,⟨hlt,hA3.out⟩,by omega,?_⟩
   rw [hsn.out]
   refine wk_i ?_ ?_ <;> simp only [zw,Nat.reduceEqDiff,Nat.reduceBEq,Nat.reduceLT,Nat.reduceLeDiff,reduceIte,reduceCtorEq]
   all_goals first | exact SlotsOk.of_eq (by rw [List.map_append];rfl) | rfl | omega
  ·rw [if_neg h0] at ks
   have d0 := dcF h0
   rw [hE h0]
   have h0' := h0
   replace h0' := hide h0'
   replace hE := hide hE
   replace h0 := hide h0
   clear hA2
   refine srun_sound 300 _ _ _ _ ?_
   repeat' (first
    | (simp -implicitDefEqProofs only [*,zr,Nat.reduceAdd,Nat.reduceSub,Nat.reduceMul,Nat.reduceLT,Nat.reduceLeDiff,Nat.reduceEqDiff,Nat.reduceBEq,reduceIte,reduceCtorEq,Int.reduceLE,Int.reduceLT,Int.reduceToNat,Int.reduceEq,Int.reduceNe])
    | ((first|apply zk0|apply zk1|apply zk2|apply zk3|apply zk4|apply zk5|apply zk6|apply zk7|apply zk8|apply zk9) <;> intro hc)
    |(refine callP0 rfl ?_)
    |(refine callD0 rfl ?_)
    |(refine cP (ks) ?_)
    |(refine cD (ks) ?_)
    |(refine cF (ks) ?_)
    |(refine cO (ks) ?_)
    | fail)
   exact ra_err h0'.out
 obtain rfl : s = ps.length := by omega
 have h2 := lt_f hge
 have hz : fstF Fs = 0 := fstF_zero.2 fun x hx => by
  obtain ⟨m,hm⟩ := List.mem_iff_getElem?.1 hx
  exact hall.out m x (by have := (List.getElem?_eq_some_iff.1 hm).1;omega) hm
 have hR2 : ansK g D U k t n Ls = R := by rw [← hR.out,← hLs.out];unfold ansF;rw [if_neg (fun h => h hz)]
 have hLA : ∀ L ∈ Ls,AOk g.length L := fun L hL => by
  rw [← hLs.out] at hL
  obtain ⟨x,hx,rfl⟩ := List.mem_map.1 hL
  exact hA.out x hx (fstF_zero.1 hz x hx)
 clear hall hR hz hF hA hi hge hLs hFl
 rw [List.take_of_length_le (by omega)]
 have hk : k = 1 ∨ k = 2 ∨ k = 3 ∨ k = 4 ∨ k = 5 ∨ k = 6 ∨ k = 7 ∨ k = 8 ∨ k = 9 ∨ k = 10 := by omega
 have hgl := hg.out.len
 clear hk10 hp2 hel
 rcases hk with rfl | rfl | rfl | rfl | rfl | rfl | rfl | rfl | rfl | rfl
 ·have hpl2 : ps.length = 0 := hpl.out
  rw [hpl2] at h2 hLl ⊢
  have hR3 : (0,(List.range g.length).filter fun _ => true) = R := hR2
  rw [← hR3]
  have kS := some0_f g D U 20 (fun _ => true) hgl (fun i _ => all_f i)
  generalize (List.range g.length).filter (fun _ => true) = X at *
  rw [hnet] at kS
  clear hLA hR2 hR3
  refine srun_sound 300 _ _ _ _ ?_
  repeat' (first
   | (simp -implicitDefEqProofs only [*,zr,Nat.reduceAdd,Nat.reduceSub,Nat.reduceMul,Nat.reduceLT,Nat.reduceLeDiff,Nat.reduceEqDiff,Nat.reduceBEq,reduceIte,reduceCtorEq,Int.reduceLE,Int.reduceLT,Int.reduceToNat,Int.reduceEq,Int.reduceNe])
   | ((first|apply zk0|apply zk1|apply zk2|apply zk3|apply zk4|apply zk5|apply zk6|apply zk7|apply zk8|apply zk9) <;> intro hc)
   |(refine callP0 rfl ?_)
   |(refine callD0 rfl ?_)
   | fail)
  refine ax_weakA [] (nw := []) (n := 113) (el := [(41,.clo (.func 17) [.f (.fp [net])])]) (hl := []) rfl ?_ ?_
  ·refine wk_i ?_ ?_ <;> simp only [so_mf,mapOfH_some,so_ptf,so_cc,so_ff',cellsOf_some,List.drop_zero,List.take_succ_cons,List.take_zero,Nat.zero_add,Nat.le_refl,zw,Nat.reduceEqDiff,Nat.reduceBEq,Nat.reduceLT,Nat.reduceLeDiff,reduceIte,reduceCtorEq]
  repeat' (first
   | (simp -implicitDefEqProofs only [*,zr,Nat.reduceAdd,Nat.reduceSub,Nat.reduceMul,Nat.reduceLT,Nat.reduceLeDiff,Nat.reduceEqDiff,Nat.reduceBEq,reduceIte,reduceCtorEq,Int.reduceLE,Int.reduceLT,Int.reduceToNat,Int.reduceEq,Int.reduceNe])
   | ((first|apply zk0|apply zk1|apply zk2|apply zk3|apply zk4|apply zk5|apply zk6|apply zk7|apply zk8|apply zk9) <;> intro hc)
   |(refine callP0 rfl ?_)
   |(refine callD0 rfl ?_)
   |(refine cC (kS) ?_)
   |(refine cX (kS) ?_)
   |(refine cY (kS) ?_)
   |(refine cZ (kS) ?_)
   | fail)
  exact ra_ok
 ·have hpl2 : ps.length = 0 := hpl.out
  rw [hpl2] at h2 hLl ⊢
  have hAt := at_f g t (by omega) hg.out.rising
  subst hnet
  unfold atV at hAt
  cases hh : nHas g t with
  | true =>
   rw [hh,if_pos rfl] at hAt
   have hR3 : (if nHas g t = true then ((0 : Int),[nIdx g t]) else (9,[])) = R := hR2
   rw [← hR3,hh,if_pos rfl]
   have d0 : decide (((nIdx g t : Nat) : Int) < 0) = false := dcF (by omega)
   generalize nIdx g t = ix at *
   clear hLA hR2 hR3
   dsimp only [fNet]
   refine srun_sound 300 _ _ _ _ ?_
   repeat' (first
    | (simp -implicitDefEqProofs only [*,zr,Nat.reduceAdd,Nat.reduceSub,Nat.reduceMul,Nat.reduceLT,Nat.reduceLeDiff,Nat.reduceEqDiff,Nat.reduceBEq,reduceIte,reduceCtorEq,Int.reduceLE,Int.reduceLT,Int.reduceToNat,Int.reduceEq,Int.reduceNe])
    | ((first|apply zk0|apply zk1|apply zk2|apply zk3|apply zk4|apply zk5|apply zk6|apply zk7|apply zk8|apply zk9) <;> intro hc)
    |(refine callP0 rfl ?_)
    |(refine callD0 rfl ?_)
    |(refine cP (hAt) ?_)
    |(refine cD (hAt) ?_)
    |(refine cF (hAt) ?_)
    |(refine cO (hAt) ?_)
    | fail)
   exact ra_one rfl
  | false =>
   rw [hh,if_neg (by decide)] at hAt
   have hR3 : (if nHas g t = true then ((0 : Int),[nIdx g t]) else (9,[])) = R := hR2
   rw [← hR3,hh,if_neg (by decide)]
   have d0 : decide ((-1 : Int) < 0) = true := rfl
   clear hLA hR2 hR3
   dsimp only [fNet]
   refine srun_sound 300 _ _ _ _ ?_
   repeat' (first
    | (simp -implicitDefEqProofs only [*,zr,Nat.reduceAdd,Nat.reduceSub,Nat.reduceMul,Nat.reduceLT,Nat.reduceLeDiff,Nat.reduceEqDiff,Nat.reduceBEq,reduceIte,reduceCtorEq,Int.reduceLE,Int.reduceLT,Int.reduceToNat,Int.reduceEq,Int.reduceNe])
    | ((first|apply zk0|apply zk1|apply zk2|apply zk3|apply zk4|apply zk5|apply zk6|apply zk7|apply zk8|apply zk9) <;> intro hc)
    |(refine callP0 rfl ?_)
    |(refine callD0 rfl ?_)
    |(refine cP (hAt) ?_)
    |(refine cD (hAt) ?_)
    |(refine cF (hAt) ?_)
    |(refine cO (hAt) ?_)
    | fail)
   exact ra_err (by decide)
 ·have hpl2 : ps.length = 1 := hpl.out
  rw [hpl2] at h2 hLl ⊢
  obtain ⟨A,hAB⟩ := len1 hLl
  have hAA := hLA A (by rw [hAB];simp)
  rw [hAB]
  have q1 : ((0 : Int) < ((1 : Nat) : Int)) = True := by simp
  have kW := within_f D A g.length n hN.out.dl hgl (fun r hr => by have := hN.out.dr r hr;exact ⟨by omega,this.2⟩) hAA.lt hAA.len
  have hR3 : (0,withinV D g.length A n) = R := by rw [← hR2,hAB];rfl
  clear hAB
  rw [← hR3]
  generalize withinV D g.length A n = X at *
  subst hnet
  clear hLA hR2 hR3
  dsimp only [fNet]
  refine srun_sound 300 _ _ _ _ ?_
  repeat' (first
   | (simp -implicitDefEqProofs only [*,zr,Nat.reduceAdd,Nat.reduceSub,Nat.reduceMul,Nat.reduceLT,Nat.reduceLeDiff,Nat.reduceEqDiff,Nat.reduceBEq,reduceIte,reduceCtorEq,Int.reduceLE,Int.reduceLT,Int.reduceToNat,Int.reduceEq,Int.reduceNe])
   | ((first|apply zk0|apply zk1|apply zk2|apply zk3|apply zk4|apply zk5|apply zk6|apply zk7|apply zk8|apply zk9) <;> intro hc)
   |(refine callP0 rfl ?_)
   |(refine callD0 rfl ?_)
   |(refine cP (kW) ?_)
   |(refine cD (kW) ?_)
   |(refine cF (kW) ?_)
   |(refine cO (kW) ?_)
   | fail)
  exact ra_ok
 ·have hpl2 : ps.length = 1 := hpl.out
  rw [hpl2] at h2 hLl ⊢
  obtain ⟨A,hAB⟩ := len1 hLl
  have hAA := hLA A (by rw [hAB];simp)
  rw [hAB]
  have q1 : ((0 : Int) < ((1 : Nat) : Int)) = True := by simp
  have kW := within_f U A g.length n hN.out.ul hgl (fun r hr => by have := hN.out.ur r hr;exact ⟨by omega,this.2⟩) hAA.lt hAA.len
  have hR3 : (0,withinV U g.length A n) = R := by rw [← hR2,hAB];rfl
  clear hAB
  rw [← hR3]
  generalize withinV U g.length A n = X at *
  subst hnet
  clear hLA hR2 hR3
  dsimp only [fNet]
  refine srun_sound 300 _ _ _ _ ?_
  repeat' (first
   | (simp -implicitDefEqProofs only [*,zr,Nat.reduceAdd,Nat.reduceSub,Nat.reduceMul,Nat.reduceLT,Nat.reduceLeDiff,Nat.reduceEqDiff,Nat.reduceBEq,reduceIte,reduceCtorEq,Int.reduceLE,Int.reduceLT,Int.reduceToNat,Int.reduceEq,Int.reduceNe])
   | ((first|apply zk0|apply zk1|apply zk2|apply zk3|apply zk4|apply zk5|apply zk6|apply zk7|apply zk8|apply zk9) <;> intro hc)
   |(refine callP0 rfl ?_)
   |(refine callD0 rfl ?_)
   |(refine cP (kW) ?_)
   |(refine cD (kW) ?_)
   |(refine cF (kW) ?_)
   |(refine cO (kW) ?_)
   | fail)
  exact ra_ok
 ·have hpl2 : ps.length = 2 := hpl.out
  rw [hpl2] at h2 hLl ⊢
  obtain ⟨A,B,hAB⟩ := len2 hLl
  have hAA := hLA A (by rw [hAB];simp)
  have hBB := hLA B (by rw [hAB];simp)
  rw [hAB]
  have q1 : ((0 : Int) < ((2 : Nat) : Int)) = True := by simp
  have q2 : ((1 : Int) < ((2 : Nat) : Int)) = True := by simp
  have kW := betweenL_f g D U A B hN.out hAA.lt hBB.lt hAA.len hBB.len
  have hR3 : (0,btwL D U g.length A B) = R := by rw [← hR2,hAB];rfl
  clear hAB
  rw [← hR3]
  generalize btwL D U g.length A B = X at *
  rw [hnet] at kW
  clear hLA hR2 hR3
  refine srun_sound 300 _ _ _ _ ?_
  repeat' (first
   | (simp -implicitDefEqProofs only [*,zr,Nat.reduceAdd,Nat.reduceSub,Nat.reduceMul,Nat.reduceLT,Nat.reduceLeDiff,Nat.reduceEqDiff,Nat.reduceBEq,reduceIte,reduceCtorEq,Int.reduceLE,Int.reduceLT,Int.reduceToNat,Int.reduceEq,Int.reduceNe])
   | ((first|apply zk0|apply zk1|apply zk2|apply zk3|apply zk4|apply zk5|apply zk6|apply zk7|apply zk8|apply zk9) <;> intro hc)
   |(refine callP0 rfl ?_)
   |(refine callD0 rfl ?_)
   |(refine cP (kW) ?_)
   |(refine cD (kW) ?_)
   |(refine cF (kW) ?_)
   |(refine cO (kW) ?_)
   | fail)
  exact ra_ok
 ·have hpl2 : ps.length = 1 := hpl.out
  rw [hpl2] at h2 hLl ⊢
  obtain ⟨A,hAB⟩ := len1 hLl
  have hAA := hLA A (by rw [hAB];simp)
  rw [hAB]
  have q1 : ((0 : Int) < ((1 : Nat) : Int)) = True := by simp
  have hR3 : (0,(List.range g.length).filter fun i => decide (i ∈ A) && decide (((g[i]?).getD default).2.1 = t)) = R := by rw [← hR2,hAB];rfl
  clear hAB
  rw [← hR3]
  have kS := some_f g D U 24 [.f (.fp [hasC [A]]),.f (.fp [fNet g D U]),.f (.fp (encQ (.mk 6 t n ps)))] (fun i => decide (i ∈ A) && decide (((g[i]?).getD default).2.1 = t)) hgl (fun i hi => by
   obtain ⟨x,hx⟩ := get_some hi
   have e : (g[i]?).getD default = x := by rw [hx];rfl
   rw [e]
   exact kindC_f g D U A _ 6 n t ps rfl i x hx ⟨hAA.len,hAA.ris⟩) rfl
  generalize (List.range g.length).filter (fun i => decide (i ∈ A) && decide (((g[i]?).getD default).2.1 = t)) = X at *
  replace hR2 := hide hR2
  subst hnet
  clear hLA hR3
  refine srun_sound 300 _ _ _ _ ?_
  repeat' (first
   | (simp -implicitDefEqProofs only [*,zr,Nat.reduceAdd,Nat.reduceSub,Nat.reduceMul,Nat.reduceLT,Nat.reduceLeDiff,Nat.reduceEqDiff,Nat.reduceBEq,reduceIte,reduceCtorEq,Int.reduceLE,Int.reduceLT,Int.reduceToNat,Int.reduceEq,Int.reduceNe])
   | ((first|apply zk0|apply zk1|apply zk2|apply zk3|apply zk4|apply zk5|apply zk6|apply zk7|apply zk8|apply zk9) <;> intro hc)
   |(refine callP0 rfl ?_)
   |(refine callD0 rfl ?_)
   | fail)
  refine ax_weakA [] (nw := []) (n := 113) (el := [(92,.clo (.func 17) [.ptr 2 1 0]),(93,.clo (.func 24) [.ptr 12 1 0,.ptr 2 1 0,.ptr 3 1 0])]) (hl := [(2,1,.cells [.f (fNet g D U)]),(3,1,.cells [.f (.int .i64 6),.f (.str t),.f (.int .i64 n),.f (.fr 4 (encQs ps))]),(6,1,.cells [.f (frRows [A])]),(12,1,.cells [.clo (.func 18) [.ptr 6 1 0]])]) rfl ?_ ?_
  ·refine wk_i ?_ ?_ <;> simp only [so_mf,mapOfH_some,so_ptf,so_cc,so_ff',cellsOf_some,List.drop_zero,List.take_succ_cons,List.take_zero,Nat.zero_add,Nat.le_refl,zw,Nat.reduceEqDiff,Nat.reduceBEq,Nat.reduceLT,Nat.reduceLeDiff,reduceIte,reduceCtorEq]
   exact so_rows (Ls := [A]) rfl rfl
  refine ax_weakA [] (nw := []) (n := 113) (el := [(92,.clo (.func 17) [.ptr 2 1 0]),(93,.clo (.func 24) [.ptr 12 1 0,.ptr 2 1 0,.ptr 3 1 0])]) (hl := [(2,1,.cells [.f (fNet g D U)]),(3,1,.cells [.f (.int .i64 6),.f (.str t),.f (.int .i64 n),.f (.fr 4 (encQs ps))]),(12,1,.cells [.f (hasC [A])])]) rfl ?_ ?_
  ·refine wk_i ?_ ?_ <;> simp only [so_mf,mapOfH_some,so_ptf,so_cc,so_ff',cellsOf_some,List.drop_zero,List.take_succ_cons,List.take_zero,Nat.zero_add,hasC,so_cfc,zw,Nat.reduceEqDiff,Nat.reduceBEq,Nat.reduceLT,Nat.reduceLeDiff,reduceIte,reduceCtorEq]
  refine ax_weakA [] (nw := []) (n := 113) (el := [(92,.clo (.func 17) [.f (.fp [fNet g D U])]),(93,.clo (.func 24) [.f (.fp [hasC [A]]),.f (.fp [fNet g D U]),.f (.fp [.int .i64 6,.str t,.int .i64 n,.fr 4 (encQs ps)])])]) (hl := []) rfl ?_ ?_
  ·refine wk_i ?_ ?_ <;> simp only [so_mf,mapOfH_some,so_ptf,so_cc,so_ff',cellsOf_some,List.drop_zero,List.take_succ_cons,List.take_zero,Nat.zero_add,Nat.le_refl,zw,Nat.reduceEqDiff,Nat.reduceBEq,Nat.reduceLT,Nat.reduceLeDiff,reduceIte,reduceCtorEq]
  repeat' (first
   | (simp -implicitDefEqProofs only [*,zr,Nat.reduceAdd,Nat.reduceSub,Nat.reduceMul,Nat.reduceLT,Nat.reduceLeDiff,Nat.reduceEqDiff,Nat.reduceBEq,reduceIte,reduceCtorEq,Int.reduceLE,Int.reduceLT,Int.reduceToNat,Int.reduceEq,Int.reduceNe])
   | ((first|apply zk0|apply zk1|apply zk2|apply zk3|apply zk4|apply zk5|apply zk6|apply zk7|apply zk8|apply zk9) <;> intro hc)
   |(refine callP0 rfl ?_)
   |(refine callD0 rfl ?_)
   |(refine cC (kS) ?_)
   |(refine cX (kS) ?_)
   |(refine cY (kS) ?_)
   |(refine cZ (kS) ?_)
   | fail)
  exact ra_ok
 ·have hpl2 : ps.length = 1 := hpl.out
  rw [hpl2] at h2 hLl ⊢
  obtain ⟨A,hAB⟩ := len1 hLl
  have hAA := hLA A (by rw [hAB];simp)
  rw [hAB]
  have q1 : ((0 : Int) < ((1 : Nat) : Int)) = True := by simp
  have hR3 : (0,(List.range g.length).filter fun i => decide (i ∈ A) && inPatV t (pkgV ((g[i]?).getD default).1)) = R := by rw [← hR2,hAB];rfl
  clear hAB
  rw [← hR3]
  have kS := some_f g D U 25 [.f (.fp [hasC [A]]),.f (.fp (encQ (.mk 7 t n ps))),.f (.fp [fNet g D U])] (fun i => decide (i ∈ A) && inPatV t (pkgV ((g[i]?).getD default).1)) hgl (fun i hi => by
   obtain ⟨x,hx⟩ := get_some hi
   have e : (g[i]?).getD default = x := by rw [hx];rfl
   rw [e]
   exact inC_f g D U A _ 7 n t ps rfl ⟨isPat_size hfit.out,hts⟩ i x hx (hnb.out x (List.mem_of_getElem? hx)) ⟨hAA.len,hAA.ris⟩) rfl
  generalize (List.range g.length).filter (fun i => decide (i ∈ A) && inPatV t (pkgV ((g[i]?).getD default).1)) = X at *
  replace hR2 := hide hR2
  subst hnet
  clear hLA hR3
  refine srun_sound 300 _ _ _ _ ?_
  repeat' (first
   | (simp -implicitDefEqProofs only [*,zr,Nat.reduceAdd,Nat.reduceSub,Nat.reduceMul,Nat.reduceLT,Nat.reduceLeDiff,Nat.reduceEqDiff,Nat.reduceBEq,reduceIte,reduceCtorEq,Int.reduceLE,Int.reduceLT,Int.reduceToNat,Int.reduceEq,Int.reduceNe])
   | ((first|apply zk0|apply zk1|apply zk2|apply zk3|apply zk4|apply zk5|apply zk6|apply zk7|apply zk8|apply zk9) <;> intro hc)
   |(refine callP0 rfl ?_)
   |(refine callD0 rfl ?_)
   | fail)
  refine ax_weakA [] (nw := []) (n := 113) (el := [(97,.clo (.func 17) [.ptr 2 1 0]),(98,.clo (.func 25) [.ptr 12 1 0,.ptr 3 1 0,.ptr 2 1 0])]) (hl := [(2,1,.cells [.f (fNet g D U)]),(3,1,.cells [.f (.int .i64 7),.f (.str t),.f (.int .i64 n),.f (.fr 4 (encQs ps))]),(6,1,.cells [.f (frRows [A])]),(12,1,.cells [.clo (.func 18) [.ptr 6 1 0]])]) rfl ?_ ?_
  ·refine wk_i ?_ ?_ <;> simp only [so_mf,mapOfH_some,so_ptf,so_cc,so_ff',cellsOf_some,List.drop_zero,List.take_succ_cons,List.take_zero,Nat.zero_add,Nat.le_refl,zw,Nat.reduceEqDiff,Nat.reduceBEq,Nat.reduceLT,Nat.reduceLeDiff,reduceIte,reduceCtorEq]
   exact so_rows (Ls := [A]) rfl rfl
  refine ax_weakA [] (nw := []) (n := 113) (el := [(97,.clo (.func 17) [.ptr 2 1 0]),(98,.clo (.func 25) [.ptr 12 1 0,.ptr 3 1 0,.ptr 2 1 0])]) (hl := [(2,1,.cells [.f (fNet g D U)]),(3,1,.cells [.f (.int .i64 7),.f (.str t),.f (.int .i64 n),.f (.fr 4 (encQs ps))]),(12,1,.cells [.f (hasC [A])])]) rfl ?_ ?_
  ·refine wk_i ?_ ?_ <;> simp only [so_mf,mapOfH_some,so_ptf,so_cc,so_ff',cellsOf_some,List.drop_zero,List.take_succ_cons,List.take_zero,Nat.zero_add,hasC,so_cfc,zw,Nat.reduceEqDiff,Nat.reduceBEq,Nat.reduceLT,Nat.reduceLeDiff,reduceIte,reduceCtorEq]
  refine ax_weakA [] (nw := []) (n := 113) (el := [(97,.clo (.func 17) [.f (.fp [fNet g D U])]),(98,.clo (.func 25) [.f (.fp [hasC [A]]),.f (.fp [.int .i64 7,.str t,.int .i64 n,.fr 4 (encQs ps)]),.f (.fp [fNet g D U])])]) (hl := []) rfl ?_ ?_
  ·refine wk_i ?_ ?_ <;> simp only [so_mf,mapOfH_some,so_ptf,so_cc,so_ff',cellsOf_some,List.drop_zero,List.take_succ_cons,List.take_zero,Nat.zero_add,Nat.le_refl,zw,Nat.reduceEqDiff,Nat.reduceBEq,Nat.reduceLT,Nat.reduceLeDiff,reduceIte,reduceCtorEq]
  repeat' (first
   | (simp -implicitDefEqProofs only [*,zr,Nat.reduceAdd,Nat.reduceSub,Nat.reduceMul,Nat.reduceLT,Nat.reduceLeDiff,Nat.reduceEqDiff,Nat.reduceBEq,reduceIte,reduceCtorEq,Int.reduceLE,Int.reduceLT,Int.reduceToNat,Int.reduceEq,Int.reduceNe])
   | ((first|apply zk0|apply zk1|apply zk2|apply zk3|apply zk4|apply zk5|apply zk6|apply zk7|apply zk8|apply zk9) <;> intro hc)
   |(refine callP0 rfl ?_)
   |(refine callD0 rfl ?_)
   |(refine cC (kS) ?_)
   |(refine cX (kS) ?_)
   |(refine cY (kS) ?_)
   |(refine cZ (kS) ?_)
   | fail)
  exact ra_ok
 ·have hpl2 : ps.length = 2 := hpl.out
  rw [hpl2] at h2 hLl ⊢
  obtain ⟨A,B,hAB⟩ := len2 hLl
  have hAA := hLA A (by rw [hAB];simp)
  have hBB := hLA B (by rw [hAB];simp)
  rw [hAB]
  have q1 : ((0 : Int) < ((2 : Nat) : Int)) = True := by simp
  have q2 : ((1 : Int) < ((2 : Nat) : Int)) = True := by simp
  have hR3 : (0,(List.range g.length).filter fun i => decide (i ∈ A) || decide (i ∈ B)) = R := by rw [← hR2,hAB];rfl
  clear hAB
  rw [← hR3]
  have kS := some_f g D U 28 [.f (.fp [hasC [A,B]])] (fun i => decide (i ∈ A) || decide (i ∈ B)) hgl (fun i hi => union_f A B i ⟨hAA.len,hAA.ris⟩ ⟨hBB.len,hBB.ris⟩) rfl
  generalize (List.range g.length).filter (fun i => decide (i ∈ A) || decide (i ∈ B)) = X at *
  replace hR2 := hide hR2
  subst hnet
  clear hLA hR3
  refine srun_sound 300 _ _ _ _ ?_
  repeat' (first
   | (simp -implicitDefEqProofs only [*,zr,Nat.reduceAdd,Nat.reduceSub,Nat.reduceMul,Nat.reduceLT,Nat.reduceLeDiff,Nat.reduceEqDiff,Nat.reduceBEq,reduceIte,reduceCtorEq,Int.reduceLE,Int.reduceLT,Int.reduceToNat,Int.reduceEq,Int.reduceNe])
   | ((first|apply zk0|apply zk1|apply zk2|apply zk3|apply zk4|apply zk5|apply zk6|apply zk7|apply zk8|apply zk9) <;> intro hc)
   |(refine callP0 rfl ?_)
   |(refine callD0 rfl ?_)
   | fail)
  refine ax_weakA [] (nw := []) (n := 113) (el := [(102,.clo (.func 17) [.ptr 2 1 0]),(103,.clo (.func 28) [.ptr 12 1 0])]) (hl := [(2,1,.cells [.f (fNet g D U)]),(6,1,.cells [.f (frRows [A,B])]),(12,1,.cells [.clo (.func 18) [.ptr 6 1 0]])]) rfl ?_ ?_
  ·refine wk_i ?_ ?_ <;> simp only [so_mf,mapOfH_some,so_ptf,so_cc,so_ff',cellsOf_some,List.drop_zero,List.take_succ_cons,List.take_zero,Nat.zero_add,Nat.le_refl,zw,Nat.reduceEqDiff,Nat.reduceBEq,Nat.reduceLT,Nat.reduceLeDiff,reduceIte,reduceCtorEq]
   exact so_rows (Ls := [A,B]) rfl rfl
  refine ax_weakA [] (nw := []) (n := 113) (el := [(102,.clo (.func 17) [.ptr 2 1 0]),(103,.clo (.func 28) [.ptr 12 1 0])]) (hl := [(2,1,.cells [.f (fNet g D U)]),(12,1,.cells [.f (hasC [A,B])])]) rfl ?_ ?_
  ·refine wk_i ?_ ?_ <;> simp only [so_mf,mapOfH_some,so_ptf,so_cc,so_ff',cellsOf_some,List.drop_zero,List.take_succ_cons,List.take_zero,Nat.zero_add,hasC,so_cfc,zw,Nat.reduceEqDiff,Nat.reduceBEq,Nat.reduceLT,Nat.reduceLeDiff,reduceIte,reduceCtorEq]
  refine ax_weakA [] (nw := []) (n := 113) (el := [(102,.clo (.func 17) [.f (.fp [fNet g D U])]),(103,.clo (.func 28) [.f (.fp [hasC [A,B]])])]) (hl := []) rfl ?_ ?_
  ·refine wk_i ?_ ?_ <;> simp only [so_mf,mapOfH_some,so_ptf,so_cc,so_ff',cellsOf_some,List.drop_zero,List.take_succ_cons,List.take_zero,Nat.zero_add,Nat.le_refl,zw,Nat.reduceEqDiff,Nat.reduceBEq,Nat.reduceLT,Nat.reduceLeDiff,reduceIte,reduceCtorEq]
  repeat' (first
   | (simp -implicitDefEqProofs only [*,zr,Nat.reduceAdd,Nat.reduceSub,Nat.reduceMul,Nat.reduceLT,Nat.reduceLeDiff,Nat.reduceEqDiff,Nat.reduceBEq,reduceIte,reduceCtorEq,Int.reduceLE,Int.reduceLT,Int.reduceToNat,Int.reduceEq,Int.reduceNe])
   | ((first|apply zk0|apply zk1|apply zk2|apply zk3|apply zk4|apply zk5|apply zk6|apply zk7|apply zk8|apply zk9) <;> intro hc)
   |(refine callP0 rfl ?_)
   |(refine callD0 rfl ?_)
   |(refine cC (kS) ?_)
   |(refine cX (kS) ?_)
   |(refine cY (kS) ?_)
   |(refine cZ (kS) ?_)
   | fail)
  exact ra_ok
 ·have hpl2 : ps.length = 2 := hpl.out
  rw [hpl2] at h2 hLl ⊢
  obtain ⟨A,B,hAB⟩ := len2 hLl
  have hAA := hLA A (by rw [hAB];simp)
  have hBB := hLA B (by rw [hAB];simp)
  rw [hAB]
  have q1 : ((0 : Int) < ((2 : Nat) : Int)) = True := by simp
  have q2 : ((1 : Int) < ((2 : Nat) : Int)) = True := by simp
  have hR3 : (0,(List.range g.length).filter fun i => decide (i ∈ A) && !decide (i ∈ B)) = R := by rw [← hR2,hAB];rfl
  clear hAB
  rw [← hR3]
  have kS := some_f g D U 29 [.f (.fp [hasC [A,B]])] (fun i => decide (i ∈ A) && !decide (i ∈ B)) hgl (fun i hi => minus_f A B i ⟨hAA.len,hAA.ris⟩ ⟨hBB.len,hBB.ris⟩) rfl
  generalize (List.range g.length).filter (fun i => decide (i ∈ A) && !decide (i ∈ B)) = X at *
  replace hR2 := hide hR2
  subst hnet
  clear hLA hR3
  refine srun_sound 300 _ _ _ _ ?_
  repeat' (first
   | (simp -implicitDefEqProofs only [*,zr,Nat.reduceAdd,Nat.reduceSub,Nat.reduceMul,Nat.reduceLT,Nat.reduceLeDiff,Nat.reduceEqDiff,Nat.reduceBEq,reduceIte,reduceCtorEq,Int.reduceLE,Int.reduceLT,Int.reduceToNat,Int.reduceEq,Int.reduceNe])
   | ((first|apply zk0|apply zk1|apply zk2|apply zk3|apply zk4|apply zk5|apply zk6|apply zk7|apply zk8|apply zk9) <;> intro hc)
   |(refine callP0 rfl ?_)
   |(refine callD0 rfl ?_)
   | fail)
  refine ax_weakA [] (nw := []) (n := 113) (el := [(107,.clo (.func 17) [.ptr 2 1 0]),(108,.clo (.func 29) [.ptr 12 1 0])]) (hl := [(2,1,.cells [.f (fNet g D U)]),(6,1,.cells [.f (frRows [A,B])]),(12,1,.cells [.clo (.func 18) [.ptr 6 1 0]])]) rfl ?_ ?_
  ·refine wk_i ?_ ?_ <;> simp only [so_mf,mapOfH_some,so_ptf,so_cc,so_ff',cellsOf_some,List.drop_zero,List.take_succ_cons,List.take_zero,Nat.zero_add,Nat.le_refl,zw,Nat.reduceEqDiff,Nat.reduceBEq,Nat.reduceLT,Nat.reduceLeDiff,reduceIte,reduceCtorEq]
   exact so_rows (Ls := [A,B]) rfl rfl
  refine ax_weakA [] (nw := []) (n := 113) (el := [(107,.clo (.func 17) [.ptr 2 1 0]),(108,.clo (.func 29) [.ptr 12 1 0])]) (hl := [(2,1,.cells [.f (fNet g D U)]),(12,1,.cells [.f (hasC [A,B])])]) rfl ?_ ?_
  ·refine wk_i ?_ ?_ <;> simp only [so_mf,mapOfH_some,so_ptf,so_cc,so_ff',cellsOf_some,List.drop_zero,List.take_succ_cons,List.take_zero,Nat.zero_add,hasC,so_cfc,zw,Nat.reduceEqDiff,Nat.reduceBEq,Nat.reduceLT,Nat.reduceLeDiff,reduceIte,reduceCtorEq]
  refine ax_weakA [] (nw := []) (n := 113) (el := [(107,.clo (.func 17) [.f (.fp [fNet g D U])]),(108,.clo (.func 29) [.f (.fp [hasC [A,B]])])]) (hl := []) rfl ?_ ?_
  ·refine wk_i ?_ ?_ <;> simp only [so_mf,mapOfH_some,so_ptf,so_cc,so_ff',cellsOf_some,List.drop_zero,List.take_succ_cons,List.take_zero,Nat.zero_add,Nat.le_refl,zw,Nat.reduceEqDiff,Nat.reduceBEq,Nat.reduceLT,Nat.reduceLeDiff,reduceIte,reduceCtorEq]
  repeat' (first
   | (simp -implicitDefEqProofs only [*,zr,Nat.reduceAdd,Nat.reduceSub,Nat.reduceMul,Nat.reduceLT,Nat.reduceLeDiff,Nat.reduceEqDiff,Nat.reduceBEq,reduceIte,reduceCtorEq,Int.reduceLE,Int.reduceLT,Int.reduceToNat,Int.reduceEq,Int.reduceNe])
   | ((first|apply zk0|apply zk1|apply zk2|apply zk3|apply zk4|apply zk5|apply zk6|apply zk7|apply zk8|apply zk9) <;> intro hc)
   |(refine callP0 rfl ?_)
   |(refine callD0 rfl ?_)
   |(refine cC (kS) ?_)
   |(refine cX (kS) ?_)
   |(refine cY (kS) ?_)
   |(refine cZ (kS) ?_)
   | fail)
  exact ra_ok
 ·have hpl2 : ps.length = 2 := hpl.out
  rw [hpl2] at h2 hLl ⊢
  obtain ⟨A,B,hAB⟩ := len2 hLl
  have hAA := hLA A (by rw [hAB];simp)
  have hBB := hLA B (by rw [hAB];simp)
  rw [hAB]
  have q1 : ((0 : Int) < ((2 : Nat) : Int)) = True := by simp
  have q2 : ((1 : Int) < ((2 : Nat) : Int)) = True := by simp
  have hR3 : (0,(List.range g.length).filter fun i => decide (i ∈ A) && decide (i ∈ B)) = R := by rw [← hR2,hAB];rfl
  clear hAB
  rw [← hR3]
  have kS := some_f g D U 30 [.f (.fp [hasC [A,B]])] (fun i => decide (i ∈ A) && decide (i ∈ B)) hgl (fun i hi => bothQ_f A B i ⟨hAA.len,hAA.ris⟩ ⟨hBB.len,hBB.ris⟩) rfl
  generalize (List.range g.length).filter (fun i => decide (i ∈ A) && decide (i ∈ B)) = X at *
  replace hR2 := hide hR2
  subst hnet
  clear hLA hR3
  refine srun_sound 300 _ _ _ _ ?_
  repeat' (first
   | (simp -implicitDefEqProofs only [*,zr,Nat.reduceAdd,Nat.reduceSub,Nat.reduceMul,Nat.reduceLT,Nat.reduceLeDiff,Nat.reduceEqDiff,Nat.reduceBEq,reduceIte,reduceCtorEq,Int.reduceLE,Int.reduceLT,Int.reduceToNat,Int.reduceEq,Int.reduceNe])
   | ((first|apply zk0|apply zk1|apply zk2|apply zk3|apply zk4|apply zk5|apply zk6|apply zk7|apply zk8|apply zk9) <;> intro hc)
   |(refine callP0 rfl ?_)
   |(refine callD0 rfl ?_)
   | fail)
  refine ax_weakA [] (nw := []) (n := 113) (el := [(110,.clo (.func 17) [.ptr 2 1 0]),(111,.clo (.func 30) [.ptr 12 1 0])]) (hl := [(2,1,.cells [.f (fNet g D U)]),(6,1,.cells [.f (frRows [A,B])]),(12,1,.cells [.clo (.func 18) [.ptr 6 1 0]])]) rfl ?_ ?_
  ·refine wk_i ?_ ?_ <;> simp only [so_mf,mapOfH_some,so_ptf,so_cc,so_ff',cellsOf_some,List.drop_zero,List.take_succ_cons,List.take_zero,Nat.zero_add,Nat.le_refl,zw,Nat.reduceEqDiff,Nat.reduceBEq,Nat.reduceLT,Nat.reduceLeDiff,reduceIte,reduceCtorEq]
   exact so_rows (Ls := [A,B]) rfl rfl
  refine ax_weakA [] (nw := []) (n := 113) (el := [(110,.clo (.func 17) [.ptr 2 1 0]),(111,.clo (.func 30) [.ptr 12 1 0])]) (hl := [(2,1,.cells [.f (fNet g D U)]),(12,1,.cells [.f (hasC [A,B])])]) rfl ?_ ?_
  ·refine wk_i ?_ ?_ <;> simp only [so_mf,mapOfH_some,so_ptf,so_cc,so_ff',cellsOf_some,List.drop_zero,List.take_succ_cons,List.take_zero,Nat.zero_add,hasC,so_cfc,zw,Nat.reduceEqDiff,Nat.reduceBEq,Nat.reduceLT,Nat.reduceLeDiff,reduceIte,reduceCtorEq]
  refine ax_weakA [] (nw := []) (n := 113) (el := [(110,.clo (.func 17) [.f (.fp [fNet g D U])]),(111,.clo (.func 30) [.f (.fp [hasC [A,B]])])]) (hl := []) rfl ?_ ?_
  ·refine wk_i ?_ ?_ <;> simp only [so_mf,mapOfH_some,so_ptf,so_cc,so_ff',cellsOf_some,List.drop_zero,List.take_succ_cons,List.take_zero,Nat.zero_add,Nat.le_refl,zw,Nat.reduceEqDiff,Nat.reduceBEq,Nat.reduceLT,Nat.reduceLeDiff,reduceIte,reduceCtorEq]
  repeat' (first
   | (simp -implicitDefEqProofs only [*,zr,Nat.reduceAdd,Nat.reduceSub,Nat.reduceMul,Nat.reduceLT,Nat.reduceLeDiff,Nat.reduceEqDiff,Nat.reduceBEq,reduceIte,reduceCtorEq,Int.reduceLE,Int.reduceLT,Int.reduceToNat,Int.reduceEq,Int.reduceNe])
   | ((first|apply zk0|apply zk1|apply zk2|apply zk3|apply zk4|apply zk5|apply zk6|apply zk7|apply zk8|apply zk9) <;> intro hc)
   |(refine callP0 rfl ?_)
   |(refine callD0 rfl ?_)
   |(refine cC (kS) ?_)
   |(refine cX (kS) ?_)
   |(refine cY (kS) ?_)
   |(refine cZ (kS) ?_)
   | fail)
  exact ra_ok
end Go.Proofs.YticefeanlicapaaDoor
