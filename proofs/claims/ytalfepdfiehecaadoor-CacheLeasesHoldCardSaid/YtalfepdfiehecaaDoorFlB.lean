/-
  cache.follow for a follower that keeps the answers; cache.Follow. No statement of the seat is proved here; no conditions.
-/
import Derived.Test.YtalfepdfiehecaaDoorPlC
import Derived.Test.YtalfepdfiehecaaDoorCx
namespace Go.Proofs.YtalfepdfiehecaaDoor
open Go.RowKit Go.Shelf
set_option linter.unusedVariables false
set_option linter.unusedSimpArgs false
set_option maxRecDepth 100000

abbrev Ans := Bool × FV × FV
def fAns (a : Ans) : List FV := [.bool a.1,a.2.1,a.2.2]
def ansOf (c : Cache) (e : Ev) : Ans := ((doR c e).2.2.1,frzC (doR c e).2.2.2.1,frzC (doR c e).2.2.2.2.1)
def fltOf (c : Cache) (e : Ev) : Int := (doR c e).2.2.2.2.2
def fol : Cache → List Ev → Cache × List Ans × Int
 | c,[] => (c,[],0)
 | c,e :: l => if fltOf c e = 0 then ((fol (doC c e) l).1,ansOf c e :: (fol (doC c e) l).2.1,(fol (doC c e) l).2.2) else (c,[],fltOf c e)
theorem fol_yes {c : Cache} {e : Ev} {l : List Ev} (h : fltOf c e = 0) : fol c (e :: l) = ((fol (doC c e) l).1,ansOf c e :: (fol (doC c e) l).2.1,(fol (doC c e) l).2.2) := by rw [fol,if_pos h]
theorem fol_no {c : Cache} {e : Ev} {l : List Ev} (h : fltOf c e ≠ 0) : fol c (e :: l) = (c,[],fltOf c e) := by rw [fol,if_neg h]
theorem flt_err {c : Cache} {e : Ev} (h : ckCache c = 0) : doErr c e = fltOf c e := by rw [doErr,if_pos h];rfl
theorem fol_right : ∀ {l : List Ev} {c : Cache},ckCache c = 0 → ckCache (fol c l).1 = 0
 | [],c,h => h
 | e :: l,c,h => by
  by_cases he : fltOf c e = 0
  ·rw [fol_yes he];exact fol_right (doC_right h)
  ·rw [fol_no he];exact h
theorem fol_room : ∀ {l : List Ev} {c : Cache},(fol c l).1.1 = c.1
 | [],c => rfl
 | e :: l,c => by
  by_cases he : fltOf c e = 0
  ·rw [fol_yes he];exact (fol_room (l := l) (c := doC c e)).trans rfl
  ·rw [fol_no he]
def pk : Int → Cache → List Ev → Int
 | m,c,[] => m
 | m,c,e :: l => if fltOf c e = 0 then pk (max m (sumSz (doC c e).2.2.1)) (doC c e) l else m
theorem pk_sum : ∀ {l : List Ev} {m : Int} {c : Cache},sumSz c.2.2.1 ≤ m → (fol c l).2.2 = 0 → sumSz (fol c l).1.2.2.1 ≤ pk m c l
 | [],m,c,h,_ => h
 | e :: l,m,c,h,h0 => by
  by_cases he : fltOf c e = 0
  ·rw [fol_yes he] at h0 ⊢
   rw [pk,if_pos he]
   exact pk_sum (by omega) h0
  ·rw [fol_no he] at h0;exact absurd h0 he
theorem pk_le : ∀ {l : List Ev} {m : Int} {c : Cache},ckCache c = 0 → m ≤ c.1 → pk m c l ≤ c.1
 | [],m,c,_,h => h
 | e :: l,m,c,hc,h => by
  unfold pk
  split
  ·have h1 := doC_right (e := e) hc
   have h2 := (right_iff.1 h1).bsum
   have h3 : (doC c e).1 = c.1 := rfl
   rw [h3] at h2
   have := pk_le (l := l) (m := max m (sumSz (doC c e).2.2.1)) (c := doC c e) h1 (by rw [h3];omega)
   rw [h3] at this;exact this
  ·exact h
theorem fol_drop {l : List Ev} {s : Nat} {e : Ev} (h : l[s]? = some e) : l.drop s = e :: l.drop (s + 1) := by
 obtain ⟨h1,h2⟩ := List.getElem?_eq_some_iff.1 h
 rw [List.drop_eq_getElem_cons h1,h2]
def Leased (bl : List Blob) (T : Int) (d : ByteArray) : Prop := ∃ y ∈ bl,y.1 = d ∧ T ≤ y.2.2.2.1
theorem leased_set {bl : List Blob} {T : Int} {d : ByteArray} {i : Nat} {y z : Blob} (hy : bl[i]? = some y) (h1 : z.1 = y.1) (h2 : y.2.2.2.1 ≤ z.2.2.2.1) (h : Leased bl T d) : Leased (bl.set i z) T d := by
 obtain ⟨x,hx,k1,k2⟩ := h
 obtain ⟨j,hj⟩ := List.mem_iff_getElem?.1 hx
 by_cases e : j = i
 ·subst e
  rw [hy] at hj
  obtain rfl := Option.some.inj hj
  exact ⟨z,List.mem_set (List.getElem?_eq_some_iff.1 hy).1 z,h1.trans k1,by omega⟩
 ·exact ⟨x,List.mem_of_getElem? (i := j) (by rw [List.getElem?_set];simp [Ne.symm e,hj]),k1,k2⟩
theorem leased_touch1 {lease at_ T : Int} {u v : Bool} {bl : List Blob} {d x : ByteArray} (h : Leased bl T d) : Leased (touch1 lease at_ u v bl x) T d := by
 unfold touch1
 split
 ·rename_i b hb
  split
  ·refine leased_set hb rfl ?_ h
   show b.2.2.2.1 ≤ (if v then max b.2.2.2.1 _ else b.2.2.2.1)
   split <;> omega
  ·exact h
 ·exact h
theorem leased_touchL {lease at_ T : Int} {u v : Bool} : ∀ {ds : List ByteArray} {bl : List Blob} {d : ByteArray},Leased bl T d → Leased (touchL lease at_ u v bl ds) T d
 | [],bl,d,h => h
 | x :: ds,bl,d,h => leased_touchL (ds := ds) (leased_touch1 h)
theorem touch1_leased {lease at_ : Int} {u : Bool} {bl : List Blob} {d : ByteArray} (hr : Rising (fun b : Blob => b.1) bl) (h : hasB bl d = true) : Leased (touch1 lease at_ u true bl d) (IntKind.i64.wrap (at_ + lease)) d := by
 obtain ⟨y,hy,hd⟩ := hasB_at hr h
 unfold touch1
 rw [hy,h]
 refine ⟨_,List.mem_set (List.getElem?_eq_some_iff.1 hy).1 _,hd,?_⟩
 show _ ≤ max _ _
 omega
theorem touch1_rise {lease at_ : Int} {u v : Bool} {bl : List Blob} {d : ByteArray} (h : Rising (fun b : Blob => b.1) bl) : Rising (fun b : Blob => b.1) (touch1 lease at_ u v bl d) := touchL_rise (ds := [d]) h
theorem touchL_leased {lease at_ : Int} {u : Bool} : ∀ {ds : List ByteArray} {bl : List Blob} {d : ByteArray},Rising (fun b : Blob => b.1) bl → hasB bl d = true → d ∈ ds → Leased (touchL lease at_ u true bl ds) (IntKind.i64.wrap (at_ + lease)) d
 | [],bl,d,_,_,h => by cases h
 | x :: ds,bl,d,hr,hh,h => by
  show Leased (touchL lease at_ u true (touch1 lease at_ u true bl x) ds) _ d
  rcases List.mem_cons.1 h with rfl | h
  ·exact leased_touchL (touch1_leased hr hh)
  ·exact touchL_leased (touch1_rise hr) (by rw [hasB_ks touch1_ks];exact hh) h
theorem leased_keep {bl : List Blob} {T at_ over : Int} {d : ByteArray} (hr : Rising (fun b : Blob => b.1) bl) (ht : at_ < T) (h : Leased bl T d) : Leased (keptV bl at_ over) T d := by
 obtain ⟨y,hy,k1,k2⟩ := h
 refine ⟨y,mem_keep.2 ⟨hy,?_⟩,k1,k2⟩
 cases hs : hasS y.1 (clrGone bl at_ over)
 ·rfl
 ·unfold clrGone digsB at hs
  obtain ⟨x,hx,hk⟩ := List.mem_map.1 (hasS_iff.1 hs)
  have hx' := leav_mem.1 (List.mem_of_mem_take hx)
  have := rising_inj hr x hx'.1 y hy hk
  subst this
  have h3 := hx'.2
  unfold heldB at h3
  simp only [Bool.or_eq_false_iff,decide_eq_false_iff_not] at h3
  omega
theorem do_leased {c : Cache} {e : Ev} {T : Int} {d : ByteArray} (h : doErr c e = 0) (ht : e.2.1 < T) (hl : Leased c.2.2.1 T d) : Leased (doC c e).2.2.1 T d := by
 obtain ⟨h0,h1,h2,h3⟩ := doErr_right h
 have hR := right_iff.1 h0
 unfold doErr at h
 rw [if_pos h0,h3] at h
 unfold doC
 rw [h3]
 unfold actV at h ⊢
 split
 ·rename_i k
  rw [if_pos k] at h
  dsimp only at h ⊢
  rcases putV_ways hR.brise h with ⟨k1,k2⟩ | ⟨k1,k0,k2⟩ | ⟨k1,k0,k2⟩
  all_goals rw [k2]
  ·exact leased_touchL hl
  ·exact hl
  ·obtain ⟨y,hy,g1,g2⟩ := leased_keep (over := overV c.1 c.2.2.1 e.2.2.2.2.2) hR.brise ht hl
   exact ⟨y,mem_ins.2 (.inr hy),g1,g2⟩
 split
 ·exact leased_touchL hl
 split
 ·exact leased_touchL hl
 split
 ·show Leased (pinV e.1 c.2.2.1 e.2.2.1).1 T d
  unfold pinV
  split
  ·rename_i y hy
   repeat' split
   all_goals first | exact hl | exact leased_set hy rfl (Int.le_refl _) hl
  ·exact hl
 split
 ·show Leased (storeV _ _ _ _ _ _).1 T d
  unfold storeV
  split
  ·exact leased_touchL hl
  ·exact hl
 split
 ·show Leased (searchV _ _ _ _ _).1 T d
  unfold searchV
  repeat' split
  all_goals first | exact leased_touchL hl | exact hl
 unfold dropV
 split
 ·rename_i y hy
  split
  ·rename_i hh
   rw [Bool.and_eq_true] at hh
   obtain ⟨y',k1,k2⟩ := hasB_at hR.brise hh.1
   rw [hy] at k1
   cases k1
   obtain ⟨x,hx,g1,g2⟩ := hl
   refine ⟨x,mem_keep.2 ⟨hx,?_⟩,g1,g2⟩
   cases hs : hasS x.1 [e.2.2.1]
   ·rfl
   ·have hxk : x.1 = e.2.2.1 := by simpa using hasS_iff.1 hs
    have := rising_inj hR.brise x hx y (List.mem_of_getElem? hy) (hxk.trans k2.symm)
    subst this
    have h3 := hh.2
    unfold heldB at h3
    simp only [Bool.not_eq_true',Bool.or_eq_false_iff,decide_eq_false_iff_not] at h3
    omega
  ·exact hl
 ·exact hl
theorem fol_leased : ∀ {l : List Ev} {c : Cache} {T : Int} {d : ByteArray},ckCache c = 0 → (fol c l).2.2 = 0 → (∀ e ∈ l,e.2.1 < T) → Leased c.2.2.1 T d → Leased (fol c l).1.2.2.1 T d
 | [],c,T,d,_,_,_,h => h
 | e :: l,c,T,d,hc,h0,ht,h => by
  by_cases he : fltOf c e = 0
  ·rw [fol_yes he] at h0 ⊢
   exact fol_leased (doC_right hc) h0 (fun x hx => ht x (List.mem_cons_of_mem _ hx)) (do_leased (by rw [flt_err hc];exact he) (ht e (List.mem_cons_self ..)) h)
  ·rw [fol_no he] at h0;exact absurd h0 he
theorem ask_leased {c : Cache} {at_ : Int} {ds : List ByteArray} (h : doErr c (3,at_,⟨#[]⟩,ds,⟨#[]⟩,0) = 0) : (doR c (3,at_,⟨#[]⟩,ds,⟨#[]⟩,0)).2.2.2.1 = rcS (missingOf c.2.2.1 ds) ∧ ∀ d ∈ ds,hasS d (missingOf c.2.2.1 ds) = true ∨ Leased (doC c (3,at_,⟨#[]⟩,ds,⟨#[]⟩,0)).2.2.1 (IntKind.i64.wrap (at_ + c.2.1)) d := by
 obtain ⟨h0,h1,h2,h3⟩ := doErr_right h
 have hR := right_iff.1 h0
 have e0 : actV c.1 c.2.1 c.2.2.1 c.2.2.2 (3,at_,⟨#[]⟩,ds,⟨#[]⟩,0) = (touchL c.2.1 at_ false true c.2.2.1 ds,c.2.2.2,decide ((missingOf c.2.2.1 ds).length = 0),rcS (missingOf c.2.2.1 ds),.v .nil,0) := by
  rw [actV,if_neg (show ¬ (3 : Int) = 1 by decide),if_neg (show ¬ (3 : Int) = 2 by decide),if_pos (show (3 : Int) = 3 from rfl)]
 rw [e0] at h3
 unfold doC
 rw [h3]
 refine ⟨rfl,fun d hd => ?_⟩
 cases hh : hasB c.2.2.1 d
 ·left
  rw [hasS_iff]
  exact List.mem_filter.2 ⟨hd,by rw [hh];rfl⟩
 ·exact .inr (touchL_leased hR.brise hh hd)
def folErr (c : Cache) (l : List Ev) : Int := if ckCache c = 0 then (if 3000 < l.length then 2 else (fol c l).2.2) else ckCache c
def fEv (e : Ev) : List FV := [.int .i64 e.1,.int .i64 e.2.1,.str e.2.2.1,frStrs e.2.2.2.1,.str e.2.2.2.2.1,.int .i64 e.2.2.2.2.2]
def frEvs (l : List Ev) : FV := .fr 6 (l.map fEv)
def frAns (l : List Ans) : FV := .fr 3 (l.map fAns)
theorem doZ {c : Cache} {e : Ev} (h : CRight c) (hl : (e.2.2.2.1.length : Int) ≤ 9223372036854775807) :
  FRetP Tryd.prog 42 [.v (.int .i64 c.1),.v (.int .i64 c.2.1),.own 5 c.2.2.1.length (rowF fBlob c.2.2.1),.own 3 c.2.2.2.length (rowF fEntry c.2.2.2)] [] [aEv e]
   [.v (.int .i64 c.1),.v (.int .i64 c.2.1),.own 5 (doC c e).2.2.1.length (rowF fBlob (doC c e).2.2.1),.own 3 (doC c e).2.2.2.length (rowF fEntry (doC c e).2.2.2)] [rAns (ansOf c e).1 (ansOf c e).2.1 (ansOf c e).2.2,.c (.v (.int .i64 (fltOf c e)))] := by
 have hD := doF_of h hl
 unfold DoF at hD
 refine FRetH.frz hD ?_
 unfold ansOf fltOf
 rcases doR_form c e with ⟨x,k1,k2⟩ | ⟨l,k1,k2,k3⟩ | ⟨l,k1,k2,k3⟩
 all_goals
  generalize doR c e = r at *
  obtain ⟨B,E,b,m,g,ft⟩ := r
  dsimp only at k1 k2 ⊢
  subst k1 k2
 ·exact ⟨⟨rfl,rfl,rfl,trivial⟩,rfl,trivial⟩
 ·exact ⟨⟨rfl,frz_s l ▸ rcFz_s l,rfl,trivial⟩,rfl,trivial⟩
 ·exact ⟨⟨rfl,rfl,frz_s l ▸ rcFz_s l,trivial⟩,rfl,trivial⟩

abbrev any4 : AV := .agg [.any,.any,.any,.any]
abbrev any6 : AV := .agg [.any,.any,.any,.any,.any,.any]
theorem followC_f (A : List Ans) (a : Ans) (hA : A.length ≤ 100000) :
  FRetX1 Tryd.prog 35 [any4,any6,.agg ((fAns a).map .f),.ptr 100001 1 0] [.own 3 A.length (rowF fAns A)] [.own 3 (A.length + 1) (rowF fAns (A ++ [a]))] [] := by
 obtain ⟨b,m,g⟩ := a
 have e1 : rowF fAns (A ++ [(b,m,g)]) = rowF fAns A ++ fAns (b,m,g) := row_snoc
 rw [e1]
 have hl : (rowF fAns A).length = A.length * 3 := row_len (sz := 3) (fun _ => rfl)
 have h56 : ((A.length + 1) * 56 ≤ 140737488355328) = True := by rw [eq_iff_iff,iff_true];omega
 refine FCall.of_ax low_cache_Follow_c1 ?_
 dsimp only [l_cache_Follow_c1,fAns,List.map_cons,List.map_nil]
 refine srun_sound 300 _ _ _ _ ?_
 repeat' (first
  | (simp -implicitDefEqProofs only [*,zr,Nat.reduceAdd,Nat.reduceSub,Nat.reduceMul,Nat.reduceLT,Nat.reduceLeDiff,Nat.reduceEqDiff,Nat.reduceBEq,reduceIte,reduceCtorEq,Int.reduceLE,Int.reduceLT,Int.reduceToNat,Int.reduceEq,Int.reduceNe])
  | ((first|apply zk0|apply zk1|apply zk2|apply zk3|apply zk4|apply zk5|apply zk6|apply zk7|apply zk8|apply zk9) <;> intro hc)
  |(refine callP0 rfl ?_)
  |(refine callD0 rfl ?_)
  | fail)
 exact ⟨[],[.sl 80000 2 3 0 (A.length + 1)],rfl,rfl,⟨.inr ⟨80000,2,rfl,by rw [List.map_append];rfl,by rw [List.length_append,hl];simp;omega⟩,rfl⟩,rfl,by simp [idsC,idsS],by simp [idsC,idsS]⟩
structure FolAt (c : Cache) (l : List Ev) (s : Nat) (x : Cache) (A : List Ans) : Prop where
 le : s ≤ l.length
 right : CRight x
 room : x.1 = c.1
 lease : x.2.1 = c.2.1
 len : A.length = s
 is : fol c l = ((fol x (l.drop s)).1,A ++ (fol x (l.drop s)).2.1,(fol x (l.drop s)).2.2)
theorem folAt_0 {c : Cache} {l : List Ev} (h : CRight c) : FolAt c l 0 c [] := ⟨Nat.zero_le _,h,rfl,rfl,rfl,rfl⟩
theorem FolAt.next {c x : Cache} {l : List Ev} {s : Nat} {A : List Ans} {e : Ev} (h : FolAt c l s x A) (he : l[s]? = some e) (h0 : fltOf x e = 0) : FolAt c l (s + 1) (doC x e) (A ++ [ansOf x e]) := by
 refine ⟨(List.getElem?_eq_some_iff.1 he).1,right_iff.1 (doC_right (right_iff.2 h.right)),h.room,h.lease,by simp [h.len],?_⟩
 rw [h.is,fol_drop he,fol_yes h0]
 simp
theorem FolAt.stop {c x : Cache} {l : List Ev} {s : Nat} {A : List Ans} {e : Ev} (h : FolAt c l s x A) (he : l[s]? = some e) (h0 : fltOf x e ≠ 0) : fol c l = (x,A,fltOf x e) := by
 rw [h.is,fol_drop he,fol_no h0]
 simp
theorem FolAt.end_ {c x : Cache} {l : List Ev} {A : List Ans} (h : FolAt c l l.length x A) : fol c l = (x,A,0) := by
 rw [h.is,List.drop_length]
 simp [fol]
theorem argsX1 {id ver : Nat} {cs : List AV} {pcs pcs' : List RC} {c1 c2 c3 c4 e1 e2 e3 e4 e5 e6 : AV} {a : List FV} : ArgsOk [⟨id,ver,cs,pcs,pcs'⟩] [.agg [c1,c2,c3,c4],.agg [e1,e2,e3,e4,e5,e6],.agg (a.map .f),.ptr id ver 0] [any4,any6,.agg (a.map .f),.ptr 100001 1 0] := by
 refine ⟨.inr (.inl ⟨_,_,rfl,rfl,.inl rfl,.inl rfl,.inl rfl,.inl rfl,trivial⟩),.inr (.inl ⟨_,_,rfl,rfl,.inl rfl,.inl rfl,.inl rfl,.inl rfl,.inl rfl,.inl rfl,trivial⟩),.inl (.inr (.inl ⟨rfl,?_⟩)),.inl (.inr (.inr ⟨0,_,rfl,rfl,rfl⟩)),trivial⟩
 rw [AV.pure,AV.pureL_all,List.all_eq_true]
 intro x hx
 obtain ⟨y,_,rfl⟩ := List.mem_map.1 hx
 rfl
theorem lenA {A : List Ans} {n : Nat} (h : A.length = n) : n * 3 ≤ (rowF fAns A).length := by rw [row_len (sz := 3) (fun _ => rfl),h];exact Nat.le_refl _
def zRs2 : RS := .agg [.v (.int .i64 0),.v (.int .i64 0),.v .nil,.v .nil]
def folRs (r : Cache × List Ans × Int) : List RS := if r.2.2 = 0 then [.agg [.v (.int .i64 r.1.1),.v (.int .i64 r.1.2.1),.own 5 r.1.2.2.1.length (rowF fBlob r.1.2.2.1),.own 3 r.1.2.2.2.length (rowF fEntry r.1.2.2.2)],.c (.v (.int .i64 0))] else [zRs2,.c (.v (.int .i64 r.2.2))]
set_option maxHeartbeats 4000000 in
theorem follow_bad0 (c : Cache) (l : List Ev) (hb : CBound c) (hk : ckCache c ≠ 0) : FRetX1 Tryd.prog 34 [aCache c,.f (frEvs l),.clo (.func 35) [.ptr 100001 1 0]] [.own 3 0 []] [.own 3 0 []] [zRs2,.c (.v (.int .i64 (ckCache c)))] := by
 have hc := CheckCache_f isDigest_f c hb
 generalize ckCache c = q at *
 have d0 : decide (q = 0) = false := dcF hk
 replace hk := hide hk
 replace hb := hide hb
 obtain ⟨room,lease,bl,en⟩ := c
 refine FCall.of_ax low_cache_follow ?_
 dsimp only [l_cache_follow,aCache,frEvs] at hc ⊢
 refine srun_sound 300 _ _ _ _ ?_
 repeat' (first
  | (simp -implicitDefEqProofs only [*,addFp_wr,zr,Nat.reduceAdd,Nat.reduceSub,Nat.reduceMul,Nat.reduceLT,Nat.reduceLeDiff,Nat.reduceEqDiff,Nat.reduceBEq,reduceIte,reduceCtorEq,Int.reduceLE,Int.reduceLT,Int.reduceToNat,Int.reduceEq,Int.reduceNe])
  | ((first|apply zk0|apply zk1|apply zk2|apply zk3|apply zk4|apply zk5|apply zk6|apply zk7|apply zk8|apply zk9) <;> intro hc)
  |(refine callP0 rfl ?_)
  |(refine callD0 rfl ?_)
  |(refine cP (hc) ?_)
  |(refine cD (hc) ?_)
  |(refine cF (hc) ?_)
  |(refine cO (hc) ?_)
  | fail)
 exact ⟨[.agg [.f (.int .i64 0),.f (.int .i64 0),.f .nil,.f .nil],.f (.int .i64 _)],[.sl 80000 1 3 0 0],rfl,rfl,⟨.inr ⟨80000,1,rfl,rfl,Nat.le_refl _⟩,rfl⟩,⟨⟨rfl,rfl,rfl,rfl,rfl⟩,rfl,rfl⟩,by simp [idsC,idsS],by simp [idsC,idsS]⟩
set_option maxHeartbeats 4000000 in
theorem follow_bad1 (c : Cache) (l : List Ev) (hb : CBound c) (hk : ckCache c = 0) (hlen : 3000 < l.length) : FRetX1 Tryd.prog 34 [aCache c,.f (frEvs l),.clo (.func 35) [.ptr 100001 1 0]] [.own 3 0 []] [.own 3 0 []] [zRs2,.c (.v (.int .i64 (2)))] := by
 have hc := CheckCache_f isDigest_f c hb
 rw [hk] at hc
 have d0 : decide ((0 : Int) = 0) = true := rfl
 have dl : decide ((3000 : Int) < (l.length : Int)) = true := dcT (by omega)
 have dl2 : decide ((l.length : Int) > 3000) = true := dl
 clear hk hlen
 replace hb := hide hb
 obtain ⟨room,lease,bl,en⟩ := c
 refine FCall.of_ax low_cache_follow ?_
 dsimp only [l_cache_follow,aCache,frEvs] at hc ⊢
 refine srun_sound 300 _ _ _ _ ?_
 repeat' (first
  | (simp -implicitDefEqProofs only [*,addFp_wr,zr,Nat.reduceAdd,Nat.reduceSub,Nat.reduceMul,Nat.reduceLT,Nat.reduceLeDiff,Nat.reduceEqDiff,Nat.reduceBEq,reduceIte,reduceCtorEq,Int.reduceLE,Int.reduceLT,Int.reduceToNat,Int.reduceEq,Int.reduceNe])
  | ((first|apply zk0|apply zk1|apply zk2|apply zk3|apply zk4|apply zk5|apply zk6|apply zk7|apply zk8|apply zk9) <;> intro hc)
  |(refine callP0 rfl ?_)
  |(refine callD0 rfl ?_)
  |(refine cP (hc) ?_)
  |(refine cD (hc) ?_)
  |(refine cF (hc) ?_)
  |(refine cO (hc) ?_)
  | fail)
 exact ⟨[.agg [.f (.int .i64 0),.f (.int .i64 0),.f .nil,.f .nil],.f (.int .i64 _)],[.sl 80000 1 3 0 0],rfl,rfl,⟨.inr ⟨80000,1,rfl,rfl,Nat.le_refl _⟩,rfl⟩,⟨⟨rfl,rfl,rfl,rfl,rfl⟩,rfl,rfl⟩,by simp [idsC,idsS],by simp [idsC,idsS]⟩
set_option maxHeartbeats 8000000 in
theorem follow_run (c : Cache) (l : List Ev) (hb : CBound c) (hk : ckCache c = 0) (hlen : l.length ≤ 3000) (hd : ∀ e ∈ l,(e.2.2.2.1.length : Int) ≤ 9223372036854775807) :
  FRetX1 Tryd.prog 34 [aCache c,.f (frEvs l),.clo (.func 35) [.ptr 100001 1 0]] [.own 3 0 []] [.own 3 (fol c l).2.1.length (rowF fAns (fol c l).2.1)] (folRs (fol c l)) := by
 have hR := right_iff.1 hk
 have hc := CheckCache_f isDigest_f c hb
 have hO := own_f c (by have := hR.blen;omega) (by have := hR.elen;omega) (fun x hx => by have := ckDigs_len (entOk_iff.1 (hR.eok x hx)).2.1;omega)
 rw [hk] at hc
 have d0 : decide ((0 : Int) = 0) = true := rfl
 have dl : decide ((3000 : Int) < (l.length : Int)) = false := dcF (by omega)
 have dl2 : decide ((l.length : Int) > 3000) = false := dl
 have hF0 := folAt_0 (l := l) hR
 have hD := hide hd
 replace hb := hide hb
 clear hd hk hR
 obtain ⟨room,lease,bl,en⟩ := c
 generalize hf : fol (room,lease,bl,en) l = r at *
 replace hf := hide hf
 refine FCall.of_ax low_cache_follow ?_
 dsimp only [l_cache_follow,aCache,frEvs] at hc hO ⊢
 refine srun_sound 300 _ _ _ _ ?_
 repeat' (first
  | (simp -implicitDefEqProofs only [*,addFp_wr,zr,Nat.reduceAdd,Nat.reduceSub,Nat.reduceMul,Nat.reduceLT,Nat.reduceLeDiff,Nat.reduceEqDiff,Nat.reduceBEq,reduceIte,reduceCtorEq,Int.reduceLE,Int.reduceLT,Int.reduceToNat,Int.reduceEq,Int.reduceNe])
  | ((first|apply zk0|apply zk1|apply zk2|apply zk3|apply zk4|apply zk5|apply zk6|apply zk7|apply zk8|apply zk9) <;> intro hc)
  |(refine callP0 rfl ?_)
  |(refine callD0 rfl ?_)
  |(refine cP (hc) ?_)
  |(refine cD (hc) ?_)
  |(refine cF (hc) ?_)
  |(refine cO (hc) ?_)
  |(refine cP (hO) ?_)
  |(refine cD (hO) ?_)
  |(refine cF (hO) ?_)
  |(refine cO (hO) ?_)
  | fail)
 refine ax_loopW (S := Nat × List Blob × List Entry × List Ans) 47 [2,3,6,25,26] [6] (fun s => [(27,.f (.int .i64 s.1))]) (fun s => [(3,1,AObj.cells [.f (.int .i64 room),.f (.int .i64 lease),.sl 24 1 5 0 s.2.1.length,.sl 1024 1 3 0 s.2.2.1.length]),(24,1,AObj.cells ((rowF fBlob s.2.1).map AV.f)),(1024,1,AObj.cells ((rowF fEntry s.2.2.1).map AV.f)),(100001,1,AObj.cells [.sl 80000 1 3 0 s.2.2.2.length]),(80000,1,AObj.cells ((rowF fAns s.2.2.2).map AV.f))]) (fun s => FolAt (room,lease,bl,en) l s.1 (room,lease,s.2.1,s.2.2.1) s.2.2.2) (fun s => l.length - s.1) ((0,bl,en,[])) [] [] ?_ rfl ?_ fun s hs => ?_
 ·exact hF0
 ·refine wk_i ?_ ?_ <;> simp only [row_nil,so_cl2,zw,Nat.reduceEqDiff,Nat.reduceBEq,Nat.reduceLT,Nat.reduceLeDiff,reduceIte,reduceCtorEq]
 simp only [sws_n,swh_n]
 obtain ⟨s,B,E,A⟩ := s
 dsimp only at hs ⊢
 refine srun_sound 300 _ _ _ _ ?_
 rcases Nat.lt_or_ge s l.length with hlt | hge
 ·obtain ⟨e,he⟩ := get_some hlt
  have h4 := inc64 hlt (by omega)
  have h2 := lt_t hlt
  have h2i : decide ((s : Int) < (l.length : Int)) = true := dcT (by omega)
  have hZ := doZ (e := e) hs.right (hD.out e (List.mem_of_getElem? he))
  have hA := hs.len
  by_cases hft : fltOf (room,lease,B,E) e = 0
  ·have hn := hs.next he hft
   rw [hft] at hZ
   have hCl := followC_f A (ansOf (room,lease,B,E) e) (by omega)
   generalize hy : doC (room,lease,B,E) e = y at *
   obtain ⟨yr,yl,B',E'⟩ := y
   obtain rfl : yr = room := hn.room
   obtain rfl : yl = lease := hn.lease
   generalize ansOf (yr,yl,B,E) e = a at *
   obtain ⟨ab,am,ag⟩ := a
   replace hA := hide hA
   replace hn := hide hn
   replace hs := hide hs
   replace hy := hide hy
   replace hft := hide hft
   replace hlen := hide hlen
   replace hF0 := hide hF0
   obtain ⟨kind,at_,dg,ds,key,size⟩ := e
   dsimp only [rAns] at hZ
   repeat' (first
    | (simp -implicitDefEqProofs only [*,List.getElem?_map,Option.map_some,fEv,zr,Nat.reduceAdd,Nat.reduceSub,Nat.reduceMul,Nat.reduceLT,Nat.reduceLeDiff,Nat.reduceEqDiff,Nat.reduceBEq,reduceIte,reduceCtorEq,Int.reduceLE,Int.reduceLT,Int.reduceToNat,Int.reduceEq,Int.reduceNe])
    | ((first|apply zk0|apply zk1|apply zk2|apply zk3|apply zk4|apply zk5|apply zk6|apply zk7|apply zk8|apply zk9) <;> intro hc)
    |(refine callP0 rfl ?_)
    |(refine callD0 rfl ?_)
    | fail)
   refine gP hZ 3 1 [.f (.int .i64 yr),.f (.int .i64 yl),.sl 24 1 5 0 B.length,.sl 1024 1 3 0 E.length] [] [aEv (kind,at_,dg,ds,key,size)] ?_
   clear hZ
   repeat' (first
    | (simp -implicitDefEqProofs only [*,addFp_wr,zr,Nat.reduceAdd,Nat.reduceSub,Nat.reduceMul,Nat.reduceLT,Nat.reduceLeDiff,Nat.reduceEqDiff,Nat.reduceBEq,reduceIte,reduceCtorEq,Int.reduceLE,Int.reduceLT,Int.reduceToNat,Int.reduceEq,Int.reduceNe])
    | ((first|apply zk0|apply zk1|apply zk2|apply zk3|apply zk4|apply zk5|apply zk6|apply zk7|apply zk8|apply zk9) <;> intro hc)
    |(refine callP0 rfl ?_)
    |(refine callD0 rfl ?_)
    | fail)
   refine callX1 (m := 300) rfl hCl 100001 1 [.sl 80000 1 3 0 A.length] (.inr ⟨[.ptr 100001 1 0],rfl,argsX1⟩) (by rfl) (by simp) ⟨.inr ⟨80000,1,rfl,rfl,lenA rfl⟩,rfl⟩ (by simp [idsC]) (by simp [idsC]) (by repeat (first|exact free_0 | exact free_mk (by simp) | refine free_upd rfl ?_ | refine free_kill ?_)) ?_
   clear hCl
   repeat' (first
    | (simp -implicitDefEqProofs only [*,zr,Nat.reduceAdd,Nat.reduceSub,Nat.reduceMul,Nat.reduceLT,Nat.reduceLeDiff,Nat.reduceEqDiff,Nat.reduceBEq,reduceIte,reduceCtorEq,Int.reduceLE,Int.reduceLT,Int.reduceToNat,Int.reduceEq,Int.reduceNe])
    | ((first|apply zk0|apply zk1|apply zk2|apply zk3|apply zk4|apply zk5|apply zk6|apply zk7|apply zk8|apply zk9) <;> intro hc)
    |(refine callP0 rfl ?_)
    |(refine callD0 rfl ?_)
    | fail)
   refine ⟨(s + 1,B',E',A ++ [(ab,am,ag)]),[(33,24),(1033,1024),(44,80000)],hn.out,by dsimp only;omega,rfl,?_⟩
   refine wk_i ?_ ?_ <;> simp only [so_cl2,zw,Nat.reduceEqDiff,Nat.reduceBEq,Nat.reduceLT,Nat.reduceLeDiff,reduceIte,reduceCtorEq]
   simp
  ·have h5 := hs.stop he hft
   rw [hf.out] at h5
   generalize fltOf (room,lease,B,E) e = ft at *
   have d5 : decide (ft = 0) = false := dcF hft
   subst h5
   generalize ansOf (room,lease,B,E) e = a at *
   generalize (doC (room,lease,B,E) e).2.2.1 = B' at *
   generalize (doC (room,lease,B,E) e).2.2.2 = E' at *
   obtain ⟨ab,am,ag⟩ := a
   replace hA := hide hA
   replace hs := hide hs
   replace hlen := hide hlen
   replace hF0 := hide hF0
   obtain ⟨kind,at_,dg,ds,key,size⟩ := e
   dsimp only [rAns] at hZ
   rw [folRs,if_neg hft]
   replace hft := hide hft
   repeat' (first
    | (simp -implicitDefEqProofs only [*,List.getElem?_map,Option.map_some,fEv,zr,Nat.reduceAdd,Nat.reduceSub,Nat.reduceMul,Nat.reduceLT,Nat.reduceLeDiff,Nat.reduceEqDiff,Nat.reduceBEq,reduceIte,reduceCtorEq,Int.reduceLE,Int.reduceLT,Int.reduceToNat,Int.reduceEq,Int.reduceNe])
    | ((first|apply zk0|apply zk1|apply zk2|apply zk3|apply zk4|apply zk5|apply zk6|apply zk7|apply zk8|apply zk9) <;> intro hc)
    |(refine callP0 rfl ?_)
    |(refine callD0 rfl ?_)
    | fail)
   refine gP hZ 3 1 [.f (.int .i64 room),.f (.int .i64 lease),.sl 24 1 5 0 B.length,.sl 1024 1 3 0 E.length] [] [aEv (kind,at_,dg,ds,key,size)] ?_
   clear hZ
   repeat' (first
    | (simp -implicitDefEqProofs only [*,addFp_wr,zr,Nat.reduceAdd,Nat.reduceSub,Nat.reduceMul,Nat.reduceLT,Nat.reduceLeDiff,Nat.reduceEqDiff,Nat.reduceBEq,reduceIte,reduceCtorEq,Int.reduceLE,Int.reduceLT,Int.reduceToNat,Int.reduceEq,Int.reduceNe])
    | ((first|apply zk0|apply zk1|apply zk2|apply zk3|apply zk4|apply zk5|apply zk6|apply zk7|apply zk8|apply zk9) <;> intro hc)
    |(refine callP0 rfl ?_)
    |(refine callD0 rfl ?_)
    | fail)
   exact ⟨[.agg [.f (.int .i64 0),.f (.int .i64 0),.f .nil,.f .nil],.f (.int .i64 ft)],[.sl 80000 1 3 0 A.length],rfl,rfl,⟨.inr ⟨80000,1,rfl,rfl,lenA rfl⟩,rfl⟩,⟨⟨rfl,rfl,rfl,rfl,rfl⟩,rfl,rfl⟩,by simp [idsC,idsS],by simp [idsC,idsS]⟩
 ·obtain rfl : s = l.length := by have := hs.le;omega
  have h2 := lt_f hge
  have h2i : decide ((l.length : Int) < (l.length : Int)) = false := dcF (by omega)
  have h5 := hs.end_
  rw [hf.out] at h5
  subst h5
  rw [folRs,if_pos rfl]
  clear hs hD hF0
  repeat' (first
   | (simp -implicitDefEqProofs only [*,zr,Nat.reduceAdd,Nat.reduceSub,Nat.reduceMul,Nat.reduceLT,Nat.reduceLeDiff,Nat.reduceEqDiff,Nat.reduceBEq,reduceIte,reduceCtorEq,Int.reduceLE,Int.reduceLT,Int.reduceToNat,Int.reduceEq,Int.reduceNe])
   | ((first|apply zk0|apply zk1|apply zk2|apply zk3|apply zk4|apply zk5|apply zk6|apply zk7|apply zk8|apply zk9) <;> intro hc)
   |(refine callP0 rfl ?_)
   |(refine callD0 rfl ?_)
   | fail)
  exact ⟨[.agg [.f (.int .i64 room),.f (.int .i64 lease),.sl 24 1 5 0 B.length,.sl 1024 1 3 0 E.length],.f (.int .i64 0)],[.sl 80000 1 3 0 A.length],rfl,rfl,⟨.inr ⟨80000,1,rfl,rfl,lenA rfl⟩,rfl⟩,⟨⟨rfl,rfl,.inr ⟨24,1,rfl,rfl,lenB rfl⟩,.inr ⟨1024,1,rfl,rfl,lenE rfl⟩,rfl⟩,rfl,rfl⟩,by simp [idsC,idsS],by simp [idsC,idsS]⟩
end Go.Proofs.YtalfepdfiehecaaDoor
