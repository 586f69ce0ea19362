/-
  The reference's do, Do. No statement of the seat is proved here; no conditions.
-/
import Derived.Test.YtfajjcmagngfiaaGreatDoorRd6
import Derived.Test.YtfajjcmagngfiaaGreatDoorCaQ
namespace Go.Proofs.YtfajjcmagngfiaaGreatDoor
open Go.RowKit Go.Shelf
set_option linter.unusedVariables false
set_option linter.unusedSimpArgs false
set_option maxRecDepth 100000

set_option maxHeartbeats 4000000 in
theorem doRZ {c : Cache} {e : Ev} (h : CRight c) (hd : EvB e) : StepF 21 c e [ansRs c e,.c (.v (.int .i64 (fltOf c e)))] := by
 have hck := checkEventR_f c e (by have := h.blen;omega) (by have := h.elen;omega) h.brise hd
 by_cases hf : ckR c.2.2.1 c.2.2.2 e = 0
 case neg =>
  have hD := ck_flt h hf
  unfold StepF ansRs ansOf doC fltOf
  rw [hD]
  dsimp only
  rw [show frzC (.v .nil) = .nil from rfl]
  have d0 : decide (ckR c.2.2.1 c.2.2.2 e = 0) = false := dcF hf
  generalize ckR c.2.2.1 c.2.2.2 e = q at *
  replace hf := hide hf
  replace hD := hide hD
  replace h := hide h
  replace hck := hide hck
  obtain ⟨room,lease,bl,en⟩ := c
  obtain ⟨kind,at_,dg,ds,key,size⟩ := e
  dsimp only
  refine FCall.of_ax low_ref7_do ?_
  dsimp only [jm,ji,jf,jl,jL,jn,je,jx,jT,jC,jB,jq,jt,ju,jA,km,kf,kl,kn,kx,l_ref7_do,aEv]
  refine zs ?_
  repeat'(first|(simp -implicitDefEqProofs only [*,zr,seval,reduceIte,reduceCtorEq])|(apply zk<;>intro hc)|(refine zp ?_)|(refine zd ?_)|fail)
  refine gG hck.out ⟨fz_pc rfl rfl rfl,fz_ev_ (e := (kind,at_,dg,ds,key,size)),trivial⟩ ?_
  repeat'(first|(simp -implicitDefEqProofs only [*,addFp_wr,zr,seval,reduceIte,reduceCtorEq])|(apply zk<;>intro hc)|(refine zp ?_)|(refine zd ?_)|fail)
  exact end_a rfl rfl rfl (lenB rfl) (lenE rfl)
 have dz : decide ((0 : Int) = 0) = true := rfl
 by_cases k1 : e.1 = 1
 ·have hs := put_step h k1 hf
  unfold StepF ansRs at hs ⊢
  rw [hf] at hck
  generalize doC c e = c2 at *
  generalize fltOf c e = ft at *
  generalize ansOf c e = a at *
  obtain ⟨c2r,c2l,B,E⟩ := c2
  obtain ⟨b,m,g⟩ := a
  obtain ⟨room,lease,bl,en⟩ := c
  obtain ⟨kind,at_,dg,ds,key,size⟩ := e
  dsimp only at hs k1 ⊢
  have d1 : decide (kind = 1) = true := dcT k1
  replace hck := hide hck
  replace hs := hide hs
  replace h := hide h
  clear hf k1 hd
  refine FCall.of_ax low_ref7_do ?_
  dsimp only [jm,ji,jf,jl,jL,jn,je,jx,jT,jC,jB,jq,jt,ju,jA,km,kf,kl,kn,kx,l_ref7_do,aEv] at hs ⊢
  refine zs ?_
  repeat'(first|(simp -implicitDefEqProofs only [*,zr,seval,reduceIte,reduceCtorEq])|(apply zk<;>intro hc)|(refine zp ?_)|(refine zd ?_)|fail)
  refine gG hck.out ⟨fz_pc rfl rfl rfl,fz_ev_ (e := (kind,at_,dg,ds,key,size)),trivial⟩ ?_
  repeat'(first|(simp -implicitDefEqProofs only [*,addFp_wr,zr,seval,reduceIte,reduceCtorEq])|(apply zk<;>intro hc)|(refine zp ?_)|(refine zd ?_)|fail)
  refine gP hs.out 100001 1 [.f (.int .i64 room),.f (.int .i64 lease),.sl 80000 1 5 0 bl.length,.sl 81000 1 3 0 en.length] [] [.agg [.f (.int .i64 kind),.f (.int .i64 at_),.f (.str dg),.f (frStrs ds),.f (.str key),.f (.int .i64 size)]] ?_
  repeat'(first|(simp -implicitDefEqProofs only [*,addFp_wr,zr,seval,reduceIte,reduceCtorEq])|(apply zk<;>intro hc)|(refine zp ?_)|(refine zd ?_)|fail)
  exact end_a rfl rfl rfl (lenB rfl) (lenE rfl)
 have hfl : fltOf c e = 0 := by
  by_cases k3 : e.1 = 3
  ·exact (ask_step h k3 hf).2
  by_cases k6 : e.1 = 6
  ·exact (store_step h k6 hf).2
  by_cases k7 : e.1 = 7
  ·exact (find_step h k7 hf).2
  ·exact (one_step h ⟨k1,k3,k6,k7⟩ hf).2
 by_cases k3 : e.1 = 3
 ·have hs := (ask_step h k3 hf).1
  unfold StepF ansRs at hs ⊢
  rw [hf] at hck
  rw [hfl]
  clear hfl
  generalize doC c e = c2 at *
  generalize ansOf c e = a at *
  obtain ⟨c2r,c2l,B,E⟩ := c2
  obtain ⟨b,m,g⟩ := a
  obtain ⟨room,lease,bl,en⟩ := c
  obtain ⟨kind,at_,dg,ds,key,size⟩ := e
  dsimp only at hs k1 k3 ⊢
  have d1 : decide (kind = 1) = false := dcF k1
  have d3 : decide (kind = 3) = true := dcT k3
  replace hck := hide hck
  replace hs := hide hs
  replace h := hide h
  clear hf k1 k3 hd
  refine FCall.of_ax low_ref7_do ?_
  dsimp only [jm,ji,jf,jl,jL,jn,je,jx,jT,jC,jB,jq,jt,ju,jA,km,kf,kl,kn,kx,l_ref7_do,aEv] at hs ⊢
  refine zs ?_
  repeat'(first|(simp -implicitDefEqProofs only [*,zr,seval,reduceIte,reduceCtorEq])|(apply zk<;>intro hc)|(refine zp ?_)|(refine zd ?_)|fail)
  refine gG hck.out ⟨fz_pc rfl rfl rfl,fz_ev_ (e := (kind,at_,dg,ds,key,size)),trivial⟩ ?_
  repeat'(first|(simp -implicitDefEqProofs only [*,addFp_wr,zr,seval,reduceIte,reduceCtorEq])|(apply zk<;>intro hc)|(refine zp ?_)|(refine zd ?_)|fail)
  refine gP hs.out 100001 1 [.f (.int .i64 room),.f (.int .i64 lease),.sl 80000 1 5 0 bl.length,.sl 81000 1 3 0 en.length] [] [.agg [.f (.int .i64 kind),.f (.int .i64 at_),.f (.str dg),.f (frStrs ds),.f (.str key),.f (.int .i64 size)]] ?_
  repeat'(first|(simp -implicitDefEqProofs only [*,addFp_wr,zr,seval,reduceIte,reduceCtorEq])|(apply zk<;>intro hc)|(refine zp ?_)|(refine zd ?_)|fail)
  exact end_a rfl rfl rfl (lenB rfl) (lenE rfl)
 by_cases k6 : e.1 = 6
 ·have hs := (store_step h k6 hf).1
  unfold StepF ansRs at hs ⊢
  rw [hf] at hck
  rw [hfl]
  clear hfl
  generalize doC c e = c2 at *
  generalize ansOf c e = a at *
  obtain ⟨c2r,c2l,B,E⟩ := c2
  obtain ⟨b,m,g⟩ := a
  obtain ⟨room,lease,bl,en⟩ := c
  obtain ⟨kind,at_,dg,ds,key,size⟩ := e
  dsimp only at hs k1 k3 k6 ⊢
  have d1 : decide (kind = 1) = false := dcF k1
  have d3 : decide (kind = 3) = false := dcF k3
  have d6 : decide (kind = 6) = true := dcT k6
  replace hck := hide hck
  replace hs := hide hs
  replace h := hide h
  clear hf k1 k3 k6 hd
  refine FCall.of_ax low_ref7_do ?_
  dsimp only [jm,ji,jf,jl,jL,jn,je,jx,jT,jC,jB,jq,jt,ju,jA,km,kf,kl,kn,kx,l_ref7_do,aEv] at hs ⊢
  refine zs ?_
  repeat'(first|(simp -implicitDefEqProofs only [*,zr,seval,reduceIte,reduceCtorEq])|(apply zk<;>intro hc)|(refine zp ?_)|(refine zd ?_)|fail)
  refine gG hck.out ⟨fz_pc rfl rfl rfl,fz_ev_ (e := (kind,at_,dg,ds,key,size)),trivial⟩ ?_
  repeat'(first|(simp -implicitDefEqProofs only [*,addFp_wr,zr,seval,reduceIte,reduceCtorEq])|(apply zk<;>intro hc)|(refine zp ?_)|(refine zd ?_)|fail)
  refine gP hs.out 100001 1 [.f (.int .i64 room),.f (.int .i64 lease),.sl 80000 1 5 0 bl.length,.sl 81000 1 3 0 en.length] [] [.agg [.f (.int .i64 kind),.f (.int .i64 at_),.f (.str dg),.f (frStrs ds),.f (.str key),.f (.int .i64 size)]] ?_
  repeat'(first|(simp -implicitDefEqProofs only [*,addFp_wr,zr,seval,reduceIte,reduceCtorEq])|(apply zk<;>intro hc)|(refine zp ?_)|(refine zd ?_)|fail)
  exact end_a rfl rfl rfl (lenB rfl) (lenE rfl)
 by_cases k7 : e.1 = 7
 ·have hs := (find_step h k7 hf).1
  unfold StepF ansRs at hs ⊢
  rw [hf] at hck
  rw [hfl]
  clear hfl
  generalize doC c e = c2 at *
  generalize ansOf c e = a at *
  obtain ⟨c2r,c2l,B,E⟩ := c2
  obtain ⟨b,m,g⟩ := a
  obtain ⟨room,lease,bl,en⟩ := c
  obtain ⟨kind,at_,dg,ds,key,size⟩ := e
  dsimp only at hs k1 k3 k6 k7 ⊢
  have d1 : decide (kind = 1) = false := dcF k1
  have d3 : decide (kind = 3) = false := dcF k3
  have d6 : decide (kind = 6) = false := dcF k6
  have d7 : decide (kind = 7) = true := dcT k7
  replace hck := hide hck
  replace hs := hide hs
  replace h := hide h
  clear hf k1 k3 k6 k7 hd
  refine FCall.of_ax low_ref7_do ?_
  dsimp only [jm,ji,jf,jl,jL,jn,je,jx,jT,jC,jB,jq,jt,ju,jA,km,kf,kl,kn,kx,l_ref7_do,aEv] at hs ⊢
  refine zs ?_
  repeat'(first|(simp -implicitDefEqProofs only [*,zr,seval,reduceIte,reduceCtorEq])|(apply zk<;>intro hc)|(refine zp ?_)|(refine zd ?_)|fail)
  refine gG hck.out ⟨fz_pc rfl rfl rfl,fz_ev_ (e := (kind,at_,dg,ds,key,size)),trivial⟩ ?_
  repeat'(first|(simp -implicitDefEqProofs only [*,addFp_wr,zr,seval,reduceIte,reduceCtorEq])|(apply zk<;>intro hc)|(refine zp ?_)|(refine zd ?_)|fail)
  refine gP hs.out 100001 1 [.f (.int .i64 room),.f (.int .i64 lease),.sl 80000 1 5 0 bl.length,.sl 81000 1 3 0 en.length] [] [.agg [.f (.int .i64 kind),.f (.int .i64 at_),.f (.str dg),.f (frStrs ds),.f (.str key),.f (.int .i64 size)]] ?_
  repeat'(first|(simp -implicitDefEqProofs only [*,addFp_wr,zr,seval,reduceIte,reduceCtorEq])|(apply zk<;>intro hc)|(refine zp ?_)|(refine zd ?_)|fail)
  exact end_a rfl rfl rfl (lenB rfl) (lenE rfl)
 ·have hs := (one_step h ⟨k1,k3,k6,k7⟩ hf).1
  unfold StepF ansRs at hs ⊢
  rw [hf] at hck
  rw [hfl]
  clear hfl
  generalize doC c e = c2 at *
  generalize ansOf c e = a at *
  obtain ⟨c2r,c2l,B,E⟩ := c2
  obtain ⟨b,m,g⟩ := a
  obtain ⟨room,lease,bl,en⟩ := c
  obtain ⟨kind,at_,dg,ds,key,size⟩ := e
  dsimp only at hs k1 k3 k6 k7 ⊢
  have d1 : decide (kind = 1) = false := dcF k1
  have d3 : decide (kind = 3) = false := dcF k3
  have d6 : decide (kind = 6) = false := dcF k6
  have d7 : decide (kind = 7) = false := dcF k7
  replace hck := hide hck
  replace hs := hide hs
  replace h := hide h
  clear hf k1 k3 k6 k7 hd
  refine FCall.of_ax low_ref7_do ?_
  dsimp only [jm,ji,jf,jl,jL,jn,je,jx,jT,jC,jB,jq,jt,ju,jA,km,kf,kl,kn,kx,l_ref7_do,aEv] at hs ⊢
  refine zs ?_
  repeat'(first|(simp -implicitDefEqProofs only [*,zr,seval,reduceIte,reduceCtorEq])|(apply zk<;>intro hc)|(refine zp ?_)|(refine zd ?_)|fail)
  refine gG hck.out ⟨fz_pc rfl rfl rfl,fz_ev_ (e := (kind,at_,dg,ds,key,size)),trivial⟩ ?_
  repeat'(first|(simp -implicitDefEqProofs only [*,addFp_wr,zr,seval,reduceIte,reduceCtorEq])|(apply zk<;>intro hc)|(refine zp ?_)|(refine zd ?_)|fail)
  refine gP hs.out 100001 1 [.f (.int .i64 room),.f (.int .i64 lease),.sl 80000 1 5 0 bl.length,.sl 81000 1 3 0 en.length] [] [.agg [.f (.int .i64 kind),.f (.int .i64 at_),.f (.str dg),.f (frStrs ds),.f (.str key),.f (.int .i64 size)]] ?_
  repeat'(first|(simp -implicitDefEqProofs only [*,addFp_wr,zr,seval,reduceIte,reduceCtorEq])|(apply zk<;>intro hc)|(refine zp ?_)|(refine zd ?_)|fail)
  exact end_a rfl rfl rfl (lenB rfl) (lenE rfl)
end Go.Proofs.YtfajjcmagngfiaaGreatDoor
namespace Go.Proofs.YtfajjcmagngfiaaGreatDoor
open Go.RowKit Go.Shelf
set_option linter.unusedVariables false
set_option linter.unusedSimpArgs false
set_option maxRecDepth 100000

end Go.Proofs.YtfajjcmagngfiaaGreatDoor
namespace Go.Proofs.YtfajjcmagngfiaaGreatDoor
open Go.RowKit Go.Shelf
set_option linter.unusedVariables false
set_option linter.unusedSimpArgs false
set_option maxRecDepth 100000

theorem FCall.leA {P : Program} {f : FuncId} {args args' : List AV} {H : Heap} {Q : AV → Heap → Prop} (h : FCall P f args' H Q) (hl : LeL args args') : FCall P f args H Q :=
 ⟨h.1,fun G Z w vs st hs hr => by
  obtain ⟨h1,h2⟩ := hl.rep hr
  exact h.2 G Z w vs st (by omega) h2⟩
def LsX (x : FV) (l : List ByteArray) : Prop := (x = .nil ∧ l = []) ∨ x = frStrs l
def OkX (x : FV) : Prop := ∃ l,LsX x l ∧ (l.length : Int) ≤ 9223372036854775807
theorem okX_nil : OkX .nil := ⟨[],.inl ⟨rfl,rfl⟩,by simp⟩
theorem okX_s {l : List ByteArray} (h : (l.length : Int) ≤ 9223372036854775807) : OkX (frStrs l) := ⟨l,.inr rfl,h⟩
theorem leX {x : FV} {l : List ByteArray} (h : LsX x l) : LeA (.f x) (.f (frStrs l)) := by
 rcases h with ⟨rfl,rfl⟩ | rfl
 ·exact LeA.nil _
 ·exact LeA.refl _
theorem sameX_f {x y : FV} {l m : List ByteArray} (hx : LsX x l) (hy : LsX y m) (hl : (l.length : Int) ≤ 9223372036854775807) : FRet Tryz.prog 22 [.f x,.f y] [.c (.v (.bool (decide (l = m))))] :=
 FCall.leA (sameList_f l m hl) (.cons (leX hx) (.cons (leX hy) (.refl _)))
theorem ans_ok {c : Cache} {e : Ev} (h : CRight c) (hl : (e.2.2.2.1.length : Int) ≤ 9223372036854775807) : OkX (ansOf c e).2.1 ∧ OkX (ansOf c e).2.2 := by
 have hm : ∀ ds : List ByteArray,(missingOf c.2.2.1 ds).length ≤ ds.length := fun ds => List.length_filter_le _ _
 have hN : frzC (.v .nil) = .nil := rfl
 have hS : ∀ l,frzC (rcS l) = frStrs l := frz_s
 unfold ansOf
 dsimp only
 unfold doR doV
 split
 ·split
  ·exact ⟨okX_nil,okX_nil⟩
  ·unfold actV
   split
   ·refine ⟨okX_nil,?_⟩
    show OkX (frzC (.v _))
    rw [show ∀ x,frzC (.v x) = x from fun _ => rfl]
    unfold putV
    split
    ·split
     ·split <;> exact okX_nil
     ·exact okX_nil
    split
    ·exact okX_nil
    split
    ·exact okX_nil
    ·refine okX_s ?_
     have := leav_len (at_ := e.2.1) (bl := c.2.2.1) (by have := h.blen;omega)
     unfold clrGone digsB
     rw [List.length_map,List.length_take];omega
   split
   ·exact ⟨okX_nil,okX_nil⟩
   split
   ·refine ⟨?_,okX_nil⟩
    show OkX (frzC (rcS _))
    rw [hS]
    exact okX_s (by have := hm e.2.2.2.1;omega)
   split
   ·exact ⟨okX_nil,okX_nil⟩
   split
   ·refine ⟨?_,okX_nil⟩
    show OkX (frzC _)
    unfold storeV
    split
    ·exact okX_nil
    ·show OkX (frzC (rcS _))
     rw [hS]
     exact okX_s (by have := hm e.2.2.2.1;omega)
   split
   ·refine ⟨?_,okX_nil⟩
    show OkX (frzC _)
    unfold searchV
    split
    ·rename_i y hy
     split
     ·split
      ·exact okX_nil
      ·show OkX (frzC (rcS _))
       rw [hS]
       refine okX_s ?_
       have h1 := hm y.2.1
       have h2 := h.eok y (List.mem_of_getElem? hy)
       unfold entOk at h2
       simp only [Bool.and_eq_true,decide_eq_true_eq] at h2
       have h3 := ckDigs_len h2.2.1
       omega
     ·exact okX_nil
    ·exact okX_nil
   unfold dropV
   split
   ·split
    ·exact ⟨okX_nil,by show OkX (frzC (rcS _));rw [hS];exact okX_s (by simp)⟩
    ·exact ⟨okX_nil,okX_nil⟩
   ·exact ⟨okX_nil,okX_nil⟩
 ·exact ⟨okX_nil,okX_nil⟩
def SameA (a b : Ans) : Prop := a.1 = b.1 ∧ ∃ l m,LsX a.2.1 l ∧ LsX b.2.1 l ∧ LsX a.2.2 m ∧ LsX b.2.2 m ∧ (l.length : Int) ≤ 9223372036854775807 ∧ (m.length : Int) ≤ 9223372036854775807
theorem sameA_of {a : Ans} (h : OkX a.2.1 ∧ OkX a.2.2) : SameA a a := by
 obtain ⟨⟨l,h1,h2⟩,m,h3,h4⟩ := h
 exact ⟨rfl,l,m,h1,h1,h3,h3,h2,h4⟩
set_option maxHeartbeats 4000000 in
theorem SameAnswers_f (A B : List Ans) (hA : (A.length : Int) ≤ 9223372036854775807) (hl : A.length = B.length) (hs : ∀ (k : Nat) a b,A[k]? = some a → B[k]? = some b → SameA a b) : FRet Tryz.prog 8 [.f (frAns A),.f (frAns B)] [.c (.v (.bool true))] := by
 have d0 : decide ((A.length : Int) = B.length) = true := by rw [hl];simp
 have hS := hide hs
 have hL := hide hl
 clear hs hl
 refine FCall.of_ax low_ref7_SameAnswers ?_
 dsimp only [jm,ji,jf,jl,jL,jn,je,jx,jT,jC,jB,jq,jt,ju,jA,km,kf,kl,kn,kx,l_ref7_SameAnswers,frAns]
 refine zs ?_
 repeat'(first|(simp -implicitDefEqProofs only [*,List.length_map,zr,seval,reduceIte,reduceCtorEq])|(apply zk<;>intro hc)|(refine zp ?_)|(refine zd ?_)|fail)
 refine ax_loopU (S := Nat) 56 [0,1] [] (fun s => [(5,.f (.int .i64 s))]) (fun s => []) (fun s => s ≤ A.length) (fun s => A.length - s) (0) [] ?_ ?_ fun s hs => ?_
 ·exact Nat.zero_le _
 ·refine wk_i ?_ ?_ <;> simp only [zw,seval,reduceIte,reduceCtorEq]
 refine zs ?_
 rcases Nat.lt_or_ge s A.length with hlt | hge
 ·obtain ⟨x,hx⟩ := get_some hlt
  obtain ⟨y,hy⟩ := get_some (l := B) (i := s) (by have := hL.out;omega)
  have h4 := inc64 hlt hA
  have h2 := lt_t hlt
  obtain ⟨e1,l,m,k1,k2,k3,k4,k5,k6⟩ := hS.out s x y hx hy
  have c1 := sameX_f k1 k2 k5
  have c2 := sameX_f k3 k4 k6
  rw [show decide (l = l) = true by simp] at c1
  rw [show decide (m = m) = true by simp] at c2
  have hlt2 : s < B.length := by have := hL.out;omega
  clear k1 k2 k3 k4
  obtain ⟨x1,x2,x3⟩ := x
  obtain ⟨y1,y2,y3⟩ := y
  dsimp only at e1 c1 c2
  subst e1
  replace c1 := hide c1
  replace c2 := hide c2
  have dx : (x1 != x1) = false := by simp
  repeat'(first|(simp -implicitDefEqProofs only [*,List.getElem?_map,Option.map_some,List.length_map,fAns,zr,seval,reduceIte,reduceCtorEq])|(apply zk<;>intro hc)|(refine zp ?_)|(refine zd ?_)|(refine cP (c1.out) ?_)|(refine cD (c1.out) ?_)|(refine cF (c1.out) ?_)|(refine cP (c2.out) ?_)|(refine cD (c2.out) ?_)|(refine cF (c2.out) ?_)|fail)
  refine ⟨s + 1,hlt,by omega,?_⟩
  refine wk_i ?_ ?_ <;> simp only [zw,seval,reduceIte,reduceCtorEq]
 ·obtain rfl : s = A.length := by omega
  have h2 := lt_f hge
  repeat'(first|(simp -implicitDefEqProofs only [*,List.length_map,zr,seval,reduceIte,reduceCtorEq])|(apply zk<;>intro hc)|(refine zp ?_)|(refine zd ?_)|fail)
  exact ret_v
end Go.Proofs.YtfajjcmagngfiaaGreatDoor
