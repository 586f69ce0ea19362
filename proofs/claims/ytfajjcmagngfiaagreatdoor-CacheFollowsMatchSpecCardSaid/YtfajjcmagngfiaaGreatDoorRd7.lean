/-
  The reference's do, Do. No statement of the seat is proved here; no conditions.
-/
import Derived.Test.YtfajjcmagngfiaaGreatDoorRd6
namespace Go.Proofs.YtfajjcmagngfiaaGreatDoor
open Go.RowKit Go.Shelf
set_option linter.unusedVariables false
set_option linter.unusedSimpArgs false
set_option maxRecDepth 100000

set_option maxHeartbeats 4000000 in
theorem doRZ {c:Cache}{e:Ev}(h:CRight c) (hd:EvB e):StepF 21 c e [ansRs c e,.c (.v (.int .i64 (fltOf c e)))]:=by
 have hck:=checkEventR_f c e (by have:=h.blen;omega) (by have:=h.elen;omega) h.brise hd
 by_cases hf:ckR c.2.2.1 c.2.2.2 e=0
 case neg=>
  have hD:=ck_flt h hf
  unfold StepF ansRs ansOf doC fltOf
  rw[hD]
  dsimp only
  rw[show frzC (.v .nil)=.nil from rfl]
  have d0:decide (ckR c.2.2.1 c.2.2.2 e=0)=false:=dcF hf
  generalize ckR c.2.2.1 c.2.2.2 e=q at*
  replace hf:=hide hf
  replace hD:=hide hD
  replace h:=hide h
  replace hck:=hide hck
  obtain⟨room,lease,bl,en⟩:=c
  obtain⟨kind,at_,dg,ds,key,size⟩:=e
  dsimp only
  refine FCall.of_ax low_ref7_do ?_
  dsimp only[jm,ji,jf,jl,jL,jn,je,jx,jT,jC,jB,jq,jt,ju,jA,km,kf,kl,kn,kx,l_ref7_do,aEv]
  refine zs ?_
  repeat'(first|(simp -implicitDefEqProofs only[*,zr,seval,reduceIte,reduceCtorEq])|(apply zk<;>intro hc)|(refine zp ?_)|(refine zd ?_)|fail)
  refine gG hck.out ⟨fz_pc rfl rfl rfl,fz_ev_ (e:=(kind,at_,dg,ds,key,size)),trivial⟩ ?_
  repeat'(first|(simp -implicitDefEqProofs only[*,addFp_wr,zr,seval,reduceIte,reduceCtorEq])|(apply zk<;>intro hc)|(refine zp ?_)|(refine zd ?_)|fail)
  exact end_a rfl rfl rfl (lenB rfl) (lenE rfl)
 have dz:decide ((0:Int)=0)=true:=rfl
 by_cases k1:e.1=1
 ·have hs:=put_step h k1 hf
  unfold StepF ansRs at hs ⊢
  rw[hf]at hck
  generalize doC c e=c2 at*
  generalize fltOf c e=ft at*
  generalize ansOf c e=a at*
  obtain⟨c2r,c2l,B,E⟩:=c2
  obtain⟨b,m,g⟩:=a
  obtain⟨room,lease,bl,en⟩:=c
  obtain⟨kind,at_,dg,ds,key,size⟩:=e
  dsimp only at hs k1 ⊢
  have d1:decide (kind=1)=true:=dcT k1
  replace hck:=hide hck
  replace hs:=hide hs
  replace h:=hide h
  clear hf k1 hd
  refine FCall.of_ax low_ref7_do ?_
  dsimp only[jm,ji,jf,jl,jL,jn,je,jx,jT,jC,jB,jq,jt,ju,jA,km,kf,kl,kn,kx,l_ref7_do,aEv]at hs ⊢
  refine zs ?_
  repeat'(first|(simp -implicitDefEqProofs only[*,zr,seval,reduceIte,reduceCtorEq])|(apply zk<;>intro hc)|(refine zp ?_)|(refine zd ?_)|fail)
  refine gG hck.out ⟨fz_pc rfl rfl rfl,fz_ev_ (e:=(kind,at_,dg,ds,key,size)),trivial⟩ ?_
  repeat'(first|(simp -implicitDefEqProofs only[*,addFp_wr,zr,seval,reduceIte,reduceCtorEq])|(apply zk<;>intro hc)|(refine zp ?_)|(refine zd ?_)|fail)
  refine gP hs.out 100001 1 [.f (.int .i64 room),.f (.int .i64 lease),.sl 80000 1 5 0 bl.length,.sl 81000 1 3 0 en.length] [] [.agg [.f (.int .i64 kind),.f (.int .i64 at_),.f (.str dg),.f (frStrs ds),.f (.str key),.f (.int .i64 size)]] ?_
  repeat'(first|(simp -implicitDefEqProofs only[*,addFp_wr,zr,seval,reduceIte,reduceCtorEq])|(apply zk<;>intro hc)|(refine zp ?_)|(refine zd ?_)|fail)
  exact end_a rfl rfl rfl (lenB rfl) (lenE rfl)
 have hfl:fltOf c e=0:=by
  by_cases k3:e.1=3
  ·exact(ask_step h k3 hf).2
  by_cases k6:e.1=6
  ·exact(store_step h k6 hf).2
  by_cases k7:e.1=7
  ·exact(find_step h k7 hf).2
  ·exact(one_step h ⟨k1,k3,k6,k7⟩ hf).2
 by_cases k3:e.1=3
 ·have hs:=(ask_step h k3 hf).1
  unfold StepF ansRs at hs ⊢
  rw[hf]at hck
  rw[hfl]
  clear hfl
  generalize doC c e=c2 at*
  generalize ansOf c e=a at*
  obtain⟨c2r,c2l,B,E⟩:=c2
  obtain⟨b,m,g⟩:=a
  obtain⟨room,lease,bl,en⟩:=c
  obtain⟨kind,at_,dg,ds,key,size⟩:=e
  dsimp only at hs k1 k3 ⊢
  have d1:decide (kind=1)=false:=dcF k1
  have d3:decide (kind=3)=true:=dcT k3
  replace hck:=hide hck
  replace hs:=hide hs
  replace h:=hide h
  clear hf k1 k3 hd
  refine FCall.of_ax low_ref7_do ?_
  dsimp only[jm,ji,jf,jl,jL,jn,je,jx,jT,jC,jB,jq,jt,ju,jA,km,kf,kl,kn,kx,l_ref7_do,aEv]at hs ⊢
  refine zs ?_
  repeat'(first|(simp -implicitDefEqProofs only[*,zr,seval,reduceIte,reduceCtorEq])|(apply zk<;>intro hc)|(refine zp ?_)|(refine zd ?_)|fail)
  refine gG hck.out ⟨fz_pc rfl rfl rfl,fz_ev_ (e:=(kind,at_,dg,ds,key,size)),trivial⟩ ?_
  repeat'(first|(simp -implicitDefEqProofs only[*,addFp_wr,zr,seval,reduceIte,reduceCtorEq])|(apply zk<;>intro hc)|(refine zp ?_)|(refine zd ?_)|fail)
  refine gP hs.out 100001 1 [.f (.int .i64 room),.f (.int .i64 lease),.sl 80000 1 5 0 bl.length,.sl 81000 1 3 0 en.length] [] [.agg [.f (.int .i64 kind),.f (.int .i64 at_),.f (.str dg),.f (frStrs ds),.f (.str key),.f (.int .i64 size)]] ?_
  repeat'(first|(simp -implicitDefEqProofs only[*,addFp_wr,zr,seval,reduceIte,reduceCtorEq])|(apply zk<;>intro hc)|(refine zp ?_)|(refine zd ?_)|fail)
  exact end_a rfl rfl rfl (lenB rfl) (lenE rfl)
 by_cases k6:e.1=6
 ·have hs:=(store_step h k6 hf).1
  unfold StepF ansRs at hs ⊢
  rw[hf]at hck
  rw[hfl]
  clear hfl
  generalize doC c e=c2 at*
  generalize ansOf c e=a at*
  obtain⟨c2r,c2l,B,E⟩:=c2
  obtain⟨b,m,g⟩:=a
  obtain⟨room,lease,bl,en⟩:=c
  obtain⟨kind,at_,dg,ds,key,size⟩:=e
  dsimp only at hs k1 k3 k6 ⊢
  have d1:decide (kind=1)=false:=dcF k1
  have d3:decide (kind=3)=false:=dcF k3
  have d6:decide (kind=6)=true:=dcT k6
  replace hck:=hide hck
  replace hs:=hide hs
  replace h:=hide h
  clear hf k1 k3 k6 hd
  refine FCall.of_ax low_ref7_do ?_
  dsimp only[jm,ji,jf,jl,jL,jn,je,jx,jT,jC,jB,jq,jt,ju,jA,km,kf,kl,kn,kx,l_ref7_do,aEv]at hs ⊢
  refine zs ?_
  repeat'(first|(simp -implicitDefEqProofs only[*,zr,seval,reduceIte,reduceCtorEq])|(apply zk<;>intro hc)|(refine zp ?_)|(refine zd ?_)|fail)
  refine gG hck.out ⟨fz_pc rfl rfl rfl,fz_ev_ (e:=(kind,at_,dg,ds,key,size)),trivial⟩ ?_
  repeat'(first|(simp -implicitDefEqProofs only[*,addFp_wr,zr,seval,reduceIte,reduceCtorEq])|(apply zk<;>intro hc)|(refine zp ?_)|(refine zd ?_)|fail)
  refine gP hs.out 100001 1 [.f (.int .i64 room),.f (.int .i64 lease),.sl 80000 1 5 0 bl.length,.sl 81000 1 3 0 en.length] [] [.agg [.f (.int .i64 kind),.f (.int .i64 at_),.f (.str dg),.f (frStrs ds),.f (.str key),.f (.int .i64 size)]] ?_
  repeat'(first|(simp -implicitDefEqProofs only[*,addFp_wr,zr,seval,reduceIte,reduceCtorEq])|(apply zk<;>intro hc)|(refine zp ?_)|(refine zd ?_)|fail)
  exact end_a rfl rfl rfl (lenB rfl) (lenE rfl)
 by_cases k7:e.1=7
 ·have hs:=(find_step h k7 hf).1
  unfold StepF ansRs at hs ⊢
  rw[hf]at hck
  rw[hfl]
  clear hfl
  generalize doC c e=c2 at*
  generalize ansOf c e=a at*
  obtain⟨c2r,c2l,B,E⟩:=c2
  obtain⟨b,m,g⟩:=a
  obtain⟨room,lease,bl,en⟩:=c
  obtain⟨kind,at_,dg,ds,key,size⟩:=e
  dsimp only at hs k1 k3 k6 k7 ⊢
  have d1:decide (kind=1)=false:=dcF k1
  have d3:decide (kind=3)=false:=dcF k3
  have d6:decide (kind=6)=false:=dcF k6
  have d7:decide (kind=7)=true:=dcT k7
  replace hck:=hide hck
  replace hs:=hide hs
  replace h:=hide h
  clear hf k1 k3 k6 k7 hd
  refine FCall.of_ax low_ref7_do ?_
  dsimp only[jm,ji,jf,jl,jL,jn,je,jx,jT,jC,jB,jq,jt,ju,jA,km,kf,kl,kn,kx,l_ref7_do,aEv]at hs ⊢
  refine zs ?_
  repeat'(first|(simp -implicitDefEqProofs only[*,zr,seval,reduceIte,reduceCtorEq])|(apply zk<;>intro hc)|(refine zp ?_)|(refine zd ?_)|fail)
  refine gG hck.out ⟨fz_pc rfl rfl rfl,fz_ev_ (e:=(kind,at_,dg,ds,key,size)),trivial⟩ ?_
  repeat'(first|(simp -implicitDefEqProofs only[*,addFp_wr,zr,seval,reduceIte,reduceCtorEq])|(apply zk<;>intro hc)|(refine zp ?_)|(refine zd ?_)|fail)
  refine gP hs.out 100001 1 [.f (.int .i64 room),.f (.int .i64 lease),.sl 80000 1 5 0 bl.length,.sl 81000 1 3 0 en.length] [] [.agg [.f (.int .i64 kind),.f (.int .i64 at_),.f (.str dg),.f (frStrs ds),.f (.str key),.f (.int .i64 size)]] ?_
  repeat'(first|(simp -implicitDefEqProofs only[*,addFp_wr,zr,seval,reduceIte,reduceCtorEq])|(apply zk<;>intro hc)|(refine zp ?_)|(refine zd ?_)|fail)
  exact end_a rfl rfl rfl (lenB rfl) (lenE rfl)
 ·have hs:=(one_step h ⟨k1,k3,k6,k7⟩ hf).1
  unfold StepF ansRs at hs ⊢
  rw[hf]at hck
  rw[hfl]
  clear hfl
  generalize doC c e=c2 at*
  generalize ansOf c e=a at*
  obtain⟨c2r,c2l,B,E⟩:=c2
  obtain⟨b,m,g⟩:=a
  obtain⟨room,lease,bl,en⟩:=c
  obtain⟨kind,at_,dg,ds,key,size⟩:=e
  dsimp only at hs k1 k3 k6 k7 ⊢
  have d1:decide (kind=1)=false:=dcF k1
  have d3:decide (kind=3)=false:=dcF k3
  have d6:decide (kind=6)=false:=dcF k6
  have d7:decide (kind=7)=false:=dcF k7
  replace hck:=hide hck
  replace hs:=hide hs
  replace h:=hide h
  clear hf k1 k3 k6 k7 hd
  refine FCall.of_ax low_ref7_do ?_
  dsimp only[jm,ji,jf,jl,jL,jn,je,jx,jT,jC,jB,jq,jt,ju,jA,km,kf,kl,kn,kx,l_ref7_do,aEv]at hs ⊢
  refine zs ?_
  repeat'(first|(simp -implicitDefEqProofs only[*,zr,seval,reduceIte,reduceCtorEq])|(apply zk<;>intro hc)|(refine zp ?_)|(refine zd ?_)|fail)
  refine gG hck.out ⟨fz_pc rfl rfl rfl,fz_ev_ (e:=(kind,at_,dg,ds,key,size)),trivial⟩ ?_
  repeat'(first|(simp -implicitDefEqProofs only[*,addFp_wr,zr,seval,reduceIte,reduceCtorEq])|(apply zk<;>intro hc)|(refine zp ?_)|(refine zd ?_)|fail)
  refine gP hs.out 100001 1 [.f (.int .i64 room),.f (.int .i64 lease),.sl 80000 1 5 0 bl.length,.sl 81000 1 3 0 en.length] [] [.agg [.f (.int .i64 kind),.f (.int .i64 at_),.f (.str dg),.f (frStrs ds),.f (.str key),.f (.int .i64 size)]] ?_
  repeat'(first|(simp -implicitDefEqProofs only[*,addFp_wr,zr,seval,reduceIte,reduceCtorEq])|(apply zk<;>intro hc)|(refine zp ?_)|(refine zd ?_)|fail)
  exact end_a rfl rfl rfl (lenB rfl) (lenE rfl)
end Go.Proofs.YtfajjcmagngfiaaGreatDoor
