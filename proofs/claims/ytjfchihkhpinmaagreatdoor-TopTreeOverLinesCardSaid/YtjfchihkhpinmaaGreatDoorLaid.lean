/-
  The abstract machine and the laws: arguments as frozen values; a function's contract as a law's. No statement of the seat is proved here; no conditions.
-/
import Derived.Test.YtjfchihkhpinmaaGreatDoorEngS
import Derived.Test.YtjfchihkhpinmaaGreatDoorOpenS
import Derived.Test.YtjfchihkhpinmaaGreatDoorUtD
import Derived.Test.YtjfchihkhpinmaaGreatDoorCards
import Derived.Test.YtjfchihkhpinmaaGreatDoorTie
import Derived.OpenShut
import Derived.Deep.DeepHandedRow
import Derived.Lib.LaidTab
namespace Go.Proofs.YtjfchihkhpinmaaGreatDoor
open Go.RowKit
set_option linter.unusedVariables false
set_option linter.unusedSimpArgs false

def Fz {α : Type}(R:Rep α) (sz:Nat) (enc : α→List FV):Prop:=∀ (w:World) (B:Nat) (x : α) (cs:List Value),R w B x cs→(enc x).length=sz∧(∀ (j:Nat) (a:FV),(enc x)[j]? = some a→∃ u,cs[j]? = some u∧u.oneCell'=true∧RepF (fun b=>b<B) w a u)
theorem fz_int {k:IntKind} : Fz (rI k) 1 (fun x=>[.int k x]):=by
 rintro w B x cs ⟨rfl,_⟩
 refine⟨rfl,fun j a ha=> ?_⟩
 cases j with
 | zero=>obtain rfl:=Option.some.inj ha;exact⟨_,rfl,rfl,.int _ _⟩
 | succ j=>simp at ha
theorem fz_byte:Fz rByte 1 (fun x=>[.int .u8 x.toNat]):=by
 rintro w B x cs rfl
 refine⟨rfl,fun j a ha=> ?_⟩
 cases j with
 | zero=>obtain rfl:=Option.some.inj ha;exact⟨_,rfl,rfl,.int _ _⟩
 | succ j=>simp at ha
theorem fz_bool:Fz rBool 1 (fun x=>[.bool x]):=by
 rintro w B x cs rfl
 refine⟨rfl,fun j a ha=> ?_⟩
 cases j with
 | zero=>obtain rfl:=Option.some.inj ha;exact⟨_,rfl,rfl,.bool _⟩
 | succ j=>simp at ha
theorem fz_str:Fz rStr 1 (fun x=>[.str x]):=by
 rintro w B x cs ⟨rfl,_⟩
 refine⟨rfl,fun j a ha=> ?_⟩
 cases j with
 | zero=>obtain rfl:=Option.some.inj ha;exact⟨_,rfl,rfl,.str _⟩
 | succ j=>simp at ha
theorem fz_pair {α β : Type}{R:Rep α}{S:Rep β}{s t:Nat}{e : α→List FV}{f : β→List FV}(hR:Fz R s e) (hl:∀ w B x cs,R w B x cs→cs.length=s) (hS:Fz S t f):Fz (rPair R S) (s+t) (fun x=>e x.1++f x.2):=by
 rintro w B x cs ⟨c1,c2,rfl,h1,h2⟩
 obtain⟨a1,a2⟩:=hR w B _ _ h1
 obtain⟨b1,b2⟩:=hS w B _ _ h2
 have hc:=hl w B _ _ h1
 refine⟨by simp [a1,b1],fun j a ha=> ?_⟩
 rcases Nat.lt_or_ge j s with hj|hj
 ·rw[List.getElem?_append_left (by omega)]at ha
  obtain⟨u,h3,h4⟩:=a2 j a ha
  exact⟨u,by rw[List.getElem?_append_left (by omega)];exact h3,h4⟩
 ·rw[List.getElem?_append_right (by omega),a1]at ha
  obtain⟨u,h3,h4⟩:=b2 (j - s) a ha
  exact⟨u,by rw[List.getElem?_append_right (by omega),hc];exact h3,h4⟩
theorem fz_sl {α : Type}{sz bts:Nat}{R:Rep α}{enc : α→List FV}(hR:Fz R sz enc):Fz (rSl sz bts R) 1 (fun l=>[.fr sz (l.map enc)]):=by
 rintro w B l cs ⟨A,c,rfl,h1,h2,_,h3⟩
 refine⟨rfl,fun j a ha=> ?_⟩
 cases j with
 | succ j=>simp at ha
 | zero=>
  obtain rfl:=Option.some.inj ha
  refine⟨_,rfl,rfl,?_⟩
  rcases Nat.eq_zero_or_pos l.length with h0|h0
  ·have e:=List.eq_nil_of_length_eq_zero h0
   subst e
   exact .frNil sz A c h2
  ·obtain⟨b,o,rfl,hb,hc⟩:=h3 h0
   have key:∀ k,k<l.length→∃ x vs,l[k]? = some x∧R w B x vs∧vs.length=sz∧∀ (j:Nat) (u:Value),vs[j]? = some u→w.cell? ⟨b,o+k*sz+j,none⟩=some u:=fun k hk=>by
    obtain⟨vs,h4,h5,h6⟩:=hc k _ (List.getElem?_eq_getElem hk)
    exact⟨_,vs,List.getElem?_eq_getElem hk,h5,h4,h6⟩
   have hfr:=RepF.fr (Z:=fun b=>b<B) (w:=w) sz (l.map enc) b o c (fun k j=>(w.cell? ⟨b,o+k*sz+j,none⟩).getD undef) (by simpa using h0) (by simpa using h1) h2 hb (fun x hx=>by
     obtain⟨y,hy,rfl⟩:=List.mem_map.1 hx
     obtain⟨k,hk,rfl⟩:=List.mem_iff_getElem.1 hy
     obtain⟨x,vs,h4,h5,_⟩:=key k hk
     rw[List.getElem?_eq_getElem hk]at h4
     obtain rfl:=Option.some.inj h4
     exact(hR w B _ _ h5).1) (fun k j hk hj=>by
     obtain⟨x,vs,h4,h5,h6,h7⟩:=key k (by simpa using hk)
     obtain⟨g1,g2⟩:=hR w B _ _ h5
     obtain⟨u,h8,h9,_⟩:=g2 j _ (List.getElem?_eq_getElem (by omega))
     have h10:=h7 j u h8
     rw[h10]
     exact⟨rfl,h9⟩) (fun k j x a hk hj=>by
     rw[List.getElem?_map]at hk
     obtain⟨y,hy,rfl⟩:=Option.map_eq_some_iff.1 hk
     obtain⟨x,vs,h4,h5,h6,h7⟩:=key k (List.getElem?_eq_some_iff.1 hy).1
     rw[hy]at h4
     obtain rfl:=Option.some.inj h4
     obtain⟨g1,g2⟩:=hR w B _ _ h5
     obtain⟨u,h8,h9,h11⟩:=g2 j a hj
     have h10:=h7 j u h8
     rw[h10]
     exact h11)
   rw[List.length_map]at hfr
   exact hfr
theorem Fz.one {α : Type}{R:Rep α}{a : α→FV}(h:Fz R 1 (fun x=>[a x])){w:World}{B:Nat}{x : α}{v:Value}(hv:R w B x [v]):RepF (fun b=>b<B) w (a x) v:=by
 obtain⟨u,h1,_,h2⟩:=(h w B x _ hv).2 0 _ rfl
 obtain rfl:=Option.some.inj h1
 exact h2
theorem FRet.calls {P:Program}{f:FuncId}{xs:List FV}{b:Bool}(h:FRet P f (xs.map .f) [.c (.v (.bool b))]){W:World}{vs:Array Value}(hs:vs.size=xs.length) (hv:∀ (j:Nat) (x:FV) (v:Value),xs[j]? = some x→vs[j]? = some v→RepF (fun b=>b<W.heap.size) W x v) (hkn:Kn P (fun b=>b<W.heap.size) W:=by exact kn_none (by kernel_rfl)) :
  Calls P f vs W fun e w'=>e=.returned (.bool b)∧Below W.heap.size W w':=by
 refine(h.2 (fun _=>(0,none)) (fun b=>b<W.heap.size) W vs ⟨fun _=>rfl,fun _ _=>rfl,fun id o h=>(by cases h),fun _ _ _ _ _ h=>(by cases h),fun _ _ _ h=>(by cases h),⟨fun b hb=>hb,hkn⟩,fun _ _ _ h=>(by cases h),fun _ _ _ h=>(by cases h)⟩ (by rw[hs,List.length_map]) (fun j a v ha hj=>by
  rw[List.getElem?_map]at ha
  obtain⟨x,hx,rfl⟩:=Option.map_eq_some_iff.1 ha
  exact .f (hv j x v hx hj))).mono fun e w' ⟨v,r,H',G',Z',e1,⟨l,hl,hrs,_⟩,st,hh,hr⟩=> ?_
 have hll:l = [.f (.bool b)]:=by
  rcases l with _|⟨a,_|⟨a',l⟩⟩
  ·exact hrs.elim
  ·obtain⟨h1,_⟩:=hrs
   have:a=.f (.bool b):=h1
   rw[this]
  ·obtain⟨_,h2⟩:=hrs
   cases h2
 subst hll
 rw[hl]at hr
 have hr':RepA G' Z' w' (.f (.bool b)) v:=hr
 rw[e1,hr'.bool_]
 refine⟨rfl,?_⟩
 have old:∀ b,b<W.heap.size→w'.heap[b]? = W.heap[b]?:=fun b hb=>hh.old b hb (fun ⟨_,_,h⟩=>by cases h)
 exact⟨hh.os,hh.tape,hh.output,hh.size,fun b hb=>old b hb⟩
end Go.Proofs.YtjfchihkhpinmaaGreatDoor
namespace Go.Proofs.YtjfchihkhpinmaaGreatDoor
open Go.RowKit Go.Shelf
set_option linter.unusedVariables false
set_option linter.unusedSimpArgs false

abbrev F0:=ByteArray × Bool × List UInt8
abbrev rFile:Rep F0:=rPair rStr (rPair rBool (rSl 1 1 rByte))
def fF0 (x:F0):List FV:=[.str x.1,.bool x.2.1,frB x.2.2]
def toFT (x:F0):FT:=(x.1.data.toList,x.2.1,x.2.2)
theorem f0_eq (x:F0):fFt (toFT x)=fF0 x:=by
 obtain⟨⟨p⟩,r,b⟩:=x
 rfl
theorem f0s_eq (l:List F0):QY (l.map toFT)=.fr 3 (l.map fF0):=by
 unfold QY
 rw[List.map_map]
 exact congrArg (FV.fr 3) (List.map_congr_left fun x _=>f0_eq x)
theorem len_s:∀ w B x cs,rStr w B x cs→cs.length=1:=by rintro w B x cs ⟨rfl,_⟩;rfl
theorem len_b:∀ w B x cs,rBool w B x cs→cs.length=1:=by rintro w B x cs rfl;rfl
theorem fz_bytes:Fz (rSl 1 1 rByte) 1 (fun l=>[frB l]):=fz_sl fz_byte
theorem fz_file:Fz rFile 3 fF0:=fz_pair fz_str len_s (fz_pair fz_bool len_b fz_bytes)
theorem fz_files:Fz (rSl 3 48 rFile) 1 (fun l=>[.fr 3 (l.map fF0)]):=fz_sl fz_file
theorem fz_ints:Fz (rSl 1 8 (rI .i64)) 1 (fun l=>[frI l]):=fz_sl fz_int
theorem rSl.bd {α : Type}{sz bts:Nat}{R:Rep α}{w:World}{B:Nat}{l:List α}{cs:List Value}(h:rSl sz bts R w B l cs):l.length*bts≤140737488355328∧(l.length:Int)≤9223372036854775807∧∀ x∈l,∃ vs,R w B x vs:=by
 obtain⟨A,c,_,h1,h2,h3,h4⟩:=h
 refine⟨h3,by unfold maxLen at h2;omega,fun x hx=> ?_⟩
 obtain⟨k,hk⟩:=List.mem_iff_getElem?.1 hx
 obtain⟨b,o,_,_,h5⟩:=h4 (by have:=(List.getElem?_eq_some_iff.1 hk).1;omega)
 obtain⟨vs,_,h6,_⟩:=h5 k x hk
 exact⟨vs,h6⟩
theorem QB5 {w:World}{B:Nat}{l:List F0}{cs:List Value}(h:rSl 3 48 rFile w B l cs):(∀ x∈l.map toFT,x.1.length≤140737488355328∧x.2.2.length≤140737488355328)∧((l.map toFT).length:Int)≤9223372036854775807:=by
 obtain⟨_,h1,h2⟩:=h.bd
 refine⟨fun y hy=> ?_,by rw[List.length_map];exact h1⟩
 obtain⟨x,hx,rfl⟩:=List.mem_map.1 hy
 obtain⟨vs,c1,c2,_,k1,d1,d2,_,k2,k3⟩:=h2 x hx
 obtain⟨⟨p⟩,r,b⟩:=x
 refine⟨?_,?_⟩
 ·have:=k1.2
  show p.toList.length≤_
  rw[Array.length_toList];exact this
 ·have:=k3.bd.1
  show b.length≤_
  dsimp only at this
  omega
theorem tree_any (A:Option Addr) (n c:Nat) (l:List F0) (most:Int) (A2:Option Addr) (n2 c2:Nat) (bk:List Int) (W:World) (h:rSl 3 48 rFile W W.heap.size l [.slice A n c]) (h2:rSl 1 8 (rI .i64) W W.heap.size bk [.slice A2 n2 c2]) :
  Calls Tryz.prog 3 #[.slice A n c,.int .i64 most,.slice A2 n2 c2] W fun e w'=>e=.returned (.bool true)∧Below W.heap.size W w':=by
 obtain⟨h3,h4⟩:=QB5 h
 have hF:=law_f (l.map toFT) most bk h3 h4
 rw[f0s_eq]at hF
 refine FRet.calls (xs:=[.fr 3 (l.map fF0),.int .i64 most,frI bk]) hF rfl fun j x v hx hv=> ?_
 rcases j with _|_|_|j
 ·obtain rfl:=Option.some.inj hx;obtain rfl:=Option.some.inj hv;exact fz_files.one h
 ·obtain rfl:=Option.some.inj hx;obtain rfl:=Option.some.inj hv;exact .int _ _
 ·obtain rfl:=Option.some.inj hx;obtain rfl:=Option.some.inj hv;exact fz_ints.one (a:=frI) h2
 ·simp at hx
end Go.Proofs.YtjfchihkhpinmaaGreatDoor
namespace Go.Proofs.YtjfchihkhpinmaaGreatDoor
open Go.RowKit
theorem own:ownKnob Tryz.prog.godebug=none:=by kernel_rfl
theorem laidOut:laidOutB Tryz.prog=true:=by kernel_rfl
end Go.Proofs.YtjfchihkhpinmaaGreatDoor
namespace Go.Proofs.YtjfchihkhpinmaaGreatDoor
open Go.ChangeShapes Go.WideShapes Go.ChangeAt Go.RowKit

def setCs (cs:Array Value):Obj→Obj
 | .cells _ t frozen=> .cells cs t frozen
 | o=>o
def firstCs:Array Value:=(Pinned.utf8FirstZ.map fun (x:Nat)=>Value.int .u8 (x:Int)).toArray
def acceptCs:Array Value:=([128,191,160,191,128,159,144,191,128,143,0,0,0,0,0,0,0,0,0,0,0,0,0,0,0,0,0,0,0,0,0,0].map fun (x:Nat)=>Value.int .u8 (x:Int)).toArray
noncomputable def Ng (os:Os):World:=
 { World.holding Tryz.prog os ⟨#[],#[],[]⟩with heap:=((World.holding Tryz.prog os ⟨#[],#[],[]⟩).heap.modify 1 (setCs firstCs)).modify 2 (setCs acceptCs) }
end Go.Proofs.YtjfchihkhpinmaaGreatDoor
