/-
  The abstract machine and the laws: arguments as frozen values; a function's contract as a law's. No statement of the seat is proved here; no conditions.
-/
import Derived.Test.YtjacnfjlocajoaaDoorEngS
import Derived.Test.YtjacnfjlocajoaaDoorOpenS
import Derived.Test.YtjacnfjlocajoaaDoorMsP
import Derived.Test.YtjacnfjlocajoaaDoorMsL
import Derived.Test.YtjacnfjlocajoaaDoorRv4
import Derived.Test.YtjacnfjlocajoaaDoorCards
import Derived.Test.YtjacnfjlocajoaaDoorTie
import Derived.OpenShut
import Derived.Deep.DeepHandedRow
import Derived.Lib.LaidTab
namespace Go.Proofs.YtjacnfjlocajoaaDoor
open Go.RowKit
set_option linter.unusedVariables false
set_option linter.unusedSimpArgs false

def Fz {α : Type} (R : Rep α) (sz : Nat) (enc : α → List FV) : Prop := ∀ (w : World) (B : Nat) (x : α) (cs : List Value),R w B x cs → (enc x).length = sz ∧ (∀ (j : Nat) (a : FV),(enc x)[j]? = some a → ∃ u,cs[j]? = some u ∧ u.oneCell' = true ∧ RepF (fun b => b < B) w a u)
theorem fz_int {k : IntKind} : Fz (rI k) 1 (fun x => [.int k x]) := by
 rintro w B x cs ⟨rfl,_⟩
 refine ⟨rfl,fun j a ha => ?_⟩
 cases j with
 | zero => obtain rfl := Option.some.inj ha;exact ⟨_,rfl,rfl,.int _ _⟩
 | succ j => simp at ha
theorem fz_byte : Fz rByte 1 (fun x => [.int .u8 x.toNat]) := by
 rintro w B x cs rfl
 refine ⟨rfl,fun j a ha => ?_⟩
 cases j with
 | zero => obtain rfl := Option.some.inj ha;exact ⟨_,rfl,rfl,.int _ _⟩
 | succ j => simp at ha
theorem fz_str : Fz rStr 1 (fun x => [.str x]) := by
 rintro w B x cs ⟨rfl,_⟩
 refine ⟨rfl,fun j a ha => ?_⟩
 cases j with
 | zero => obtain rfl := Option.some.inj ha;exact ⟨_,rfl,rfl,.str _⟩
 | succ j => simp at ha
theorem fz_pair {α β : Type} {R : Rep α} {S : Rep β} {s t : Nat} {e : α → List FV} {f : β → List FV} (hR : Fz R s e) (hl : ∀ w B x cs,R w B x cs → cs.length = s) (hS : Fz S t f) : Fz (rPair R S) (s + t) (fun x => e x.1 ++ f x.2) := by
 rintro w B x cs ⟨c1,c2,rfl,h1,h2⟩
 obtain ⟨a1,a2⟩ := hR w B _ _ h1
 obtain ⟨b1,b2⟩ := hS w B _ _ h2
 have hc := hl w B _ _ h1
 refine ⟨by simp [a1,b1],fun j a ha => ?_⟩
 rcases Nat.lt_or_ge j s with hj | hj
 ·rw [List.getElem?_append_left (by omega)] at ha
  obtain ⟨u,h3,h4⟩ := a2 j a ha
  exact ⟨u,by rw [List.getElem?_append_left (by omega)];exact h3,h4⟩
 ·rw [List.getElem?_append_right (by omega),a1] at ha
  obtain ⟨u,h3,h4⟩ := b2 (j - s) a ha
  exact ⟨u,by rw [List.getElem?_append_right (by omega),hc];exact h3,h4⟩
theorem fz_sl {α : Type} {sz bts : Nat} {R : Rep α} {enc : α → List FV} (hR : Fz R sz enc) : Fz (rSl sz bts R) 1 (fun l => [.fr sz (l.map enc)]) := by
 rintro w B l cs ⟨A,c,rfl,h1,h2,_,h3⟩
 refine ⟨rfl,fun j a ha => ?_⟩
 cases j with
 | succ j => simp at ha
 | zero =>
  obtain rfl := Option.some.inj ha
  refine ⟨_,rfl,rfl,?_⟩
  rcases Nat.eq_zero_or_pos l.length with h0 | h0
  ·have e := List.eq_nil_of_length_eq_zero h0
   subst e
   exact .frNil sz A c h2
  ·obtain ⟨b,o,rfl,hb,hc⟩ := h3 h0
   have key : ∀ k,k < l.length → ∃ x vs,l[k]? = some x ∧ R w B x vs ∧ vs.length = sz ∧ ∀ (j : Nat) (u : Value),vs[j]? = some u → w.cell? ⟨b,o + k * sz + j,none⟩ = some u := fun k hk => by
    obtain ⟨vs,h4,h5,h6⟩ := hc k _ (List.getElem?_eq_getElem hk)
    exact ⟨_,vs,List.getElem?_eq_getElem hk,h5,h4,h6⟩
   have hfr := RepF.fr (Z := fun b => b < B) (w := w) sz (l.map enc) b o c (fun k j => (w.cell? ⟨b,o + k * sz + j,none⟩).getD undef) (by simpa using h0) (by simpa using h1) h2 hb (fun x hx => by
     obtain ⟨y,hy,rfl⟩ := List.mem_map.1 hx
     obtain ⟨k,hk,rfl⟩ := List.mem_iff_getElem.1 hy
     obtain ⟨x,vs,h4,h5,_⟩ := key k hk
     rw [List.getElem?_eq_getElem hk] at h4
     obtain rfl := Option.some.inj h4
     exact (hR w B _ _ h5).1) (fun k j hk hj => by
     obtain ⟨x,vs,h4,h5,h6,h7⟩ := key k (by simpa using hk)
     obtain ⟨g1,g2⟩ := hR w B _ _ h5
     obtain ⟨u,h8,h9,_⟩ := g2 j _ (List.getElem?_eq_getElem (by omega))
     have h10 := h7 j u h8
     rw [h10]
     exact ⟨rfl,h9⟩) (fun k j x a hk hj => by
     rw [List.getElem?_map] at hk
     obtain ⟨y,hy,rfl⟩ := Option.map_eq_some_iff.1 hk
     obtain ⟨x,vs,h4,h5,h6,h7⟩ := key k (List.getElem?_eq_some_iff.1 hy).1
     rw [hy] at h4
     obtain rfl := Option.some.inj h4
     obtain ⟨g1,g2⟩ := hR w B _ _ h5
     obtain ⟨u,h8,h9,h11⟩ := g2 j a hj
     have h10 := h7 j u h8
     rw [h10]
     exact h11)
   rw [List.length_map] at hfr
   exact hfr
theorem Fz.one {α : Type} {R : Rep α} {a : α → FV} (h : Fz R 1 (fun x => [a x])) {w : World} {B : Nat} {x : α} {v : Value} (hv : R w B x [v]) : RepF (fun b => b < B) w (a x) v := by
 obtain ⟨u,h1,_,h2⟩ := (h w B x _ hv).2 0 _ rfl
 obtain rfl := Option.some.inj h1
 exact h2
theorem FRet.calls {P : Program} {f : FuncId} {xs : List FV} {b : Bool} (h : FRet P f (xs.map .f) [.c (.v (.bool b))]) {W : World} {vs : Array Value} (hs : vs.size = xs.length) (hv : ∀ (j : Nat) (x : FV) (v : Value),xs[j]? = some x → vs[j]? = some v → RepF (fun b => b < W.heap.size) W x v) :
  Calls P f vs W fun e w' => e = .returned (.bool b) ∧ Below W.heap.size W w' := by
 refine (h.2 (fun _ => (0,none)) (fun b => b < W.heap.size) W vs ⟨fun _ => rfl,fun _ _ => rfl,fun id o h => (by cases h),fun _ _ _ _ _ h => (by cases h),fun _ _ _ h => (by cases h),fun b hb => hb,fun _ _ _ h => (by cases h),fun _ _ _ h => (by cases h)⟩ (by rw [hs,List.length_map]) (fun j a v ha hj => by
  rw [List.getElem?_map] at ha
  obtain ⟨x,hx,rfl⟩ := Option.map_eq_some_iff.1 ha
  exact .f (hv j x v hx hj))).mono fun e w' ⟨v,r,H',G',Z',e1,⟨l,hl,hrs,_⟩,st,hh,hr⟩ => ?_
 have hll : l = [.f (.bool b)] := by
  rcases l with _ | ⟨a,_ | ⟨a',l⟩⟩
  ·exact hrs.elim
  ·obtain ⟨h1,_⟩ := hrs
   have : a = .f (.bool b) := h1
   rw [this]
  ·obtain ⟨_,h2⟩ := hrs
   cases h2
 subst hll
 rw [hl] at hr
 have hr' : RepA G' Z' w' (.f (.bool b)) v := hr
 rw [e1,hr'.bool_]
 refine ⟨rfl,?_⟩
 have old : ∀ b,b < W.heap.size → w'.heap[b]? = W.heap[b]? := fun b hb => hh.old b hb (fun ⟨_,_,h⟩ => by cases h)
 exact ⟨hh.os,hh.tape,hh.output,hh.size,fun b hb => old b hb⟩
end Go.Proofs.YtjacnfjlocajoaaDoor
namespace Go.Proofs.YtjacnfjlocajoaaDoor
open Go.RowKit Go.Shelf
set_option linter.unusedVariables false
set_option linter.unusedSimpArgs false

abbrev rOb : Rep Ob := rPair rStr (rSl 1 1 rByte)
abbrev rPt : Rep Pt := rPair rStr (rPair (rI .i64) (rSl 1 1 rByte))
abbrev rRcv : Rep Rc := rPair (rSl 2 40 rOb) (rSl 3 48 rPt)
theorem len_i {k : IntKind} : ∀ w B x cs,rI k w B x cs → cs.length = 1 := by rintro w B x cs ⟨rfl,_⟩;rfl
theorem len_s : ∀ w B x cs,rStr w B x cs → cs.length = 1 := by rintro w B x cs ⟨rfl,_⟩;rfl
theorem len_sl {α : Type} {sz bts : Nat} {R : Rep α} : ∀ w B x cs,rSl sz bts R w B x cs → cs.length = 1 := by rintro w B x cs ⟨A,c,rfl,_⟩;rfl
theorem len_pair {α β : Type} {R : Rep α} {S : Rep β} {s t : Nat} (h1 : ∀ w B x cs,R w B x cs → cs.length = s) (h2 : ∀ w B x cs,S w B x cs → cs.length = t) : ∀ w B x cs,rPair R S w B x cs → cs.length = s + t := by
 rintro w B x cs ⟨c1,c2,rfl,g1,g2⟩
 rw [List.length_append,h1 _ _ _ _ g1,h2 _ _ _ _ g2]
theorem fz_bytes : Fz (rSl 1 1 rByte) 1 (fun l => [frB l]) := fz_sl fz_byte
theorem fz_ob : Fz rOb 2 fOb := fz_pair fz_str len_s fz_bytes
theorem fz_pt : Fz rPt 3 fPt := fz_pair fz_str len_s (fz_pair fz_int len_i fz_bytes)
theorem fz_obs : Fz (rSl 2 40 rOb) 1 (fun l => [frObs l]) := fz_sl fz_ob
theorem fz_pts : Fz (rSl 3 48 rPt) 1 (fun l => [frPts l]) := fz_sl fz_pt
theorem fz_rcv : Fz rRcv 2 (fun r => [frObs r.1,frPts r.2]) := fz_pair fz_obs len_sl fz_pts
theorem len_rcv : ∀ w B x cs,rRcv w B x cs → cs.length = 2 := len_pair len_sl len_sl
theorem Fz.agg {α : Type} {R : Rep α} {sz : Nat} {e : α → List FV} (h : Fz R sz e) (hl : ∀ w B x cs,R w B x cs → cs.length = sz) {G : Ghost} {w : World} {B : Nat} {x : α} {cs : List Value} (hr : R w B x cs) : RepA G (fun b => b < B) w (.agg ((e x).map .f)) (.agg cs.toArray) := by
 obtain ⟨h1,h2⟩ := h w B x cs hr
 have h3 := hl w B x cs hr
 refine .agg _ _ (by simp [h1,h3]) (fun j u hj => ?_) fun j a u ha hj => ?_
 ·have hlt : j < sz := by have := (List.getElem?_eq_some_iff.1 (by simpa using hj : cs[j]? = some u)).1;omega
  obtain ⟨u',g1,g2,_⟩ := h2 j _ (List.getElem?_eq_getElem (by omega : j < (e x).length))
  rw [List.getElem?_toArray] at hj
  rw [hj] at g1;obtain rfl := Option.some.inj g1
  exact g2
 ·rw [List.getElem?_map] at ha
  obtain ⟨y,hy,rfl⟩ := Option.map_eq_some_iff.1 ha
  obtain ⟨u',g1,_,g3⟩ := h2 j y hy
  rw [List.getElem?_toArray] at hj
  rw [hj] at g1;obtain rfl := Option.some.inj g1
  exact .f g3
theorem rSl.all {α : Type} {sz bts : Nat} {R : Rep α} {w : World} {B : Nat} {l : List α} {cs : List Value} (h : rSl sz bts R w B l cs) : (l.length : Int) ≤ 9223372036854775807 ∧ ∀ x ∈ l,∃ vs,R w B x vs := by
 obtain ⟨A,c,_,h1,h2,_,h3⟩ := h
 refine ⟨by unfold maxLen at h2;omega,fun x hx => ?_⟩
 obtain ⟨k,hk⟩ := List.mem_iff_getElem?.1 hx
 obtain ⟨b,o,_,_,h4⟩ := h3 (by have := (List.getElem?_eq_some_iff.1 hk).1;omega)
 obtain ⟨vs,_,h5,_⟩ := h4 k x hk
 exact ⟨vs,h5⟩
theorem FRet.callsA {P : Program} {f : FuncId} {args : List AV} {b : Bool} (h : FRet P f args [.c (.v (.bool b))]) {W : World} {vs : Array Value} (hs : vs.size = args.length) (hv : ∀ (j : Nat) (x : AV) (v : Value),args[j]? = some x → vs[j]? = some v → RepA (fun _ => (0,none)) (fun b => b < W.heap.size) W x v) :
  Calls P f vs W fun e w' => e = .returned (.bool b) ∧ Below W.heap.size W w' := by
 refine (h.2 (fun _ => (0,none)) (fun b => b < W.heap.size) W vs ⟨fun _ => rfl,fun _ _ => rfl,fun id o h => (by cases h),fun _ _ _ _ _ h => (by cases h),fun _ _ _ h => (by cases h),fun b hb => hb,fun _ _ _ h => (by cases h),fun _ _ _ h => (by cases h)⟩ hs hv).mono fun e w' ⟨v,r,H',G',Z',e1,⟨l,hl,hrs,_⟩,st,hh,hr⟩ => ?_
 have hll : l = [.f (.bool b)] := by
  rcases l with _ | ⟨a,_ | ⟨a',l⟩⟩
  ·exact hrs.elim
  ·obtain ⟨h1,_⟩ := hrs
   have : a = .f (.bool b) := h1
   rw [this]
  ·obtain ⟨_,h2⟩ := hrs
   cases h2
 subst hll
 rw [hl] at hr
 have hr' : RepA G' Z' w' (.f (.bool b)) v := hr
 rw [e1,hr'.bool_]
 refine ⟨rfl,?_⟩
 have old : ∀ b,b < W.heap.size → w'.heap[b]? = W.heap[b]? := fun b hb => hh.old b hb (fun ⟨_,_,h⟩ => by cases h)
 exact ⟨hh.os,hh.tape,hh.output,hh.size,fun b hb => old b hb⟩
theorem rcv_bound {w : World} {B : Nat} {r : Rc} {cs : List Value} (h : rRcv w B r cs) : RcS r := by
 obtain ⟨_,_,_,h1,h2⟩ := h
 refine ⟨⟨h1.all.1,h2.all.1⟩,fun x hx => ?_,fun x hx => ?_⟩
 ·obtain ⟨_,_,_,_,_,h3⟩ := h1.all.2 x hx
  exact h3.all.1
 ·obtain ⟨_,_,_,_,_,_,_,_,_,h3⟩ := h2.all.2 x hx
  exact h3.all.1
end Go.Proofs.YtjacnfjlocajoaaDoor
namespace Go.Proofs.YtjacnfjlocajoaaDoor
open Go.RowKit Go.Shelf
set_option linter.unusedVariables false
set_option linter.unusedSimpArgs false

end Go.Proofs.YtjacnfjlocajoaaDoor
namespace Go.Proofs.YtjacnfjlocajoaaDoor
open Go.RowKit Go.Shelf
set_option linter.unusedVariables false
set_option linter.unusedSimpArgs false

theorem fz_ints : Fz (rSl 1 8 (rI .i64)) 1 (fun l => [frI l]) := fz_sl fz_int
end Go.Proofs.YtjacnfjlocajoaaDoor
namespace Go.Proofs.YtjacnfjlocajoaaDoor
open Go.RowKit Go.Shelf
set_option linter.unusedVariables false
set_option linter.unusedSimpArgs false
set_option maxRecDepth 100000

theorem del_ok {t : ByteArray} {b : List UInt8} {most : Nat} (hd : isDig t = true) (hb : b.length ≤ 100000) (hm : 1 ≤ most ∧ most ≤ 65536) : ∀ (L : List Int) (r : Rc) (s : Int),ROk r → (delV t b most L r s).1 = 0 → ROk (delV t b most L r s).2.1
 | [],r,s,h,_ => h
 | n :: L,r,s,h,h0 => by
  have ho := (once_ok hd hb hm (b.length + 2) n (1,t,0,b.length,[]) r s ⟨h,.inl rfl⟩ (by unfold meas;rw [if_pos rfl];omega)).1
  rw [delV] at h0 ⊢
  split
  ·rename_i h1
   rw [if_pos h1] at h0
   exact absurd h0 h1
  rename_i h1
  rw [if_neg h1] at h0
  have h2 := ho (Decidable.not_not.1 h1)
  split
  ·exact h2
  ·rename_i h3
   rw [if_neg h3] at h0
   exact del_ok hd hb hm L _ _ h2 h0
theorem Deliver_sizes {r : Rc} {t : ByteArray} {b : List UInt8} {most : Int} {l : List Int} : RcS (DeliverV r t b most l).1 := by
 unfold DeliverV
 by_cases h1 : ckRc r = 0
 case neg => rw [if_pos h1];exact rcS_nil
 rw [if_neg (fun hh => hh h1)]
 by_cases h2 : ckC t b = 0
 case neg => rw [if_pos h2];exact rcS_nil
 rw [if_neg (fun hh => hh h2)]
 by_cases h3 : inRg most 1 65536 = false
 ·rw [if_pos h3];exact rcS_nil
 rw [if_neg h3]
 by_cases h4 : 100 < l.length
 ·rw [if_pos h4];exact rcS_nil
 rw [if_neg h4]
 by_cases h5 : l.any (fun n => !inRg n 0 20000) = true
 ·rw [if_pos h5];exact rcS_nil
 rw [if_neg h5]
 by_cases h6 : (delV t b most.toNat (l ++ [-1]) r 0).1 = 0
 case neg => rw [if_pos h6];exact rcS_nil
 rw [if_neg (fun hh => hh h6)]
 have hd : isDig t = true := by
  cases hh : isDig t with
  | true => rfl
  | false => unfold ckC at h2;rw [if_pos hh] at h2;cases h2
 have hb : b.length ≤ 100000 := by
  unfold ckC at h2
  rw [if_neg (by rw [hd];decide)] at h2
  split at h2
  ·cases h2
  ·omega
 simp only [inRg,Bool.not_eq_false,Bool.and_eq_true,decide_eq_true_eq] at h3
 exact (del_ok hd hb (by omega) _ _ _ (ckRc_iff.1 h1) h6).sizes
set_option maxHeartbeats 2000000 in
theorem delivSpec_law_f (r : Rc) (t : ByteArray) (b : List UInt8) (most : Int) (l : List Int) (hr : RcS r) (hll : (l.length : Int) ≤ 9223372036854775807) : FRet Tryd.prog 8 [aRc r,.f (.str t),.f (frB b),.f (.int .i64 most),.f (frI l)] [.c (.v (.bool true))] := by
 have k1 := Deliver_z r t b most l hr.l hr.b
 have k2 := DeliverR_f r t b most l hr hll
 have hs := Deliver_sizes (r := r) (t := t) (b := b) (most := most) (l := l)
 have kS := sameRc_f (DeliverV r t b most l).1 hs.l hs.b
 clear hs
 generalize DeliverV r t b most l = V at *
 obtain ⟨⟨D2,P2⟩,n,bo,q⟩ := V
 obtain ⟨D,P⟩ := r
 dsimp only at *
 have d2 : decide (q = q) = true := dcT rfl
 have d4 : decide (n = n) = true := dcT rfl
 have d5 : decide (bo = bo) = true := dcT rfl
 have d6 : (bo == bo) = true := by cases bo <;> rfl
 refine FCall.of_ax low_law8_WireDeliversMatchSpec ?_
 dsimp only [l_law8_WireDeliversMatchSpec,rSX,aRc,rInt] at k1 k2 kS ⊢
 refine srun_sound 300 _ _ _ _ ?_
 repeat' (first
  | (simp -implicitDefEqProofs only [*,zr,Nat.reduceAdd,Nat.reduceSub,Nat.reduceMul,Nat.reduceLT,Nat.reduceLeDiff,Nat.reduceEqDiff,Nat.reduceBEq,reduceIte,reduceCtorEq,Int.reduceLE,Int.reduceLT,Int.reduceToNat,Int.reduceEq,Int.reduceNe])
  | ((first|apply zk0|apply zk1|apply zk2|apply zk3|apply zk4|apply zk5|apply zk6|apply zk7|apply zk8|apply zk9) <;> intro hc)
  |(refine callP0 rfl ?_)
  |(refine callD0 rfl ?_)
  |(refine cP (k1) ?_)
  |(refine cD (k1) ?_)
  |(refine cF (k1) ?_)
  |(refine cP (k2) ?_)
  |(refine cD (k2) ?_)
  |(refine cF (k2) ?_)
  |(refine cP (kS) ?_)
  |(refine cD (kS) ?_)
  |(refine cF (kS) ?_)
  |(refine cP (awake8_f) ?_)
  |(refine cD (awake8_f) ?_)
  |(refine cF (awake8_f) ?_)
  | fail)
 exact ret_v
theorem args5q {G : Ghost} {Z : Nat → Prop} {w : World} {a b c d e : AV} {u v x y z : Value} (h1 : RepA G Z w a u) (h2 : RepA G Z w b v) (h3 : RepA G Z w c x) (h4 : RepA G Z w d y) (h5 : RepA G Z w e z) : ∀ (j : Nat) (s : AV) (o : Value),[a,b,c,d,e][j]? = some s → (#[u,v,x,y,z] : Array Value)[j]? = some o → RepA G Z w s o := by
 intro j s o hy hz
 rcases j with _ | _ | _ | _ | _ | j
 ·obtain rfl := Option.some.inj hy;simp at hz;subst hz;exact h1
 ·obtain rfl := Option.some.inj hy;simp at hz;subst hz;exact h2
 ·obtain rfl := Option.some.inj hy;simp at hz;subst hz;exact h3
 ·obtain rfl := Option.some.inj hy;simp at hz;subst hz;exact h4
 ·obtain rfl := Option.some.inj hy;simp at hz;subst hz;exact h5
 ·simp at hy
theorem delivSpec_any (cs : List Value) (r : Rc) (t : ByteArray) (A : Option Addr) (n k : Nat) (b : List UInt8) (most : Int) (A2 : Option Addr) (n2 k2 : Nat) (l : List Int) (W : World) (h0 : rRcv W W.heap.size r cs) (h : rSl 1 1 rByte W W.heap.size b [.slice A n k]) (h2 : rSl 1 8 (rI .i64) W W.heap.size l [.slice A2 n2 k2]) : Calls Tryd.prog 8 #[.agg cs.toArray,.string t,.slice A n k,.int .i64 most,.slice A2 n2 k2] W fun e w' => e = .returned (.bool true) ∧ Below W.heap.size W w' :=
 (delivSpec_law_f r t b most l (rcv_bound h0) h2.all.1).callsA rfl (args5q (fz_rcv.agg len_rcv h0) (.f (.str _)) (.f (fz_bytes.one (a := frB) h)) (.f (.int _ _)) (.f (fz_ints.one (a := frI) h2)))
end Go.Proofs.YtjacnfjlocajoaaDoor
namespace Go.Proofs.YtjacnfjlocajoaaDoor
open Go.RowKit
theorem own : ownKnob Tryd.prog.godebug = none := by kernel_rfl
theorem laidOut : laidOutB Tryd.prog = true := by kernel_rfl
end Go.Proofs.YtjacnfjlocajoaaDoor
namespace Go.Proofs.YtjacnfjlocajoaaDoor
open Go.ChangeShapes Go.WideShapes Go.ChangeAt Go.RowKit

def setCs (cs : Array Value) : Obj → Obj
 | .cells _ t frozen => .cells cs t frozen
 | o => o
def firstCs : Array Value := (Pinned.utf8FirstZ.map fun (x : Nat) => Value.int .u8 (x : Int)).toArray
def acceptCs : Array Value := ([128,191,160,191,128,159,144,191,128,143,0,0,0,0,0,0,0,0,0,0,0,0,0,0,0,0,0,0,0,0,0,0].map fun (x : Nat) => Value.int .u8 (x : Int)).toArray
noncomputable def laidWorld (os : Os) : World :=
 { World.holding Tryd.prog os ⟨#[],#[],[]⟩ with heap := ((World.holding Tryd.prog os ⟨#[],#[],[]⟩).heap.modify 1 (setCs firstCs)).modify 2 (setCs acceptCs) }
end Go.Proofs.YtjacnfjlocajoaaDoor
