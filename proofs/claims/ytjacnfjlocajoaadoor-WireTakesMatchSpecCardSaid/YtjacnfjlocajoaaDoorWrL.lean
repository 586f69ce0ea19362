/-
  Receivers and messages as the laws' arguments. No statement of the seat is proved here; no conditions.
-/
import Derived.Test.YtjacnfjlocajoaaDoorWrT
import Derived.Test.YtjacnfjlocajoaaDoorEngR
import Derived.Test.YtjacnfjlocajoaaDoorOpenS
namespace Go.Proofs.YtjacnfjlocajoaaDoor
open Go.RowKit Go.Shelf
set_option linter.unusedVariables false
set_option linter.unusedSimpArgs false

abbrev rOb : Rep Ob := rPair rStr (rSl 1 1 rByte)
abbrev rPt : Rep Pt := rPair rStr (rPair (rI .i64) (rSl 1 1 rByte))
abbrev rRcv : Rep Rc := rPair (rSl 2 40 rOb) (rSl 3 48 rPt)
abbrev rMsg : Rep Mg := rPair (rI .i64) (rPair rStr (rPair (rI .i64) (rPair (rI .i64) (rSl 1 1 rByte))))
theorem len_i {k : IntKind} : ∀ w B x cs,rI k w B x cs → cs.length = 1 := by rintro w B x cs ⟨rfl,_⟩;rfl
theorem len_s : ∀ w B x cs,rStr w B x cs → cs.length = 1 := by rintro w B x cs ⟨rfl,_⟩;rfl
theorem len_sl {α : Type} {sz bts : Nat} {R : Rep α} : ∀ w B x cs,rSl sz bts R w B x cs → cs.length = 1 := by rintro w B x cs ⟨A,c,rfl,_⟩;rfl
theorem len_pair {α β : Type} {R : Rep α} {S : Rep β} {s t : Nat} (h1 : ∀ w B x cs,R w B x cs → cs.length = s) (h2 : ∀ w B x cs,S w B x cs → cs.length = t) : ∀ w B x cs,rPair R S w B x cs → cs.length = s + t := by
 rintro w B x cs ⟨c1,c2,rfl,g1,g2⟩
 rw [List.length_append,h1 _ _ _ _ g1,h2 _ _ _ _ g2]
theorem fz_bytes : Fz (rSl 1 1 rByte) 1 (fun l => [frB l]) := fz_sl fz_byte
theorem fz_ob : Fz rOb 2 fOb := fz_pair fz_str len_s fz_bytes
theorem fz_pt : Fz rPt 3 fPt := fz_pair fz_str len_s (fz_pair fz_int len_i fz_bytes)
theorem fz_obs : Fz (rSl 2 40 rOb) 1 (fun l => [frObs l]) := fz_sl fz_ob
theorem fz_pts : Fz (rSl 3 48 rPt) 1 (fun l => [frPts l]) := fz_sl fz_pt
theorem fz_rcv : Fz rRcv 2 (fun r => [frObs r.1,frPts r.2]) := fz_pair fz_obs len_sl fz_pts
theorem len_rcv : ∀ w B x cs,rRcv w B x cs → cs.length = 2 := len_pair len_sl len_sl
theorem fz_msg : Fz rMsg 5 fMg := fz_pair fz_int len_i (fz_pair fz_str len_s (fz_pair fz_int len_i (fz_pair fz_int len_i fz_bytes)))
theorem len_msg : ∀ w B x cs,rMsg w B x cs → cs.length = 5 := len_pair len_i (len_pair len_s (len_pair len_i (len_pair len_i len_sl)))
theorem Fz.agg {α : Type} {R : Rep α} {sz : Nat} {e : α → List FV} (h : Fz R sz e) (hl : ∀ w B x cs,R w B x cs → cs.length = sz) {G : Ghost} {w : World} {B : Nat} {x : α} {cs : List Value} (hr : R w B x cs) : RepA G (fun b => b < B) w (.agg ((e x).map .f)) (.agg cs.toArray) := by
 obtain ⟨h1,h2⟩ := h w B x cs hr
 have h3 := hl w B x cs hr
 refine .agg _ _ (by simp [h1,h3]) (fun j u hj => ?_) fun j a u ha hj => ?_
 ·have hlt : j < sz := by have := (List.getElem?_eq_some_iff.1 (by simpa using hj : cs[j]? = some u)).1;omega
  obtain ⟨u',g1,g2,_⟩ := h2 j _ (List.getElem?_eq_getElem (by omega : j < (e x).length))
  rw [List.getElem?_toArray] at hj
  rw [hj] at g1;obtain rfl := Option.some.inj g1
  exact g2
 ·rw [List.getElem?_map] at ha
  obtain ⟨y,hy,rfl⟩ := Option.map_eq_some_iff.1 ha
  obtain ⟨u',g1,_,g3⟩ := h2 j y hy
  rw [List.getElem?_toArray] at hj
  rw [hj] at g1;obtain rfl := Option.some.inj g1
  exact .f g3
theorem rSl.all {α : Type} {sz bts : Nat} {R : Rep α} {w : World} {B : Nat} {l : List α} {cs : List Value} (h : rSl sz bts R w B l cs) : (l.length : Int) ≤ 9223372036854775807 ∧ ∀ x ∈ l,∃ vs,R w B x vs := by
 obtain ⟨A,c,_,h1,h2,_,h3⟩ := h
 refine ⟨by unfold maxLen at h2;omega,fun x hx => ?_⟩
 obtain ⟨k,hk⟩ := List.mem_iff_getElem?.1 hx
 obtain ⟨b,o,_,_,h4⟩ := h3 (by have := (List.getElem?_eq_some_iff.1 hk).1;omega)
 obtain ⟨vs,_,h5,_⟩ := h4 k x hk
 exact ⟨vs,h5⟩
theorem FRet.callsA {P : Program} {f : FuncId} {args : List AV} {b : Bool} (h : FRet P f args [.c (.v (.bool b))]) {W : World} {vs : Array Value} (hs : vs.size = args.length) (hv : ∀ (j : Nat) (x : AV) (v : Value),args[j]? = some x → vs[j]? = some v → RepA (fun _ => (0,none)) (fun b => b < W.heap.size) W x v) :
  Calls P f vs W fun e w' => e = .returned (.bool b) ∧ Below W.heap.size W w' := by
 refine (h.2 (fun _ => (0,none)) (fun b => b < W.heap.size) W vs ⟨fun _ => rfl,fun _ _ => rfl,fun id o h => (by cases h),fun _ _ _ _ _ h => (by cases h),fun _ _ _ h => (by cases h),fun b hb => hb,fun _ _ _ h => (by cases h),fun _ _ _ h => (by cases h)⟩ hs hv).mono fun e w' ⟨v,r,H',G',Z',e1,⟨l,hl,hrs,_⟩,st,hh,hr⟩ => ?_
 have hll : l = [.f (.bool b)] := by
  rcases l with _ | ⟨a,_ | ⟨a',l⟩⟩
  ·exact hrs.elim
  ·obtain ⟨h1,_⟩ := hrs
   have : a = .f (.bool b) := h1
   rw [this]
  ·obtain ⟨_,h2⟩ := hrs
   cases h2
 subst hll
 rw [hl] at hr
 have hr' : RepA G' Z' w' (.f (.bool b)) v := hr
 rw [e1,hr'.bool_]
 refine ⟨rfl,?_⟩
 have old : ∀ b,b < W.heap.size → w'.heap[b]? = W.heap[b]? := fun b hb => hh.old b hb (fun ⟨_,_,h⟩ => by cases h)
 exact ⟨hh.os,hh.tape,hh.output,hh.size,fun b hb => old b hb⟩
theorem rcv_bound {w : World} {B : Nat} {r : Rc} {cs : List Value} (h : rRcv w B r cs) : RcS r := by
 obtain ⟨_,_,_,h1,h2⟩ := h
 refine ⟨⟨h1.all.1,h2.all.1⟩,fun x hx => ?_,fun x hx => ?_⟩
 ·obtain ⟨_,_,_,_,_,h3⟩ := h1.all.2 x hx
  exact h3.all.1
 ·obtain ⟨_,_,_,_,_,_,_,_,_,h3⟩ := h2.all.2 x hx
  exact h3.all.1
theorem msg_bound {w : World} {B : Nat} {m : Mg} {cs : List Value} (h : rMsg w B m cs) : (m.2.2.2.2.length : Int) ≤ 9223372036854775807 := by
 obtain ⟨_,_,_,_,_,_,_,_,_,_,_,_,_,_,_,_,h1⟩ := h
 exact h1.all.1
end Go.Proofs.YtjacnfjlocajoaaDoor
