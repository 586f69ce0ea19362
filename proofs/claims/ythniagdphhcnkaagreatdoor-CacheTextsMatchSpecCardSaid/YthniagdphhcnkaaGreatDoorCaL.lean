/-
  Caches as the laws' arguments. No statement of the seat is proved here; no conditions.
-/
import Derived.Test.YthniagdphhcnkaaGreatDoorCaQ
import Derived.Test.YthniagdphhcnkaaGreatDoorEngR
import Derived.Test.YthniagdphhcnkaaGreatDoorOpenS
namespace Go.Proofs.YthniagdphhcnkaaGreatDoor
open Go.RowKit
set_option linter.unusedVariables false
set_option linter.unusedSimpArgs false

abbrev rBlob : Rep Blob := rPair rStr (rPair (rI .i64) (rPair (rI .i64) (rPair (rI .i64) (rI .i64))))
abbrev rEntry : Rep Entry := rPair rStr (rPair (rSl 1 16 rStr) (rI .i64))
abbrev rCache : Rep Cache := rPair (rI .i64) (rPair (rI .i64) (rPair (rSl 5 48 rBlob) (rSl 3 48 rEntry)))
theorem len_i {k : IntKind} : ∀ w B x cs,rI k w B x cs → cs.length = 1 := by rintro w B x cs ⟨rfl,_⟩;rfl
theorem len_s : ∀ w B x cs,rStr w B x cs → cs.length = 1 := by rintro w B x cs ⟨rfl,_⟩;rfl
theorem len_sl {α : Type} {sz bts : Nat} {R : Rep α} : ∀ w B x cs,rSl sz bts R w B x cs → cs.length = 1 := by rintro w B x cs ⟨A,c,rfl,_⟩;rfl
theorem len_pair {α β : Type} {R : Rep α} {S : Rep β} {s t : Nat} (h1 : ∀ w B x cs,R w B x cs → cs.length = s) (h2 : ∀ w B x cs,S w B x cs → cs.length = t) : ∀ w B x cs,rPair R S w B x cs → cs.length = s + t := by
 rintro w B x cs ⟨c1,c2,rfl,g1,g2⟩
 rw [List.length_append,h1 _ _ _ _ g1,h2 _ _ _ _ g2]
theorem fz_blob : Fz rBlob 5 fBlob := fz_pair fz_str len_s (fz_pair fz_int len_i (fz_pair fz_int len_i (fz_pair fz_int len_i fz_int)))
theorem fz_strs : Fz (rSl 1 16 rStr) 1 (fun l => [frStrs l]) := fz_sl fz_str
theorem fz_entry : Fz rEntry 3 fEntry := fz_pair fz_str len_s (fz_pair fz_strs len_sl fz_int)
theorem fz_blobs : Fz (rSl 5 48 rBlob) 1 (fun l => [frBlobs l]) := fz_sl fz_blob
theorem fz_entries : Fz (rSl 3 48 rEntry) 1 (fun l => [frEntries l]) := fz_sl fz_entry
def fCache (c : Cache) : List FV := [.int .i64 c.1,.int .i64 c.2.1,frBlobs c.2.2.1,frEntries c.2.2.2]
theorem fz_cache : Fz rCache 4 fCache := fz_pair fz_int len_i (fz_pair fz_int len_i (fz_pair fz_blobs len_sl fz_entries))
theorem len_cache : ∀ w B x cs,rCache w B x cs → cs.length = 4 := len_pair len_i (len_pair len_i (len_pair len_sl len_sl))
theorem Fz.agg {α : Type} {R : Rep α} {sz : Nat} {e : α → List FV} (h : Fz R sz e) (hl : ∀ w B x cs,R w B x cs → cs.length = sz) {G : Ghost} {w : World} {B : Nat} {x : α} {cs : List Value} (hr : R w B x cs) : RepA G (fun b => b < B) w (.agg ((e x).map .f)) (.agg cs.toArray) := by
 obtain ⟨h1,h2⟩ := h w B x cs hr
 have h3 := hl w B x cs hr
 refine .agg _ _ (by simp [h1,h3]) (fun j u hj => ?_) fun j a u ha hj => ?_
 ·have hlt : j < sz := by have := (List.getElem?_eq_some_iff.1 (by simpa using hj : cs[j]? = some u)).1;omega
  obtain ⟨u',g1,g2,_⟩ := h2 j _ (List.getElem?_eq_getElem (by omega : j < (e x).length))
  rw [List.getElem?_toArray] at hj
  rw [hj] at g1;obtain rfl := Option.some.inj g1
  exact g2
 ·rw [List.getElem?_map] at ha
  obtain ⟨y,hy,rfl⟩ := Option.map_eq_some_iff.1 ha
  obtain ⟨u',g1,_,g3⟩ := h2 j y hy
  rw [List.getElem?_toArray] at hj
  rw [hj] at g1;obtain rfl := Option.some.inj g1
  exact .f g3
theorem rSl.all {α : Type} {sz bts : Nat} {R : Rep α} {w : World} {B : Nat} {l : List α} {cs : List Value} (h : rSl sz bts R w B l cs) : (l.length : Int) ≤ 9223372036854775807 ∧ ∀ x ∈ l,∃ vs,R w B x vs := by
 obtain ⟨A,c,_,h1,h2,_,h3⟩ := h
 refine ⟨by unfold maxLen at h2;omega,fun x hx => ?_⟩
 obtain ⟨k,hk⟩ := List.mem_iff_getElem?.1 hx
 obtain ⟨b,o,_,_,h4⟩ := h3 (by have := (List.getElem?_eq_some_iff.1 hk).1;omega)
 obtain ⟨vs,_,h5,_⟩ := h4 k x hk
 exact ⟨vs,h5⟩
theorem str_bound {w : World} {B : Nat} {x : ByteArray} {cs : List Value} (h : rStr w B x cs) : (x.size : Int) ≤ 9223372036854775807 := by
 have := h.2;omega
theorem cache_bound {w : World} {B : Nat} {c : Cache} {cs : List Value} (h : rCache w B c cs) : SBound c := by
 obtain ⟨_,_,_,_,_,_,_,_,_,_,_,hb,he⟩ := h
 obtain ⟨b1,b2⟩ := hb.all
 obtain ⟨e1,e2⟩ := he.all
 refine ⟨⟨b1,e1,fun e hx => ?_⟩,fun b hx => ?_,fun e hx => ?_⟩
 ·obtain ⟨vs,_,_,_,_,_,_,_,h3,_⟩ := e2 e hx
  exact h3.all.1
 ·obtain ⟨vs,_,_,_,h1,_⟩ := b2 b hx
  exact str_bound h1
 ·obtain ⟨vs,_,_,_,h1,_,_,_,h3,_⟩ := e2 e hx
  refine ⟨str_bound h1,fun d hd => ?_⟩
  obtain ⟨vs',h4⟩ := h3.all.2 d hd
  exact str_bound h4
theorem FRet.callsA {P : Program} {f : FuncId} {args : List AV} {b : Bool} (h : FRet P f args [.c (.v (.bool b))]) {W : World} {vs : Array Value} (hs : vs.size = args.length) (hv : ∀ (j : Nat) (x : AV) (v : Value),args[j]? = some x → vs[j]? = some v → RepA (fun _ => (0,none)) (fun b => b < W.heap.size) W x v) (hkn : Kn P (fun b => b < W.heap.size) W := by exact kn_none (by kernel_rfl)) :
  Calls P f vs W fun e w' => e = .returned (.bool b) ∧ Below W.heap.size W w' := by
 refine (h.2 (fun _ => (0,none)) (fun b => b < W.heap.size) W vs ⟨fun _ => rfl,fun _ _ => rfl,fun id o h => (by cases h),fun _ _ _ _ _ h => (by cases h),fun _ _ _ h => (by cases h),⟨fun b hb => hb,hkn⟩,fun _ _ _ h => (by cases h),fun _ _ _ h => (by cases h)⟩ hs hv).mono fun e w' ⟨v,r,H',G',Z',e1,⟨l,hl,hrs,_⟩,st,hh,hr⟩ => ?_
 have hll : l = [.f (.bool b)] := by
  rcases l with _ | ⟨a,_ | ⟨a',l⟩⟩
  ·exact hrs.elim
  ·obtain ⟨h1,_⟩ := hrs
   have : a = .f (.bool b) := h1
   rw [this]
  ·obtain ⟨_,h2⟩ := hrs
   cases h2
 subst hll
 rw [hl] at hr
 have hr' : RepA G' Z' w' (.f (.bool b)) v := hr
 rw [e1,hr'.bool_]
 refine ⟨rfl,?_⟩
 have old : ∀ b,b < W.heap.size → w'.heap[b]? = W.heap[b]? := fun b hb => hh.old b hb (fun ⟨_,_,h⟩ => by cases h)
 exact ⟨hh.os,hh.tape,hh.output,hh.size,fun b hb => old b hb⟩
end Go.Proofs.YthniagdphhcnkaaGreatDoor
