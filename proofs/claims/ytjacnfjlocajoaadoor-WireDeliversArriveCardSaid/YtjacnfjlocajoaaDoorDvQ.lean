/-
  The plain law of WireDeliversArrive. No statement of the seat is proved here; no conditions.
-/
import Derived.Test.YtjacnfjlocajoaaDoorDv3
namespace Go.Proofs.YtjacnfjlocajoaaDoor
open Go.RowKit Go.Shelf
set_option linter.unusedVariables false
set_option linter.unusedSimpArgs false

def Has (t : ByteArray) (b : List UInt8) (r : Rc) (f : Nat) : Prop := r = ([],[]) ∧ f = 0 ∨ r = ([],[(t,(b.length : Int),b.take f)]) ∧ f < b.length
theorem rise_one {α : Type} {key : α → ByteArray} {a : α} : Rising key [a] := fun i j x y hij hx hy => by
 have h1 := (List.getElem?_eq_some_iff.1 hx).1
 have h2 := (List.getElem?_eq_some_iff.1 hy).1
 simp only [List.length_cons,List.length_nil] at h1 h2
 omega
theorem pGet_one {t : ByteArray} {s : Int} {c : List UInt8} : pGet [(t,s,c)] t = some (t,s,c) := pGet_of rise_one (List.mem_singleton.2 rfl)
theorem ckMg_begin {t : ByteArray} {L : Nat} (hd : isDig t = true) (hL : L ≤ 100000) : ckMg (1,t,0,(L : Int),[]) 0 = 0 := by
 unfold ckMg
 dsimp only
 rw [if_neg (by decide),if_neg (by rw [hd];decide),if_neg (by simp only [inRg,Bool.not_eq_false,Bool.and_eq_true,decide_eq_true_eq];omega),if_neg (by decide),if_neg (by simp),if_neg (by simp),if_neg (by simp)]
theorem has_begin {b : List UInt8} {r : Rc} {f : Nat} (h : Has (digV b) b r f) (hb : b.length ≤ 100000) :
  takeV r.1 r.2 (1,digV b,0,b.length,[]) = (0,([(digV b,b)],[]),(4,digV b,0,0,[])) ∧ b.length = f ∨
  f < b.length ∧ takeV r.1 r.2 (1,digV b,0,b.length,[]) = (0,([],[(digV b,(b.length : Int),b.take f)]),(3,digV b,(f : Int),0,[])) := by
 have hd := isDig_digV (b := b)
 have hck := ckMg_begin hd hb
 have hgen : ∀ P,takeV [] P (1,digV b,0,b.length,[]) = beginV [] P (digV b) b.length := fun P => by
  unfold takeV
  dsimp only
  rw [if_neg (fun h => h hck),if_neg (by decide),if_neg (by simp [hasK]),if_pos rfl]
 rcases h with ⟨rfl,rfl⟩ | ⟨rfl,hf⟩
 ·dsimp only
  rw [hgen]
  have hg : pGet [] (digV b) = none := by unfold pGet;rw [if_neg (by simp [hasK])]
  unfold beginV
  rw [hg]
  dsimp only
  unfold beg2
  rcases Nat.eq_zero_or_pos b.length with h0 | h0
  ·left
   rw [h0]
   obtain rfl := List.eq_nil_of_length_eq_zero h0
   rw [if_pos (by rfl)]
   unfold wholeV
   rw [if_pos rfl,if_neg (by simp)]
   exact ⟨rfl,rfl⟩
  ·right
   rw [if_neg (by omega),if_neg (by simp),if_neg (by omega)]
   exact ⟨h0,by rw [List.take_zero];rfl⟩
 ·dsimp only
  rw [hgen]
  unfold beginV
  rw [pGet_one]
  dsimp only
  rw [if_pos rfl]
  right
  refine ⟨hf,?_⟩
  rw [List.length_take,Nat.min_eq_left (by omega)]
theorem has_data {b : List UInt8} {f most : Nat} (hf : f < b.length) (hb : b.length ≤ 100000) (hm : 1 ≤ most ∧ most ≤ 65536) :
  takeV [] [(digV b,(b.length : Int),b.take f)] (dMsg (digV b) b f most) = if f + most < b.length then (0,([],[(digV b,(b.length : Int),b.take (f + most))]),(3,digV b,((f + most : Nat) : Int),0,[])) else (0,([(digV b,b)],[]),(4,digV b,0,0,[])) := by
 have hd := isDig_digV (b := b)
 have hcl : ((b.drop f).take most).length = min most (b.length - f) := by rw [List.length_take,List.length_drop]
 have happ : b.take f ++ (b.drop f).take most = b.take (f + most) := by rw [List.take_add]
 unfold dMsg
 generalize (b.drop f).take most = c at *
 have hck : ckMg (2,digV b,(f : Int),0,c) c.length = 0 := by
  unfold ckMg
  dsimp only
  rw [if_neg (by decide),if_neg (by rw [hd];decide),if_neg (by simp only [inRg,Bool.not_eq_false,Bool.and_eq_true,decide_eq_true_eq];omega),if_neg (by omega),if_neg (by simp),if_neg (by simp),if_neg (by
   have : decide (0 < (c.length : Int)) = true := decide_eq_true (by omega)
   rw [this];simp)]
 have e1 : takeV [] [(digV b,(b.length : Int),b.take f)] (2,digV b,(f : Int),0,c) = dataV [] [(digV b,(b.length : Int),b.take f)] (digV b,(b.length : Int),b.take f) (digV b) f c := by
  unfold takeV
  dsimp only
  rw [if_neg (fun h => h hck),if_neg (by decide),if_neg (by simp [hasK]),if_neg (by decide),pGet_one]
  dsimp only
  rw [if_pos rfl]
 have hi : ptIdx [(digV b,(b.length : Int),b.take f)] (digV b) = 0 := by
  obtain ⟨g1,_,_⟩ := pGet_some (P := [(digV b,(b.length : Int),b.take f)]) rise_one pGet_one
  have := (List.getElem?_eq_some_iff.1 g1).1
  simp only [List.length_cons,List.length_nil] at this
  omega
 have htl : (b.take f).length = f := by rw [List.length_take];omega
 rw [e1]
 unfold dataV
 dsimp only
 have hmin : min c.length ((b.take f).length - (f : Int).toNat) = 0 := by omega
 rw [hmin,if_neg (by omega),if_pos (by rw [List.take_zero,List.take_zero]),if_neg (by omega),List.drop_zero,happ,hi]
 have hl2 : (b.take (f + most)).length = min (f + most) b.length := List.length_take
 by_cases h : f + most < b.length
 ·rw [if_pos (by omega),if_pos h,hl2,Nat.min_eq_left (by omega)]
  rfl
 ·have hx : b.take (f + most) = b := List.take_of_length_le (by omega)
  rw [hx,if_neg (Int.lt_irrefl _),if_neg h]
  unfold wholeV
  rw [if_pos rfl,if_neg (by simp)]
  unfold delP
  rw [hi]
  rfl
structure Ses (t : ByteArray) (b : List UInt8) (most : Nat) (f : Nat) (s : Int) (R : (Bool × Int) × Rc × Int) : Prop where
 ok : R.1.2 = 0
 at_ : R.1.1 = true ∧ R.2.1 = ([(t,b)],[]) ∧ R.2.2 = s + ((b.length - f : Nat) : Int) ∨ R.1.1 = false ∧ ∃ g : Nat,Has t b R.2.1 g ∧ f ≤ g ∧ g ≤ b.length ∧ s + ((g - f : Nat) : Int) ≤ R.2.2 ∧ R.2.2 ≤ s + ((g - f : Nat) : Int) + most
theorem ses_data {b : List UInt8} {most : Nat} (hb : b.length ≤ 100000) (hm : 1 ≤ most ∧ most ≤ 65536) : ∀ (k : Nat) (left : Int) (f : Nat) (s : Int),f < b.length → b.length - f < k →
  Ses (digV b) b most f s (onceV (digV b) b most k left (dMsg (digV b) b f most) ([],[(digV b,(b.length : Int),b.take f)]) s)
 | 0,_,_,_,_,h => absurd h (by omega)
 | k + 1,left,f,s,hf,hk => by
  have hcl : (dMsg (digV b) b f most).2.2.2.2.length = min most (b.length - f) := by
   show ((b.drop f).take most).length = _
   rw [List.length_take,List.length_drop]
  have hV := has_data hf hb hm
  rw [onceV]
  dsimp only
  rw [hV,hcl]
  by_cases h0 : left = 0
  ·rw [if_pos h0]
   exact ⟨rfl,.inr ⟨rfl,f,.inr ⟨rfl,hf⟩,Nat.le_refl _,by omega,by dsimp only;omega,by dsimp only;omega⟩⟩
  rw [if_neg h0]
  by_cases h : f + most < b.length
  ·rw [if_pos h]
   dsimp only
   rw [if_neg (by simp),Int.toNat_natCast]
   obtain ⟨q1,q2⟩ := ses_data hb hm k (left - 1) (f + most) (s + (min most (b.length - f) : Nat)) h (by omega)
   refine ⟨q1,?_⟩
   rcases q2 with ⟨a1,a2,a3⟩ | ⟨a1,g,a2,a3,a4,a5,a6⟩
   ·exact .inl ⟨a1,a2,by rw [a3];omega⟩
   ·exact .inr ⟨a1,g,a2,by omega,a4,by omega,by omega⟩
  ·rw [if_neg h]
   dsimp only
   rw [if_pos (by simp)]
   exact ⟨rfl,.inl ⟨rfl,rfl,by dsimp only;omega⟩⟩
theorem ses_once {b : List UInt8} {most : Nat} (hb : b.length ≤ 100000) (hm : 1 ≤ most ∧ most ≤ 65536) {r : Rc} {f : Nat} (h : Has (digV b) b r f) (left : Int) (s : Int) :
  Ses (digV b) b most f s (onceV (digV b) b most (b.length + 2) left (1,digV b,0,b.length,[]) r s) := by
 have hfl : f ≤ b.length := by rcases h with ⟨_,h⟩ | ⟨_,h⟩ <;> omega
 rw [onceV]
 dsimp only
 by_cases h0 : left = 0
 ·rw [if_pos h0]
  exact ⟨rfl,.inr ⟨rfl,f,h,Nat.le_refl _,hfl,by simp,by simp;omega⟩⟩
 rw [if_neg h0]
 rcases has_begin h hb with ⟨hV,hL⟩ | ⟨hf,hV⟩
 ·rw [hV]
  dsimp only
  rw [if_pos (by simp)]
  exact ⟨rfl,.inl ⟨rfl,rfl,by dsimp only [List.length_nil];omega⟩⟩
 ·rw [hV]
  dsimp only
  rw [if_neg (by simp),Int.toNat_natCast]
  have := ses_data hb hm (b.length + 1) (left - 1) f (s + (([] : List UInt8).length : Int)) hf (by omega)
  simpa using this
theorem del_has {b : List UInt8} {most : Nat} (hb : b.length ≤ 100000) (hm : 1 ≤ most ∧ most ≤ 65536) : ∀ (l : List Int) (r : Rc) (f : Nat) (s : Int),Has (digV b) b r f →
  ∃ n : Int,delV (digV b) b most (l ++ [-1]) r s = (0,([(digV b,b)],[]),n) ∧ s + ((b.length - f : Nat) : Int) ≤ n ∧ n ≤ s + ((b.length - f : Nat) : Int) + (most : Int) * (l.length : Int)
 | [],r,f,s,h => by
  have hS := ses_once hb hm h (-1) s
  have hn := once_neg (t := digV b) (b := b) (most := most) (b.length + 2) (-1) (1,digV b,0,b.length,[]) r s (by decide)
  rw [List.nil_append,delV]
  generalize onceV (digV b) b most (b.length + 2) (-1) (1,digV b,0,b.length,[]) r s = R at *
  obtain ⟨q1,q2⟩ := hS
  rw [if_neg (fun hh => hh q1),if_pos hn]
  rcases q2 with ⟨a1,a2,a3⟩ | ⟨a1,_⟩
  ·refine ⟨R.2.2,?_,by omega,by simp;omega⟩
   rw [← a2]
  ·rw [hn] at a1;cases a1
 | x :: l,r,f,s,h => by
  have hS := ses_once hb hm h x s
  rw [List.cons_append,delV]
  generalize onceV (digV b) b most (b.length + 2) x (1,digV b,0,b.length,[]) r s = R at *
  obtain ⟨q1,q2⟩ := hS
  rw [if_neg (fun hh => hh q1)]
  have hml : (most : Int) * ((x :: l).length : Int) = (most : Int) * (l.length : Int) + most := by rw [List.length_cons,Int.natCast_add,Int.mul_add];simp
  have hnn : 0 ≤ (most : Int) * (l.length : Int) := Int.mul_nonneg (by omega) (by omega)
  rcases q2 with ⟨a1,a2,a3⟩ | ⟨a1,g,a2,a3,a4,a5,a6⟩
  ·rw [if_pos a1]
   refine ⟨R.2.2,?_,by omega,by rw [hml];omega⟩
   rw [← a2]
  ·rw [if_neg (by rw [a1];decide)]
   obtain ⟨n,e,e1,e2⟩ := del_has hb hm l R.2.1 g R.2.2 a2
   exact ⟨n,e,by omega,by rw [hml];omega⟩
end Go.Proofs.YtjacnfjlocajoaaDoor
