/-
  A session of a delivery, as a plain function. No statement of the seat is proved here; no conditions.
-/
import Derived.Test.YtjacnfjlocajoaaDoorMsP
import Derived.Test.YtjacnfjlocajoaaDoorMsW
namespace Go.Proofs.YtjacnfjlocajoaaDoor
open Go.RowKit Go.Shelf
set_option linter.unusedVariables false
set_option linter.unusedSimpArgs false

def onceV (t : ByteArray) (b : List UInt8) (most : Nat) : Nat → Int → Mg → Rc → Int → (Bool × Int) × Rc × Int
 | 0,_,_,r,sent => ((true,0),r,sent)
 | k + 1,left,m,r,sent =>
  if left = 0 then ((false,0),r,sent + m.2.2.2.2.length)
  else if (takeV r.1 r.2 m).1 ≠ 0 ∨ (takeV r.1 r.2 m).2.2.1 ≠ 3 then ((true,(takeV r.1 r.2 m).1),(takeV r.1 r.2 m).2.1,sent + m.2.2.2.2.length)
  else onceV t b most k (left - 1) (dMsg t b (takeV r.1 r.2 m).2.2.2.2.1.toNat most) (takeV r.1 r.2 m).2.1 (sent + m.2.2.2.2.length)
structure SOk (t : ByteArray) (b : List UInt8) (most : Nat) (r : Rc) (m : Mg) : Prop where
 ok : ROk r
 at_ : m = ((1,t,0,(b.length : Int),[]) : Mg) ∨ ∃ f : Nat,m = dMsg t b f most ∧ f < b.length ∧ Mid r t b.length f
def meas (b : List UInt8) (m : Mg) : Nat := if m.1 = 1 then b.length + 1 else b.length - m.2.2.1.toNat
theorem TakeV_eq {r : Rc} {m : Mg} (h : ROk r) (h0 : (takeV r.1 r.2 m).1 = 0) : TakeV r m = takeV r.1 r.2 m := by
 unfold TakeV
 rw [if_neg (fun hh => hh (ckRc_iff.2 h)),if_neg (fun hh => hh h0)]
theorem next_from {r : Rc} {t : ByteArray} {L : Nat} {f : Nat} {c : List UInt8} (h : Mid r t L f) (hd : isDig t = true) (hL : L ≤ 100000) (hc0 : 0 < c.length) (hc1 : f + c.length ≤ L) (hc2 : c.length ≤ 65536) (h3 : (takeV r.1 r.2 (2,t,f,0,c)).2.2.1 = 3) : (takeV r.1 r.2 (2,t,f,0,c)).2.2.2.2.1 = ((f + c.length : Nat) : Int) := by
 obtain ⟨hok,hno,p,hp,hs,hl⟩ := h
 obtain ⟨D,P⟩ := r
 dsimp only at hno hp h3 ⊢
 have hck : ckMg (2,t,(f : Int),0,c) c.length = 0 := by
  unfold ckMg
  dsimp only
  rw [if_neg (by decide),if_neg (by rw [hd];decide),if_neg (by simp only [inRg,Bool.not_eq_false,Bool.and_eq_true,decide_eq_true_eq];omega),if_neg (by omega),if_neg (by simp),if_neg (by simp),if_neg (by
   have : decide (0 < (c.length : Int)) = true := decide_eq_true (by omega)
   rw [this];simp)]
 have e1 : takeV D P (2,t,(f : Int),0,c) = dataV D P p t f c := by
  unfold takeV
  dsimp only
  rw [if_neg (fun h => h hck),if_neg (by decide),if_neg (by rw [hno];decide),if_neg (by decide),hp]
  dsimp only
  rw [if_pos rfl]
 have e2 : dataV D P p t f c = if ((p.2.2 ++ c).length : Int) < p.2.1 then (0,(D,P.set (ptIdx P t) (t,p.2.1,p.2.2 ++ c)),(3,t,((p.2.2 ++ c).length : Int),0,[])) else wholeV D (delP P t) t (p.2.2 ++ c) := by
  unfold dataV
  have hmin : min c.length (p.2.2.length - (f : Int).toNat) = 0 := by omega
  rw [hmin,if_neg (by omega),if_pos (by rw [List.take_zero,List.take_zero]),if_neg (by omega),List.drop_zero]
 rw [e1,e2] at h3 ⊢
 have hlen : (p.2.2 ++ c).length = f + c.length := by rw [List.length_append,hl]
 split at h3
 ·rename_i hlt
  rw [if_pos hlt]
  show (((p.2.2 ++ c).length : Nat) : Int) = _
  rw [hlen]
 ·exfalso
  revert h3
  unfold wholeV
  split
  ·split
   ·intro h;cases h
   ·intro h;cases h
  ·intro h;cases h
theorem s_step {t : ByteArray} {b : List UInt8} {most : Nat} {r : Rc} {m : Mg} (h : SOk t b most r m) (hd : isDig t = true) (hb : b.length ≤ 100000) (hm : 1 ≤ most ∧ most ≤ 65536) (h0 : (takeV r.1 r.2 m).1 = 0) (h3 : (takeV r.1 r.2 m).2.2.1 = 3) :
  ∃ n : Nat,(takeV r.1 r.2 m).2.2.2.2.1 = n ∧ n < b.length ∧ Mid (takeV r.1 r.2 m).2.1 t b.length n ∧ b.length - n < meas b m := by
 have e := TakeV_eq h.ok h0
 rcases h.at_ with rfl | ⟨f,rfl,hf,hmid⟩
 ·rw [← e] at h0 h3 ⊢
  rcases first_take h0 (by rw [h3];decide) with ⟨h4,_⟩ | ⟨n,_,k2,k3,k4⟩
  ·rw [h4] at h3;cases h3
  ·exact ⟨n,k2,k3,k4,by unfold meas;rw [if_pos rfl];omega⟩
 ·have hc : ((b.drop f).take most).length = min most (b.length - f) := by rw [List.length_take,List.length_drop]
  have hN := next_take (c := (b.drop f).take most) hmid hd hb (by omega) (by omega) (by omega)
  have hF := next_from (c := (b.drop f).take most) hmid hd hb (by omega) (by omega) (by omega) h3
  have e' : TakeV r (2,t,(f : Int),0,(b.drop f).take most) = takeV r.1 r.2 (2,t,(f : Int),0,(b.drop f).take most) := e
  rw [e'] at hN
  have h0' : (takeV r.1 r.2 (2,t,(f : Int),0,(b.drop f).take most)).1 = 0 := h0
  have h3' : (takeV r.1 r.2 (2,t,(f : Int),0,(b.drop f).take most)).2.2.1 = 3 := h3
  rcases hN with h | ⟨_,⟨k1,k2,k3⟩ | ⟨k1,k2⟩⟩
  ·rw [h0'] at h;cases h
  ·refine ⟨_,hF,k1,k3,?_⟩
   unfold meas dMsg
   rw [if_neg (show (2 : Int) ≠ 1 by decide)]
   show _ < b.length - ((f : Int)).toNat
   rw [Int.toNat_natCast]
   omega
  ·rw [h3'] at k2;rcases k2 with h | h <;> cases h
theorem s_next {t : ByteArray} {b : List UInt8} {most : Nat} {r : Rc} {n : Nat} (hn : n < b.length) (h : Mid r t b.length n) : SOk t b most r (dMsg t b n most) := ⟨h.ok,.inr ⟨n,rfl,hn,h⟩⟩
end Go.Proofs.YtjacnfjlocajoaaDoor
