/-
  The document's session as a plain function; it says what a session of the program says. No statement of the seat is proved here; no conditions.
-/
import Derived.Test.YtjacnfjlocajoaaDoorRv1
namespace Go.Proofs.YtjacnfjlocajoaaDoor
open Go.RowKit Go.Shelf
set_option linter.unusedVariables false
set_option linter.unusedSimpArgs false
set_option maxRecDepth 100000

abbrev SX := Rc × Int × Bool × Int
def sessR (t : ByteArray) (b : List UInt8) (most : Nat) : Nat → Int → Mg → Int → Rc → Int → SX
 | 0,_,_,q,r,sent => (r,sent,false,q)
 | k + 1,left,a,q,r,sent =>
  if q ≠ 0 ∨ a.1 ≠ 3 then (r,sent,false,q)
  else if left = 0 then (r,sent + (dMsg t b a.2.2.1.toNat most).2.2.2.2.length,true,0)
  else sessR t b most k (left - 1) (takeR r.1 r.2 (dMsg t b a.2.2.1.toNat most)).2.2 (takeR r.1 r.2 (dMsg t b a.2.2.1.toNat most)).1 (takeR r.1 r.2 (dMsg t b a.2.2.1.toNat most)).2.1 (sent + (dMsg t b a.2.2.1.toNat most).2.2.2.2.length)
structure HOk (t : ByteArray) (b : List UInt8) (a : Mg) (r : Rc) : Prop where
 ok : ROk r
 nx : a.1 = 3 → ∃ n : Nat,a.2.2.1 = n ∧ n < b.length ∧ Mid r t b.length n
def SmX (x : SX) (R : (Bool × Int) × Rc × Int) : Prop := x.2.2.2 = R.1.2 ∧ (R.1.2 = 0 → x = (R.2.1,R.2.2,!R.1.1,0))
def hmeas (b : List UInt8) (a : Mg) : Nat := b.length - a.2.2.1.toNat
theorem dMsg_ck {t : ByteArray} {b : List UInt8} {n most : Nat} (hd : isDig t = true) (hb : b.length ≤ 100000) (hm : 1 ≤ most ∧ most ≤ 65536) (hn : n < b.length) : ckMg (dMsg t b n most) (dMsg t b n most).2.2.2.2.length = 0 := by
 have hl : ((b.drop n).take most).length = min most (b.length - n) := by rw [List.length_take,List.length_drop]
 unfold ckMg dMsg
 dsimp only
 rw [if_neg (by decide),if_neg (by rw [hd];decide),if_neg (by simp only [inRg,Bool.not_eq_false,Bool.and_eq_true,decide_eq_true_eq];omega),if_neg (by omega),if_neg (by simp),if_neg (by simp),if_neg (by
  have : decide (0 < (((b.drop n).take most).length : Int)) = true := decide_eq_true (by omega)
  rw [this];simp)]
theorem begMsg_ck {t : ByteArray} {b : List UInt8} (hd : isDig t = true) (hb : b.length ≤ 100000) : ckMg (1,t,0,(b.length : Int),[]) (([] : List UInt8).length : Nat) = 0 := by
 unfold ckMg
 dsimp only
 rw [if_neg (by decide),if_neg (by rw [hd];decide),if_neg (by simp only [inRg,Bool.not_eq_false,Bool.and_eq_true,decide_eq_true_eq];omega),if_neg (by simp),if_neg (by simp),if_neg (by simp),if_neg (by simp)]
theorem step_ok {t : ByteArray} {b : List UInt8} {most : Nat} {r : Rc} {m : Mg} (h : SOk t b most r m) (hd : isDig t = true) (hb : b.length ≤ 100000) (hm : 1 ≤ most ∧ most ≤ 65536) (h0 : (takeV r.1 r.2 m).1 = 0) : HOk t b (takeV r.1 r.2 m).2.2 (takeV r.1 r.2 m).2.1 ∧ ((takeV r.1 r.2 m).2.2.1 = 3 → hmeas b (takeV r.1 r.2 m).2.2 < meas b m) := by
 have e := TakeV_eq h.ok h0
 have hk := (Take_right (r := r) (m := m) (by rw [e];exact h0)).2.2.ok
 rw [e] at hk
 refine ⟨⟨hk,fun h3 => ?_⟩,fun h3 => ?_⟩
 ·obtain ⟨n,k1,k2,k3,_⟩ := s_step h hd hb hm h0 h3
  exact ⟨n,k1,k2,k3⟩
 ·obtain ⟨n,k1,_,_,k4⟩ := s_step h hd hb hm h0 h3
  unfold hmeas
  rw [k1,Int.toNat_natCast]
  exact k4
theorem dmeas {t : ByteArray} {b : List UInt8} {n most : Nat} : meas b (dMsg t b n most) = b.length - n := by
 unfold meas dMsg
 rw [if_neg (show (2 : Int) ≠ 1 by decide)]
 show b.length - ((n : Int)).toNat = _
 rw [Int.toNat_natCast]
theorem sess_once {t : ByteArray} {b : List UInt8} {most : Nat} (hd : isDig t = true) (hb : b.length ≤ 100000) (hm : 1 ≤ most ∧ most ≤ 65536) : ∀ (k : Nat) (left : Int) (a : Mg) (r : Rc) (s : Int),HOk t b a r → (a.1 = 3 → hmeas b a < k) →
  SmX (sessR t b most (k + 1) left a 0 r s) (if a.1 ≠ 3 then ((true,0),r,s) else onceV t b most k left (dMsg t b a.2.2.1.toNat most) r s)
 | k,left,a,r,s,h,hk => by
  rw [sessR]
  by_cases h3 : a.1 = 3
  case neg =>
   rw [if_pos (.inr h3),if_pos h3]
   exact ⟨rfl,fun _ => rfl⟩
  rw [if_neg (show ¬ ((0 : Int) ≠ 0 ∨ a.1 ≠ 3) from fun hh => hh.elim (fun x => x rfl) (fun x => x h3)),if_neg (show ¬ a.1 ≠ 3 from fun hh => hh h3)]
  obtain ⟨n,e1,e2,e3⟩ := h.nx h3
  have hkm := hk h3
  unfold hmeas at hkm
  rw [e1,Int.toNat_natCast] at hkm ⊢
  have hck := dMsg_ck (t := t) (most := most) hd hb hm e2
  have hsok := s_next (t := t) (most := most) e2 e3
  have hSm := take_same (D := r.1) (P := r.2) e3.ok.p hck
  match k,hkm with
  | k + 1,hkm =>
   rw [onceV]
   by_cases hl : left = 0
   ·rw [if_pos hl,if_pos hl]
    exact ⟨rfl,fun _ => rfl⟩
   rw [if_neg hl,if_neg hl]
   obtain ⟨s1,s2⟩ := hSm
   by_cases h0 : (takeV r.1 r.2 (dMsg t b n most)).1 = 0
   ·have e := s2 h0
    obtain ⟨g1,g2⟩ := step_ok hsok hd hb hm h0
    rw [dmeas] at g2
    rw [e,h0]
    have ih := sess_once hd hb hm k (left - 1) (takeV r.1 r.2 (dMsg t b n most)).2.2 (takeV r.1 r.2 (dMsg t b n most)).2.1 (s + (dMsg t b n most).2.2.2.2.length) g1 (fun h => by have := g2 h;omega)
    by_cases h4 : (takeV r.1 r.2 (dMsg t b n most)).2.2.1 = 3
    ·rw [if_neg (show ¬ (takeV r.1 r.2 (dMsg t b n most)).2.2.1 ≠ 3 from fun hh => hh h4)] at ih
     rw [if_neg (show ¬ ((0 : Int) ≠ 0 ∨ (takeV r.1 r.2 (dMsg t b n most)).2.2.1 ≠ 3) from fun hh => hh.elim (fun x => x rfl) (fun x => x h4))]
     exact ih
    ·rw [if_pos h4] at ih
     rw [if_pos (.inr h4)]
     exact ih
   ·rw [if_pos (.inl h0),sessR,if_pos (.inl (by rw [s1];exact h0)),s1]
    exact ⟨rfl,fun hh => absurd hh h0⟩
def sessionR (t : ByteArray) (b : List UInt8) (most : Nat) (through : Int) (r : Rc) : SX :=
 if through = 0 then (r,0,true,0) else sessR t b most (b.length + 2) (through - 1) (takeR r.1 r.2 (1,t,0,b.length,[])).2.2 (takeR r.1 r.2 (1,t,0,b.length,[])).1 (takeR r.1 r.2 (1,t,0,b.length,[])).2.1 0
theorem session_same {t : ByteArray} {b : List UInt8} {most : Nat} {r : Rc} {through : Int} (h : ROk r) (hd : isDig t = true) (hb : b.length ≤ 100000) (hm : 1 ≤ most ∧ most ≤ 65536) : SmX (sessionR t b most through r) (onceV t b most (b.length + 2) through (1,t,0,b.length,[]) r 0) := by
 unfold sessionR
 rw [onceV]
 by_cases hl : through = 0
 ·rw [if_pos hl,if_pos hl]
  exact ⟨rfl,fun _ => rfl⟩
 rw [if_neg hl,if_neg hl]
 have hsok : SOk t b most r (1,t,0,b.length,[]) := ⟨h,.inl rfl⟩
 obtain ⟨s1,s2⟩ := take_same (D := r.1) (P := r.2) (m := (1,t,0,(b.length : Int),[])) h.p (begMsg_ck hd hb)
 show SmX _ (if _ then ((true,_),_,(0 : Int) + ((0 : Nat) : Int)) else onceV t b most (b.length + 1) _ _ _ ((0 : Int) + ((0 : Nat) : Int)))
 rw [show (0 : Int) + ((0 : Nat) : Int) = 0 from rfl]
 by_cases h0 : (takeV r.1 r.2 (1,t,0,(b.length : Int),[])).1 = 0
 ·have e := s2 h0
  obtain ⟨g1,g2⟩ := step_ok hsok hd hb hm h0
  rw [e,h0]
  have ih := sess_once hd hb hm (b.length + 1) (through - 1) (takeV r.1 r.2 (1,t,0,(b.length : Int),[])).2.2 (takeV r.1 r.2 (1,t,0,(b.length : Int),[])).2.1 0 g1 (fun h => by unfold hmeas;omega)
  by_cases h4 : (takeV r.1 r.2 (1,t,0,(b.length : Int),[])).2.2.1 = 3
  ·rw [if_neg (fun hh => hh h4)] at ih
   rw [if_neg (fun hh => hh.elim (fun x => x rfl) (fun x => x h4))]
   exact ih
  ·rw [if_pos h4] at ih
   rw [if_pos (.inr h4)]
   exact ih
 ·rw [if_pos (.inl h0),sessR,if_pos (.inl (by rw [s1];exact h0)),s1]
  exact ⟨rfl,fun hh => absurd hh h0⟩
end Go.Proofs.YtjacnfjlocajoaaDoor
