/-
  What is sent of a content. No statement of the seat is proved here; no conditions.
-/
import Derived.Test.YtjacnfjlocajoaaDoorRdg
import Derived.Test.YtjacnfjlocajoaaDoorMsP
namespace Go.Proofs.YtjacnfjlocajoaaDoor
open Go.RowKit Go.Shelf
set_option linter.unusedVariables false
set_option linter.unusedSimpArgs false
set_option maxRecDepth 100000

def ckC (t : ByteArray) (b : List UInt8) : Int := if isDig t = false then 3 else if 100000 < (b.length : Int) then 2 else 0
theorem checkContent_f (t : ByteArray) (b : List UInt8) : FRet Tryd.prog 32 [.f (.str t),.f (frB b)] [.c (.v (.int .i64 (ckC t b)))] := by
 have kI := isDigest_f t
 unfold ckC
 generalize isDig t = dg at *
 refine FCall.of_ax low_wire_checkContent ?_
 dsimp only [l_wire_checkContent]
 refine srun_sound 300 _ _ _ _ ?_
 cases dg with
 | false =>
  repeat' (first
   | (simp -implicitDefEqProofs only [*,zr,Nat.reduceAdd,Nat.reduceSub,Nat.reduceMul,Nat.reduceLT,Nat.reduceLeDiff,Nat.reduceEqDiff,Nat.reduceBEq,reduceIte,reduceCtorEq,Int.reduceLE,Int.reduceLT,Int.reduceToNat,Int.reduceEq,Int.reduceNe])
   | ((first|apply zk0|apply zk1|apply zk2|apply zk3|apply zk4|apply zk5|apply zk6|apply zk7|apply zk8|apply zk9) <;> intro hc)
   |(refine callP0 rfl ?_)
   |(refine callD0 rfl ?_)
   |(refine cP (kI) ?_)
   |(refine cD (kI) ?_)
   |(refine cF (kI) ?_)
   |(refine cO (kI) ?_)
   | fail)
  exact ret_v
 | true =>
  rw [if_neg (by decide)]
  by_cases h : 100000 < (b.length : Int)
  ·rw [if_pos h]
   have d1 : decide ((b.length : Int) > 100000) = true := dcT h
   have d2 : decide (100000 < (b.length : Int)) = true := dcT h
   repeat' (first
    | (simp -implicitDefEqProofs only [*,frB,List.length_map,zr,Nat.reduceAdd,Nat.reduceSub,Nat.reduceMul,Nat.reduceLT,Nat.reduceLeDiff,Nat.reduceEqDiff,Nat.reduceBEq,reduceIte,reduceCtorEq,Int.reduceLE,Int.reduceLT,Int.reduceToNat,Int.reduceEq,Int.reduceNe])
    | ((first|apply zk0|apply zk1|apply zk2|apply zk3|apply zk4|apply zk5|apply zk6|apply zk7|apply zk8|apply zk9) <;> intro hc)
    |(refine callP0 rfl ?_)
    |(refine callD0 rfl ?_)
    |(refine cP (kI) ?_)
    |(refine cD (kI) ?_)
    |(refine cF (kI) ?_)
    |(refine cO (kI) ?_)
    | fail)
   exact ret_v
  ·rw [if_neg h]
   have d1 : decide ((b.length : Int) > 100000) = false := dcF h
   have d2 : decide (100000 < (b.length : Int)) = false := dcF h
   repeat' (first
    | (simp -implicitDefEqProofs only [*,frB,List.length_map,zr,Nat.reduceAdd,Nat.reduceSub,Nat.reduceMul,Nat.reduceLT,Nat.reduceLeDiff,Nat.reduceEqDiff,Nat.reduceBEq,reduceIte,reduceCtorEq,Int.reduceLE,Int.reduceLT,Int.reduceToNat,Int.reduceEq,Int.reduceNe])
    | ((first|apply zk0|apply zk1|apply zk2|apply zk3|apply zk4|apply zk5|apply zk6|apply zk7|apply zk8|apply zk9) <;> intro hc)
    |(refine callP0 rfl ?_)
    |(refine callD0 rfl ?_)
    |(refine cP (kI) ?_)
    |(refine cD (kI) ?_)
    |(refine cF (kI) ?_)
    |(refine cO (kI) ?_)
    | fail)
   exact ret_v
def dMsg (t : ByteArray) (b : List UInt8) (f most : Nat) : Mg := (2,t,f,0,(b.drop f).take most)
theorem dataFrom_f (t : ByteArray) (b : List UInt8) (f most : Nat) (hf : f ≤ b.length) (hm : most ≤ 65536) (hb : b.length ≤ 100000) :
  FRet Tryd.prog 33 [.f (.str t),.f (frB b),.f (.int .i64 f),.f (.int .i64 most)] [.agg ((fMg (dMsg t b f most)).map .v)] := by
 have k := cloneY_z ((b.drop f).take most) (by rw [List.length_take];omega)
 have h1 : IntKind.i64.wrap ((f : Int) + (most : Int)) = ((f + most : Nat) : Int) := by rw [wrap64] <;> omega
 have h2 : min ((f + most : Nat) : Int) ((b.length : Nat) : Int) = ((min (f + most) b.length : Nat) : Int) := by omega
 have e1 : List.drop f (List.take (min (f + most) b.length) (List.map encU b)) = ((b.drop f).take most).map encU := by
  rw [List.map_take,List.map_drop]
  refine List.ext_getElem? fun i => ?_
  rw [List.getElem?_drop,List.getElem?_take,List.getElem?_take,List.getElem?_drop]
  by_cases hi : i < most
  ·rw [if_pos hi]
   by_cases h3 : f + i < min (f + most) b.length
   ·rw [if_pos h3]
   ·rw [if_neg h3,List.getElem?_eq_none (by rw [List.length_map];omega)]
  ·rw [if_neg hi,if_neg (by omega)]
 refine FCall.of_ax low_wire_dataFrom ?_
 dsimp only [l_wire_dataFrom,frB,dMsg,fMg,List.map] at k ⊢
 refine srun_sound 300 _ _ _ _ ?_
 generalize (b.drop f).take most = C at *
 have g1 : ((f : Int) ≤ ((min (f + most) b.length : Nat) : Int)) = True := by rw [eq_iff_iff,iff_true];omega
 have g2 : (((min (f + most) b.length : Nat) : Int) ≤ (b.length : Int)) = True := by rw [eq_iff_iff,iff_true];omega
 repeat' (first
  | (simp -implicitDefEqProofs only [*,List.length_map,zr,Nat.reduceAdd,Nat.reduceSub,Nat.reduceMul,Nat.reduceLT,Nat.reduceLeDiff,Nat.reduceEqDiff,Nat.reduceBEq,reduceIte,reduceCtorEq,Int.reduceLE,Int.reduceLT,Int.reduceToNat,Int.reduceEq,Int.reduceNe])
  | ((first|apply zk0|apply zk1|apply zk2|apply zk3|apply zk4|apply zk5|apply zk6|apply zk7|apply zk8|apply zk9) <;> intro hc)
  |(refine callP0 rfl ?_)
  |(refine callD0 rfl ?_)
  |(refine cP (k) ?_)
  |(refine cD (k) ?_)
  |(refine cF (k) ?_)
  |(refine cO (k) ?_)
  | fail)
 exact ⟨[.agg [.f (.int .i64 2),.f (.str t),.f (.int .i64 f),.f (.int .i64 0),.f (.fr 1 (List.map encU C))]],rfl,⟨⟨rfl,rfl,rfl,rfl,rfl,rfl⟩,rfl⟩,List.nodup_nil⟩
def nCh (x m : Nat) : Nat := (x + m - 1) / m
theorem nCh_lt {x m s : Nat} (hm : 1 ≤ m) : s < nCh x m ↔ s * m < x := by
 unfold nCh
 show s + 1 ≤ _ ↔ _
 rw [Nat.le_div_iff_mul_le (by omega),Nat.add_mul]
 omega
def msgTo (t : ByteArray) (b : List UInt8) (f m s : Nat) : List Mg := (1,t,0,b.length,[]) :: (List.range s).map fun i => dMsg t b (f + i * m) m
theorem msgTo_succ {t : ByteArray} {b : List UInt8} {f m s : Nat} : msgTo t b f m (s + 1) = msgTo t b f m s ++ [dMsg t b (f + s * m) m] := by
 unfold msgTo
 rw [List.range_succ,List.map_append];rfl
theorem msgTo_len {t : ByteArray} {b : List UInt8} {f m s : Nat} : (msgTo t b f m s).length = s + 1 := by
 unfold msgTo
 rw [List.length_cons,List.length_map,List.length_range]
theorem rowF_snoc {α : Type} {enc : α → List FV} {l : List α} {x : α} : rowF enc (l ++ [x]) = rowF enc l ++ enc x := by
 unfold rowF
 rw [List.map_append,List.flatten_append];simp
end Go.Proofs.YtjacnfjlocajoaaDoor
namespace Go.Proofs.YtjacnfjlocajoaaDoor
open Go.RowKit Go.Shelf
set_option linter.unusedVariables false
set_option linter.unusedSimpArgs false

def onceV (t : ByteArray) (b : List UInt8) (most : Nat) : Nat → Int → Mg → Rc → Int → (Bool × Int) × Rc × Int
 | 0,_,_,r,sent => ((true,0),r,sent)
 | k + 1,left,m,r,sent =>
  if left = 0 then ((false,0),r,sent + m.2.2.2.2.length)
  else if (takeV r.1 r.2 m).1 ≠ 0 ∨ (takeV r.1 r.2 m).2.2.1 ≠ 3 then ((true,(takeV r.1 r.2 m).1),(takeV r.1 r.2 m).2.1,sent + m.2.2.2.2.length)
  else onceV t b most k (left - 1) (dMsg t b (takeV r.1 r.2 m).2.2.2.2.1.toNat most) (takeV r.1 r.2 m).2.1 (sent + m.2.2.2.2.length)
structure SOk (t : ByteArray) (b : List UInt8) (most : Nat) (r : Rc) (m : Mg) : Prop where
 ok : ROk r
 at_ : m = ((1,t,0,(b.length : Int),[]) : Mg) ∨ ∃ f : Nat,m = dMsg t b f most ∧ f < b.length ∧ Mid r t b.length f
def meas (b : List UInt8) (m : Mg) : Nat := if m.1 = 1 then b.length + 1 else b.length - m.2.2.1.toNat
theorem TakeV_eq {r : Rc} {m : Mg} (h : ROk r) (h0 : (takeV r.1 r.2 m).1 = 0) : TakeV r m = takeV r.1 r.2 m := by
 unfold TakeV
 rw [if_neg (fun hh => hh (ckRc_iff.2 h)),if_neg (fun hh => hh h0)]
theorem next_from {r : Rc} {t : ByteArray} {L : Nat} {f : Nat} {c : List UInt8} (h : Mid r t L f) (hd : isDig t = true) (hL : L ≤ 100000) (hc0 : 0 < c.length) (hc1 : f + c.length ≤ L) (hc2 : c.length ≤ 65536) (h3 : (takeV r.1 r.2 (2,t,f,0,c)).2.2.1 = 3) : (takeV r.1 r.2 (2,t,f,0,c)).2.2.2.2.1 = ((f + c.length : Nat) : Int) := by
 obtain ⟨hok,hno,p,hp,hs,hl⟩ := h
 obtain ⟨D,P⟩ := r
 dsimp only at hno hp h3 ⊢
 have hck : ckMg (2,t,(f : Int),0,c) c.length = 0 := by
  unfold ckMg
  dsimp only
  rw [if_neg (by decide),if_neg (by rw [hd];decide),if_neg (by simp only [inRg,Bool.not_eq_false,Bool.and_eq_true,decide_eq_true_eq];omega),if_neg (by omega),if_neg (by simp),if_neg (by simp),if_neg (by
   have : decide (0 < (c.length : Int)) = true := decide_eq_true (by omega)
   rw [this];simp)]
 have e1 : takeV D P (2,t,(f : Int),0,c) = dataV D P p t f c := by
  unfold takeV
  dsimp only
  rw [if_neg (fun h => h hck),if_neg (by decide),if_neg (by rw [hno];decide),if_neg (by decide),hp]
  dsimp only
  rw [if_pos rfl]
 have e2 : dataV D P p t f c = if ((p.2.2 ++ c).length : Int) < p.2.1 then (0,(D,P.set (ptIdx P t) (t,p.2.1,p.2.2 ++ c)),(3,t,((p.2.2 ++ c).length : Int),0,[])) else wholeV D (delP P t) t (p.2.2 ++ c) := by
  unfold dataV
  have hmin : min c.length (p.2.2.length - (f : Int).toNat) = 0 := by omega
  rw [hmin,if_neg (by omega),if_pos (by rw [List.take_zero,List.take_zero]),if_neg (by omega),List.drop_zero]
 rw [e1,e2] at h3 ⊢
 have hlen : (p.2.2 ++ c).length = f + c.length := by rw [List.length_append,hl]
 split at h3
 ·rename_i hlt
  rw [if_pos hlt]
  show (((p.2.2 ++ c).length : Nat) : Int) = _
  rw [hlen]
 ·exfalso
  revert h3
  unfold wholeV
  split
  ·split
   ·intro h;cases h
   ·intro h;cases h
  ·intro h;cases h
theorem s_step {t : ByteArray} {b : List UInt8} {most : Nat} {r : Rc} {m : Mg} (h : SOk t b most r m) (hd : isDig t = true) (hb : b.length ≤ 100000) (hm : 1 ≤ most ∧ most ≤ 65536) (h0 : (takeV r.1 r.2 m).1 = 0) (h3 : (takeV r.1 r.2 m).2.2.1 = 3) :
  ∃ n : Nat,(takeV r.1 r.2 m).2.2.2.2.1 = n ∧ n < b.length ∧ Mid (takeV r.1 r.2 m).2.1 t b.length n ∧ b.length - n < meas b m := by
 have e := TakeV_eq h.ok h0
 rcases h.at_ with rfl | ⟨f,rfl,hf,hmid⟩
 ·rw [← e] at h0 h3 ⊢
  rcases first_take h0 (by rw [h3];decide) with ⟨h4,_⟩ | ⟨n,_,k2,k3,k4⟩
  ·rw [h4] at h3;cases h3
  ·exact ⟨n,k2,k3,k4,by unfold meas;rw [if_pos rfl];omega⟩
 ·have hc : ((b.drop f).take most).length = min most (b.length - f) := by rw [List.length_take,List.length_drop]
  have hN := next_take (c := (b.drop f).take most) hmid hd hb (by omega) (by omega) (by omega)
  have hF := next_from (c := (b.drop f).take most) hmid hd hb (by omega) (by omega) (by omega) h3
  have e' : TakeV r (2,t,(f : Int),0,(b.drop f).take most) = takeV r.1 r.2 (2,t,(f : Int),0,(b.drop f).take most) := e
  rw [e'] at hN
  have h0' : (takeV r.1 r.2 (2,t,(f : Int),0,(b.drop f).take most)).1 = 0 := h0
  have h3' : (takeV r.1 r.2 (2,t,(f : Int),0,(b.drop f).take most)).2.2.1 = 3 := h3
  rcases hN with h | ⟨_,⟨k1,k2,k3⟩ | ⟨k1,k2⟩⟩
  ·rw [h0'] at h;cases h
  ·refine ⟨_,hF,k1,k3,?_⟩
   unfold meas dMsg
   rw [if_neg (show (2 : Int) ≠ 1 by decide)]
   show _ < b.length - ((f : Int)).toNat
   rw [Int.toNat_natCast]
   omega
  ·rw [h3'] at k2;rcases k2 with h | h <;> cases h
theorem s_next {t : ByteArray} {b : List UInt8} {most : Nat} {r : Rc} {n : Nat} (hn : n < b.length) (h : Mid r t b.length n) : SOk t b most r (dMsg t b n most) := ⟨h.ok,.inr ⟨n,rfl,hn,h⟩⟩
end Go.Proofs.YtjacnfjlocajoaaDoor
