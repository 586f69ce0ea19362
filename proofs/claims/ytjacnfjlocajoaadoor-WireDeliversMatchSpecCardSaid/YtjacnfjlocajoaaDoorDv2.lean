/-
  What Deliver calls beside a session; sessions in a row, as a plain function. No statement of the seat is proved here; no conditions.
-/
import Derived.Test.YtjacnfjlocajoaaDoorDv1
namespace Go.Proofs.YtjacnfjlocajoaaDoor
open Go.RowKit Go.Shelf
set_option linter.unusedVariables false
set_option linter.unusedSimpArgs false
set_option maxRecDepth 100000

def encI (n : Int) : List FV := [.int .i64 n]
theorem ixf_ints (l : List Int) (fn : FuncId) (p : Int → Bool) (hl : l.length ≤ 1000000) (hp : ∀ x ∈ l,FRet Tryd.prog fn [.f (.int .i64 x)] [.c (.v (.bool (p x)))]) :
  FRet Tryd.prog 64 [.f (.fr 1 (l.map fun x => [.int .i64 x])),.f (.fn (.func fn))] [.c (.v (.int .i64 (ixV p l)))] := by
 refine FCall.of_ax low_slices_IndexFunc_int_int ?_
 dsimp only [l_slices_IndexFunc_int_int]
 refine srun_sound 300 _ _ _ _ ?_
 repeat' (first
  | (simp -implicitDefEqProofs only [*,zr,Nat.reduceAdd,Nat.reduceSub,Nat.reduceMul,Nat.reduceLT,Nat.reduceLeDiff,Nat.reduceEqDiff,Nat.reduceBEq,reduceIte,reduceCtorEq,Int.reduceLE,Int.reduceLT,Int.reduceToNat,Int.reduceEq,Int.reduceNe])
  | ((first|apply zk0|apply zk1|apply zk2|apply zk3|apply zk4|apply zk5|apply zk6|apply zk7|apply zk8|apply zk9) <;> intro hc)
  |(refine callP0 rfl ?_)
  |(refine callD0 rfl ?_)
  | fail)
 refine ax_loopU (S := Nat) 19 [0,1,7] [] (fun s => [(8,.f (.int .i64 s))]) (fun s => []) (fun s => s ≤ l.length ∧ ∀ k x,k < s → l[k]? = some x → p x = false) (fun s => l.length - s) (0) [] ?_ ?_ fun s hs => ?_
 ·exact ⟨Nat.zero_le _,fun k x h => absurd h (by omega)⟩
 ·refine wk_i ?_ ?_ <;> simp only [zw,Nat.reduceEqDiff,Nat.reduceBEq,Nat.reduceLT,Nat.reduceLeDiff,reduceIte,reduceCtorEq]
 obtain ⟨hi,hall⟩ := hs
 refine srun_sound 300 _ _ _ _ ?_
 have hA := hide hall
 clear hall
 rcases Nat.lt_or_ge s l.length with hlt | hge
 ·obtain ⟨x,hx⟩ := get_some hlt
  have h4 := inc64 hlt (by omega)
  have h2 := lt_t hlt
  have hm := List.mem_of_getElem? hx
  cases hpx : p x
  ·repeat' (first
    | (simp -implicitDefEqProofs only [*,List.getElem?_map,Option.map_some,zr,Nat.reduceAdd,Nat.reduceSub,Nat.reduceMul,Nat.reduceLT,Nat.reduceLeDiff,Nat.reduceEqDiff,Nat.reduceBEq,reduceIte,reduceCtorEq,Int.reduceLE,Int.reduceLT,Int.reduceToNat,Int.reduceEq,Int.reduceNe])
    | ((first|apply zk0|apply zk1|apply zk2|apply zk3|apply zk4|apply zk5|apply zk6|apply zk7|apply zk8|apply zk9) <;> intro hc)
    |(refine callP0 rfl ?_)
    |(refine callD0 rfl ?_)
    |(refine cP (hp x hm) ?_)
    |(refine cD (hp x hm) ?_)
    |(refine cF (hp x hm) ?_)
    |(refine cO (hp x hm) ?_)
    | fail)
   refine ⟨s + 1,⟨hlt,fun k y hk hy => ?_⟩,by omega,?_⟩
   ·rcases Nat.lt_succ_iff_lt_or_eq.1 hk with h1 | rfl
    ·exact hA.out k y h1 hy
    ·rw [hx] at hy;obtain rfl := Option.some.inj hy;exact hpx
   ·refine wk_i ?_ ?_ <;> simp only [zw,Nat.reduceEqDiff,Nat.reduceBEq,Nat.reduceLT,Nat.reduceLeDiff,reduceIte,reduceCtorEq]
  ·have he := ix_hit hA.out hx hpx
   repeat' (first
    | (simp -implicitDefEqProofs only [*,List.getElem?_map,Option.map_some,zr,Nat.reduceAdd,Nat.reduceSub,Nat.reduceMul,Nat.reduceLT,Nat.reduceLeDiff,Nat.reduceEqDiff,Nat.reduceBEq,reduceIte,reduceCtorEq,Int.reduceLE,Int.reduceLT,Int.reduceToNat,Int.reduceEq,Int.reduceNe])
    | ((first|apply zk0|apply zk1|apply zk2|apply zk3|apply zk4|apply zk5|apply zk6|apply zk7|apply zk8|apply zk9) <;> intro hc)
    |(refine callP0 rfl ?_)
    |(refine callD0 rfl ?_)
    |(refine cP (hp x hm) ?_)
    |(refine cD (hp x hm) ?_)
    |(refine cF (hp x hm) ?_)
    |(refine cO (hp x hm) ?_)
    | fail)
   exact ret_ve rfl
 ·obtain rfl : s = l.length := by omega
  have h2 := lt_f hge
  have he := ix_none hA.out
  repeat' (first
   | (simp -implicitDefEqProofs only [*,zr,Nat.reduceAdd,Nat.reduceSub,Nat.reduceMul,Nat.reduceLT,Nat.reduceLeDiff,Nat.reduceEqDiff,Nat.reduceBEq,reduceIte,reduceCtorEq,Int.reduceLE,Int.reduceLT,Int.reduceToNat,Int.reduceEq,Int.reduceNe])
   | ((first|apply zk0|apply zk1|apply zk2|apply zk3|apply zk4|apply zk5|apply zk6|apply zk7|apply zk8|apply zk9) <;> intro hc)
   |(refine callP0 rfl ?_)
   |(refine callD0 rfl ?_)
   | fail)
  exact ret_ve rfl
theorem cf_ints (l : List Int) (fn : FuncId) (p : Int → Bool) (hl : l.length ≤ 1000000) (hp : ∀ x ∈ l,FRet Tryd.prog fn [.f (.int .i64 x)] [.c (.v (.bool (p x)))]) :
  FRet Tryd.prog 41 [.f (.fr 1 (l.map fun x => [.int .i64 x])),.f (.fn (.func fn))] [.c (.v (.bool (l.any p)))] := by
 have hI := ixf_ints l fn p hl hp
 have he := ix_any p l
 refine FCall.of_ax low_slices_ContainsFunc_int_int ?_
 dsimp only [l_slices_ContainsFunc_int_int]
 refine srun_sound 300 _ _ _ _ ?_
 replace hp := hide hp
 generalize ixV p l = i at *
 generalize l.any p = q at *
 repeat' (first
  | (simp -implicitDefEqProofs only [*,zr,Nat.reduceAdd,Nat.reduceSub,Nat.reduceMul,Nat.reduceLT,Nat.reduceLeDiff,Nat.reduceEqDiff,Nat.reduceBEq,reduceIte,reduceCtorEq,Int.reduceLE,Int.reduceLT,Int.reduceToNat,Int.reduceEq,Int.reduceNe])
  | ((first|apply zk0|apply zk1|apply zk2|apply zk3|apply zk4|apply zk5|apply zk6|apply zk7|apply zk8|apply zk9) <;> intro hc)
  |(refine callP0 rfl ?_)
  |(refine callD0 rfl ?_)
  |(refine cP (hI) ?_)
  |(refine cD (hI) ?_)
  |(refine cF (hI) ?_)
  |(refine cO (hI) ?_)
  | fail)
 exact ret_ve rfl

theorem cloneI_f (l : List Int) (hl : l.length ≤ 1000000) : FRet Tryd.prog 43 [.f (.fr 1 (l.map encI))] [.c (.own 1 l.length (rowF encI l))] := by
 refine FCall.of_ax low_slices_Clone_int_int ?_
 dsimp only [l_slices_Clone_int_int]
 refine srun_sound 300 _ _ _ _ ?_
 have h1 : (l.length * 8 ≤ 140737488355328) = True := by rw [eq_iff_iff,iff_true];omega
 rcases Nat.eq_zero_or_pos l.length with h0 | h0
 ·obtain rfl := List.eq_nil_of_length_eq_zero h0
  repeat' (first
   | (simp -implicitDefEqProofs only [*,condS_bit,List.flatten_nil,List.map_nil,zr,Nat.reduceAdd,Nat.reduceSub,Nat.reduceMul,Nat.reduceLT,Nat.reduceLeDiff,Nat.reduceEqDiff,Nat.reduceBEq,reduceIte,reduceCtorEq,Int.reduceLE,Int.reduceLT,Int.reduceToNat,Int.reduceEq,Int.reduceNe])
   | ((first|apply zk0|apply zk1|apply zk2|apply zk3|apply zk4|apply zk5|apply zk6|apply zk7|apply zk8|apply zk9) <;> intro hc)
   |(refine callP0 rfl ?_)
   |(refine callD0 rfl ?_)
   | fail)
  refine ⟨?_,?_⟩
  ·repeat' (first
    | (simp -implicitDefEqProofs only [*,List.flatten_nil,List.map_nil,zr,Nat.reduceAdd,Nat.reduceSub,Nat.reduceMul,Nat.reduceLT,Nat.reduceLeDiff,Nat.reduceEqDiff,Nat.reduceBEq,reduceIte,reduceCtorEq,Int.reduceLE,Int.reduceLT,Int.reduceToNat,Int.reduceEq,Int.reduceNe])
    | ((first|apply zk0|apply zk1|apply zk2|apply zk3|apply zk4|apply zk5|apply zk6|apply zk7|apply zk8|apply zk9) <;> intro hc)
    |(refine callP0 rfl ?_)
    |(refine callD0 rfl ?_)
    | fail)
   exact ret_on rfl rfl
  ·repeat' (first
    | (simp -implicitDefEqProofs only [*,List.flatten_nil,List.map_nil,zr,Nat.reduceAdd,Nat.reduceSub,Nat.reduceMul,Nat.reduceLT,Nat.reduceLeDiff,Nat.reduceEqDiff,Nat.reduceBEq,reduceIte,reduceCtorEq,Int.reduceLE,Int.reduceLT,Int.reduceToNat,Int.reduceEq,Int.reduceNe])
    | ((first|apply zk0|apply zk1|apply zk2|apply zk3|apply zk4|apply zk5|apply zk6|apply zk7|apply zk8|apply zk9) <;> intro hc)
    |(refine callP0 rfl ?_)
    |(refine callD0 rfl ?_)
    | fail)
   exact ret_o rfl (by simp)
 ·have h0' : (l.length = 0) = False := by rw [eq_iff_iff,iff_false];omega
  clear h0
  repeat' (first
   | (simp -implicitDefEqProofs only [*,zr,Nat.reduceAdd,Nat.reduceSub,Nat.reduceMul,Nat.reduceLT,Nat.reduceLeDiff,Nat.reduceEqDiff,Nat.reduceBEq,reduceIte,reduceCtorEq,Int.reduceLE,Int.reduceLT,Int.reduceToNat,Int.reduceEq,Int.reduceNe])
   | ((first|apply zk0|apply zk1|apply zk2|apply zk3|apply zk4|apply zk5|apply zk6|apply zk7|apply zk8|apply zk9) <;> intro hc)
   |(refine callP0 rfl ?_)
   |(refine callD0 rfl ?_)
   | fail)
  exact ret_o (by simp [cellsOf,H0,rowF]) (by rw [row_len (sz := 1) (fun _ => rfl)];omega)

theorem badBreak_f (n : Int) : FRet Tryd.prog 42 [.f (.int .i64 n)] [.c (.v (.bool (!inRg n 0 20000)))] := by
 have k := within_f n 0 20000
 refine FCall.of_ax low_wire_Deliver_c1 ?_
 dsimp only [l_wire_Deliver_c1]
 refine srun_sound 300 _ _ _ _ ?_
 generalize inRg n 0 20000 = q at *
 cases q with
 | false =>
  repeat' (first
   | (simp -implicitDefEqProofs only [*,zr,Nat.reduceAdd,Nat.reduceSub,Nat.reduceMul,Nat.reduceLT,Nat.reduceLeDiff,Nat.reduceEqDiff,Nat.reduceBEq,reduceIte,reduceCtorEq,Int.reduceLE,Int.reduceLT,Int.reduceToNat,Int.reduceEq,Int.reduceNe])
   | ((first|apply zk0|apply zk1|apply zk2|apply zk3|apply zk4|apply zk5|apply zk6|apply zk7|apply zk8|apply zk9) <;> intro hc)
   |(refine callP0 rfl ?_)
   |(refine callD0 rfl ?_)
   |(refine cP (k) ?_)
   |(refine cD (k) ?_)
   |(refine cF (k) ?_)
   |(refine cO (k) ?_)
   | fail)
  exact ret_v
 | true =>
  repeat' (first
   | (simp -implicitDefEqProofs only [*,zr,Nat.reduceAdd,Nat.reduceSub,Nat.reduceMul,Nat.reduceLT,Nat.reduceLeDiff,Nat.reduceEqDiff,Nat.reduceBEq,reduceIte,reduceCtorEq,Int.reduceLE,Int.reduceLT,Int.reduceToNat,Int.reduceEq,Int.reduceNe])
   | ((first|apply zk0|apply zk1|apply zk2|apply zk3|apply zk4|apply zk5|apply zk6|apply zk7|apply zk8|apply zk9) <;> intro hc)
   |(refine callP0 rfl ?_)
   |(refine callD0 rfl ?_)
   |(refine cP (k) ?_)
   |(refine cD (k) ?_)
   |(refine cF (k) ?_)
   |(refine cO (k) ?_)
   | fail)
  exact ret_v
def delV (t : ByteArray) (b : List UInt8) (most : Nat) : List Int → Rc → Int → Int × Rc × Int
 | [],r,s => (0,r,s)
 | n :: l,r,s =>
  if (onceV t b most (b.length + 2) n (1,t,0,b.length,[]) r s).1.2 ≠ 0 then ((onceV t b most (b.length + 2) n (1,t,0,b.length,[]) r s).1.2,([],[]),0)
  else if (onceV t b most (b.length + 2) n (1,t,0,b.length,[]) r s).1.1 = true then (0,(onceV t b most (b.length + 2) n (1,t,0,b.length,[]) r s).2)
  else delV t b most l (onceV t b most (b.length + 2) n (1,t,0,b.length,[]) r s).2.1 (onceV t b most (b.length + 2) n (1,t,0,b.length,[]) r s).2.2
theorem once_ok {t : ByteArray} {b : List UInt8} {most : Nat} (hd : isDig t = true) (hb : b.length ≤ 100000) (hm : 1 ≤ most ∧ most ≤ 65536) : ∀ (k : Nat) (left : Int) (m : Mg) (r : Rc) (s : Int),SOk t b most r m → meas b m < k →
  ((onceV t b most k left m r s).1.2 = 0 → ROk (onceV t b most k left m r s).2.1) ∧ s ≤ (onceV t b most k left m r s).2.2 ∧ (onceV t b most k left m r s).2.2 ≤ s + (k : Int) * 65536
 | 0,left,m,r,s,h,hk => absurd hk (by omega)
 | k + 1,left,m,r,s,h,hk => by
  obtain ⟨mk,fr,sz,bs,hmm,hbs⟩ := s_shape h hm.2
  have hbl : m.2.2.2.2.length ≤ 65536 := by rw [hmm];exact hbs
  rw [onceV]
  split
  ·exact ⟨fun _ => h.ok,by dsimp only;omega,by dsimp only;omega⟩
  split
  ·refine ⟨fun h0 => ?_,by dsimp only;omega,by dsimp only;omega⟩
   have e := TakeV_eq h.ok h0
   have := (Take_right (r := r) (m := m) (by rw [e];exact h0)).2.2.ok
   rw [e] at this
   exact this
  ·rename_i hc
   have h0 : (takeV r.1 r.2 m).1 = 0 := by
    by_cases hh : (takeV r.1 r.2 m).1 = 0
    ·exact hh
    ·exact absurd (.inl hh) hc
   have h3 : (takeV r.1 r.2 m).2.2.1 = 3 := by
    by_cases hh : (takeV r.1 r.2 m).2.2.1 = 3
    ·exact hh
    ·exact absurd (.inr hh) hc
   obtain ⟨n,k1,k2,k3,k4⟩ := s_step h hd hb hm h0 h3
   rw [k1,Int.toNat_natCast]
   have hme : meas b (dMsg t b n most) = b.length - n := by
    unfold meas dMsg
    rw [if_neg (show (2 : Int) ≠ 1 by decide)]
    show b.length - ((n : Int)).toNat = _
    rw [Int.toNat_natCast]
   obtain ⟨q1,q2,q3⟩ := once_ok hd hb hm k (left - 1) (dMsg t b n most) (takeV r.1 r.2 m).2.1 (s + m.2.2.2.2.length) (s_next k2 k3) (by omega)
   exact ⟨q1,by omega,by omega⟩
end Go.Proofs.YtjacnfjlocajoaaDoor
