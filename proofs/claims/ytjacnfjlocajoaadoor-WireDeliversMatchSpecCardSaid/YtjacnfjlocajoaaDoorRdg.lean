/-
  The document's digest of bytes is the program's. No statement of the seat is proved here; no conditions.
-/
import Derived.Test.YtjacnfjlocajoaaDoorWrS
namespace Go.Proofs.YtjacnfjlocajoaaDoor
open Go.RowKit Go.Shelf
set_option linter.unusedVariables false
set_option linter.unusedSimpArgs false
set_option maxRecDepth 100000

def hexAt (N : Int) (k : Nat) : UInt8 := hexL.getD (N / 16 ^ k % 16).toNat 0
theorem and15_mod {m : Int} (h0 : 0 ≤ m) (h1 : m < 18446744073709551616) : u64and m 15 = m % 16 := by
 unfold u64and
 have e : (BitVec.ofInt IntKind.u64.bits m &&& BitVec.ofInt IntKind.u64.bits 15).toNat = m.toNat % 16 := by
  rw [BitVec.toNat_and,BitVec.toNat_ofInt,BitVec.toNat_ofInt]
  show (m % ((2 ^ 64 : Nat) : Int)).toNat &&& (2 ^ 4 - 1) = _
  rw [Nat.and_two_pow_sub_one_eq_mod,Int.emod_eq_of_lt h0 (by simpa using h1)]
 rw [e,IntKind.wrap_u64]
 omega
theorem digN_bd (b : List UInt8) : 0 ≤ digN b ∧ digN b < 18446744073709551616 := by
 have step : ∀ (l : List UInt8) (n : Int),(0 ≤ n ∧ n < 18446744073709551616) → 0 ≤ l.foldl digOne n ∧ l.foldl digOne n < 18446744073709551616 := fun l => by
  induction l with
  | nil => exact fun n h => h
  | cons x l ih =>
   intro n h
   rw [List.foldl_cons]
   refine ih _ ?_
   unfold digOne
   generalize (u64xor n (IntKind.u64.wrap ↑x.toNat) * 1099511628211) = y
   rw [IntKind.wrap_u64]
   omega
 exact step b _ (by decide)
theorem digTo_nib {N : Int} (h0 : 0 ≤ N) (h1 : N < 18446744073709551616) : ∀ s,s ≤ 16 → (digTo N s).2 = N / 16 ^ s ∧ ∀ k,k < s → (digTo N s).1[15 - k]? = some (hexAt N k)
 | 0,_ => ⟨by simp [digTo],fun k h => absurd h (by omega)⟩
 | s + 1,hs => by
  obtain ⟨i1,i2⟩ := digTo_nib h0 h1 s (by omega)
  have hl := digTo_len N s
  have hp : (0 : Int) < 16 ^ s := Int.pow_pos (by decide)
  have hb0 : 0 ≤ N / 16 ^ s := Int.ediv_nonneg h0 (by omega)
  have hb1 : N / 16 ^ s < 18446744073709551616 := Int.lt_of_le_of_lt (Int.ediv_le_self _ h0) h1
  rw [digTo]
  dsimp only
  refine ⟨?_,fun k hk => ?_⟩
  ·rw [i1]
   unfold digShr
   show (N / 16 ^ s).fdiv (2 ^ 4) = _
   rw [Int.fdiv_eq_ediv_of_nonneg _ (by decide),Int.pow_succ,Int.ediv_ediv_of_nonneg (by omega)]
   rfl
  ·rw [i1,and15_mod hb0 hb1]
   by_cases e : 15 - s = 15 - k
   ·have : s = k := by omega
    subst this
    rw [List.getElem?_set_self (by omega)]
    rfl
   ·rw [List.getElem?_set_ne e]
    exact i2 k (by omega)
def hexTo (N : Int) (s : Nat) : List UInt8 := (List.range s).map fun j => hexAt N (15 - j)
theorem hexTo_eq {N : Int} {L : List UInt8} (hl : L.length = 16) (h : ∀ k,k < 16 → L[15 - k]? = some (hexAt N k)) : L = hexTo N 16 := by
 refine List.ext_getElem? fun i => ?_
 rcases Nat.lt_or_ge i 16 with hi | hi
 ·have := h (15 - i) (by omega)
  rw [show 15 - (15 - i) = i by omega] at this
  rw [this]
  unfold hexTo
  rw [List.getElem?_map,List.getElem?_range hi,Option.map_some]
 ·rw [List.getElem?_eq_none (by omega),List.getElem?_eq_none (by unfold hexTo;rw [List.length_map,List.length_range];exact hi)]
theorem digV_hex (b : List UInt8) : digV b = ⟨(hexTo (digN b) 16).toArray⟩ := by
 obtain ⟨h0,h1⟩ := digN_bd b
 unfold digV
 rw [hexTo_eq (digTo_len (digN b) 16) (digTo_nib h0 h1 16 (Nat.le_refl _)).2]
theorem hexTo_succ (N : Int) (s : Nat) : hexTo N (s + 1) = hexTo N s ++ [hexAt N (15 - s)] := by
 unfold hexTo
 rw [List.range_succ,List.map_append];rfl
theorem hexS_at : ∀ d,d < 16 → (⟨#[48,49,50,51,52,53,54,55,56,57,97,98,99,100,101,102]⟩ : ByteArray).extract d (d + 1) = ⟨#[hexL.getD d 0]⟩ := by decide
set_option maxHeartbeats 1000000 in
theorem DigestR_f (b : List UInt8) (hb : (b.length : Int) ≤ 9223372036854775807) : FRet Tryd.prog 31 [.f (frB b)] [.c (.v (.str (digV b)))] := by
 rw [digV_hex]
 obtain ⟨n0,n1⟩ := digN_bd b
 refine FCall.of_ax low_ref1_Digest ?_
 dsimp only [l_ref1_Digest,frB]
 refine srun_sound 300 _ _ _ _ ?_
 repeat' (first
  | (simp -implicitDefEqProofs only [*,zr,Nat.reduceAdd,Nat.reduceSub,Nat.reduceMul,Nat.reduceLT,Nat.reduceLeDiff,Nat.reduceEqDiff,Nat.reduceBEq,reduceIte,reduceCtorEq,Int.reduceLE,Int.reduceLT,Int.reduceToNat,Int.reduceEq,Int.reduceNe])
  | ((first|apply zk0|apply zk1|apply zk2|apply zk3|apply zk4|apply zk5|apply zk6|apply zk7|apply zk8|apply zk9) <;> intro hc)
  |(refine callP0 rfl ?_)
  |(refine callD0 rfl ?_)
  | fail)
 refine ax_loopU (S := Nat) 37 [0] [] (fun s => [(3,.f (.int .u64 (digN (b.take s)))),(4,.f (.int .i64 s))]) (fun s => []) (fun s => s ≤ b.length) (fun s => b.length - s) (0) [] ?_ ?_ fun s hs => ?_
 ·exact Nat.zero_le _
 ·refine wk_i ?_ ?_ <;> simp only [List.take_zero,show digN [] = 14695981039346656037 from rfl,zw,Nat.reduceEqDiff,Nat.reduceBEq,Nat.reduceLT,Nat.reduceLeDiff,reduceIte,reduceCtorEq]
 refine srun_sound 300 _ _ _ _ ?_
 rcases Nat.lt_or_ge s b.length with hlt | hge
 ·obtain ⟨x,hx⟩ := get_some hlt
  have h4 := inc64 hlt hb
  have h2 := lt_t hlt
  have hs2 : digN (b.take (s + 1)) = IntKind.u64.wrap (IntKind.u64.wrap ((BitVec.ofInt IntKind.u64.bits (digN (b.take s)) ^^^ BitVec.ofInt IntKind.u64.bits (IntKind.u64.wrap (x.toNat : Nat))).toNat : Nat) * 1099511628211) := by
   rw [List.take_add_one,hx,digN,List.foldl_append];rfl
  repeat' (first
   | (simp -implicitDefEqProofs only [*,List.getElem?_map,Option.map_some,encU,List.length_map,zr,Nat.reduceAdd,Nat.reduceSub,Nat.reduceMul,Nat.reduceLT,Nat.reduceLeDiff,Nat.reduceEqDiff,Nat.reduceBEq,reduceIte,reduceCtorEq,Int.reduceLE,Int.reduceLT,Int.reduceToNat,Int.reduceEq,Int.reduceNe])
   | ((first|apply zk0|apply zk1|apply zk2|apply zk3|apply zk4|apply zk5|apply zk6|apply zk7|apply zk8|apply zk9) <;> intro hc)
   |(refine callP0 rfl ?_)
   |(refine callD0 rfl ?_)
   | fail)
  refine ⟨s + 1,hlt,by omega,?_⟩
  rw [hs2]
  refine wk_i ?_ ?_ <;> simp only [zw,Nat.reduceEqDiff,Nat.reduceBEq,Nat.reduceLT,Nat.reduceLeDiff,reduceIte,reduceCtorEq]
 obtain rfl : s = b.length := by omega
 have h2 := lt_f hge
 have h3 := List.take_length (l := b)
 obtain ⟨N,hN⟩ : ∃ N,digN b = N := ⟨_,rfl⟩
 rw [hN] at n0 n1 ⊢
 repeat' (first
  | (simp -implicitDefEqProofs only [*,List.length_map,zr,Nat.reduceAdd,Nat.reduceSub,Nat.reduceMul,Nat.reduceLT,Nat.reduceLeDiff,Nat.reduceEqDiff,Nat.reduceBEq,reduceIte,reduceCtorEq,Int.reduceLE,Int.reduceLT,Int.reduceToNat,Int.reduceEq,Int.reduceNe])
  | ((first|apply zk0|apply zk1|apply zk2|apply zk3|apply zk4|apply zk5|apply zk6|apply zk7|apply zk8|apply zk9) <;> intro hc)
  |(refine callP0 rfl ?_)
  |(refine callD0 rfl ?_)
  | fail)
 clear hge h2 h3 hs
 refine ax_loopU (S := Nat) 37 [3] [] (fun s => [(5,.f (.str ⟨(hexTo N s).toArray⟩)),(6,.f (.int .i64 (60 - 4 * s)))]) (fun s => []) (fun s => s ≤ 16) (fun s => 16 - s) (0) [] ?_ ?_ fun s hs => ?_
 ·exact Nat.zero_le _
 ·refine wk_i ?_ ?_ <;> simp only [hexTo,List.range_zero,List.map_nil,zw,Nat.reduceEqDiff,Nat.reduceBEq,Nat.reduceLT,Nat.reduceLeDiff,reduceIte,reduceCtorEq]
  rfl
 refine srun_sound 300 _ _ _ _ ?_
 rcases Nat.lt_or_ge s 16 with hlt | hge
 ·have h2 : decide (60 - 4 * (s : Int) ≥ 0) = true := dcT (by omega)
  have h3 : IntKind.i64.wrap (60 - 4 * (s : Int) - 4) = 60 - 4 * ((s + 1 : Nat) : Int) := by rw [wrap64] <;> omega
  have q0 : (0 ≤ 60 - 4 * (s : Int)) = True := by rw [eq_iff_iff,iff_true];omega
  have hsx := hexTo_succ N s
  have q1 : N.fdiv (2 ^ min (60 - 4 * (s : Int)).toNat IntKind.u64.bits) = N / 16 ^ (15 - s) := by
   rw [Int.fdiv_eq_ediv_of_nonneg _ (Int.le_of_lt (Int.pow_pos (by decide)))]
   have e1 : min (60 - 4 * (s : Int)).toNat IntKind.u64.bits = 4 * (15 - s) := by
    show min (60 - 4 * (s : Int)).toNat 64 = _
    omega
   rw [e1,Int.pow_mul];rfl
  unfold hexAt at hsx
  have hK0 : 0 ≤ N / 16 ^ (15 - s) := Int.ediv_nonneg n0 (Int.le_of_lt (Int.pow_pos (by decide)))
  generalize N / 16 ^ (15 - s) = K at *
  have q2 : K.tmod 16 = K % 16 := Int.tmod_eq_emod_of_nonneg hK0
  have hd0 : 0 ≤ K % 16 ∧ K % 16 < 16 := by omega
  generalize K % 16 = d at *
  have q4 : IntKind.u64.wrap d = d := by rw [IntKind.wrap_u64];omega
  have q5 : IntKind.u64.wrap (d + 1) = d + 1 := by rw [IntKind.wrap_u64];omega
  obtain ⟨dn,rfl⟩ : ∃ n : Nat,d = (n : Int) := ⟨d.toNat,by omega⟩
  have hdn : dn < 16 := by omega
  rw [Int.toNat_natCast] at hsx
  replace q1 := q1
  clear hd0 hK0
  have hAl : (hexTo N s).length = s := by unfold hexTo;rw [List.length_map,List.length_range]
  generalize hexTo N s = A at *
  have q6 : ((dn : Int) ≤ (dn : Int) + 1 ∧ (dn : Int) + 1 ≤ ((⟨#[48,49,50,51,52,53,54,55,56,57,97,98,99,100,101,102]⟩ : ByteArray).size : Int)) = True := by
   rw [eq_iff_iff,iff_true]
   exact ⟨by omega,by show (dn : Int) + 1 ≤ 16;omega⟩
  have q7 : ((dn : Int) + 1).toNat = dn + 1 := by omega
  have q8 : (⟨#[48,49,50,51,52,53,54,55,56,57,97,98,99,100,101,102]⟩ : ByteArray).extract dn (dn + 1) = ⟨#[hexL.getD dn 0]⟩ := hexS_at dn hdn
  generalize hexL.getD dn 0 = c at *
  have q9 : ((⟨A.toArray⟩ : ByteArray).size + (⟨#[c]⟩ : ByteArray).size ≤ 9223372036854775807) = True := by
   rw [eq_iff_iff,iff_true]
   simp only [ByteArray.size,List.size_toArray,List.length_cons,List.length_nil]
   omega
  have q10 : (⟨A.toArray⟩ : ByteArray) ++ ⟨#[c]⟩ = ⟨(A ++ [c]).toArray⟩ := by apply ByteArray.ext;simp
  repeat' (first
   | (simp -implicitDefEqProofs only [*,zr,Nat.reduceAdd,Nat.reduceSub,Nat.reduceMul,Nat.reduceLT,Nat.reduceLeDiff,Nat.reduceEqDiff,Nat.reduceBEq,reduceIte,reduceCtorEq,Int.reduceLE,Int.reduceLT,Int.reduceToNat,Int.reduceEq,Int.reduceNe])
   | ((first|apply zk0|apply zk1|apply zk2|apply zk3|apply zk4|apply zk5|apply zk6|apply zk7|apply zk8|apply zk9) <;> intro hc)
   |(refine callP0 rfl ?_)
   |(refine callD0 rfl ?_)
   | fail)
  refine ⟨s + 1,hlt,by omega,?_⟩
  rw [hsx]
  refine wk_i ?_ ?_ <;> simp only [zw,Nat.reduceEqDiff,Nat.reduceBEq,Nat.reduceLT,Nat.reduceLeDiff,reduceIte,reduceCtorEq]
 ·obtain rfl : s = 16 := by omega
  have h2 : decide (60 - 4 * ((16 : Nat) : Int) ≥ 0) = false := by decide
  repeat' (first
   | (simp -implicitDefEqProofs only [*,zr,Nat.reduceAdd,Nat.reduceSub,Nat.reduceMul,Nat.reduceLT,Nat.reduceLeDiff,Nat.reduceEqDiff,Nat.reduceBEq,reduceIte,reduceCtorEq,Int.reduceLE,Int.reduceLT,Int.reduceToNat,Int.reduceEq,Int.reduceNe])
   | ((first|apply zk0|apply zk1|apply zk2|apply zk3|apply zk4|apply zk5|apply zk6|apply zk7|apply zk8|apply zk9) <;> intro hc)
   |(refine callP0 rfl ?_)
   |(refine callD0 rfl ?_)
   | fail)
  exact ret_v
end Go.Proofs.YtjacnfjlocajoaaDoor
