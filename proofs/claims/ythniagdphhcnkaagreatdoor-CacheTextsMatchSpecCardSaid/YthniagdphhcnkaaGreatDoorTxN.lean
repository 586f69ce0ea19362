/-
  Numbers, words and lines as text, and what is read from them: plain functions. No statement of the seat is proved here; no conditions.
-/
import Derived.Test.YthniagdphhcnkaaGreatDoorTxA
import Derived.Lib.Atoi
import Derived.Lib.ItoaMem
import Derived.Lib.Join
namespace Go.Proofs.YthniagdphhcnkaaGreatDoor
open Go.RowKit Go.Shelf
set_option linter.unusedVariables false
set_option linter.unusedSimpArgs false
set_option maxRecDepth 100000

def isD (b : UInt8) : Bool := decide (48 ≤ b.toNat) && decide (b.toNat ≤ 57)
def decV (l : List UInt8) : Nat := l.foldl (fun a b => a * 10 + (b.toNat - 48)) 0
def numOk (l : List UInt8) : Bool := decide (1 ≤ l.length) && (decide (l.length ≤ 10) && (l.all isD && (decide (l.head? ≠ some 48) || decide (l = [48]))))
theorem isD_val {b : UInt8} (h : isD b = true) : Lib.digitVal b = some (b.toNat - 48) := by
 unfold isD at h
 rw [Bool.and_eq_true,decide_eq_true_eq,decide_eq_true_eq] at h
 unfold Lib.digitVal
 rw [if_pos h]
theorem decFrom_all : ∀ (l : List UInt8) (acc : Nat),l.all isD = true → Lib.decFrom acc l = some (l.foldl (fun a b => a * 10 + (b.toNat - 48)) acc)
 | [],acc,_ => rfl
 | b :: l,acc,h => by
  rw [List.all_cons,Bool.and_eq_true] at h
  rw [Lib.decFrom,isD_val h.1]
  exact decFrom_all l _ h.2
theorem numOk_parts {l : List UInt8} (h : numOk l = true) : 1 ≤ l.length ∧ l.length ≤ 10 ∧ l.all isD = true ∧ (l.head? ≠ some 48 ∨ l = [48]) := by
 unfold numOk at h
 rw [Bool.and_eq_true,Bool.and_eq_true,Bool.and_eq_true,Bool.or_eq_true,decide_eq_true_eq,decide_eq_true_eq,decide_eq_true_eq,decide_eq_true_eq] at h
 exact h
theorem numOk_of {l : List UInt8} (h : 1 ≤ l.length ∧ l.length ≤ 10 ∧ l.all isD = true ∧ (l.head? ≠ some 48 ∨ l = [48])) : numOk l = true := by
 unfold numOk
 rw [Bool.and_eq_true,Bool.and_eq_true,Bool.and_eq_true,Bool.or_eq_true,decide_eq_true_eq,decide_eq_true_eq,decide_eq_true_eq,decide_eq_true_eq]
 exact h
theorem atoi_num {l : List UInt8} (h : numOk l = true) : Lib.atoi l = some (decV l : Int) := by
 obtain ⟨h1,_,h3,_⟩ := numOk_parts h
 cases l with
 | nil => simp at h1
 | cons b r =>
  have hb : isD b = true := by rw [List.all_cons,Bool.and_eq_true] at h3;exact h3.1
  unfold isD at hb
  rw [Bool.and_eq_true,decide_eq_true_eq,decide_eq_true_eq] at hb
  have n45 : (b == 45) = false := by
   rw [beq_eq_false_iff_ne];intro e;subst e;exact absurd hb.1 (by decide)
  have n43 : (b == 43) = false := by
   rw [beq_eq_false_iff_ne];intro e;subst e;exact absurd hb.1 (by decide)
  unfold Lib.atoi
  simp only [n45,n43,Bool.false_eq_true,if_false]
  unfold Lib.decNat
  rw [decFrom_all _ _ h3]
  rfl
theorem toNat_dig {d : Nat} (h : d < 10) : (UInt8.ofNat (48 + d)).toNat = 48 + d := by
 rw [UInt8.toNat_ofNat_of_lt' (by show 48 + d < 256;omega)]
theorem dig_snoc {m d : Nat} (hm : 1 ≤ m) (hd : d < 10) : Lib.decDigits (m * 10 + d) = Lib.decDigits m ++ [UInt8.ofNat (48 + d)] := by
 rw [Lib.decDigits,dif_neg (by omega),show (m * 10 + d) / 10 = m by omega,show (m * 10 + d) % 10 = d by omega]
theorem dec_num : ∀ r : List UInt8,r ≠ [] → r.reverse.all isD = true → (r.reverse.head? ≠ some 48 ∨ r = [48]) → Lib.decDigits (decV r.reverse) = r.reverse
 | [],h,_,_ => absurd rfl h
 | [b],_,h,_ => by
  rw [List.reverse_singleton] at h ⊢
  rw [List.all_cons,List.all_nil,Bool.and_true] at h
  unfold isD at h
  rw [Bool.and_eq_true,decide_eq_true_eq,decide_eq_true_eq] at h
  show Lib.decDigits (0 * 10 + (b.toNat - 48)) = [b]
  rw [Nat.zero_mul,Nat.zero_add,Lib.decDigits_one (by omega),show 48 + (b.toNat - 48) = b.toNat by omega,UInt8.ofNat_toNat]
 | b :: c :: r,_,h,hz => by
  have hz' : (b :: c :: r).reverse.head? ≠ some 48 := by
   rcases hz with hz | hz
   ·exact hz
   ·simp at hz
  rw [List.reverse_cons] at h hz' ⊢
  rw [List.all_append,Bool.and_eq_true,List.all_cons,List.all_nil,Bool.and_true] at h
  have hh : (c :: r).reverse.head? ≠ some 48 := by
   cases hq : (c :: r).reverse with
   | nil => simp at hq
   | cons x y => rw [hq] at hz';simpa using hz'
  have ih := dec_num (c :: r) (by simp) h.1 (.inl hh)
  have hb := h.2
  unfold isD at hb
  rw [Bool.and_eq_true,decide_eq_true_eq,decide_eq_true_eq] at hb
  have e : decV ((c :: r).reverse ++ [b]) = decV (c :: r).reverse * 10 + (b.toNat - 48) := by unfold decV;rw [List.foldl_append];rfl
  have hm : 1 ≤ decV (c :: r).reverse := by
   rcases Nat.eq_zero_or_pos (decV (c :: r).reverse) with h0 | h0
   ·rw [h0,Lib.decDigits_one (by decide)] at ih
    rw [← ih] at hh
    exact absurd rfl hh
   ·exact h0
  rw [e,dig_snoc hm (by omega),ih,show 48 + (b.toNat - 48) = b.toNat by omega,UInt8.ofNat_toNat]
theorem dig_of_num {l : List UInt8} (h : numOk l = true) : Lib.decDigits (decV l) = l := by
 obtain ⟨h1,_,h3,h4⟩ := numOk_parts h
 have := dec_num l.reverse (fun e => by rw [List.reverse_eq_nil_iff] at e;subst e;simp at h1) (by rw [List.reverse_reverse];exact h3)
  (by
    rw [List.reverse_reverse]
    rcases h4 with h4 | h4
    ·exact .inl h4
    ·right;rw [h4];rfl)
 rw [List.reverse_reverse] at this
 exact this
theorem num_dec (n : Nat) : (Lib.decDigits n).all isD = true ∧ decV (Lib.decDigits n) = n ∧ ((Lib.decDigits n).head? ≠ some 48 ∨ Lib.decDigits n = [48]) := by
 induction n using Nat.strongRecOn with
 | _ n ih =>
  have hd1 : ∀ d,d < 10 → isD (UInt8.ofNat (48 + d)) = true := fun d hd => by
   unfold isD
   rw [toNat_dig hd,Bool.and_eq_true,decide_eq_true_eq,decide_eq_true_eq];omega
  by_cases h : n < 10
  ·rw [Lib.decDigits_one h]
   refine ⟨by rw [List.all_cons,hd1 n h];rfl,?_,?_⟩
   ·show 0 * 10 + ((UInt8.ofNat (48 + n)).toNat - 48) = n
    rw [toNat_dig h];omega
   ·by_cases h0 : n = 0
    ·subst h0;exact .inr rfl
    ·left
     intro e
     have e1 : UInt8.ofNat (48 + n) = 48 := by simpa using e
     have := congrArg UInt8.toNat e1
     rw [toNat_dig h] at this
     have h48 : (48 : UInt8).toNat = 48 := rfl
     omega
  ·obtain ⟨h1,h2,h3⟩ := ih (n / 10) (by omega)
   have e : Lib.decDigits n = Lib.decDigits (n / 10) ++ [UInt8.ofNat (48 + n % 10)] := by rw [Lib.decDigits,dif_neg h]
   have hm : n % 10 < 10 := Nat.mod_lt _ (by decide)
   rw [e]
   refine ⟨by rw [List.all_append,h1,List.all_cons,hd1 _ hm];rfl,?_,.inl ?_⟩
   ·show decV (Lib.decDigits (n / 10) ++ [UInt8.ofNat (48 + n % 10)]) = n
    unfold decV at h2 ⊢
    rw [List.foldl_append,h2]
    show n / 10 * 10 + ((UInt8.ofNat (48 + n % 10)).toNat - 48) = n
    rw [toNat_dig hm];omega
   ·rcases h3 with h3 | h3
    ·cases hq : Lib.decDigits (n / 10) with
     | nil =>
      have := Lib.decDigits_length (n / 10)
      have h6 := Lib.nDigits_pos (n / 10)
      rw [hq] at this
      simp at this;omega
     | cons x y => rw [hq] at h3;simpa using h3
    ·rw [h3] at h2
     have : decV [48] = 0 := rfl
     omega
theorem nDigits_le : ∀ (k n : Nat),n < 10 ^ (k + 1) → Lib.nDigits n ≤ k + 1
 | 0,n,h => by rw [Lib.nDigits_small (by simpa using h)];exact Nat.le_refl _
 | k + 1,n,h => by
  by_cases h10 : n < 10
  ·rw [Lib.nDigits_small h10];omega
  ·rw [Lib.nDigits_big h10]
   have := nDigits_le k (n / 10) (by rw [Nat.pow_succ] at h;omega)
   omega
def itB (n : Int) : ByteArray := ⟨(Lib.itoa n).toArray⟩
theorem num_it {n : Int} (h0 : 0 ≤ n) (h1 : n ≤ 9999999999) : numOk (itB n).data.toList = true ∧ (decV (itB n).data.toList : Int) = n := by
 obtain ⟨u,rfl⟩ : ∃ u : Nat,n = u := ⟨n.toNat,by omega⟩
 have e : (itB (u : Int)).data.toList = Lib.decDigits u := by show (Lib.itoa (u : Int)).toArray.toList = _;rw [Lib.itoa_nonneg]
 rw [e]
 obtain ⟨k1,k2,k3⟩ := num_dec u
 refine ⟨numOk_of ⟨?_,?_,k1,k3⟩,by rw [k2]⟩
 ·rw [Lib.decDigits_length];exact Lib.nDigits_pos u
 ·rw [Lib.decDigits_length];exact nDigits_le 9 u (by omega)
theorem it_num {s : ByteArray} (h : numOk s.data.toList = true) : itB (decV s.data.toList : Int) = s := by
 unfold itB
 rw [Lib.itoa_nonneg,dig_of_num h]
def numV : List ByteArray → Option (List Int)
 | [] => some []
 | s :: r => if numOk s.data.toList = true then (numV r).map (fun l => (decV s.data.toList : Int) :: l) else none
theorem numV_some : ∀ {l : List ByteArray} {n : List Int},numV l = some n → n.map itB = l
 | [],n,h => by obtain rfl := Option.some.inj h;rfl
 | s :: r,n,h => by
  unfold numV at h
  split at h
  ·rename_i hs
   obtain ⟨m,hm,rfl⟩ := Option.map_eq_some_iff.1 h
   rw [List.map_cons,it_num hs,numV_some hm]
  ·cases h
theorem numV_len : ∀ {l : List ByteArray} {n : List Int},numV l = some n → n.length = l.length := fun h => by
 rw [← numV_some h,List.length_map]

def spl (c : UInt8) : List UInt8 → List (List UInt8)
 | [] => [[]]
 | b :: l => if b = c then [] :: spl c l else match spl c l with
  | x :: r => (b :: x) :: r
  | [] => [[b]]
theorem spl_none {c : UInt8} : ∀ {x : List UInt8},c ∉ x → spl c x = [x]
 | [],_ => rfl
 | b :: x,h => by
  rw [spl,if_neg (show ¬ b = c from fun e => h (e ▸ List.mem_cons_self)),spl_none fun e => h (List.mem_cons_of_mem _ e)]
theorem spl_hit {c : UInt8} (r : List UInt8) : ∀ {x : List UInt8},c ∉ x → spl c (x ++ c :: r) = x :: spl c r
 | [],_ => by rw [List.nil_append,spl,if_pos rfl]
 | b :: x,h => by
  rw [List.cons_append,spl,if_neg (show ¬ b = c from fun e => h (e ▸ List.mem_cons_self)),spl_hit r fun e => h (List.mem_cons_of_mem _ e)]
theorem spl_ne (c : UInt8) : ∀ l : List UInt8,spl c l ≠ []
 | [],h => by simp [spl] at h
 | b :: l,h => by
  unfold spl at h
  split at h
  ·simp at h
  ·split at h <;> simp at h
theorem join_two (x y : List UInt8) (r : List (List UInt8)) (c : UInt8) : Lib.join (x :: y :: r) [c] = x ++ c :: Lib.join (y :: r) [c] := by
 rw [Lib.join_cons,Lib.join_cons]
 simp [Lib.joinTail]
theorem join_spl (c : UInt8) : ∀ l : List UInt8,Lib.join (spl c l) [c] = l
 | [] => rfl
 | b :: l => by
  have ih := join_spl c l
  have hne := spl_ne c l
  rw [spl]
  cases hq : spl c l with
  | nil => exact absurd hq hne
  | cons x r =>
   rw [hq] at ih
   by_cases h : b = c
   ·rw [if_pos h,join_two,ih,h];rfl
   ·rw [if_neg h]
    show Lib.join ((b :: x) :: r) [c] = b :: l
    rw [Lib.join_cons] at ih ⊢
    rw [List.cons_append,ih]
theorem ixb_split {l : List UInt8} {c : UInt8} {i : Nat} (h : Lib.indexByte l c = i) : l = l.take i ++ c :: l.drop (i + 1) ∧ c ∉ l.take i := by
 obtain ⟨h1,h2⟩ := Lib.indexByte_some h
 obtain ⟨hlt,he⟩ := List.getElem?_eq_some_iff.1 h1
 refine ⟨?_,fun hm => ?_⟩
 ·have := List.take_append_drop i l
  rw [List.drop_eq_getElem_cons hlt,he] at this
  exact this.symm
 ·obtain ⟨k,hk⟩ := List.getElem?_of_mem hm
  have hk2 := (List.getElem?_eq_some_iff.1 hk).1
  rw [List.length_take] at hk2
  rw [List.getElem?_take_of_lt (by omega)] at hk
  exact h2 k (by omega) hk
theorem ixb_none {l : List UInt8} {c : UInt8} (h : Lib.indexByte l c = -1) : c ∉ l := fun hm => by
 obtain ⟨k,hk⟩ := List.getElem?_of_mem hm
 exact Lib.indexByte_none h k hk
theorem splitK_spl (c : UInt8) : ∀ (k : Nat) (l : List UInt8),l.count c = k → Lib.splitK [c] 0 k l = spl c l
 | 0,l,h => by
  rw [Lib.splitK,spl_none (List.count_eq_zero.1 h)]
 | k + 1,l,h => by
  rw [Lib.splitK,Lib.index_one]
  have hge := Lib.indexByte_ge l c
  by_cases hm : Lib.indexByte l c = -1
  ·have h0 := List.count_eq_zero.2 (ixb_none hm)
   omega
  ·obtain ⟨i,hi⟩ : ∃ i : Nat,Lib.indexByte l c = i := ⟨(Lib.indexByte l c).toNat,by omega⟩
   have hb : ¬ (Lib.indexByte l c == -1) = true := fun e => hm (beq_iff_eq.1 e)
   rw [if_neg hb,hi]
   show l.take (i + 0) :: Lib.splitK [c] 0 k (l.drop (i + 1)) = _
   obtain ⟨h1,h2⟩ := ixb_split hi
   have hc : (l.drop (i + 1)).count c = k := by
    rw [h1,List.count_append,List.count_cons_self,List.count_eq_zero.2 h2] at h
    omega
   rw [Nat.add_zero,splitK_spl c k _ hc]
   conv => rhs;rw [h1]
   rw [spl_hit _ h2]
theorem splitS_spl (s : ByteArray) (c : UInt8) : (splitS s c).map (·.data.toList) = spl c s.data.toList := by
 unfold splitS
 rw [Lib.splitB_data]
 refine splitK_spl c _ _ ?_
 show s.data.toList.count c = Lib.count s.data.toList [c]
 rw [Lib.count_one]
theorem bytes_ext {a b : ByteArray} (h : a.data.toList = b.data.toList) : a = b := by
 obtain ⟨⟨x⟩⟩ := a
 obtain ⟨⟨y⟩⟩ := b
 have : x = y := h
 rw [this]
def joinW (ws : List ByteArray) : ByteArray := ⟨(Lib.join (ws.map (·.data.toList)) [32]).toArray⟩
theorem join_words (s : ByteArray) : joinW (splitS s 32) = s := by
 apply bytes_ext
 show Lib.join ((splitS s 32).map (·.data.toList)) [32] = _
 rw [splitS_spl,join_spl]
theorem splitS_ne (s : ByteArray) : splitS s 32 ≠ [] := fun e => by
 have := splitS_spl s 32
 rw [e] at this
 exact spl_ne _ _ this.symm
theorem cut_hit {s : ByteArray} {c : UInt8} {x r : List UInt8} (h : s.data.toList = x ++ c :: r) (hx : c ∉ x) : cutS s c = (⟨x.toArray⟩,⟨r.toArray⟩,true) := by
 have hi : ixB s c = x.length := by
  show Lib.indexByte s.data.toList c = x.length
  rw [h]
  have key : ∀ x : List UInt8,c ∉ x → Lib.indexByte (x ++ c :: r) c = x.length := fun x => by
   induction x with
   | nil => intro _;simp [Lib.indexByte]
   | cons b x ih =>
    intro hx
    have h1 := ih fun e => hx (List.mem_cons_of_mem _ e)
    have hb : (b == c) = false := beq_eq_false_iff_ne.2 fun e => hx (e ▸ List.mem_cons_self)
    rw [List.cons_append,Lib.indexByte,hb,h1]
    have h2 : ((x.length : Int) == -1) = false := beq_eq_false_iff_ne.2 (by omega)
    simp only [h2,Bool.false_eq_true,if_false,List.length_cons]
    omega
  exact key x hx
 unfold cutS
 rw [hi,if_pos (by omega)]
 have hsz : s.size = x.length + 1 + r.length := by
  have : s.size = s.data.toList.length := by simp
  rw [this,h,List.length_append,List.length_cons];omega
 have e1 : s.extract 0 ((x.length : Int)).toNat = ⟨x.toArray⟩ := by
  apply bytes_ext
  rw [Int.toNat_natCast,Lib.extract_from_zero,h,List.take_left']
  rfl
 have e2 : s.extract (((x.length : Int)).toNat + 1) s.size = ⟨r.toArray⟩ := by
  apply bytes_ext
  rw [Int.toNat_natCast,Lib.extract_to_end,h,show x ++ c :: r = (x ++ [c]) ++ r by simp,List.drop_left' (by simp)]
 rw [e1,e2]
theorem cut_true {s : ByteArray} {c : UInt8} (h : (cutS s c).2.2 = true) : s.data.toList = (cutS s c).1.data.toList ++ c :: (cutS s c).2.1.data.toList := by
 have hge := (ixB_lt s c).1
 by_cases hi : 0 ≤ ixB s c
 ·obtain ⟨i,hi2⟩ : ∃ i : Nat,ixB s c = i := ⟨(ixB s c).toNat,by omega⟩
  have hs : Lib.indexByte s.data.toList c = i := hi2
  obtain ⟨h1,h2⟩ := ixb_split hs
  rw [cut_hit h1 h2]
  exact h1
 ·unfold cutS at h
  rw [if_neg hi] at h
  cases h
end Go.Proofs.YthniagdphhcnkaaGreatDoor
