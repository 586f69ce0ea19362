/-
  Numbers as they are written and read (plain Lean). No statement of the seat is proved here; no conditions.
-/
import Derived.Test.YtagkdifaldikgaaGreatDoorEngS
import Derived.Lib.Atoi
import Derived.Lib.ItoaMem
import Derived.Lib.Join
import Derived.Test.YtagkdifaldikgaaGreatDoorQrA
namespace Go.Proofs.YtagkdifaldikgaaGreatDoor
open Go.RowKit
set_option linter.unusedVariables false
set_option linter.unusedSimpArgs false
set_option maxRecDepth 100000

def isD (b : UInt8) : Bool := decide (48 ≤ b.toNat) && decide (b.toNat ≤ 57)
def decV (l : List UInt8) : Nat := l.foldl (fun a b => a * 10 + (b.toNat - 48)) 0
def numOk (l : List UInt8) : Bool := decide (1 ≤ l.length) && (decide (l.length ≤ 10) && (l.all isD && (decide (l.head? ≠ some 48) || decide (l = [48]))))
theorem isD_val {b : UInt8} (h : isD b = true) : Lib.digitVal b = some (b.toNat - 48) := by
 unfold isD at h
 rw [Bool.and_eq_true,decide_eq_true_eq,decide_eq_true_eq] at h
 unfold Lib.digitVal
 rw [if_pos h]
theorem decFrom_all : ∀ (l : List UInt8) (acc : Nat),l.all isD = true → Lib.decFrom acc l = some (l.foldl (fun a b => a * 10 + (b.toNat - 48)) acc)
 | [],acc,_ => rfl
 | b :: l,acc,h => by
  rw [List.all_cons,Bool.and_eq_true] at h
  rw [Lib.decFrom,isD_val h.1]
  exact decFrom_all l _ h.2
theorem numOk_parts {l : List UInt8} (h : numOk l = true) : 1 ≤ l.length ∧ l.length ≤ 10 ∧ l.all isD = true ∧ (l.head? ≠ some 48 ∨ l = [48]) := by
 unfold numOk at h
 rw [Bool.and_eq_true,Bool.and_eq_true,Bool.and_eq_true,Bool.or_eq_true,decide_eq_true_eq,decide_eq_true_eq,decide_eq_true_eq,decide_eq_true_eq] at h
 exact h
theorem atoi_num {l : List UInt8} (h : numOk l = true) : Lib.atoi l = some (decV l : Int) := by
 obtain ⟨h1,_,h3,_⟩ := numOk_parts h
 cases l with
 | nil => simp at h1
 | cons b r =>
  have hb : isD b = true := by rw [List.all_cons,Bool.and_eq_true] at h3;exact h3.1
  unfold isD at hb
  rw [Bool.and_eq_true,decide_eq_true_eq,decide_eq_true_eq] at hb
  have n45 : (b == 45) = false := by
   rw [beq_eq_false_iff_ne];intro e;subst e;exact absurd hb.1 (by decide)
  have n43 : (b == 43) = false := by
   rw [beq_eq_false_iff_ne];intro e;subst e;exact absurd hb.1 (by decide)
  unfold Lib.atoi
  simp only [n45,n43,Bool.false_eq_true,if_false]
  unfold Lib.decNat
  rw [decFrom_all _ _ h3]
  rfl
theorem toNat_dig {d : Nat} (h : d < 10) : (UInt8.ofNat (48 + d)).toNat = 48 + d := by
 rw [UInt8.toNat_ofNat_of_lt' (by show 48 + d < 256;omega)]
theorem num_dec (n : Nat) : (Lib.decDigits n).all isD = true ∧ decV (Lib.decDigits n) = n ∧ ((Lib.decDigits n).head? ≠ some 48 ∨ Lib.decDigits n = [48]) := by
 induction n using Nat.strongRecOn with
 | _ n ih =>
  have hd1 : ∀ d,d < 10 → isD (UInt8.ofNat (48 + d)) = true := fun d hd => by
   unfold isD
   rw [toNat_dig hd,Bool.and_eq_true,decide_eq_true_eq,decide_eq_true_eq];omega
  by_cases h : n < 10
  ·rw [Lib.decDigits_one h]
   refine ⟨by rw [List.all_cons,hd1 n h];rfl,?_,?_⟩
   ·show 0 * 10 + ((UInt8.ofNat (48 + n)).toNat - 48) = n
    rw [toNat_dig h];omega
   ·by_cases h0 : n = 0
    ·subst h0;exact .inr rfl
    ·left
     intro e
     have e1 : UInt8.ofNat (48 + n) = 48 := by simpa using e
     have := congrArg UInt8.toNat e1
     rw [toNat_dig h] at this
     have h48 : (48 : UInt8).toNat = 48 := rfl
     omega
  ·obtain ⟨h1,h2,h3⟩ := ih (n / 10) (by omega)
   have e : Lib.decDigits n = Lib.decDigits (n / 10) ++ [UInt8.ofNat (48 + n % 10)] := by rw [Lib.decDigits,dif_neg h]
   have hm : n % 10 < 10 := Nat.mod_lt _ (by decide)
   rw [e]
   refine ⟨by rw [List.all_append,h1,List.all_cons,hd1 _ hm];rfl,?_,.inl ?_⟩
   ·show decV (Lib.decDigits (n / 10) ++ [UInt8.ofNat (48 + n % 10)]) = n
    unfold decV at h2 ⊢
    rw [List.foldl_append,h2]
    show n / 10 * 10 + ((UInt8.ofNat (48 + n % 10)).toNat - 48) = n
    rw [toNat_dig hm];omega
   ·rcases h3 with h3 | h3
    ·cases hq : Lib.decDigits (n / 10) with
     | nil =>
      have := Lib.decDigits_length (n / 10)
      have h6 := Lib.nDigits_pos (n / 10)
      rw [hq] at this
      simp at this;omega
     | cons x y => rw [hq] at h3;simpa using h3
    ·rw [h3] at h2
     have : decV [48] = 0 := rfl
     omega
theorem nDigits_le : ∀ (k n : Nat),n < 10 ^ (k + 1) → Lib.nDigits n ≤ k + 1
 | 0,n,h => by rw [Lib.nDigits_small (by simpa using h)];exact Nat.le_refl _
 | k + 1,n,h => by
  by_cases h10 : n < 10
  ·rw [Lib.nDigits_small h10];omega
  ·rw [Lib.nDigits_big h10]
   have := nDigits_le k (n / 10) (by rw [Nat.pow_succ] at h;omega)
   omega
def itB (n : Int) : ByteArray := ⟨(Lib.itoa n).toArray⟩
theorem bytes_ext {a b : ByteArray} (h : a.data.toList = b.data.toList) : a = b := by
 obtain ⟨⟨x⟩⟩ := a
 obtain ⟨⟨y⟩⟩ := b
 have : x = y := h
 rw [this]
end Go.Proofs.YtagkdifaldikgaaGreatDoor
namespace Go.Proofs.YtagkdifaldikgaaGreatDoor
open Go.RowKit Go.Shelf
set_option linter.unusedVariables false
set_option linter.unusedSimpArgs false

def isSm (c : UInt8) : Bool := (decide (97 ≤ c) && decide (c ≤ 122)) || (decide (48 ≤ c) && decide (c ≤ 57)) || decide (c = 95)
def isDg (c : UInt8) : Bool := decide (48 ≤ c) && decide (c ≤ 57)
def isLb (c : UInt8) : Bool := isSm c || (decide (65 ≤ c) && decide (c ≤ 90)) || decide (c ∈ ([47,58,46,45,43] : List UInt8))
def tokN : List UInt8 → Nat
 | [] => 0
 | c :: r => if c = 47 ∧ r.head? = some 47 then ((c :: r).takeWhile isLb).length else if isDg c = true then ((c :: r).takeWhile isDg).length else if isSm c = true then ((c :: r).takeWhile isSm).length else 1
def skp (l : List UInt8) : List UInt8 := l.dropWhile fun c => decide (c = 32)
def wrd (l : List UInt8) : List UInt8 := (skp l).take (tokN (skp l))
def rst (l : List UInt8) : List UInt8 := (skp l).drop (tokN (skp l))
theorem skp_sp (l : List UInt8) : skp (32 :: l) = skp l := by simp [skp]
theorem skp_ne {c : UInt8} {l : List UInt8} (h : c ≠ 32) : skp (c :: l) = c :: l := by simp [skp,h]
theorem skp_skp : ∀ l : List UInt8,skp (skp l) = skp l
 | [] => rfl
 | c :: l => by
  by_cases h : c = 32
  ·subst h;rw [skp_sp,skp_skp l]
  ·rw [skp_ne h,skp_ne h]
theorem wrd_sp (l : List UInt8) : wrd (32 :: l) = wrd l := by simp only [wrd,skp_sp]
theorem rst_sp (l : List UInt8) : rst (32 :: l) = rst l := by simp only [rst,skp_sp]
theorem wrd_skp (l : List UInt8) : wrd (skp l) = wrd l := by simp only [wrd,skp_skp]
theorem rst_skp (l : List UInt8) : rst (skp l) = rst l := by simp only [rst,skp_skp]
def Sep (l : List UInt8) : Prop := ∀ c ∈ l.head?,c = 32 ∨ c = 40 ∨ c = 41 ∨ c = 44
theorem tw_app {p : UInt8 → Bool} {t rest : List UInt8} (ht : t.all p = true) (hr : ∀ c ∈ rest.head?,p c = false) : (t ++ rest).takeWhile p = t := by
 induction t with
 | nil =>
  cases rest with
  | nil => rfl
  | cons c r => simp [List.takeWhile,hr c (by simp)]
 | cons x t ih =>
  simp only [List.all_cons,Bool.and_eq_true] at ht
  rw [List.cons_append,List.takeWhile_cons,ht.1,if_pos rfl,ih ht.2]
theorem sep_lb {rest : List UInt8} (h : Sep rest) : ∀ c ∈ rest.head?,isLb c = false := fun c hc => by
 rcases h c hc with rfl | rfl | rfl | rfl <;> decide
theorem sep_sm {rest : List UInt8} (h : Sep rest) : ∀ c ∈ rest.head?,isSm c = false := fun c hc => by
 rcases h c hc with rfl | rfl | rfl | rfl <;> decide
theorem sep_dg {rest : List UInt8} (h : Sep rest) : ∀ c ∈ rest.head?,isDg c = false := fun c hc => by
 rcases h c hc with rfl | rfl | rfl | rfl <;> decide
theorem wr_of {t rest : List UInt8} (hs : skp (t ++ rest) = t ++ rest) (hn : tokN (t ++ rest) = t.length) : wrd (t ++ rest) = t ∧ rst (t ++ rest) = rest := by
 unfold wrd rst
 rw [hs,hn]
 simp
theorem wr_lb {t rest : List UInt8} (h : Sep rest) (h2 : ∃ r,t = 47 :: 47 :: r) (ha : t.all isLb = true) : wrd (t ++ rest) = t ∧ rst (t ++ rest) = rest := by
 obtain ⟨r,rfl⟩ := h2
 refine wr_of (skp_ne (by decide)) ?_
 show tokN (47 :: 47 :: (r ++ rest)) = _
 rw [tokN,if_pos ⟨rfl,rfl⟩]
 exact congrArg List.length (tw_app (t := 47 :: 47 :: r) ha (sep_lb h))
theorem wr_dg {t rest : List UInt8} (h : Sep rest) (h2 : t ≠ []) (ha : t.all isDg = true) : wrd (t ++ rest) = t ∧ rst (t ++ rest) = rest := by
 cases t with
 | nil => exact absurd rfl h2
 | cons c t =>
  have hc : isDg c = true := by simp only [List.all_cons,Bool.and_eq_true] at ha;exact ha.1
  have h47 : c ≠ 47 := fun e => by subst e;exact absurd hc (by decide)
  have h32 : c ≠ 32 := fun e => by subst e;exact absurd hc (by decide)
  refine wr_of (skp_ne h32) ?_
  show tokN (c :: (t ++ rest)) = _
  rw [tokN,if_neg (fun e => h47 e.1),if_pos hc]
  exact congrArg List.length (tw_app (t := c :: t) ha (sep_dg h))
theorem wr_sm {t rest : List UInt8} (h : Sep rest) {c : UInt8} (h2 : t.head? = some c) (hd : isDg c = false) (ha : t.all isSm = true) : wrd (t ++ rest) = t ∧ rst (t ++ rest) = rest := by
 cases t with
 | nil => cases h2
 | cons c' t =>
  obtain rfl : c' = c := by simpa using h2
  have hc : isSm c' = true := by simp only [List.all_cons,Bool.and_eq_true] at ha;exact ha.1
  have h47 : c' ≠ 47 := fun e => by subst e;exact absurd hc (by decide)
  have h32 : c' ≠ 32 := fun e => by subst e;exact absurd hc (by decide)
  refine wr_of (skp_ne h32) ?_
  show tokN (c' :: (t ++ rest)) = _
  rw [tokN,if_neg (fun e => h47 e.1),if_neg (by rw [hd];decide),if_pos hc]
  exact congrArg List.length (tw_app (t := c' :: t) ha (sep_sm h))
theorem wr_sign {c : UInt8} (rest : List UInt8) (h : c ∈ ([40,41,44,43,45,38] : List UInt8)) : wrd (c :: rest) = [c] ∧ rst (c :: rest) = rest := by
 have h1 : c ≠ 32 ∧ c ≠ 47 ∧ isDg c = false ∧ isSm c = false := by
  simp only [List.mem_cons,List.not_mem_nil,or_false] at h
  rcases h with rfl | rfl | rfl | rfl | rfl | rfl <;> decide
 refine wr_of (t := [c]) (skp_ne h1.1) ?_
 show tokN (c :: rest) = 1
 rw [tokN,if_neg (fun e => h1.2.1 e.1),if_neg (by rw [h1.2.2.1];decide),if_neg (by rw [h1.2.2.2];decide)]

inductive Lv where
 | one
 | both
 | bothL (q : QT)
 | sum
 | sumL (q : QT)
def wAll : List UInt8 := [97,108,108]
def wNeeds : List UInt8 := [110,101,101,100,115]
def wUsers : List UInt8 := [117,115,101,114,115]
def wBetw : List UInt8 := [98,101,116,119,101,101,110]
def wKind : List UInt8 := [107,105,110,100]
def wIn : List UInt8 := [105,110]
def kindW (w : List UInt8) : Int := if w = wAll then 1 else if w = wNeeds then 3 else if w = wUsers then 4 else if w = wBetw then 5 else if w = wKind then 6 else if w = wIn then 7 else 0
def nil0 : ByteArray := ⟨#[]⟩
def toB (l : List UInt8) : ByteArray := ⟨l.toArray⟩
def numW (l : List UInt8) : Bool := decide (1 ≤ l.length) && (decide (l.length ≤ 9) && (l.all isD && (decide (l.head? ≠ some 48) || decide (l = [48]))))
abbrev Rdr := Lv → List UInt8 → Option (QT × List UInt8)
def headW (k : Int) (l : List UInt8) : Option (ByteArray × List UInt8) :=
 if k = 6 then if isNameV (toB (wrd l)) = true ∧ wrd (rst l) = [44] then some (toB (wrd l),rst (rst l)) else none
 else if k = 7 then if isPatV (toB (wrd l)) = true ∧ wrd (rst l) = [44] then some (toB (wrd l),rst (rst l)) else none
 else some (nil0,l)
def tailW (f : Rdr) (k : Int) (q : QT) (l : List UInt8) : Option ((Int × List QT) × List UInt8) :=
 if k = 5 then if wrd l = [44] then (f .sum (rst l)).bind fun x => some ((0,[q,x.1]),x.2) else none
 else if k = 3 ∨ k = 4 then if wrd l = [44] then if numW (wrd (rst l)) = true then some (((decV (wrd (rst l)) : Nat),[q]),rst (rst l)) else none else some ((-1,[q]),skp l)
 else some ((0,[q]),l)
def oneW (f : Rdr) (l : List UInt8) : Option (QT × List UInt8) :=
 if wrd l = [40] then (f .sum (rst l)).bind fun x => if wrd x.2 = [41] then some (x.1,rst x.2) else none
 else if kindW (wrd l) = 0 then if isWholeV (toB (wrd l)) = true then some (.mk 2 (toB (wrd l)) 0 [],rst l) else none
 else if kindW (wrd l) = 1 then some (.mk 1 nil0 0 [],rst l)
 else if wrd (rst l) = [40] then
  (headW (kindW (wrd l)) (rst (rst l))).bind fun h => (f .sum h.2).bind fun x => (tailW f (kindW (wrd l)) x.1 x.2).bind fun y =>
   if wrd y.2 = [41] then some (.mk (kindW (wrd l)) h.1 y.1.1 y.1.2,rst y.2) else none
 else none
def stepW (f : Rdr) : Rdr
 | .one,l => oneW f l
 | .both,l => (f .one l).bind fun x => f (.bothL x.1) x.2
 | .bothL q,l => if wrd l = [38] then (f .one (rst l)).bind fun x => f (.bothL (.mk 10 nil0 0 [q,x.1])) x.2 else some (q,skp l)
 | .sum,l => (f .both l).bind fun x => f (.sumL x.1) x.2
 | .sumL q,l => if wrd l = [43] then (f .both (rst l)).bind fun x => f (.sumL (.mk 8 nil0 0 [q,x.1])) x.2
  else if wrd l = [45] then (f .both (rst l)).bind fun x => f (.sumL (.mk 9 nil0 0 [q,x.1])) x.2 else some (q,skp l)
def pq : Nat → Rdr
 | 0 => fun _ _ => none
 | n + 1 => stepW (pq n)
def LeR (f g : Rdr) : Prop := ∀ lv l r,f lv l = some r → g lv l = some r
theorem bind_le {f g : Rdr} (h : LeR f g) {lv : Lv} {l : List UInt8} {β : Type} {u v : QT × List UInt8 → Option β} (hu : ∀ x r,u x = some r → v x = some r) {r : β} (h1 : (f lv l).bind u = some r) : (g lv l).bind v = some r := by
 obtain ⟨x,h2,h3⟩ := Option.bind_eq_some_iff.1 h1
 rw [h _ _ _ h2]
 exact hu x r h3
theorem tail_le {f g : Rdr} (h : LeR f g) {k : Int} {q : QT} {l : List UInt8} {r : (Int × List QT) × List UInt8} (h1 : tailW f k q l = some r) : tailW g k q l = some r := by
 unfold tailW at h1 ⊢
 by_cases h2 : k = 5
 ·rw [if_pos h2] at h1 ⊢
  by_cases h3 : wrd l = [44]
  ·rw [if_pos h3] at h1 ⊢
   exact bind_le h (fun _ _ e => e) h1
  ·rw [if_neg h3] at h1;cases h1
 ·rw [if_neg h2] at h1 ⊢;exact h1
theorem one_le {f g : Rdr} (h : LeR f g) {l : List UInt8} {r : QT × List UInt8} (h1 : oneW f l = some r) : oneW g l = some r := by
 unfold oneW at h1 ⊢
 by_cases h2 : wrd l = [40]
 ·rw [if_pos h2] at h1 ⊢
  exact bind_le h (fun _ _ e => e) h1
 ·rw [if_neg h2] at h1 ⊢
  by_cases h3 : kindW (wrd l) = 0
  ·rw [if_pos h3] at h1 ⊢;exact h1
  ·rw [if_neg h3] at h1 ⊢
   by_cases h4 : kindW (wrd l) = 1
   ·rw [if_pos h4] at h1 ⊢;exact h1
   ·rw [if_neg h4] at h1 ⊢
    by_cases h5 : wrd (rst l) = [40]
    ·rw [if_pos h5] at h1 ⊢
     obtain ⟨x,e1,e2⟩ := Option.bind_eq_some_iff.1 h1
     rw [e1]
     refine bind_le h (fun y r e => ?_) e2
     obtain ⟨z,e3,e4⟩ := Option.bind_eq_some_iff.1 e
     rw [tail_le h e3]
     exact e4
    ·rw [if_neg h5] at h1;cases h1
theorem step_le {f g : Rdr} (h : LeR f g) : LeR (stepW f) (stepW g) := fun lv l r h1 => by
 cases lv with
 | one => exact one_le h h1
 | both => exact bind_le h (fun x r e => h _ _ _ e) h1
 | sum => exact bind_le h (fun x r e => h _ _ _ e) h1
 | bothL q =>
  simp only [stepW] at h1 ⊢
  split at h1
  ·rename_i h2
   rw [if_pos h2]
   exact bind_le h (fun x r e => h _ _ _ e) h1
  ·rename_i h2
   rw [if_neg h2];exact h1
 | sumL q =>
  simp only [stepW] at h1 ⊢
  split at h1
  ·rename_i h2
   rw [if_pos h2]
   exact bind_le h (fun x r e => h _ _ _ e) h1
  ·rename_i h2
   rw [if_neg h2]
   split at h1
   ·rename_i h3
    rw [if_pos h3]
    exact bind_le h (fun x r e => h _ _ _ e) h1
   ·rename_i h3
    rw [if_neg h3];exact h1
theorem pq_succ : ∀ n,LeR (pq n) (pq (n + 1))
 | 0 => fun _ _ _ h => by cases h
 | n + 1 => step_le (pq_succ n)
theorem pq_le {n m : Nat} (h : n ≤ m) : LeR (pq n) (pq m) := by
 induction h with
 | refl => exact fun _ _ _ h => h
 | step _ ih => exact fun lv l r h => pq_succ _ lv l r (ih lv l r h)
def Rd (lv : Lv) (l : List UInt8) (r : QT × List UInt8) : Prop := ∃ n,pq n lv l = some r
theorem rd_two {lv lv' : Lv} {l l' : List UInt8} {r r' : QT × List UInt8} (h : Rd lv l r) (h' : Rd lv' l' r') : ∃ n,pq n lv l = some r ∧ pq n lv' l' = some r' := by
 obtain ⟨n,h1⟩ := h
 obtain ⟨m,h2⟩ := h'
 exact ⟨max n m,pq_le (Nat.le_max_left _ _) _ _ _ h1,pq_le (Nat.le_max_right _ _) _ _ _ h2⟩
theorem rd_both {l l1 : List UInt8} {q : QT} {r : QT × List UInt8} (h : Rd .one l (q,l1)) (h' : Rd (.bothL q) l1 r) : Rd .both l r := by
 obtain ⟨n,h1,h2⟩ := rd_two h h'
 exact ⟨n + 1,by show (pq n .one l).bind _ = _;rw [h1];exact h2⟩
theorem rd_sum {l l1 : List UInt8} {q : QT} {r : QT × List UInt8} (h : Rd .both l (q,l1)) (h' : Rd (.sumL q) l1 r) : Rd .sum l r := by
 obtain ⟨n,h1,h2⟩ := rd_two h h'
 exact ⟨n + 1,by show (pq n .both l).bind _ = _;rw [h1];exact h2⟩
theorem rd_bothL {l : List UInt8} {q q' : QT} {l1 : List UInt8} {r : QT × List UInt8} (hw : wrd l = [38]) (h : Rd .one (rst l) (q',l1)) (h' : Rd (.bothL (.mk 10 nil0 0 [q,q'])) l1 r) : Rd (.bothL q) l r := by
 obtain ⟨n,h1,h2⟩ := rd_two h h'
 exact ⟨n + 1,by show (if wrd l = [38] then _ else _) = _;rw [if_pos hw,h1];exact h2⟩
theorem rd_bothE {l : List UInt8} {q : QT} (hw : wrd l ≠ [38]) : Rd (.bothL q) l (q,skp l) := ⟨1,by show (if wrd l = [38] then _ else _) = _;rw [if_neg hw]⟩
theorem rd_plus {l : List UInt8} {q q' : QT} {l1 : List UInt8} {r : QT × List UInt8} (hw : wrd l = [43]) (h : Rd .both (rst l) (q',l1)) (h' : Rd (.sumL (.mk 8 nil0 0 [q,q'])) l1 r) : Rd (.sumL q) l r := by
 obtain ⟨n,h1,h2⟩ := rd_two h h'
 exact ⟨n + 1,by show (if wrd l = [43] then _ else _) = _;rw [if_pos hw,h1];exact h2⟩
theorem rd_minus {l : List UInt8} {q q' : QT} {l1 : List UInt8} {r : QT × List UInt8} (hw : wrd l = [45]) (h : Rd .both (rst l) (q',l1)) (h' : Rd (.sumL (.mk 9 nil0 0 [q,q'])) l1 r) : Rd (.sumL q) l r := by
 obtain ⟨n,h1,h2⟩ := rd_two h h'
 exact ⟨n + 1,by show (if wrd l = [43] then _ else if wrd l = [45] then _ else _) = _;rw [if_neg (by rw [hw];decide),if_pos hw,h1];exact h2⟩
theorem rd_sumE {l : List UInt8} {q : QT} (hw : wrd l ≠ [43]) (hw2 : wrd l ≠ [45]) : Rd (.sumL q) l (q,skp l) :=
 ⟨1,by show (if wrd l = [43] then _ else if wrd l = [45] then _ else _) = _;rw [if_neg hw,if_neg hw2]⟩
theorem pq_one_sp (n : Nat) (l : List UInt8) : pq n .one (32 :: l) = pq n .one l := by
 cases n with
 | zero => rfl
 | succ n => show oneW _ _ = oneW _ _;simp only [oneW,wrd_sp,rst_sp]
theorem pq_both_sp (n : Nat) (l : List UInt8) : pq n .both (32 :: l) = pq n .both l := by
 cases n with
 | zero => rfl
 | succ n => show (pq n .one _).bind _ = (pq n .one _).bind _;rw [pq_one_sp]
theorem pq_sum_sp (n : Nat) (l : List UInt8) : pq n .sum (32 :: l) = pq n .sum l := by
 cases n with
 | zero => rfl
 | succ n => show (pq n .both _).bind _ = (pq n .both _).bind _;rw [pq_both_sp]
theorem rd_one_sp {l : List UInt8} {r : QT × List UInt8} (h : Rd .one l r) : Rd .one (32 :: l) r := by
 obtain ⟨n,h⟩ := h
 exact ⟨n,by rw [pq_one_sp];exact h⟩
theorem rd_both_sp {l : List UInt8} {r : QT × List UInt8} (h : Rd .both l r) : Rd .both (32 :: l) r := by
 obtain ⟨n,h⟩ := h
 exact ⟨n,by rw [pq_both_sp];exact h⟩
theorem rd_sum_sp {l : List UInt8} {r : QT × List UInt8} (h : Rd .sum l r) : Rd .sum (32 :: l) r := by
 obtain ⟨n,h⟩ := h
 exact ⟨n,by rw [pq_sum_sp];exact h⟩
end Go.Proofs.YtagkdifaldikgaaGreatDoor
