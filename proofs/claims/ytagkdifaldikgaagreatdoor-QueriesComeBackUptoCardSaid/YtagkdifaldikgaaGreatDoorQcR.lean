/-
  Queries as text: that a right query is read as it was written (plain Lean). No statement of the seat is proved here; no conditions.
-/
import Derived.Test.YtagkdifaldikgaaGreatDoorQcP
namespace Go.Proofs.YtagkdifaldikgaaGreatDoor
open Go.RowKit Go.Shelf
set_option linter.unusedVariables false
set_option linter.unusedSimpArgs false

def kindQ : QT → Int
 | .mk k _ _ _ => k
def kindAt (ps : List QT) (i : Nat) : Int := match ps[i]? with
 | some q => kindQ q
 | none => 0
def isSumK (k : Int) : Bool := decide (k = 8) || decide (k = 9)
def brk (k kk : Int) (i : Nat) : Bool := (isSumK kk && (decide (k = 10) || decide (i = 1))) || (decide (kk = 10) && (decide (k = 10) && decide (i = 1)))
def heldW (k : Int) (ps : List QT) (T : List (List UInt8)) (i : Nat) : List UInt8 := if brk k (kindAt ps i) i = true then 40 :: (T.getD i [] ++ [41]) else T.getD i []
def txK (k : Int) (t : ByteArray) (n : Int) (ps : List QT) (T : List (List UInt8)) : List UInt8 :=
 if k = 1 then wAll else if k = 2 then t.data.toList
 else if k = 5 then wBetw ++ 40 :: (T.getD 0 [] ++ 44 :: 32 :: (T.getD 1 [] ++ [41]))
 else if k = 6 then wKind ++ 40 :: (t.data.toList ++ 44 :: 32 :: (T.getD 0 [] ++ [41]))
 else if k = 7 then wIn ++ 40 :: (t.data.toList ++ 44 :: 32 :: (T.getD 0 [] ++ [41]))
 else if k = 8 then heldW k ps T 0 ++ 32 :: 43 :: 32 :: heldW k ps T 1
 else if k = 9 then heldW k ps T 0 ++ 32 :: 45 :: 32 :: heldW k ps T 1
 else if k = 10 then heldW k ps T 0 ++ 32 :: 38 :: 32 :: heldW k ps T 1
 else (if k = 4 then wUsers else wNeeds) ++ 40 :: (T.getD 0 [] ++ ((if 0 ≤ n then 44 :: 32 :: (itB n).data.toList else []) ++ [41]))
mutual
def txQ : QT → List UInt8
 | .mk k t n ps => txK k t n ps (txs ps)
def txs : List QT → List (List UInt8)
 | [] => []
 | p :: ps => txQ p :: txs ps
end

theorem isDg_isD {c : UInt8} (h : isD c = true) : isDg c = true := by
 unfold isD at h
 unfold isDg
 simp only [Bool.and_eq_true,decide_eq_true_eq] at h ⊢
 exact ⟨UInt8.le_iff_toNat_le.2 h.1,UInt8.le_iff_toNat_le.2 h.2⟩
theorem num_word {n : Int} (h0 : 0 ≤ n) (h1 : n ≤ 1000) : (itB n).data.toList ≠ [] ∧ (itB n).data.toList.all isDg = true ∧ numW (itB n).data.toList = true ∧ ((decV (itB n).data.toList : Nat) : Int) = n := by
 obtain ⟨u,rfl⟩ : ∃ u : Nat,n = u := ⟨n.toNat,by omega⟩
 have e : (itB (u : Int)).data.toList = Lib.decDigits u := by show (Lib.itoa (u : Int)).toArray.toList = _;rw [Lib.itoa_nonneg]
 rw [e]
 obtain ⟨k1,k2,k3⟩ := num_dec u
 have hl := Lib.decDigits_length u
 have h3 := Lib.nDigits_pos u
 have h4 := nDigits_le 8 u (by omega)
 refine ⟨fun e => by rw [e] at hl;simp at hl;omega,List.all_eq_true.2 fun c hc => isDg_isD (List.all_eq_true.1 k1 c hc),?_,by rw [k2]⟩
 unfold numW
 simp only [Bool.and_eq_true,Bool.or_eq_true,decide_eq_true_eq]
 exact ⟨by omega,by omega,k1,k3⟩
theorem sep_of {c : UInt8} {r : List UInt8} (h : c = 32 ∨ c = 40 ∨ c = 41 ∨ c = 44) : Sep (c :: r) := fun x hx => by
 simp only [List.head?_cons,Option.mem_def,Option.some.injEq] at hx
 subst hx;exact h
theorem toB_back (t : ByteArray) : toB t.data.toList = t := rfl
theorem rd_one {l : List UInt8} {r : QT × List UInt8} (h : ∃ n,oneW (pq n) l = some r) : Rd .one l r := by
 obtain ⟨n,h⟩ := h
 exact ⟨n + 1,h⟩
theorem rd_brk {l l1 : List UInt8} {q : QT} (h : Rd .sum l (q,l1)) (h1 : wrd l1 = [41]) : Rd .one (40 :: l) (q,rst l1) := by
 obtain ⟨n,h⟩ := h
 obtain ⟨w1,w2⟩ := wr_sign (c := 40) l (by decide)
 refine rd_one ⟨n,?_⟩
 unfold oneW
 rw [if_pos w1,w2,h]
 show (if wrd l1 = [41] then _ else _) = _
 rw [if_pos h1]
theorem rd_fun {W X l2 l3 l4 : List UInt8} {k : Int} {t : ByteArray} {a : QT} {n : Int} {ps : List QT} (hW : kindW W = k) (hk : 3 ≤ k) (hs : ∀ rest,Sep rest → wrd (W ++ rest) = W ∧ rst (W ++ rest) = rest)
  (hh : headW k X = some (t,l2)) (ha : Rd .sum l2 (a,l3)) (ht : ∃ m,tailW (pq m) k a l3 = some ((n,ps),l4)) (h4 : wrd l4 = [41]) : Rd .one (W ++ 40 :: X) (.mk k t n ps,rst l4) := by
 obtain ⟨m1,ha⟩ := ha
 obtain ⟨m2,ht⟩ := ht
 obtain ⟨w1,w2⟩ := hs (40 :: X) (sep_of (.inr (.inl rfl)))
 obtain ⟨w3,w4⟩ := wr_sign (c := 40) X (by decide)
 refine rd_one ⟨max m1 m2,?_⟩
 unfold oneW
 have hne : W ≠ [40] := fun e => (by subst e;have h9 := (show kindW [40] = 0 by decide);omega)
 rw [w1,w2,if_neg hne,hW,if_neg (by omega),if_neg (by omega),if_pos w3,w4,hh]
 simp only [Option.bind_some]
 rw [pq_le (Nat.le_max_left m1 m2) _ _ _ ha]
 simp only [Option.bind_some]
 rw [tail_le (pq_le (Nat.le_max_right m1 m2)) ht]
 simp only [Option.bind_some]
 rw [if_pos h4]
theorem lt_word {W : List UInt8} {c : UInt8} (h : W.head? = some c) (hd : isDg c = false) (ha : W.all isSm = true) : ∀ rest,Sep rest → wrd (W ++ rest) = W ∧ rst (W ++ rest) = rest := fun rest hr => wr_sm hr h hd ha
structure Wd : Prop where
 lab : ∀ t : ByteArray,isWholeV t = true → (∃ r,t.data.toList = 47 :: 47 :: r) ∧ t.data.toList.all isLb = true
 pat : ∀ t : ByteArray,isPatV t = true → (∃ r,t.data.toList = 47 :: 47 :: r) ∧ t.data.toList.all isLb = true
 nam : ∀ t : ByteArray,isNameV t = true → ∃ c,t.data.toList.head? = some c ∧ isDg c = false ∧ t.data.toList.all isSm = true
structure RtQ (q : QT) : Prop where
 s : ∀ rest,Sep rest → wrd rest ≠ [38] → ∀ r,Rd (.sumL q) (skp rest) r → Rd .sum (txQ q ++ rest) r
 b : isSumK (kindQ q) = false → ∀ rest,Sep rest → ∀ r,Rd (.bothL q) rest r → Rd .both (txQ q ++ rest) r
 o : isSumK (kindQ q) = false → kindQ q ≠ 10 → ∀ rest,Sep rest → Rd .one (txQ q ++ rest) (q,rest)
theorem RtQ.arg {q : QT} (h : RtQ q) {c : UInt8} {rest : List UInt8} (hc : c = 41 ∨ c = 44) : Rd .sum (txQ q ++ c :: rest) (q,c :: rest) := by
 have hw := wr_sign (c := c) rest (by rcases hc with rfl | rfl <;> decide)
 have h32 : c ≠ 32 := by rcases hc with rfl | rfl <;> decide
 have e := skp_ne (l := rest) h32
 refine h.s _ (sep_of (by rcases hc with rfl | rfl <;> simp)) (by rw [hw.1];rcases hc with rfl | rfl <;> decide) _ ?_
 rw [e]
 have := rd_sumE (l := c :: rest) (q := q) (by rw [hw.1];rcases hc with rfl | rfl <;> decide) (by rw [hw.1];rcases hc with rfl | rfl <;> decide)
 rwa [e] at this
theorem RtQ.brk {q : QT} (h : RtQ q) (rest : List UInt8) : Rd .one (40 :: (txQ q ++ [41]) ++ rest) (q,rest) := by
 have h1 := h.arg (c := 41) (rest := rest) (.inl rfl)
 have h2 := wr_sign (c := 41) rest (by decide)
 have := rd_brk h1 h2.1
 rw [h2.2] at this
 simpa using this
theorem held_one {k : Int} {ps : List QT} {q : QT} {i : Nat} {T : List (List UInt8)} (hq : ps[i]? = some q) (hT : T.getD i [] = txQ q) (h : RtQ q) (hk : k = 10 ∧ i = 1) {rest : List UInt8} (hr : Sep rest) : Rd .one (heldW k ps T i ++ rest) (q,rest) := by
 unfold heldW
 rw [hT,show kindAt ps i = kindQ q by unfold kindAt;rw [hq]]
 by_cases hb : Go.Proofs.YtagkdifaldikgaaGreatDoor.brk k (kindQ q) i = true
 ·rw [if_pos hb];exact h.brk rest
 ·rw [if_neg hb]
  unfold Go.Proofs.YtagkdifaldikgaaGreatDoor.brk at hb
  obtain ⟨rfl,rfl⟩ := hk
  simp at hb
  exact h.o (by simpa using hb.1) hb.2 rest hr
theorem held_both {k : Int} {ps : List QT} {q : QT} {i : Nat} {T : List (List UInt8)} (hq : ps[i]? = some q) (hT : T.getD i [] = txQ q) (h : RtQ q) (hk : k = 10 ∨ i = 1) {rest : List UInt8} (hr : Sep rest) {r : QT × List UInt8} (hl : Rd (.bothL q) rest r) : Rd .both (heldW k ps T i ++ rest) r := by
 unfold heldW
 rw [hT,show kindAt ps i = kindQ q by unfold kindAt;rw [hq]]
 by_cases hb : Go.Proofs.YtagkdifaldikgaaGreatDoor.brk k (kindQ q) i = true
 ·rw [if_pos hb];exact rd_both (h.brk rest) hl
 ·rw [if_neg hb]
  refine h.b ?_ rest hr r hl
  cases hs : isSumK (kindQ q) with
  | false => rfl
  | true =>
   exact absurd (show Go.Proofs.YtagkdifaldikgaaGreatDoor.brk k (kindQ q) i = true by
    unfold Go.Proofs.YtagkdifaldikgaaGreatDoor.brk
    rw [hs]
    rcases hk with rfl | rfl <;> simp) hb
theorem txs_at : ∀ {ps : List QT} {i : Nat} {q : QT},ps[i]? = some q → (txs ps).getD i [] = txQ q
 | [],i,q,h => by simp at h
 | p :: ps,0,q,h => by simp at h;subst h;simp [txs]
 | p :: ps,i + 1,q,h => by
  have := txs_at (ps := ps) (i := i) (by simpa using h)
  simpa [txs] using this
end Go.Proofs.YtagkdifaldikgaaGreatDoor
