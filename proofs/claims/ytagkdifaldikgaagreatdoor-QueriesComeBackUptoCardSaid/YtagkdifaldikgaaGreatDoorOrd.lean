/-
  The order of strings, sorted lists, binary searches: plain laws. No statement of the seat is proved here; no conditions.
-/
import Derived.Test.YtagkdifaldikgaaGreatDoorEngV
import Derived.Test.YtagkdifaldikgaaGreatDoorRun
import Derived.Shelf.Small.Strs
namespace Go.Proofs.YtagkdifaldikgaaGreatDoor
open Go.RowKit
open Go.RowKit Go.Shelf
set_option linter.unusedVariables false
set_option linter.unusedSimpArgs false

abbrev bs (l : List UInt8) : ByteArray := ⟨l.toArray⟩
section
variable {α : Type} {p : α → Bool} {l m : List α} {i j : Nat} {x : α}
end
def leS (a b : ByteArray) : Bool := strLt a b || decide (a = b)
def cmpB (a b : ByteArray) : Int := Lib.compareBytes a.data.toList b.data.toList
def bsIdx {α : Type} (cf : α → Int) (l : List α) : Nat := l.countP fun x => decide (cf x < 0)
def bsHit {α : Type} (cf : α → Int) (l : List α) : Bool := match l[bsIdx cf l]? with
 | some x => decide (cf x = 0)
 | none => false
theorem bsIdx_eq {α : Type} {cf : α → Int} {l : List α} {i : Nat} (hi : i ≤ l.length) (h1 : ∀ (m : Nat) x,m < i → l[m]? = some x → cf x < 0) (h2 : ∀ (m : Nat) x,i ≤ m → l[m]? = some x → ¬ cf x < 0) : bsIdx cf l = i := by
 unfold bsIdx
 have e : l = l.take i ++ l.drop i := (List.take_append_drop i l).symm
 rw [e,List.countP_append,List.countP_eq_length.2,List.countP_eq_zero.2]
 ·rw [List.length_take];omega
 ·intro x hx
  obtain ⟨m,hm⟩ := List.mem_iff_getElem?.1 hx
  rw [List.getElem?_drop] at hm
  simpa using h2 _ x (by omega) hm
 ·intro x hx
  obtain ⟨m,hm⟩ := List.mem_iff_getElem?.1 hx
  have hlt : m < i := by have := (List.getElem?_eq_some_iff.1 hm).1;rw [List.length_take] at this;omega
  rw [List.getElem?_take_of_lt hlt] at hm
  simpa using h1 m x hlt hm
theorem bl_irrefl : ∀ a : List UInt8,Op.bytesLess a a = false
 | [] => rfl
 | a :: l => by simp [Op.bytesLess,bl_irrefl l]
theorem bl_trans : ∀ {a b c : List UInt8},Op.bytesLess a b = true → Op.bytesLess b c = true → Op.bytesLess a c = true
 | _,[],c,h,_ => by cases ‹List UInt8› <;> simp [Op.bytesLess] at h
 | _,_ :: _,[],_,h => by simp [Op.bytesLess] at h
 | [],_ :: _,_ :: _,_,_ => rfl
 | a :: x,b :: y,c :: z,h1,h2 => by
  simp only [Op.bytesLess,Bool.or_eq_true,decide_eq_true_eq,Bool.and_eq_true,beq_iff_eq] at h1 h2 ⊢
  rcases h1 with h1 | ⟨rfl,h1⟩ <;> rcases h2 with h2 | ⟨rfl,h2⟩
  ·exact .inl (UInt8.lt_trans h1 h2)
  ·exact .inl h1
  ·exact .inl h2
  ·exact .inr ⟨rfl,bl_trans h1 h2⟩
theorem bl_total : ∀ {a b : List UInt8},Op.bytesLess a b = false → a = b ∨ Op.bytesLess b a = true
 | [],[],_ => .inl rfl
 | [],_ :: _,h => by simp [Op.bytesLess] at h
 | _ :: _,[],_ => .inr rfl
 | a :: x,b :: y,h => by
  simp only [Op.bytesLess,Bool.or_eq_false_iff,decide_eq_false_iff_not,Bool.and_eq_false_iff,beq_eq_false_iff_ne] at h
  simp only [Op.bytesLess,Bool.or_eq_true,decide_eq_true_eq,Bool.and_eq_true,beq_iff_eq]
  by_cases e : a = b
  ·subst e
   rcases h.2 with h | h
   ·exact absurd rfl h
   ·rcases bl_total h with h | h
    ·exact .inl (by rw [h])
    ·exact .inr (.inr ⟨rfl,h⟩)
  ·refine .inr (.inl ?_)
   have h1 := h.1
   rw [UInt8.lt_iff_toNat_lt] at h1 ⊢
   have : a.toNat ≠ b.toNat := fun h => e (UInt8.toNat_inj.1 h)
   omega
theorem cb_spec : ∀ a b : List UInt8,(Lib.compareBytes a b < 0 ↔ Op.bytesLess a b = true) ∧ (Lib.compareBytes a b = 0 ↔ a = b)
 | [],[] => by simp [Lib.compareBytes,Op.bytesLess]
 | [],_ :: _ => by simp [Lib.compareBytes,Op.bytesLess]
 | _ :: _,[] => by simp [Lib.compareBytes,Op.bytesLess]
 | a :: x,b :: y => by
  obtain ⟨h1,h2⟩ := cb_spec x y
  simp only [Lib.compareBytes,Op.bytesLess,Bool.or_eq_true,decide_eq_true_eq,Bool.and_eq_true,beq_iff_eq]
  by_cases e : a < b
  ·have hne : a ≠ b := fun h => by subst h;exact absurd e (UInt8.lt_irrefl _)
   simp [e,hne]
  ·by_cases e2 : b < a
   ·have hne : a ≠ b := fun h => by subst h;exact absurd e2 (UInt8.lt_irrefl _)
    simp [e,e2,hne]
   ·have he : a = b := by
     rw [UInt8.lt_iff_toNat_lt] at e e2
     exact UInt8.toNat_inj.1 (by omega)
    subst he
    simp [e,h1,h2]
theorem toL_inj {a b : ByteArray} : a.data.toList = b.data.toList ↔ a = b := ⟨fun h => ByteArray.ext (Array.toList_inj.1 h),fun h => by rw [h]⟩
theorem strLt_def (a b : ByteArray) : strLt a b = Op.bytesLess a.data.toList b.data.toList := by rw [strLt,ByteArray.toList_eq,ByteArray.toList_eq]
theorem cmpB_lt {a b : ByteArray} : cmpB a b < 0 ↔ strLt a b = true := by rw [strLt_def];exact (cb_spec _ _).1
theorem cmpB_eq {a b : ByteArray} : cmpB a b = 0 ↔ a = b := by rw [← toL_inj];exact (cb_spec _ _).2
theorem strLt_trans {a b c : ByteArray} (h1 : strLt a b = true) (h2 : strLt b c = true) : strLt a c = true := by
 rw [strLt_def] at *;exact bl_trans h1 h2
theorem strLt_irrefl (a : ByteArray) : strLt a a = false := by rw [strLt_def];exact bl_irrefl _
theorem strLt_total {a b : ByteArray} (h : strLt a b = false) : a = b ∨ strLt b a = true := by
 rw [strLt_def] at *
 exact (bl_total h).imp (fun h => toL_inj.1 h) (fun h => h)
theorem leS_false {a b : ByteArray} (h : leS a b = false) : strLt b a = true := by
 simp only [leS,Bool.or_eq_false_iff,decide_eq_false_iff_not] at h
 exact (strLt_total h.1).resolve_left h.2
theorem strLt_ne {a b : ByteArray} (h : strLt a b = true) : a ≠ b := fun e => by subst e;rw [strLt_irrefl] at h;cases h
def Rising {α : Type} (key : α → ByteArray) (l : List α) : Prop := ∀ (i j : Nat) x y,i < j → l[i]? = some x → l[j]? = some y → strLt (key x) (key y) = true
theorem rising_of {α : Type} {key : α → ByteArray} {l : List α} (h : ∀ (i : Nat) x y,l[i]? = some x → l[i + 1]? = some y → strLt (key x) (key y) = true) : Rising key l := by
 intro i j
 induction j with
 | zero => intro x y h1;omega
 | succ j ih =>
  intro x y hij hx hy
  have hj := (List.getElem?_eq_some_iff.1 hy).1
  rcases Nat.lt_succ_iff_lt_or_eq.1 hij with h1 | rfl
  ·obtain ⟨z,hz⟩ := get_some (l := l) (i := j) (by omega)
   exact strLt_trans (ih x z h1 hx hz) (h j z y hz hy)
  ·exact h i x y hx hy
theorem prevV_zero {α : Type} {l : List α} {i : Nat} {x : α} {k : Int} {p : α → Bool} (hx : l[i]? = some x) (hk : k ≠ 0) (h : prevV l (i + 1) (fun e => if p e = true then k else 0) = 0) : p x = false := by
 rw [prevV,if_neg (by omega),Nat.add_sub_cancel,hx] at h
 cases hp : p x
 ·rfl
 ·simp only [hp,if_true] at h;exact absurd h hk
theorem mono_of {α : Type} {key : α → ByteArray} {l : List α} (h : Rising key l) (t : ByteArray) (i j : Nat) (x y : α) (hij : i ≤ j) (hx : l[i]? = some x) (hy : l[j]? = some y) (hc : cmpB (key y) t < 0) : cmpB (key x) t < 0 := by
 rcases Nat.eq_or_lt_of_le hij with rfl | hlt
 ·rw [hx] at hy;obtain rfl := Option.some.inj hy;exact hc
 ·rw [cmpB_lt] at *
  exact strLt_trans (h i j x y hlt hx hy) hc
def hasK {α : Type} (key : α → ByteArray) (l : List α) (t : ByteArray) : Bool := l.any fun x => decide (key x = t)
theorem bs_lt {α : Type} {cf : α → Int} {l : List α} (hm : ∀ (i j : Nat) x y,i ≤ j → l[i]? = some x → l[j]? = some y → cf y < 0 → cf x < 0) :
  bsIdx cf l ≤ l.length ∧ (∀ (m : Nat) x,m < bsIdx cf l → l[m]? = some x → cf x < 0) ∧ (∀ (m : Nat) x,bsIdx cf l ≤ m → l[m]? = some x → ¬ cf x < 0) := by
 suffices h : ∃ i,i ≤ l.length ∧ (∀ (m : Nat) x,m < i → l[m]? = some x → cf x < 0) ∧ (∀ (m : Nat) x,i ≤ m → l[m]? = some x → ¬ cf x < 0) by
  obtain ⟨i,h1,h2,h3⟩ := h
  rw [bsIdx_eq h1 h2 h3];exact ⟨h1,h2,h3⟩
 induction l with
 | nil => exact ⟨0,Nat.le_refl _,fun m x h => absurd h (by omega),fun m x _ h => by simp at h⟩
 | cons a l ih =>
  by_cases ha : cf a < 0
  ·obtain ⟨i,h1,h2,h3⟩ := ih fun i j x y hij hx hy => hm (i + 1) (j + 1) x y (by omega) (by simpa using hx) (by simpa using hy)
   refine ⟨i + 1,by simpa using h1,fun m x hlt hx => ?_,fun m x hge hx => ?_⟩
   ·cases m with
    | zero => simp at hx;subst hx;exact ha
    | succ m => exact h2 m x (by omega) (by simpa using hx)
   ·cases m with
    | zero => omega
    | succ m => exact h3 m x (by omega) (by simpa using hx)
  ·exact ⟨0,Nat.zero_le _,fun m x h => absurd h (by omega),fun m x _ hx hc => ha (hm 0 m a x (Nat.zero_le _) rfl hx hc)⟩
theorem bsHit_eq {α : Type} {key : α → ByteArray} {l : List α} (h : Rising key l) (t : ByteArray) : bsHit (fun x => cmpB (key x) t) l = hasK key l t := by
 obtain ⟨h1,h2,h3⟩ := bs_lt (cf := fun x => cmpB (key x) t) (mono_of h t)
 rw [bsHit]
 cases hx : l[bsIdx (fun x => cmpB (key x) t) l]? with
 | none =>
  simp only
  symm
  rw [hasK,List.any_eq_false]
  intro y hy
  obtain ⟨m,hm⟩ := List.mem_iff_getElem?.1 hy
  have hlt := (List.getElem?_eq_some_iff.1 hm).1
  rw [List.getElem?_eq_none_iff] at hx
  have := strLt_ne (cmpB_lt.1 (h2 m y (by omega) hm))
  simpa using this
 | some x =>
  simp only
  by_cases he : key x = t
  ·rw [show decide (cmpB (key x) t = 0) = true by rw [decide_eq_true_eq,cmpB_eq];exact he]
   symm;rw [hasK,List.any_eq_true]
   exact ⟨x,List.mem_of_getElem? hx,by simpa using he⟩
  ·rw [show decide (cmpB (key x) t = 0) = false by rw [decide_eq_false_iff_not,cmpB_eq];exact he]
   symm;rw [hasK,List.any_eq_false]
   intro y hy hk
   obtain ⟨m,hm⟩ := List.mem_iff_getElem?.1 hy
   have hk : key y = t := by simpa using hk
   rcases Nat.lt_trichotomy m (bsIdx (fun x => cmpB (key x) t) l) with h4 | h4 | h4
   ·exact strLt_ne (cmpB_lt.1 (h2 m y h4 hm)) hk
   ·rw [h4,hx] at hm;obtain rfl := Option.some.inj hm;exact he hk
   ·have h5 := h _ _ _ _ h4 hx hm
    rw [hk] at h5
    exact h3 _ x (Nat.le_refl _) hx (cmpB_lt.2 h5)
end Go.Proofs.YtagkdifaldikgaaGreatDoor
