/-
  cache.Merged. No statement of the seat is proved here; no conditions.
-/
import Derived.Test.YtalfepdfiehecaaDoorPlC
import Derived.Test.YtalfepdfiehecaaDoorSto
namespace Go.Proofs.YtalfepdfiehecaaDoor
open Go.RowKit Go.Shelf
set_option linter.unusedVariables false
set_option linter.unusedSimpArgs false
set_option maxRecDepth 100000

def mxB (y x : Blob) : Blob := (y.1,y.2.1,max y.2.2.1 x.2.2.1,max y.2.2.2.1 x.2.2.2.1,max y.2.2.2.2 x.2.2.2.2)
def mgOk (bl : List Blob) (x : Blob) : Bool := match bl[bIdx bl x.1]? with
 | some y => !hasB bl x.1 || decide (y.2.1 = x.2.1)
 | none => true
def mgB1 (bl : List Blob) (x : Blob) : List Blob := match bl[bIdx bl x.1]? with
 | some y => if hasB bl x.1 then bl.set (bIdx bl x.1) (mxB y x) else insV bl x
 | none => insV bl x
def mgBL : List Blob → List Blob → Option (List Blob)
 | bl,[] => some bl
 | bl,x :: l => if mgOk bl x then mgBL (mgB1 bl x) l else none
def mxE (y x : Entry) : Entry := (y.1,y.2.1,max y.2.2 x.2.2)
def mgE1 (en : List Entry) (x : Entry) : List Entry := match en[eIdx en x.1]? with
 | some y => if hasE en x.1 then en.set (eIdx en x.1) (mxE y x) else insE en x
 | none => insE en x
def mgEL (en l : List Entry) : List Entry := l.foldl mgE1 en
def mgErr (a b : Cache) : Int := if ckCache a ≠ 0 then ckCache a else if ckCache b ≠ 0 then ckCache b else match mgBL a.2.2.1 b.2.2.1 with
 | some B => ckCache (a.1,a.2.1,B,mgEL a.2.2.2 b.2.2.2)
 | none => 12
def mgV (a b : Cache) : Cache := match mgBL a.2.2.1 b.2.2.1 with
 | some B => (a.1,a.2.1,B,mgEL a.2.2.2 b.2.2.2)
 | none => emptyC
theorem mgErr_zero {a b : Cache} (h : mgErr a b = 0) : ckCache a = 0 ∧ ckCache b = 0 ∧ ∃ B,mgBL a.2.2.1 b.2.2.1 = some B ∧ mgV a b = (a.1,a.2.1,B,mgEL a.2.2.2 b.2.2.2) ∧ ckCache (mgV a b) = 0 := by
 unfold mgErr at h
 by_cases h0 : ckCache a = 0
 ·rw [if_neg (fun h => h h0)] at h
  by_cases h1 : ckCache b = 0
  ·rw [if_neg (fun h => h h1)] at h
   unfold mgV
   cases hB : mgBL a.2.2.1 b.2.2.1 with
   | none => rw [hB] at h;cases h
   | some B => rw [hB] at h;exact ⟨h0,h1,B,rfl,rfl,h⟩
  ·rw [if_pos h1] at h;exact absurd h h1
 ·rw [if_pos h0] at h;exact absurd h h0
theorem mgB1_old {bl : List Blob} {x y : Blob} (hh : hasB bl x.1 = true) (hy : bl[bIdx bl x.1]? = some y) : mgB1 bl x = bl.set (bIdx bl x.1) (mxB y x) := by
 unfold mgB1;rw [hy,hh];rfl
theorem mgB1_new {bl : List Blob} {x : Blob} (hh : hasB bl x.1 = false) : mgB1 bl x = insV bl x := by
 unfold mgB1
 split
 ·rw [hh];rfl
 ·rfl
theorem mgOk_new {bl : List Blob} {x : Blob} (hh : hasB bl x.1 = false) : mgOk bl x = true := by
 unfold mgOk
 split
 ·rw [hh];rfl
 ·rfl
theorem mgOk_old {bl : List Blob} {x y : Blob} (hh : hasB bl x.1 = true) (hy : bl[bIdx bl x.1]? = some y) : mgOk bl x = decide (y.2.1 = x.2.1) := by
 unfold mgOk;rw [hy,hh];rfl
theorem mgE1_old {en : List Entry} {x y : Entry} (hh : hasE en x.1 = true) (hy : en[eIdx en x.1]? = some y) : mgE1 en x = en.set (eIdx en x.1) (mxE y x) := by
 unfold mgE1;rw [hy,hh];rfl
theorem mgE1_new {en : List Entry} {x : Entry} (hh : hasE en x.1 = false) : mgE1 en x = insE en x := by
 unfold mgE1
 split
 ·rw [hh];rfl
 ·rfl
theorem mgB1_rise {bl : List Blob} {x : Blob} (hr : Rising (fun b : Blob => b.1) bl) : Rising (fun b : Blob => b.1) (mgB1 bl x) := by
 cases hh : hasB bl x.1 with
 | true =>
  obtain ⟨y,hy,hd⟩ := hasB_at hr hh
  rw [mgB1_old hh hy]
  exact keys_rise (keys_set (key := fun b : Blob => b.1) hy rfl) hr
 | false => rw [mgB1_new hh];exact rising_ins (key := fun b : Blob => b.1) hr x hh
theorem mgE1_rise {en : List Entry} {x : Entry} (hr : Rising (fun b : Entry => b.1) en) : Rising (fun b : Entry => b.1) (mgE1 en x) := by
 cases hh : hasE en x.1 with
 | true =>
  obtain ⟨y,hy,hd⟩ := hasE_at hr hh
  rw [mgE1_old hh hy]
  exact keys_rise (keys_set (key := fun b : Entry => b.1) hy rfl) hr
 | false => rw [mgE1_new hh];exact rising_ins (key := fun b : Entry => b.1) hr x hh
theorem mgB1_len {bl : List Blob} {x : Blob} : (mgB1 bl x).length ≤ bl.length + 1 := by
 have h1 : (insV bl x).length = bl.length + 1 := by
  have := bIdx_le (bl := bl) (d := x.1)
  rw [insV,List.length_append,List.length_take,List.length_cons,List.length_drop];omega
 unfold mgB1
 split
 ·split
  ·rw [List.length_set];omega
  ·omega
 ·omega
theorem mgE1_len {en : List Entry} {x : Entry} : (mgE1 en x).length ≤ en.length + 1 := by
 have h1 : (insE en x).length = en.length + 1 := by
  have : eIdx en x.1 ≤ en.length := List.countP_le_length
  rw [insE,List.length_append,List.length_take,List.length_cons,List.length_drop];omega
 unfold mgE1
 split
 ·split
  ·rw [List.length_set];omega
  ·omega
 ·omega
theorem set_self {α : Type} {l : List α} {i : Nat} {y : α} (h : l[i]? = some y) : l.set i y = l := by
 apply List.ext_getElem?
 intro j
 rw [List.getElem?_set]
 split
 ·rename_i e
  subst e
  have := (List.getElem?_eq_some_iff.1 h).1
  rw [if_pos this,h]
 ·rfl
theorem mgB1_has {bl : List Blob} {x : Blob} (hr : Rising (fun b : Blob => b.1) bl) (d : ByteArray) : hasB (mgB1 bl x) d = true ↔ hasB bl d = true ∨ x.1 = d := by
 cases hh : hasB bl x.1 with
 | true =>
  obtain ⟨y,hy,hd⟩ := hasB_at hr hh
  rw [mgB1_old hh hy]
  have hk := keys_set (key := fun b : Blob => b.1) (z := mxB y x) hy rfl
  have e : ∀ l : List Blob,hasB l d = (l.map fun b : Blob => b.1).any fun k => decide (k = d) := fun l => by
   unfold hasB hasK;rw [List.any_map];rfl
  rw [e,hk,← e]
  constructor
  ·exact .inl
  ·rintro (h | rfl)
   ·exact h
   ·exact hh
 | false =>
  rw [mgB1_new hh]
  unfold insV
  rw [hasB,hasK_true]
  constructor
  ·rintro ⟨y,hy,h⟩
   rcases mem_ins.1 hy with rfl | hy
   ·exact .inr h
   ·exact .inl (hasK_true.2 ⟨y,hy,h⟩)
  ·rintro (h | h)
   ·obtain ⟨y,hy,h⟩ := hasK_true.1 h
    exact ⟨y,mem_ins.2 (.inr hy),h⟩
   ·exact ⟨x,mem_ins.2 (.inl rfl),h⟩
theorem mgBL_has : ∀ {l bl B : List Blob},Rising (fun b : Blob => b.1) bl → mgBL bl l = some B → ∀ d,hasB B d = true ↔ hasB bl d = true ∨ hasB l d = true
 | [],bl,B,hr,h,d => by
  rw [mgBL] at h
  obtain rfl := Option.some.inj h
  have : hasB ([] : List Blob) d = false := rfl
  rw [this];simp
 | x :: l,bl,B,hr,h,d => by
  rw [mgBL] at h
  split at h
  ·rw [mgBL_has (mgB1_rise hr) h d,mgB1_has hr d]
   have : hasB (x :: l) d = (decide (x.1 = d) || hasB l d) := rfl
   rw [this,Bool.or_eq_true,decide_eq_true_eq,or_assoc]
  ·cases h
theorem mgB1_self {bl : List Blob} {x : Blob} (hr : Rising (fun b : Blob => b.1) bl) (hx : x ∈ bl) : mgOk bl x = true ∧ mgB1 bl x = bl := by
 have hh : hasB bl x.1 = true := hasK_true.2 ⟨x,hx,rfl⟩
 obtain ⟨y,hy,hd⟩ := hasB_at hr hh
 have := rising_inj hr y (List.mem_of_getElem? hy) x hx hd
 subst this
 have hm : mxB y y = y := by unfold mxB;simp only [Int.max_self]
 refine ⟨by rw [mgOk_old hh hy];simp,?_⟩
 rw [mgB1_old hh hy,hm]
 obtain ⟨h1,h2⟩ := List.getElem?_eq_some_iff.1 hy
 exact set_self hy
theorem mgBL_self {bl : List Blob} (hr : Rising (fun b : Blob => b.1) bl) : ∀ {l : List Blob},(∀ x ∈ l,x ∈ bl) → mgBL bl l = some bl
 | [],_ => rfl
 | x :: l,h => by
  obtain ⟨h1,h2⟩ := mgB1_self hr (h x (List.mem_cons_self ..))
  rw [mgBL,h1,if_pos rfl,h2]
  exact mgBL_self hr fun y hy => h y (List.mem_cons_of_mem _ hy)
theorem mgE1_self {en : List Entry} {x : Entry} (hr : Rising (fun b : Entry => b.1) en) (hx : x ∈ en) : mgE1 en x = en := by
 have hh : hasE en x.1 = true := hasK_true.2 ⟨x,hx,rfl⟩
 obtain ⟨y,hy,hd⟩ := hasE_at hr hh
 have := rising_inj hr y (List.mem_of_getElem? hy) x hx hd
 subst this
 have hm : mxE y y = y := by unfold mxE;simp only [Int.max_self]
 rw [mgE1_old hh hy,hm]
 obtain ⟨h1,h2⟩ := List.getElem?_eq_some_iff.1 hy
 exact set_self hy
theorem mgEL_self {en : List Entry} (hr : Rising (fun b : Entry => b.1) en) : ∀ {l : List Entry},(∀ x ∈ l,x ∈ en) → mgEL en l = en
 | [],_ => rfl
 | x :: l,h => by
  show mgEL (mgE1 en x) l = en
  rw [mgE1_self hr (h x (List.mem_cons_self ..))]
  exact mgEL_self hr fun y hy => h y (List.mem_cons_of_mem _ hy)
theorem mgV_self {a : Cache} (h : mgErr a a = 0) : mgV a a = a := by
 obtain ⟨h0,_,B,hB,hV,_⟩ := mgErr_zero h
 have hR := right_iff.1 h0
 rw [mgBL_self hR.brise fun x hx => hx] at hB
 obtain rfl := Option.some.inj hB
 rw [hV,mgEL_self hR.erise fun x hx => hx]
theorem mgE1_keep {en : List Entry} {x e : Entry} (hr : Rising (fun b : Entry => b.1) en) (he : e ∈ en) : ∃ e' ∈ mgE1 en x,e'.1 = e.1 ∧ e'.2.1 = e.2.1 := by
 cases hh : hasE en x.1 with
 | true =>
  obtain ⟨y,hy,hd⟩ := hasE_at hr hh
  rw [mgE1_old hh hy]
  obtain ⟨j,hj⟩ := List.mem_iff_getElem?.1 he
  by_cases e2 : j = eIdx en x.1
  ·subst e2
   rw [hy] at hj
   obtain rfl := Option.some.inj hj
   exact ⟨mxE y x,List.mem_set (List.getElem?_eq_some_iff.1 hy).1 _,rfl,rfl⟩
  ·exact ⟨e,List.mem_of_getElem? (i := j) (by rw [List.getElem?_set];simp [Ne.symm e2,hj]),rfl,rfl⟩
 | false => rw [mgE1_new hh];exact ⟨e,mem_ins.2 (.inr he),rfl,rfl⟩
theorem mgEL_keep : ∀ {l en : List Entry} {e : Entry},Rising (fun b : Entry => b.1) en → e ∈ en → ∃ e' ∈ mgEL en l,e'.1 = e.1 ∧ e'.2.1 = e.2.1
 | [],en,e,hr,he => ⟨e,he,rfl,rfl⟩
 | x :: l,en,e,hr,he => by
  obtain ⟨e1,h1,h2,h3⟩ := mgE1_keep (x := x) hr he
  obtain ⟨e2,h4,h5,h6⟩ := mgEL_keep (l := l) (mgE1_rise hr) h1
  exact ⟨e2,h4,h5.trans h2,h6.trans h3⟩
theorem mg_whole {a b : Cache} {key : ByteArray} (h : mgErr a b = 0) (hw : wholeV a key = true) : wholeV (mgV a b) key = true := by
 obtain ⟨h0,_,B,hB,hV,h2⟩ := mgErr_zero h
 have hR := right_iff.1 h0
 have hR2 := right_iff.1 h2
 unfold wholeV at hw
 split at hw
 ·rename_i e he
  rw [Bool.and_eq_true,decide_eq_true_eq] at hw
  obtain ⟨y,hy,hk⟩ := hasE_at hR.erise hw.1
  rw [he] at hy
  obtain rfl := Option.some.inj hy
  obtain ⟨e',m1,m2,m3⟩ := mgEL_keep (l := b.2.2.2) hR.erise (List.mem_of_getElem? he)
  have hm : e' ∈ (mgV a b).2.2.2 := by rw [hV];exact m1
  obtain ⟨y',hy',hk'⟩ := hasE_at hR2.erise (hasK_true.2 ⟨e',hm,m2.trans hk⟩ : hasE (mgV a b).2.2.2 key = true)
  have := rising_inj hR2.erise y' (List.mem_of_getElem? hy') e' hm (hk'.trans (m2.trans hk).symm)
  subst this
  have hx : missingOf (mgV a b).2.2.1 y'.2.1 = [] := by
   have h3 := List.eq_nil_of_length_eq_zero hw.2
   unfold missingOf at h3 ⊢
   rw [List.filter_eq_nil_iff] at h3 ⊢
   intro d hd
   have h4 := h3 d (by rw [← m3];exact hd)
   have h5 : hasB a.2.2.1 d = true := by simpa using h4
   have h6 : hasB (mgV a b).2.2.1 d = true := by
    rw [hV];exact (mgBL_has hR.brise hB d).2 (.inl h5)
   rw [h6];simp
  unfold wholeV
  rw [hy']
  simp only [Bool.and_eq_true,decide_eq_true_eq]
  exact ⟨hasK_true.2 ⟨y',hm,hk'⟩,by rw [hx];rfl⟩
 ·cases hw
def zRs : RS := .agg [.v (.int .i64 0),.v (.int .i64 0),.v .nil,.v .nil]
def mgRs (a b : Cache) : List RS :=
 if mgErr a b = 0 then [.agg [.v (.int .i64 a.1),.v (.int .i64 a.2.1),.own 5 (mgV a b).2.2.1.length (rowF fBlob (mgV a b).2.2.1),.own 3 (mgV a b).2.2.2.length (rowF fEntry (mgV a b).2.2.2)],.c (.v (.int .i64 0))]
 else [zRs,.c (.v (.int .i64 (mgErr a b)))]
theorem ret_z {H : Heap} {a b : Cache} {e : Int} (h : mgErr a b = e) (h0 : e ≠ 0) : Rets (mgRs a b) (.tup [.agg [.f (.int .i64 0),.f (.int .i64 0),.f .nil,.f .nil],.f (.int .i64 e)]) H := by
 rw [mgRs,h,if_neg h0]
 exact ⟨[.agg [.f (.int .i64 0),.f (.int .i64 0),.f .nil,.f .nil],.f (.int .i64 e)],rfl,⟨⟨rfl,rfl,rfl,rfl,rfl⟩,rfl,rfl⟩,by simp [idsS,idsC]⟩
structure MgB (bl l : List Blob) (s : Nat) (B : List Blob) : Prop where
 le : s ≤ l.length
 rise : Rising (fun b : Blob => b.1) B
 len : B.length ≤ bl.length + s
 is : mgBL bl l = mgBL B (l.drop s)
 src : ∀ x ∈ B,∃ e,(e ∈ bl ∨ e ∈ l) ∧ e.1 = x.1
structure MgE (en l : List Entry) (s : Nat) (E : List Entry) : Prop where
 le : s ≤ l.length
 rise : Rising (fun b : Entry => b.1) E
 len : E.length ≤ en.length + s
 is : mgEL en l = mgEL E (l.drop s)
 rf : ∀ e ∈ E,e.2.1.length ≤ 200
 src : ∀ x ∈ E,∃ e,(e ∈ en ∨ e ∈ l) ∧ e.1 = x.1 ∧ e.2.1 = x.2.1
theorem drop_get {α : Type} {l : List α} {s : Nat} {e : α} (h : l[s]? = some e) : l.drop s = e :: l.drop (s + 1) := by
 obtain ⟨h1,h2⟩ := List.getElem?_eq_some_iff.1 h
 rw [List.drop_eq_getElem_cons h1,h2]
theorem mgB1_src {B : List Blob} {x y : Blob} (h : y ∈ mgB1 B x) : y = x ∨ ∃ z ∈ B,z.1 = y.1 := by
 unfold mgB1 at h
 split at h
 ·rename_i z hz
  split at h
  ·rcases List.mem_or_eq_of_mem_set h with h1 | rfl
   ·exact .inr ⟨y,h1,rfl⟩
   ·exact .inr ⟨z,List.mem_of_getElem? hz,rfl⟩
  ·rcases mem_ins.1 h with rfl | h1
   ·exact .inl rfl
   ·exact .inr ⟨y,h1,rfl⟩
 ·rcases mem_ins.1 h with rfl | h1
  ·exact .inl rfl
  ·exact .inr ⟨y,h1,rfl⟩
theorem mgE1_src {E : List Entry} {x y : Entry} (h : y ∈ mgE1 E x) : y = x ∨ ∃ z ∈ E,z.1 = y.1 ∧ z.2.1 = y.2.1 := by
 unfold mgE1 at h
 split at h
 ·rename_i z hz
  split at h
  ·rcases List.mem_or_eq_of_mem_set h with h1 | rfl
   ·exact .inr ⟨y,h1,rfl,rfl⟩
   ·exact .inr ⟨z,List.mem_of_getElem? hz,rfl,rfl⟩
  ·rcases mem_ins.1 h with rfl | h1
   ·exact .inl rfl
   ·exact .inr ⟨y,h1,rfl,rfl⟩
 ·rcases mem_ins.1 h with rfl | h1
  ·exact .inl rfl
  ·exact .inr ⟨y,h1,rfl,rfl⟩
theorem MgB.next {bl l B : List Blob} {s : Nat} {x : Blob} (h : MgB bl l s B) (hx : l[s]? = some x) (ho : mgOk B x = true) : MgB bl l (s + 1) (mgB1 B x) :=
 ⟨(List.getElem?_eq_some_iff.1 hx).1,mgB1_rise h.rise,by have := h.len;have := mgB1_len (bl := B) (x := x);omega,by rw [h.is,drop_get hx,mgBL,ho,if_pos rfl],fun y hy => by
  rcases mgB1_src hy with rfl | ⟨z,hz,hk⟩
  ·exact ⟨_,.inr (List.mem_of_getElem? hx),rfl⟩
  ·obtain ⟨e,h1,h2⟩ := h.src z hz
   exact ⟨e,h1,h2.trans hk⟩⟩
theorem mgE1_rf {E : List Entry} {x : Entry} (h : ∀ e ∈ E,e.2.1.length ≤ 200) (hx : x.2.1.length ≤ 200) : ∀ e ∈ mgE1 E x,e.2.1.length ≤ 200 := fun e he => by
 unfold mgE1 at he
 split at he
 ·rename_i y hy
  split at he
  ·rcases List.mem_or_eq_of_mem_set he with h1 | rfl
   ·exact h e h1
   ·exact h y (List.mem_of_getElem? hy)
  ·rcases mem_ins.1 he with rfl | h1
   ·exact hx
   ·exact h e h1
 ·rcases mem_ins.1 he with rfl | h1
  ·exact hx
  ·exact h e h1
theorem MgE.next {en l E : List Entry} {s : Nat} {x : Entry} (h : MgE en l s E) (hx : l[s]? = some x) (hr : x.2.1.length ≤ 200) : MgE en l (s + 1) (mgE1 E x) :=
 ⟨(List.getElem?_eq_some_iff.1 hx).1,mgE1_rise h.rise,by have := h.len;have := mgE1_len (en := E) (x := x);omega,by rw [h.is,drop_get hx];rfl,mgE1_rf h.rf hr,fun y hy => by
  rcases mgE1_src hy with rfl | ⟨z,hz,hk,hk2⟩
  ·exact ⟨_,.inr (List.mem_of_getElem? hx),rfl,rfl⟩
  ·obtain ⟨e,h1,h2,h3⟩ := h.src z hz
   exact ⟨e,h1,h2.trans hk,h3.trans hk2⟩⟩
theorem insB_len {B : List Blob} {x : Blob} : (insV B x).length = B.length + 1 := by
 have := bIdx_le (bl := B) (d := x.1)
 rw [insV,List.length_append,List.length_take,List.length_cons,List.length_drop];omega
set_option maxHeartbeats 8000000 in
theorem Merged_f (a b : Cache) (ha : CBound a) (hb : CBound b) : FRet Tryd.prog 8 [aCache a,aCache b] (mgRs a b) := by
 have hca := CheckCache_f isDigest_f a ha
 have hcb := CheckCache_f isDigest_f b hb
 by_cases h0 : ckCache a = 0
 case neg =>
  have he : mgErr a b = ckCache a := by rw [mgErr,if_pos h0]
  have d0 : decide (ckCache a = 0) = false := dcF h0
  have d1 : decide (ckCache a ≠ 0) = true := dcT h0
  generalize ckCache a = q at *
  replace h0 := hide h0
  replace he := hide he
  obtain ⟨room,lease,bl,en⟩ := a
  obtain ⟨room2,lease2,bl2,en2⟩ := b
  refine FCall.of_ax low_cache_Merged ?_
  dsimp only [l_cache_Merged,aCache] at hca hcb ⊢
  refine srun_sound 300 _ _ _ _ ?_
  clear ha hb
  repeat' (first
   | (simp -implicitDefEqProofs only [*,addFp_wr,zr,Nat.reduceAdd,Nat.reduceSub,Nat.reduceMul,Nat.reduceLT,Nat.reduceLeDiff,Nat.reduceEqDiff,Nat.reduceBEq,reduceIte,reduceCtorEq,Int.reduceLE,Int.reduceLT,Int.reduceToNat,Int.reduceEq,Int.reduceNe])
   | ((first|apply zk0|apply zk1|apply zk2|apply zk3|apply zk4|apply zk5|apply zk6|apply zk7|apply zk8|apply zk9) <;> intro hc)
   |(refine callP0 rfl ?_)
   |(refine callD0 rfl ?_)
   |(refine cP (hca) ?_)
   |(refine cD (hca) ?_)
   |(refine cF (hca) ?_)
   |(refine cO (hca) ?_)
   | fail)
  exact ret_z he.out h0.out
 by_cases h1 : ckCache b = 0
 case neg =>
  have he : mgErr a b = ckCache b := by rw [mgErr,if_neg (fun h => h h0),if_pos h1]
  have d0 : decide (ckCache b = 0) = false := dcF h1
  have d1 : decide (ckCache b ≠ 0) = true := dcT h1
  rw [h0] at hca
  have dz : decide ((0 : Int) = 0) = true := rfl
  generalize ckCache b = q at *
  replace h1 := hide h1
  replace he := hide he
  clear h0 ha hb
  obtain ⟨room,lease,bl,en⟩ := a
  obtain ⟨room2,lease2,bl2,en2⟩ := b
  refine FCall.of_ax low_cache_Merged ?_
  dsimp only [l_cache_Merged,aCache] at hca hcb ⊢
  refine srun_sound 300 _ _ _ _ ?_
  repeat' (first
   | (simp -implicitDefEqProofs only [*,addFp_wr,zr,Nat.reduceAdd,Nat.reduceSub,Nat.reduceMul,Nat.reduceLT,Nat.reduceLeDiff,Nat.reduceEqDiff,Nat.reduceBEq,reduceIte,reduceCtorEq,Int.reduceLE,Int.reduceLT,Int.reduceToNat,Int.reduceEq,Int.reduceNe])
   | ((first|apply zk0|apply zk1|apply zk2|apply zk3|apply zk4|apply zk5|apply zk6|apply zk7|apply zk8|apply zk9) <;> intro hc)
   |(refine callP0 rfl ?_)
   |(refine callD0 rfl ?_)
   |(refine cP (hca) ?_)
   |(refine cD (hca) ?_)
   |(refine cF (hca) ?_)
   |(refine cO (hca) ?_)
   |(refine cP (hcb) ?_)
   |(refine cD (hcb) ?_)
   |(refine cF (hcb) ?_)
   |(refine cO (hcb) ?_)
   | fail)
  exact ret_z he.out h1.out
 rw [h0] at hca
 rw [h1] at hcb
 have hR := right_iff.1 h0
 have hR2 := right_iff.1 h1
 have dz : decide ((0 : Int) = 0) = true := rfl
 have hOa := own_f a (by have := hR.blen;omega) (by have := hR.elen;omega) (fun x hx => by have := ckDigs_len (entOk_iff.1 (hR.eok x hx)).2.1;omega)
 have hOb := own_f b (by have := hR2.blen;omega) (by have := hR2.elen;omega) (fun x hx => by have := ckDigs_len (entOk_iff.1 (hR2.eok x hx)).2.1;omega)
 have hI : MgB a.2.2.1 b.2.2.1 0 a.2.2.1 := ⟨Nat.zero_le _,hR.brise,Nat.le_refl _,rfl,fun x hx => ⟨x,.inl hx,rfl⟩⟩
 have hJ : MgE a.2.2.2 b.2.2.2 0 a.2.2.2 := ⟨Nat.zero_le _,hR.erise,Nat.le_refl _,rfl,fun x hx => by have := ckDigs_len (entOk_iff.1 (hR.eok x hx)).2.1;omega,fun x hx => ⟨x,.inl hx,rfl,rfl⟩⟩
 have hE : mgErr a b = match mgBL a.2.2.1 b.2.2.1 with | some B => ckCache (a.1,a.2.1,B,mgEL a.2.2.2 b.2.2.2) | none => 12 := by rw [mgErr,if_neg (fun h => h h0),if_neg (fun h => h h1)] <;> rfl
 have b1 := hR.blen
 have b2 := hR2.blen
 have b3 := hR.elen
 have b4 := hR2.elen
 have hV : mgV a b = match mgBL a.2.2.1 b.2.2.1 with | some B => (a.1,a.2.1,B,mgEL a.2.2.2 b.2.2.2) | none => emptyC := rfl
 have hmr := fun (H : Heap) (e : Int) => @ret_z H a b e
 have hrs : mgRs a b = if mgErr a b = 0 then [.agg [.v (.int .i64 a.1),.v (.int .i64 a.2.1),.own 5 (mgV a b).2.2.1.length (rowF fBlob (mgV a b).2.2.1),.own 3 (mgV a b).2.2.2.length (rowF fEntry (mgV a b).2.2.2)],.c (.v (.int .i64 0))] else [zRs,.c (.v (.int .i64 (mgErr a b)))] := rfl
 have hrf : ∀ e ∈ a.2.2.2,e.2.1.length ≤ 200 := fun x hx => by have := ckDigs_len (entOk_iff.1 (hR.eok x hx)).2.1;omega
 have hrf2 : ∀ e ∈ b.2.2.2,e.2.1.length ≤ 200 := fun x hx => by have := ckDigs_len (entOk_iff.1 (hR2.eok x hx)).2.1;omega
 clear hR hR2 h0 h1 ha hb
 obtain ⟨room,lease,bl,en⟩ := a
 obtain ⟨room2,lease2,bl2,en2⟩ := b
 dsimp only at hI hJ b1 b2 b3 b4 hE hV hrs hrf hrf2
 generalize mgRs (room,lease,bl,en) (room2,lease2,bl2,en2) = RR at *
 generalize mgErr (room,lease,bl,en) (room2,lease2,bl2,en2) = EE at *
 generalize mgV (room,lease,bl,en) (room2,lease2,bl2,en2) = VV at *
 replace hmr := hide hmr
 replace hrs := hide hrs
 replace hV := hide hV
 replace hE := hide hE
 replace hJ := hide hJ
 replace hrf := hide hrf
 replace hrf2 := hide hrf2
 refine FCall.of_ax low_cache_Merged ?_
 dsimp only [l_cache_Merged,aCache] at hca hcb hOa hOb ⊢
 refine srun_sound 300 _ _ _ _ ?_
 repeat' (first
  | (simp -implicitDefEqProofs only [*,addFp_wr,wrL_2,zr,Nat.reduceAdd,Nat.reduceSub,Nat.reduceMul,Nat.reduceLT,Nat.reduceLeDiff,Nat.reduceEqDiff,Nat.reduceBEq,reduceIte,reduceCtorEq,Int.reduceLE,Int.reduceLT,Int.reduceToNat,Int.reduceEq,Int.reduceNe])
  | ((first|apply zk0|apply zk1|apply zk2|apply zk3|apply zk4|apply zk5|apply zk6|apply zk7|apply zk8|apply zk9) <;> intro hc)
  |(refine callP0 rfl ?_)
  |(refine callD0 rfl ?_)
  |(refine cP (hca) ?_)
  |(refine cD (hca) ?_)
  |(refine cF (hca) ?_)
  |(refine cO (hca) ?_)
  |(refine cP (hcb) ?_)
  |(refine cD (hcb) ?_)
  |(refine cF (hcb) ?_)
  |(refine cO (hcb) ?_)
  |(refine cP (hOa) ?_)
  |(refine cD (hOa) ?_)
  |(refine cF (hOa) ?_)
  |(refine cO (hOa) ?_)
  |(refine cP (hOb) ?_)
  |(refine cD (hOb) ?_)
  |(refine cF (hOb) ?_)
  |(refine cO (hOb) ?_)
  | fail)
 refine ax_loopW (S := Nat × List Blob) 144 [2,3,4,35,36] [3,4,33,1031,1033] (fun s => [(37,.f (.int .i64 s.1))]) (fun s => [(2,1,AObj.cells [.f (.int .i64 room),.f (.int .i64 lease),.sl 31 1 5 0 s.2.length,.sl 1031 1 3 0 en.length]),(31,1,AObj.cells ((rowF fBlob s.2).map AV.f))]) (fun s => MgB bl bl2 s.1 s.2) (fun s => bl2.length - s.1) ((0,bl)) [] [] ?_ rfl ?_ fun s hs => ?_
 ·exact hI
 ·refine wk_i ?_ ?_ <;> simp only [zw,Nat.reduceEqDiff,Nat.reduceBEq,Nat.reduceLT,Nat.reduceLeDiff,reduceIte,reduceCtorEq]
 simp only [sws_n,swh_n]
 obtain ⟨s,B⟩ := s
 dsimp only at hs ⊢
 refine srun_sound 300 _ _ _ _ ?_
 rcases Nat.lt_or_ge s bl2.length with hlt | hge
 ·obtain ⟨x,hx⟩ := get_some hlt
  have h4 := inc64 hlt (by omega)
  have h2 := lt_t hlt
  have h2i : decide ((s : Int) < (bl2.length : Int)) = true := dcT (by omega)
  have g1 := row_get (enc := fBlob) (sz := 5) (fun _ => rfl) hx
  have q0 : (rowF fBlob bl2).length = bl2.length * 5 := row_len (sz := 5) (fun _ => rfl)
  have p2 : (s * 5 + 5 ≤ bl2.length * 5) = True := by rw [eq_iff_iff,iff_true];omega
  have hBl : B.length ≤ 1000000 := by have := hs.len;omega
  have hF := find_f (room,lease,B,en) x.1 hBl hs.rise
  cases hh : hasB B x.1
  ·have hn := hs.next hx (mgOk_new hh)
   rw [mgB1_new hh] at hn
   have hIn := insertB_f B (bIdx B x.1) x bIdx_le hBl
   change FRetM _ _ _ _ [.c (.own 5 (B.length + 1) (rowF fBlob (insV B x)))] at hIn
   have hil := insB_len (B := B) (x := x)
   rw [← hil] at hIn
   rw [hh] at hF
   obtain ⟨i,hi⟩ : ∃ i,bIdx B x.1 = i := ⟨_,rfl⟩
   rw [hi] at hIn
   change FRet _ _ _ [.c (.v (.int .i64 (bIdx B x.1))),_] at hF
   rw [hi] at hF
   generalize insV B x = K at *
   replace hn := hide hn
   replace hs := hide hs
   replace hI := hide hI
   replace hil := hide hil
   repeat' (first
    | (simp -implicitDefEqProofs only [*,addFp_wr,fBlob,List.map_cons,List.map_nil,zr,Nat.reduceAdd,Nat.reduceSub,Nat.reduceMul,Nat.reduceLT,Nat.reduceLeDiff,Nat.reduceEqDiff,Nat.reduceBEq,reduceIte,reduceCtorEq,Int.reduceLE,Int.reduceLT,Int.reduceToNat,Int.reduceEq,Int.reduceNe])
    | ((first|apply zk0|apply zk1|apply zk2|apply zk3|apply zk4|apply zk5|apply zk6|apply zk7|apply zk8|apply zk9) <;> intro hc)
    |(refine callP0 rfl ?_)
    |(refine callD0 rfl ?_)
    | fail)
   refine gG hF ⟨fz_ownc rfl rfl,fz_f,trivial⟩ ?_
   clear hF
   repeat' (first
    | (simp -implicitDefEqProofs only [*,addFp_wr,fBlob,List.map_cons,List.map_nil,zr,Nat.reduceAdd,Nat.reduceSub,Nat.reduceMul,Nat.reduceLT,Nat.reduceLeDiff,Nat.reduceEqDiff,Nat.reduceBEq,reduceIte,reduceCtorEq,Int.reduceLE,Int.reduceLT,Int.reduceToNat,Int.reduceEq,Int.reduceNe])
    | ((first|apply zk0|apply zk1|apply zk2|apply zk3|apply zk4|apply zk5|apply zk6|apply zk7|apply zk8|apply zk9) <;> intro hc)
    |(refine callP0 rfl ?_)
    |(refine callD0 rfl ?_)
    | fail)
   refine gM hIn [.sl 31 1 5 0 B.length,.f (.int .i64 i),.sl 54 1 5 0 1] [] ?_
   clear hIn
   repeat' (first
    | (simp -implicitDefEqProofs only [*,addFp_wr,zr,Nat.reduceAdd,Nat.reduceSub,Nat.reduceMul,Nat.reduceLT,Nat.reduceLeDiff,Nat.reduceEqDiff,Nat.reduceBEq,reduceIte,reduceCtorEq,Int.reduceLE,Int.reduceLT,Int.reduceToNat,Int.reduceEq,Int.reduceNe])
    | ((first|apply zk0|apply zk1|apply zk2|apply zk3|apply zk4|apply zk5|apply zk6|apply zk7|apply zk8|apply zk9) <;> intro hc)
    |(refine callP0 rfl ?_)
    |(refine callD0 rfl ?_)
    | fail)
   refine ⟨(s + 1,K),[(55,31)],hn.out,by dsimp only;omega,rfl,?_⟩
   refine wk_i ?_ ?_ <;> simp only [zw,Nat.reduceEqDiff,Nat.reduceBEq,Nat.reduceLT,Nat.reduceLeDiff,reduceIte,reduceCtorEq]
  ·obtain ⟨y,hy,hyd⟩ := hasB_at hs.rise hh
   have ho := mgOk_old hh hy
   rw [hh] at hF
   change FRet _ _ _ [.c (.v (.int .i64 (bIdx B x.1))),_] at hF
   have hn1 := mgB1_old hh hy
   obtain ⟨i,hi⟩ : ∃ i,bIdx B x.1 = i := ⟨_,rfl⟩
   rw [hi] at hF hy hn1
   have hlt2 := (List.getElem?_eq_some_iff.1 hy).1
   have hL := lt_t hlt2
   have q1 : (rowF fBlob B).length = B.length * 5 := row_len (sz := 5) (fun _ => rfl)
   have p3 : (i * 5 + 1 + 1 ≤ B.length * 5) = True := by rw [eq_iff_iff,iff_true];omega
   have p4 : (i * 5 + 2 + 1 ≤ B.length * 5) = True := by rw [eq_iff_iff,iff_true];omega
   have p5 : (i * 5 + 3 + 1 ≤ B.length * 5) = True := by rw [eq_iff_iff,iff_true];omega
   have p6 : (i * 5 + 4 + 1 ≤ B.length * 5) = True := by rw [eq_iff_iff,iff_true];omega
   have c1 := row_cell (enc := fBlob) (sz := 5) (j := 1) (fun _ => rfl) hy (show _ = some (FV.int .i64 y.2.1) from rfl)
   have c2 := row_cell (enc := fBlob) (sz := 5) (j := 2) (fun _ => rfl) hy (show _ = some (FV.int .i64 y.2.2.1) from rfl)
   have c3 := row_cell (enc := fBlob) (sz := 5) (j := 3) (fun _ => rfl) hy (show _ = some (FV.int .i64 y.2.2.2.1) from rfl)
   have c4 := row_cell (enc := fBlob) (sz := 5) (j := 4) (fun _ => rfl) hy (show _ = some (FV.int .i64 y.2.2.2.2) from rfl)
   by_cases hc : y.2.1 = x.2.1
   ·have dc : decide (y.2.1 = x.2.1) = true := dcT hc
    have hn := hs.next hx (by rw [ho,dc])
    rw [hn1] at hn
    replace hn := hide hn
    replace hs := hide hs
    replace hI := hide hI
    replace hc := hide hc
    replace ho := hide ho
    replace hi := hide hi
    replace hyd := hide hyd
    repeat' (first
     | (simp -implicitDefEqProofs only [*,addFp_wr,fBlob,List.map_cons,List.map_nil,zr,Nat.reduceAdd,Nat.reduceSub,Nat.reduceMul,Nat.reduceLT,Nat.reduceLeDiff,Nat.reduceEqDiff,Nat.reduceBEq,reduceIte,reduceCtorEq,Int.reduceLE,Int.reduceLT,Int.reduceToNat,Int.reduceEq,Int.reduceNe])
     | ((first|apply zk0|apply zk1|apply zk2|apply zk3|apply zk4|apply zk5|apply zk6|apply zk7|apply zk8|apply zk9) <;> intro hc)
     |(refine callP0 rfl ?_)
     |(refine callD0 rfl ?_)
     | fail)
    refine gG hF ⟨fz_ownc rfl rfl,fz_f,trivial⟩ ?_
    clear hF
    repeat' (first
     | (simp -implicitDefEqProofs only [*,addFp_wr,fBlob,List.map_cons,List.map_nil,zr,Nat.reduceAdd,Nat.reduceSub,Nat.reduceMul,Nat.reduceLT,Nat.reduceLeDiff,Nat.reduceEqDiff,Nat.reduceBEq,reduceIte,reduceCtorEq,Int.reduceLE,Int.reduceLT,Int.reduceToNat,Int.reduceEq,Int.reduceNe])
     | ((first|apply zk0|apply zk1|apply zk2|apply zk3|apply zk4|apply zk5|apply zk6|apply zk7|apply zk8|apply zk9) <;> intro hc)
     |(refine callP0 rfl ?_)
     |(refine callD0 rfl ?_)
     | fail)
    have e1 := row_set1 (enc := fBlob) (sz := 5) (j := 2) (y := (y.1,y.2.1,max y.2.2.1 x.2.2.1,y.2.2.2.1,y.2.2.2.2)) (v := .int .i64 (max y.2.2.1 x.2.2.1)) (fun _ => rfl) hy (by omega) rfl
    have hy2 : (B.set i (y.1,y.2.1,max y.2.2.1 x.2.2.1,y.2.2.2.1,y.2.2.2.2))[i]? = some (y.1,y.2.1,max y.2.2.1 x.2.2.1,y.2.2.2.1,y.2.2.2.2) := by rw [List.getElem?_set];simp [hlt2]
    have e2 := row_set1 (enc := fBlob) (sz := 5) (j := 3) (y := (y.1,y.2.1,max y.2.2.1 x.2.2.1,max y.2.2.2.1 x.2.2.2.1,y.2.2.2.2)) (v := .int .i64 (max y.2.2.2.1 x.2.2.2.1)) (fun _ => rfl) hy2 (by omega) rfl
    have hy3 : (B.set i (y.1,y.2.1,max y.2.2.1 x.2.2.1,max y.2.2.2.1 x.2.2.2.1,y.2.2.2.2))[i]? = some (y.1,y.2.1,max y.2.2.1 x.2.2.1,max y.2.2.2.1 x.2.2.2.1,y.2.2.2.2) := by rw [List.getElem?_set];simp [hlt2]
    rw [List.set_set] at e2
    have e3 := row_set1 (enc := fBlob) (sz := 5) (j := 4) (y := mxB y x) (v := .int .i64 (max y.2.2.2.2 x.2.2.2.2)) (fun _ => rfl) hy3 (by omega) rfl
    rw [List.set_set] at e3
    rw [splice_1] at e1 e2 e3
    rw [e1,e2,e3]
    refine ⟨(s + 1,B.set i (mxB y x)),[],hn.out,by dsimp only;omega,rfl,?_⟩
    refine wk_i ?_ ?_ <;> simp only [zw,Nat.reduceEqDiff,Nat.reduceBEq,Nat.reduceLT,Nat.reduceLeDiff,reduceIte,reduceCtorEq]
    simp
   ·have dc : decide (y.2.1 = x.2.1) = false := dcF hc
    have he12 : EE = 12 := by
     rw [hE.out,hs.is,drop_get hx,mgBL,ho,dc];rfl
    replace hs := hide hs
    replace hI := hide hI
    replace hc := hide hc
    replace ho := hide ho
    replace hi := hide hi
    replace hyd := hide hyd
    replace hn1 := hide hn1
    replace he12 := hide he12
    repeat' (first
     | (simp -implicitDefEqProofs only [*,addFp_wr,fBlob,List.map_cons,List.map_nil,zr,Nat.reduceAdd,Nat.reduceSub,Nat.reduceMul,Nat.reduceLT,Nat.reduceLeDiff,Nat.reduceEqDiff,Nat.reduceBEq,reduceIte,reduceCtorEq,Int.reduceLE,Int.reduceLT,Int.reduceToNat,Int.reduceEq,Int.reduceNe])
     | ((first|apply zk0|apply zk1|apply zk2|apply zk3|apply zk4|apply zk5|apply zk6|apply zk7|apply zk8|apply zk9) <;> intro hc)
     |(refine callP0 rfl ?_)
     |(refine callD0 rfl ?_)
     | fail)
    refine gG hF ⟨fz_ownc rfl rfl,fz_f,trivial⟩ ?_
    clear hF
    repeat' (first
     | (simp -implicitDefEqProofs only [*,addFp_wr,fBlob,List.map_cons,List.map_nil,zr,Nat.reduceAdd,Nat.reduceSub,Nat.reduceMul,Nat.reduceLT,Nat.reduceLeDiff,Nat.reduceEqDiff,Nat.reduceBEq,reduceIte,reduceCtorEq,Int.reduceLE,Int.reduceLT,Int.reduceToNat,Int.reduceEq,Int.reduceNe])
     | ((first|apply zk0|apply zk1|apply zk2|apply zk3|apply zk4|apply zk5|apply zk6|apply zk7|apply zk8|apply zk9) <;> intro hc)
     |(refine callP0 rfl ?_)
     |(refine callD0 rfl ?_)
     | fail)
    exact hmr.out _ _ he12.out (by decide)
 ·obtain rfl : s = bl2.length := by have := hs.le;omega
  have h2 := lt_f hge
  have h2i : decide ((bl2.length : Int) < (bl2.length : Int)) = false := dcF (by omega)
  have hB : mgBL bl bl2 = some B := by rw [hs.is,List.drop_length];rfl
  have hBl : B.length ≤ 6000 := by have := hs.len;omega
  have hBr := hide hs.rise
  clear hs hI hca hcb hOa hOb
  repeat' (first
   | (simp -implicitDefEqProofs only [*,addFp_wr,zr,Nat.reduceAdd,Nat.reduceSub,Nat.reduceMul,Nat.reduceLT,Nat.reduceLeDiff,Nat.reduceEqDiff,Nat.reduceBEq,reduceIte,reduceCtorEq,Int.reduceLE,Int.reduceLT,Int.reduceToNat,Int.reduceEq,Int.reduceNe])
   | ((first|apply zk0|apply zk1|apply zk2|apply zk3|apply zk4|apply zk5|apply zk6|apply zk7|apply zk8|apply zk9) <;> intro hc)
   |(refine callP0 rfl ?_)
   |(refine callD0 rfl ?_)
   | fail)
  clear h2 h2i
  refine ax_loopW (S := Nat × List Entry) 144 [2,4,101,102] [4,31,1033] (fun s => [(103,.f (.int .i64 s.1))]) (fun s => [(2,1,AObj.cells [.f (.int .i64 room),.f (.int .i64 lease),.sl 31 1 5 0 B.length,.sl 1031 1 3 0 s.2.length]),(1031,1,AObj.cells ((rowF fEntry s.2).map AV.f))]) (fun s => MgE en en2 s.1 s.2) (fun s => en2.length - s.1) ((0,en)) [] [] ?_ rfl ?_ fun s hs => ?_
  ·exact hJ.out
  ·refine wk_i ?_ ?_ <;> simp only [zw,Nat.reduceEqDiff,Nat.reduceBEq,Nat.reduceLT,Nat.reduceLeDiff,reduceIte,reduceCtorEq]
  simp only [sws_n,swh_n]
  obtain ⟨s,E⟩ := s
  dsimp only at hs ⊢
  refine srun_sound 300 _ _ _ _ ?_
  rcases Nat.lt_or_ge s en2.length with hlt | hge
  ·obtain ⟨x,hx⟩ := get_some hlt
   have h4 := inc64 hlt (by omega)
   have h2 := lt_t hlt
   have h2i : decide ((s : Int) < (en2.length : Int)) = true := dcT (by omega)
   have g1 := row_get (enc := fEntry) (sz := 3) (fun _ => rfl) hx
   have q0 : (rowF fEntry en2).length = en2.length * 3 := row_len (sz := 3) (fun _ => rfl)
   have p2 : (s * 3 + 3 ≤ en2.length * 3) = True := by rw [eq_iff_iff,iff_true];omega
   have hEl : E.length ≤ 1000000 := by have := hs.len;omega
   have hF := entryAt_f (room,lease,B,E) x.1 hEl hs.rise
   have hn := hs.next hx (hrf2.out x (List.mem_of_getElem? hx))
   cases hh : hasE E x.1
   ·rw [mgE1_new hh] at hn
    have hIn := insertE_f E (eIdx E x.1) x eIdx_le hEl
    change FRetM _ _ _ _ [.c (.own 3 (E.length + 1) (rowF fEntry (insE E x)))] at hIn
    have hil := insE_len (en := E) (e := x)
    rw [← hil] at hIn
    rw [hh] at hF
    obtain ⟨i,hi⟩ : ∃ i,eIdx E x.1 = i := ⟨_,rfl⟩
    rw [hi] at hIn
    change FRet _ _ _ [.c (.v (.int .i64 (eIdx E x.1))),_] at hF
    rw [hi] at hF
    generalize insE E x = K at *
    replace hn := hide hn
    replace hs := hide hs
    replace hil := hide hil
    replace hB := hide hB
    repeat' (first
     | (simp -implicitDefEqProofs only [*,addFp_wr,fEntry,List.map_cons,List.map_nil,zr,Nat.reduceAdd,Nat.reduceSub,Nat.reduceMul,Nat.reduceLT,Nat.reduceLeDiff,Nat.reduceEqDiff,Nat.reduceBEq,reduceIte,reduceCtorEq,Int.reduceLE,Int.reduceLT,Int.reduceToNat,Int.reduceEq,Int.reduceNe])
     | ((first|apply zk0|apply zk1|apply zk2|apply zk3|apply zk4|apply zk5|apply zk6|apply zk7|apply zk8|apply zk9) <;> intro hc)
     |(refine callP0 rfl ?_)
     |(refine callD0 rfl ?_)
     | fail)
    refine gG hF ⟨fz_ownc rfl rfl,fz_f,trivial⟩ ?_
    clear hF
    repeat' (first
     | (simp -implicitDefEqProofs only [*,addFp_wr,fEntry,List.map_cons,List.map_nil,zr,Nat.reduceAdd,Nat.reduceSub,Nat.reduceMul,Nat.reduceLT,Nat.reduceLeDiff,Nat.reduceEqDiff,Nat.reduceBEq,reduceIte,reduceCtorEq,Int.reduceLE,Int.reduceLT,Int.reduceToNat,Int.reduceEq,Int.reduceNe])
     | ((first|apply zk0|apply zk1|apply zk2|apply zk3|apply zk4|apply zk5|apply zk6|apply zk7|apply zk8|apply zk9) <;> intro hc)
     |(refine callP0 rfl ?_)
     |(refine callD0 rfl ?_)
     | fail)
    refine gM hIn [.sl 1031 1 3 0 E.length,.f (.int .i64 i),.sl 133 1 3 0 1] [] ?_
    clear hIn
    repeat' (first
     | (simp -implicitDefEqProofs only [*,addFp_wr,zr,Nat.reduceAdd,Nat.reduceSub,Nat.reduceMul,Nat.reduceLT,Nat.reduceLeDiff,Nat.reduceEqDiff,Nat.reduceBEq,reduceIte,reduceCtorEq,Int.reduceLE,Int.reduceLT,Int.reduceToNat,Int.reduceEq,Int.reduceNe])
     | ((first|apply zk0|apply zk1|apply zk2|apply zk3|apply zk4|apply zk5|apply zk6|apply zk7|apply zk8|apply zk9) <;> intro hc)
     |(refine callP0 rfl ?_)
     |(refine callD0 rfl ?_)
     | fail)
    refine ⟨(s + 1,K),[(134,1031)],hn.out,by dsimp only;omega,rfl,?_⟩
    refine wk_i ?_ ?_ <;> simp only [zw,Nat.reduceEqDiff,Nat.reduceBEq,Nat.reduceLT,Nat.reduceLeDiff,reduceIte,reduceCtorEq]
   ·obtain ⟨y,hy,hyd⟩ := hasE_at hs.rise hh
    rw [mgE1_old hh hy] at hn
    rw [hh] at hF
    change FRet _ _ _ [.c (.v (.int .i64 (eIdx E x.1))),_] at hF
    obtain ⟨i,hi⟩ : ∃ i,eIdx E x.1 = i := ⟨_,rfl⟩
    rw [hi] at hF hy hn
    have hlt2 := (List.getElem?_eq_some_iff.1 hy).1
    have hL := lt_t hlt2
    have q1 : (rowF fEntry E).length = E.length * 3 := row_len (sz := 3) (fun _ => rfl)
    have p3 : (i * 3 + 2 + 1 ≤ E.length * 3) = True := by rw [eq_iff_iff,iff_true];omega
    have c2 := row_cell (enc := fEntry) (sz := 3) (j := 2) (fun _ => rfl) hy (show _ = some (FV.int .i64 y.2.2) from rfl)
    have e1 := row_set1 (enc := fEntry) (sz := 3) (j := 2) (y := mxE y x) (v := .int .i64 (max y.2.2 x.2.2)) (fun _ => rfl) hy (by omega) rfl
    rw [splice_1] at e1
    replace hn := hide hn
    replace hs := hide hs
    replace hB := hide hB
    replace hyd := hide hyd
    repeat' (first
     | (simp -implicitDefEqProofs only [*,addFp_wr,fEntry,List.map_cons,List.map_nil,zr,Nat.reduceAdd,Nat.reduceSub,Nat.reduceMul,Nat.reduceLT,Nat.reduceLeDiff,Nat.reduceEqDiff,Nat.reduceBEq,reduceIte,reduceCtorEq,Int.reduceLE,Int.reduceLT,Int.reduceToNat,Int.reduceEq,Int.reduceNe])
     | ((first|apply zk0|apply zk1|apply zk2|apply zk3|apply zk4|apply zk5|apply zk6|apply zk7|apply zk8|apply zk9) <;> intro hc)
     |(refine callP0 rfl ?_)
     |(refine callD0 rfl ?_)
     | fail)
    refine gG hF ⟨fz_ownc rfl rfl,fz_f,trivial⟩ ?_
    clear hF
    repeat' (first
     | (simp -implicitDefEqProofs only [*,addFp_wr,fEntry,List.map_cons,List.map_nil,zr,Nat.reduceAdd,Nat.reduceSub,Nat.reduceMul,Nat.reduceLT,Nat.reduceLeDiff,Nat.reduceEqDiff,Nat.reduceBEq,reduceIte,reduceCtorEq,Int.reduceLE,Int.reduceLT,Int.reduceToNat,Int.reduceEq,Int.reduceNe])
     | ((first|apply zk0|apply zk1|apply zk2|apply zk3|apply zk4|apply zk5|apply zk6|apply zk7|apply zk8|apply zk9) <;> intro hc)
     |(refine callP0 rfl ?_)
     |(refine callD0 rfl ?_)
     | fail)
    refine ⟨(s + 1,E.set i (mxE y x)),[],hn.out,by dsimp only;omega,rfl,?_⟩
    refine wk_i ?_ ?_ <;> simp only [zw,Nat.reduceEqDiff,Nat.reduceBEq,Nat.reduceLT,Nat.reduceLeDiff,reduceIte,reduceCtorEq]
    simp
  ·obtain rfl : s = en2.length := by have := hs.le;omega
   have h2 := lt_f hge
   have h2i : decide ((en2.length : Int) < (en2.length : Int)) = false := dcF (by omega)
   have hEE : mgEL en en2 = E := by rw [hs.is,List.drop_length];rfl
   have hck := CheckCache_f isDigest_f (room,lease,B,E) ⟨by show (B.length : Int) ≤ _;omega,by have := hs.len;show (E.length : Int) ≤ _;omega,fun e he => by have := hs.rf e he;omega⟩
   have e1 := hE.out
   have e2 := hV.out
   rw [hB,hEE] at e1 e2
   simp only at e1 e2
   rw [← e1] at hck
   have e3 := hrs.out
   rw [e2] at e3
   clear hs hJ hrf hrf2 hE hV hrs hEE e1 e2 hB hBr
   dsimp only at e3
   by_cases hz : EE = 0
   ·rw [hz] at hck e3
    rw [if_pos rfl] at e3
    rw [e3]
    clear hmr e3 hz
    repeat' (first
     | (simp -implicitDefEqProofs only [*,addFp_wr,zr,Nat.reduceAdd,Nat.reduceSub,Nat.reduceMul,Nat.reduceLT,Nat.reduceLeDiff,Nat.reduceEqDiff,Nat.reduceBEq,reduceIte,reduceCtorEq,Int.reduceLE,Int.reduceLT,Int.reduceToNat,Int.reduceEq,Int.reduceNe])
     | ((first|apply zk0|apply zk1|apply zk2|apply zk3|apply zk4|apply zk5|apply zk6|apply zk7|apply zk8|apply zk9) <;> intro hc)
     |(refine callP0 rfl ?_)
     |(refine callD0 rfl ?_)
     | fail)
    refine gG hck ⟨fz_ownc rfl rfl,trivial⟩ ?_
    clear hck
    repeat' (first
     | (simp -implicitDefEqProofs only [*,addFp_wr,zr,Nat.reduceAdd,Nat.reduceSub,Nat.reduceMul,Nat.reduceLT,Nat.reduceLeDiff,Nat.reduceEqDiff,Nat.reduceBEq,reduceIte,reduceCtorEq,Int.reduceLE,Int.reduceLT,Int.reduceToNat,Int.reduceEq,Int.reduceNe])
     | ((first|apply zk0|apply zk1|apply zk2|apply zk3|apply zk4|apply zk5|apply zk6|apply zk7|apply zk8|apply zk9) <;> intro hc)
     |(refine callP0 rfl ?_)
     |(refine callD0 rfl ?_)
     | fail)
    exact ⟨[.agg [.f (.int .i64 room),.f (.int .i64 lease),.sl 31 1 5 0 B.length,.sl 1031 1 3 0 E.length],.f (.int .i64 0)],rfl,⟨⟨rfl,rfl,.inr ⟨31,1,rfl,rfl,lenB rfl⟩,.inr ⟨1031,1,rfl,rfl,lenE rfl⟩,rfl⟩,rfl,rfl⟩,by simp [idsS,idsC]⟩
   ·have dq : decide (EE = 0) = false := dcF hz
    clear e3
    replace hz := hide hz
    repeat' (first
     | (simp -implicitDefEqProofs only [*,addFp_wr,zr,Nat.reduceAdd,Nat.reduceSub,Nat.reduceMul,Nat.reduceLT,Nat.reduceLeDiff,Nat.reduceEqDiff,Nat.reduceBEq,reduceIte,reduceCtorEq,Int.reduceLE,Int.reduceLT,Int.reduceToNat,Int.reduceEq,Int.reduceNe])
     | ((first|apply zk0|apply zk1|apply zk2|apply zk3|apply zk4|apply zk5|apply zk6|apply zk7|apply zk8|apply zk9) <;> intro hc)
     |(refine callP0 rfl ?_)
     |(refine callD0 rfl ?_)
     | fail)
    refine gG hck ⟨fz_ownc rfl rfl,trivial⟩ ?_
    clear hck
    repeat' (first
     | (simp -implicitDefEqProofs only [*,addFp_wr,zr,Nat.reduceAdd,Nat.reduceSub,Nat.reduceMul,Nat.reduceLT,Nat.reduceLeDiff,Nat.reduceEqDiff,Nat.reduceBEq,reduceIte,reduceCtorEq,Int.reduceLE,Int.reduceLT,Int.reduceToNat,Int.reduceEq,Int.reduceNe])
     | ((first|apply zk0|apply zk1|apply zk2|apply zk3|apply zk4|apply zk5|apply zk6|apply zk7|apply zk8|apply zk9) <;> intro hc)
     |(refine callP0 rfl ?_)
     |(refine callD0 rfl ?_)
     | fail)
    exact hmr.out _ _ rfl hz.out
end Go.Proofs.YtalfepdfiehecaaDoor
