/-
  Right caches, told by their parts; what is swept is right. No statement of the seat is proved here; no conditions.
-/
import Derived.Test.YtanhelgblnmdcaaDoorCaW
import Derived.Test.YtanhelgblnmdcaaDoorCaQ
import Derived.Test.YtanhelgblnmdcaaDoorCaL
namespace Go.Proofs.YtanhelgblnmdcaaDoor
open Go.RowKit Go.Shelf
set_option linter.unusedVariables false
set_option linter.unusedSimpArgs false
set_option maxRecDepth 100000

theorem mem_keep {α : Type} {p : α → Bool} {l : List α} {x : α} : x ∈ keepL p l ↔ x ∈ l ∧ p x = false := by
 rw [keepL,List.mem_filter];simp
theorem rising_pw {α : Type} {key : α → ByteArray} {l : List α} : Rising key l ↔ l.Pairwise fun x y => strLt (key x) (key y) = true := by
 rw [List.pairwise_iff_getElem]
 constructor
 ·intro h i j hi hj hij
  exact h i j _ _ hij (List.getElem?_eq_getElem hi) (List.getElem?_eq_getElem hj)
 ·intro h i j x y hij hx hy
  obtain ⟨hi,rfl⟩ := List.getElem?_eq_some_iff.1 hx
  obtain ⟨hj,rfl⟩ := List.getElem?_eq_some_iff.1 hy
  exact h i j hi hj hij
theorem rising_keep {α : Type} {key : α → ByteArray} {l : List α} (p : α → Bool) (h : Rising key l) : Rising key (keepL p l) := rising_pw.2 ((rising_pw.1 h).sublist List.filter_sublist)
theorem sum_keep (p : Blob → Bool) : ∀ l : List Blob,(∀ b ∈ l,0 ≤ b.2.1) → sumSz (keepL p l) ≤ sumSz l
 | [],_ => Int.le_refl _
 | b :: l,h => by
  have ih := sum_keep p l fun x hx => h x (by simp [hx])
  have hb := h b (by simp)
  simp only [keepL] at ih ⊢
  cases hp : p b <;> simp [List.filter_cons,hp,sumSz] <;> omega
theorem leS_of_lt {a b : ByteArray} (h : strLt a b = true) : leS b a = false := by
 unfold leS
 rw [strLt_asymm h,Bool.false_or,decide_eq_false_iff_not]
 exact fun e => strLt_ne h e.symm
theorem prevV_ok {α : Type} {key : α → ByteArray} {l : List α} {m : Nat} {b : α} (hr : Rising key l) (hb : l[m]? = some b) : prevV l m (fun e => if leS (key b) (key e) = true then (8 : Int) else 0) = 0 := by
 unfold prevV
 split
 ·rfl
 ·rename_i h
  split
  ·rename_i e he
   show (if leS (key b) (key e) = true then (8 : Int) else 0) = 0
   rw [leS_of_lt (hr (m - 1) m e b (by omega) he hb)];rfl
  ·rfl
theorem rising_prev {α : Type} {key : α → ByteArray} {l : List α} (h : ∀ (m : Nat) b,l[m]? = some b → prevV l m (fun e => if leS (key b) (key e) = true then (8 : Int) else 0) = 0) : Rising key l := rising_of fun i x y hx hy =>
 leS_false (prevV_zero (p := fun e => leS (key y) (key e)) hx (by decide) (h (i + 1) y hy))
def blobOk (b : Blob) : Bool := isDig b.1 && (inRg b.2.1 0 100000000 && inRg b.2.2.1 0 1000000000 && inRg b.2.2.2.1 0 1001000000 && inRg b.2.2.2.2 0 3000)
theorem blobErr_iff {l : List Blob} {m : Nat} {b : Blob} (hb : l[m]? = some b) : blobErr l m = 0 ↔ blobOk b = true ∧ prevV l m (fun e => if leS b.1 e.1 = true then (8 : Int) else 0) = 0 := by
 rw [blobErr_of hb,blobOk]
 generalize isDig b.1 = a
 generalize (inRg b.2.1 0 100000000 && inRg b.2.2.1 0 1000000000 && inRg b.2.2.2.1 0 1001000000 && inRg b.2.2.2.2 0 3000) = r
 cases a <;> cases r <;> simp
theorem blobs_iff {l : List Blob} : (∀ m,m < l.length → blobErr l m = 0) ↔ (∀ b ∈ l,blobOk b = true) ∧ Rising (fun b : Blob => b.1) l := by
 constructor
 ·intro h
  refine ⟨fun b hb => ?_,rising_prev fun m b hb => ((blobErr_iff hb).1 (h m (List.getElem?_eq_some_iff.1 hb).1)).2⟩
  obtain ⟨m,hm⟩ := List.mem_iff_getElem?.1 hb
  exact ((blobErr_iff hm).1 (h m (List.getElem?_eq_some_iff.1 hm).1)).1
 ·rintro ⟨h1,h2⟩ m hm
  obtain ⟨b,hb⟩ := get_some hm
  exact (blobErr_iff hb).2 ⟨h1 b (List.mem_of_getElem? hb),prevV_ok h2 hb⟩
def entOk (e : Entry) : Bool := isDig e.1 && (decide (ckDigsM e.2.1 200 = 0) && inRg e.2.2 0 1000000000)
theorem entErr_iff {l : List Entry} {m : Nat} {b : Entry} (hb : l[m]? = some b) : entErr l m = 0 ↔ entOk b = true ∧ prevV l m (fun e => if leS b.1 e.1 = true then (8 : Int) else 0) = 0 := by
 rw [entErr_of hb,entOk]
 generalize isDig b.1 = a
 generalize ckDigsM b.2.1 200 = k
 generalize inRg b.2.2 0 1000000000 = r
 by_cases hk : k = 0
 ·cases a <;> cases r <;> simp [hk]
 ·cases a <;> cases r <;> simp [hk]
theorem ents_iff {l : List Entry} : (∀ m,m < l.length → entErr l m = 0) ↔ (∀ b ∈ l,entOk b = true) ∧ Rising (fun b : Entry => b.1) l := by
 constructor
 ·intro h
  refine ⟨fun b hb => ?_,rising_prev fun m b hb => ((entErr_iff hb).1 (h m (List.getElem?_eq_some_iff.1 hb).1)).2⟩
  obtain ⟨m,hm⟩ := List.mem_iff_getElem?.1 hb
  exact ((entErr_iff hm).1 (h m (List.getElem?_eq_some_iff.1 hm).1)).1
 ·rintro ⟨h1,h2⟩ m hm
  obtain ⟨b,hb⟩ := get_some hm
  exact (entErr_iff hb).2 ⟨h1 b (List.mem_of_getElem? hb),prevV_ok h2 hb⟩
structure CRight (c : Cache) : Prop where
 room : inRg c.1 0 1000000000 = true
 lease : inRg c.2.1 0 1000000 = true
 blen : c.2.2.1.length ≤ 3000
 bok : ∀ b ∈ c.2.2.1,blobOk b = true
 brise : Rising (fun b : Blob => b.1) c.2.2.1
 bsum : sumSz c.2.2.1 ≤ c.1
 elen : c.2.2.2.length ≤ 1000
 eok : ∀ e ∈ c.2.2.2,entOk e = true
 erise : Rising (fun b : Entry => b.1) c.2.2.2
theorem right_iff {c : Cache} : ckCache c = 0 ↔ CRight c := by
 constructor
 ·intro h
  have ho := cok_of h
  obtain ⟨b1,b2⟩ := blobs_iff.1 ho.berr
  obtain ⟨e1,e2⟩ := ents_iff.1 ho.eerr
  have hr := ho.room
  have hl := ho.lease
  exact ⟨by simp [inRg];omega,by simp [inRg];omega,ho.blen,b1,b2,ho.bsum,ho.elen,e1,e2⟩
 ·intro h
  have hb := fe_none (blobs_iff.2 ⟨h.bok,h.brise⟩)
  have he := fe_none (ents_iff.2 ⟨h.eok,h.erise⟩)
  have h1 : ckBlobs c.2.2.1 c.1 = 0 := by
   unfold ckBlobs
   have := h.blen
   have := h.bsum
   rw [if_neg (by omega),hb,if_neg (by simp),if_neg (by omega)]
  unfold ckCache
  have := h.elen
  rw [h.room,h.lease,if_pos (by rfl),h1,if_neg (by simp),if_neg (by omega),he]
theorem mem_of_keep {α : Type} {p : α → Bool} {l : List α} {x : α} (h : x ∈ keepL p l) : x ∈ l := (mem_keep.1 h).1
theorem keep_le {α : Type} (p : α → Bool) (l : List α) : (keepL p l).length ≤ l.length := List.length_filter_le _ _
theorem blobOk_size {b : Blob} (h : blobOk b = true) : 0 ≤ b.2.1 := by
 simp [blobOk,inRg] at h;omega
open Go.RowKit Go.Shelf
set_option linter.unusedVariables false
set_option linter.unusedSimpArgs false
set_option maxRecDepth 100000

open Go.RowKit
set_option linter.unusedVariables false
set_option linter.unusedSimpArgs false

theorem args3 {G : Ghost} {Z : Nat → Prop} {w : World} {a b c : AV} {u v x : Value} (h1 : RepA G Z w a u) (h2 : RepA G Z w b v) (h3 : RepA G Z w c x) : ∀ (j : Nat) (y : AV) (z : Value),[a,b,c][j]? = some y → (#[u,v,x] : Array Value)[j]? = some z → RepA G Z w y z := by
 intro j y z hy hz
 rcases j with _ | _ | _ | j
 ·obtain rfl := Option.some.inj hy;simp at hz;subst hz;exact h1
 ·obtain rfl := Option.some.inj hy;simp at hz;subst hz;exact h2
 ·obtain rfl := Option.some.inj hy;simp at hz;subst hz;exact h3
 ·simp at hy
end Go.Proofs.YtanhelgblnmdcaaDoor
