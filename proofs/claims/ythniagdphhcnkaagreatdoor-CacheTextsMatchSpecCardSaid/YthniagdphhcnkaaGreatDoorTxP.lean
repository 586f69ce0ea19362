/-
  A cache's text: plain functions, their sizes. No statement of the seat is proved here; no conditions.
-/
import Derived.Test.YthniagdphhcnkaaGreatDoorTxK
import Derived.Test.YthniagdphhcnkaaGreatDoorTxD
import Derived.Lib.ItoaLen
namespace Go.Proofs.YthniagdphhcnkaaGreatDoor
open Go.RowKit Go.Shelf
set_option linter.unusedVariables false
set_option linter.unusedSimpArgs false
set_option maxRecDepth 100000

def wHead (c : Cache) : List ByteArray := [cacheW,itB c.1,itB c.2.1]
def wBlob (b : Blob) : List ByteArray := [blobW,b.1,itB b.2.1,itB b.2.2.1,itB b.2.2.2.1,itB b.2.2.2.2]
def wEnt (e : Entry) : List ByteArray := [entryW,e.1,itB e.2.2] ++ e.2.1
def txH (c : Cache) : ByteArray := lnB (wHead c)
def txBl (c : Cache) (l : List Blob) : ByteArray := l.foldl (fun a b => a ++ lnB (wBlob b)) (txH c)
def txEn (c : Cache) (l : List Entry) : ByteArray := l.foldl (fun a e => a ++ lnB (wEnt e)) (txBl c c.2.2.1)
def txtB (c : Cache) : ByteArray := txEn c c.2.2.2
theorem txBl_snoc {c : Cache} {l : List Blob} {i : Nat} {b : Blob} (h : l[i]? = some b) : txBl c (l.take (i + 1)) = txBl c (l.take i) ++ lnB (wBlob b) := by
 unfold txBl
 rw [List.take_add_one,h,List.foldl_append];rfl
theorem txEn_snoc {c : Cache} {l : List Entry} {i : Nat} {e : Entry} (h : l[i]? = some e) : txEn c (l.take (i + 1)) = txEn c (l.take i) ++ lnB (wEnt e) := by
 unfold txEn
 rw [List.take_add_one,h,List.foldl_append];rfl
structure TxOk (c : Cache) : Prop where
 room : 0 ≤ c.1 ∧ c.1 ≤ 9999999999
 lease : 0 ≤ c.2.1 ∧ c.2.1 ≤ 9999999999
 blen : c.2.2.1.length ≤ 3000
 bl : ∀ b ∈ c.2.2.1,isDig b.1 = true ∧ (0 ≤ b.2.1 ∧ b.2.1 ≤ 9999999999) ∧ (0 ≤ b.2.2.1 ∧ b.2.2.1 ≤ 9999999999) ∧ (0 ≤ b.2.2.2.1 ∧ b.2.2.2.1 ≤ 9999999999) ∧ (0 ≤ b.2.2.2.2 ∧ b.2.2.2.2 ≤ 9999999999)
 elen : c.2.2.2.length ≤ 1000
 en : ∀ e ∈ c.2.2.2,isDig e.1 = true ∧ (0 ≤ e.2.2 ∧ e.2.2 ≤ 9999999999) ∧ e.2.1.length ≤ 200 ∧ ∀ d ∈ e.2.1,isDig d = true
theorem txOk_of {c : Cache} (h : ckCache c = 0) : TxOk c := by
 have hk := cok_of h
 refine ⟨by have := hk.room;omega,by have := hk.lease;omega,hk.blen,fun b hb => ?_,hk.elen,fun e he => ?_⟩
 ·obtain ⟨m,hm⟩ := List.mem_iff_getElem?.1 hb
  have h1 := hk.berr m (List.getElem?_eq_some_iff.1 hm).1
  rw [blobErr_of hm] at h1
  split at h1
  ·rename_i hd
   split at h1
   ·rename_i hr
    simp [inRg] at hr
    exact ⟨hd,by omega,by omega,by omega,by omega⟩
   ·cases h1
  ·cases h1
 ·obtain ⟨m,hm⟩ := List.mem_iff_getElem?.1 he
  obtain ⟨h1,h2,h3,_,h4,h5⟩ := entErr_zero hm (hk.eerr m (List.getElem?_eq_some_iff.1 hm).1)
  refine ⟨h1,by omega,h2,fun d hd => ?_⟩
  obtain ⟨k,hk⟩ := List.mem_iff_getElem?.1 hd
  have h6 := fe_zero h3 k (List.getElem?_eq_some_iff.1 hk).1
  rw [digErr_of hk] at h6
  split at h6
  ·assumption
  ·cases h6
theorem isDig_size {s : ByteArray} (h : isDig s = true) : s.size = 16 := by
 unfold isDig at h
 rw [Bool.and_eq_true] at h
 simpa using h.1
theorem itB_size (n : Int) (h0 : 0 ≤ n) (h1 : n ≤ 9999999999) : (itB n).size ≤ 10 ∧ 1 ≤ (itB n).size := by
 obtain ⟨h2,_⟩ := num_it h0 h1
 obtain ⟨h3,h4,_⟩ := numOk_parts h2
 have e : (itB n).data.toList.length = (itB n).size := by simp
 omega
theorem joinW_size (M : Nat) : ∀ ws : List ByteArray,(∀ x ∈ ws,x.size ≤ M) → (joinW ws).size ≤ ws.length * (M + 1)
 | [],_ => by show (Lib.join [] _).toArray.size ≤ _;simp [Lib.join_nil]
 | [x],h => by
  have hx := h x List.mem_cons_self
  have e : (joinW [x]).size = x.size := by
   show (Lib.join [x.data.toList] _).toArray.size = _
   rw [Lib.join_one];simp
  rw [e,List.length_singleton];omega
 | x :: y :: r,h => by
  have hx := h x List.mem_cons_self
  have ih := joinW_size M (y :: r) fun z hz => h z (List.mem_cons_of_mem _ hz)
  have e : (joinW (x :: y :: r)).size = x.size + 1 + (joinW (y :: r)).size := by
   show (Lib.join (x.data.toList :: y.data.toList :: r.map (·.data.toList)) [32]).toArray.size = x.size + 1 + (Lib.join (y.data.toList :: r.map (·.data.toList)) [32]).toArray.size
   rw [join_two]
   simp
   omega
  rw [e,List.length_cons,Nat.add_mul]
  omega
theorem lnB_size (ws : List ByteArray) : (lnB ws).size = (joinW ws).size + 1 := by unfold lnB;rw [ByteArray.size_append];rfl
theorem wHead_size {c : Cache} (h : TxOk c) : (joinW (wHead c)).size ≤ 60 := by
 have h1 := itB_size c.1 h.room.1 h.room.2
 have h2 := itB_size c.2.1 h.lease.1 h.lease.2
 have := joinW_size 16 (wHead c) fun x hx => by
  simp only [wHead,List.mem_cons,List.not_mem_nil,or_false] at hx
  rcases hx with rfl | rfl | rfl
  ·show 5 ≤ 16;decide
  ·omega
  ·omega
 simp only [wHead,List.length_cons,List.length_nil] at this ⊢
 omega
theorem wBlob_size {c : Cache} (h : TxOk c) {b : Blob} (hb : b ∈ c.2.2.1) : (joinW (wBlob b)).size ≤ 110 := by
 obtain ⟨h0,h1,h2,h3,h4⟩ := h.bl b hb
 have g0 := isDig_size h0
 have g1 := itB_size _ h1.1 h1.2
 have g2 := itB_size _ h2.1 h2.2
 have g3 := itB_size _ h3.1 h3.2
 have g4 := itB_size _ h4.1 h4.2
 have := joinW_size 16 (wBlob b) fun x hx => by
  simp only [wBlob,List.mem_cons,List.not_mem_nil,or_false] at hx
  rcases hx with rfl | rfl | rfl | rfl | rfl | rfl
  ·show 4 ≤ 16;decide
  all_goals omega
 simp only [wBlob,List.length_cons,List.length_nil] at this ⊢
 omega
theorem wEnt_size {c : Cache} (h : TxOk c) {e : Entry} (he : e ∈ c.2.2.2) : (joinW (wEnt e)).size ≤ 3500 := by
 obtain ⟨h0,h1,h2,h3⟩ := h.en e he
 have g0 := isDig_size h0
 have g1 := itB_size _ h1.1 h1.2
 have := joinW_size 16 (wEnt e) fun x hx => by
  simp only [wEnt,List.cons_append,List.nil_append,List.mem_cons] at hx
  rcases hx with rfl | rfl | rfl | hx
  ·show 5 ≤ 16;decide
  ·omega
  ·omega
  ·have := isDig_size (h3 x hx);omega
 have hl : (wEnt e).length = 3 + e.2.1.length := by simp [wEnt];omega
 rw [hl] at this
 omega
theorem txBl_size {c : Cache} (h : TxOk c) : ∀ n,n ≤ c.2.2.1.length → 0 < (txBl c (c.2.2.1.take n)).size ∧ (txBl c (c.2.2.1.take n)).size ≤ 61 + n * 111
 | 0,_ => by
  have := wHead_size h
  show 0 < (lnB (wHead c)).size ∧ (lnB (wHead c)).size ≤ _
  rw [lnB_size];omega
 | n + 1,hn => by
  obtain ⟨b,hb⟩ := get_some (l := c.2.2.1) (i := n) (by omega)
  have ih := txBl_size h n (by omega)
  have := wBlob_size h (List.mem_of_getElem? hb)
  rw [txBl_snoc hb,ByteArray.size_append,lnB_size]
  omega
theorem txEn_size {c : Cache} (h : TxOk c) : ∀ n,n ≤ c.2.2.2.length → 0 < (txEn c (c.2.2.2.take n)).size ∧ (txEn c (c.2.2.2.take n)).size ≤ 400000 + n * 3501
 | 0,_ => by
  have := txBl_size h c.2.2.1.length (Nat.le_refl _)
  rw [List.take_length] at this
  have hb := h.blen
  show 0 < (txBl c c.2.2.1).size ∧ (txBl c c.2.2.1).size ≤ _
  omega
 | n + 1,hn => by
  obtain ⟨e,he⟩ := get_some (l := c.2.2.2) (i := n) (by omega)
  have ih := txEn_size h n (by omega)
  have := wEnt_size h (List.mem_of_getElem? he)
  rw [txEn_snoc he,ByteArray.size_append,lnB_size]
  omega
def TextV (c : Cache) : ByteArray × Int := if ckCache c = 0 then (if 2000000 < (txtB c).size then (⟨#[]⟩,2) else (txtB c,0)) else (⟨#[]⟩,ckCache c)
end Go.Proofs.YthniagdphhcnkaaGreatDoor
