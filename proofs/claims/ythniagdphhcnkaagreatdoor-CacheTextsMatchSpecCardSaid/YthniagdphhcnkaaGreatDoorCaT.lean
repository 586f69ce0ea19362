/-
  The cache's data, as plain lists and as values of the machine; checks of digests, contents and entries. No statement of the seat is proved here; no conditions.
-/
import Derived.Test.YthniagdphhcnkaaGreatDoorOrd
import Derived.Lib.SlTrimSet
namespace Go.Proofs.YthniagdphhcnkaaGreatDoor
open Go.RowKit
set_option linter.unusedVariables false
set_option linter.unusedSimpArgs false

abbrev Blob := ByteArray × Int × Int × Int × Int
abbrev Entry := ByteArray × List ByteArray × Int
abbrev Cache := Int × Int × List Blob × List Entry
def frStrs (l : List ByteArray) : FV := .fr 1 (l.map fun s => [.str s])
def fBlob (b : Blob) : List FV := [.str b.1,.int .i64 b.2.1,.int .i64 b.2.2.1,.int .i64 b.2.2.2.1,.int .i64 b.2.2.2.2]
def fEntry (e : Entry) : List FV := [.str e.1,frStrs e.2.1,.int .i64 e.2.2]
def frBlobs (l : List Blob) : FV := .fr 5 (l.map fBlob)
def frEntries (l : List Entry) : FV := .fr 3 (l.map fEntry)
def aCache (c : Cache) : AV := .agg [.f (.int .i64 c.1),.f (.int .i64 c.2.1),.f (frBlobs c.2.2.1),.f (frEntries c.2.2.2)]
def inRg (n l h : Int) : Bool := decide (l ≤ n) && decide (n ≤ h)
def hexS : List UInt8 := [48,49,50,51,52,53,54,55,56,57,97,98,99,100,101,102]
def isDig (s : ByteArray) : Bool := s.size == 16 && (Lib.trimS s.data.toList hexS).isEmpty
def digErr (l : List ByteArray) (i : Nat) : Int := match l[i]? with
 | none => 0
 | some d => if isDig d = true then prevV l i (fun e => if leS d e = true then 8 else 0) else 3
theorem digErr_of {l : List ByteArray} {i : Nat} {d : ByteArray} (h : l[i]? = some d) : digErr l i = if isDig d = true then prevV l i (fun e => if leS d e = true then 8 else 0) else 3 := by unfold digErr;rw [h]
def ckDigs (l : List ByteArray) : Int := firstErr (digErr l) 0 l.length
def ckDigsM (l : List ByteArray) (most : Int) : Int := if most < l.length then 2 else ckDigs l
def blobErr (l : List Blob) (i : Nat) : Int := match l[i]? with
 | none => 0
 | some b => if isDig b.1 = true then (if (inRg b.2.1 0 100000000 && inRg b.2.2.1 0 1000000000 && inRg b.2.2.2.1 0 1001000000 && inRg b.2.2.2.2 0 3000) = true then prevV l i (fun e => if leS b.1 e.1 = true then 8 else 0) else 1) else 3
theorem blobErr_of {l : List Blob} {i : Nat} {b : Blob} (h : l[i]? = some b) : blobErr l i = if isDig b.1 = true then (if (inRg b.2.1 0 100000000 && inRg b.2.2.1 0 1000000000 && inRg b.2.2.2.1 0 1001000000 && inRg b.2.2.2.2 0 3000) = true then prevV l i (fun e => if leS b.1 e.1 = true then 8 else 0) else 1) else 3 := by unfold blobErr;rw [h]
def sumSz : List Blob → Int
 | [] => 0
 | b :: l => b.2.1 + sumSz l
def ckBlobs (l : List Blob) (room : Int) : Int := if (3000 : Int) < l.length then 2 else if firstErr (blobErr l) 0 l.length ≠ 0 then firstErr (blobErr l) 0 l.length else if room < sumSz l then 16 else 0
def entErr (l : List Entry) (i : Nat) : Int := match l[i]? with
 | none => 0
 | some e => if isDig e.1 = true then (if ckDigsM e.2.1 200 ≠ 0 then ckDigsM e.2.1 200 else if inRg e.2.2 0 1000000000 = true then prevV l i (fun d => if leS e.1 d.1 = true then 8 else 0) else 1) else 3
theorem entErr_of {l : List Entry} {i : Nat} {e : Entry} (h : l[i]? = some e) : entErr l i = if isDig e.1 = true then (if ckDigsM e.2.1 200 ≠ 0 then ckDigsM e.2.1 200 else if inRg e.2.2 0 1000000000 = true then prevV l i (fun d => if leS e.1 d.1 = true then 8 else 0) else 1) else 3 := by unfold entErr;rw [h]
def ckCache (c : Cache) : Int := if (inRg c.1 0 1000000000 && inRg c.2.1 0 1000000) = true then (if ckBlobs c.2.2.1 c.1 ≠ 0 then ckBlobs c.2.2.1 c.1 else if (1000 : Int) < c.2.2.2.length then 2 else firstErr (entErr c.2.2.2) 0 c.2.2.2.length) else 1
def emptyC : Cache := (0,0,[],[])
def rcCache (c : Cache) : List RC := [.v (.int .i64 c.1),.v (.int .i64 c.2.1),.v (frBlobs c.2.2.1),.v (frEntries c.2.2.2)]
def okNew (room lease : Int) : Bool := inRg room 0 1000000000 && inRg lease 0 1000000
theorem ckCache_new (room lease : Int) : ckCache (room,lease,[],[]) = if okNew room lease = true then 0 else 1 := by
 cases h : okNew room lease
 ·unfold okNew at h
  simp [ckCache,h]
 ·have h' := h
  unfold okNew at h
  have h2 : ¬ room < 0 := by simp [inRg] at h;omega
  simp [ckCache,h,ckBlobs,firstErr,sumSz,h2]
theorem blobErr_zero {l : List Blob} {i : Nat} {b : Blob} (hb : l[i]? = some b) (h : blobErr l i = 0) : isDig b.1 = true ∧ (0 ≤ b.2.1 ∧ b.2.1 ≤ 100000000) := by
 unfold blobErr at h
 rw [hb] at h
 simp only at h
 by_cases h1 : isDig b.1 = true
 ·refine ⟨h1,?_⟩
  rw [if_pos h1] at h
  by_cases h2 : (inRg b.2.1 0 100000000 && inRg b.2.2.1 0 1000000000 && inRg b.2.2.2.1 0 1001000000 && inRg b.2.2.2.2 0 3000) = true
  ·simp [inRg] at h2;omega
  ·rw [if_neg h2] at h;cases h
 ·rw [if_neg h1] at h;cases h
theorem sum_range {l : List Blob} {B : Int} (h : ∀ b ∈ l,0 ≤ b.2.1 ∧ b.2.1 ≤ B) : 0 ≤ sumSz l ∧ sumSz l ≤ B * l.length := by
 induction l with
 | nil => simp [sumSz]
 | cons b l ih =>
  have h1 := h b (by simp)
  have h2 := ih fun x hx => h x (by simp [hx])
  simp only [sumSz,List.length_cons,Int.natCast_add,Int.mul_add]
  omega
theorem sum_append (l m : List Blob) : sumSz (l ++ m) = sumSz l + sumSz m := by
 induction l with
 | nil => simp [sumSz]
 | cons b l ih => simp only [List.cons_append,sumSz,ih];omega
theorem sum_snoc {l : List Blob} {i : Nat} {b : Blob} (hb : l[i]? = some b) : sumSz (l.take (i + 1)) = sumSz (l.take i) + b.2.1 := by
 rw [List.take_add_one,hb,sum_append];simp [sumSz]
def wsum (l : List Blob) : Int := l.foldl (fun a b => IntKind.i64.wrap (a + b.2.1)) 0
theorem wsum_nil : wsum [] = 0 := rfl
theorem wsum_snoc {l : List Blob} {i : Nat} {b : Blob} (hb : l[i]? = some b) : wsum (l.take (i + 1)) = IntKind.i64.wrap (wsum (l.take i) + b.2.1) := by
 rw [List.take_add_one,hb,wsum,List.foldl_append];rfl
theorem wsum_go (l : List Blob) : ∀ a : Int,0 ≤ a → a + sumSz l ≤ 9223372036854775807 → (∀ b ∈ l,0 ≤ b.2.1) → l.foldl (fun a b => IntKind.i64.wrap (a + b.2.1)) a = a + sumSz l := by
 induction l with
 | nil => intro a _ _ _;simp [sumSz]
 | cons b l ih =>
  intro a h0 h1 h2
  have hb := h2 b (by simp)
  have hl : ∀ x ∈ l,0 ≤ x.2.1 := fun x hx => h2 x (by simp [hx])
  have hs : 0 ≤ sumSz l := by
   clear ih h1 h2
   induction l with
   | nil => simp [sumSz]
   | cons c l ih2 => have := hl c (by simp);have := ih2 fun x hx => hl x (by simp [hx]);simp only [sumSz];omega
  simp only [sumSz] at h1
  rw [List.foldl_cons,wrap64 (by omega) (by omega),ih _ (by omega) (by omega) hl,sumSz];omega
theorem wsum_eq {l : List Blob} (hl : l.length ≤ 100000) (h : ∀ b ∈ l,0 ≤ b.2.1 ∧ b.2.1 ≤ 100000000) : wsum l = sumSz l := by
 have := sum_range h
 rw [wsum,wsum_go l 0 (by omega) (by omega) (fun b hb => (h b hb).1)];omega
theorem take_range {l : List Blob} {i : Nat} (hi : i ≤ l.length) (h : ∀ m,m < i → blobErr l m = 0) : ∀ b ∈ l.take i,0 ≤ b.2.1 ∧ b.2.1 ≤ 100000000 := fun b hb => by
 obtain ⟨m,hm,rfl⟩ := List.mem_iff_getElem.1 hb
 rw [List.length_take] at hm
 refine (blobErr_zero ?_ (h m (by omega))).2
 rw [List.getElem_take];exact List.getElem?_eq_getElem (by omega)
end Go.Proofs.YthniagdphhcnkaaGreatDoor
