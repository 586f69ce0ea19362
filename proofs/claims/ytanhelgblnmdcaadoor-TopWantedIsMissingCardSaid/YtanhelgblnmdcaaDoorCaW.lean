/-
  The cache's Whole on the machine. No statement of the seat is proved here; no conditions.
-/
import Derived.Test.YtanhelgblnmdcaaDoorCaU
namespace Go.Proofs.YtanhelgblnmdcaaDoor
open Go.RowKit Go.Shelf
set_option linter.unusedVariables false
set_option linter.unusedSimpArgs false
set_option maxRecDepth 100000

def alsoOf (bl : List Blob) (roots : List ByteArray) (en : List Entry) : List ByteArray := (en.filter fun e => hasS e.1 roots && decide ((missingOf bl e.2.1).length = 0)).flatMap fun e => e.2.1
def wantOf (c : Cache) (roots : List ByteArray) : List ByteArray := roots ++ alsoOf c.2.2.1 roots c.2.2.2
def goneB (c : Cache) (roots : List ByteArray) (at_ : Int) : List Blob := keepL (fun b : Blob => heldB b at_ || hasS b.1 (wantOf c roots)) c.2.2.1
def goneOf (c : Cache) (roots : List ByteArray) (at_ : Int) : List ByteArray := (goneB c roots at_).map fun b => b.1
def swept (c : Cache) (roots : List ByteArray) (at_ : Int) : Cache := (c.1,c.2.1,keepL (fun b : Blob => hasS b.1 (goneOf c roots at_)) c.2.2.1,keepL (fun e : Entry => !hasS e.1 roots) c.2.2.2)
def zB (n : Nat) : List FV := (List.replicate n [FV.str ⟨#[]⟩,.int .i64 0,.int .i64 0,.int .i64 0,.int .i64 0]).flatten
def zE (n : Nat) : List FV := (List.replicate n [FV.str ⟨#[]⟩,.nil,.int .i64 0]).flatten
theorem rowB_plain (l : List Blob) (x : List FV) (hx : x.all FV.plain = true) : (rowF fBlob l ++ x).all FV.plain = true := by
 rw [List.all_append,hx,Bool.and_true]
 induction l with
 | nil => rfl
 | cons b l ih => rw [row_cons,List.all_append,ih];rfl
theorem so_strsN {H H' : Heap} {nw : List Nat} {id ver n : Nat} {l : List ByteArray} (hd : (H' id).2 = none) (hc : cellsOf ver (H id) = some ((l.map FV.str).map .f)) (hn : n = l.length) : SlotOk H H' nw (.sl id ver 1 0 n) (.f (frStrs l)) := by subst hn;exact so_strs hd hc
theorem hasE_at {en : List Entry} {key : ByteArray} (hr : Rising (fun b : Entry => b.1) en) (h : hasE en key = true) : ∃ e,en[eIdx en key]? = some e ∧ e.1 = key := by
 have h1 : bsHit (fun b : Entry => cmpB b.1 key) en = true := by rw [bsHit_eq hr];exact h
 unfold bsHit at h1
 unfold eIdx
 split at h1
 ·rename_i x hx;exact ⟨x,hx,cmpB_eq.1 (of_decide_eq_true h1)⟩
 ·cases h1
end Go.Proofs.YtanhelgblnmdcaaDoor
