/-
  Patch as a plain function. No statement of the seat is proved here; no conditions.
-/
import Derived.Test.YteoojplgchlhcaaRgE
namespace Go.Proofs.Yteoojplgchlhcaa
open Go.RowKit
set_option linter.unusedVariables false
set_option linter.unusedSimpArgs false

abbrev Chunk := Int × List UInt8
def fCh (x : Chunk) : List FV := [.int .i64 x.1, frBy x.2]
def frCh (l : List Chunk) : FV := .fr 2 (l.map fCh)
def chOk (m : Int) (x : Chunk) : Bool := inR x.1 0 m && !decide (m - x.1 < x.2.length)
def putB (f : Nat → Option UInt8) (k : Nat) : List UInt8 → Option (Nat → Option UInt8)
  | [] => some f
  | c :: r => if (f k).isSome && !decide (((f k).getD 0).toNat = c.toNat) then none else putB (fun i => if i = k then some c else f i) (k + 1) r
def putAll (f : Nat → Option UInt8) : List Chunk → Option (Nat → Option UInt8)
  | [] => some f
  | x :: r => match putB f x.1.toNat x.2 with
    | none => none
    | some g => putAll g r
def byF (m : Nat) (f : Nat → Option UInt8) : List UInt8 := (List.range m).map fun i => (f i).getD 0
def haF (m : Nat) (f : Nat → Option UInt8) : List Bool := (List.range m).map fun i => (f i).isSome
def patch (parts : List Chunk) (size : Int) : List UInt8 × Int :=
  if inR size 0 2000000 = false then ([], 1) else if parts.length > 20000 then ([], 2) else if parts.all (chOk size) = false then ([], 1) else
  match putAll (fun _ => none) parts with
  | none => ([], 12)
  | some f => if false ∈ haF size.toNat f then ([], 9) else (byF size.toNat f, 0)
def flBy (l : List UInt8) : List FV := l.map fun b => .int .u8 b.toNat
theorem row_get {α : Type} {m k : Nat} {g : Nat → α} (hk : k < m) : ((List.range m).map g)[k]? = some (g k) := by simp [hk]
theorem row_set {α : Type} {m k : Nat} {g h : Nat → α} {v : α} (hh : ∀ i, i < m → h i = if i = k then v else g i) : ((List.range m).map g).set k v = (List.range m).map h := by
  apply List.ext_getElem?
  intro i
  rw [List.getElem?_set]
  by_cases hi : i < m
  · rw [row_get (g := g) hi, row_get (g := h) hi, hh i hi]
    by_cases e : k = i
    · subst e; simp [hi]
    · rw [if_neg e, if_neg (Ne.symm e)]
  · rw [List.getElem?_eq_none (l := (List.range m).map h) (by simp; omega)]
    split
    · split
      · rename_i h1 h2; simp at h2; omega
      · rfl
    · exact List.getElem?_eq_none (by simp; omega)
def ouC (m : Nat) (f : Nat → Option UInt8) : List AV := (List.range m).map fun i => .f (.int .u8 (((f i).getD 0).toNat : Int))
def haC (m : Nat) (f : Nat → Option UInt8) : List AV := (List.range m).map fun i => .f (.bool (f i).isSome)
theorem ouC_len (m : Nat) (f : Nat → Option UInt8) : (ouC m f).length = m := by simp [ouC]
theorem haC_len (m : Nat) (f : Nat → Option UInt8) : (haC m f).length = m := by simp [haC]
theorem ouC_get {m k : Nat} {f : Nat → Option UInt8} (hk : k < m) : (ouC m f)[k]? = some (.f (.int .u8 (((f k).getD 0).toNat : Int))) := row_get hk
theorem haC_get {m k : Nat} {f : Nat → Option UInt8} (hk : k < m) : (haC m f)[k]? = some (.f (.bool (f k).isSome)) := row_get hk
theorem ouC_set {m k : Nat} {f : Nat → Option UInt8} {c : UInt8} : (ouC m f).set k (.f (.int .u8 (c.toNat : Int))) = ouC m (fun i => if i = k then some c else f i) := row_set fun i _ => by by_cases e : i = k <;> simp [e]
theorem haC_set {m k : Nat} {f : Nat → Option UInt8} {c : UInt8} : (haC m f).set k (.f (.bool true)) = haC m (fun i => if i = k then some c else f i) := row_set fun i _ => by by_cases e : i = k <;> simp [e]
theorem ouC_by (m : Nat) (f : Nat → Option UInt8) : ouC m f = (flBy (byF m f)).map .f := by simp [ouC, flBy, byF]
theorem haC_ha (m : Nat) (f : Nat → Option UInt8) : haC m f = ((haF m f).map fun b => [FV.bool b]).flatten.map .f := by
  have : ∀ l : List Bool, (l.map fun b => [FV.bool b]).flatten = l.map FV.bool := fun l => by induction l <;> simp_all
  rw [this]; simp [haC, haF]
theorem ouC_bf (m : Nat) (f : Nat → Option UInt8) : ouC m f = ((List.range m).map fun i => FV.int .u8 (((f i).getD 0).toNat : Int)).map .f := by simp [ouC]
theorem haC_bf (m : Nat) (f : Nat → Option UInt8) : haC m f = ((List.range m).map fun i => FV.bool (f i).isSome).map .f := by simp [haC]
theorem ouC_0 (m : Nat) : zeros m [.int .u8 0] = ouC m (fun _ => none) := by
  have h1 : (List.replicate m [FV.int .u8 0]).flatten = List.replicate m (.int .u8 0) := by simp
  rw [zeros, h1, ouC]
  apply List.ext_getElem?
  intro i
  by_cases hi : i < m
  · simp [hi]
  · rw [List.getElem?_eq_none (by simp; omega), List.getElem?_eq_none (by simp; omega)]
theorem haC_0 (m : Nat) : zeros m [.bool false] = haC m (fun _ => none) := by
  have h1 : (List.replicate m [FV.bool false]).flatten = List.replicate m (.bool false) := by simp
  rw [zeros, h1, haC]
  apply List.ext_getElem?
  intro i
  by_cases hi : i < m
  · simp [hi]
  · rw [List.getElem?_eq_none (by simp; omega), List.getElem?_eq_none (by simp; omega)]
theorem sl_ou {H H' : Heap} {nw : List Nat} (m : Nat) (f : Nat → Option UInt8) : SlotsOk H H' nw (ouC m f) (ouC m f) := by rw [ouC_bf]; exact SlotsOk.fs rfl
theorem sl_ha {H H' : Heap} {nw : List Nat} (m : Nat) (f : Nat → Option UInt8) : SlotsOk H H' nw (haC m f) (haC m f) := by rw [haC_bf]; exact SlotsOk.fs rfl
end Go.Proofs.Yteoojplgchlhcaa
