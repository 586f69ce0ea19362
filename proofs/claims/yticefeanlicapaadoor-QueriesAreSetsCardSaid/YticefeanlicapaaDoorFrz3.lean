/-
  Contracts whose results are read as frozen ones, whichever way they were made. No statement of the seat is proved here; no conditions.
-/
import Derived.Test.YticefeanlicapaaDoorFrz2
namespace Go.Proofs.YticefeanlicapaaDoor
open Go.RowKit
set_option linter.unusedVariables false
set_option linter.unusedSimpArgs false

def RetsZ (rs' : List RS) (r : AV) (H : Heap) : Prop := ∃ rs,Rets rs r H ∧ RsFz rs rs'
theorem FCall.frz {P : Program} {f : FuncId} {args : List AV} {rs' : List RS} (h : FCall P f args H0 (RetsZ rs')) : FRet P f args rs' :=
 ⟨h.1,fun G Z w vs h1 h2 h3 => (h.2 G Z w vs h1 h2 h3).mono fun e w' ⟨v,r,H',G',Z',e1,⟨rs,⟨l,hr,hrs,hnd⟩,hf⟩,st,hh,hrep⟩ => by
  have hk : WkOk H' (offH H') [] := ⟨(fun id o' h => by cases h),fun id _ => ⟨Nat.le_refl _,fun _ => by simp⟩⟩
  obtain ⟨st2,hh2⟩ := st.weak hk
  have hs := rsFz_slots (k := 0) hrs hf
  obtain ⟨p1,p2⟩ := ss_plain (t := 0) (H := offH H') (k := 0) (rsFz_plain hf)
  generalize hys : putS 0 0 rs' = ys at hs p1 p2
  refine ⟨v,oneOrTup ys,offH H',_,_,e1,⟨_,rfl,p1,by rw [p2];exact List.nodup_nil⟩,st2,hh.trans hh2,?_⟩
  subst hr
  have gen : ∀ us : Array Value,us.size = l.length → (∀ (j : Nat) (a : AV) (u : Value),l[j]? = some a → us[j]? = some u → RepA G' Z' w' a u) → ys.length = l.length ∧ ∀ (j : Nat) (a : AV) (u : Value),ys[j]? = some a → us[j]? = some u → RepA _ _ w' a u := fun us hul hus => by
   obtain ⟨g1,g2⟩ := SlotsOk.rep st l _ us.toList hs (by simpa using hul) fun j x u hx hu => hus j x u hx (by simpa using hu)
   exact ⟨g1,fun j a u ha hu => g2 j a u ha (by simpa using hu)⟩
  cases l with
  | nil =>
   obtain ⟨us,rfl,g1,g3⟩ := RepA.tup_ hrep
   obtain ⟨k1,k2⟩ := gen us g1 g3
   cases ys with
   | nil => exact .tup _ us (by simpa using g1) k2
   | cons y ys => simp at k1
  | cons a l =>
   cases l with
   | nil =>
    cases ys with
    | nil => exact hs.elim
    | cons y ys =>
     cases ys with
     | nil => exact SlotOk.rep st a _ v hs.1 hrep
     | cons y' ys => have := hs.2;simp [SlotsOk] at this
   | cons b l =>
    obtain ⟨us,rfl,g1,g3⟩ := RepA.tup_ hrep
    obtain ⟨k1,k2⟩ := gen us g1 g3
    cases ys with
    | nil => simp at k1
    | cons y ys =>
     cases ys with
     | nil => simp at k1
     | cons y' ys => exact .tup _ us (by rw [g1,← k1]) k2⟩
end Go.Proofs.YticefeanlicapaaDoor
