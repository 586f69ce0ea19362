/-
  A contract with own results, also within structs, read as one with frozen results. No statement of the seat is proved here; no conditions.
-/
import Derived.Test.YtagkdifaldikgaaGreatDoorRun
import Derived.Test.YtagkdifaldikgaaGreatDoorEngV
namespace Go.Proofs.YtagkdifaldikgaaGreatDoor
open Go.RowKit
set_option linter.unusedVariables false
set_option linter.unusedSimpArgs false

def RcF : RC → FV → Prop
 | .v x,y => y = x
 | .own sz n cs,y => ∃ rows : List (List FV),y = .fr sz rows ∧ rows.length = n ∧ (∀ r ∈ rows,r.length = sz) ∧ cs.take (n * sz) = rows.flatten
def RsF : List RS → List FV → Prop
 | [],l => l = []
 | .c r :: rs,l => (match l with
  | y :: l => RcF r y ∧ RsF rs l
  | [] => False)
 | .agg _ :: _,_ => False
def offH (H : Heap) : Heap := fun id => ((H id).1,none)
theorem rcF_slot {H : Heap} : ∀ {r : RC} {a : AV} {y : FV},RcOk H r a → RcF r y → SlotOk H (offH H) [] a (.f y)
 | .v x,a,y,h,h2 => by
  obtain rfl : a = .f x := h
  obtain rfl : y = x := h2
  rw [so_ff];exact .inl rfl
 | .own sz n cs,a,y,h,⟨rows,h2,h3,h4,h5⟩ => by
  subst h2
  rcases h with ⟨rfl,rfl,rfl⟩ | ⟨id,ver,rfl,h6,h7⟩
  ·obtain rfl : rows = [] := List.eq_nil_of_length_eq_zero h3
   rw [so_ff];exact .inr ⟨rfl,sz,rfl⟩
  ·refine ⟨rfl,h3,h4,rfl,_,h6,?_,?_⟩
   ·rw [List.length_map,Nat.zero_add];exact h7
   ·rw [Nat.zero_mul,List.drop_zero,← List.map_take,h5]
theorem rsF_slots {H : Heap} : ∀ {rs : List RS} {l : List AV} {ys : List FV},RsOk H rs l → RsF rs ys → SlotsOk H (offH H) [] l (ys.map .f)
 | [],l,ys,h,h2 => by
  obtain rfl : l = [] := h
  obtain rfl : ys = [] := h2
  exact rfl
 | .c r :: rs,[],ys,h,h2 => h.elim
 | .c r :: rs,a :: l,[],h,h2 => h2.elim
 | .c r :: rs,a :: l,y :: ys,h,h2 => ⟨rcF_slot h.1 h2.1,rsF_slots h.2 h2.2⟩
 | .agg _ :: _,l,ys,h,h2 => h2.elim
theorem rsOk_v {H : Heap} : ∀ ys : List FV,RsOk H (ys.map fun y => .c (.v y)) (ys.map .f)
 | [] => rfl
 | y :: ys => ⟨rfl,rsOk_v ys⟩
theorem idsS_f : ∀ ys : List FV,idsS (ys.map .f) = []
 | [] => by simp [idsS]
 | y :: ys => by simp [idsS,idsS_f ys]
theorem FRet.frz {P : Program} {f : FuncId} {args : List AV} {rs : List RS} (h : FRet P f args rs) {ys : List FV} (hf : RsF rs ys) : FRet P f args (ys.map fun y => .c (.v y)) :=
 ⟨h.1,fun G Z w vs h1 h2 h3 => (h.2 G Z w vs h1 h2 h3).mono fun e w' ⟨v,r,H',G',Z',e1,⟨l,hr,hrs,hnd⟩,st,hh,hrep⟩ => by
  have hk : WkOk H' (offH H') [] := ⟨(fun id o' h => by cases h),fun id _ => ⟨Nat.le_refl _,fun _ => by simp⟩⟩
  obtain ⟨st2,hh2⟩ := st.weak hk
  have hs := rsF_slots hrs hf
  refine ⟨v,oneOrTup (ys.map .f),offH H',_,_,e1,⟨_,rfl,rsOk_v ys,by rw [idsS_f];exact List.nodup_nil⟩,st2,hh.trans hh2,?_⟩
  subst hr
  have gen : ∀ us : Array Value,us.size = l.length → (∀ (j : Nat) (a : AV) (u : Value),l[j]? = some a → us[j]? = some u → RepA G' Z' w' a u) → (ys.map AV.f).length = l.length ∧ ∀ (j : Nat) (a : AV) (u : Value),(ys.map AV.f)[j]? = some a → us[j]? = some u → RepA _ _ w' a u := fun us hul hus => by
   obtain ⟨g1,g2⟩ := SlotsOk.rep st l _ us.toList hs (by simpa using hul) fun j x u hx hu => hus j x u hx (by simpa using hu)
   exact ⟨g1,fun j a u ha hu => g2 j a u ha (by simpa using hu)⟩
  cases l with
  | nil =>
   obtain ⟨us,rfl,g1,g3⟩ := RepA.tup_ hrep
   obtain ⟨k1,k2⟩ := gen us g1 g3
   cases ys with
   | nil => exact .tup _ us (by simpa using g1) k2
   | cons y ys => simp at k1
  | cons a l =>
   cases l with
   | nil =>
    cases ys with
    | nil => exact hs.elim
    | cons y ys =>
     cases ys with
     | nil => exact SlotOk.rep st a _ v hs.1 hrep
     | cons y' ys => have := hs.2;simp [SlotsOk] at this
   | cons b l =>
    obtain ⟨us,rfl,g1,g3⟩ := RepA.tup_ hrep
    obtain ⟨k1,k2⟩ := gen us g1 g3
    cases ys with
    | nil => simp at k1
    | cons y ys =>
     cases ys with
     | nil => simp at k1
     | cons y' ys => exact .tup _ us (by rw [g1,← k1];rfl) k2⟩
theorem putCs_v {t : Nat} : ∀ {k : Nat} (l : List FV),putCs t k (l.map RC.v) = l.map .f
 | _,[] => rfl
 | k,x :: l => congrArg (AV.f x :: ·) (putCs_v (k := k) l)
def RcFz : RC → RC → Prop
 | r,.v y => RcF r y
 | _,.own .. => False
def RcsFz : List RC → List RC → Prop
 | [],[] => True
 | r :: l,r' :: l' => RcFz r r' ∧ RcsFz l l'
 | _,_ => False
def RsFz : List RS → List RS → Prop
 | [],[] => True
 | .c r :: l,.c r' :: l' => RcFz r r' ∧ RsFz l l'
 | .agg a :: l,.agg a' :: l' => RcsFz a a' ∧ RsFz l l'
 | _,_ => False
theorem rcsFz_slots {H : Heap} : ∀ {rs rs' : List RC} {l : List AV} {k : Nat},RcsOk H rs l → RcsFz rs rs' → SlotsOk H (offH H) [] l (putCs 0 k rs') ∧ nextCs k rs' = k
 | [],[],l,k,h,_ => by
  obtain rfl : l = [] := h
  exact ⟨rfl,rfl⟩
 | [],_ :: _,l,k,h,h2 => h2.elim
 | r :: rs,[],l,k,h,h2 => h2.elim
 | r :: rs,.own .. :: rs',l,k,h,h2 => h2.1.elim
 | r :: rs,.v y :: rs',[],k,h,h2 => h.elim
 | r :: rs,.v y :: rs',a :: l,k,h,h2 => by
  obtain ⟨h3,h4⟩ := rcsFz_slots (k := k) h.2 h2.2
  exact ⟨⟨rcF_slot h.1 h2.1,h3⟩,h4⟩
theorem rcsFz_plain : ∀ {rs rs' : List RC},RcsFz rs rs' → plainC rs' = true
 | [],[],_ => rfl
 | [],_ :: _,h => h.elim
 | _ :: _,[],h => h.elim
 | _ :: _,.own .. :: _,h => h.1.elim
 | _ :: rs,.v _ :: rs',h => by simp only [plainC];exact rcsFz_plain h.2
theorem rsFz_plain : ∀ {rs rs' : List RS},RsFz rs rs' → plainRs rs' = true
 | [],[],_ => rfl
 | [],.c _ :: _,h => h.elim
 | [],.agg _ :: _,h => h.elim
 | .c _ :: _,[],h => h.elim
 | .agg _ :: _,[],h => h.elim
 | .c _ :: _,.agg _ :: _,h => h.elim
 | .agg _ :: _,.c _ :: _,h => h.elim
 | .c _ :: _,.c (.own ..) :: _,h => h.1.elim
 | .c _ :: _,.c (.v _) :: _,h => by simp only [plainRs];exact rsFz_plain h.2
 | .agg _ :: _,.agg _ :: _,h => by simp only [plainRs,Bool.and_eq_true];exact ⟨rcsFz_plain h.1,rsFz_plain h.2⟩
end Go.Proofs.YtagkdifaldikgaaGreatDoor
