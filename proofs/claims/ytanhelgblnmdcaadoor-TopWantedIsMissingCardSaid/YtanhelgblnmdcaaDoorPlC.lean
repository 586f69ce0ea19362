/-
  The plain law of the cache's steps, as the laws ask for it. No statement of the seat is proved here; no conditions.
-/
import Derived.Test.YtanhelgblnmdcaaDoorPlB
import Derived.Test.YtanhelgblnmdcaaDoorCaL
namespace Go.Proofs.YtanhelgblnmdcaaDoor
open Go.RowKit Go.Shelf
set_option linter.unusedVariables false
set_option linter.unusedSimpArgs false
set_option maxRecDepth 100000

def doR (c : Cache) (e : Ev) : List Blob × List Entry × Bool × RC × RC × Int := doV c.1 c.2.1 c.2.2.1 c.2.2.2 e
def doErr (c : Cache) (e : Ev) : Int := if ckCache c = 0 then (doR c e).2.2.2.2.2 else ckCache c
def doC (c : Cache) (e : Ev) : Cache := (c.1,c.2.1,(doR c e).1,(doR c e).2.1)
def frzC : RC → FV
 | .v x => x
 | .own _ _ ds => .fr 1 (ds.map fun x => [x])
theorem frz_s (l : List ByteArray) : frzC (rcS l) = frStrs l := by
 simp only [frzC,rcS,frStrs,List.map_map];rfl
theorem rcFz_s (l : List ByteArray) : RcF (rcS l) (frStrs l) :=
 ⟨l.map fun s => [.str s],rfl,List.length_map _,fun r hr => by obtain ⟨y,_,rfl⟩ := List.mem_map.1 hr;rfl,by
  rw [Nat.mul_one,List.take_of_length_le (by rw [List.length_map];exact Nat.le_refl _)]
  induction l with
  | nil => rfl
  | cons x l ih => rw [List.map_cons,List.map_cons,List.flatten_cons,← ih];rfl⟩
theorem doR_form (c : Cache) (e : Ev) : (∃ x,(doR c e).2.2.2.1 = .v .nil ∧ (doR c e).2.2.2.2.1 = .v x) ∨ (∃ l,(doR c e).2.2.2.1 = rcS l ∧ (doR c e).2.2.2.2.1 = .v .nil ∧ (doR c e).2.2.2.2.2 = 0) ∨ (∃ l,(doR c e).2.2.2.1 = .v .nil ∧ (doR c e).2.2.2.2.1 = rcS l ∧ (doR c e).2.2.2.2.2 = 0) := by
 unfold doR doV
 split
 ·split
  ·exact .inl ⟨_,rfl,rfl⟩
  ·unfold actV
   split
   ·exact .inl ⟨_,rfl,rfl⟩
   split
   ·exact .inl ⟨_,rfl,rfl⟩
   split
   ·exact .inr (.inl ⟨_,rfl,rfl,rfl⟩)
   split
   ·exact .inl ⟨_,rfl,rfl⟩
   split
   ·rcases storeV_rc (lease := c.2.1) (bl := c.2.2.1) (en := c.2.2.2) (at_ := e.2.1) (key := e.2.2.2.2.1) (ds := e.2.2.2.1) with h | ⟨l,h⟩
    ·exact .inl ⟨.nil,h,rfl⟩
    ·exact .inr (.inl ⟨l,h,rfl,rfl⟩)
   split
   ·rcases searchV_rc (lease := c.2.1) (bl := c.2.2.1) (en := c.2.2.2) (at_ := e.2.1) (key := e.2.2.2.2.1) with h | ⟨l,h⟩
    ·exact .inl ⟨.nil,h,rfl⟩
    ·exact .inr (.inl ⟨l,h,rfl,rfl⟩)
   unfold dropV
   split
   ·split
    ·exact .inr (.inr ⟨_,rfl,rfl,rfl⟩)
    ·exact .inl ⟨_,rfl,rfl⟩
   ·exact .inl ⟨_,rfl,rfl⟩
 ·exact .inl ⟨_,rfl,rfl⟩
theorem ckDigs_len {l : List ByteArray} (h : ckDigsM l 200 = 0) : l.length ≤ 200 := by
 unfold ckDigsM at h
 split at h
 ·cases h
 ·omega
theorem doOk_of {c : Cache} {e : Ev} (h : CRight c) (hk : ckEv e = 0) : DoOk c.1 c.2.2.1 c.2.2.2 e := by
 have ho := evOk_iff.1 hk
 obtain ⟨h1,h2,h3,h4⟩ := over_eq (lease := 0) (rg_iff.1 h.room) h.b ho.size
 have := h.bsum
 have h5 := rg_iff.1 h.room
 have h6 := ho.size
 refine ⟨by have := h.blen;omega,by have := h.elen;omega,by have := ckDigs_len ho.digs;omega,h.brise,h.erise,fun x hx => ?_,h4,by omega⟩
 have := ckDigs_len (entOk_iff.1 (h.eok x hx)).2.1
 omega
theorem doF_of {c : Cache} {e : Ev} (h : CRight c) (hl : (e.2.2.2.1.length : Int) ≤ 9223372036854775807) : DoF c.1 c.2.1 c.2.2.1 c.2.2.2 e (doR c e) := do_f hl fun hk => doOk_of h hk
theorem Do_no (c : Cache) (e : Ev) (hb : CBound c) (hl : (e.2.2.2.1.length : Int) ≤ 9223372036854775807) (h : doErr c e ≠ 0) : FRet Tryd.prog 5 [aCache c,aEv e] [zC,rAns false .nil .nil,.c (.v (.int .i64 (doErr c e)))] := by
 unfold doErr at h ⊢
 by_cases h0 : ckCache c = 0
 ·rw [if_pos h0] at h ⊢
  have hR := right_iff.1 h0
  have hD := doF_of hR hl
  rcases doR_form c e with ⟨x,k1,k2⟩ | ⟨l,k1,k2,k3⟩ | ⟨l,k1,k2,k3⟩
  ·generalize doR c e = r at *
   obtain ⟨B,E,b,m,g,ft⟩ := r
   dsimp only at k1 k2 h hD ⊢
   subst k1 k2
   exact Do_flt c e hb h0 (by have := hR.blen;omega) (by have := hR.elen;omega) (fun x hx => by have := ckDigs_len (entOk_iff.1 (hR.eok x hx)).2.1;omega) hD h
  ·exact absurd k3 h
  ·exact absurd k3 h
 ·rw [if_neg h0]
  exact Do_bad c e hb h0
theorem Do_yes (c : Cache) (e : Ev) (hb : CBound c) (hl : (e.2.2.2.1.length : Int) ≤ 9223372036854775807) (h : doErr c e = 0) : FRet Tryd.prog 5 [aCache c,aEv e] [.agg (rcCache (doC c e)),rAns (doR c e).2.2.1 (frzC (doR c e).2.2.2.1) (frzC (doR c e).2.2.2.2.1),.c (.v (.int .i64 0))] := by
 unfold doErr at h
 by_cases h0 : ckCache c = 0
 ·rw [if_pos h0] at h
  have hR := right_iff.1 h0
  have hD := doF_of hR hl
  have b1 : c.2.2.1.length ≤ 1000000 := by have := hR.blen;omega
  have b2 : c.2.2.2.length ≤ 1000000 := by have := hR.elen;omega
  have b3 : ∀ x ∈ c.2.2.2,x.2.1.length ≤ 1000000 := fun x hx => by have := ckDigs_len (entOk_iff.1 (hR.eok x hx)).2.1;omega
  unfold doC
  rcases doR_form c e with ⟨x,k1,k2⟩ | ⟨l,k1,k2,k3⟩ | ⟨l,k1,k2,k3⟩
  all_goals
   generalize doR c e = r at *
   obtain ⟨B,E,b,m,g,ft⟩ := r
   dsimp only at k1 k2 h hD ⊢
   subst k1 k2 h
  ·exact (Do_ok c e hb h0 b1 b2 b3 hD).frz2 ⟨⟨rfl,rfl,rcF_row0 (enc := fBlob) (fun _ => rfl),rcF_row0 (enc := fEntry) (fun _ => rfl),trivial⟩,⟨rfl,rfl,rfl,trivial⟩,rfl,trivial⟩
  ·exact (Do_mis c e hb h0 b1 b2 b3 hD).frz2 ⟨⟨rfl,rfl,rcF_row0 (enc := fBlob) (fun _ => rfl),rcF_row0 (enc := fEntry) (fun _ => rfl),trivial⟩,⟨rfl,frz_s l ▸ rcFz_s l,rfl,trivial⟩,rfl,trivial⟩
  ·exact (Do_gon c e hb h0 b1 b2 b3 hD).frz2 ⟨⟨rfl,rfl,rcF_row0 (enc := fBlob) (fun _ => rfl),rcF_row0 (enc := fEntry) (fun _ => rfl),trivial⟩,⟨rfl,rfl,frz_s l ▸ rcFz_s l,trivial⟩,rfl,trivial⟩
 ·rw [if_neg h0] at h
  exact absurd h h0
theorem doErr_right {c : Cache} {e : Ev} (h : doErr c e = 0) : ckCache c = 0 ∧ ckEv e = 0 ∧ newestV c.2.2.1 c.2.2.2 ≤ e.2.1 ∧ doR c e = actV c.1 c.2.1 c.2.2.1 c.2.2.2 e := by
 unfold doErr at h
 by_cases h0 : ckCache c = 0
 ·rw [if_pos h0] at h
  unfold doR doV at h ⊢
  by_cases h1 : ckEv e = 0
  ·rw [if_pos h1] at h ⊢
   by_cases h2 : e.2.1 < newestV c.2.2.1 c.2.2.2
   ·rw [if_pos h2] at h;cases h
   ·rw [if_neg h2] at h ⊢
    exact ⟨h0,h1,by omega,rfl⟩
  ·rw [if_neg h1] at h
   exact absurd h h1
 ·rw [if_neg h0] at h
  exact absurd h h0
structure Stays (c x : Cache) (gone : List ByteArray) (at_ : Int) : Prop where
 is : ∀ b ∈ c.2.2.1,hasB x.2.2.1 b.1 = !hasS b.1 gone
 held : ∀ b ∈ c.2.2.1,heldB b at_ = true → hasB x.2.2.1 b.1 = true
 size : ∀ b ∈ c.2.2.1,∀ y ∈ x.2.2.1,y.1 = b.1 → y.2.1 = b.2.1
 len : c.2.2.1.length ≤ x.2.2.1.length + gone.length
 glen : gone.length ≤ c.2.2.1.length
end Go.Proofs.YtanhelgblnmdcaaDoor
