/-
  The plain law of WireMessagesArrive. No statement of the seat is proved here; no conditions.
-/
import Derived.Test.YtjacnfjlocajoaaDoorWrT
namespace Go.Proofs.YtjacnfjlocajoaaDoor
open Go.RowKit Go.Shelf
set_option linter.unusedVariables false
set_option linter.unusedSimpArgs false

structure Mid (r : Rc) (t : ByteArray) (L : Int) (f : Nat) : Prop where
 ok : ROk r
 no : hasK kOb r.1 t = false
 part : ∃ p,pGet r.2 t = some p ∧ p.2.1 = L ∧ p.2.2.length = f
theorem pGet_mem {P : List Pt} (h : Rising kPt P) {t : ByteArray} {s : Int} {b : List UInt8} (hp : (t,s,b) ∈ P) : pGet P t = some (t,s,b) := pGet_of h hp
theorem first_take {r : Rc} {t : ByteArray} {L : Nat} (h0 : (TakeV r (1,t,0,L,[])).1 = 0) (h5 : (TakeV r (1,t,0,L,[])).2.2.1 ≠ 5) :
  (TakeV r (1,t,0,L,[])).2.2.1 = 4 ∧ (TakeV r (1,t,0,L,[])).2.2.2.2.1 = 0 ∨
  ∃ n : Nat,(TakeV r (1,t,0,L,[])).2.2.1 = 3 ∧ (TakeV r (1,t,0,L,[])).2.2.2.2.1 = n ∧ n < L ∧ Mid (TakeV r (1,t,0,L,[])).2.1 t L n := by
 obtain ⟨hr,e,ht⟩ := Take_right h0
 obtain ⟨D,P⟩ := r
 dsimp only at e
 generalize hV : TakeV (D,P) (1,t,0,L,[]) = V at *
 unfold takeV at e
 dsimp only at e
 split at e
 ·rw [e] at h0;rename_i h;exact absurd h0 h
 split at e
 ·rw [e] at h0;cases h0
 split at e
 ·rw [e];exact .inl ⟨rfl,rfl⟩
 rename_i hno
 have hno' : hasK kOb D t = false := by simpa using hno
 rw [if_pos rfl] at e
 have hw : ∀ Q b,V = wholeV D Q t b → V.2.2.1 = 4 ∧ V.2.2.2.2.1 = 0 := fun Q b hq => by
  rw [hq] at h0 h5 ⊢
  unfold wholeV at h0 h5 ⊢
  by_cases hd : digV b = t
  ·rw [if_pos hd] at h0 h5 ⊢
   by_cases hl : 4000 ≤ D.length
   ·rw [if_pos hl] at h0;cases h0
   ·rw [if_neg hl];exact ⟨rfl,rfl⟩
  ·rw [if_neg hd] at h5;exact absurd rfl h5
 have h2 : ∀ Q,V = beg2 D Q t L → V.2.2.1 = 4 ∧ V.2.2.2.2.1 = 0 ∨ ∃ n : Nat,V.2.2.1 = 3 ∧ V.2.2.2.2.1 = n ∧ n < L ∧ Mid V.2.1 t L n := fun Q hq => by
  have hq' := hq
  unfold beg2 at hq'
  split at hq'
  ·exact .inl (hw _ _ hq')
  split at hq'
  ·rw [hq'] at h0;cases h0
  split at hq'
  ·rw [hq'] at h0;cases h0
  rename_i hs _ _
  rw [hq'] at ht ⊢
  exact .inr ⟨0,rfl,rfl,by omega,ht.ok,hno',_,pGet_mem ht.ok.p.rise (mem_insP.2 (.inl rfl)),rfl,rfl⟩
 unfold beginV at e
 split at e
 ·exact h2 _ e
 rename_i p hp
 split at e
 ·rename_i hs
  obtain ⟨g1,g2,g3⟩ := pGet_some hr.p.rise hp
  have := hr.p.ok p (List.mem_of_getElem? g1)
  rw [e] at ht ⊢
  exact .inr ⟨p.2.2.length,rfl,rfl,by omega,ht.ok,hno',p,hp,hs,rfl⟩
 ·exact h2 _ e
theorem next_take {r : Rc} {t : ByteArray} {L : Nat} {f : Nat} {c : List UInt8} (h : Mid r t L f) (hd : isDig t = true) (hL : L ≤ 100000) (hc0 : 0 < c.length) (hc1 : f + c.length ≤ L) (hc2 : c.length ≤ 65536) :
  (TakeV r (2,t,f,0,c)).1 = 16 ∨ (TakeV r (2,t,f,0,c)).1 = 0 ∧
   (f + c.length < L ∧ (TakeV r (2,t,f,0,c)).2.2.1 = 3 ∧ Mid (TakeV r (2,t,f,0,c)).2.1 t L (f + c.length) ∨
    f + c.length = L ∧ ((TakeV r (2,t,f,0,c)).2.2.1 = 4 ∨ (TakeV r (2,t,f,0,c)).2.2.1 = 5)) := by
 obtain ⟨hok,hno,p,hp,hs,hl⟩ := h
 obtain ⟨D,P⟩ := r
 dsimp only at hno hp
 obtain ⟨g1,g2,g3⟩ := pGet_some hok.p.rise hp
 have hck : ckMg (2,t,(f : Int),0,c) c.length = 0 := by
  unfold ckMg
  dsimp only
  rw [if_neg (by decide),if_neg (by rw [hd];decide),if_neg (by simp only [inRg,Bool.not_eq_false,Bool.and_eq_true,decide_eq_true_eq];omega),if_neg (by omega),if_neg (by simp),if_neg (by simp),if_neg (by
   have : decide (0 < (c.length : Int)) = true := decide_eq_true (by omega)
   rw [this];simp)]
 have e1 : takeV D P (2,t,(f : Int),0,c) = dataV D P p t f c := by
  unfold takeV
  dsimp only
  rw [if_neg (fun h => h hck),if_neg (by decide),if_neg (by rw [hno];decide),if_neg (by decide),hp]
  dsimp only
  rw [if_pos rfl]
 have e2 : dataV D P p t f c = if ((p.2.2 ++ c).length : Int) < p.2.1 then (0,(D,P.set (ptIdx P t) (t,p.2.1,p.2.2 ++ c)),(3,t,((p.2.2 ++ c).length : Int),0,[])) else wholeV D (delP P t) t (p.2.2 ++ c) := by
  unfold dataV
  have hmin : min c.length (p.2.2.length - (f : Int).toNat) = 0 := by omega
  rw [hmin,if_neg (by omega),if_pos (by rw [List.take_zero,List.take_zero]),if_neg (by omega),List.drop_zero]
 have e3 : TakeV (D,P) (2,t,f,0,c) = if (takeV D P (2,t,(f : Int),0,c)).1 ≠ 0 then ((takeV D P (2,t,(f : Int),0,c)).1,([],[]),mg0) else takeV D P (2,t,(f : Int),0,c) := by
  unfold TakeV
  rw [if_neg (fun h => h (ckRc_iff.2 hok))]
 rw [e1,e2] at e3
 have hlen : (p.2.2 ++ c).length = f + c.length := by rw [List.length_append,hl]
 rw [hlen] at e3
 have hR := fun h0 => (Take_right (r := (D,P)) (m := (2,t,(f : Int),0,c)) h0).2.2.ok
 generalize hV : TakeV (D,P) (2,t,(f : Int),0,c) = V at *
 by_cases hlt : ((f + c.length : Nat) : Int) < p.2.1
 ·rw [if_pos hlt,if_neg (fun h => h rfl)] at e3
  right
  have hR' := hR (by rw [e3])
  rw [e3] at hR' ⊢
  refine ⟨rfl,.inl ⟨by omega,rfl,hR',hno,(t,p.2.1,p.2.2 ++ c),pGet_mem hR'.p.rise (List.mem_iff_getElem?.2 ⟨ptIdx P t,?_⟩),hs,hlen⟩⟩
  exact List.getElem?_set_self (List.getElem?_eq_some_iff.1 g1).1
 ·rw [if_neg hlt] at e3
  have hL2 : f + c.length = L := by omega
  unfold wholeV at e3
  split at e3
  ·split at e3
   ·rw [if_pos (show (16 : Int) ≠ 0 by decide)] at e3
    exact .inl (by rw [e3])
   ·rw [if_neg (fun h => h rfl)] at e3
    exact .inr ⟨by rw [e3],.inr ⟨hL2,.inl (by rw [e3])⟩⟩
  ·rw [if_neg (fun h => h rfl)] at e3
   exact .inr ⟨by rw [e3],.inr ⟨hL2,.inr (by rw [e3])⟩⟩
end Go.Proofs.YtjacnfjlocajoaaDoor
