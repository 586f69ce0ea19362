/-
  The plain law of steps: what is reached, over what. No statement of the seat is proved here; no conditions.
-/
import Derived.Test.YticefeanlicapaaDoorGrS
namespace Go.Proofs.YticefeanlicapaaDoor
set_option linter.unusedVariables false
set_option linter.unusedSimpArgs false

structure BInv (E : List (List Nat)) (from_ : List Nat) (n : Nat) (x : Nat → Prop) (s : BSt) : Prop where
 ok : BOk n s
 pred : ∀ k,k < n → 0 ≤ s.1.getD k 0 → (k ∈ from_ ∧ s.1.getD k 0 = 0) ∨ ∃ i,i < n ∧ k ∈ E.getD i [] ∧ 0 ≤ s.1.getD i 0 ∧ s.1.getD k 0 = s.1.getD i 0 + 1
 clos : ∀ i,i < n → 0 ≤ s.1.getD i 0 → i ∉ s.2 → ¬ x i → ∀ k ∈ E.getD i [],0 ≤ s.1.getD k 0
theorem push_mono {s : BSt} {d : Int} {k j : Nat} (h : 0 ≤ s.1.getD j 0) : 0 ≤ (bPush d s k).1.getD j 0 := by rw [push_keep h];exact h
theorem push_self {n : Nat} {s : BSt} {d : Int} {k : Nat} (h : BOk n s) (hk : k < n) (hd : 0 ≤ d) : 0 ≤ (bPush d s k).1.getD k 0 := by
 unfold bPush
 split
 ·show 0 ≤ (s.1.set k d).getD k 0
  rw [getD_set (by rw [h.len];exact hk),if_pos rfl];exact hd
 ·rename_i h1;omega
theorem push_inv {E : List (List Nat)} {from_ : List Nat} {n : Nat} {x : Nat → Prop} {s : BSt} {d : Int} {k : Nat} (h : BInv E from_ n x s) (hk : k < n) (hd : 0 ≤ d) (hdn : d ≤ (n : Int) - mu s)
  (hp : (k ∈ from_ ∧ d = 0) ∨ ∃ i,i < n ∧ k ∈ E.getD i [] ∧ 0 ≤ s.1.getD i 0 ∧ d = s.1.getD i 0 + 1) : BInv E from_ n x (bPush d s k) := by
 by_cases hc : s.1.getD k 0 < 0
 ·have e : bPush d s k = (s.1.set k d,s.2 ++ [k]) := by unfold bPush;rw [if_pos hc]
  have hkl : k < s.1.length := by rw [h.ok.len];exact hk
  have hne : ∀ j,0 ≤ s.1.getD j 0 → (s.1.set k d).getD j 0 = s.1.getD j 0 := fun j hj => by
   rw [getD_set hkl,if_neg (fun e => by subst e;omega)]
  refine ⟨push_ok h.ok hk hd hdn,?_,?_⟩ <;> rw [e] <;> dsimp only
  ·intro j hj h0
   by_cases ej : k = j
   ·subst ej
    rw [getD_set hkl,if_pos rfl]
    rcases hp with ⟨h1,h2⟩ | ⟨i,h1,h2,h3,h4⟩
    ·exact .inl ⟨h1,h2⟩
    ·exact .inr ⟨i,h1,h2,by rw [hne i h3];exact h3,by rw [hne i h3];exact h4⟩
   ·rw [getD_set hkl,if_neg ej] at h0 ⊢
    rcases h.pred j hj h0 with h1 | ⟨i,h1,h2,h3,h4⟩
    ·exact .inl h1
    ·exact .inr ⟨i,h1,h2,by rw [hne i h3];exact h3,by rw [hne i h3];exact h4⟩
  ·intro i hi h0 hni hxi m hm
   have hik : k ≠ i := fun e => hni (by subst e;simp)
   rw [getD_set hkl,if_neg hik] at h0
   have h1 := h.clos i hi h0 (fun h2 => hni (List.mem_append_left _ h2)) hxi m hm
   rw [hne m h1];exact h1
 ·have e : bPush d s k = s := by unfold bPush;rw [if_neg hc]
  rw [e];exact h
theorem row_inv {E : List (List Nat)} {from_ : List Nat} {n : Nat} {x : Nat → Prop} {v : Int} {i : Nat} (hi : i < n) : ∀ {l : List Nat} {s : BSt},BInv E from_ n x s → (∀ k ∈ l,k < n ∧ k ∈ E.getD i []) → 0 ≤ v → s.1.getD i 0 = v → v + 1 ≤ (n : Int) - mu s →
  BInv E from_ n x (l.foldl (bPush (v + 1)) s) ∧ (∀ k,0 ≤ s.1.getD k 0 → (l.foldl (bPush (v + 1)) s).1.getD k 0 = s.1.getD k 0) ∧ ∀ k ∈ l,0 ≤ (l.foldl (bPush (v + 1)) s).1.getD k 0
 | [],s,h,_,_,_,_ => ⟨h,fun _ _ => rfl,fun k hk => by cases hk⟩
 | k :: l,s,h,hl,h0,hv,hm => by
  rw [List.foldl_cons]
  have e := mu_push (s := s) (d := v + 1) (k := k) (by omega)
  obtain ⟨hk1,hk2⟩ := hl k (List.mem_cons_self ..)
  obtain ⟨a,b,c⟩ := row_inv hi (l := l) (s := bPush (v + 1) s k) (push_inv h hk1 (by omega) hm (.inr ⟨i,hi,hk2,by omega,by rw [hv]⟩)) (fun j hj => hl j (List.mem_cons_of_mem _ hj)) h0 (by rw [push_keep (by omega),hv]) (by rw [e];exact hm)
  refine ⟨a,fun j hj => by rw [b j (push_mono hj),push_keep hj],fun j hj => ?_⟩
  rcases List.mem_cons.1 hj with rfl | hj
  ·have := push_self (d := v + 1) h.ok hk1 (by omega)
   rw [b j this];exact this
  ·exact c j hj
theorem go_inv {E : List (List Nat)} {from_ : List Nat} {n : Nat} (hE : ∀ i,∀ k ∈ E.getD i [],k < n) : ∀ (m : Nat) (s : BSt),BInv E from_ n (fun _ => False) s → mu s ≤ m → ∃ O,bGo E m s = O ∧ BInv E from_ n (fun _ => False) (O,[]) ∧ ∀ k,0 ≤ s.1.getD k 0 → O.getD k 0 = s.1.getD k 0
 | 0,(O,P),h,hm => by
  have : P = [] := by
   unfold mu at hm;exact List.eq_nil_of_length_eq_zero (by dsimp only at hm;omega)
  subst this
  exact ⟨O,rfl,h,fun _ _ => rfl⟩
 | m + 1,(O,[]),h,hm => ⟨O,rfl,h,fun _ _ => rfl⟩
 | m + 1,(O,i :: P),h,hm => by
  obtain ⟨hP,hin,hv0,hv1,hmu⟩ := pop_ok h.ok
  have h1 : BInv E from_ n (fun j => j = i) (O,P) := ⟨hP,h.pred,fun j hj h0 hn hx => h.clos j hj h0 (fun h2 => by rcases List.mem_cons.1 h2 with h3 | h3;exact hx h3;exact hn h3) (fun h => h)⟩
  obtain ⟨a,b,c⟩ := row_inv hin (l := E.getD i []) h1 (fun k hk => ⟨hE i k hk,hk⟩) hv0 rfl hv1
  have hr := row_ok (l := E.getD i []) hP (hE i) hv0 rfl hv1
  have h2 : BInv E from_ n (fun _ => False) (bRow E O P i) := ⟨a.ok,a.pred,fun j hj h0 hn _ => by
   by_cases e : j = i
   ·subst e;exact c
   ·exact a.clos j hj h0 hn e⟩
  obtain ⟨O',h3,h4,h5⟩ := go_inv hE m (bRow E O P i) h2 (by have := hr.2.2;unfold bRow;omega)
  refine ⟨O',h3,h4,fun k hk => ?_⟩
  have h6 : (bRow E O P i).1.getD k 0 = O.getD k 0 := b k hk
  rw [h5 k (by rw [h6];exact hk),h6]
theorem init_inv {E : List (List Nat)} {from_ : List Nat} {n : Nat} {x : Nat → Prop} : ∀ {l : List Nat} {s : BSt},BInv E from_ n x s → (∀ k ∈ l,k < n ∧ k ∈ from_) → BInv E from_ n x (l.foldl (bPush 0) s) ∧ (∀ k,0 ≤ s.1.getD k 0 → (l.foldl (bPush 0) s).1.getD k 0 = s.1.getD k 0) ∧ ∀ k ∈ l,0 ≤ (l.foldl (bPush 0) s).1.getD k 0
 | [],s,h,_ => ⟨h,fun _ _ => rfl,fun k hk => by cases hk⟩
 | k :: l,s,h,hl => by
  rw [List.foldl_cons]
  obtain ⟨hk1,hk2⟩ := hl k (List.mem_cons_self ..)
  obtain ⟨a,b,c⟩ := init_inv (l := l) (push_inv (d := 0) h hk1 (Int.le_refl _) (by have := h.ok.mn;omega) (.inl ⟨hk2,rfl⟩)) fun j hj => hl j (List.mem_cons_of_mem _ hj)
  refine ⟨a,fun j hj => by rw [b j (push_mono hj),push_keep hj],fun j hj => ?_⟩
  rcases List.mem_cons.1 hj with rfl | hj
  ·have := push_self (d := 0) h.ok hk1 (Int.le_refl _)
   rw [b j this];exact this
  ·exact c j hj
structure StepsSpec (E : List (List Nat)) (from_ : List Nat) (n : Nat) (F : List Int) : Prop where
 len : F.length = n
 lo : ∀ k,k < n → -1 ≤ F.getD k 0 ∧ F.getD k 0 ≤ n
 src : ∀ k ∈ from_,F.getD k 0 = 0
 pred : ∀ k,k < n → 0 ≤ F.getD k 0 → (k ∈ from_ ∧ F.getD k 0 = 0) ∨ ∃ i,i < n ∧ k ∈ E.getD i [] ∧ 0 ≤ F.getD i 0 ∧ F.getD k 0 = F.getD i 0 + 1
 clos : ∀ i,i < n → 0 ≤ F.getD i 0 → ∀ k ∈ E.getD i [],0 ≤ F.getD k 0
theorem steps_spec {E : List (List Nat)} {from_ : List Nat} {n : Nat} (hE : ∀ i,∀ k ∈ E.getD i [],k < n) (hf : ∀ k ∈ from_,k < n) : StepsSpec E from_ n (stepsV E n from_) := by
 have h0 : BInv E from_ n (fun _ => False) (List.replicate n (-1),[]) := by
  have hneg : ∀ k,k < n → (List.replicate n (-1 : Int)).getD k 0 = -1 := fun k hk => getD_some (by rw [List.getElem?_replicate,if_pos hk])
  refine ⟨start_b n,fun k hk h => ?_,fun i hi h => ?_⟩
  ·dsimp only at h;rw [hneg k hk] at h;omega
  ·dsimp only at h;rw [hneg i hi] at h;omega
 obtain ⟨h1,h2,h3⟩ := init_inv (l := from_) h0 fun k hk => ⟨hf k hk,hk⟩
 obtain ⟨O,h4,h5,h6⟩ := go_inv hE n (bInit n from_) h1 h1.ok.mn
 rw [stepsV,h4]
 have hl := h5.ok.len
 refine ⟨hl,fun k hk => ?_,fun k hk => ?_,h5.pred,fun i hi h => h5.clos i hi h (by simp) (fun h => h)⟩
 ·have hkl : k < O.length := by rw [show O.length = n from hl];exact hk
  have := h5.ok.lo (O.getD k 0) (by rw [getD_some (List.getElem?_eq_getElem hkl)];exact List.getElem_mem _)
  omega
 ·have := h3 k hk
  have hmu : ∀ (l : List Nat) (s : BSt),mu (l.foldl (bPush 0) s) = mu s := fun l => by
   induction l with
   | nil => exact fun s => rfl
   | cons a l ih => intro s;rw [List.foldl_cons,ih,mu_push (Int.le_refl _)]
  have hkl : k < (from_.foldl (bPush 0) (List.replicate n (-1),[])).1.length := by rw [h1.ok.len];exact hf k hk
  have hz := h1.ok.lo _ (List.getElem_mem hkl)
  rw [hmu,show mu (List.replicate n (-1),[]) = n by simp [mu,negs,List.countP_replicate]] at hz
  rw [getD_some (List.getElem?_eq_getElem hkl)] at this
  have e : (bInit n from_).1.getD k 0 = (from_.foldl (bPush 0) (List.replicate n (-1),[])).1.getD k 0 := rfl
  have e2 := getD_some (d := (0 : Int)) (List.getElem?_eq_getElem hkl)
  rw [h6 k (by rw [e,e2];exact this),e,e2];omega
structure DInv (E : List (List Nat)) (n : Nat) (x : Nat → Prop) (v : Int) (s : BSt) : Prop where
 so : s.2.Pairwise fun p q => s.1.getD p 0 ≤ s.1.getD q 0
 lo : ∀ p ∈ s.2,v ≤ s.1.getD p 0
 hi : ∀ k,k < n → s.1.getD k 0 ≤ v + 1
 sh : ∀ i,i < n → 0 ≤ s.1.getD i 0 → i ∉ s.2 → ¬ x i → ∀ k ∈ E.getD i [],s.1.getD k 0 ≤ s.1.getD i 0 + 1
def Walk (E : List (List Nat)) : Nat → Nat → Nat → Prop
 | 0,a,b => a = b
 | m + 1,a,b => ∃ c,Walk E m a c ∧ b ∈ E.getD c []
theorem Walk.lt {E : List (List Nat)} {n : Nat} (hE : ∀ i,∀ k ∈ E.getD i [],k < n) {a : Nat} (ha : a < n) : ∀ {m b : Nat},Walk E m a b → b < n
 | 0,b,h => by obtain rfl : a = b := h;exact ha
 | m + 1,b,⟨c,_,h⟩ => hE c b h
theorem Walk.front {E : List (List Nat)} : ∀ {m a c b : Nat},c ∈ E.getD a [] → Walk E m c b → Walk E (m + 1) a b
 | 0,a,c,b,h,hw => by obtain rfl : c = b := hw;exact ⟨a,rfl,h⟩
 | m + 1,a,c,b,h,⟨d,h1,h2⟩ => ⟨d,Walk.front h h1,h2⟩
theorem Walk.append {E : List (List Nat)} : ∀ {p m a c b : Nat},Walk E m a c → Walk E p c b → Walk E (m + p) a b
 | 0,m,a,c,b,h,hw => by obtain rfl : c = b := hw;exact h
 | p + 1,m,a,c,b,h,⟨d,h1,h2⟩ => ⟨d,Walk.append h h1,h2⟩
theorem Walk.turn {E U : List (List Nat)} {n : Nat} (hE : ∀ i,∀ k ∈ E.getD i [],k < n) (hm : ∀ u x,u < n → x < n → u ∈ E.getD x [] → x ∈ U.getD u []) {a : Nat} (ha : a < n) : ∀ {m b : Nat},Walk E m a b → Walk U m b a
 | 0,b,h => by obtain rfl : a = b := h;exact rfl
 | m + 1,b,⟨c,h1,h2⟩ => Walk.front (hm b c (hE c b h2) (Walk.lt hE ha h1) h2) (Walk.turn hE hm ha h1)
end Go.Proofs.YticefeanlicapaaDoor
