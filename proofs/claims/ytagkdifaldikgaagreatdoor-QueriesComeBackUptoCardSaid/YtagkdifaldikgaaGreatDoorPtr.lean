/-
  Calls that are handed pointers to own objects, frozen with what they point to; functions that hand back a pointer to a new object; calls in drawn regions that change an own object. No statement of the seat is proved here; no conditions.
-/
import Derived.Test.YtagkdifaldikgaaGreatDoorRun
import Derived.Test.YtagkdifaldikgaaGreatDoorFrz2
namespace Go.Proofs.YtagkdifaldikgaaGreatDoor
open Go.RowKit
set_option linter.unusedVariables false
set_option linter.unusedSimpArgs false

def FzOkT (H Ht : Heap) (a b : AV) : Prop := SlotOk H Ht [] a b ∨ ∃ (id ver off : Nat) (l : List FV) (cs : List AV),a = .ptr id ver off ∧ b = .f (.fp l) ∧ (Ht id).2 = none ∧ cellsOf ver (H id) = some cs ∧ off + l.length ≤ cs.length ∧ SlotsOk H Ht [] ((cs.drop off).take l.length) (l.map .f)
def FzOk (H : Heap) (a b : AV) : Prop := FzOkT H H0 a b
def FzsOk (H : Heap) : List AV → List AV → Prop
 | [],[] => True
 | a :: l,b :: l' => FzOk H a b ∧ FzsOk H l l'
 | _,_ => False
section
variable {P : Program} {G : Ghost} {H Ht : Heap} {Z : Nat → Prop} {w : World}
theorem FzOkT.rep (st : St P G H Z w) {a b : AV} {v : Value} (h : FzOkT H Ht a b) (hr : RepA G Z w a v) : RepA (wkG G Ht []) (wkZ G Ht [] Z) w b v := by
 rcases h with h | ⟨id,ver,off,l,cs,rfl,rfl,hd,hc,hin,hs⟩
 ·exact SlotOk.rep st a b v h hr
 ·obtain ⟨loc,hG,hob,hH⟩ := st.cells hc
  obtain ⟨g,o,rfl,rfl⟩ := hr.ptr_ hG
  obtain ⟨arr,e,hh,hcc⟩ := hob
  have hlen : ((cs.drop off).take l.length).length = l.length := by rw [List.length_take,List.length_drop];omega
  have hat : ∀ j,j < l.length → ∃ a u,((cs.drop off).take l.length)[j]? = some a ∧ w.cell? ⟨g,o + off + j,none⟩ = some u ∧ u.oneCell' = true ∧ RepA G Z w a u := fun j hj => by
   have h1 : ((cs.drop off).take l.length)[j]? = some (((cs.drop off).take l.length)[j]'(by omega)) := List.getElem?_eq_getElem _
   have h2 := h1
   rw [List.getElem?_take_of_lt hj,List.getElem?_drop] at h2
   obtain ⟨u,h3,h4,h5⟩ := hcc _ _ h2
   exact ⟨_,u,h1,by rw [Nat.add_assoc,cell_of_row w g _ arr e (0,0) hh];exact h3,h4,h5⟩
  obtain ⟨g1,g2⟩ := SlotsOk.rep st _ _ ((List.range l.length).map fun j => (w.cell? ⟨g,o + off + j,none⟩).getD undef) hs (by rw [List.length_map,List.length_range,hlen]) (fun j x u hx hu => by
   rw [List.getElem?_map] at hu
   obtain ⟨k,hk,rfl⟩ := Option.map_eq_some_iff.1 hu
   rw [List.getElem?_range (by rw [← hlen];exact (List.getElem?_eq_some_iff.1 hx).1)] at hk
   obtain rfl := Option.some.inj hk
   obtain ⟨a,u,k1,k2,k3,k4⟩ := hat j (by rw [← hlen];exact (List.getElem?_eq_some_iff.1 hx).1)
   rw [hx] at k1
   obtain rfl := Option.some.inj k1
   simp only [k2,Option.getD_some];exact k4)
  refine .f (.fp l g (o + off) (fun j => (w.cell? ⟨g,o + off + j,none⟩).getD undef) (.inr ⟨id,o,by rw [hG],.inl hd⟩) (fun j hj => ?_) fun j a hj => ?_)
  ·obtain ⟨a,u,k1,k2,k3,k4⟩ := hat j hj
   simp only [k2,Option.getD_some];exact ⟨trivial,k3⟩
  ·have hjl := (List.getElem?_eq_some_iff.1 hj).1
   have := g2 j (.f a) _ (by rw [List.getElem?_map,hj];rfl) (by rw [List.getElem?_map,List.getElem?_range hjl];rfl)
   exact this.f_
theorem FzsOk.rep (st : St P G H Z w) : ∀ {l l' : List AV} {us : List Value},FzsOk H l l' → us.length = l.length → (∀ (j : Nat) (x : AV) (u : Value),l[j]? = some x → us[j]? = some u → RepA G Z w x u) →
  l'.length = l.length ∧ ∀ (j : Nat) (x : AV) (u : Value),l'[j]? = some x → us[j]? = some u → RepA (wkG G H0 []) (wkZ G H0 [] Z) w x u
 | [],[],us,_,_,_ => ⟨rfl,fun j x u h => by simp at h⟩
 | [],_ :: _,us,h,_,_ => h.elim
 | _ :: _,[],us,h,_,_ => h.elim
 | a :: l,b :: l',[],_,hl,_ => by simp at hl
 | a :: l,b :: l',u :: us,h,hl,hr => by
  obtain ⟨g1,g2⟩ := FzsOk.rep st h.2 (us := us) (by simpa using hl) (fun j x u hx hu => hr (j + 1) x u (by simpa using hx) (by simpa using hu))
  refine ⟨by simp [g1],fun j x u' hx hu => ?_⟩
  cases j with
  | zero =>
   simp only [List.getElem?_cons_zero,Option.some.injEq] at hx hu
   subst hx hu
   exact FzOkT.rep st h.1 (hr 0 a u rfl rfl)
  | succ j => exact g2 j x u' (by simpa using hx) (by simpa using hu)
theorem call_fz {t : Nat} {f : FuncId} {args args' : List AV} {rs : List RS} (hF : FRet P f args' rs) (hfree : ∀ j,j < nextSs 0 rs → H (t + 1000 * j) = (0,none)) (hs : FzsOk H args args') (hp : rs.all (RS.all FV.plain) = true) : ACall P f args H (fun r H' => r = oneOrTup (putS t 0 rs) ∧ H' = putHs t 0 rs H) :=
 call_core hF (fun G Z => wkZ G H0 [] Z) FV.plain hp hfree
  (fun G Z w vs st hsz hrep => by
    obtain ⟨g1,g2⟩ := hs.rep st (us := vs.toList) (by rw [Array.length_toList];exact hsz) (fun j x u hx hu => hrep j x u hx (by simpa using hu))
    refine ⟨by omega,fun j a v ha hv => ?_⟩
    have := g2 j a v ha (by simpa using hv)
    have e : wkG G H0 [] = fun _ => (0,none) := by funext id;simp [wkG,H0]
    rw [e] at this;exact this)
  (fun G Z w st => ⟨fun b h => .inl h,fun b h => h.imp (fun h => h) fun ⟨id,o,h,_⟩ => ⟨id,o,h⟩⟩)
  (fun G Z Z1 w w1 x v st hz hx h => h.plain hx)
end
def FRetN (P : Program) (f : FuncId) (args : List AV) (pcs : List RC) : Prop :=
 FCall P f args H0 (fun r H' => ∃ id ver cs,r = .ptr id ver 0 ∧ cellsOf ver (H' id) = some cs ∧ RcsOk H' pcs cs ∧ (idsC cs).Nodup ∧ id ∉ idsC cs)
theorem FRetN.frz {P : Program} {f : FuncId} {args : List AV} {pcs ys : List RC} (h : FRetN P f args pcs) {l : List FV} (hy : ys = l.map RC.v) (hf : RcsFz pcs ys) : FRet P f args [.c (.v (.fp l))] :=
 ⟨h.1,fun G Z w vs h1 h2 h3 => (h.2 G Z w vs h1 h2 h3).mono fun e w' ⟨v,r,H',G',Z',e1,⟨id,ver,cs,hr,hc,hrs,hnd,hni⟩,st,hh,hrep⟩ => by
  have hk : WkOk H' (offH H') [] := ⟨(fun id o' h => by cases h),fun id _ => ⟨Nat.le_refl _,fun _ => by simp⟩⟩
  obtain ⟨st2,hh2⟩ := st.weak hk
  subst hr hy
  obtain ⟨hs,-⟩ := rcsFz_slots (k := 0) hrs hf
  rw [putCs_v] at hs
  have hlen : cs.length = l.length := by
   obtain ⟨loc,hG,hob,hH⟩ := st.cells hc
   have : ∀ (rs : List RC) (cs : List AV),RcsOk H' rs cs → cs.length = rs.length := fun rs => by
    induction rs with
    | nil => intro cs h;have : cs = [] := h;rw [this];rfl
    | cons r rs ih =>
     intro cs h
     cases cs with
     | nil => exact h.elim
     | cons a cs => simp [ih cs h.2]
   have h5 : ∀ (rs ys : List RC),RcsFz rs ys → ys.length = rs.length := fun rs => by
    induction rs with
    | nil => intro ys h;cases ys with
     | nil => rfl
     | cons y ys => exact h.elim
    | cons r rs ih => intro ys h;cases ys with
     | nil => exact h.elim
     | cons y ys => simp [ih ys h.2]
   rw [this _ _ hrs,← h5 _ _ hf,List.length_map]
  have hz : FzOkT H' (offH H') (.ptr id ver 0) (.f (.fp l)) := .inr ⟨id,ver,0,l,cs,rfl,rfl,rfl,hc,by omega,by rw [List.drop_zero,← hlen,List.take_length];exact hs⟩
  exact ⟨v,.f (.fp l),offH H',_,_,e1,⟨[_],rfl,⟨rfl,rfl⟩,List.nodup_nil⟩,st2,hh.trans hh2,hz.rep st hrep⟩⟩
theorem SlotsOk.app {H H' : Heap} {nw : List Nat} : ∀ {l l' m m' : List AV},SlotsOk H H' nw l l' → SlotsOk H H' nw m m' → SlotsOk H H' nw (l ++ m) (l' ++ m')
 | [],l',m,m',h,h2 => by
  have : l' = [] := by simpa [SlotsOk] using h
  rw [this];exact h2
 | a :: l,[],m,m',h,h2 => by simp [SlotsOk] at h
 | a :: l,b :: l',m,m',h,h2 => by
  simp only [SlotsOk] at h
  simp only [List.cons_append,SlotsOk]
  exact ⟨h.1,SlotsOk.app h.2 h2⟩

theorem rcOk_at {H H2 : Heap} {r : RC} {a : AV} (h : RcOk H r a) (he : ∀ id ∈ idsC [a],H2 id = H id) : RcOk H2 r a := by
 cases r with
 | v x => exact h
 | own sz n cs =>
  rcases h with h | ⟨id,ver,rfl,hc,hl⟩
  ·exact .inl h
  ·exact .inr ⟨id,ver,rfl,by rw [he id (by simp [idsC])];exact hc,hl⟩
theorem rcsOk_at {H H2 : Heap} : ∀ {rs : List RC} {l : List AV},RcsOk H rs l → (∀ id ∈ idsC l,H2 id = H id) → RcsOk H2 rs l
 | [],l,h,_ => h
 | r :: rs,[],h,_ => h.elim
 | r :: rs,a :: l,h,he => by
  have hsplit : idsC (a :: l) = idsC [a] ++ idsC l := by cases a <;> rfl
  rw [hsplit] at he
  exact ⟨rcOk_at h.1 fun id hid => he id (List.mem_append_left _ hid),rcsOk_at h.2 fun id hid => he id (List.mem_append_right _ hid)⟩
theorem rsOk_at {H H2 : Heap} : ∀ {rs : List RS} {l : List AV},RsOk H rs l → (∀ id ∈ idsS l,H2 id = H id) → RsOk H2 rs l
 | [],l,h,_ => h
 | .c r :: rs,[],h,_ => h.elim
 | .c r :: rs,a :: l,h,he => by
  have hna : ∀ cs,a ≠ .agg cs := by
   rintro cs rfl
   cases r with
   | v x => cases h.1
   | own sz n cs => rcases h.1 with ⟨h,_⟩ | ⟨_,_,h,_⟩ <;> cases h
  have hsplit : idsS (a :: l) = idsC [a] ++ idsS l := by cases a <;> first | rfl | exact absurd rfl (hna _)
  rw [hsplit] at he
  exact ⟨rcOk_at h.1 fun id hid => he id (List.mem_append_left _ hid),rsOk_at h.2 fun id hid => he id (List.mem_append_right _ hid)⟩
 | .agg rc :: rs,l,h,he => by
  have ⟨cs,l',e,hr1,hr2⟩ : ∃ cs l',l = .agg cs :: l' ∧ RcsOk H rc cs ∧ RsOk H rs l' := by
   cases l with
   | nil => exact h.elim
   | cons a l =>
    cases a <;> try exact h.elim
    exact ⟨_,_,rfl,h.1,h.2⟩
  subst e
  have hsplit : idsS (.agg cs :: l') = idsC cs ++ idsS l' := rfl
  rw [hsplit] at he
  exact ⟨rcsOk_at hr1 fun id hid => he id (List.mem_append_left _ hid),rsOk_at hr2 fun id hid => he id (List.mem_append_right _ hid)⟩
section
variable {P : Program} {R : Env → Heap → Prop} {Λ : Lams} {k : List It} {env : Env} {H : Heap} {d j : Nat} {f : Operand} {args : List Operand} {g : Option (Nat × Bool)} {los : List LO} {dos : List DO} {acc : List Fp} {od : List Nat} {fid : FuncId} {args' tl : List AV} {ri rs : List RS} {pcs pcs' : List RC}
theorem callG (hg : gd g env = some true) (hF : FRet P fid args' rs) (hfn : evA env f = .f (.fn (.func fid))) (hs : FzsOk H (args.map (evA env)) args') (hp : rs.all (RS.all FV.plain) = true) (hfree : Free d H)
  (h : srun P R 300 Λ (.ops los :: k) (putE env (some d) (oneOrTup (putS d 0 rs))) (putHs d 0 rs H)) : Ax P R Λ (.ops (⟨some d,.call f args,g⟩ :: los) :: k) env H :=
 ax_call (f := f) (args := args) rfl hg (Q := fun r H' => r = oneOrTup (putS d 0 rs) ∧ H' = putHs d 0 rs H) (by rw [hfn];exact call_fz (t := d) hF (fun j _ => hfree j) hs hp) fun v H' hq => by obtain ⟨h1,h2⟩ := hq;subst h1 h2;exact srun_sound 300 _ _ _ _ h
theorem callDPm (hg : gd g env = some true) (hF : FRetP P fid pcs ri tl pcs' rs) (hfn : evA env f = .f (.fn (.func fid))) (id ver : Nat) (cs l tl0 : List AV) (ha : args.map (evA env) = .ptr id ver 0 :: (l ++ tl0)) (hc : cellsOf ver (H id) = some cs) (hpc : RcsOk H pcs cs) (hri : RsOk H ri l) (hnd : (idsC cs ++ idsS l).Nodup) (hni : id ∉ idsC cs ++ idsS l) (htl : LeL tl0 tl) (hp : tl.all AV.pure = true) (hfree : Free d H)
  (hk : noConf acc od [] (id :: ((idsC cs ++ idsS l) ++ wrL d (nextSs (nextCs 0 pcs') rs))) = true)
  (h : srun P R 300 Λ (.dops dos (j + 1) (addFp j [] (id :: ((idsC cs ++ idsS l) ++ wrL d (nextSs (nextCs 0 pcs') rs))) acc) :: k) (putE env (some d) (oneOrTup (putS d (nextCs 0 pcs') rs))) (upd (putHs d (nextCs 0 pcs') rs (putHcs d 0 pcs' (killL (idsC cs ++ idsS l) H))) id (ver,some (.cells (putCs d 0 pcs'))))) : Ax P R Λ (.dops (⟨some d,.call f args,g,od⟩ :: dos) j acc :: k) env H := by
 generalize hwr : id :: ((idsC cs ++ idsS l) ++ wrL d (nextSs (nextCs 0 pcs') rs)) = wr at hk h
 have mid : id ∈ wr := by rw [← hwr];exact List.mem_cons_self ..
 have mids : ∀ i,i ∈ idsC cs ++ idsS l → i ∈ wr := fun i hi => by rw [← hwr];exact List.mem_cons_of_mem _ (List.mem_append_left _ hi)
 have mwr : ∀ j,j < nextSs (nextCs 0 pcs') rs → d + 1000 * j ∈ wr := fun j hj => by rw [← hwr];exact List.mem_cons_of_mem _ (List.mem_append_right _ (mem_wrL.2 ⟨j,hj,rfl⟩))
 have out : ∀ (H : Heap) i,i ∉ wr → upd (putHs d (nextCs 0 pcs') rs (putHcs d 0 pcs' (killL (idsC cs ++ idsS l) H))) id (ver,some (.cells (putCs d 0 pcs'))) i = H i := fun H i hi => by
  rw [upd_ne _ _ _ _ (fun e : i = id => hi (by rw [e];exact mid)),putHs_out fun j h1 h2 e => hi (by rw [e];exact mwr j h2),putHcs_out fun j h1 h2 e => hi (by rw [e];exact mwr j (Nat.lt_of_lt_of_le h2 (nextSs_le rs _))),kill_at,if_neg (fun h => hi (mids i h))]
 refine ax_dCall (f := f) (args := args) (rd := []) (wr := wr) rfl hg (out H) (fun H2 hr hw => ?_) hk (srun_sound 300 _ _ _ _ h)
 rw [hfn,ha]
 refine ACall.mono (call_pm (t := d) hF head_ptr (by rw [hw id mid];exact hc) (rcsOk_at hpc fun i hi => hw i (mids i (List.mem_append_left _ hi))) (rsOk_at hri fun i hi => hw i (mids i (List.mem_append_right _ hi))) hnd hni htl hp (free_ne hfree hc) (fun j hj => by rw [hw _ (mwr j hj)];exact hfree j)) fun r H' ⟨h1,h2⟩ => ⟨h1,?_⟩
 rw [h2]
 funext i
 unfold mix
 split
 ·rename_i hi
  unfold upd
  split
  ·rfl
  ·refine putHs_at (putHcs_at ?_)
   rw [kill_at,kill_at,hw i hi]
 ·rename_i hi;exact out H2 i hi
end
end Go.Proofs.YtagkdifaldikgaaGreatDoor
