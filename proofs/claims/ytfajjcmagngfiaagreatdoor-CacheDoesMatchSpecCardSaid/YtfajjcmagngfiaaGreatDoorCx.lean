/-
  Calls that are handed pointers to several own objects (in closures, too), beside values that are frozen for the call. No statement of the seat is proved here; no conditions.
-/
import Derived.Test.YtfajjcmagngfiaaGreatDoorPtr
namespace Go.Proofs.YtfajjcmagngfiaaGreatDoor
open Go.RowKit
set_option linter.unusedVariables false
set_option linter.unusedSimpArgs false

structure PO where
 id : Nat
 ver : Nat
 cs : List AV
 pcs : List RC
 pcs' : List RC
def cellsP : Nat → List (List RC) → List (List AV)
 | _,[] => []
 | k,p :: l => putCs 80000 k p :: cellsP (nextCs k p) l
def putP : Nat → List (List AV) → Heap → Heap
 | _,[],H => H
 | i,c :: l,H => upd (putP (i + 1) l H) (100001 + i) (1,some (.cells c))
def PAt (H : Heap) : Nat → List (List AV) → Prop
 | _,[] => True
 | i,c :: l => H (100001 + i) = (1,some (.cells c)) ∧ PAt H (i + 1) l
def FRetX (P : Program) (f : FuncId) (args : List AV) (pss pss' : List (List RC)) (rs : List RS) : Prop :=
 FCall P f args (putP 0 (cellsP 0 pss) (putHs 80000 0 (pss.map .agg) H0))
  (fun r H' => ∃ css l,r = oneOrTup l ∧ css.length = pss.length ∧ PAt H' 0 css ∧ RsOk H' (pss'.map .agg ++ rs) (css.map .agg ++ l) ∧ (idsS (css.map .agg ++ l)).Nodup ∧ ∀ i,i < pss.length → 100001 + i ∉ idsS (css.map .agg ++ l))
theorem PAt.get {H : Heap} : ∀ {css : List (List AV)} {i j : Nat} {c : List AV},PAt H i css → css[j]? = some c → H (100001 + (i + j)) = (1,some (.cells c))
 | [],_,_,_,_,h => by cases h
 | c :: l,i,0,c',h,hc => by
  obtain rfl : c = c' := by simpa using hc
  exact h.1
 | c :: l,i,j + 1,c',h,hc => by
  rw [show i + (j + 1) = (i + 1) + j by omega]
  exact PAt.get h.2 (by simpa using hc)
section
variable {P : Program}
def HeadOk1 (os : List PO) (a b : AV) : Prop := b = .any ∨ (b = a ∧ a.pure = true) ∨ ∃ k o,os[k]? = some o ∧ a = .ptr o.id o.ver 0 ∧ b = .ptr (100001 + k) 1 0
def HeadsOk (os : List PO) : List AV → List AV → Prop
 | [],[] => True
 | a :: l,b :: m => HeadOk1 os a b ∧ HeadsOk os l m
 | _,_ => False
def HeadOk (os : List PO) (a b : AV) : Prop := HeadOk1 os a b ∨ (∃ l m,a = .agg l ∧ b = .agg m ∧ HeadsOk os l m) ∨ ∃ g l m,a = .clo g l ∧ b = .clo g m ∧ HeadsOk os l m
def ArgsOk (os : List PO) : List AV → List AV → Prop
 | [],[] => True
 | a :: l,b :: m => HeadOk os a b ∧ ArgsOk os l m
 | _,_ => False
theorem HeadOk1.rep {os : List PO} {a b : AV} {G Gc : Ghost} {Z : Nat → Prop} {w : World} {v : Value} (h : HeadOk1 os a b) (hg : ∀ (k : Nat) o,os[k]? = some o → ∃ g ob,G o.id = (o.ver,some (some (g,ob))) ∧ Gc (100001 + k) = (1,some (some (g,ob)))) (hr : RepA G Z w a v) : RepA Gc Z w b v := by
 rcases h with rfl | ⟨rfl,h⟩ | ⟨k,o,h,rfl,rfl⟩
 ·exact .any v
 ·exact hr.pure_ (fun b hb => ⟨hb,rfl⟩) h
 ·obtain ⟨g,ob,h1,h2⟩ := hg k o h
  obtain ⟨g',o',h3,rfl⟩ := hr.ptr_ h1
  simp only [Option.some.injEq,Prod.mk.injEq] at h3
  obtain ⟨rfl,rfl⟩ := h3
  exact .ptrLive _ _ _ g ob h2
theorem HeadsOk.rep {os : List PO} {G Gc : Ghost} {Z : Nat → Prop} {w : World} (hg : ∀ (k : Nat) o,os[k]? = some o → ∃ g ob,G o.id = (o.ver,some (some (g,ob))) ∧ Gc (100001 + k) = (1,some (some (g,ob)))) : ∀ {l m : List AV},HeadsOk os l m → m.length = l.length ∧ ∀ (j : Nat) (x y : AV) (v : Value),l[j]? = some x → m[j]? = some y → RepA G Z w x v → RepA Gc Z w y v
 | [],[],_ => ⟨rfl,fun j x y v h => by simp at h⟩
 | [],_ :: _,h => h.elim
 | _ :: _,[],h => h.elim
 | a :: l,b :: m,h => by
  obtain ⟨h1,h2⟩ := HeadsOk.rep hg h.2
  refine ⟨by simp [h1],fun j x y v hx hy hr => ?_⟩
  cases j with
  | zero =>
   simp only [List.getElem?_cons_zero,Option.some.injEq] at hx hy
   subst hx hy
   exact h.1.rep hg hr
  | succ j => exact h2 j x y v (by simpa using hx) (by simpa using hy) hr
theorem HeadOk.rep {os : List PO} {a b : AV} {G Gc : Ghost} {Z : Nat → Prop} {w : World} {v : Value} (h : HeadOk os a b) (hg : ∀ (k : Nat) o,os[k]? = some o → ∃ g ob,G o.id = (o.ver,some (some (g,ob))) ∧ Gc (100001 + k) = (1,some (some (g,ob)))) (hr : RepA G Z w a v) : RepA Gc Z w b v := by
 rcases h with h | ⟨l,m,rfl,rfl,h⟩ | ⟨g,l,m,rfl,rfl,h⟩
 ·exact h.rep hg hr
 ·obtain ⟨us,rfl,h1,h0,h2⟩ := hr.agg_
  obtain ⟨h3,h4⟩ := HeadsOk.rep (Z := Z) (w := w) hg h
  refine .agg _ us (by omega) h0 fun j y u hy hu => ?_
  have hj := (List.getElem?_eq_some_iff.1 hy).1
  have hx : l[j]? = some (l[j]'(by omega)) := List.getElem?_eq_getElem _
  exact h4 j _ y u hx hy (h2 j _ u hx hu)
 ·obtain ⟨us,rfl,h1,h2⟩ := hr.clo_
  obtain ⟨h3,h4⟩ := HeadsOk.rep (Z := Z) (w := w) hg h
  refine .clo _ _ us (by omega) fun j y u hy hu => ?_
  have hj := (List.getElem?_eq_some_iff.1 hy).1
  have hx : l[j]? = some (l[j]'(by omega)) := List.getElem?_eq_getElem _
  exact h4 j _ y u hx hy (h2 j _ u hx hu)
theorem ArgsOk.rep {os : List PO} {G Gc : Ghost} {Z : Nat → Prop} {w : World} (hg : ∀ (k : Nat) o,os[k]? = some o → ∃ g ob,G o.id = (o.ver,some (some (g,ob))) ∧ Gc (100001 + k) = (1,some (some (g,ob)))) : ∀ {l m : List AV},ArgsOk os l m → m.length = l.length ∧ ∀ (j : Nat) (x y : AV) (v : Value),l[j]? = some x → m[j]? = some y → RepA G Z w x v → RepA Gc Z w y v
 | [],[],_ => ⟨rfl,fun j x y v h => by simp at h⟩
 | [],_ :: _,h => h.elim
 | _ :: _,[],h => h.elim
 | a :: l,b :: m,h => by
  obtain ⟨h1,h2⟩ := ArgsOk.rep hg h.2
  refine ⟨by simp [h1],fun j x y v hx hy hr => ?_⟩
  cases j with
  | zero =>
   simp only [List.getElem?_cons_zero,Option.some.injEq] at hx hy
   subst hx hy
   exact h.1.rep hg hr
  | succ j => exact h2 j x y v (by simpa using hx) (by simpa using hy) hr
def dropH (keep : List Nat) (H : Heap) : Heap := fun id => if keep.contains id = true then H id else ((H id).1,none)
theorem rcs_slots {H Ht : Heap} {K : List Nat} (hk : ∀ id,(H id).2.isSome = true → id ∈ K → Ht id = H id) : ∀ {pcs : List RC} {cs : List AV},RcsOk H pcs cs → (∀ id ∈ idsC cs,id ∈ K) → SlotsOk H Ht [] cs cs
 | [],cs,h,_ => by
  have : cs = [] := h
  subst this;rfl
 | r :: pcs,[],h,_ => h.elim
 | r :: pcs,a :: cs,h,hm => by
  have hsplit : idsC (a :: cs) = idsC [a] ++ idsC cs := by cases a <;> rfl
  rw [hsplit] at hm
  simp only [SlotsOk]
  refine ⟨?_,rcs_slots hk h.2 fun id hid => hm id (List.mem_append_right _ hid)⟩
  cases r with
  | v x =>
   have : a = .f x := h.1
   subst this
   exact so_ff ▸ .inl rfl
  | own sz n l =>
   rcases h.1 with ⟨rfl,_⟩ | ⟨id,ver,rfl,hc,_⟩
   ·exact so_ff ▸ .inl rfl
   ·rw [so_ss]
    have hmem := hm id (List.mem_append_left _ (by simp [idsC]))
    unfold cellsOf at hc
    split at hc
    ·rename_i v cs' e
     split at hc
     ·rename_i hv
      have hs : (H id).2.isSome = true := by rw [e];rfl
      rw [hk id hs hmem]
      exact ⟨rfl,rfl,rfl,rfl,by rw [e];simpa using hv.symm,by rw [e];simpa using hv.symm,by simp,hs,hs⟩
     ·cases hc
    ·cases hc
theorem rcs_fs {H : Heap} : ∀ {pcs : List RC} {cs : List AV},RcsOk H pcs cs → ∀ id ∈ idsC cs,∃ ver,∃ l : List FV,cellsOf ver (H id) = some (l.map .f)
 | [],cs,h,id,hid => by
  have : cs = [] := h
  subst this;cases hid
 | r :: pcs,[],h,_,_ => h.elim
 | r :: pcs,a :: cs,h,id,hid => by
  have hsplit : idsC (a :: cs) = idsC [a] ++ idsC cs := by cases a <;> rfl
  rw [hsplit] at hid
  rcases List.mem_append.1 hid with h1 | h1
  ·cases r with
   | v x =>
    have : a = .f x := h.1
    subst this;cases h1
   | own sz n l =>
    rcases h.1 with ⟨rfl,_⟩ | ⟨i,ver,rfl,hc,_⟩
    ·cases h1
    ·simp only [idsC,List.mem_singleton] at h1
     subst h1
     exact ⟨ver,l,hc⟩
  ·exact rcs_fs h.2 id h1
def FzsOkT (H Ht : Heap) : List AV → List AV → Prop
 | [],[] => True
 | a :: l,b :: m => FzOkT H Ht a b ∧ FzsOkT H Ht l m
 | _,_ => False
theorem FzsOkT.rep {G : Ghost} {H Ht : Heap} {Z : Nat → Prop} {w : World} (st : St P G H Z w) : ∀ {l l' : List AV},FzsOkT H Ht l l' → l'.length = l.length ∧ ∀ (j : Nat) (x y : AV) (u : Value),l[j]? = some x → l'[j]? = some y → RepA G Z w x u → RepA (wkG G Ht []) (wkZ G Ht [] Z) w y u
 | [],[],_ => ⟨rfl,fun j x y u h => by simp at h⟩
 | [],_ :: _,h => h.elim
 | _ :: _,[],h => h.elim
 | a :: l,b :: l',h => by
  obtain ⟨g1,g2⟩ := FzsOkT.rep st h.2
  refine ⟨by simp [g1],fun j x y u hx hy hr => ?_⟩
  cases j with
  | zero =>
   simp only [List.getElem?_cons_zero,Option.some.injEq] at hx hy
   subst hx hy
   exact FzOkT.rep st h.1 hr
  | succ j => exact g2 j x y u (by simpa using hx) (by simpa using hy) hr
end

def FRetX1 (P : Program) (f : FuncId) (args : List AV) (pcs pcs' : List RC) (rs : List RS) : Prop :=
 FCall P f args (upd (putHcs 80000 0 pcs H0) 100001 (1,some (.cells (putCs 80000 0 pcs))))
  (fun r H' => ∃ l cs',r = oneOrTup l ∧ H' 100001 = (1,some (.cells cs')) ∧ RcsOk H' pcs' cs' ∧ RsOk H' rs l ∧ (idsC cs' ++ idsS l).Nodup ∧ 100001 ∉ idsC cs' ++ idsS l)
theorem FRetX1.x {P : Program} {f : FuncId} {args : List AV} {pcs pcs' : List RC} {rs : List RS} (h : FRetX1 P f args pcs pcs' rs) : FRetX P f args [pcs] [pcs'] rs :=
 FCall.mono h fun r H' ⟨l,cs',h1,h2,h3,h4,h5,h6⟩ => ⟨[cs'],l,h1,rfl,⟨h2,trivial⟩,⟨h3,h4⟩,h5,fun i hi => by
  obtain rfl : i = 0 := by simpa using hi
  exact h6⟩
def FRetX2 (P : Program) (f : FuncId) (args : List AV) (p1 p2 p1' p2' : List RC) (rs : List RS) : Prop :=
 FCall P f args (upd (upd (putHcs 80000 (nextCs 0 p1) p2 (putHcs 80000 0 p1 H0)) 100002 (1,some (.cells (putCs 80000 (nextCs 0 p1) p2)))) 100001 (1,some (.cells (putCs 80000 0 p1))))
  (fun r H' => ∃ l c1 c2,r = oneOrTup l ∧ H' 100001 = (1,some (.cells c1)) ∧ H' 100002 = (1,some (.cells c2)) ∧ RcsOk H' p1' c1 ∧ RcsOk H' p2' c2 ∧ RsOk H' rs l ∧ (idsC c1 ++ (idsC c2 ++ idsS l)).Nodup ∧ 100001 ∉ idsC c1 ++ (idsC c2 ++ idsS l) ∧ 100002 ∉ idsC c1 ++ (idsC c2 ++ idsS l))
theorem FRetX2.x {P : Program} {f : FuncId} {args : List AV} {p1 p2 p1' p2' : List RC} {rs : List RS} (h : FRetX2 P f args p1 p2 p1' p2' rs) : FRetX P f args [p1,p2] [p1',p2'] rs :=
 FCall.mono h fun r H' ⟨l,c1,c2,h1,h2,h2',h3,h3',h4,h5,h6,h7⟩ => ⟨[c1,c2],l,h1,rfl,⟨h2,h2',trivial⟩,⟨h3,h3',h4⟩,h5,fun i hi => by
  have : i = 0 ∨ i = 1 := by simp at hi;omega
  rcases this with rfl | rfl
  ·exact h6
  ·exact h7⟩
section
variable {P : Program} {R : Env → Heap → Prop} {Λ : Lams} {k : List It} {env : Env} {H : Heap} {d : Nat} {f : Operand} {args : List Operand} {g : Option (Nat × Bool)} {los : List LO} {fid : FuncId} {args2 args' caps : List AV} {rs : List RS} {pcs pcs' p1 p2 p1' p2' : List RC}
end

theorem rcF_slotT {H Ht : Heap} : ∀ {r : RC} {a : AV} {y : FV},RcOk H r a → RcF r y → (∀ id ∈ idsC [a],(Ht id).2 = none) → SlotOk H Ht [] a (.f y)
 | .v x,a,y,h,h2,_ => by
  obtain rfl : a = .f x := h
  obtain rfl : y = x := h2
  rw [so_ff];exact .inl rfl
 | .own sz n cs,a,y,h,⟨rows,h2,h3,h4,h5⟩,hd => by
  subst h2
  rcases h with ⟨rfl,rfl,rfl⟩ | ⟨id,ver,rfl,h6,h7⟩
  ·obtain rfl : rows = [] := List.eq_nil_of_length_eq_zero h3
   rw [so_ff];exact .inr ⟨rfl,sz,rfl⟩
  ·refine ⟨rfl,h3,h4,hd id (by simp [idsC]),_,h6,?_,?_⟩
   ·rw [List.length_map,Nat.zero_add];exact h7
   ·rw [Nat.zero_mul,List.drop_zero,← List.map_take,h5]
theorem rcsFz_slotsT {H Ht : Heap} : ∀ {rs rs' : List RC} {l : List AV} {k : Nat},RcsOk H rs l → RcsFz rs rs' → (∀ id ∈ idsC l,(Ht id).2 = none) → SlotsOk H Ht [] l (putCs 0 k rs') ∧ nextCs k rs' = k
 | [],[],l,k,h,_,_ => by
  obtain rfl : l = [] := h
  exact ⟨rfl,rfl⟩
 | [],_ :: _,l,k,h,h2,_ => h2.elim
 | r :: rs,[],l,k,h,h2,_ => h2.elim
 | r :: rs,.own .. :: rs',l,k,h,h2,_ => h2.1.elim
 | r :: rs,.v y :: rs',[],k,h,h2,_ => h.elim
 | r :: rs,.v y :: rs',a :: l,k,h,h2,hd => by
  have hsplit : idsC (a :: l) = idsC [a] ++ idsC l := by cases a <;> rfl
  rw [hsplit] at hd
  obtain ⟨h3,h4⟩ := rcsFz_slotsT (k := k) h.2 h2.2 fun id hid => hd id (List.mem_append_right _ hid)
  exact ⟨⟨rcF_slotT h.1 h2.1 fun id hid => hd id (List.mem_append_left _ hid),h3⟩,h4⟩
theorem rsFz_slotsT {H Ht : Heap} : ∀ {rs rs' : List RS} {l : List AV} {k : Nat},RsOk H rs l → RsFz rs rs' → (∀ id ∈ idsS l,(Ht id).2 = none) → SlotsOk H Ht [] l (putS 0 k rs')
 | [],[],l,k,h,_,_ => by
  obtain rfl : l = [] := h
  exact rfl
 | [],.c _ :: _,l,k,h,h2,_ => h2.elim
 | [],.agg _ :: _,l,k,h,h2,_ => h2.elim
 | .c r :: rs,[],l,k,h,h2,_ => h2.elim
 | .c r :: rs,.agg _ :: _,l,k,h,h2,_ => h2.elim
 | .c r :: rs,.c (.own ..) :: rs',l,k,h,h2,_ => h2.1.elim
 | .c r :: rs,.c (.v y) :: rs',[],k,h,h2,_ => h.elim
 | .c r :: rs,.c (.v y) :: rs',a :: l,k,h,h2,hd => by
  have hna : ∀ cs,a ≠ .agg cs := by
   rintro cs rfl
   cases r with
   | v x => cases h.1
   | own sz n cs => rcases h.1 with ⟨h,_⟩ | ⟨_,_,h,_⟩ <;> cases h
  have hsplit : idsS (a :: l) = idsC [a] ++ idsS l := by cases a <;> first | rfl | exact absurd rfl (hna _)
  rw [hsplit] at hd
  exact ⟨rcF_slotT h.1 h2.1 fun id hid => hd id (List.mem_append_left _ hid),rsFz_slotsT (k := k) h.2 h2.2 fun id hid => hd id (List.mem_append_right _ hid)⟩
 | .agg r :: rs,[],l,k,h,h2,_ => h2.elim
 | .agg r :: rs,.c _ :: _,l,k,h,h2,_ => h2.elim
 | .agg r :: rs,.agg r' :: rs',l,k,h,h2,hd => by
  have ⟨cs,l',e,hr1,hr2⟩ : ∃ cs l',l = .agg cs :: l' ∧ RcsOk H r cs ∧ RsOk H rs l' := by
   cases l with
   | nil => exact h.elim
   | cons a l =>
    cases a <;> try exact h.elim
    exact ⟨_,_,rfl,h.1,h.2⟩
  subst e
  have hsplit : idsS (.agg cs :: l') = idsC cs ++ idsS l' := rfl
  rw [hsplit] at hd
  obtain ⟨h3,h4⟩ := rcsFz_slotsT (k := k) hr1 h2.1 fun id hid => hd id (List.mem_append_left _ hid)
  have h5 := rsFz_slotsT (k := k) hr2 h2.2 fun id hid => hd id (List.mem_append_right _ hid)
  refine ⟨?_,?_⟩
  ·show SlotOk H Ht [] (.agg cs) (.agg (putCs 0 k r'))
   rw [SlotOk];exact h3
  ·show SlotsOk H Ht [] l' (putS 0 (nextCs k r') rs')
   rw [h4];exact h5
theorem FRetH.frz {P : Program} {f : FuncId} {a0 : AV} {pcs : List RC} {ri : List RS} {tl : List AV} {pcs' : List RC} {rs rs' : List RS} (h : FRetH P f a0 pcs ri tl pcs' rs) (hf : RsFz rs rs') : FRetH P f a0 pcs ri tl pcs' rs' :=
 ⟨h.1,fun G Z w vs h1 h2 h3 => (h.2 G Z w vs h1 h2 h3).mono fun e w' ⟨v,r,H',G',Z',e1,⟨l,cs',hr,hp,hrc,hrs,hnd,hni⟩,st,hh,hrep⟩ => by
  generalize hK : (100001 :: idsC cs' : List Nat) = K
  have hin : ∀ id,id ∈ K → dropH K H' id = H' id := fun id h => by unfold dropH;rw [if_pos (by simpa using h)]
  have hout : ∀ id,id ∉ K → dropH K H' id = ((H' id).1,none) := fun id h => by unfold dropH;rw [if_neg (by simpa using h)]
  have hver : ∀ id,(dropH K H' id).1 = (H' id).1 := fun id => by
   by_cases h : id ∈ K
   ·rw [hin id h]
   ·rw [hout id h]
  have hmem : ∀ id ∈ idsC cs',id ∈ K := fun id h => by rw [← hK];exact List.mem_cons_of_mem _ h
  have hmp : 100001 ∈ K := by rw [← hK];exact List.mem_cons_self ..
  have hwk : WkOk H' (dropH K H') [] := ⟨fun id o' h => .inr ⟨by simp,by
   by_cases hk : id ∈ K
   ·rw [hin id hk] at h
    rw [h]
    have hk2 := hk
    rw [← hK] at hk2
    rcases List.mem_cons.1 hk2 with rfl | h1
    ·rw [hp] at h
     obtain rfl := Option.some.inj h
     exact ⟨_,rfl,rcs_slots (fun id _ hid => hin id hid) hrc hmem⟩
    ·obtain ⟨ver,l,hc⟩ := rcs_fs hrc id h1
     unfold cellsOf at hc
     split at hc
     ·rename_i v cs' e
      split at hc
      ·obtain rfl := Option.some.inj hc
       rw [e] at h
       obtain rfl := Option.some.inj h
       exact ⟨_,rfl,SlotsOk.fs rfl⟩
      ·cases hc
     ·cases hc
   ·rw [hout id hk] at h;cases h⟩,fun id _ => ⟨by rw [hver];exact Nat.le_refl _,fun _ => by simp⟩⟩
  obtain ⟨st2,hh2⟩ := st.weak hwk
  have hnl : ∀ id ∈ idsS l,(dropH K H' id).2 = none := fun id hid => by
   rw [hout id]
   intro hk
   rw [← hK] at hk
   rcases List.mem_cons.1 hk with rfl | hk
   ·exact hni (List.mem_append_right _ hid)
   ·exact (List.nodup_append.1 hnd).2.2 id hk id hid rfl
  have hs := rsFz_slotsT (k := 0) hrs hf hnl
  obtain ⟨p1,p2⟩ := ss_plain (t := 0) (H := dropH K H') (k := 0) (rsFz_plain hf)
  generalize hys : putS 0 0 rs' = ys at hs p1 p2
  refine ⟨v,oneOrTup ys,dropH K H',_,_,e1,⟨ys,cs',rfl,by rw [hin _ hmp];exact hp,rcsOk_at hrc fun id hid => hin id (hmem id hid),p1,by rw [p2,List.append_nil];exact (List.nodup_append.1 hnd).1,by rw [p2,List.append_nil];exact fun h => hni (List.mem_append_left _ h)⟩,st2,hh.trans hh2,?_⟩
  subst hr
  have gen : ∀ us : Array Value,us.size = l.length → (∀ (j : Nat) (a : AV) (u : Value),l[j]? = some a → us[j]? = some u → RepA G' Z' w' a u) → ys.length = l.length ∧ ∀ (j : Nat) (a : AV) (u : Value),ys[j]? = some a → us[j]? = some u → RepA _ _ w' a u := fun us hul hus => by
   obtain ⟨g1,g2⟩ := SlotsOk.rep st l _ us.toList hs (by simpa using hul) fun j x u hx hu => hus j x u hx (by simpa using hu)
   exact ⟨g1,fun j a u ha hu => g2 j a u ha (by simpa using hu)⟩
  cases l with
  | nil =>
   obtain ⟨us,rfl,g1,g3⟩ := RepA.tup_ hrep
   obtain ⟨k1,k2⟩ := gen us g1 g3
   cases ys with
   | nil => exact .tup _ us (by simpa using g1) k2
   | cons y ys => simp at k1
  | cons a l =>
   cases l with
   | nil =>
    cases ys with
    | nil => exact hs.elim
    | cons y ys =>
     cases ys with
     | nil => exact SlotOk.rep st a _ v hs.1 hrep
     | cons y' ys => have := hs.2;simp [SlotsOk] at this
   | cons b l =>
    obtain ⟨us,rfl,g1,g3⟩ := RepA.tup_ hrep
    obtain ⟨k1,k2⟩ := gen us g1 g3
    cases ys with
    | nil => simp at k1
    | cons y ys =>
     cases ys with
     | nil => simp at k1
     | cons y' ys => exact .tup _ us (by rw [g1,← k1]) k2⟩
end Go.Proofs.YtfajjcmagngfiaaGreatDoor
