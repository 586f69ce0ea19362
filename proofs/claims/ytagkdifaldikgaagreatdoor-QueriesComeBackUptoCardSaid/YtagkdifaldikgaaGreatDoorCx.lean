/-
  Calls that are handed pointers to several own objects (in closures, too), beside values that are frozen for the call. No statement of the seat is proved here; no conditions.
-/
import Derived.Test.YtagkdifaldikgaaGreatDoorPtr
namespace Go.Proofs.YtagkdifaldikgaaGreatDoor
open Go.RowKit
set_option linter.unusedVariables false
set_option linter.unusedSimpArgs false

structure PO where
 id : Nat
 ver : Nat
 cs : List AV
 pcs : List RC
 pcs' : List RC
def cellsP : Nat → List (List RC) → List (List AV)
 | _,[] => []
 | k,p :: l => putCs 80000 k p :: cellsP (nextCs k p) l
def putP : Nat → List (List AV) → Heap → Heap
 | _,[],H => H
 | i,c :: l,H => upd (putP (i + 1) l H) (100001 + i) (1,some (.cells c))
def PAt (H : Heap) : Nat → List (List AV) → Prop
 | _,[] => True
 | i,c :: l => H (100001 + i) = (1,some (.cells c)) ∧ PAt H (i + 1) l
def FRetX (P : Program) (f : FuncId) (args : List AV) (pss pss' : List (List RC)) (rs : List RS) : Prop :=
 FCall P f args (putP 0 (cellsP 0 pss) (putHs 80000 0 (pss.map .agg) H0))
  (fun r H' => ∃ css l,r = oneOrTup l ∧ css.length = pss.length ∧ PAt H' 0 css ∧ RsOk H' (pss'.map .agg ++ rs) (css.map .agg ++ l) ∧ (idsS (css.map .agg ++ l)).Nodup ∧ ∀ i,i < pss.length → 100001 + i ∉ idsS (css.map .agg ++ l))
def putX : List (Nat × Nat × List AV) → Heap → Heap
 | [],H => H
 | x :: l,H => upd (putX l H) x.1 (x.2.1,some (.cells x.2.2))
def poX (t : Nat) : Nat → List PO → List (Nat × Nat × List AV)
 | _,[] => []
 | k,o :: l => (o.id,o.ver,putCs t k o.pcs') :: poX t (nextCs k o.pcs') l
theorem putX_out {i : Nat} : ∀ {l : List (Nat × Nat × List AV)} {H : Heap},(∀ x ∈ l,i ≠ x.1) → putX l H i = H i
 | [],_,_ => rfl
 | x :: l,H,h => by
  rw [putX,upd_ne _ _ _ _ (h x (List.mem_cons_self ..))]
  exact putX_out fun y hy => h y (List.mem_cons_of_mem _ hy)
theorem putX_in : ∀ {l : List (Nat × Nat × List AV)} {H : Heap} {k : Nat} {x : Nat × Nat × List AV},l[k]? = some x → (l.map (·.1)).Nodup → putX l H x.1 = (x.2.1,some (.cells x.2.2))
 | [],_,k,x,h,_ => by cases h
 | y :: l,H,0,x,h,_ => by
  obtain rfl : y = x := by simpa using h
  rw [putX,upd_same]
 | y :: l,H,k + 1,x,h,hn => by
  rw [List.map_cons,List.nodup_cons] at hn
  have hm : x ∈ l := List.mem_of_getElem? (by simpa using h)
  rw [putX,upd_ne _ _ _ _ (fun e => hn.1 (List.mem_map.2 ⟨x,hm,e⟩))]
  exact putX_in (by simpa using h) hn.2
theorem poX_len {t : Nat} : ∀ {os : List PO} {k : Nat},(poX t k os).length = os.length
 | [],_ => rfl
 | o :: l,k => by rw [poX,List.length_cons,poX_len,List.length_cons]
theorem poX_id {t : Nat} : ∀ {os : List PO} {k : Nat},(poX t k os).map (·.1) = os.map PO.id
 | [],_ => rfl
 | o :: l,k => by rw [poX,List.map_cons,List.map_cons,poX_id]
theorem poX_get {t : Nat} : ∀ {os : List PO} {k j : Nat} {x : Nat × Nat × List AV},(poX t k os)[j]? = some x → ∃ o,os[j]? = some o ∧ x.1 = o.id ∧ x.2.1 = o.ver
 | [],_,_,_,h => by simp [poX] at h
 | o :: l,k,0,x,h => by
  rw [poX] at h
  obtain rfl : _ = x := by simpa using h
  exact ⟨o,rfl,rfl,rfl⟩
 | o :: l,k,j + 1,x,h => by
  rw [poX] at h
  exact poX_get (os := l) (k := nextCs k o.pcs') (by simpa using h)
theorem poX_some {t : Nat} {os : List PO} {k j : Nat} {o : PO} (h : os[j]? = some o) : ∃ x,(poX t k os)[j]? = some x ∧ x.1 = o.id ∧ x.2.1 = o.ver := by
 have hj := (List.getElem?_eq_some_iff.1 h).1
 have hx : (poX t k os)[j]? = some ((poX t k os)[j]'(by rw [poX_len];exact hj)) := List.getElem?_eq_getElem _
 obtain ⟨o',h1,h2,h3⟩ := poX_get hx
 rw [h] at h1
 obtain rfl := Option.some.inj h1
 exact ⟨_,hx,h2,h3⟩
theorem putS_poX {t : Nat} {rs : List RS} : ∀ {os : List PO} {k : Nat},putS t k ((os.map fun o => RS.agg o.pcs') ++ rs) = (poX t k os).map (fun x => AV.agg x.2.2) ++ putS t (nextSs k (os.map fun o => RS.agg o.pcs')) rs
 | [],_ => rfl
 | o :: l,k => by
  rw [List.map_cons,List.cons_append,putS,putS_poX,poX,List.map_cons,List.cons_append,nextSs]
theorem cellsP_len : ∀ {pss : List (List RC)} {k : Nat},(cellsP k pss).length = pss.length
 | [],_ => rfl
 | p :: l,k => by rw [cellsP,List.length_cons,cellsP_len,List.length_cons]
theorem putS_cellsP : ∀ {pss : List (List RC)} {k : Nat},putS 80000 k (pss.map .agg) = (cellsP k pss).map .agg
 | [],_ => rfl
 | p :: l,k => by rw [List.map_cons,putS,putS_cellsP,cellsP,List.map_cons]
theorem PAt.get {H : Heap} : ∀ {css : List (List AV)} {i j : Nat} {c : List AV},PAt H i css → css[j]? = some c → H (100001 + (i + j)) = (1,some (.cells c))
 | [],_,_,_,_,h => by cases h
 | c :: l,i,0,c',h,hc => by
  obtain rfl : c = c' := by simpa using hc
  exact h.1
 | c :: l,i,j + 1,c',h,hc => by
  rw [show i + (j + 1) = (i + 1) + j by omega]
  exact PAt.get h.2 (by simpa using hc)
theorem putP_out {id : Nat} : ∀ {l : List (List AV)} {i : Nat} {H : Heap},(∀ j,j < l.length → id ≠ 100001 + (i + j)) → putP i l H id = H id
 | [],_,_,_ => rfl
 | c :: l,i,H,h => by
  rw [putP,upd_ne _ _ _ _ (by have := h 0 (by simp);rwa [Nat.add_zero] at this)]
  exact putP_out fun j hj => by have := h (j + 1) (by simp;omega);omega

section
variable {P : Program}
theorem adoptP : ∀ (cls : List (Nat × Nat × List AV)) {i : Nat} {G : Ghost} {H : Heap} {Z : Nat → Prop} {w : World},St P G H Z w → (∀ j,j < cls.length → H (100001 + (i + j)) = (0,none)) →
  (∀ c ∈ cls,c.1 < w.heap.size ∧ ¬ Z c.1 ∧ ¬ LiveB G c.1 ∧ ∃ (arr : Array Value) (e : TypeId),w.heap[c.1]? = some (.cells arr e (0,0)) ∧ CellsR (RepA G Z w) arr c.2.1 c.2.2 ∧ OnesA arr) → (cls.map (·.1)).Nodup →
  ∃ G',St P G' (putP i (cls.map (·.2.2)) H) Z w ∧ Keep G Z w G' Z w ∧ (∀ j c,cls[j]? = some c → G' (100001 + (i + j)) = (1,some (some (c.1,c.2.1)))) ∧ (∀ b,LiveB G' b → LiveB G b ∨ ∃ c ∈ cls,b = c.1) ∧ ∀ id,(∀ j,j < cls.length → id ≠ 100001 + (i + j)) → G' id = G id
 | [],i,G,H,Z,w,st,_,_,_ => ⟨G,st,Keep.refl _ _ _,fun j c h => by simp at h,fun b h => .inl h,fun _ _ => rfl⟩
 | c :: l,i,G,H,Z,w,st,hd,hc,hn => by
  rw [List.map_cons,List.nodup_cons] at hn
  obtain ⟨G1,st1,k1,a1,lv1,e1⟩ := adoptP l (i := i + 1) st (fun j hj => by rw [show i + 1 + j = i + (j + 1) by omega];exact hd (j + 1) (by simp;omega)) (fun x hx => hc x (List.mem_cons_of_mem _ hx)) hn.2
  obtain ⟨c1,c2,c3,arr,e,c4,c5,c6⟩ := hc c (List.mem_cons_self ..)
  have hd0 : putP (i + 1) (l.map (·.2.2)) H (100001 + i) = (0,none) := by
   rw [putP_out fun j _ => by omega]
   have := hd 0 (by simp)
   rwa [Nat.add_zero] at this
  obtain ⟨st2,k2⟩ := st1.adopt2 hd0 (cs := c.2.2) (loc := some (c.1,c.2.1)) ⟨c1,c2,fun hl => by
   rcases lv1 _ hl with h | ⟨x,hx,h⟩
   ·exact c3 h
   ·exact hn.1 (List.mem_map.2 ⟨x,hx,h.symm⟩),arr,e,c4,c5.mono fun a v hr => hr.keep k1,c6⟩
  refine ⟨_,st2,k1.tr k2,fun j x hx => ?_,fun b hb => ?_,fun id hid => ?_⟩
  ·cases j with
   | zero =>
    obtain rfl : c = x := by simpa using hx
    rw [Nat.add_zero,upd_same]
   | succ j =>
    rw [upd_ne _ _ _ _ (by omega),show i + (j + 1) = i + 1 + j by omega]
    exact a1 j x (by simpa using hx)
  ·obtain ⟨id,o,h⟩ := hb
   by_cases e : id = 100001 + i
   ·subst e
    rw [upd_same] at h
    simp only [Option.some.injEq,Prod.mk.injEq] at h
    exact .inr ⟨c,List.mem_cons_self ..,h.1.symm⟩
   ·rw [upd_ne _ _ _ _ e] at h
    rcases lv1 b ⟨id,o,h⟩ with h | ⟨x,hx,h⟩
    ·exact .inl h
    ·exact .inr ⟨x,List.mem_cons_of_mem _ hx,h⟩
  ·rw [upd_ne _ _ _ _ (by have := hid 0 (by simp);omega)]
   exact e1 id fun j hj => by have := hid (j + 1) (by simp;omega);omega
theorem recellL : ∀ (xs : List (Nat × Nat × List AV)) {G : Ghost} {H : Heap} {Z : Nat → Prop} {w : World},St P G H Z w → (∀ x ∈ xs,∃ g o arr e,G x.1 = (x.2.1,some (some (g,o))) ∧ w.heap[g]? = some (.cells arr e (0,0)) ∧ CellsR (RepA G Z w) arr o x.2.2) → St P G (putX xs H) Z w
 | [],_,_,_,_,st,_ => st
 | x :: xs,G,H,Z,w,st,h => by
  obtain ⟨g,o,arr,e,h1,h2,h3⟩ := h x (List.mem_cons_self ..)
  exact (recellL xs st fun y hy => h y (List.mem_cons_of_mem _ hy)).recell h1 h2 h3
def HeadOk1 (os : List PO) (a b : AV) : Prop := b = .any ∨ (b = a ∧ a.pure = true) ∨ ∃ k o,os[k]? = some o ∧ a = .ptr o.id o.ver 0 ∧ b = .ptr (100001 + k) 1 0
def HeadsOk (os : List PO) : List AV → List AV → Prop
 | [],[] => True
 | a :: l,b :: m => HeadOk1 os a b ∧ HeadsOk os l m
 | _,_ => False
def HeadOk (os : List PO) (a b : AV) : Prop := HeadOk1 os a b ∨ (∃ l m,a = .agg l ∧ b = .agg m ∧ HeadsOk os l m) ∨ ∃ g l m,a = .clo g l ∧ b = .clo g m ∧ HeadsOk os l m
def ArgsOk (os : List PO) : List AV → List AV → Prop
 | [],[] => True
 | a :: l,b :: m => HeadOk os a b ∧ ArgsOk os l m
 | _,_ => False
theorem HeadOk1.rep {os : List PO} {a b : AV} {G Gc : Ghost} {Z : Nat → Prop} {w : World} {v : Value} (h : HeadOk1 os a b) (hg : ∀ (k : Nat) o,os[k]? = some o → ∃ g ob,G o.id = (o.ver,some (some (g,ob))) ∧ Gc (100001 + k) = (1,some (some (g,ob)))) (hr : RepA G Z w a v) : RepA Gc Z w b v := by
 rcases h with rfl | ⟨rfl,h⟩ | ⟨k,o,h,rfl,rfl⟩
 ·exact .any v
 ·exact hr.pure_ (fun b hb => ⟨hb,rfl⟩) h
 ·obtain ⟨g,ob,h1,h2⟩ := hg k o h
  obtain ⟨g',o',h3,rfl⟩ := hr.ptr_ h1
  simp only [Option.some.injEq,Prod.mk.injEq] at h3
  obtain ⟨rfl,rfl⟩ := h3
  exact .ptrLive _ _ _ g ob h2
theorem HeadsOk.rep {os : List PO} {G Gc : Ghost} {Z : Nat → Prop} {w : World} (hg : ∀ (k : Nat) o,os[k]? = some o → ∃ g ob,G o.id = (o.ver,some (some (g,ob))) ∧ Gc (100001 + k) = (1,some (some (g,ob)))) : ∀ {l m : List AV},HeadsOk os l m → m.length = l.length ∧ ∀ (j : Nat) (x y : AV) (v : Value),l[j]? = some x → m[j]? = some y → RepA G Z w x v → RepA Gc Z w y v
 | [],[],_ => ⟨rfl,fun j x y v h => by simp at h⟩
 | [],_ :: _,h => h.elim
 | _ :: _,[],h => h.elim
 | a :: l,b :: m,h => by
  obtain ⟨h1,h2⟩ := HeadsOk.rep hg h.2
  refine ⟨by simp [h1],fun j x y v hx hy hr => ?_⟩
  cases j with
  | zero =>
   simp only [List.getElem?_cons_zero,Option.some.injEq] at hx hy
   subst hx hy
   exact h.1.rep hg hr
  | succ j => exact h2 j x y v (by simpa using hx) (by simpa using hy) hr
theorem HeadOk.rep {os : List PO} {a b : AV} {G Gc : Ghost} {Z : Nat → Prop} {w : World} {v : Value} (h : HeadOk os a b) (hg : ∀ (k : Nat) o,os[k]? = some o → ∃ g ob,G o.id = (o.ver,some (some (g,ob))) ∧ Gc (100001 + k) = (1,some (some (g,ob)))) (hr : RepA G Z w a v) : RepA Gc Z w b v := by
 rcases h with h | ⟨l,m,rfl,rfl,h⟩ | ⟨g,l,m,rfl,rfl,h⟩
 ·exact h.rep hg hr
 ·obtain ⟨us,rfl,h1,h0,h2⟩ := hr.agg_
  obtain ⟨h3,h4⟩ := HeadsOk.rep (Z := Z) (w := w) hg h
  refine .agg _ us (by omega) h0 fun j y u hy hu => ?_
  have hj := (List.getElem?_eq_some_iff.1 hy).1
  have hx : l[j]? = some (l[j]'(by omega)) := List.getElem?_eq_getElem _
  exact h4 j _ y u hx hy (h2 j _ u hx hu)
 ·obtain ⟨us,rfl,h1,h2⟩ := hr.clo_
  obtain ⟨h3,h4⟩ := HeadsOk.rep (Z := Z) (w := w) hg h
  refine .clo _ _ us (by omega) fun j y u hy hu => ?_
  have hj := (List.getElem?_eq_some_iff.1 hy).1
  have hx : l[j]? = some (l[j]'(by omega)) := List.getElem?_eq_getElem _
  exact h4 j _ y u hx hy (h2 j _ u hx hu)
theorem ArgsOk.rep {os : List PO} {G Gc : Ghost} {Z : Nat → Prop} {w : World} (hg : ∀ (k : Nat) o,os[k]? = some o → ∃ g ob,G o.id = (o.ver,some (some (g,ob))) ∧ Gc (100001 + k) = (1,some (some (g,ob)))) : ∀ {l m : List AV},ArgsOk os l m → m.length = l.length ∧ ∀ (j : Nat) (x y : AV) (v : Value),l[j]? = some x → m[j]? = some y → RepA G Z w x v → RepA Gc Z w y v
 | [],[],_ => ⟨rfl,fun j x y v h => by simp at h⟩
 | [],_ :: _,h => h.elim
 | _ :: _,[],h => h.elim
 | a :: l,b :: m,h => by
  obtain ⟨h1,h2⟩ := ArgsOk.rep hg h.2
  refine ⟨by simp [h1],fun j x y v hx hy hr => ?_⟩
  cases j with
  | zero =>
   simp only [List.getElem?_cons_zero,Option.some.injEq] at hx hy
   subst hx hy
   exact h.1.rep hg hr
  | succ j => exact h2 j x y v (by simpa using hx) (by simpa using hy) hr
def idsP (os : List PO) : List Nat := idsS (os.map fun o => AV.agg o.cs)
theorem exists_lst {α : Type} {R : Nat → α → Prop} : ∀ n : Nat,(∀ i,i < n → ∃ u,R i u) → ∃ us : List α,us.length = n ∧ ∀ i u,us[i]? = some u → R i u
 | 0,_ => ⟨[],rfl,fun i u h => by simp at h⟩
 | n + 1,h => by
  obtain ⟨us,h1,h2⟩ := exists_lst n (fun i hi => h i (by omega))
  obtain ⟨u,hu⟩ := h n (by omega)
  refine ⟨us ++ [u],by simp [h1],fun i x hx => ?_⟩
  rcases Nat.lt_or_ge i n with h' | h'
  ·rw [List.getElem?_append_left (by omega)] at hx
   exact h2 i x hx
  ·have hi := (List.getElem?_eq_some_iff.1 hx).1
   simp only [List.length_append,List.length_singleton] at hi
   obtain rfl : i = n := by omega
   rw [List.getElem?_append_right (by omega),h1,Nat.sub_self] at hx
   obtain rfl : u = x := by simpa using hx
   exact hu
theorem idsP_mem {os : List PO} {o : PO} (h : o ∈ os) : ∀ id ∈ idsC o.cs,id ∈ idsP os := fun id hid => by
 unfold idsP
 induction os with
 | nil => cases h
 | cons x os ih =>
  show id ∈ idsC x.cs ++ idsS (os.map fun o => AV.agg o.cs)
  rcases List.mem_cons.1 h with rfl | h
  ·exact List.mem_append_left _ hid
  ·exact List.mem_append_right _ (ih h)
theorem call_xx {t : Nat} {f : FuncId} {args args2 args' : List AV} {H HA : Heap} {os : List PO} {rs : List RS} {p : FV → Bool}
  (hF : FRetX P f args' (os.map PO.pcs) (os.map PO.pcs') rs)
  (hid : ∀ o ∈ os,cellsOf o.ver (H o.id) = some o.cs ∧ o.cs ≠ [])
  (hpc : RsOk HA ((os.map PO.pcs).map .agg) (os.map fun o => AV.agg o.cs))
  (hlen : os.length ≤ 900) (hnd : (idsP os).Nodup) (hno : (os.map PO.id).Nodup) (hni : ∀ o ∈ os,o.id ∉ idsP os)
  (hHA : ∀ o ∈ os,HA o.id = H o.id)
  (hp : ((os.map fun o => RS.agg o.pcs') ++ rs).all (RS.all p) = true)
  (hA : ∀ G Z w (vs : Array Value),St P G H Z w → vs.size = args.length → (∀ (j : Nat) (a : AV) (v : Value),args[j]? = some a → vs[j]? = some v → RepA G Z w a v) →
    ∃ GA ZA,St P GA HA ZA w ∧ (∀ b,Z b → ZA b) ∧ (∀ b,ZA b → Z b ∨ LiveB G b) ∧ (∀ id,(GA id).2 = none ∨ GA id = G id) ∧ ((∀ x,p x = true → x.plain = true) ∨ ∀ b,ZA b → Z b) ∧ vs.size = args2.length ∧ ∀ (j : Nat) (a : AV) (v : Value),args2[j]? = some a → vs[j]? = some v → RepA GA ZA w a v)
  (hT : ArgsOk os args2 args')
  (hidt : ∀ o ∈ os,∀ j,o.id ≠ t + 1000 * j) (hfree : ∀ j,j < nextSs 0 ((os.map fun o => RS.agg o.pcs') ++ rs) → H (t + 1000 * j) = (0,none)) :
  ACall P f args H (fun r H' => r = oneOrTup (putS t (nextSs 0 (os.map fun o => RS.agg o.pcs')) rs) ∧ H' = putX (poX t 0 os) (putHs t 0 ((os.map fun o => RS.agg o.pcs') ++ rs) (killL (idsP os) H))) := by
 refine ⟨hF.1,fun G Z w vs st hsz hrep => ?_⟩
 obtain ⟨GA,ZA,stA,za1,za2,gA,hmode,hsz2,hrep2a⟩ := hA G Z w vs st hsz hrep
 obtain ⟨ls,hls1,hls2⟩ := exists_lst (R := fun k (q : Nat × Nat) => ∀ o,os[k]? = some o → G o.id = (o.ver,some (some q)) ∧ GA o.id = G o.id ∧ ∃ (arr : Array Value) (e : TypeId),w.heap[q.1]? = some (.cells arr e (0,0)) ∧ CellsR (RepA GA ZA w) arr q.2 o.cs) os.length (fun k hk => by
  have hx : os[k]? = some (os[k]) := List.getElem?_eq_getElem hk
  have hm := List.mem_of_getElem? hx
  obtain ⟨hc,hne⟩ := hid _ hm
  obtain ⟨loc,h1,h2,h3⟩ := st.cells hc
  have hcA : cellsOf (os[k]).ver (HA (os[k]).id) = some (os[k]).cs := by rw [hHA _ hm];exact hc
  obtain ⟨locA,h1A,h2A,h3A⟩ := stA.cells hcA
  have hgg : GA (os[k]).id = G (os[k]).id := by
   rcases gA (os[k]).id with h | h
   ·rw [h1A] at h;cases h
   ·exact h
  have e : locA = loc := by
   rw [h1A,h1] at hgg
   simpa using hgg
  subst e
  cases locA with
  | none => exact absurd (show _ = [] from h2A) hne
  | some q =>
   obtain ⟨g,ob⟩ := q
   obtain ⟨arr,e,h4,h5⟩ := h2A
   refine ⟨(g,ob),fun o ho => ?_⟩
   rw [hx] at ho
   obtain rfl := Option.some.inj ho
   exact ⟨h1,hgg,arr,e,h4,h5⟩)
 have hl : ∀ (k : Nat) o,os[k]? = some o → ∃ q,ls[k]? = some q ∧ G o.id = (o.ver,some (some q)) ∧ GA o.id = G o.id ∧ ∃ (arr : Array Value) (e : TypeId),w.heap[q.1]? = some (.cells arr e (0,0)) ∧ CellsR (RepA GA ZA w) arr q.2 o.cs := fun k o ho => by
  have hk := (List.getElem?_eq_some_iff.1 ho).1
  have hx : ls[k]? = some (ls[k]'(by omega)) := List.getElem?_eq_getElem _
  exact ⟨_,hx,hls2 k _ hx o ho⟩
 generalize hids : idsP os = ids at *
 have bk0 : Back2 P GA HA ZA ZA w (fun _ => true) (fun _ => (0,none)) (fun _ => False) := ⟨stA,fun _ h => h,fun _ _ _ h => h,fun b ⟨_,_,h⟩ => by cases h⟩
 have ow0 : Own2 P GA (fun _ => (0,none)) ZA w 80000 0 (nextSs 0 ((os.map PO.pcs).map .agg)) [] (fun _ => (0,none)) H0 :=
  ⟨⟨fun _ => rfl,fun _ _ => rfl,fun id o h => (by cases h),fun _ _ _ _ _ h => (by cases h),fun _ _ _ h => (by cases h),stA.zlt,fun _ _ _ h => (by cases h),fun _ _ _ h => (by cases h)⟩,fun _ _ _ => rfl,fun b hb => .inl hb⟩
 obtain ⟨Gc1,used,ow,hus,_,hels,hl1,hl2,hrep'⟩ := own2_ss bk0 ((os.map PO.pcs).map .agg) (os.map fun o => AV.agg o.cs) ow0 hpc (all_true _) (by show (idsP os).Nodup;rw [hids];exact hnd) (fun id _ => ⟨fun h => (by cases h),fun h => h⟩) (Nat.le_refl _)
 replace hus : ∀ id ∈ used,id ∈ ids := fun id h => by rw [← hids];exact (hus id h).resolve_right (fun h => by cases h)
 have gAl : ∀ id g o,(GA id).2 = some (some (g,o)) → (G id).2 = some (some (g,o)) := fun id g o h => by
  rcases gA id with h1 | h1
  ·rw [h1] at h;cases h
  ·rw [h1] at h;exact h
 have lvc1 : ∀ b,LiveB Gc1 b → ∃ id ∈ ids,∃ o,(G id).2 = some (some (b,o)) := fun b hb => by
  rcases ow.lv b hb with ⟨_,_,h⟩ | ⟨id,h1,o,h2⟩
  ·cases h
  ·exact ⟨id,hus id h1,o,gAl _ _ _ h2⟩
 have eL : (os.map PO.pcs').map RS.agg = os.map fun o => RS.agg o.pcs' := by rw [List.map_map];rfl
 have hg1 : ∀ i,i < os.length → Gc1 (100001 + i) = (0,none) := fun i hi => hels (100001 + i) fun j => by omega
 have hd1 : ∀ i,i < os.length → putHs 80000 0 ((os.map PO.pcs).map .agg) H0 (100001 + i) = (0,none) := fun i hi => by
  rw [putHs_out fun j _ _ => by omega];rfl
 have hcpl : (cellsP 0 (os.map PO.pcs)).length = os.length := by rw [cellsP_len,List.length_map]
 let cls : List (Nat × Nat × List AV) := List.zipWith (fun (q : Nat × Nat) c => (q.1,q.2,c)) ls (cellsP 0 (os.map PO.pcs))
 have hcl0 : cls.length = os.length := by simp only [cls,List.length_zipWith,hls1,hcpl,Nat.min_self]
 have hclg : ∀ (k : Nat) (c : Nat × Nat × List AV),cls[k]? = some c → ∃ q : Nat × Nat,ls[k]? = some q ∧ (cellsP 0 (os.map PO.pcs))[k]? = some c.2.2 ∧ c.1 = q.1 ∧ c.2.1 = q.2 := fun k c hc => by
  simp only [cls,List.getElem?_zipWith'] at hc
  obtain ⟨q,x,hq,hx,rfl⟩ : ∃ q x,ls[k]? = some q ∧ (cellsP 0 (os.map PO.pcs))[k]? = some x ∧ (q.1,q.2,x) = c := by
   cases hq : ls[k]? <;> cases hx : (cellsP 0 (os.map PO.pcs))[k]? <;> simp [hq,hx] at hc
   exact ⟨_,_,rfl,rfl,hc⟩
  exact ⟨q,hq,hx,rfl,rfl⟩
 have hcm : cls.map (·.2.2) = cellsP 0 (os.map PO.pcs) := by
  apply List.ext_getElem?
  intro k
  rw [List.getElem?_map]
  rcases Nat.lt_or_ge k os.length with hk | hk
  ·obtain ⟨q,h1,h2,_⟩ := hclg k _ (List.getElem?_eq_getElem (by omega))
   rw [List.getElem?_eq_getElem (by omega),h2];rfl
  ·rw [List.getElem?_eq_none (by omega),List.getElem?_eq_none (by omega)];rfl
 have hos : ∀ k,k < os.length → ∃ o,os[k]? = some o ∧ o ∈ os := fun k hk => ⟨_,List.getElem?_eq_getElem hk,List.getElem_mem hk⟩
 have hinj : ∀ (i j : Nat) (qi qj : Nat × Nat),ls[i]? = some qi → ls[j]? = some qj → qi.1 = qj.1 → i = j := fun i j qi qj hi hj e => by
  have hil := (List.getElem?_eq_some_iff.1 hi).1
  have hjl := (List.getElem?_eq_some_iff.1 hj).1
  obtain ⟨oi,hoi,_⟩ := hos i (by omega)
  obtain ⟨oj,hoj,_⟩ := hos j (by omega)
  obtain ⟨q1,h1,h2,_⟩ := hl i oi hoi
  obtain ⟨q2,h3,h4,_⟩ := hl j oj hoj
  rw [hi] at h1;obtain rfl := Option.some.inj h1
  rw [hj] at h3;obtain rfl := Option.some.inj h3
  have e2 : oi.id = oj.id := st.inj oi.id oj.id qi.1 qi.2 qj.2 (by rw [h2]) (by rw [h4,e])
  have hi' : i < (os.map PO.id).length := by rw [List.length_map];omega
  refine (List.getElem?_inj hi' hno).1 ?_
  rw [List.getElem?_map,List.getElem?_map,hoi,hoj]
  simp [e2]
 obtain ⟨Gc,stc,kc,hGc,lvP,hels2⟩ := adoptP cls (i := 0) ow.st (fun j hj => by rw [Nat.zero_add];exact hd1 j (by omega)) (fun c hc => by
  obtain ⟨k,hk⟩ := List.mem_iff_getElem?.1 hc
  obtain ⟨q,h1,h2,h3,h4⟩ := hclg k c hk
  obtain ⟨o,ho,hm⟩ := hos k (by rw [← hls1];exact (List.getElem?_eq_some_iff.1 h1).1)
  obtain ⟨q',h5,h6,h7,arr,e,h8,h9⟩ := hl k o ho
  rw [h1] at h5;obtain rfl := Option.some.inj h5
  rw [h3,h4]
  have hGAo : GA o.id = (o.ver,some (some q)) := h7.trans h6
  refine ⟨heap_lt h8,stA.disj o.id q.1 q.2 (by rw [hGAo]),fun hlv => ?_,arr,e,h8,?_,st.ones o.id q.1 q.2 (by rw [h6]) _ _ _ h8⟩
  ·obtain ⟨id2,k1,o2,k2⟩ := lvc1 _ hlv
   have := st.inj o.id id2 q.1 q.2 o2 (by rw [h6]) k2
   subst this;exact hni o hm k1
  ·refine cells_agg (fun v hv => hrep' k (.agg o.cs) (.agg c.2.2) v (by rw [List.getElem?_map,ho];rfl) (by rw [putS_cellsP,List.getElem?_map,h2];rfl) hv) h9)
  (by
    refine List.pairwise_iff_getElem.2 fun i j hi hj hij e => ?_
    rw [List.length_map] at hi hj
    rw [List.getElem_map,List.getElem_map] at e
    obtain ⟨qi,h1,_,h2,_⟩ := hclg i _ (List.getElem?_eq_getElem hi)
    obtain ⟨qj,h3,_,h4,_⟩ := hclg j _ (List.getElem?_eq_getElem hj)
    have := hinj i j qi qj h1 h3 (by rw [← h2,← h4];exact e)
    omega)
 rw [hcm] at stc
 have hGcP : ∀ (k : Nat) o,os[k]? = some o → ∃ q,ls[k]? = some q ∧ G o.id = (o.ver,some (some q)) ∧ GA o.id = (o.ver,some (some q)) ∧ Gc (100001 + k) = (1,some (some q)) := fun k o ho => by
  obtain ⟨q,h1,h2,h3,_⟩ := hl k o ho
  have hkl : k < cls.length := by rw [hcl0];exact (List.getElem?_eq_some_iff.1 ho).1
  obtain ⟨q',h4,_,h5,h6⟩ := hclg k _ (List.getElem?_eq_getElem hkl)
  rw [h1] at h4;obtain rfl := Option.some.inj h4
  have h7 := hGc k _ (List.getElem?_eq_getElem hkl)
  rw [Nat.zero_add,h5,h6] at h7
  exact ⟨q,h1,h2,h3.trans h2,h7⟩
 have lvc : ∀ b,LiveB Gc b → ∃ id,(id ∈ ids ∨ ∃ o ∈ os,id = o.id) ∧ ∃ o,(G id).2 = some (some (b,o)) := fun b hb => by
  rcases lvP b hb with h | ⟨c,hc,rfl⟩
  ·obtain ⟨id,h1,h2⟩ := lvc1 b h
   exact ⟨id,.inl h1,h2⟩
  ·obtain ⟨k,hk⟩ := List.mem_iff_getElem?.1 hc
   obtain ⟨q,h1,_,h3,_⟩ := hclg k c hk
   obtain ⟨o,ho,hm⟩ := hos k (by rw [← hls1];exact (List.getElem?_eq_some_iff.1 h1).1)
   obtain ⟨q',h5,h6,_⟩ := hl k o ho
   rw [h1] at h5;obtain rfl := Option.some.inj h5
   exact ⟨o.id,.inr ⟨o,hm,rfl⟩,q.2,by rw [h6,h3]⟩
 obtain ⟨q1,q2⟩ := ArgsOk.rep (G := GA) (Gc := Gc) (Z := ZA) (w := w) (fun k o ho => by
  obtain ⟨q,_,_,h3,h4⟩ := hGcP k o ho
  exact ⟨q.1,q.2,h3,h4⟩) hT
 refine (hF.2 Gc ZA w vs stc (by omega) fun j a v ha hv => ?_).mono fun e w1 ⟨v,r,H1,G1,Z1,e1,⟨css,l1,hlr,hcl,hpa,hrs,hnd1,hni1⟩,st1,hh,hr⟩ => ?_
 ·have hj := (List.getElem?_eq_some_iff.1 ha).1
  have hx : args2[j]? = some (args2[j]'(by omega)) := List.getElem?_eq_getElem _
  exact q2 j _ a v hx ha (hrep2a j _ v hx hv)
 rw [List.length_map] at hcl hni1
 rw [eL] at hrs
 have hG1 : ∀ (k : Nat) o,os[k]? = some o → ∃ q c arr e2,ls[k]? = some q ∧ css[k]? = some c ∧ G o.id = (o.ver,some (some q)) ∧ G1 (100001 + k) = (1,some (some q)) ∧ w1.heap[q.1]? = some (.cells arr e2 (0,0)) ∧ CellsR (RepA G1 Z1 w1) arr q.2 c := fun k o ho => by
  obtain ⟨q,h1,h2,h3,h4⟩ := hGcP k o ho
  have hkl : k < css.length := by rw [hcl];exact (List.getElem?_eq_some_iff.1 ho).1
  have hc : css[k]? = some css[k] := List.getElem?_eq_getElem hkl
  have h5 := hpa.get hc
  rw [Nat.zero_add] at h5
  have h6 : (G1 (100001 + k)).1 = 1 := by rw [st1.ver,h5]
  obtain ⟨loc',h7,h8⟩ := st1.obj (100001 + k) _ (by rw [h5])
  have h9 : G1 (100001 + k) = (1,some (some q)) := by
   rcases hh.same (100001 + k) (by omega) (by rw [h6,h4]) with h | h
   ·rw [h] at h7;cases h7
   ·exact Prod.ext h6 (by rw [h,h4])
  rw [h9] at h7
  obtain rfl := Option.some.inj h7
  obtain ⟨arr,e2,g1,g2⟩ := h8
  exact ⟨q,_,arr,e2,h1,hc,h2,h9,g1,g2⟩
 have hz1 : ∀ b,Z1 b → ZA b ∨ LiveB Gc b ∨ w.heap.size ≤ b := hh.zout
 let G2 : Ghost := fun id => if id ∈ ids then ((G id).1,none) else G id
 have g2in : ∀ id,id ∈ ids → G2 id = ((G id).1,none) := fun id h => if_pos h
 have g2out : ∀ id,id ∉ ids → G2 id = G id := fun id h => if_neg h
 have g2l : ∀ id g o,(G2 id).2 = some (some (g,o)) → id ∉ ids ∧ (G id).2 = some (some (g,o)) := fun id g o h => by
  by_cases e : id ∈ ids
  ·rw [g2in id e] at h;cases h
  ·rw [g2out id e] at h;exact ⟨e,h⟩
 have nc : ∀ id' g o,id' ∉ ids → (∀ o ∈ os,id' ≠ o.id) → (G id').2 = some (some (g,o)) → ¬ LiveB Gc g := fun id' g o h1 hne h2 hlv => by
  obtain ⟨id2,h3,o2,h4⟩ := lvc g hlv
  have := st.inj _ _ _ _ _ h2 h4
  subst this
  rcases h3 with h3 | ⟨o,ho,h3⟩
  ·exact h1 h3
  ·exact hne o ho h3
 have old : ∀ b,b < w.heap.size → ¬ LiveB Gc b → w1.heap[b]? = w.heap[b]? := hh.old
 let Z2 : Nat → Prop := fun b => Z1 b ∧ ¬ LiveB G2 b
 have hk : Keep G Z w G2 Z2 w1 := by
  refine ⟨fun b hb => ⟨⟨(hh.zin b (za1 b hb)).1,fun ⟨id,o,h⟩ => st.disj _ _ _ (g2l _ _ _ h).2 hb⟩,(hh.zin b (za1 b hb)).2⟩,fun id => ?_,fun id _ => ?_,fun b arr e fz hlb h => ?_⟩
  ·by_cases e : id ∈ ids
   ·rw [g2in id e];exact Nat.le_refl _
   ·rw [g2out id e];exact Nat.le_refl _
  ·by_cases e : id ∈ ids
   ·rw [g2in id e];exact .inl rfl
   ·rw [g2out id e];exact .inr rfl
  ·by_cases hc : LiveB Gc b
   ·exact hh.room b arr e fz hc h
   ·exact ⟨arr,e,fz,by rw [old b (heap_lt h) hc];exact h,rfl⟩
 have eN : ((os.map fun o => (o.id,o.ver,([] : List AV))).map (·.1)) = os.map PO.id := by rw [List.map_map];rfl
 have hEin : ∀ o ∈ os,putX (os.map fun o => (o.id,o.ver,([] : List AV))) (killL ids H) o.id = (o.ver,some (.cells [])) := fun o ho => by
  obtain ⟨k,hk⟩ := List.mem_iff_getElem?.1 ho
  exact putX_in (x := (o.id,o.ver,[])) (k := k) (by rw [List.getElem?_map,hk];rfl) (by rw [eN];exact hno)
 have hEout : ∀ i,(∀ o ∈ os,i ≠ o.id) → putX (os.map fun o => (o.id,o.ver,([] : List AV))) (killL ids H) i = killL ids H i := fun i hi => putX_out fun x hx => by
  obtain ⟨o,ho,rfl⟩ := List.mem_map.1 hx
  exact hi o ho
 generalize hE : putX (os.map fun o => (o.id,o.ver,([] : List AV))) (killL ids H) = E at hEin hEout
 have hdec : ∀ i,(∃ o ∈ os,i = o.id) ∨ ∀ o ∈ os,i ≠ o.id := fun i => by
  by_cases h : ∃ o ∈ os,i = o.id
  ·exact .inl h
  ·exact .inr fun o ho e => h ⟨o,ho,e⟩
 have st2 : St P G2 E Z2 w1 := by
  refine ⟨fun i => ?_,fun i h => ?_,fun i o h => ?_,fun i1 i2 g o1 o2 h1 h2 => st.inj _ _ _ _ _ (g2l _ _ _ h1).2 (g2l _ _ _ h2).2,fun i g o h hz => hz.2 ⟨i,o,h⟩,⟨fun b hb => st1.zlt b hb.1,st.zlt.kn.mono hk.zin⟩,fun i g o h => Nat.lt_of_lt_of_le (st.glt _ _ _ (g2l _ _ _ h).2) hh.size,fun i g o h => ?_⟩
  ·rcases hdec i with ⟨o,ho,rfl⟩ | hi
   ·obtain ⟨k,hk⟩ := List.mem_iff_getElem?.1 ho
    obtain ⟨q,_,h2,_⟩ := hGcP k o hk
    rw [hEin o ho,g2out _ (hni o ho),h2]
   ·rw [hEout i hi,kill_at]
    by_cases e : i ∈ ids
    ·rw [g2in i e,if_pos e];exact st.ver i
    ·rw [g2out i e,if_neg e];exact st.ver i
  ·rcases hdec i with ⟨o,ho,rfl⟩ | hi
   ·rw [hEin o ho] at h;cases h
   ·rw [hEout i hi,kill_at] at h
    by_cases e : i ∈ ids
    ·rw [g2in i e]
    ·rw [g2out i e];rw [if_neg e] at h;exact st.dead i h
  ·rcases hdec i with ⟨x,ho,rfl⟩ | hi
   ·rw [hEin x ho] at h
    obtain rfl := Option.some.inj h
    obtain ⟨k,hk⟩ := List.mem_iff_getElem?.1 ho
    obtain ⟨q,c,arr,e2,_,_,h2,_,h4,_⟩ := hG1 k x hk
    exact ⟨some q,by rw [g2out _ (hni x ho),h2],arr,e2,h4,fun j a h => by simp at h⟩
   ·rw [hEout i hi,kill_at] at h
    by_cases e : i ∈ ids
    ·rw [if_pos e] at h;cases h
    ·rw [if_neg e] at h
     rw [g2out i e]
     obtain ⟨loc,k1,k2⟩ := st.obj i o h
     refine ⟨loc,k1,?_⟩
     cases loc with
     | none => cases o <;> exact k2
     | some q =>
      obtain ⟨g,ob⟩ := q
      have hb := old g (st.glt _ _ _ k1) (nc _ _ _ e hi k1)
      cases o with
      | cells cs =>
       obtain ⟨arr,e,k3,k4⟩ := k2
       exact ⟨arr,e,hb.trans k3,k4.mono fun a v hr => hr.keep hk⟩
      | ty cs tt =>
       obtain ⟨h00,arr,k3,k4⟩ := k2
       exact ⟨h00,arr,hb.trans k3,k4.mono fun a v hr => hr.keep hk⟩
      | _ =>
       obtain ⟨k3,es,clock,k4,k5⟩ := k2
       exact ⟨k3,es,clock,hb.trans k4,k5⟩
  ·obtain ⟨n1,n2⟩ := g2l _ _ _ h
   rcases hdec i with ⟨x,ho,rfl⟩ | hi
   ·obtain ⟨k,hk⟩ := List.mem_iff_getElem?.1 ho
    obtain ⟨q,c,arr,e2,_,_,h2,h3,_⟩ := hG1 k x hk
    rw [h2] at n2
    simp only [Option.some.injEq] at n2
    subst n2
    exact st1.ones (100001 + k) g o (by rw [h3])
   ·exact (st.ones _ _ _ n2).same (old g (st.glt _ _ _ n2) (nc _ _ _ n1 hi n2))
 have lvg : ∀ b,LiveB Gc b → LiveB G b := fun b hb => by
  obtain ⟨id,_,o,h2⟩ := lvc b hb
  exact ⟨id,o,h2⟩
 have lv1 : ∀ b,LiveB G1 b → LiveB G b ∨ w.heap.size ≤ b := fun b hb => (hh.live b hb).imp (lvg b) (fun h => h)
 have lv2 : ∀ b,LiveB G2 b → LiveB G b := fun b ⟨id,o,h⟩ => ⟨id,o,(g2l _ _ _ h).2⟩
 have cur2 : ∀ b,LiveB G2 b → ∀ i o',(G1 i).2 = some (some (b,o')) → ∃ k,k < os.length ∧ i = 100001 + k := fun b ⟨id',o,h⟩ i o' h' => by
  obtain ⟨n1,n2⟩ := g2l _ _ _ h
  rcases hdec id' with ⟨x,ho,rfl⟩ | hi
  ·obtain ⟨k,hk⟩ := List.mem_iff_getElem?.1 ho
   obtain ⟨q,c,arr,e2,_,_,h2,h3,_⟩ := hG1 k x hk
   rw [h2] at n2
   simp only [Option.some.injEq] at n2
   subst n2
   exact ⟨k,(List.getElem?_eq_some_iff.1 hk).1,st1.inj _ _ _ _ _ h' (by rw [h3])⟩
  ·rcases hh.live b ⟨i,o',h'⟩ with h3 | h3
   ·exact absurd h3 (nc _ _ _ n1 hi n2)
   ·have := st.glt _ _ _ n2;omega
 have hnl2 : (∀ b,ZA b → Z b) → ∀ b,Z1 b → ¬ LiveB G2 b := fun hzz b hb hlv => by
  obtain ⟨id',o,hlv⟩ := hlv
  obtain ⟨n1,n2⟩ := g2l _ _ _ hlv
  rcases hdec id' with ⟨x,ho,rfl⟩ | hi
  ·obtain ⟨k,hk⟩ := List.mem_iff_getElem?.1 ho
   obtain ⟨q,c,arr,e2,_,_,h2,h3,_⟩ := hG1 k x hk
   rw [h2] at n2
   simp only [Option.some.injEq] at n2
   subst n2
   exact st1.disj (100001 + k) b o (by rw [h3]) hb
  ·rcases hz1 b hb with h | h | h
   ·exact st.disj _ _ _ n2 (hzz b h)
   ·exact nc _ _ _ n1 hi n2 h
   ·have := st.glt _ _ _ n2;omega
 have bk2 : Back2 P G1 H1 Z1 Z2 w1 p G2 (fun i => ∃ k,k < os.length ∧ i = 100001 + k) := ⟨st1,fun _ h => h.1,fun x v hx hrf => by
  rcases hmode with hm | hm
  ·exact hrf.plain (hm x hx)
  ·exact hrf.keep fun b hb => ⟨⟨hb,hnl2 hm b hb⟩,rfl⟩,cur2⟩
 have ow2 : Own2 P G1 G2 Z2 w1 t 0 (nextSs 0 ((os.map fun o => RS.agg o.pcs') ++ rs)) [] G2 E := ⟨st2,fun j _ hj => by
  rw [hEout _ fun o ho e => hidt o ho j e.symm,kill_at,hfree j hj];split <;> rfl,fun b hb => .inl hb⟩
 obtain ⟨G',used',ow',hus',hk',hels',hl1',hl2',hrep2⟩ := own2_ss bk2 ((os.map fun o => RS.agg o.pcs') ++ rs) (css.map AV.agg ++ l1) ow2 hrs hp hnd1 (fun i hi => ⟨fun h => (by cases h),fun ⟨k,hk,e⟩ => hni1 k hk (e ▸ hi)⟩) (Nat.le_refl _)
 rw [putS_poX] at hrep2 hl2'
 have st3 : St P G' (putX (poX t 0 os) (putHs t 0 ((os.map fun o => RS.agg o.pcs') ++ rs) E)) Z2 w1 := recellL (poX t 0 os) ow'.st fun x hx => by
  obtain ⟨k,hk⟩ := List.mem_iff_getElem?.1 hx
  obtain ⟨o,ho,h1,h2⟩ := poX_get hk
  have hm := List.mem_of_getElem? ho
  obtain ⟨q,c,arr,e2,_,hc,h3,_,h4,h5⟩ := hG1 k o ho
  have hkl := (List.getElem?_eq_some_iff.1 ho).1
  refine ⟨q.1,q.2,arr,e2,?_,h4,cells_agg (fun v hv => hrep2 k (.agg c) (.agg x.2.2) v ?_ ?_ hv) h5⟩
  ·rw [h1,h2,hels' o.id (hidt o hm),g2out _ (hni o hm),h3]
  ·rw [List.getElem?_append_left (by rw [List.length_map];omega),List.getElem?_map,hc];rfl
  ·rw [List.getElem?_append_left (by rw [List.length_map,poX_len];omega),List.getElem?_map,hk];rfl
 have hHeq : putX (poX t 0 os) (putHs t 0 ((os.map fun o => RS.agg o.pcs') ++ rs) E) = putX (poX t 0 os) (putHs t 0 ((os.map fun o => RS.agg o.pcs') ++ rs) (killL ids H)) := by
  funext i
  rcases hdec i with ⟨o,ho,rfl⟩ | hi
  ·obtain ⟨k,hk⟩ := List.mem_iff_getElem?.1 ho
   obtain ⟨x,hx,h1,h2⟩ := poX_some (t := t) (k := 0) hk
   rw [← h1,putX_in hx (by rw [poX_id];exact hno),putX_in hx (by rw [poX_id];exact hno)]
  ·have hout : ∀ x ∈ poX t 0 os,i ≠ x.1 := fun x hx => by
    obtain ⟨k,hk⟩ := List.mem_iff_getElem?.1 hx
    obtain ⟨o,ho,h1,_⟩ := poX_get hk
    rw [h1];exact hi o (List.mem_of_getElem? ho)
   rw [putX_out hout,putX_out hout]
   exact putHs_at (hEout i hi)
 rw [hHeq] at st3
 refine ⟨v,_,_,G',_,e1,⟨rfl,rfl⟩,st3,?_,?_⟩
 ·refine ⟨⟨fun b hb => hk.zin b hb,fun id => Nat.le_trans (hk.ver id) (hk'.ver id),fun id e => ?_,fun b arr e fz hl h => hk.room b arr e fz hl h⟩,hh.os,hh.tape,hh.output,hh.size,fun b hb hn => old b hb fun hc => hn (lvg b hc),fun b hb => ?_,fun b hb => ?_⟩
  ·have a1 := hk.ver id
   have a2 := hk'.ver id
   rcases hk'.same id (by omega) with h3 | h3
   ·exact .inl h3
   ·rcases hk.same id (by omega) with h4 | h4
    ·exact .inl (h3.trans h4)
    ·exact .inr (h3.trans h4)
  ·rcases hz1 b hb.1 with h | h | h
   ·exact (za2 b h).imp id .inl
   ·exact .inr (.inl (lvg b h))
   ·exact .inr (.inr h)
  ·rcases ow'.lv b hb with h | ⟨id,_,o,h⟩
   ·exact .inl (lv2 b h)
   ·exact lv1 b ⟨id,o,h⟩
 ·rw [hlr] at hr
  have hne : ∀ {l : List AV},l.length ≠ 1 → oneOrTup l = .tup l := by
   intro l h
   rcases l with _ | ⟨a,_ | ⟨b,l⟩⟩
   ·rfl
   ·exact absurd rfl h
   ·rfl
  simp only [List.length_append,List.length_map,poX_len] at hl1' hl2'
  have hl3 : (putS t (nextSs 0 (os.map fun o => RS.agg o.pcs')) rs).length = rs.length := by omega
  have hl4 : l1.length = rs.length := by omega
  have key : ∀ (j : Nat) (a b : AV) (u : Value),l1[j]? = some a → (putS t (nextSs 0 (os.map fun o => RS.agg o.pcs')) rs)[j]? = some b → RepA G1 Z1 w1 a u → RepA G' Z2 w1 b u := fun j a b u ha hb hu =>
   hrep2 (os.length + j) a b u (by rw [List.getElem?_append_right (by rw [List.length_map];omega),List.length_map,hcl,Nat.add_sub_cancel_left];exact ha) (by rw [List.getElem?_append_right (by rw [List.length_map,poX_len];omega),List.length_map,poX_len,Nat.add_sub_cancel_left];exact hb) hu
  by_cases h1 : l1.length = 1
  ·obtain ⟨a,rfl⟩ := List.length_eq_one_iff.1 h1
   obtain ⟨b,hb⟩ := List.length_eq_one_iff.1 (by rw [hl3,← hl4,h1] : (putS t (nextSs 0 (os.map fun o => RS.agg o.pcs')) rs).length = 1)
   rw [hb]
   exact key 0 a b v rfl (by rw [hb];rfl) hr
  ·rw [hne h1] at hr
   rw [hne (by rw [hl3,← hl4];exact h1)]
   obtain ⟨us,rfl,g1,g3⟩ := hr.tup_
   refine .tup _ us (by omega) fun j b u hb hu => ?_
   have hj := (List.getElem?_eq_some_iff.1 hb).1
   have hx' : l1[j]? = some l1[j] := List.getElem?_eq_getElem (by omega)
   exact key j _ b u hx' hb (g3 j _ u hx' hu)
def dropH (keep : List Nat) (H : Heap) : Heap := fun id => if keep.contains id = true then H id else ((H id).1,none)
theorem rcs_slots {H Ht : Heap} {K : List Nat} (hk : ∀ id,(H id).2.isSome = true → id ∈ K → Ht id = H id) : ∀ {pcs : List RC} {cs : List AV},RcsOk H pcs cs → (∀ id ∈ idsC cs,id ∈ K) → SlotsOk H Ht [] cs cs
 | [],cs,h,_ => by
  have : cs = [] := h
  subst this;rfl
 | r :: pcs,[],h,_ => h.elim
 | r :: pcs,a :: cs,h,hm => by
  have hsplit : idsC (a :: cs) = idsC [a] ++ idsC cs := by cases a <;> rfl
  rw [hsplit] at hm
  simp only [SlotsOk]
  refine ⟨?_,rcs_slots hk h.2 fun id hid => hm id (List.mem_append_right _ hid)⟩
  cases r with
  | v x =>
   have : a = .f x := h.1
   subst this
   exact so_ff ▸ .inl rfl
  | own sz n l =>
   rcases h.1 with ⟨rfl,_⟩ | ⟨id,ver,rfl,hc,_⟩
   ·exact so_ff ▸ .inl rfl
   ·rw [so_ss]
    have hmem := hm id (List.mem_append_left _ (by simp [idsC]))
    unfold cellsOf at hc
    split at hc
    ·rename_i v cs' e
     split at hc
     ·rename_i hv
      have hs : (H id).2.isSome = true := by rw [e];rfl
      rw [hk id hs hmem]
      exact ⟨rfl,rfl,rfl,rfl,by rw [e];simpa using hv.symm,by rw [e];simpa using hv.symm,by simp,hs,hs⟩
     ·cases hc
    ·cases hc
theorem rcs_fs {H : Heap} : ∀ {pcs : List RC} {cs : List AV},RcsOk H pcs cs → ∀ id ∈ idsC cs,∃ ver,∃ l : List FV,cellsOf ver (H id) = some (l.map .f)
 | [],cs,h,id,hid => by
  have : cs = [] := h
  subst this;cases hid
 | r :: pcs,[],h,_,_ => h.elim
 | r :: pcs,a :: cs,h,id,hid => by
  have hsplit : idsC (a :: cs) = idsC [a] ++ idsC cs := by cases a <;> rfl
  rw [hsplit] at hid
  rcases List.mem_append.1 hid with h1 | h1
  ·cases r with
   | v x =>
    have : a = .f x := h.1
    subst this;cases h1
   | own sz n l =>
    rcases h.1 with ⟨rfl,_⟩ | ⟨i,ver,rfl,hc,_⟩
    ·cases h1
    ·simp only [idsC,List.mem_singleton] at h1
     subst h1
     exact ⟨ver,l,hc⟩
  ·exact rcs_fs h.2 id h1
def FzsOkT (H Ht : Heap) : List AV → List AV → Prop
 | [],[] => True
 | a :: l,b :: m => FzOkT H Ht a b ∧ FzsOkT H Ht l m
 | _,_ => False
theorem FzsOkT.rep {G : Ghost} {H Ht : Heap} {Z : Nat → Prop} {w : World} (st : St P G H Z w) : ∀ {l l' : List AV},FzsOkT H Ht l l' → l'.length = l.length ∧ ∀ (j : Nat) (x y : AV) (u : Value),l[j]? = some x → l'[j]? = some y → RepA G Z w x u → RepA (wkG G Ht []) (wkZ G Ht [] Z) w y u
 | [],[],_ => ⟨rfl,fun j x y u h => by simp at h⟩
 | [],_ :: _,h => h.elim
 | _ :: _,[],h => h.elim
 | a :: l,b :: l',h => by
  obtain ⟨g1,g2⟩ := FzsOkT.rep st h.2
  refine ⟨by simp [g1],fun j x y u hx hy hr => ?_⟩
  cases j with
  | zero =>
   simp only [List.getElem?_cons_zero,Option.some.injEq] at hx hy
   subst hx hy
   exact FzOkT.rep st h.1 hr
  | succ j => exact g2 j x y u (by simpa using hx) (by simpa using hy) hr
theorem call_x2 {t : Nat} {f : FuncId} {args args2 args' : List AV} {H : Heap} {os : List PO} {rs : List RS}
  (hF : FRetX P f args' (os.map PO.pcs) (os.map PO.pcs') rs)
  (hid : ∀ o ∈ os,cellsOf o.ver (H o.id) = some o.cs ∧ o.cs ≠ []) (hpc : ∀ o ∈ os,RcsOk H o.pcs o.cs)
  (hlen : os.length ≤ 900) (hnd : (idsP os).Nodup) (hno : (os.map PO.id).Nodup) (hni : ∀ o ∈ os,o.id ∉ idsP os)
  (hs : FzsOkT H (dropH (os.map PO.id ++ idsP os) H) args args2) (hT : ArgsOk os args2 args') (hp : ((os.map fun o => RS.agg o.pcs') ++ rs).all (RS.all FV.plain) = true) (hfree : Free t H) :
  ACall P f args H (fun r H' => r = oneOrTup (putS t (nextSs 0 (os.map fun o => RS.agg o.pcs')) rs) ∧ H' = putX (poX t 0 os) (putHs t 0 ((os.map fun o => RS.agg o.pcs') ++ rs) (killL (idsP os) H))) := by
 generalize hK : os.map PO.id ++ idsP os = K at hs
 have hin : ∀ id,id ∈ K → dropH K H id = H id := fun id h => by unfold dropH;rw [if_pos (by simpa using h)]
 have hout : ∀ id,id ∉ K → dropH K H id = ((H id).1,none) := fun id h => by unfold dropH;rw [if_neg (by simpa using h)]
 have hver : ∀ id,(dropH K H id).1 = (H id).1 := fun id => by
  by_cases h : id ∈ K
  ·rw [hin id h]
  ·rw [hout id h]
 have hmem : ∀ o ∈ os,∀ id ∈ idsC o.cs,id ∈ K := fun o ho id h => by rw [← hK];exact List.mem_append_right _ (idsP_mem ho id h)
 have hidm : ∀ o ∈ os,o.id ∈ K := fun o ho => by rw [← hK];exact List.mem_append_left _ (List.mem_map.2 ⟨o,ho,rfl⟩)
 have hsub : ∀ (l : List PO),(∀ o ∈ l,o ∈ os) → ∀ id ∈ idsP l,∃ o ∈ os,id ∈ idsC o.cs := fun l => by
  induction l with
  | nil => intro _ id h;cases h
  | cons x l ih =>
   intro hl id h
   rcases List.mem_append.1 (show id ∈ idsC x.cs ++ idsP l from h) with h | h
   ·exact ⟨x,hl x (List.mem_cons_self ..),h⟩
   ·exact ih (fun o ho => hl o (List.mem_cons_of_mem _ ho)) id h
 have hwk : WkOk H (dropH K H) [] := ⟨fun id o' h => .inr ⟨by simp,by
   by_cases hk : id ∈ K
   ·rw [hin id hk] at h
    rw [h]
    have hk2 := hk
    rw [← hK] at hk2
    rcases List.mem_append.1 hk2 with h1 | h1
    ·obtain ⟨o,ho,rfl⟩ := List.mem_map.1 h1
     obtain ⟨hc,_⟩ := hid o ho
     unfold cellsOf at hc
     split at hc
     ·rename_i v cs' e
      split at hc
      ·obtain rfl := Option.some.inj hc
       rw [e] at h
       obtain rfl := Option.some.inj h
       exact ⟨_,rfl,rcs_slots (fun id _ hid => hin id hid) (hpc o ho) (hmem o ho)⟩
      ·cases hc
     ·cases hc
    ·obtain ⟨o,ho,h2⟩ := hsub os (fun _ h => h) id h1
     obtain ⟨ver,l,hc⟩ := rcs_fs (hpc o ho) id h2
     unfold cellsOf at hc
     split at hc
     ·rename_i v cs' e
      split at hc
      ·obtain rfl := Option.some.inj hc
       rw [e] at h
       obtain rfl := Option.some.inj h
       exact ⟨_,rfl,SlotsOk.fs rfl⟩
      ·cases hc
     ·cases hc
   ·rw [hout id hk] at h;cases h⟩,fun id _ => ⟨by rw [hver];exact Nat.le_refl _,fun _ => by simp⟩⟩
 refine call_xx (HA := dropH K H) (args2 := args2) (p := FV.plain) hF hid ?_ hlen hnd hno hni (fun o ho => hin _ (hidm o ho)) hp (fun G Z w vs st hsz hrep => ?_) hT (fun o ho => free_ne hfree (hid o ho).1) (fun j _ => hfree j)
 ·have : ∀ (l : List PO),(∀ o ∈ l,o ∈ os) → RsOk (dropH K H) ((l.map PO.pcs).map .agg) (l.map fun o => AV.agg o.cs) := fun l => by
   induction l with
   | nil => intro _;rfl
   | cons x l ih =>
    intro hl
    exact ⟨rcsOk_at (hpc x (hl x (List.mem_cons_self ..))) fun id h => hin id (hmem x (hl x (List.mem_cons_self ..)) id h),ih fun o ho => hl o (List.mem_cons_of_mem _ ho)⟩
  exact this os fun _ h => h
 ·obtain ⟨s1,_⟩ := st.weak hwk
  obtain ⟨g1,g2⟩ := hs.rep st
  refine ⟨wkG G (dropH K H) [],wkZ G (dropH K H) [] Z,s1,fun b hb => .inl hb,fun b hb => hb.imp id fun ⟨i,o,h,_⟩ => ⟨i,o,h⟩,fun i => ?_,.inl fun _ h => h,by omega,fun j y v hy hv => ?_⟩
  ·by_cases h : (dropH K H i).2.isSome = true
   ·right
    have : G i = ((dropH K H i).1,(G i).2) := Prod.ext (by rw [hver];exact st.ver i) rfl
    rw [this];simp [wkG,h]
   ·left;simp [wkG,h]
  ·have hj := (List.getElem?_eq_some_iff.1 hy).1
   have hx : args[j]? = some (args[j]'(by omega)) := List.getElem?_eq_getElem _
   exact g2 j _ y v hx hy (hrep j _ v hx hv)
end

theorem so_cl2 {H H' : Heap} {nw : List Nat} {g g' : Fn} {l l' : List AV} : SlotOk H H' nw (.clo g l) (.clo g' l') = (g' = g ∧ SlotsOk H H' nw l l') := by rw [SlotOk]
def FRetX1 (P : Program) (f : FuncId) (args : List AV) (pcs pcs' : List RC) (rs : List RS) : Prop :=
 FCall P f args (upd (putHcs 80000 0 pcs H0) 100001 (1,some (.cells (putCs 80000 0 pcs))))
  (fun r H' => ∃ l cs',r = oneOrTup l ∧ H' 100001 = (1,some (.cells cs')) ∧ RcsOk H' pcs' cs' ∧ RsOk H' rs l ∧ (idsC cs' ++ idsS l).Nodup ∧ 100001 ∉ idsC cs' ++ idsS l)
theorem FRetX1.x {P : Program} {f : FuncId} {args : List AV} {pcs pcs' : List RC} {rs : List RS} (h : FRetX1 P f args pcs pcs' rs) : FRetX P f args [pcs] [pcs'] rs :=
 FCall.mono h fun r H' ⟨l,cs',h1,h2,h3,h4,h5,h6⟩ => ⟨[cs'],l,h1,rfl,⟨h2,trivial⟩,⟨h3,h4⟩,h5,fun i hi => by
  obtain rfl : i = 0 := by simpa using hi
  exact h6⟩
def FRetX2 (P : Program) (f : FuncId) (args : List AV) (p1 p2 p1' p2' : List RC) (rs : List RS) : Prop :=
 FCall P f args (upd (upd (putHcs 80000 (nextCs 0 p1) p2 (putHcs 80000 0 p1 H0)) 100002 (1,some (.cells (putCs 80000 (nextCs 0 p1) p2)))) 100001 (1,some (.cells (putCs 80000 0 p1))))
  (fun r H' => ∃ l c1 c2,r = oneOrTup l ∧ H' 100001 = (1,some (.cells c1)) ∧ H' 100002 = (1,some (.cells c2)) ∧ RcsOk H' p1' c1 ∧ RcsOk H' p2' c2 ∧ RsOk H' rs l ∧ (idsC c1 ++ (idsC c2 ++ idsS l)).Nodup ∧ 100001 ∉ idsC c1 ++ (idsC c2 ++ idsS l) ∧ 100002 ∉ idsC c1 ++ (idsC c2 ++ idsS l))
theorem FRetX2.x {P : Program} {f : FuncId} {args : List AV} {p1 p2 p1' p2' : List RC} {rs : List RS} (h : FRetX2 P f args p1 p2 p1' p2' rs) : FRetX P f args [p1,p2] [p1',p2'] rs :=
 FCall.mono h fun r H' ⟨l,c1,c2,h1,h2,h2',h3,h3',h4,h5,h6,h7⟩ => ⟨[c1,c2],l,h1,rfl,⟨h2,h2',trivial⟩,⟨h3,h3',h4⟩,h5,fun i hi => by
  have : i = 0 ∨ i = 1 := by simp at hi;omega
  rcases this with rfl | rfl
  ·exact h6
  ·exact h7⟩
section
variable {P : Program} {R : Env → Heap → Prop} {Λ : Lams} {k : List It} {env : Env} {H : Heap} {d : Nat} {f : Operand} {args : List Operand} {g : Option (Nat × Bool)} {los : List LO} {fid : FuncId} {args2 args' caps : List AV} {rs : List RS} {pcs pcs' p1 p2 p1' p2' : List RC}
theorem callX1z {m : Nat} (hg : gd g env = some true) (hF : FRetX1 P fid args' pcs pcs' rs) (id ver : Nat) (cs : List AV) (args2 : List AV) (hfn : (evA env f = .f (.fn (.func fid)) ∧ FzsOkT H (dropH (id :: idsC cs) H) (args.map (evA env)) args2) ∨ ∃ caps,evA env f = .clo (.func fid) caps ∧ FzsOkT H (dropH (id :: idsC cs) H) (args.map (evA env) ++ caps) args2)
  (hT : ArgsOk [⟨id,ver,cs,pcs,pcs'⟩] args2 args') (hp : (RS.agg pcs' :: rs).all (RS.all FV.plain) = true)
  (hc : cellsOf ver (H id) = some cs) (hne : cs ≠ []) (hpc : RcsOk H pcs cs) (hnd : (idsC cs).Nodup) (hni : id ∉ idsC cs) (hfree : Free d H)
  (h : srun P R m Λ (.ops los :: k) (putE env (some d) (oneOrTup (putS d (nextCs 0 pcs') rs))) (upd (putHs d (nextCs 0 pcs') rs (putHcs d 0 pcs' (killL (idsC cs) H))) id (ver,some (.cells (putCs d 0 pcs'))))) : Ax P R Λ (.ops (⟨some d,.call f args,g⟩ :: los) :: k) env H := by
 have e : idsP [⟨id,ver,cs,pcs,pcs'⟩] = idsC cs := by show idsC cs ++ [] = _;rw [List.append_nil]
 have key : ∀ as,FzsOkT H (dropH (id :: idsC cs) H) as args2 → ACall P fid as H (fun r H' => r = oneOrTup (putS d (nextCs 0 pcs') rs) ∧ H' = upd (putHs d (nextCs 0 pcs') rs (putHcs d 0 pcs' (killL (idsC cs) H))) id (ver,some (.cells (putCs d 0 pcs')))) := fun as ha => by
  have := call_x2 (t := d) (H := H) (os := [⟨id,ver,cs,pcs,pcs'⟩]) (rs := rs) (args := as) (args2 := args2) hF.x (fun o ho => by obtain rfl := List.mem_singleton.1 ho;exact ⟨hc,hne⟩) (fun o ho => by obtain rfl := List.mem_singleton.1 ho;exact hpc) (by simp) (by rw [e];exact hnd) (by simp) (fun o ho => by obtain rfl := List.mem_singleton.1 ho;rw [e];exact hni) (by rw [e];exact ha) hT hp hfree
  rw [e] at this
  exact this
 refine ax_call (f := f) (args := args) rfl hg (Q := fun r H' => r = oneOrTup (putS d (nextCs 0 pcs') rs) ∧ H' = upd (putHs d (nextCs 0 pcs') rs (putHcs d 0 pcs' (killL (idsC cs) H))) id (ver,some (.cells (putCs d 0 pcs')))) ?_ fun v H' hq => by obtain ⟨h1,h2⟩ := hq;subst h1 h2;exact srun_sound m _ _ _ _ h
 rcases hfn with ⟨hf,ha⟩ | ⟨caps,hf,ha⟩
 ·rw [hf];exact key _ ha
 ·rw [hf];exact key _ ha
end

theorem rcF_slotT {H Ht : Heap} : ∀ {r : RC} {a : AV} {y : FV},RcOk H r a → RcF r y → (∀ id ∈ idsC [a],(Ht id).2 = none) → SlotOk H Ht [] a (.f y)
 | .v x,a,y,h,h2,_ => by
  obtain rfl : a = .f x := h
  obtain rfl : y = x := h2
  rw [so_ff];exact .inl rfl
 | .own sz n cs,a,y,h,⟨rows,h2,h3,h4,h5⟩,hd => by
  subst h2
  rcases h with ⟨rfl,rfl,rfl⟩ | ⟨id,ver,rfl,h6,h7⟩
  ·obtain rfl : rows = [] := List.eq_nil_of_length_eq_zero h3
   rw [so_ff];exact .inr ⟨rfl,sz,rfl⟩
  ·refine ⟨rfl,h3,h4,hd id (by simp [idsC]),_,h6,?_,?_⟩
   ·rw [List.length_map,Nat.zero_add];exact h7
   ·rw [Nat.zero_mul,List.drop_zero,← List.map_take,h5]
theorem rcsFz_slotsT {H Ht : Heap} : ∀ {rs rs' : List RC} {l : List AV} {k : Nat},RcsOk H rs l → RcsFz rs rs' → (∀ id ∈ idsC l,(Ht id).2 = none) → SlotsOk H Ht [] l (putCs 0 k rs') ∧ nextCs k rs' = k
 | [],[],l,k,h,_,_ => by
  obtain rfl : l = [] := h
  exact ⟨rfl,rfl⟩
 | [],_ :: _,l,k,h,h2,_ => h2.elim
 | r :: rs,[],l,k,h,h2,_ => h2.elim
 | r :: rs,.own .. :: rs',l,k,h,h2,_ => h2.1.elim
 | r :: rs,.v y :: rs',[],k,h,h2,_ => h.elim
 | r :: rs,.v y :: rs',a :: l,k,h,h2,hd => by
  have hsplit : idsC (a :: l) = idsC [a] ++ idsC l := by cases a <;> rfl
  rw [hsplit] at hd
  obtain ⟨h3,h4⟩ := rcsFz_slotsT (k := k) h.2 h2.2 fun id hid => hd id (List.mem_append_right _ hid)
  exact ⟨⟨rcF_slotT h.1 h2.1 fun id hid => hd id (List.mem_append_left _ hid),h3⟩,h4⟩
theorem rsFz_slotsT {H Ht : Heap} : ∀ {rs rs' : List RS} {l : List AV} {k : Nat},RsOk H rs l → RsFz rs rs' → (∀ id ∈ idsS l,(Ht id).2 = none) → SlotsOk H Ht [] l (putS 0 k rs')
 | [],[],l,k,h,_,_ => by
  obtain rfl : l = [] := h
  exact rfl
 | [],.c _ :: _,l,k,h,h2,_ => h2.elim
 | [],.agg _ :: _,l,k,h,h2,_ => h2.elim
 | .c r :: rs,[],l,k,h,h2,_ => h2.elim
 | .c r :: rs,.agg _ :: _,l,k,h,h2,_ => h2.elim
 | .c r :: rs,.c (.own ..) :: rs',l,k,h,h2,_ => h2.1.elim
 | .c r :: rs,.c (.v y) :: rs',[],k,h,h2,_ => h.elim
 | .c r :: rs,.c (.v y) :: rs',a :: l,k,h,h2,hd => by
  have hna : ∀ cs,a ≠ .agg cs := by
   rintro cs rfl
   cases r with
   | v x => cases h.1
   | own sz n cs => rcases h.1 with ⟨h,_⟩ | ⟨_,_,h,_⟩ <;> cases h
  have hsplit : idsS (a :: l) = idsC [a] ++ idsS l := by cases a <;> first | rfl | exact absurd rfl (hna _)
  rw [hsplit] at hd
  exact ⟨rcF_slotT h.1 h2.1 fun id hid => hd id (List.mem_append_left _ hid),rsFz_slotsT (k := k) h.2 h2.2 fun id hid => hd id (List.mem_append_right _ hid)⟩
 | .agg r :: rs,[],l,k,h,h2,_ => h2.elim
 | .agg r :: rs,.c _ :: _,l,k,h,h2,_ => h2.elim
 | .agg r :: rs,.agg r' :: rs',l,k,h,h2,hd => by
  have ⟨cs,l',e,hr1,hr2⟩ : ∃ cs l',l = .agg cs :: l' ∧ RcsOk H r cs ∧ RsOk H rs l' := by
   cases l with
   | nil => exact h.elim
   | cons a l =>
    cases a <;> try exact h.elim
    exact ⟨_,_,rfl,h.1,h.2⟩
  subst e
  have hsplit : idsS (.agg cs :: l') = idsC cs ++ idsS l' := rfl
  rw [hsplit] at hd
  obtain ⟨h3,h4⟩ := rcsFz_slotsT (k := k) hr1 h2.1 fun id hid => hd id (List.mem_append_left _ hid)
  have h5 := rsFz_slotsT (k := k) hr2 h2.2 fun id hid => hd id (List.mem_append_right _ hid)
  refine ⟨?_,?_⟩
  ·show SlotOk H Ht [] (.agg cs) (.agg (putCs 0 k r'))
   rw [SlotOk];exact h3
  ·show SlotsOk H Ht [] l' (putS 0 (nextCs k r') rs')
   rw [h4];exact h5
theorem FRetH.frz {P : Program} {f : FuncId} {a0 : AV} {pcs : List RC} {ri : List RS} {tl : List AV} {pcs' : List RC} {rs rs' : List RS} (h : FRetH P f a0 pcs ri tl pcs' rs) (hf : RsFz rs rs') : FRetH P f a0 pcs ri tl pcs' rs' :=
 ⟨h.1,fun G Z w vs h1 h2 h3 => (h.2 G Z w vs h1 h2 h3).mono fun e w' ⟨v,r,H',G',Z',e1,⟨l,cs',hr,hp,hrc,hrs,hnd,hni⟩,st,hh,hrep⟩ => by
  generalize hK : (100001 :: idsC cs' : List Nat) = K
  have hin : ∀ id,id ∈ K → dropH K H' id = H' id := fun id h => by unfold dropH;rw [if_pos (by simpa using h)]
  have hout : ∀ id,id ∉ K → dropH K H' id = ((H' id).1,none) := fun id h => by unfold dropH;rw [if_neg (by simpa using h)]
  have hver : ∀ id,(dropH K H' id).1 = (H' id).1 := fun id => by
   by_cases h : id ∈ K
   ·rw [hin id h]
   ·rw [hout id h]
  have hmem : ∀ id ∈ idsC cs',id ∈ K := fun id h => by rw [← hK];exact List.mem_cons_of_mem _ h
  have hmp : 100001 ∈ K := by rw [← hK];exact List.mem_cons_self ..
  have hwk : WkOk H' (dropH K H') [] := ⟨fun id o' h => .inr ⟨by simp,by
   by_cases hk : id ∈ K
   ·rw [hin id hk] at h
    rw [h]
    have hk2 := hk
    rw [← hK] at hk2
    rcases List.mem_cons.1 hk2 with rfl | h1
    ·rw [hp] at h
     obtain rfl := Option.some.inj h
     exact ⟨_,rfl,rcs_slots (fun id _ hid => hin id hid) hrc hmem⟩
    ·obtain ⟨ver,l,hc⟩ := rcs_fs hrc id h1
     unfold cellsOf at hc
     split at hc
     ·rename_i v cs' e
      split at hc
      ·obtain rfl := Option.some.inj hc
       rw [e] at h
       obtain rfl := Option.some.inj h
       exact ⟨_,rfl,SlotsOk.fs rfl⟩
      ·cases hc
     ·cases hc
   ·rw [hout id hk] at h;cases h⟩,fun id _ => ⟨by rw [hver];exact Nat.le_refl _,fun _ => by simp⟩⟩
  obtain ⟨st2,hh2⟩ := st.weak hwk
  have hnl : ∀ id ∈ idsS l,(dropH K H' id).2 = none := fun id hid => by
   rw [hout id]
   intro hk
   rw [← hK] at hk
   rcases List.mem_cons.1 hk with rfl | hk
   ·exact hni (List.mem_append_right _ hid)
   ·exact (List.nodup_append.1 hnd).2.2 id hk id hid rfl
  have hs := rsFz_slotsT (k := 0) hrs hf hnl
  obtain ⟨p1,p2⟩ := ss_plain (t := 0) (H := dropH K H') (k := 0) (rsFz_plain hf)
  generalize hys : putS 0 0 rs' = ys at hs p1 p2
  refine ⟨v,oneOrTup ys,dropH K H',_,_,e1,⟨ys,cs',rfl,by rw [hin _ hmp];exact hp,rcsOk_at hrc fun id hid => hin id (hmem id hid),p1,by rw [p2,List.append_nil];exact (List.nodup_append.1 hnd).1,by rw [p2,List.append_nil];exact fun h => hni (List.mem_append_left _ h)⟩,st2,hh.trans hh2,?_⟩
  subst hr
  have gen : ∀ us : Array Value,us.size = l.length → (∀ (j : Nat) (a : AV) (u : Value),l[j]? = some a → us[j]? = some u → RepA G' Z' w' a u) → ys.length = l.length ∧ ∀ (j : Nat) (a : AV) (u : Value),ys[j]? = some a → us[j]? = some u → RepA _ _ w' a u := fun us hul hus => by
   obtain ⟨g1,g2⟩ := SlotsOk.rep st l _ us.toList hs (by simpa using hul) fun j x u hx hu => hus j x u hx (by simpa using hu)
   exact ⟨g1,fun j a u ha hu => g2 j a u ha (by simpa using hu)⟩
  cases l with
  | nil =>
   obtain ⟨us,rfl,g1,g3⟩ := RepA.tup_ hrep
   obtain ⟨k1,k2⟩ := gen us g1 g3
   cases ys with
   | nil => exact .tup _ us (by simpa using g1) k2
   | cons y ys => simp at k1
  | cons a l =>
   cases l with
   | nil =>
    cases ys with
    | nil => exact hs.elim
    | cons y ys =>
     cases ys with
     | nil => exact SlotOk.rep st a _ v hs.1 hrep
     | cons y' ys => have := hs.2;simp [SlotsOk] at this
   | cons b l =>
    obtain ⟨us,rfl,g1,g3⟩ := RepA.tup_ hrep
    obtain ⟨k1,k2⟩ := gen us g1 g3
    cases ys with
    | nil => simp at k1
    | cons y ys =>
     cases ys with
     | nil => simp at k1
     | cons y' ys => exact .tup _ us (by rw [g1,← k1]) k2⟩
end Go.Proofs.YtagkdifaldikgaaGreatDoor
