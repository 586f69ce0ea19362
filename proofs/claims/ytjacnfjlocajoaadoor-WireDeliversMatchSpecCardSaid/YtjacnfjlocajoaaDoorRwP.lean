/-
  The document's taking as plain functions: they say what the program's say. No statement of the seat is proved here; no conditions.
-/
import Derived.Test.YtjacnfjlocajoaaDoorWrS
namespace Go.Proofs.YtjacnfjlocajoaaDoor
open Go.RowKit Go.Shelf
set_option linter.unusedVariables false
set_option linter.unusedSimpArgs false
set_option maxRecDepth 100000

def delF (P : List Pt) (t : ByteArray) : List Pt := P.filter fun p => !decide (p.1 = t)
def putR (P : List Pt) (x : Pt) : List Pt := insP (delF P x.1) x
def wholeR (D : List Ob) (P : List Pt) (t : ByteArray) (b : List UInt8) : TR :=
 if digV b = t then (if 4000 ≤ D.length then (16,(D,P),mg0) else (0,(insO D (t,b),delF P t),(4,t,0,0,[]))) else (0,(D,delF P t),(5,t,0,0,[]))
def begR2 (D : List Ob) (P : List Pt) (t : ByteArray) (size : Int) : TR :=
 if size = 0 then wholeR D P t [] else if 100 ≤ P.length then (16,(D,P),mg0) else if 100000 < size then (1,(D,P),mg0) else (0,(D,putR P (t,size,[])),(3,t,0,0,[]))
def beginR (D : List Ob) (P : List Pt) (t : ByteArray) (size : Int) : TR := match pGet P t with
 | none => begR2 D P t size
 | some p => if p.2.1 = size then (0,(D,P),(3,t,p.2.2.length,0,[])) else begR2 D (delF P t) t size
def dataR (D : List Ob) (P : List Pt) (p : Pt) (fr : Int) (b : List UInt8) : TR :=
 if (p.2.2.length : Int) < fr then (8,(D,P),mg0)
 else if (p.2.2.drop fr.toNat).take (min (p.2.2.length - fr.toNat) b.length) = b.take (min (p.2.2.length - fr.toNat) b.length) then
  (if p.2.1 < fr + b.length then (2,(D,P),mg0)
   else if ((p.2.2 ++ b.drop (min (p.2.2.length - fr.toNat) b.length)).length : Int) = p.2.1 then wholeR D P p.1 (p.2.2 ++ b.drop (min (p.2.2.length - fr.toNat) b.length))
   else (0,(D,putR P (p.1,p.2.1,p.2.2 ++ b.drop (min (p.2.2.length - fr.toNat) b.length))),(3,p.1,((p.2.2 ++ b.drop (min (p.2.2.length - fr.toNat) b.length)).length : Int),0,[])))
 else (12,(D,P),mg0)
def takeR (D : List Ob) (P : List Pt) (m : Mg) : TR :=
 if m.1 ≠ 1 ∧ m.1 ≠ 2 ∧ m.1 ≠ 6 then (4,(D,P),mg0)
 else if hasK kOb D m.2.1 = true then (0,(D,P),(4,m.2.1,0,0,[]))
 else if m.1 = 1 then beginR D P m.2.1 m.2.2.2.1
 else match pGet P m.2.1 with
  | none => (9,(D,P),mg0)
  | some p => if m.1 = 6 then (0,(D,P),(3,m.2.1,p.2.2.length,0,[])) else dataR D P p m.2.2.1 m.2.2.2.2
def Sm (x y : TR) : Prop := x.1 = y.1 ∧ (y.1 = 0 → x = y)
theorem Sm.rfl {x : TR} : Sm x x := ⟨Eq.refl _,fun _ => Eq.refl _⟩
theorem idx_of {α : Type} {key : α → ByteArray} {l : List α} (h : Rising key l) {t : ByteArray} {i : Nat} (hi : i ≤ l.length) (hlt : ∀ m x,m < i → l[m]? = some x → strLt (key x) t = true) (hge : ∀ m x,i ≤ m → l[m]? = some x → strLt (key x) t = false) : bsIdx (fun b => cmpB (key b) t) l = i := by
 obtain ⟨h1,h2,h3⟩ := bs_lt (cf := fun b => cmpB (key b) t) (mono_of h t)
 generalize bsIdx (fun b => cmpB (key b) t) l = j at *
 rcases Nat.lt_trichotomy j i with g | g | g
 ·obtain ⟨x,hx⟩ := get_some (show j < l.length by omega)
  exact absurd (cmpB_lt.2 (hlt j x g hx)) (h3 j x (Nat.le_refl _) hx)
 ·exact g
 ·obtain ⟨x,hx⟩ := get_some (show i < l.length by omega)
  have := hge i x (Nat.le_refl _) hx
  rw [cmpB_lt.1 (h2 i x g hx)] at this
  cases this
theorem rising_app {α : Type} {key : α → ByteArray} {l : List α} (h : Rising key l) {i : Nat} {x : α} {t : ByteArray} (hx : l[i]? = some x) (ht : key x = t) : (∀ m y,m < i → l[m]? = some y → strLt (key y) t = true) ∧ ∀ m y,i < m → l[m]? = some y → strLt t (key y) = true :=
 ⟨fun m y hm hy => ht ▸ h m i y x hm hy hx,fun m y hm hy => ht ▸ h i m x y hm hx hy⟩
theorem delF_none {P : List Pt} {t : ByteArray} (h : hasK kPt P t = false) : delF P t = P := by
 unfold delF
 rw [List.filter_eq_self]
 intro p hp
 have := hasK_false.1 h p hp
 simpa [kPt] using this
theorem delF_hit {P : List Pt} {t : ByteArray} (hr : Rising kPt P) (h : hasK kPt P t = true) : delF P t = delP P t := by
 obtain ⟨x,h1,h2⟩ := bs_at hr h
 have h1' : P[ptIdx P t]? = some x := h1
 obtain ⟨g1,g2⟩ := rising_app hr h1' h2
 have hil := (List.getElem?_eq_some_iff.1 h1').1
 have e : P = P.take (ptIdx P t) ++ x :: P.drop (ptIdx P t + 1) := by
  have := List.take_append_drop (ptIdx P t) P
  rw [List.drop_eq_getElem_cons hil] at this
  rw [(List.getElem?_eq_some_iff.1 h1').2] at this
  exact this.symm
 unfold delF delP
 generalize hi : ptIdx P t = i at *
 conv => lhs;rw [e]
 rw [List.filter_append,List.filter_cons]
 have hx : (!decide (x.1 = t)) = false := by simp;exact h2
 rw [hx]
 have ea : (P.take i).filter (fun p => !decide (p.1 = t)) = P.take i := by
  rw [List.filter_eq_self]
  intro p hp
  obtain ⟨m,hm⟩ := List.mem_iff_getElem?.1 hp
  have hlt : m < i := by
   have := (List.getElem?_eq_some_iff.1 hm).1
   rw [List.length_take] at this;omega
  rw [List.getElem?_take,if_pos hlt] at hm
  have := g1 m p hlt hm
  simp only [Bool.not_eq_true',decide_eq_false_iff_not]
  intro hh
  rw [show kPt p = t from hh,strLt_irrefl] at this
  cases this
 have eb : (P.drop (i + 1)).filter (fun p => !decide (p.1 = t)) = P.drop (i + 1) := by
  rw [List.filter_eq_self]
  intro p hp
  obtain ⟨m,hm⟩ := List.mem_iff_getElem?.1 hp
  rw [List.getElem?_drop] at hm
  have := g2 (i + 1 + m) p (by omega) hm
  simp only [Bool.not_eq_true',decide_eq_false_iff_not]
  intro hh
  rw [show kPt p = t from hh,strLt_irrefl] at this
  cases this
 rw [ea,eb]
 rfl
theorem delF_rise {P : List Pt} {t : ByteArray} (hr : Rising kPt P) : Rising kPt (delF P t) := rising_pw.2 ((rising_pw.1 hr).sublist List.filter_sublist)
theorem delF_has {P : List Pt} {t : ByteArray} : hasK kPt (delF P t) t = false := by
 rw [hasK_false]
 intro x hx
 have := (List.mem_filter.1 hx).2
 simpa [kPt] using this
theorem put_set {P : List Pt} {t : ByteArray} {s : Int} {B : List UInt8} (hr : Rising kPt P) (h : hasK kPt P t = true) : putR P (t,s,B) = P.set (ptIdx P t) (t,s,B) := by
 obtain ⟨x,h1,h2⟩ := bs_at hr h
 have h1' : P[ptIdx P t]? = some x := h1
 obtain ⟨g1,g2⟩ := rising_app hr h1' h2
 have hil := (List.getElem?_eq_some_iff.1 h1').1
 have hrd := delF_rise (t := t) hr
 have hd := delF_hit hr h
 unfold putR insP
 rw [hd] at hrd ⊢
 have hdd : delP P t = P.take (ptIdx P t) ++ P.drop (ptIdx P t + 1) := _root_.rfl
 have hix : ptIdx (delP P t) t = ptIdx P t := by
  rw [hdd] at hrd ⊢
  generalize ptIdx P t = i at *
  have hl : (P.take i).length = i := by rw [List.length_take];omega
  refine idx_of (key := kPt) hrd (by rw [List.length_append,hl];omega) (fun m y hm hy => ?_) (fun m y hm hy => ?_)
  ·rw [List.getElem?_append_left (by omega),List.getElem?_take,if_pos hm] at hy
   exact g1 m y hm hy
  ·rw [List.getElem?_append_right (by omega),List.getElem?_drop,hl] at hy
   have := g2 (i + 1 + (m - i)) y (by omega) hy
   cases hh : strLt (kPt y) t with
   | false => rfl
   | true => have := strLt_trans hh this;rw [strLt_irrefl] at this;cases this
 dsimp only
 rw [hix,hdd]
 generalize ptIdx P t = i at *
 have hl : (P.take i).length = i := by rw [List.length_take];omega
 rw [List.take_left' hl,List.drop_left' hl,List.set_eq_take_append_cons_drop,if_pos hil]
theorem whole_same {D : List Ob} {P P' : List Pt} {t : ByteArray} {b : List UInt8} (h : delF P t = P') : Sm (wholeR D P t b) (wholeV D P' t b) := by
 subst h
 unfold wholeR wholeV
 by_cases h1 : digV b = t
 ·rw [if_pos h1,if_pos h1]
  by_cases h2 : 4000 ≤ D.length
  ·rw [if_pos h2,if_pos h2];exact ⟨_root_.rfl,fun h => by cases h⟩
  ·rw [if_neg h2,if_neg h2];exact .rfl
 ·rw [if_neg h1,if_neg h1];exact .rfl
theorem beg2_same {D : List Ob} {P : List Pt} {t : ByteArray} {size : Int} (h : hasK kPt P t = false) : Sm (begR2 D P t size) (beg2 D P t size) := by
 unfold begR2 beg2
 have e := delF_none h
 have e2 : putR P (t,size,[]) = insP P (t,size,[]) := by unfold putR;rw [e]
 rw [e2]
 split
 ·exact whole_same e
 ·exact .rfl
theorem begin_same {D : List Ob} {P : List Pt} {t : ByteArray} {size : Int} (hr : Rising kPt P) : Sm (beginR D P t size) (beginV D P t size) := by
 unfold beginR beginV
 cases hp : pGet P t with
 | none => exact beg2_same (pGet_none hr hp)
 | some p =>
  obtain ⟨g1,g2,g3⟩ := pGet_some hr hp
  dsimp only
  by_cases h : p.2.1 = size
  ·rw [if_pos h,if_pos h];exact .rfl
  ·rw [if_neg h,if_neg h,← delF_hit hr g3]
   exact beg2_same delF_has
theorem data_same {D : List Ob} {P : List Pt} {p : Pt} {t : ByteArray} {fr : Int} {b : List UInt8} (hr : Rising kPt P) (hp : pGet P t = some p) (hs : (p.2.2.length : Int) < p.2.1) (hf : 0 ≤ fr) : Sm (dataR D P p fr b) (dataV D P p t fr b) := by
 obtain ⟨g1,g2,g3⟩ := pGet_some hr hp
 obtain ⟨pt,ps,pb⟩ := p
 dsimp only at g2 hs ⊢
 subst g2
 unfold dataR dataV
 dsimp only
 rw [Nat.min_comm (pb.length - fr.toNat) b.length]
 generalize hB : pb ++ b.drop (min b.length (pb.length - fr.toNat)) = B
 by_cases h1 : (pb.length : Int) < fr
 ·rw [if_pos h1,if_pos h1];exact .rfl
 rw [if_neg h1,if_neg h1]
 by_cases h2 : b.take (min b.length (pb.length - fr.toNat)) = (pb.drop fr.toNat).take (min b.length (pb.length - fr.toNat))
 case neg => rw [if_neg (fun h => h2 h.symm),if_neg h2];exact .rfl
 rw [if_pos h2.symm,if_pos h2]
 by_cases h3 : ps < fr + b.length
 ·rw [if_pos h3,if_pos h3];exact .rfl
 rw [if_neg h3,if_neg h3]
 have hBl : B.length = pb.length + (b.length - min b.length (pb.length - fr.toNat)) := by rw [← hB,List.length_append,List.length_drop]
 by_cases h4 : (B.length : Int) < ps
 ·rw [if_neg (by omega),if_pos h4,put_set hr g3];exact .rfl
 ·rw [if_pos (by omega),if_neg h4,← delF_hit hr g3]
  exact whole_same _root_.rfl
theorem take_same {D : List Ob} {P : List Pt} {m : Mg} (h : POk D P) (hc : ckMg m m.2.2.2.2.length = 0) : Sm (takeR D P m) (takeV D P m) := by
 unfold takeR takeV
 rw [if_neg (show ¬ ckMg m m.2.2.2.2.length ≠ 0 from fun hh => hh hc)]
 by_cases h1 : m.1 ≠ 1 ∧ m.1 ≠ 2 ∧ m.1 ≠ 6
 ·rw [if_pos h1,if_pos h1];exact .rfl
 rw [if_neg h1,if_neg h1]
 by_cases h2 : hasK kOb D m.2.1 = true
 ·rw [if_pos h2,if_pos h2];exact .rfl
 rw [if_neg h2,if_neg h2]
 by_cases h3 : m.1 = 1
 ·rw [if_pos h3,if_pos h3];exact begin_same h.rise
 rw [if_neg h3,if_neg h3]
 cases hp : pGet P m.2.1 with
 | none => exact .rfl
 | some p =>
  dsimp only
  by_cases h4 : m.1 = 2
  ·rw [if_neg (by rw [h4];decide),if_pos h4]
   obtain ⟨g1,g2,g3⟩ := pGet_some h.rise hp
   have hpo := h.ok p (List.mem_of_getElem? g1)
   refine data_same h.rise hp hpo.2.2.2.1 ?_
   obtain ⟨-,c2,-⟩ := ckMg_parts hc
   omega
  ·rw [if_pos (Decidable.byContradiction fun h6 => h1 ⟨h3,h4,h6⟩),if_neg h4];exact .rfl
theorem part_ix {P : List Pt} (hr : Rising kPt P) (t : ByteArray) : (pGet P t = none ∧ ixV (fun o : Pt => decide (o.1 = t)) P = -1) ∨ ∃ (i : Nat) (p : Pt),pGet P t = some p ∧ ixV (fun o : Pt => decide (o.1 = t)) P = i ∧ P[i]? = some p ∧ p.1 = t := by
 cases hp : pGet P t with
 | none =>
  refine .inl ⟨_root_.rfl,ix_none fun k x _ hx => ?_⟩
  have := hasK_false.1 (pGet_none hr hp) x (List.mem_of_getElem? hx)
  simpa [kPt] using this
 | some p =>
  obtain ⟨g1,g2,g3⟩ := pGet_some hr hp
  refine .inr ⟨ptIdx P t,p,_root_.rfl,ix_hit (fun k x hk hx => ?_) g1 (by simp;exact g2),g1,g2⟩
  simp only [decide_eq_false_iff_not]
  intro hh
  have := rising_one hr hx g1 (show x.1 = p.1 by rw [hh,g2])
  omega
theorem done_ix {D : List Ob} (hr : Rising kOb D) (t : ByteArray) : (oGet D t = none ∧ hasK kOb D t = false ∧ ixV (fun o : Ob => decide (o.1 = t)) D = -1) ∨ ∃ (i : Nat) (o : Ob),oGet D t = some o ∧ hasK kOb D t = true ∧ ixV (fun o : Ob => decide (o.1 = t)) D = i ∧ D[i]? = some o ∧ o.1 = t := by
 cases hp : oGet D t with
 | none =>
  refine .inl ⟨_root_.rfl,oGet_none hr hp,ix_none fun k x _ hx => ?_⟩
  have := hasK_false.1 (oGet_none hr hp) x (List.mem_of_getElem? hx)
  simpa [kOb] using this
 | some p =>
  obtain ⟨g1,g2,g3⟩ := oGet_some hr hp
  refine .inr ⟨obIdx D t,p,_root_.rfl,g3,ix_hit (fun k x hk hx => ?_) g1 (by simp;exact g2),g1,g2⟩
  simp only [decide_eq_false_iff_not]
  intro hh
  have := rising_one hr hx g1 (show x.1 = p.1 by rw [hh,g2])
  omega
theorem delF_snoc {P : List Pt} {s : Nat} {p : Pt} (h : P[s]? = some p) (t : ByteArray) : delF (P.take (s + 1)) t = if p.1 = t then delF (P.take s) t else delF (P.take s) t ++ [p] := by
 unfold delF
 rw [List.take_add_one,h,List.filter_append]
 by_cases hh : p.1 = t <;> simp [hh]
end Go.Proofs.YtjacnfjlocajoaaDoor
