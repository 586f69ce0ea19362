/-
  What was read is of bounded size (plain Lean). No statement of the seat is proved here; no conditions.
-/
import Derived.Test.YtagkdifaldikgaaGreatDoorQcW
import Derived.Test.YtagkdifaldikgaaGreatDoorQdF
import Derived.Test.YtagkdifaldikgaaGreatDoorQtE
namespace Go.Proofs.YtagkdifaldikgaaGreatDoor
open Go.RowKit Go.Shelf
set_option linter.unusedVariables false
set_option linter.unusedSimpArgs false
set_option maxRecDepth 100000

def LvB : Lv → Prop
 | .bothL q => QB q
 | .sumL q => QB q
 | _ => True
def BdR (f : Rdr) : Prop := ∀ lv l q l',f lv l = some (q,l') → l.length ≤ 140737488355328 → LvB lv → QB q
theorem qb_mk {k : Int} {t : ByteArray} {n : Int} {ps : List QT} (ht : (t.size : Int) ≤ 140737488355328) (hl : ps.length ≤ 2) (h : ∀ p ∈ ps,QB p) : QB (.mk k t n ps) := by
 rw [QB]
 refine ⟨⟨ht,by omega⟩,?_⟩
 induction ps with
 | nil => exact trivial
 | cons p ps ih => exact ⟨h p (by simp),ih (by simp at hl;omega) fun x hx => h x (List.mem_cons_of_mem _ hx)⟩
theorem toB_size {l : List UInt8} (h : l.length ≤ 140737488355328) : ((toB l).size : Int) ≤ 140737488355328 := by
 have : (toB l).size = l.length := by show l.toArray.size = _;simp
 omega
theorem wrd_len (l : List UInt8) : (wrd l).length ≤ l.length := by
 have := tk_len l
 unfold wrd
 rw [List.length_take];omega
theorem head_bd {k : Int} {l : List UInt8} {x : ByteArray × List UInt8} (hl : l.length ≤ 140737488355328) (h : headW k l = some x) : (x.1.size : Int) ≤ 140737488355328 := by
 have hw := wrd_len l
 unfold headW at h
 split at h
 ·split at h
  ·obtain rfl := Option.some.inj h;exact toB_size (by omega)
  ·cases h
 ·split at h
  ·split at h
   ·obtain rfl := Option.some.inj h;exact toB_size (by omega)
   ·cases h
  ·obtain rfl := Option.some.inj h;exact (by decide : ((nil0.size : Nat) : Int) ≤ 140737488355328)
theorem tail_bd {f : Rdr} (hf : BdR f) {k : Int} {q : QT} (hq : QB q) {l : List UInt8} {x : (Int × List QT) × List UInt8} (hl : l.length ≤ 140737488355328) (h : tailW f k q l = some x) : x.1.2.length ≤ 2 ∧ ∀ p ∈ x.1.2,QB p := by
 have hr := rst_len l
 have h1 : ∀ {a : Int},([q] : List QT).length ≤ 2 ∧ ∀ p ∈ [q],QB p := fun {a} => ⟨by simp,fun p hp => by obtain rfl := List.mem_singleton.1 hp;exact hq⟩
 unfold tailW at h
 split at h
 ·split at h
  ·obtain ⟨y,h2,h3⟩ := Option.bind_eq_some_iff.1 h
   obtain rfl := Option.some.inj h3
   have hy := hf _ _ _ _ h2 (by omega) trivial
   refine ⟨by simp,fun p hp => ?_⟩
   simp only [List.mem_cons,List.not_mem_nil,or_false] at hp
   rcases hp with rfl | rfl
   ·exact hq
   ·exact hy
  ·cases h
 ·split at h
  ·split at h
   ·split at h
    ·obtain rfl := Option.some.inj h;exact h1 (a := 0)
    ·cases h
   ·obtain rfl := Option.some.inj h;exact h1 (a := 0)
  ·obtain rfl := Option.some.inj h;exact h1 (a := 0)
theorem one_bd {f : Rdr} (hf : BdR f) (hs : SufR f) {l : List UInt8} {x : QT × List UInt8} (hl : l.length ≤ 140737488355328) (h : oneW f l = some x) : QB x.1 := by
 have hw := wrd_len l
 have hr := rst_len l
 have hr2 := rst_len (rst l)
 unfold oneW at h
 split at h
 ·obtain ⟨y,h1,h2⟩ := Option.bind_eq_some_iff.1 h
  split at h2
  ·obtain rfl := Option.some.inj h2
   exact hf _ _ _ _ h1 (by omega) trivial
  ·cases h2
 split at h
 ·split at h
  ·obtain rfl := Option.some.inj h;exact qb_mk (toB_size (by omega)) (by decide) (fun p hp => by cases hp)
  ·cases h
 split at h
 ·obtain rfl := Option.some.inj h;exact qb_mk (by decide) (by decide) (fun p hp => by cases hp)
 split at h
 ·obtain ⟨y,h1,h2⟩ := Option.bind_eq_some_iff.1 h
  obtain ⟨z,h3,h4⟩ := Option.bind_eq_some_iff.1 h2
  obtain ⟨u,h5,h6⟩ := Option.bind_eq_some_iff.1 h4
  split at h6
  ·obtain rfl := Option.some.inj h6
   have e1 := (head_suf h1).length_le
   have e2 := (hs _ _ _ _ h3).length_le
   have hz := hf _ _ _ _ h3 (by omega) trivial
   have ht := tail_bd hf hz (by omega) h5
   exact qb_mk (head_bd (by omega) h1) ht.1 ht.2
  ·cases h6
 ·cases h
theorem qb_two {k : Int} {a b : QT} (ha : QB a) (hb : QB b) : QB (.mk k nil0 0 [a,b]) := qb_mk (by decide) (by simp) fun p hp => by
 simp only [List.mem_cons,List.not_mem_nil,or_false] at hp
 rcases hp with rfl | rfl
 ·exact ha
 ·exact hb
theorem step_bd {f : Rdr} (hf : BdR f) (hs : SufR f) : BdR (stepW f) := fun lv l q l' h hl hb => by
 have hr := rst_len l
 cases lv with
 | one => exact one_bd hf hs hl h
 | both =>
  obtain ⟨y,h1,h2⟩ := Option.bind_eq_some_iff.1 h
  have e := (hs _ _ _ _ h1).length_le
  exact hf _ _ _ _ h2 (by omega) (hf _ _ _ _ h1 hl trivial)
 | sum =>
  obtain ⟨y,h1,h2⟩ := Option.bind_eq_some_iff.1 h
  have e := (hs _ _ _ _ h1).length_le
  exact hf _ _ _ _ h2 (by omega) (hf _ _ _ _ h1 hl trivial)
 | bothL q0 =>
  simp only [stepW] at h
  split at h
  ·obtain ⟨y,h1,h2⟩ := Option.bind_eq_some_iff.1 h
   have e := (hs _ _ _ _ h1).length_le
   exact hf _ _ _ _ h2 (by omega) (qb_two (k := 10) hb (hf _ _ _ _ h1 (by omega) trivial))
  ·obtain ⟨rfl,rfl⟩ := Prod.mk.inj (Option.some.inj h);exact hb
 | sumL q0 =>
  simp only [stepW] at h
  split at h
  ·obtain ⟨y,h1,h2⟩ := Option.bind_eq_some_iff.1 h
   have e := (hs _ _ _ _ h1).length_le
   exact hf _ _ _ _ h2 (by omega) (qb_two (k := 8) hb (hf _ _ _ _ h1 (by omega) trivial))
  ·split at h
   ·obtain ⟨y,h1,h2⟩ := Option.bind_eq_some_iff.1 h
    have e := (hs _ _ _ _ h1).length_le
    exact hf _ _ _ _ h2 (by omega) (qb_two (k := 9) hb (hf _ _ _ _ h1 (by omega) trivial))
   ·obtain ⟨rfl,rfl⟩ := Prod.mk.inj (Option.some.inj h);exact hb
theorem pq_bd : ∀ n,BdR (pq n)
 | 0 => fun _ _ _ _ h => by cases h
 | n + 1 => step_bd (pq_bd n) (pq_suf n)
end Go.Proofs.YtagkdifaldikgaaGreatDoor
namespace Go.Proofs.YtagkdifaldikgaaGreatDoor
open Go.RowKit Go.Shelf
set_option linter.unusedVariables false
set_option linter.unusedSimpArgs false
set_option maxRecDepth 100000

def cnL : Lv → Nat
 | .bothL q => cnQ q
 | .sumL q => cnQ q
 | _ => 0
def CnR (f : Rdr) : Prop := ∀ lv l q l',f lv l = some (q,l') → cnQ q + l'.length ≤ cnL lv + l.length
theorem rst_lt {l : List UInt8} (h : wrd l ≠ []) : (rst l).length + 1 ≤ l.length := by
 have h1 := tk_len l
 have h2 : (wrd l).length + (rst l).length = (skp l).length := by
  unfold wrd rst
  rw [← List.length_append,List.take_append_drop]
 have h3 : 1 ≤ (wrd l).length := by
  cases hw : wrd l with
  | nil => exact absurd hw h
  | cons a b => simp
 omega
theorem kind_ne {l : List UInt8} (h : kindW l ≠ 0) : l ≠ [] := fun e => by subst e;exact h (by decide)
theorem lab_ne {l : List UInt8} (h : isWholeV (toB l) = true) : l ≠ [] := fun e => by
 subst e
 obtain ⟨⟨r,h1⟩,_⟩ := wd.lab _ h
 cases h1
theorem tail_cn {f : Rdr} (hf : CnR f) {k : Int} {q : QT} {l : List UInt8} {x : (Int × List QT) × List UInt8} (h : tailW f k q l = some x) : cnQs x.1.2 + x.2.length ≤ cnQ q + l.length := by
 have h1 := rst_len l
 have h2 := rst_len (rst l)
 have h3 := tk_len l
 unfold tailW at h
 split at h
 ·split at h
  ·obtain ⟨y,e1,e2⟩ := Option.bind_eq_some_iff.1 h
   obtain rfl := Option.some.inj e2
   have := hf _ _ _ _ e1
   simp only [cnQs,cnL] at this ⊢
   omega
  ·cases h
 ·split at h
  ·split at h
   ·split at h
    ·obtain rfl := Option.some.inj h
     simp only [cnQs];omega
    ·cases h
   ·obtain rfl := Option.some.inj h
    simp only [cnQs];omega
  ·obtain rfl := Option.some.inj h
   simp only [cnQs];omega
theorem one_cn {f : Rdr} (hf : CnR f) {l : List UInt8} {x : QT × List UInt8} (h : oneW f l = some x) : cnQ x.1 + x.2.length ≤ l.length := by
 have h1 := rst_len l
 have h2 := rst_len (rst l)
 unfold oneW at h
 split at h
 ·obtain ⟨y,e1,e2⟩ := Option.bind_eq_some_iff.1 h
  split at e2
  ·obtain rfl := Option.some.inj e2
   have := hf _ _ _ _ e1
   have h3 := rst_len y.2
   simp only [cnL] at this ⊢
   omega
  ·cases e2
 split at h
 ·split at h
  ·rename_i hw
   obtain rfl := Option.some.inj h
   have := rst_lt (lab_ne hw)
   simp only [cnQ,cnQs];omega
  ·cases h
 rename_i hk
 have h4 := rst_lt (kind_ne hk)
 split at h
 ·obtain rfl := Option.some.inj h
  simp only [cnQ,cnQs];omega
 split at h
 ·obtain ⟨y,e1,e2⟩ := Option.bind_eq_some_iff.1 h
  obtain ⟨z,e3,e4⟩ := Option.bind_eq_some_iff.1 e2
  obtain ⟨u,e5,e6⟩ := Option.bind_eq_some_iff.1 e4
  split at e6
  ·obtain rfl := Option.some.inj e6
   have a1 := (head_suf e1).length_le
   have a2 := hf _ _ _ _ e3
   have a3 := tail_cn hf e5
   have a4 := rst_len u.2
   simp only [cnQ,cnL] at a2 ⊢
   omega
  ·cases e6
 ·cases h
theorem step_cn {f : Rdr} (hf : CnR f) : CnR (stepW f) := fun lv l q l' h => by
 have h3 := tk_len l
 cases lv with
 | one =>
  have h5 : cnQ q + l'.length ≤ l.length := one_cn hf h
  simp only [cnL];omega
 | both =>
  obtain ⟨y,e1,e2⟩ := Option.bind_eq_some_iff.1 h
  have a1 := hf _ _ _ _ e1
  have a2 := hf _ _ _ _ e2
  simp only [cnL] at a1 a2 ⊢;omega
 | sum =>
  obtain ⟨y,e1,e2⟩ := Option.bind_eq_some_iff.1 h
  have a1 := hf _ _ _ _ e1
  have a2 := hf _ _ _ _ e2
  simp only [cnL] at a1 a2 ⊢;omega
 | bothL q0 =>
  simp only [stepW] at h
  split at h
  ·rename_i hw
   have h4 := rst_lt (l := l) (by rw [hw];simp)
   obtain ⟨y,e1,e2⟩ := Option.bind_eq_some_iff.1 h
   have a1 := hf _ _ _ _ e1
   have a2 := hf _ _ _ _ e2
   simp only [cnL,cnQ,cnQs] at a1 a2 ⊢;omega
  ·obtain ⟨rfl,rfl⟩ := Prod.mk.inj (Option.some.inj h);simp only [cnL];omega
 | sumL q0 =>
  simp only [stepW] at h
  split at h
  ·rename_i hw
   have h4 := rst_lt (l := l) (by rw [hw];simp)
   obtain ⟨y,e1,e2⟩ := Option.bind_eq_some_iff.1 h
   have a1 := hf _ _ _ _ e1
   have a2 := hf _ _ _ _ e2
   simp only [cnL,cnQ,cnQs] at a1 a2 ⊢;omega
  ·split at h
   ·rename_i hw
    have h4 := rst_lt (l := l) (by rw [hw];simp)
    obtain ⟨y,e1,e2⟩ := Option.bind_eq_some_iff.1 h
    have a1 := hf _ _ _ _ e1
    have a2 := hf _ _ _ _ e2
    simp only [cnL,cnQ,cnQs] at a1 a2 ⊢;omega
   ·obtain ⟨rfl,rfl⟩ := Prod.mk.inj (Option.some.inj h);simp only [cnL];omega
theorem pq_cn : ∀ n,CnR (pq n)
 | 0 => fun _ _ _ _ h => by cases h
 | n + 1 => step_cn (pq_cn n)
end Go.Proofs.YtagkdifaldikgaaGreatDoor
