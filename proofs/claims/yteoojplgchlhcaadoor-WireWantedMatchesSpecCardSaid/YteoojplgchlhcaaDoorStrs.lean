/-
  Rows of strings that a call builds, one behind the other: the last one still grows.
-/
import Derived.Test.YteoojplgchlhcaaDoorSizes
import Derived.Deep.RegionHeld3
namespace Go.Proofs.YteoojplgchlhcaaDoor
open Go.RowKit
set_option linter.unusedVariables false
set_option linter.unusedSimpArgs false

theorem el_str : ElemOk Tryd.prog 28 9 1 16 := .mk' (z := .string ⟨#[]⟩) Tryd.underlying28 (by kernel_rfl) rfl (by decide)
theorem el_strs : ElemOk Tryd.prog 23 28 1 24 := .mk' (z := .slice none 0 0) Tryd.underlying23 (by kernel_rfl) rfl (by decide)

theorem own_types {w : World} {b1 b2 : Nat} {e1 e2 : TypeId} {s1 s2 n1 n2 : Nat} {v1 v2 : Value} {xs1 xs2 : List Value} (h1 : w.ownsRow b1 e1 s1 v1 n1 xs1) (h2 : w.ownsRow b2 e2 s2 v2 n2 xs2) (he : e1 ≠ e2) :
    v1.ownBlock = none ∨ v1.ownBlock ≠ v2.ownBlock := by
  rcases h1.2 with ⟨rfl, _⟩ | ⟨g1, c1, cu1, rfl, _, hg1, _⟩
  · exact Or.inl rfl
  · right
    rcases h2.2 with ⟨rfl, _⟩ | ⟨g2, c2, cu2, rfl, _, hg2, _⟩
    · simp [Value.ownBlock]
    · intro e
      simp only [Value.ownBlock, Option.some.injEq] at e
      subst e
      rw [hg1] at hg2
      simp at hg2
      exact he hg2.2

theorem own_mono {w : World} {base base' : Nat} {e : TypeId} {size : Nat} {v : Value} {n : Nat} {xs : List Value} (h : w.ownsRow base e size v n xs) (hb : base' ≤ base) : w.ownsRow base' e size v n xs := by
  refine ⟨h.1, ?_⟩
  rcases h.2 with h0 | ⟨g, cap, cur, e1, e2, e3⟩
  · exact .inl h0
  · exact .inr ⟨g, cap, cur, e1, by omega, e3⟩

def strs (r : List ByteArray) : List Value := r.map Value.string
def rowOk (r : List ByteArray) : Prop := r.length ≤ 4000 ∧ ∀ s ∈ r, s.size ≤ 140737488355328

/-- All rows are owned by the call, their blocks below B. -/
def allRows (w : World) (base B : Nat) (rows : List (List ByteArray)) (vals : List Value) : Prop :=
  vals.length = rows.length ∧ ∀ (i : Nat) (r : List ByteArray), rows[i]? = some r → rowOk r ∧ ∃ q, vals[i]? = some q ∧ w.ownsRow base 9 1 q r.length (strs r) ∧ ∀ b, q.ownBlock = some b → b < B

def rows2 (w : World) (base : Nat) (done : List (List ByteArray)) (cur : List ByteArray) (v : Value) (vals : List Value) (u : Value) (B0 : Nat) : Prop :=
  w.ownsRow base 28 1 v (done.length + 1) (vals ++ [u]) ∧ allRows w base B0 done vals ∧ w.ownsRow B0 9 1 u cur.length (strs cur) ∧ base ≤ B0 ∧ B0 ≤ w.heap.size ∧ rowOk cur

section
variable {w w' : World} {base B B0 : Nat} {rows done : List (List ByteArray)} {cur : List ByteArray} {vals : List Value} {u v : Value}

theorem allRows.kept {row : Option Nat} (h : allRows w base B rows vals) (hg : w.grownBy w' row) (hne : ∀ b, row = some b → B ≤ b) : allRows w' base B rows vals := by
  refine ⟨h.1, fun i r hr => ?_⟩
  obtain ⟨ho, q, hq, hown, hb⟩ := h.2 i r hr
  refine ⟨ho, q, hq, hown.kept hg ?_, hb⟩
  cases hq' : q.ownBlock with
  | none => exact Or.inl rfl
  | some b => 
    right
    intro e
    have := hne b e.symm
    have := hb b hq'
    omega
theorem allRows.keptO {e : TypeId} {sz n : Nat} {xs : List Value} (h : allRows w base B rows vals) (hg : w.grownBy w' v.ownBlock) (hv : w.ownsRow base e sz v n xs) (he : 9 ≠ e) : allRows w' base B rows vals := by
  refine ⟨h.1, fun i r hr => ?_⟩
  obtain ⟨ho, q, hq, hown, hb⟩ := h.2 i r hr
  exact ⟨ho, q, hq, hown.kept hg (own_types hown hv he), hb⟩
theorem rows2.all (h : rows2 w base done cur v vals u B0) : allRows w base w.heap.size (done ++ [cur]) (vals ++ [u]) := by
  obtain ⟨h1, h2, h3, h4, h5, h6⟩ := h
  refine ⟨by simp [h2.1], fun i r hr => ?_⟩
  by_cases hi : i < done.length
  · rw [List.getElem?_append_left hi] at hr
    obtain ⟨ho, q, hq, hown, hb⟩ := h2.2 i r hr
    exact ⟨ho, q, by rw [List.getElem?_append_left (by rw [h2.1]; exact hi)]; exact hq, hown, fun b e => (hown.lt b e).2⟩
  · rw [List.getElem?_append_right (by omega)] at hr
    have hi0 : i - done.length = 0 := by
      have := (List.getElem?_eq_some_iff.1 hr).1
      simp at this; omega
    rw [hi0] at hr
    simp only [List.getElem?_cons_zero, Option.some.injEq] at hr
    subst hr
    refine ⟨h6, u, by rw [List.getElem?_append_right (by rw [h2.1]; omega), h2.1, hi0]; rfl, own_mono h3 h4, fun b e => (h3.lt b e).2⟩
/-- A new row begins. -/
theorem allRows.begin {v' : Value} (h : allRows w base w.heap.size rows vals) (hv : w.ownsRow base 28 1 v rows.length vals) (hg : w.grownBy w' v.ownBlock) (hv' : w'.ownsRow base 28 1 v' (rows.length + 1) (vals ++ [.slice none 0 0])) (hb : base ≤ w.heap.size) :
    rows2 w' base rows [] v' vals (.slice none 0 0) w'.heap.size := by
  refine ⟨hv', ?_, World.ownsRow_nil _ _ _ _, Nat.le_trans hb hg.size, Nat.le_refl _, by simp [rowOk], by simp⟩
  have h1 := h.keptO hg hv (by decide)
  refine ⟨h1.1, fun i r hr => ?_⟩
  obtain ⟨ho, q, hq, hown, hb⟩ := h1.2 i r hr
  exact ⟨ho, q, hq, hown, fun b e => (hown.lt b e).2⟩
/-- The last row gets an element: 'w1' behind the append, then the store. -/
theorem rows2.push {w1 : World} {u' : Value} {d : ByteArray} {g cap : Nat} (h : rows2 w base done cur (.slice (some ⟨g, 0, none⟩) (done.length + 1) cap) vals u B0) (hu' : w1.ownsRow B0 9 1 u' (cur.length + 1) (strs cur ++ [.string d])) (hg : w.grownBy w1 u.ownBlock)
    (hl : cur.length < 4000) (hd : d.size ≤ 140737488355328) :
    rows2 (w1.setCell ⟨g, done.length, none⟩ u') base done (cur ++ [d]) (.slice (some ⟨g, 0, none⟩) (done.length + 1) cap) vals u' B0 := by
  obtain ⟨h1, h2, h3, h4, h5, h6⟩ := h
  have k1 := h1.kept hg (own_types h1 h3 (by decide))
  obtain ⟨k2, k3⟩ := k1.stored done.length u'
  refine ⟨?_, ?_, ?_, h4, by have := hg.size; simp; omega, by simp [h6.1]; omega, ?_⟩
  · have e : (vals ++ [u]).set done.length u' = vals ++ [u'] := by
      rw [List.set_append_right _ _ (by rw [h2.1]; omega), h2.1]; simp
    rw [← e]; exact k2
  · have a1 := h2.kept hg (fun b e => (h3.lt b e).1)
    have e : (some g : Option Nat) = (Value.slice (some ⟨g, 0, none⟩) (done.length + 1) cap).ownBlock := rfl
    rw [e] at k3
    exact a1.keptO k3 k1 (by decide)
  · have := hu'.kept k3 (by have := own_types hu' k1 (by decide); simpa [Value.ownBlock] using this)
    simpa [strs] using this
  · intro s hs
    rcases List.mem_append.1 hs with hs | hs
    · exact h6.2 s hs
    · simp at hs; subst hs; exact hd
/-- What the call hands back. -/
theorem allRows.toSl (h : allRows w base B rows vals) (hv : w.ownsRow base 28 1 v rows.length vals) (hn : rows.length ≤ 4000) :
    rSl 1 24 (rSl 1 16 rStr) w w.heap.size rows [v] := by
  rcases hv.2 with ⟨rfl, h0⟩ | ⟨g, cap, cur, rfl, hg, hh, hnc, hcm, hcs, hcur⟩
  · have : rows = [] := List.eq_nil_of_length_eq_zero h0
    subst this
    exact rSl.nil_
  · refine ⟨some ⟨g, 0, none⟩, cap, rfl, hnc, hcm, by omega, fun h0 => ⟨g, 0, rfl, (Array.getElem?_eq_some_iff.1 hh).1, fun k r hk => ?_⟩⟩
    obtain ⟨ho, q, hq, hown, hb⟩ := h.2 k r hk
    obtain ⟨A, c, rfl, hs⟩ := rSl.of_own (R := rStr) (w := w) (B := w.heap.size) (bts := 16) (l := r) (fun s => [Value.string s]) hown (Nat.le_refl _) List.map_eq_flatMap rfl (fun _ => rfl) (fun x hx => ⟨rfl, ho.2 x hx⟩) (by have := ho.1; omega)
    refine ⟨[.slice A r.length c], rfl, hs, fun j w1 hj => ?_⟩
    have hj0 : j = 0 := by
      have := (List.getElem?_eq_some_iff.1 hj).1
      simp at this; exact this
    subst hj0
    simp only [List.getElem?_cons_zero, Option.some.injEq] at hj
    subst hj
    have hk' : k < rows.length := (List.getElem?_eq_some_iff.1 hk).1
    have := hv.cellAt k (by omega)
    rw [Nat.zero_add, Nat.mul_one, Nat.add_zero, this, hq]
end
end Go.Proofs.YteoojplgchlhcaaDoor
