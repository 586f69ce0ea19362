/-
  Graphs on the machine: how many steps it is. No statement of the seat is proved here; no conditions.
-/
import Derived.Test.YtbnmclcoekehbaaDoorGrH
namespace Go.Proofs.YtbnmclcoekehbaaDoor
open Go.RowKit Go.Shelf
set_option linter.unusedVariables false
set_option linter.unusedSimpArgs false
set_option maxRecDepth 100000

abbrev BSt := List Int × List Nat
def bPush (d : Int) (s : BSt) (k : Nat) : BSt := if s.1.getD k 0 < 0 then (s.1.set k d, s.2 ++ [k]) else s
def bRow (E : List (List Nat)) (O : List Int) (P : List Nat) (i : Nat) : BSt := (E.getD i []).foldl (bPush (O.getD i 0 + 1)) (O, P)
def bGo (E : List (List Nat)) : Nat → BSt → List Int
  | 0, s => s.1
  | _ + 1, (O, []) => O
  | m + 1, (O, i :: P) => bGo E m (bRow E O P i)
def bInit (n : Nat) (from_ : List Nat) : BSt := from_.foldl (bPush 0) (List.replicate n (-1), [])
/-- How many steps it is from some numbers to each one. -/
def stepsV (E : List (List Nat)) (n : Nat) (from_ : List Nat) : List Int := bGo E n (bInit n from_)
def negs (O : List Int) : Nat := O.countP fun z => decide (z < 0)
def mu (s : BSt) : Nat := negs s.1 + s.2.length
theorem getD_some {α : Type} {l : List α} {k : Nat} {x d : α} (h : l[k]? = some x) : l.getD k d = x := by rw [List.getD_eq_getElem?_getD, h]; rfl
theorem negs_set : ∀ {O : List Int} {k : Nat} {d : Int}, O.getD k 0 < 0 → 0 ≤ d → negs (O.set k d) + 1 = negs O
  | [], k, d, h, _ => by simp at h
  | z :: O, 0, d, h, hd => by
    have h : z < 0 := h
    unfold negs
    rw [List.set_cons_zero, List.countP_cons, List.countP_cons, if_neg (by simp; omega), if_pos (by simpa using h)]
  | z :: O, k + 1, d, h, hd => by
    have h : O.getD k 0 < 0 := by simpa using h
    have := negs_set h hd
    unfold negs at this ⊢
    rw [List.set_cons_succ, List.countP_cons, List.countP_cons]; omega
theorem mu_push {s : BSt} {d : Int} {k : Nat} (hd : 0 ≤ d) : mu (bPush d s k) = mu s := by
  unfold bPush
  split
  · rename_i h
    have := negs_set h hd
    unfold mu
    simp only [List.length_append, List.length_cons, List.length_nil]; omega
  · rfl
structure BOk (n : Nat) (s : BSt) : Prop where
  len : s.1.length = n
  nn : ∀ k ∈ s.2, k < n ∧ 0 ≤ s.1.getD k 0
  lo : ∀ z ∈ s.1, -1 ≤ z ∧ z ≤ (n : Int) - mu s
  mn : mu s ≤ n
theorem getD_set {O : List Int} {k i : Nat} {d : Int} (hk : k < O.length) : (O.set k d).getD i 0 = if k = i then d else O.getD i 0 := by
  rw [List.getD_eq_getElem?_getD]
  split
  · rename_i e; subst e; rw [List.getElem?_set_self hk]; rfl
  · rename_i e; rw [List.getElem?_set_ne e, List.getD_eq_getElem?_getD]
theorem push_keep {s : BSt} {d : Int} {k i : Nat} (h : 0 ≤ s.1.getD i 0) : (bPush d s k).1.getD i 0 = s.1.getD i 0 := by
  unfold bPush
  split
  · rename_i h1
    have hk : k < s.1.length := by
      rcases Nat.lt_or_ge k s.1.length with h2 | h2
      · exact h2
      · rw [List.getD_eq_getElem?_getD, List.getElem?_eq_none h2] at h1; exact absurd h1 (by decide)
    show (s.1.set k d).getD i 0 = _
    rw [getD_set hk, if_neg (fun e => by subst e; omega)]
  · rfl
theorem push_ok {n : Nat} {s : BSt} {d : Int} {k : Nat} (h : BOk n s) (hk : k < n) (hd : 0 ≤ d) (hdn : d ≤ (n : Int) - mu s) : BOk n (bPush d s k) := by
  have hm := mu_push (s := s) (k := k) hd
  have hkeep := fun i => push_keep (s := s) (d := d) (k := k) (i := i)
  refine ⟨?_, ?_, ?_, by rw [hm]; exact h.mn⟩
  · unfold bPush; split
    · show (s.1.set k d).length = n
      rw [List.length_set]; exact h.len
    · exact h.len
  · intro i hi
    have hc : i ∈ s.2 ∨ (i = k ∧ s.1.getD k 0 < 0) := by
      unfold bPush at hi
      split at hi
      · rename_i h1
        rcases List.mem_append.1 hi with h2 | h2
        · exact .inl h2
        · exact .inr ⟨List.mem_singleton.1 h2, h1⟩
      · exact .inl hi
    rcases hc with h2 | ⟨rfl, h2⟩
    · have := h.nn i h2
      rw [hkeep i this.2]; exact this
    · refine ⟨hk, ?_⟩
      unfold bPush
      rw [if_pos h2]
      show 0 ≤ (s.1.set i d).getD i 0
      rw [getD_set (by rw [h.len]; exact hk), if_pos rfl]; exact hd
  · rw [hm]
    intro z hz
    unfold bPush at hz
    split at hz
    · rcases List.mem_or_eq_of_mem_set hz with h2 | h2
      · exact h.lo z h2
      · subst h2; omega
    · exact h.lo z hz
theorem start_b (n : Nat) : BOk n (List.replicate n (-1), []) := by
  have hm : mu (List.replicate n (-1), []) = n := by simp [mu, negs, List.countP_replicate]
  refine ⟨by simp, fun k hk => (by cases hk), fun z hz => ?_, by rw [hm]; exact Nat.le_refl _⟩
  rw [hm, (List.mem_replicate.1 hz).2]; omega
/-- The state is kept through a row; so is what stands at i. -/
theorem row_ok {n : Nat} {v : Int} {i : Nat} : ∀ {l : List Nat} {s : BSt}, BOk n s → (∀ k ∈ l, k < n) → 0 ≤ v → s.1.getD i 0 = v → v + 1 ≤ (n : Int) - mu s → BOk n (l.foldl (bPush (v + 1)) s) ∧ (l.foldl (bPush (v + 1)) s).1.getD i 0 = v ∧ mu (l.foldl (bPush (v + 1)) s) = mu s
  | [], s, h, _, _, hv, _ => ⟨h, hv, rfl⟩
  | k :: l, s, h, hl, h0, hv, hm => by
    rw [List.foldl_cons]
    have e := mu_push (s := s) (d := v + 1) (k := k) (by omega)
    obtain ⟨a, b, c⟩ := row_ok (l := l) (s := bPush (v + 1) s k) (push_ok h (hl k (List.mem_cons_self ..)) (by omega) hm) (fun i hi => hl i (List.mem_cons_of_mem _ hi)) h0 (by rw [push_keep (by rw [hv]; exact h0), hv]) (by rw [e]; exact hm)
    exact ⟨a, b, c.trans e⟩
theorem pop_ok {n : Nat} {O : List Int} {i : Nat} {P : List Nat} (h : BOk n (O, i :: P)) : BOk n (O, P) ∧ i < n ∧ 0 ≤ O.getD i 0 ∧ O.getD i 0 + 1 ≤ (n : Int) - mu (O, P) ∧ mu (O, i :: P) = mu (O, P) + 1 := by
  have hm : mu (O, i :: P) = mu (O, P) + 1 := by simp [mu]; omega
  obtain ⟨h1, h2⟩ := h.nn i (List.mem_cons_self ..)
  have hl := h.len
  have hmn := h.mn
  rw [hm] at hmn
  refine ⟨⟨h.len, fun k hk => h.nn k (List.mem_cons_of_mem _ hk), fun z hz => ?_, by omega⟩, h1, h2, ?_, hm⟩
  · have := h.lo z hz
    rw [hm] at this; omega
  · have hlt : i < O.length := by have : O.length = n := hl; omega
    have := h.lo (O.getD i 0) (by rw [getD_some (List.getElem?_eq_getElem hlt)]; exact List.getElem_mem _)
    rw [hm] at this; omega
def frI (l : List Int) : FV := .fr 1 (l.map fun z => [fI z])
theorem frI_eq (l : List Int) : frI l = .fr 1 ((l.map fI).map fun x => [x]) := by unfold frI; rw [List.map_map]; rfl
end Go.Proofs.YtbnmclcoekehbaaDoor
