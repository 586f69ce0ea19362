/-
  Works: data, and what is computed of them. No statement of the seat is proved here; no conditions.
-/
import Derived.Test.YtbnmclcoekehbaaDoorGrRv
import Derived.Test.YtbnmclcoekehbaaDoorLowW
namespace Go.Proofs.YtbnmclcoekehbaaDoor
open Go.RowKit Go.Shelf
set_option linter.unusedVariables false
set_option linter.unusedSimpArgs false
set_option maxRecDepth 100000

theorem rg_iff {n l h : Int} : inRg n l h = true ↔ l ≤ n ∧ n ≤ h := by unfold inRg; simp
theorem dcT {p : Prop} [Decidable p] (h : p) : decide p = true := decide_eq_true h
theorem dcF {p : Prop} [Decidable p] (h : ¬ p) : decide p = false := decide_eq_false h
abbrev Pair := ByteArray × ByteArray
def fPair (x : Pair) : List FV := [.str x.1, .str x.2]
def frPairs (l : List Pair) : FV := .fr 2 (l.map fPair)
/-- Id, Needs, Size, After. -/
abbrev Work := ByteArray × List Pair × Int × List ByteArray
def fWork (x : Work) : List FV := [.str x.1, frPairs x.2.1, .int .i64 x.2.2.1, frStrs x.2.2.2]
def frWorks (l : List Work) : FV := .fr 4 (l.map fWork)
def wordS : List UInt8 := [97, 98, 99, 100, 101, 102, 103, 104, 105, 106, 107, 108, 109, 110, 111, 112, 113, 114, 115, 116, 117, 118, 119, 120, 121, 122, 48, 49, 50, 51, 52, 53, 54, 55, 56, 57, 95, 45]
def isWordV (p : ByteArray) : Bool := match p.data.toList with
  | [] => false
  | b :: _ => !decide ((40 : Int) < p.size) && (inRg (b.toNat : Nat) 97 122 && decide ((⟨(Lib.trimS p.data.toList wordS).toArray⟩ : ByteArray) = ⟨#[]⟩))
def pairErr (l : List Pair) (i : Nat) : Int := match l[i]? with
  | none => 0
  | some x => if isWordV x.1 = true then (if isWordV x.2 = true then prevV l i (fun e => if leS x.1 e.1 = true then 8 else 0) else 1) else 5
theorem pairErr_of {l : List Pair} {i : Nat} {x : Pair} (h : l[i]? = some x) : pairErr l i = if isWordV x.1 = true then (if isWordV x.2 = true then prevV l i (fun e => if leS x.1 e.1 = true then 8 else 0) else 1) else 5 := by unfold pairErr; rw [h]
def ckPairs (l : List Pair) : Int := if (30 : Int) < l.length then 2 else firstErr (pairErr l) 0 l.length
def aftErr (l : List ByteArray) (i : Nat) : Int := match l[i]? with
  | none => 0
  | some d => if isWordV d = true then prevV l i (fun e => if leS d e = true then 8 else 0) else 5
theorem aftErr_of {l : List ByteArray} {i : Nat} {d : ByteArray} (h : l[i]? = some d) : aftErr l i = if isWordV d = true then prevV l i (fun e => if leS d e = true then 8 else 0) else 5 := by unfold aftErr; rw [h]
def ckWork (x : Work) : Int := if isWordV x.1 = false then 5 else if ckPairs x.2.1 ≠ 0 then ckPairs x.2.1 else if inRg x.2.2.1 1 1000000 = false then 1 else firstErr (aftErr x.2.2.2) 0 x.2.2.2.length
def wIdx (l : List Work) (t : ByteArray) : Nat := bsIdx (fun b : Work => cmpB b.1 t) l
def wHas (l : List Work) (t : ByteArray) : Bool := hasK (fun b : Work => b.1) l t
def wkErr (l : List Work) (i : Nat) : Int := match l[i]? with
  | none => 0
  | some x => if ckWork x ≠ 0 then ckWork x else prevV l i (fun e => if leS x.1 e.1 = true then 8 else 0)
theorem wkErr_of {l : List Work} {i : Nat} {x : Work} (h : l[i]? = some x) : wkErr l i = if ckWork x ≠ 0 then ckWork x else prevV l i (fun e => if leS x.1 e.1 = true then 8 else 0) := by unfold wkErr; rw [h]
def aftOk (l : List Work) : Bool := l.all fun x => x.2.2.2.all (wHas l)
def aftE (l : List Work) : List (List Nat) := l.map fun x => x.2.2.2.map (wIdx l)
def wkW (l : List Work) (i : Nat) : Int := match l[i]? with
  | none => 0
  | some x => x.2.2.1
/-! ### The order -/
abbrev WSt := List Bool × List Nat
def wBlk (E : List (List Nat)) (d : List Bool) (i : Nat) : Bool := (E.getD i []).any fun k => !(d.getD k false)
def wStep (E : List (List Nat)) (s : WSt) (i : Nat) : WSt := if (s.1.getD i false || wBlk E s.1 i) = true then s else (s.1.set i true, s.2 ++ [i])
def wPass (E : List (List Nat)) (n : Nat) (s : WSt) : WSt := (List.range n).foldl (wStep E) s
def wGo (E : List (List Nat)) (n : Nat) : Nat → WSt → WSt
  | 0, s => s
  | m + 1, s => if (wPass E n s).2.length = s.2.length then s else wGo E n m (wPass E n s)
def ordWV (l : List Work) : List Nat := (wGo (aftE l) l.length (l.length + 1) (List.replicate l.length false, [])).2
/-- What holds of the order at any time. -/
structure WInv (E : List (List Nat)) (n : Nat) (s : WSt) : Prop where
  dl : s.1.length = n
  nd : s.2.Nodup
  lt : ∀ i ∈ s.2, i < n
  is : ∀ i, s.1.getD i false = true ↔ i ∈ s.2
  bd : Before E s.2
theorem wInv_0 {E : List (List Nat)} {n : Nat} : WInv E n (List.replicate n false, []) := by
  refine ⟨by simp, List.nodup_nil, fun i h => (by cases h), fun i => ?_, fun k i h => (by simp at h)⟩
  rw [List.getD_eq_getElem?_getD, List.getElem?_replicate]
  split <;> simp
theorem WInv.step {E : List (List Nat)} {n : Nat} {s : WSt} (h : WInv E n s) {i : Nat} (hi : i < n) : WInv E n (wStep E s i) := by
  unfold wStep
  split
  · exact h
  · rename_i hc
    simp only [Bool.or_eq_true, not_or, Bool.not_eq_true] at hc
    obtain ⟨h1, h2⟩ := hc
    have hni : i ∉ s.2 := fun hm => by rw [(h.is i).2 hm] at h1; cases h1
    refine ⟨by simp [h.dl], ?_, fun k hk => ?_, fun k => ?_, fun k j hj d hd => ?_⟩
    · rw [List.nodup_append]
      exact ⟨h.nd, by simp, fun a ha b hb => by rw [List.mem_singleton.1 hb]; exact fun e => hni (e ▸ ha)⟩
    · rcases List.mem_append.1 hk with hk | hk
      · exact h.lt k hk
      · rw [List.mem_singleton.1 hk]; exact hi
    · rw [List.mem_append, List.mem_singleton, ← h.is k, List.getD_eq_getElem?_getD, List.getD_eq_getElem?_getD, List.getElem?_set]
      by_cases hk : i = k
      · subst hk
        simp [h.dl, hi]
      · rw [if_neg hk]
        exact ⟨.inl, fun h => h.resolve_right fun e => hk e.symm⟩
    · rcases Nat.lt_or_ge k s.2.length with hk | hk
      · rw [List.getElem?_append_left hk] at hj
        rw [List.take_append_of_le_length (by omega)]
        exact h.bd k j hj d hd
      · have hkl : k = s.2.length := by have := (List.getElem?_eq_some_iff.1 hj).1; simp at this; omega
        subst hkl
        have hji : j = i := by simpa using hj.symm
        subst hji
        rw [List.take_left]
        have h3 : (E.getD j []).any (fun k => !(s.1.getD k false)) = false := h2
        rw [List.any_eq_false] at h3
        have := h3 d hd
        simp only [Bool.not_eq_true, Bool.not_eq_false'] at this
        exact (h.is d).1 this
theorem WInv.pass {E : List (List Nat)} {n : Nat} {s : WSt} (h : WInv E n s) : ∀ m, m ≤ n → WInv E n ((List.range m).foldl (wStep E) s)
  | 0, _ => h
  | m + 1, hm => by
    rw [List.range_succ, List.foldl_append]
    exact (WInv.pass h m (by omega)).step (by omega)
theorem wStep_len {E : List (List Nat)} {s : WSt} {i : Nat} : s.2.length ≤ (wStep E s i).2.length ∧ ((wStep E s i).2.length = s.2.length → wStep E s i = s) := by
  unfold wStep
  split
  · exact ⟨Nat.le_refl _, fun _ => rfl⟩
  · simp only [List.length_append, List.length_singleton]
    exact ⟨by omega, fun h => by omega⟩
theorem wFold_len {E : List (List Nat)} : ∀ (L : List Nat) (s : WSt), s.2.length ≤ (L.foldl (wStep E) s).2.length ∧ ((L.foldl (wStep E) s).2.length = s.2.length → L.foldl (wStep E) s = s)
  | [], s => ⟨Nat.le_refl _, fun _ => rfl⟩
  | i :: L, s => by
    rw [List.foldl_cons]
    obtain ⟨h1, h2⟩ := wStep_len (E := E) (s := s) (i := i)
    obtain ⟨h3, h4⟩ := wFold_len (E := E) L (wStep E s i)
    refine ⟨by omega, fun h => ?_⟩
    rw [h4 (by omega)]
    exact h2 (by omega)
theorem wGo_inv {E : List (List Nat)} {n : Nat} : ∀ (m : Nat) (s : WSt), WInv E n s → WInv E n (wGo E n m s)
  | 0, s, h => h
  | m + 1, s, h => by
    rw [wGo]
    split
    · exact h
    · exact wGo_inv m _ (h.pass n (Nat.le_refl _))
theorem WInv.le {E : List (List Nat)} {n : Nat} {s : WSt} (h : WInv E n s) : s.2.length ≤ n := nd_bound n s.2 h.nd h.lt
/-- Enough passes are enough. -/
theorem wGo_fuel {E : List (List Nat)} {n : Nat} : ∀ (m m' : Nat) (s : WSt), WInv E n s → n + 1 ≤ m + s.2.length → n + 1 ≤ m' + s.2.length → wGo E n m s = wGo E n m' s
  | 0, _, s, h, h1, _ => by have := h.le; omega
  | m + 1, 0, s, h, _, h1 => by have := h.le; omega
  | m + 1, m' + 1, s, h, h1, h2 => by
    rw [wGo, wGo]
    split
    · rfl
    · rename_i hc
      have := (wFold_len (E := E) (List.range n) s).1
      have : s.2.length + 1 ≤ (wPass E n s).2.length := by unfold wPass at hc ⊢; omega
      exact wGo_fuel m m' _ (h.pass n (Nat.le_refl _)) (by omega) (by omega)
def wFin (E : List (List Nat)) (n : Nat) (s : WSt) : WSt := wGo E n (n + 1) s
theorem wFin_stop {E : List (List Nat)} {n : Nat} {s : WSt} (h : (wPass E n s).2.length = s.2.length) : wFin E n s = s := by rw [wFin, wGo, if_pos h]
theorem wFin_go {E : List (List Nat)} {n : Nat} {s : WSt} (hI : WInv E n s) (h : (wPass E n s).2.length ≠ s.2.length) : wFin E n s = wFin E n (wPass E n s) := by
  rw [wFin, wGo, if_neg h]
  have := (wFold_len (E := E) (List.range n) s).1
  have h2 : s.2.length + 1 ≤ (wPass E n s).2.length := by unfold wPass at h ⊢; omega
  exact wGo_fuel n (n + 1) _ (hI.pass n (Nat.le_refl _)) (by omega) (by omega)
/-! ### The units from each on -/
def cMax (S : List Int) (i : Nat) (row : List Nat) : List Int := row.foldl (fun S k => S.set k (max (S.getD k 0) (S.getD i 0))) S
def cStep (E : List (List Nat)) (wk : Nat → Int) (S : List Int) (i : Nat) : List Int := cMax (S.set i (S.getD i 0 + wk i)) i (E.getD i [])
def critV (l : List Work) : List Int := (ordWV l).reverse.foldl (cStep (aftE l) (wkW l)) (List.replicate l.length 0)
def ckWorks (l : List Work) : Int := if (200 : Int) < l.length then 2 else if firstErr (wkErr l) 0 l.length ≠ 0 then firstErr (wkErr l) 0 l.length else if aftOk l = true then (if (ordWV l).length = l.length then 0 else 17) else 9
end Go.Proofs.YtbnmclcoekehbaaDoor
