/-
  Spans: the plain law of what is missing beside some.
-/
import Derived.Test.YteoojplgchlhcaaEngQ
namespace Go.Proofs.Yteoojplgchlhcaa
open Go.RowKit
set_option linter.unusedVariables false
set_option linter.unusedSimpArgs false

abbrev Span := Int × Int
def inS (l : List Span) (i : Int) : Prop := ∃ s ∈ l, s.1 ≤ i ∧ i < s.2
/-- In order, none empty, none that touch. -/
def Norm : List Span → Prop
  | [] => True
  | [s] => s.1 < s.2
  | s :: t :: r => s.1 < s.2 ∧ s.2 < t.1 ∧ Norm (t :: r)
theorem Norm.head {s : Span} {r : List Span} (h : Norm (s :: r)) : s.1 < s.2 := by
  cases r with
  | nil => exact h
  | cons t r => exact h.1
theorem Norm.tail {s : Span} {r : List Span} (h : Norm (s :: r)) : Norm r := by
  cases r with
  | nil => trivial
  | cons t r => exact h.2.2
theorem Norm.after {s : Span} {r : List Span} (h : Norm (s :: r)) : ∀ t ∈ r, s.2 < t.1 := by
  induction r generalizing s with
  | nil => intro t ht; cases ht
  | cons u r ih =>
    intro t ht
    rcases List.mem_cons.1 ht with rfl | ht
    · exact h.2.1
    · have h1 := h.2.1
      have h2 := h.2.2.head
      have := ih h.2.2 t ht
      omega
theorem norm_uniq : ∀ {l1 l2 : List Span}, Norm l1 → Norm l2 → (∀ i, inS l1 i ↔ inS l2 i) → l1 = l2 := by
  intro l1
  induction l1 with
  | nil =>
    intro l2 _ h2 h
    cases l2 with
    | nil => rfl
    | cons t r =>
      obtain ⟨s, hs, _⟩ := (h t.1).2 ⟨t, by simp, by omega, h2.head⟩
      cases hs
  | cons s r ih =>
    intro l2 h1 h2 h
    cases l2 with
    | nil =>
      obtain ⟨t, ht, _⟩ := (h s.1).1 ⟨s, by simp, by omega, h1.head⟩
      cases ht
    | cons t q =>
      have a1 := h1.head
      have a2 := h2.head
      have b1 := h1.after
      have b2 := h2.after
      have e1 : s.1 = t.1 := by
        obtain ⟨x, hx, x1, x2⟩ := (h s.1).1 ⟨s, by simp, by omega, a1⟩
        obtain ⟨y, hy, y1, y2⟩ := (h t.1).2 ⟨t, by simp, by omega, a2⟩
        have c1 : t.1 ≤ s.1 := by
          rcases List.mem_cons.1 hx with rfl | hx
          · exact x1
          · have := b2 x hx; omega
        have c2 : s.1 ≤ t.1 := by
          rcases List.mem_cons.1 hy with rfl | hy
          · exact y1
          · have := b1 y hy; omega
        omega
      have e2 : s.2 = t.2 := by
        rcases Int.lt_trichotomy s.2 t.2 with hlt | he | hlt
        · obtain ⟨y, hy, y1, y2⟩ := (h s.2).2 ⟨t, by simp, by omega, hlt⟩
          rcases List.mem_cons.1 hy with rfl | hy
          · omega
          · have := b1 y hy; omega
        · exact he
        · obtain ⟨y, hy, y1, y2⟩ := (h t.2).1 ⟨s, by simp, by omega, hlt⟩
          rcases List.mem_cons.1 hy with rfl | hy
          · omega
          · have := b2 y hy; omega
      have e : s = t := Prod.ext e1 e2
      subst e
      congr 1
      refine ih h1.tail h2.tail fun i => ?_
      constructor
      · rintro ⟨x, hx, x1, x2⟩
        obtain ⟨y, hy, y1, y2⟩ := (h i).1 ⟨x, by simp [hx], x1, x2⟩
        rcases List.mem_cons.1 hy with rfl | hy
        · have := b1 x hx; omega
        · exact ⟨y, hy, y1, y2⟩
      · rintro ⟨x, hx, x1, x2⟩
        obtain ⟨y, hy, y1, y2⟩ := (h i).2 ⟨x, by simp [hx], x1, x2⟩
        rcases List.mem_cons.1 hy with rfl | hy
        · have := b2 x hx; omega
        · exact ⟨y, hy, y1, y2⟩

theorem Norm.snoc {l : List Span} {x : Span} (h : Norm l) (hx : x.1 < x.2) (hl : ∀ s ∈ l, s.2 < x.1) : Norm (l ++ [x]) := by
  induction l with
  | nil => exact hx
  | cons s r ih =>
    cases r with
    | nil => exact ⟨h, hl s (by simp), hx⟩
    | cons t r => exact ⟨h.1, h.2.1, ih h.2.2 fun s hs => hl s (by simp [hs])⟩
theorem Norm.left {l : List Span} {x : Span} (h : Norm (l ++ [x])) : Norm l ∧ x.1 < x.2 ∧ ∀ s ∈ l, s.2 < x.1 := by
  induction l with
  | nil => exact ⟨trivial, h, fun s hs => by cases hs⟩
  | cons s r ih =>
    have ha := h.after
    cases r with
    | nil => exact ⟨h.head, h.tail, fun t ht => by simp at ht; subst ht; exact ha x (by simp)⟩
    | cons t r =>
      obtain ⟨i1, i2, i3⟩ := ih h.2.2
      refine ⟨⟨h.1, h.2.1, i1⟩, i2, fun u hu => ?_⟩
      rcases List.mem_cons.1 hu with rfl | hu
      · exact ha x (by simp)
      · exact i3 u hu
theorem inS_append {l r : List Span} {i : Int} : inS (l ++ r) i ↔ inS l i ∨ inS r i := by
  unfold inS
  constructor
  · rintro ⟨s, hs, h⟩
    rcases List.mem_append.1 hs with hs | hs
    · exact .inl ⟨s, hs, h⟩
    · exact .inr ⟨s, hs, h⟩
  · rintro (⟨s, hs, h⟩ | ⟨s, hs, h⟩)
    · exact ⟨s, by simp [hs], h⟩
    · exact ⟨s, by simp [hs], h⟩
theorem inS_one {s : Span} {i : Int} : inS [s] i ↔ s.1 ≤ i ∧ i < s.2 := by simp [inS]

/-! ### joined -/
def joinStep (acc : List Span) (x : Span) : List Span :=
  match acc.getLast? with
  | none => acc ++ [x]
  | some y => if x.1 ≤ y.2 then acc.dropLast ++ [(y.1, max y.2 x.2)] else acc ++ [x]
def joined (l : List Span) : List Span := l.foldl joinStep []
theorem joinStep_nil {x : Span} : joinStep [] x = [x] := rfl
theorem joinStep_in {acc : List Span} {y x : Span} (h : x.1 ≤ y.2) : joinStep (acc ++ [y]) x = acc ++ [(y.1, max y.2 x.2)] := by simp [joinStep, h]
theorem joinStep_out {acc : List Span} {y x : Span} (h : ¬ x.1 ≤ y.2) : joinStep (acc ++ [y]) x = acc ++ [y] ++ [x] := by simp [joinStep, h]
/-- Sorted by their beginnings, none empty. -/
def Rising (a : Int) : List Span → Prop
  | [] => True
  | s :: r => a ≤ s.1 ∧ s.1 < s.2 ∧ Rising s.1 r
theorem joined_go : ∀ (l acc : List Span) (a : Int), Rising a l → Norm acc → (∀ s ∈ acc, s.1 ≤ a) → Norm (l.foldl joinStep acc) ∧ ∀ i, inS (l.foldl joinStep acc) i ↔ inS acc i ∨ inS l i := by
  intro l
  induction l with
  | nil => intro acc a _ h _; exact ⟨h, fun i => by simp [inS]⟩
  | cons x r ih =>
    intro acc a hr hn ha
    obtain ⟨r1, r2, r3⟩ := hr
    have key : Norm (joinStep acc x) ∧ (∀ s ∈ joinStep acc x, s.1 ≤ x.1) ∧ ∀ i, inS (joinStep acc x) i ↔ inS acc i ∨ (x.1 ≤ i ∧ i < x.2) := by
      rcases List.eq_nil_or_concat acc with rfl | ⟨p, y, rfl⟩
      · rw [joinStep_nil]
        exact ⟨r2, by simp, fun i => by simp [inS]⟩
      · rw [List.concat_eq_append] at hn ha ⊢
        obtain ⟨n1, n2, n3⟩ := hn.left
        have hy := ha y (by simp)
        by_cases hx : x.1 ≤ y.2
        · rw [joinStep_in hx]
          refine ⟨n1.snoc (by simp only; omega) n3, fun s hs => ?_, fun i => ?_⟩
          · rcases List.mem_append.1 hs with hs | hs
            · have := ha s (by simp [hs]); omega
            · simp at hs; subst hs; simp only; omega
          · rw [inS_append, inS_append, inS_one, inS_one]
            simp only
            constructor
            · rintro (h | h)
              · exact .inl (.inl h)
              · by_cases hi : i < y.2
                · exact .inl (.inr ⟨h.1, hi⟩)
                · exact .inr (by omega)
            · rintro ((h | h) | h)
              · exact .inl h
              · exact .inr (by omega)
              · exact .inr (by omega)
        · rw [joinStep_out hx]
          refine ⟨hn.snoc r2 fun s hs => ?_, fun s hs => ?_, fun i => by rw [inS_append, inS_one]⟩
          · rcases List.mem_append.1 hs with hs | hs
            · have := n3 s hs; omega
            · simp at hs; subst hs; omega
          · rcases List.mem_append.1 hs with hs | hs
            · have := ha s hs; omega
            · simp at hs; subst hs; omega
    obtain ⟨k1, k2, k3⟩ := key
    obtain ⟨i1, i2⟩ := ih (joinStep acc x) x.1 r3 k1 k2
    refine ⟨i1, fun i => ?_⟩
    rw [List.foldl_cons, i2 i, k3 i]
    have : inS (x :: r) i ↔ (x.1 ≤ i ∧ i < x.2) ∨ inS r i := by
      rw [show x :: r = [x] ++ r from rfl, inS_append, inS_one]
    rw [this, or_assoc]

/-! ### the program's loop -/
def cov (l : List Span) (i : Int) : Prop := inS l i
def rangesGo (size : Int) : List Span → Int → List Span → List Span
  | [], _, out => out
  | x :: r, at_, out =>
    let out' := if x.1 > at_ then out ++ [(at_, x.1)] else out
    if x.2 > x.1 then rangesGo size r (max at_ x.2) out' else if x.1 = size then out' else rangesGo size r at_ out'
/-- Beginnings in order. -/
def Ordered (a : Int) : List Span → Prop
  | [] => True
  | s :: r => a ≤ s.1 ∧ s.1 ≤ s.2 ∧ Ordered s.1 r
theorem rising_snoc {a : Int} {l : List Span} {x : Span} (h : Rising a l) (hx : x.1 < x.2) (h1 : a ≤ x.1) (h2 : ∀ s ∈ l, s.1 ≤ x.1) : Rising a (l ++ [x]) := by
  induction l generalizing a with
  | nil => exact ⟨h1, hx, trivial⟩
  | cons s r ih => exact ⟨h.1, h.2.1, ih h.2.2 (h2 s (by simp)) fun t ht => h2 t (by simp [ht])⟩
/-- What stands when the elements of p have been taken: the last beginning is F, the greatest end is at_. -/
structure RInv (p : List Span) (F at_ : Int) (out : List Span) : Prop where
  f0 : 0 ≤ F
  a0 : 0 ≤ at_
  rise : Rising 0 out
  low : ∀ s ∈ out, s.1 ≤ at_
  ends : ∀ y ∈ p, y.1 < y.2 → y.2 ≤ at_
  begins : ∀ y ∈ p, y.1 ≤ F
  top : at_ = 0 ∨ ∃ y ∈ p, y.1 < y.2 ∧ y.2 = at_
  gaps : ∀ i, inS out i ↔ 0 ≤ i ∧ i < F ∧ ¬ inS p i
theorem RInv.start : RInv [] 0 0 [] := ⟨by omega, by omega, trivial, by simp, by simp, by simp, .inl rfl, fun i => by simp [inS] <;> omega⟩
theorem RInv.step {p : List Span} {F at_ : Int} {out : List Span} {x : Span} (h : RInv p F at_ out) (h1 : F ≤ x.1) (h2 : x.1 ≤ x.2) :
    RInv (p ++ [x]) x.1 (max at_ (if x.2 > x.1 then x.2 else 0)) (if x.1 > at_ then out ++ [(at_, x.1)] else out) := by
  have ha := h.a0
  have hf := h.f0
  refine ⟨by omega, by omega, ?_, ?_, ?_, ?_, ?_, ?_⟩
  · split
    · exact rising_snoc h.rise (by assumption) ha h.low
    · exact h.rise
  · intro s hs
    split at hs
    · rcases List.mem_append.1 hs with hs | hs
      · have := h.low s hs; omega
      · simp at hs; subst hs; simp only; omega
    · have := h.low s hs; omega
  · intro y hy hlt
    rcases List.mem_append.1 hy with hy | hy
    · have := h.ends y hy hlt; omega
    · simp at hy; subst hy; rw [if_pos (by omega)]; omega
  · intro y hy
    rcases List.mem_append.1 hy with hy | hy
    · have := h.begins y hy; omega
    · simp at hy; subst hy; omega
  · by_cases hx : x.2 > x.1
    · rw [if_pos hx]
      by_cases hm : at_ ≤ x.2
      · exact .inr ⟨x, by simp, by omega, by omega⟩
      · rcases h.top with h0 | ⟨y, hy, y1, y2⟩
        · omega
        · exact .inr ⟨y, by simp [hy], y1, by omega⟩
    · rw [if_neg hx]
      rcases h.top with h0 | ⟨y, hy, y1, y2⟩
      · exact .inl (by omega)
      · exact .inr ⟨y, by simp [hy], y1, by omega⟩
  · intro i
    have hg := h.gaps i
    have hp : inS (p ++ [x]) i ↔ inS p i ∨ (x.1 ≤ i ∧ i < x.2) := by rw [inS_append, inS_one]
    have hend : ¬ inS p i ∨ i < at_ := by
      by_cases hi : inS p i
      · obtain ⟨y, hy, y1, y2⟩ := hi
        have := h.ends y hy (by omega)
        exact .inr (by omega)
      · exact .inl hi
    have hin : F ≤ i → 0 ≤ i → i < at_ → inS p i := by
      intro a b c
      rcases h.top with h0 | ⟨y, hy, y1, y2⟩
      · omega
      · exact ⟨y, hy, by have := h.begins y hy; omega, by omega⟩
    rw [hp]
    split
    · rw [inS_append, inS_one, hg]
      simp only
      constructor
      · rintro (⟨a, b, c⟩ | ⟨a, b⟩)
        · exact ⟨a, by omega, by rintro (d | d); exact c d; omega⟩
        · refine ⟨by omega, b, ?_⟩
          rintro (d | d)
          · rcases hend with e | e
            · exact e d
            · omega
          · omega
      · rintro ⟨a, b, c⟩
        by_cases hif : i < F
        · exact .inl ⟨a, hif, fun d => c (.inl d)⟩
        · refine .inr ⟨?_, b⟩
          rcases Int.lt_or_le i at_ with hl | hl
          · exact absurd (.inl (hin (by omega) a hl)) c
          · exact hl
    · rw [hg]
      constructor
      · rintro ⟨a, b, c⟩
        exact ⟨a, by omega, by rintro (d | d); exact c d; omega⟩
      · rintro ⟨a, b, c⟩
        refine ⟨a, ?_, fun d => c (.inl d)⟩
        rcases Int.lt_or_le i F with hl | hl
        · exact hl
        · exact absurd (.inl (hin hl a (by omega))) c
theorem rangesGo_inv (size : Int) (hs : 0 ≤ size) : ∀ (l p : List Span) (F at_ : Int) (out : List Span), RInv p F at_ out → Ordered F (l ++ [(size, size)]) → (∀ x ∈ l, x.2 ≤ size) →
    Rising 0 (rangesGo size (l ++ [(size, size)]) at_ out) ∧ ∀ i, inS (rangesGo size (l ++ [(size, size)]) at_ out) i ↔ 0 ≤ i ∧ i < size ∧ ¬ inS (p ++ l) i := by
  intro l
  induction l with
  | nil =>
    intro p F at_ out h ho _
    have hst := h.step ho.1 ho.2.1
    have e : rangesGo size ([] ++ [(size, size)]) at_ out = if size > at_ then out ++ [(at_, size)] else out := by
      simp [rangesGo]
    rw [e]
    refine ⟨hst.rise, fun i => ?_⟩
    have := hst.gaps i
    simp only at this
    rw [this, List.append_nil, inS_append, inS_one]
    constructor
    · rintro ⟨a, b, c⟩; exact ⟨a, b, fun d => c (.inl d)⟩
    · rintro ⟨a, b, c⟩
      refine ⟨a, b, ?_⟩
      rintro (d | d)
      · exact c d
      · simp only at d; omega
  | cons x r ih =>
    intro p F at_ out h ho hb
    obtain ⟨o1, o2, o3⟩ := ho
    have hst := h.step o1 o2
    have hbx := hb x (by simp)
    rw [List.cons_append, rangesGo]
    by_cases hx : x.2 > x.1
    · simp only [if_pos hx] at hst ⊢
      have := ih (p ++ [x]) x.1 (max at_ x.2) _ hst o3 fun y hy => hb y (by simp [hy])
      simpa using this
    · simp only [if_neg hx] at hst ⊢
      have ha := h.a0
      rw [show max at_ 0 = at_ by omega] at hst
      by_cases hsz : x.1 = size
      · simp only [if_pos hsz]
        refine ⟨hst.rise, fun i => ?_⟩
        rw [hst.gaps i, hsz]
        -- what is left is empty and at the end
        have left : ∀ (r : List Span), Ordered x.1 (r ++ [(size, size)]) → (∀ y ∈ r, y.2 ≤ size) → ∀ i, i < size → ¬ inS r i := by
          intro r hr hb i hi
          induction r with
          | nil => simp [inS]
          | cons y r ih2 =>
            obtain ⟨q1, q2, q3⟩ := hr
            have hy := hb y (by simp)
            rintro ⟨z, hz, z1, z2⟩
            rcases List.mem_cons.1 hz with rfl | hz
            · omega
            · have e : y.1 = x.1 := by omega
              rw [e] at q3
              exact ih2 q3 (fun u hu => hb u (by simp [hu])) ⟨z, hz, z1, z2⟩
        have hl := left r o3 (fun y hy => hb y (by simp [hy])) i
        have e1 : inS (p ++ x :: r) i ↔ inS (p ++ [x]) i ∨ inS r i := by
          rw [show p ++ x :: r = (p ++ [x]) ++ r by simp, inS_append]
        rw [e1]
        constructor
        · rintro ⟨a, b, c⟩; exact ⟨a, b, by rintro (d | d); exact c d; exact hl b d⟩
        · rintro ⟨a, b, c⟩; exact ⟨a, b, fun d => c (.inl d)⟩
      · simp only [if_neg hsz]
        have := ih (p ++ [x]) x.1 at_ _ hst o3 fun y hy => hb y (by simp [hy])
        simpa using this

/-! ### the reference's loop -/
/-- The runs of the numbers below n that are not had. -/
def runs (has : Nat → Bool) : Nat → List Span
  | 0 => []
  | n + 1 => if has n then runs has n else
    match (runs has n).getLast? with
    | none => runs has n ++ [((n : Int), (n : Int) + 1)]
    | some y => if y.2 = n then (runs has n).dropLast ++ [(y.1, (n : Int) + 1)] else runs has n ++ [((n : Int), (n : Int) + 1)]
theorem runs_spec (has : Nat → Bool) : ∀ n, Norm (runs has n) ∧ (∀ s ∈ runs has n, s.2 ≤ n) ∧ ∀ i, inS (runs has n) i ↔ ∃ k : Nat, i = k ∧ k < n ∧ has k = false := by
  intro n
  induction n with
  | zero => exact ⟨trivial, by simp [runs], fun i => by simp [runs, inS]⟩
  | succ n ih =>
    obtain ⟨i1, i2, i3⟩ := ih
    rw [runs]
    cases hn : has n
    · rw [if_neg (by simp)]
      rcases List.eq_nil_or_concat (runs has n) with e | ⟨p, y, e⟩
      · rw [e] at i3 ⊢
        refine ⟨by show (n : Int) < n + 1; omega, by simp, fun i => ?_⟩
        have := i3 i
        simp only [List.getLast?_nil, List.nil_append]
        rw [inS_one]
        simp only
        constructor
        · intro h; exact ⟨n, by omega, by omega, hn⟩
        · rintro ⟨k, rfl, hk, hh⟩
          have := (i3 k).2
          by_cases hkn : k < n
          · obtain ⟨s, hs, _⟩ := this ⟨k, rfl, hkn, hh⟩; cases hs
          · omega
      · rw [List.concat_eq_append] at e
        rw [e] at i1 i2 i3 ⊢
        simp only [List.getLast?_append, List.getLast?_singleton, Option.some_or]
        obtain ⟨n1, n2, n3⟩ := i1.left
        have hy := i2 y (by simp)
        have iff : ∀ i, (inS p i ∨ (y.1 ≤ i ∧ i < y.2)) ∨ ((n : Int) ≤ i ∧ i < n + 1) ↔ ∃ k : Nat, i = k ∧ k < n + 1 ∧ has k = false := by
          intro i
          have := i3 i
          rw [inS_append, inS_one] at this
          rw [this]
          constructor
          · rintro (⟨k, h1, h2, h3⟩ | h)
            · exact ⟨k, h1, by omega, h3⟩
            · exact ⟨n, by omega, by omega, hn⟩
          · rintro ⟨k, h1, h2, h3⟩
            by_cases hk : k < n
            · exact .inl ⟨k, h1, hk, h3⟩
            · exact .inr (by omega)
        by_cases hyn : y.2 = n
        · rw [if_pos hyn, List.dropLast_concat]
          refine ⟨n1.snoc (by simp only; omega) n3, fun s hs => ?_, fun i => ?_⟩
          · rcases List.mem_append.1 hs with hs | hs
            · have := i2 s (by simp [hs]); push_cast; omega
            · simp at hs; subst hs; push_cast; omega
          · rw [← iff i, inS_append, inS_one]
            simp only
            constructor
            · rintro (h | h)
              · exact .inl (.inl h)
              · by_cases hi : i < y.2
                · exact .inl (.inr ⟨h.1, hi⟩)
                · exact .inr (by omega)
            · rintro ((h | h) | h)
              · exact .inl h
              · exact .inr (by omega)
              · exact .inr (by omega)
        · rw [if_neg hyn]
          refine ⟨i1.snoc (by simp only; omega) fun s hs => ?_, fun s hs => ?_, fun i => ?_⟩
          · rcases List.mem_append.1 hs with hs | hs
            · have := n3 s hs; simp only; omega
            · simp at hs; subst hs; simp only; omega
          · rcases List.mem_append.1 hs with hs | hs
            · have := i2 s hs; push_cast; omega
            · simp at hs; subst hs; push_cast; omega
          · rw [← iff i, inS_append, inS_append, inS_one, inS_one]
    · rw [if_pos rfl]
      refine ⟨i1, fun s hs => by have := i2 s hs; push_cast; omega, fun i => ?_⟩
      rw [i3 i]
      constructor
      · rintro ⟨k, h1, h2, h3⟩; exact ⟨k, h1, by omega, h3⟩
      · rintro ⟨k, h1, h2, h3⟩
        refine ⟨k, h1, ?_, h3⟩
        rcases Nat.lt_or_ge k n with h | h
        · exact h
        · have : k = n := by omega
          subst this
          rw [hn] at h3; cases h3
end Go.Proofs.Yteoojplgchlhcaa
