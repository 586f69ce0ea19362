/-
  What a value stands for, said with the blocks it hangs on (Held); slices of the call's own whose elements hang on other blocks (ownS); append onto them. No statement of the seat is proved here; no conditions.
-/
import Derived.Test.YteoojplgchlhcaaCommon
import Derived.Deep.AppendLies
namespace Go.Proofs.Yteoojplgchlhcaa
open Go.RowKit
set_option linter.unusedVariables false
set_option linter.unusedSimpArgs false

/-- x stands there, and hangs on the blocks of S alone. -/
def Held {α : Type} (R : Rep α) (S : Nat → Prop) (w : World) (B : Nat) (x : α) (cs : List Value) : Prop :=
  ∀ w' : World, Below 0 w w' → (∀ b, S b → w'.heap[b]? = w.heap[b]?) → R w' B x cs

/-- What hangs on no block. -/
class PureR {α : Type} (R : Rep α) : Prop where
  any : ∀ (w w' : World) (B B' : Nat) (x : α) (cs : List Value), R w B x cs → R w' B' x cs
instance {k : IntKind} : PureR (rI k) := ⟨fun _ _ _ _ _ _ h => h⟩
instance : PureR rByte := ⟨fun _ _ _ _ _ _ h => h⟩
instance : PureR rBool := ⟨fun _ _ _ _ _ _ h => h⟩
instance : PureR rStr := ⟨fun _ _ _ _ _ _ h => h⟩
instance {α β : Type} {R : Rep α} {S : Rep β} [PureR R] [PureR S] : PureR (rPair R S) :=
  ⟨fun w w' B B' _ _ ⟨c1, c2, e, h1, h2⟩ => ⟨c1, c2, e, PureR.any w w' B B' _ _ h1, PureR.any w w' B B' _ _ h2⟩⟩

section
variable {α β : Type} {R : Rep α} {R2 : Rep β} {S S' : Nat → Prop} {w w' : World} {B B' : Nat} {x : α} {y : β} {cs cs2 : List Value}
theorem Held.here (h : Held R S w B x cs) : R w B x cs := h w (Below.refl _ _) fun _ _ => rfl
theorem Held.mono (h : Held R S w B x cs) (hS : ∀ b, S b → S' b) : Held R S' w B x cs := fun w' h0 h1 => h w' h0 fun b hb => h1 b (hS b hb)
theorem Held.move (h : Held R S w B x cs) (h0 : Below 0 w w') (hw : ∀ b, S b → w'.heap[b]? = w.heap[b]?) : Held R S w' B x cs :=
  fun w2 h2 h3 => h w2 (h0.trans h2) fun b hb => (h3 b hb).trans (hw b hb)
theorem Held.up [Stable R] (h : Held R S w B x cs) (hB : B ≤ B') : Held R S w B' x cs := fun w' h0 h1 => Stable.keep w' w' B B' x cs (Below.refl _ _) hB (h w' h0 h1)
theorem Held.of_stable [Stable R] (h : R w B x cs) : Held R (· < B) w B x cs :=
  fun w' h0 h1 => Stable.keep w w' B B x cs ⟨h0.os, h0.tape, h0.output, h0.size, h1⟩ (Nat.le_refl _) h
theorem Held.of_pure [PureR R] (h : R w B x cs) : Held R S w' B' x cs := fun w2 _ _ => PureR.any w w2 B B' x cs h
theorem Held.pair (h : Held R S w B x cs) (h2 : Held R2 S w B y cs2) : Held (rPair R R2) S w B (x, y) (cs ++ cs2) :=
  fun w' h0 h1 => ⟨cs, cs2, rfl, h w' h0 h1, h2 w' h0 h1⟩
theorem Below.zero (h : Below B w w') : Below 0 w w' := h.mono (Nat.zero_le _)
theorem grown_zero {row : Option Nat} (h : w.grownBy w' row) : Below 0 w w' := ⟨h.os, h.tape, h.output, h.size, fun k hk => absurd hk (by omega)⟩
end

/-- v is a slice of the call's own, from block base on; its elements hang on blocks of T, and on none that is its own. -/
def ownS {α : Type} (e : TypeId) (sz : Nat) (R : Rep α) (T : Nat → Prop) (w : World) (base : Nat) (l : List α) (v : Value) : Prop :=
  ∃ xs, w.ownsRow base e sz v l.length xs ∧ ∀ (k : Nat) (x : α), l[k]? = some x → ∃ vs : List Value, vs.length = sz ∧ Held R (fun b => T b ∧ b < w.heap.size ∧ v.ownBlock ≠ some b) w w.heap.size x vs ∧ ∀ (j : Nat) (u : Value), vs[j]? = some u → xs[k * sz + j]? = some u

section
variable {α : Type} {R : Rep α} {T T' : Nat → Prop} {w w' : World} {base base' B sz bts n c : Nat} {e : TypeId} {A : Option Addr} {l l2 : List α} {v : Value}
theorem ownS.nil_ : ownS e sz R T w base [] (.slice none 0 0) := ⟨[], World.ownsRow_nil _ _ _ _, fun k x h => by simp at h⟩
theorem ownS.form (h : ownS e sz R T w base l v) : ∃ A c, v = .slice A l.length c := by
  obtain ⟨xs, h1, _⟩ := h
  exact own_slice h1
theorem ownS.len {A : Option Addr} (h : ownS e sz R T w base l (.slice A n c)) : l.length = n := by
  obtain ⟨A', c', h1⟩ := h.form
  injection h1 with _ h1 _
  exact h1.symm
theorem ownS.cap (h : ownS e sz R T w base l (.slice A n c)) : n ≤ c ∧ c ≤ 9223372036854775807 := by
  have hl := h.len
  obtain ⟨xs, ⟨_, h2⟩, _⟩ := h
  rcases h2 with ⟨h2, h3⟩ | ⟨g, cap, cur, h2, _, _, h3, h4, _⟩
  · injection h2 with _ h2 h3; omega
  · injection h2 with _ h2 h3
    unfold maxLen at h4
    omega
theorem ownS.block (h : ownS e sz R T w base l v) : ∀ g, v.ownBlock = some g → base ≤ g ∧ g < w.heap.size := by
  obtain ⟨xs, h1, _⟩ := h
  exact h1.lt
theorem ownS.mono (h : ownS e sz R T w base l v) (hb : base' ≤ base) : ownS e sz R T w base' l v := by
  obtain ⟨xs, ⟨h1, h2⟩, h3⟩ := h
  refine ⟨xs, ⟨h1, ?_⟩, h3⟩
  rcases h2 with h2 | ⟨g, cap, cur, hv, hg, r⟩
  · exact .inl h2
  · exact .inr ⟨g, cap, cur, hv, by omega, r⟩
theorem ownS.sub (h : ownS e sz R T w base l v) (hT : ∀ b, T b → T' b) : ownS e sz R T' w base l v := by
  obtain ⟨xs, h1, h2⟩ := h
  refine ⟨xs, h1, fun k x hk => ?_⟩
  obtain ⟨vs, a1, a2, a3⟩ := h2 k x hk
  exact ⟨vs, a1, a2.mono fun b hb => ⟨hT b hb.1, hb.2⟩, a3⟩
/-- Memory has changed, but not where it hangs. -/
theorem ownS.move [Stable R] (h : ownS e sz R T w base l v) (h0 : Below 0 w w') (hw : ∀ b, b < w.heap.size → (T b ∨ v.ownBlock = some b) → w'.heap[b]? = w.heap[b]?) : ownS e sz R T w' base l v := by
  obtain ⟨xs, ⟨a1, a2⟩, h2⟩ := h
  refine ⟨xs, ⟨a1, ?_⟩, fun k x hk => ?_⟩
  · rcases a2 with a2 | ⟨g, cap, cur, hv, hg, hh, r⟩
    · exact .inl a2
    · refine .inr ⟨g, cap, cur, hv, hg, ?_, r⟩
      have hlt : g < w.heap.size := (Array.getElem?_eq_some_iff.1 hh).1
      rw [hw g hlt (.inr (by rw [hv]; rfl))]; exact hh
  · obtain ⟨vs, h3, h4, h5⟩ := h2 k x hk
    exact ⟨vs, h3, ((h4.move h0 fun b hb => hw b hb.2.1 (.inl hb.1)).mono fun b hb => ⟨hb.1, Nat.lt_of_lt_of_le hb.2.1 h0.size, hb.2.2⟩).up h0.size, h5⟩
theorem ownS.keep [Stable R] (h : ownS e sz R T w base l v) (hb : Below w.heap.size w w') : ownS e sz R T w' base l v := h.move (Below.zero hb) fun b h1 _ => hb.block b h1
/-- As a slice that is read. -/
theorem ownS.toHeld (h : ownS e sz R T w base l v) (hb : l.length * bts ≤ 140737488355328) : Held (rSl sz bts R) (fun b => b < w.heap.size ∧ (T b ∨ base ≤ b)) w w.heap.size l [v] := by
  intro w' h0 hw
  obtain ⟨xs, ⟨h1, h2⟩, h3⟩ := h
  rcases h2 with ⟨rfl, h0'⟩ | ⟨g, cap, cur, rfl, hg, hh, hnc, hcm, hcs, hcur⟩
  · obtain rfl : l = [] := List.eq_nil_of_length_eq_zero h0'
    exact rSl.nil_
  · have hlt : g < w.heap.size := (Array.getElem?_eq_some_iff.1 hh).1
    have hh' : w'.heap[g]? = some (.cells cur e (0, 0)) := (hw g ⟨hlt, .inr hg⟩).trans hh
    refine ⟨some ⟨g, 0, none⟩, cap, rfl, hnc, hcm, hb, fun h0 => ⟨g, 0, rfl, hlt, fun k x hk => ?_⟩⟩
    obtain ⟨vs, a1, a2, a3⟩ := h3 k x hk
    refine ⟨vs, a1, a2 w' ‹_› (fun b hb => hw b ⟨hb.2.1, .inl hb.1⟩), fun j u hj => ?_⟩
    have hj' : j < sz := by have := (List.getElem?_eq_some_iff.1 hj).1; omega
    have hk' : k < l.length := (List.getElem?_eq_some_iff.1 hk).1
    have hlt2 : k * sz + j < l.length * sz := by
      have : (k + 1) * sz ≤ l.length * sz := Nat.mul_le_mul_right _ (by omega)
      rw [Nat.succ_mul] at this; omega
    have e1 := a3 j u hj
    rw [← hcur, List.getElem?_take_of_lt hlt2] at e1
    rw [cell_of_row w' g _ cur e (0, 0) hh', ← e1, Array.getElem?_toList, Nat.zero_add]
theorem ownS.toSl (h : ownS e sz R T w base l v) (hb : l.length * bts ≤ 140737488355328) : rSl sz bts R w w.heap.size l [v] := (h.toHeld hb).here
/-- A new slice with one element, its cells laid as a block. -/
theorem ownS.lit1 {x : α} {cs : Array Value} (hb : base ≤ w.heap.size) (hs : cs.size = sz) (hx : Held R (fun b => T b ∧ b < w.heap.size) w w.heap.size x cs.toList) [Stable R] : ownS e sz R T (w.alloc (.cells cs e)) base [x] (.slice (some ⟨w.heap.size, 0, none⟩) 1 1) := by
  refine ⟨cs.toList, ⟨by simp [hs], .inr ⟨w.heap.size, 1, cs, rfl, hb, heap_alloc_new w _, by simp, by decide, by simp [hs], ?_⟩⟩, fun k y h => ?_⟩
  · rw [List.take_of_length_le (by simp [hs])]
  · have hk : k = 0 := by
      have := (List.getElem?_eq_some_iff.1 h).1
      simp at this; exact this
    subst hk
    simp at h
    subst h
    have h0 : Below w.heap.size w (w.alloc (.cells cs e)) := (Below.refl _ _).alloc (Nat.le_refl _) _
    refine ⟨cs.toList, by simp [hs], ((hx.move (Below.zero h0) fun b hb => h0.block b hb.2).mono fun b hb => ⟨hb.1, by simp; omega, ?_⟩).up (by simp), fun j u hj => by simpa using hj⟩
    simp [Value.ownBlock]
    omega
theorem ownS.lit0 (hb : base ≤ w.heap.size) : ownS e sz R T (w.alloc (.cells #[] e)) base [] (.slice (some ⟨w.heap.size, 0, none⟩) 0 0) :=
  ⟨[], ⟨by simp, .inr ⟨w.heap.size, 0, #[], rfl, hb, heap_alloc_new w _, by simp, by decide, by simp, by simp⟩⟩, fun k x h => by simp at h⟩
/-- What the older word says. -/
theorem ownSl.toS [Stable R] (h : ownSl e sz R w base B l v) (hB : B ≤ base) (hw : B ≤ w.heap.size) : ownS e sz R (· < B) w base l v := by
  obtain ⟨xs, h1, h2⟩ := h
  refine ⟨xs, h1, fun k x hk => ?_⟩
  obtain ⟨vs, a1, a2, a3⟩ := h2 k x hk
  refine ⟨vs, a1, ((Held.of_stable a2).mono fun b hb => ⟨hb, by omega, fun e => ?_⟩).up hw, a3⟩
  have := (h1.lt b e).1
  omega
theorem ownSl.toP [PureR R] (h : ownSl e sz R w base B l v) : ownS e sz R T w base l v := by
  obtain ⟨xs, h1, h2⟩ := h
  refine ⟨xs, h1, fun k x hk => ?_⟩
  obtain ⟨vs, a1, a2, a3⟩ := h2 k x hk
  exact ⟨vs, a1, Held.of_pure a2, a3⟩
end

/-- Stores into one block. -/
theorem grown_refl {w : World} {row : Option Nat} : w.grownBy w row := ⟨rfl, rfl, rfl, Nat.le_refl _, fun _ _ _ => rfl⟩
theorem grown_set {w w' : World} {g i : Nat} {u : Value} (h : w.grownBy w' (some g)) : w.grownBy (w'.setCell ⟨g, i, none⟩ u) (some g) :=
  ⟨h.os, h.tape, h.output, by have := h.size; simpa using this, fun k hk hne => (Below.heap_setCell w' _ u k (fun e => hne (by rw [e]))).trans (h.block k hk hne)⟩
theorem ownSl.keepB {α : Type} {R : Rep α} [PureR R] {w w' : World} {base B sz : Nat} {e : TypeId} {l : List α} {v : Value} (h : ownSl e sz R w base B l v) (hw : ∀ b, base ≤ b → b < w.heap.size → w'.heap[b]? = w.heap[b]?) : ownSl e sz R w' base B l v := by
  obtain ⟨xs, ⟨a1, a2⟩, h2⟩ := h
  refine ⟨xs, ⟨a1, ?_⟩, fun k x hk => ?_⟩
  · rcases a2 with a2 | ⟨g, cap, cur, hv, hg, hh, r⟩
    · exact .inl a2
    · refine .inr ⟨g, cap, cur, hv, hg, ?_, r⟩
      rw [hw g hg (Array.getElem?_eq_some_iff.1 hh).1]; exact hh
  · obtain ⟨vs, h3, h4, h5⟩ := h2 k x hk
    exact ⟨vs, h3, PureR.any w w' B B x vs h4, h5⟩
theorem ownSl.base {α : Type} {R : Rep α} {w : World} {e : TypeId} {sz base base' B : Nat} {l : List α} {v : Value} (h : ownSl e sz R w base B l v) (hb : base' ≤ base) : ownSl e sz R w base' B l v := h.mono hb

section
variable {α : Type} {R : Rep α} {T : Nat → Prop} {P : Program} {w : World} {ops : Array Oper} {rest : List Oper} {o : Oper} {a : Act} {Q : Exit → Act → World → Prop}
theorem ownS.pushed [Stable R] {w' : World} {e : TypeId} {sz base g cap : Nat} {l : List α} {v : Value} {xs cs : List Value} {y : α} (h1 : w.ownsRow base e sz v l.length xs)
    (h2 : ∀ (k : Nat) (x : α), l[k]? = some x → ∃ vs : List Value, vs.length = sz ∧ Held R (fun b => T b ∧ b < w.heap.size ∧ v.ownBlock ≠ some b) w w.heap.size x vs ∧ ∀ (j : Nat) (u : Value), vs[j]? = some u → xs[k * sz + j]? = some u)
    (hcs : cs.length = sz) (hy : Held R (fun b => T b ∧ b < w.heap.size ∧ v.ownBlock ≠ some b) w w.heap.size y cs)
    (hown : w'.ownsRow base e sz (.slice (some ⟨g, 0, none⟩) (l.length + 1) cap) (l.length + 1) (xs ++ cs)) (hgrow : w.grownBy w' v.ownBlock) (hat : v.ownBlock = some g ∨ w.heap.size ≤ g) :
    ownS e sz R T w' base (l ++ [y]) (.slice (some ⟨g, 0, none⟩) (l.length + 1) cap) := by
  have st : ∀ (z : α) (vs : List Value), Held R (fun b => T b ∧ b < w.heap.size ∧ v.ownBlock ≠ some b) w w.heap.size z vs → Held R (fun b => T b ∧ b < w'.heap.size ∧ (Value.slice (some ⟨g, 0, none⟩) (l.length + 1) cap).ownBlock ≠ some b) w' w'.heap.size z vs := by
    intro z vs hz
    refine ((hz.move (grown_zero hgrow) fun b hb => hgrow.block b hb.2.1 (fun e => hb.2.2 e.symm)).mono fun b hb => ⟨hb.1, Nat.lt_of_lt_of_le hb.2.1 hgrow.size, ?_⟩).up hgrow.size
    simp only [Value.ownBlock, ne_eq, Option.some.injEq]
    rintro rfl
    rcases hat with h | h
    · exact hb.2.2 h
    · omega
  refine ⟨xs ++ cs, by simpa using hown, fun k z hk => ?_⟩
  by_cases hlt : k < l.length
  · rw [List.getElem?_append_left hlt] at hk
    obtain ⟨vs, a1, a2, a3⟩ := h2 k z hk
    refine ⟨vs, a1, st z vs a2, fun j u hj => ?_⟩
    have := a3 j u hj
    rw [List.getElem?_append_left (List.getElem?_eq_some_iff.1 this).1]; exact this
  · rw [List.getElem?_append_right (by omega)] at hk
    have hk0 : k - l.length = 0 := by
      have := (List.getElem?_eq_some_iff.1 hk).1
      simp at this; omega
    rw [hk0] at hk
    simp at hk
    subst hk
    refine ⟨cs, hcs, st _ _ hy, fun j u hj => ?_⟩
    have hkl : k = l.length := by omega
    subst hkl
    rw [List.getElem?_append_right (by rw [h1.1]; omega), h1.1, Nat.add_sub_cancel_left]; exact hj

/-- append(own, x): one element; its cells have just been laid as a block. -/
theorem wpList_push [Stable R] {t e : TypeId} {sz bts : Nat} (he : ElemOk P t e sz bts) (hgd : o.guard = none) (s x : Operand)
    (ho : o.op = .call { callee := .builtin .append, args := #[s, x], argTypes := #[t, t] })
    {base : Nat} {l : List α} {v : Value} (hs : a.eval s = v) (hown : ownS e sz R T w base l v)
    {cs : Array Value} {g : Nat} (hx : a.eval x = .slice (some ⟨g, 0, none⟩) 1 1) (hg : w.heap.size = g) (hcs : cs.size = sz) (h1 : ∀ u ∈ cs.toList, u.oneCell' = true) (y : α)
    (hy : Held R (fun b => T b ∧ b < w.heap.size ∧ v.ownBlock ≠ some b) w w.heap.size y cs.toList)
    (h63 : l.length + 1 ≤ maxLen) (hbytes : (l.length + 1) * bts ≤ 140737488355328) (hbase : base ≤ w.heap.size)
    (h : ∀ g cap w', ownS e sz R T w' base (l ++ [y]) (.slice (some ⟨g, 0, none⟩) (l.length + 1) cap) → w.grownBy w' v.ownBlock → w.heap.size < w'.heap.size → wpList P ops Q rest (a.put o.dst (.slice (some ⟨g, 0, none⟩) (l.length + 1) cap)) w') : wpList P ops Q (o :: rest) a (w.alloc (.cells cs e)) := by
  obtain ⟨xs, o1, o2⟩ := hown
  obtain ⟨i, z, hi, hz, hsz, hby, hzc⟩ := he.info
  subst hg
  refine wpList_append_lies _ hgd s x t ho base e i z sz bts he.under hi hz hsz hby hzc he.pos v l.length xs hs (o1.alloc _) ⟨w.heap.size, 0, none⟩ 1 1 cs.toList hx (by simp [hcs])
    (World.news_of_block (heap_alloc_new w _)) h1 (by omega) h63 hbytes (by simp; omega) (w.heap.size + 1) (by simp) ?_
  intro g cap w' q1 q2 q3 q4
  have hg2 : w.grownBy w' v.ownBlock := ⟨q2.os, q2.tape, q2.output, by have := q2.size; simp at this; omega, fun k hk hne => (q2.block k (by simp; omega) hne).trans (heap_alloc_old w _ hk)⟩
  exact h g cap w' (ownS.pushed o1 o2 (by simp [hcs]) hy q1 hg2 (q3.elim .inl fun q => .inr (by omega))) hg2 (by have := q2.size; simp at this; omega)
end
end Go.Proofs.Yteoojplgchlhcaa
