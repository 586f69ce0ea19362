/-
  Slices that the call owns, said by what they stand for (ownSl); append onto them; cuts of slices. No statement of the seat is proved here; no conditions.
-/
import Derived.Test.YteoojplgchlhcaaBase
import Derived.Maps.AppendAt
import Derived.Laws.AppendOwnNone
namespace Go.Proofs.Yteoojplgchlhcaa
open Go.RowKit
set_option linter.unusedVariables false
set_option linter.unusedSimpArgs false

/-- Each cell is one cell. -/
class OneCells {α : Type} (R : Rep α) : Prop where
  one : ∀ (w : World) (B : Nat) (x : α) (vs : List Value), R w B x vs → ∀ u ∈ vs, u.oneCell' = true
instance {k : IntKind} : OneCells (rI k) := ⟨fun _ _ _ _ ⟨h, _⟩ u hu => by subst h; simp at hu; subst hu; rfl⟩
instance : OneCells rByte := ⟨fun _ _ _ _ h u hu => by cases h; simp at hu; subst hu; rfl⟩
instance : OneCells rBool := ⟨fun _ _ _ _ h u hu => by cases h; simp at hu; subst hu; rfl⟩
instance : OneCells rStr := ⟨fun _ _ _ _ ⟨h, _⟩ u hu => by subst h; simp at hu; subst hu; rfl⟩
instance {α : Type} {sz bts : Nat} {R : Rep α} : OneCells (rSl sz bts R) := ⟨fun _ _ _ _ ⟨A, c, h, _⟩ u hu => by subst h; simp at hu; subst hu; rfl⟩
instance {α β : Type} {R : Rep α} {S : Rep β} [OneCells R] [OneCells S] : OneCells (rPair R S) := ⟨fun w B x vs ⟨c1, c2, h, h1, h2⟩ u hu => by
  subst h
  rcases List.mem_append.1 hu with hu | hu
  · exact OneCells.one w B _ _ h1 u hu
  · exact OneCells.one w B _ _ h2 u hu⟩

/-- v is a slice of the call's own, from block base on, of elements l; what they reach lies below B. -/
def ownSl {α : Type} (e : TypeId) (sz : Nat) (R : Rep α) (w : World) (base B : Nat) (l : List α) (v : Value) : Prop :=
  ∃ xs, w.ownsRow base e sz v l.length xs ∧ ∀ (k : Nat) (x : α), l[k]? = some x → ∃ vs : List Value, vs.length = sz ∧ R w B x vs ∧ ∀ (j : Nat) (u : Value), vs[j]? = some u → xs[k * sz + j]? = some u

section
variable {α : Type} {R : Rep α} {w w' : World} {base B sz bts n c : Nat} {e : TypeId} {A : Option Addr} {l l2 : List α} {v : Value}

theorem ownSl.nil_ : ownSl e sz R w base B [] (.slice none 0 0) := ⟨[], World.ownsRow_nil _ _ _ _, fun k x h => by simp at h⟩
theorem ownSl.form (h : ownSl e sz R w base B l v) : ∃ A c, v = .slice A l.length c := by
  obtain ⟨xs, h1, _⟩ := h
  exact own_slice h1
theorem ownSl.len {A : Option Addr} (h : ownSl e sz R w base B l (.slice A n c)) : l.length = n := by
  obtain ⟨A', c', h1⟩ := h.form
  injection h1 with _ h1 _
  exact h1.symm
theorem ownSl.cap (h : ownSl e sz R w base B l (.slice A n c)) : n ≤ c ∧ c ≤ 9223372036854775807 := by
  have hl := h.len
  obtain ⟨xs, ⟨_, h2⟩, _⟩ := h
  rcases h2 with ⟨h2, h3⟩ | ⟨g, cap, cur, h2, _, _, h3, h4, _⟩
  · injection h2 with _ h2 h3; omega
  · injection h2 with _ h2 h3
    unfold maxLen at h4
    omega
theorem ownSl.keep [Stable R] (h : ownSl e sz R w base B l v) (hb : Below w.heap.size w w') (hB : B ≤ w.heap.size) : ownSl e sz R w' base B l v := by
  obtain ⟨xs, h1, h2⟩ := h
  refine ⟨xs, ?_, fun k x hk => ?_⟩
  · obtain ⟨a1, a2⟩ := h1
    refine ⟨a1, ?_⟩
    rcases a2 with a2 | ⟨g, cap, cur, hv, hg, hh, r⟩
    · exact .inl a2
    · refine .inr ⟨g, cap, cur, hv, hg, ?_, r⟩
      have hlt : g < w.heap.size := (Array.getElem?_eq_some_iff.1 hh).1
      rw [hb.block g hlt]; exact hh
  · obtain ⟨vs, h3, h4, h5⟩ := h2 k x hk
    exact ⟨vs, h3, Stable.keep w w' B B x vs (hb.mono hB) (Nat.le_refl _) h4, h5⟩
/-- As a slice that is read. -/
theorem ownSl.toSl (hs : Stable R) (h : ownSl e sz R w base B l v) (hB : B ≤ w.heap.size) (hb : l.length * bts ≤ 140737488355328) : rSl sz bts R w w.heap.size l [v] := by
  obtain ⟨xs, ⟨h1, h2⟩, h3⟩ := h
  rcases h2 with ⟨rfl, h0⟩ | ⟨g, cap, cur, rfl, hg, hh, hnc, hcm, hcs, hcur⟩
  · obtain rfl : l = [] := List.eq_nil_of_length_eq_zero h0
    exact rSl.nil_
  · have hlt : g < w.heap.size := (Array.getElem?_eq_some_iff.1 hh).1
    refine ⟨some ⟨g, 0, none⟩, cap, rfl, hnc, hcm, hb, fun h0 => ⟨g, 0, rfl, hlt, fun k x hk => ?_⟩⟩
    obtain ⟨vs, a1, a2, a3⟩ := h3 k x hk
    refine ⟨vs, a1, hs.keep w w B _ x vs (Below.refl _ _) hB a2, fun j u hj => ?_⟩
    have hj' : j < sz := by have := (List.getElem?_eq_some_iff.1 hj).1; omega
    have hk' : k < l.length := (List.getElem?_eq_some_iff.1 hk).1
    have hlt2 : k * sz + j < l.length * sz := by
      have : (k + 1) * sz ≤ l.length * sz := Nat.mul_le_mul_right _ (by omega)
      rw [Nat.succ_mul] at this; omega
    have e1 := a3 j u hj
    rw [← hcur, List.getElem?_take_of_lt hlt2] at e1
    rw [cell_of_row w g _ cur e (0, 0) hh, ← e1, Array.getElem?_toList, Nat.zero_add]

theorem append_el {R : Rep α} {l l2 : List α} {xs ys : List Value} (hx : xs.length = l.length * sz)
    (h1 : ∀ (k : Nat) (x : α), l[k]? = some x → ∃ vs : List Value, vs.length = sz ∧ R w B x vs ∧ ∀ (j : Nat) (u : Value), vs[j]? = some u → xs[k * sz + j]? = some u)
    (h2 : ∀ (k : Nat) (x : α), l2[k]? = some x → ∃ vs : List Value, vs.length = sz ∧ R w B x vs ∧ ∀ (j : Nat) (u : Value), vs[j]? = some u → ys[k * sz + j]? = some u) :
    ∀ (k : Nat) (x : α), (l ++ l2)[k]? = some x → ∃ vs : List Value, vs.length = sz ∧ R w B x vs ∧ ∀ (j : Nat) (u : Value), vs[j]? = some u → (xs ++ ys)[k * sz + j]? = some u := by
  intro k x hk
  by_cases hlt : k < l.length
  · rw [List.getElem?_append_left hlt] at hk
    obtain ⟨vs, a1, a2, a3⟩ := h1 k x hk
    refine ⟨vs, a1, a2, fun j u hj => ?_⟩
    have := a3 j u hj
    rw [List.getElem?_append_left (List.getElem?_eq_some_iff.1 this).1]; exact this
  · rw [List.getElem?_append_right (by omega)] at hk
    obtain ⟨vs, a1, a2, a3⟩ := h2 _ x hk
    refine ⟨vs, a1, a2, fun j u hj => ?_⟩
    have hle : l.length * sz ≤ k * sz := Nat.mul_le_mul_right _ (by omega)
    rw [List.getElem?_append_right (by omega), hx]
    rw [show k * sz + j - l.length * sz = (k - l.length) * sz + j by rw [Nat.sub_mul]; omega]
    exact a3 j u hj
end

section
variable {α : Type} {R : Rep α} {P : Program} {w : World} {ops : Array Oper} {rest : List Oper} {o : Oper} {a : Act} {Q : Exit → Act → World → Prop}

/-- append(own, x..): one element; its cells have just been laid as a block. -/
theorem wpList_append1_own {t e : TypeId} {sz bts : Nat} (he : ElemOk P t e sz bts) (hsR : Stable R) (hgd : o.guard = none) (s x : Operand)
    (ho : o.op = .call { callee := .builtin .append, args := #[s, x], argTypes := #[t, t] })
    {base B : Nat} {l : List α} {v : Value} (hs : a.eval s = v) (hown : ownSl e sz R w base B l v)
    {cs : Array Value} {g : Nat} (hx : a.eval x = .slice (some ⟨g, 0, none⟩) 1 1) (hg : w.heap.size = g) (hcs : cs.size = sz) (h1 : ∀ u ∈ cs.toList, u.oneCell' = true) (y : α) (hy : R w B y cs.toList)
    (h63 : l.length + 1 ≤ maxLen) (hbytes : (l.length + 1) * bts ≤ 140737488355328) (hbase : base ≤ w.heap.size) (hB : B ≤ base)
    (h : ∀ v' w', ownSl e sz R w' base B (l ++ [y]) v' → Below base w w' → w.heap.size < w'.heap.size → wpList P ops Q rest (a.put o.dst v') w') : wpList P ops Q (o :: rest) a (w.alloc (.cells cs e)) := by
  obtain ⟨xs, o1, o2⟩ := hown
  refine wpList_append1 he hgd s x ho hs o1 hx hg hcs h1 h63 hbytes hbase ?_
  intro v' w' q1 q2 q3
  refine h v' w' ⟨xs ++ cs.toList, by simpa using q1, ?_⟩ q2 q3
  have st : ∀ (z : α) (vs : List Value), R w B z vs → R w' B z vs := fun z vs hz => hsR.keep w w' B B z vs (q2.mono hB) (Nat.le_refl _) hz
  refine append_el o1.1 (fun k z hk => ?_) (fun k z hk => ?_)
  · obtain ⟨vs, a1, a2, a3⟩ := o2 k z hk
    exact ⟨vs, a1, st z vs a2, a3⟩
  · have hk0 : k = 0 := by
      have := (List.getElem?_eq_some_iff.1 hk).1
      simp at this; exact this
    subst hk0
    simp at hk
    subst hk
    exact ⟨cs.toList, by simp [hcs], st _ _ hy, fun j u hj => by simpa using hj⟩

/-- The cells of a slice that is read, one behind the other. -/
theorem rSl.cellsOf {sz bts n c B : Nat} {A : Option Addr} {l : List α} (h : rSl sz bts R w B l [.slice A n c]) (hsz : 0 < sz) :
    ∃ ys : List Value, ys.length = n * sz ∧ (∀ b, A = some b → 0 < n → ∀ j u, ys[j]? = some u → w.cell? (b.add j) = some u) ∧ (A = none → n = 0) ∧
      ∀ (k : Nat) (x : α), l[k]? = some x → ∃ vs : List Value, vs.length = sz ∧ R w B x vs ∧ ∀ (j : Nat) (u : Value), vs[j]? = some u → ys[k * sz + j]? = some u := by
  have hl := h.len
  obtain ⟨A', c', e, _, _, _, h4⟩ := h
  simp only [List.cons.injEq, Value.slice.injEq, and_true] at e
  obtain ⟨rfl, _, rfl⟩ := e
  by_cases h0 : 0 < l.length
  · obtain ⟨b, o, rfl, hb, hx⟩ := h4 h0
    have hfam : ∀ k, k < l.length → ∃ vs : Option (List Value), ∃ ws, vs = some ws ∧ ∃ x, l[k]? = some x ∧ ws.length = sz ∧ R w B x ws ∧ ∀ (j : Nat) (u : Value), ws[j]? = some u → w.cell? ⟨b, o + k * sz + j, none⟩ = some u := by
      intro k hk
      have hlk : l[k]? = some (l[k]'hk) := List.getElem?_eq_getElem hk
      obtain ⟨vs, a1, a2, a3⟩ := hx k _ hlk
      exact ⟨some vs, vs, rfl, _, hlk, a1, a2, a3⟩
    obtain ⟨f, hf⟩ := Go.Deep.choose_lt (α := Option (List Value)) hfam
    have hflat : ∀ m, m ≤ l.length → ∃ ys : List Value, ys.length = m * sz ∧ ∀ k, k < m → ∀ ws, f k = some ws → ∀ j u, ws[j]? = some u → ys[k * sz + j]? = some u := by
      intro m
      induction m with
      | zero => intro _; exact ⟨[], by simp, fun k hk => absurd hk (by omega)⟩
      | succ m ih =>
        intro hm
        obtain ⟨ys, y1, y2⟩ := ih (by omega)
        obtain ⟨ws, hw, x, _, wl, _⟩ := hf m (by omega)
        refine ⟨ys ++ ws, by rw [List.length_append, y1, wl, Nat.succ_mul], fun k hk vs hv j u hj => ?_⟩
        by_cases hkm : k < m
        · have := y2 k hkm vs hv j u hj
          rw [List.getElem?_append_left (List.getElem?_eq_some_iff.1 this).1]; exact this
        · obtain rfl : k = m := by omega
          rw [hw] at hv
          cases hv
          rw [List.getElem?_append_right (by omega), y1, Nat.add_sub_cancel_left]; exact hj
    obtain ⟨ys, y1, y2⟩ := hflat l.length (Nat.le_refl _)
    refine ⟨ys, by rw [y1, hl], fun b' hb' _ j u hj => ?_, fun h => (by cases h), fun k x hk => ?_⟩
    · cases hb'
      have hjl : j < l.length * sz := by rw [← y1]; exact (List.getElem?_eq_some_iff.1 hj).1
      have hk : j / sz < l.length := (Nat.div_lt_iff_lt_mul hsz).2 hjl
      obtain ⟨ws, hw, x, _, wl, _, wc⟩ := hf (j / sz) hk
      have hmod : j % sz < ws.length := by rw [wl]; exact Nat.mod_lt _ hsz
      have e1 : ws[j % sz]? = some (ws[j % sz]'hmod) := List.getElem?_eq_getElem hmod
      have e2 := y2 _ hk ws hw _ _ e1
      have e3 : j / sz * sz + j % sz = j := by rw [Nat.mul_comm]; exact Nat.div_add_mod j sz
      rw [e3, hj] at e2
      cases e2
      have := wc _ _ e1
      rw [Addr.add_lit]
      rw [Nat.add_assoc, e3] at this
      exact this
    · have hk' : k < l.length := (List.getElem?_eq_some_iff.1 hk).1
      obtain ⟨ws, hw, x', hx', wl, wR, wc⟩ := hf k hk'
      rw [hk] at hx'
      cases hx'
      exact ⟨ws, wl, wR, fun j u hj => y2 k hk' ws hw j u hj⟩
  · have hl0 : l = [] := List.eq_nil_of_length_eq_zero (by omega)
    subst hl0
    simp at hl
    subst hl
    exact ⟨[], by simp, fun _ _ h => absurd h (by omega), fun _ => rfl, fun k x hk => by simp at hk⟩

theorem run_append_empty (base : Nat) (t ty e : TypeId) (i : TypeInfo) (sz : Nat) (ht : P.underlying t = some (.slice e)) (hi : P.info? e = some i)
    (v : Value) (n : Nat) (xs : List Value) (hown : w.ownsRow base e sz v n xs) (c : Nat) : (Builtin.append_ #[t, t] ty #[v, .slice none 0 c]).run P w = .ok v w := by
  rcases hown.2 with ⟨rfl, rfl⟩ | ⟨g, cap, cur, rfl, _, _, hnc, _⟩
  · simp [Builtin.append_, run_underlying ht, sizeOf, typeInfo, hi, Builtin.lenOf, Builtin.firstCells]
  · simp [Builtin.append_, run_underlying ht, sizeOf, typeInfo, hi, Builtin.lenOf, Builtin.firstCells, hnc, storeCells]

/-- What is appended: m elements l2 behind A. -/
def Src (sz : Nat) (R : Rep α) (w : World) (B : Nat) (A : Option Addr) (m : Nat) (l2 : List α) : Prop :=
  l2.length = m ∧ ∃ ys : List Value, ys.length = m * sz ∧ (∀ b, A = some b → 0 < m → ∀ j u, ys[j]? = some u → w.cell? (b.add j) = some u) ∧ (A = none → m = 0) ∧
    ∀ (k : Nat) (x : α), l2[k]? = some x → ∃ vs : List Value, vs.length = sz ∧ R w B x vs ∧ ∀ (j : Nat) (u : Value), vs[j]? = some u → ys[k * sz + j]? = some u
theorem rSl.src {sz bts n c B : Nat} {A : Option Addr} {l : List α} (h : rSl sz bts R w B l [.slice A n c]) (hsz : 0 < sz) : Src sz R w B A n l := ⟨h.len, h.cellsOf hsz⟩
theorem ownSl.src {e : TypeId} {sz n c base B : Nat} {A : Option Addr} {l : List α} (h : ownSl e sz R w base B l (.slice A n c)) : Src sz R w B A n l := by
  have hl := h.len
  obtain ⟨xs, o1, o2⟩ := h
  refine ⟨hl, xs, by rw [o1.1, hl], fun b hb h0 j u hj => ?_, fun hA => ?_, o2⟩
  · subst hb
    obtain ⟨g, cap, hv, _, _⟩ := o1.form (by omega)
    injection hv with hv _ _
    cases hv
    exact o1.cells (g := g) rfl j u hj
  · subst hA
    rcases o1.2 with ⟨h1, h2⟩ | ⟨g, cap, cur, h1, _⟩
    · omega
    · injection h1 with h1; cases h1

/-- append(own, slice..): nil, empty or not. -/
theorem wpList_append_sl {t e : TypeId} {sz bts : Nat} (he : ElemOk P t e sz bts) (hsR : Stable R) (hoR : OneCells R) (hgd : o.guard = none) (s x : Operand)
    (ho : o.op = .call { callee := .builtin .append, args := #[s, x], argTypes := #[t, t] })
    {base B : Nat} {l : List α} {v : Value} (hs : a.eval s = v) (hown : ownSl e sz R w base B l v)
    {A : Option Addr} {m c : Nat} {l2 : List α} (hx : a.eval x = .slice A m c) (hsl : Src sz R w B A m l2)
    (h63 : l.length + m ≤ maxLen) (hbytes : (l.length + m) * bts ≤ 140737488355328) (hbase : base ≤ w.heap.size) (hB : B ≤ base)
    (h : ∀ v' w', ownSl e sz R w' base B (l ++ l2) v' → Below base w w' → (v'.ownBlock = v.ownBlock ∨ v'.ownBlock = some w.heap.size) → wpList P ops Q rest (a.put o.dst v') w') : wpList P ops Q (o :: rest) a w := by
  obtain ⟨xs, o1, o2⟩ := hown
  obtain ⟨i, z, hi, hz, hsz, hby, hzc⟩ := he.info
  obtain ⟨hl2, ys, y1, y2, y3, y4⟩ := hsl
  refine wpList_plain hgd fun K hK => ?_
  have key : ∃ v' w', (Builtin.append_ #[t, t] o.type #[v, .slice A m c]).run P w = .ok v' w' ∧ w'.ownsRow base e sz v' (l.length + m) (xs ++ ys) ∧ Below base w w' ∧ (v'.ownBlock = v.ownBlock ∨ v'.ownBlock = some w.heap.size) := by
    rcases A with _ | ad
    · obtain rfl := y3 rfl
      obtain rfl : ys = [] := List.eq_nil_of_length_eq_zero (by simpa using y1)
      exact ⟨v, w, run_append_empty base t o.type e i sz he.under hi v _ xs o1 c, by simpa using o1, Below.refl _ _, .inl rfl⟩
    · obtain ⟨v', w', r1, r2, r3, _, r5⟩ := run_append_own_at (P := P) w base t o.type e i z sz bts he.under hi hz hsz hby hzc he.pos v _ xs o1 ad m c ys y1 (fun j u hj => by
          rcases Nat.eq_zero_or_pos m with h0 | h0
          · subst h0
            obtain rfl : ys = [] := List.eq_nil_of_length_eq_zero (by simpa using y1)
            simp at hj
          · exact y2 ad rfl h0 j u hj)
        (fun u hu => by
          obtain ⟨j, hj, rfl⟩ := List.mem_iff_getElem.1 hu
          have hk : j / sz < l2.length := by rw [hl2]; exact (Nat.div_lt_iff_lt_mul he.pos).2 (by rw [← y1]; exact hj)
          obtain ⟨vs, a1, a2, a3⟩ := y4 (j / sz) _ (List.getElem?_eq_getElem hk)
          have hmod : j % sz < vs.length := by rw [a1]; exact Nat.mod_lt _ he.pos
          have e1 := a3 (j % sz) _ (List.getElem?_eq_getElem hmod)
          have e3 : j / sz * sz + j % sz = j := by rw [Nat.mul_comm]; exact Nat.div_add_mod j sz
          rw [e3, List.getElem?_eq_getElem hj] at e1
          rw [Option.some.inj e1]
          exact hoR.one w B _ vs a2 _ (List.getElem_mem _))
        h63 hbytes hbase
      exact ⟨v', w', r1, r2, own_below o1 r3 hbase, r5⟩
  obtain ⟨v', w', r1, r2, r3, r4⟩ := key
  unfold Oper.wp
  simp [execOp, ho, resolve, invoke, builtin, hs, hx, r1, Result.andThen]
  refine hK _ _ (h v' w' ⟨xs ++ ys, by simpa [hl2] using r2, ?_⟩ r3 r4)
  have st : ∀ (z : α) (vs : List Value), R w B z vs → R w' B z vs := fun z vs hz => hsR.keep w w' B B z vs (r3.mono hB) (Nat.le_refl _) hz
  refine append_el o1.1 (fun k z hk => ?_) (fun k z hk => ?_)
  · obtain ⟨vs, a1, a2, a3⟩ := o2 k z hk
    exact ⟨vs, a1, st z vs a2, a3⟩
  · obtain ⟨vs, a1, a2, a3⟩ := y4 k z hk
    exact ⟨vs, a1, st z vs a2, a3⟩

/-- A cut. -/
theorem rSl.cut {sz bts n c B k m : Nat} {A : Option Addr} {l : List α} (h : rSl sz bts R w B l [.slice A n c]) (hk : k ≤ m) (hm : m ≤ n) :
    rSl sz bts R w B ((l.drop k).take (m - k)) [.slice (if c = k then A else A.map (·.add (k * sz))) (m - k) (c - k)] := by
  have hl := h.len
  obtain ⟨A', c', e, h1, h2, h3, h4⟩ := h
  simp only [List.cons.injEq, Value.slice.injEq, and_true] at e
  obtain ⟨rfl, _, rfl⟩ := e
  have hlen : ((l.drop k).take (m - k)).length = m - k := by rw [List.length_take, List.length_drop]; omega
  have hmul : (m - k) * bts ≤ l.length * bts := Nat.mul_le_mul_right _ (by omega)
  refine ⟨_, c - k, by rw [hlen], by omega, by unfold maxLen at *; omega, by rw [hlen]; omega, fun h0 => ?_⟩
  rw [hlen] at h0
  obtain ⟨b, o, rfl, hb, hx⟩ := h4 (by omega)
  refine ⟨b, o + k * sz, by rw [if_neg (by omega), Option.map_some, Addr.add_lit], hb, fun i x hi => ?_⟩
  have hi2 : l[k + i]? = some x := by
    rw [List.getElem?_take] at hi
    split at hi
    · rwa [List.getElem?_drop] at hi
    · cases hi
  obtain ⟨vs, a1, a2, a3⟩ := hx (k + i) x hi2
  refine ⟨vs, a1, a2, fun j u hj => ?_⟩
  have := a3 j u hj
  rw [Nat.add_mul] at this
  rw [show o + k * sz + i * sz + j = o + (k * sz + i * sz) + j by omega]
  exact this
end
end Go.Proofs.Yteoojplgchlhcaa
