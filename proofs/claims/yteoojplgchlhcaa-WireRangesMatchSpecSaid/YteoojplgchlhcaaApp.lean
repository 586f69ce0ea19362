/-
  append onto a slice of the call's own, at the run: of a slice, of a block that has just been laid, of a string; and how a run's law is used in a walk. No statement of the seat is proved here; no conditions.
-/
import Derived.Test.YteoojplgchlhcaaHeld
import Derived.Lib.AppendStr
namespace Go.Proofs.Yteoojplgchlhcaa
open Go.RowKit Go.Lib
set_option linter.unusedVariables false
set_option linter.unusedSimpArgs false

/-! ### A run's law in a walk -/
section
variable {P : Program} {w : World} {ops : Array Oper} {rest : List Oper} {o : Oper} {a : Act} {Q : Exit → Act → World → Prop} {t u : TypeId} {pq : Value → World → Prop} {vs vx : Value} {K : Act → World → Prop} {E : Prop}
theorem wp_app_ex (s x : Operand) (ho : o.op = .call { callee := .builtin .append, args := #[s, x], argTypes := #[t, u] }) (hs : a.eval s = vs) (hx : a.eval x = vx)
    (hr : ∃ v' w', (Builtin.append_ #[t, u] o.type #[vs, vx]).run P w = .ok v' w' ∧ pq v' w') (h : ∀ v' w', pq v' w' → K (a.put o.dst v') w') : o.wp P a w K Q := by
  obtain ⟨v', w', hr, hp⟩ := hr
  unfold Oper.wp execOp
  simp only [ho, resolve, invoke, builtin, Sem.run_bind, Sem.run_pure, Result.andThen_ok, List.map_toArray, List.map_cons, List.map_nil, hs, hx, hr]
  exact h v' w' hp
theorem wpList_app_ex (hgd : o.guard = none) (s x : Operand) (ho : o.op = .call { callee := .builtin .append, args := #[s, x], argTypes := #[t, u] }) (hs : a.eval s = vs) (hx : a.eval x = vx)
    (hr : ∃ v' w', (Builtin.append_ #[t, u] o.type #[vs, vx]).run P w = .ok v' w' ∧ pq v' w') (h : ∀ v' w', pq v' w' → wpList P ops Q rest (a.put o.dst v') w') : wpList P ops Q (o :: rest) a w :=
  wpList_plain hgd fun _ hK => wp_app_ex s x ho hs hx hr fun v' w' hp => hK _ _ (h v' w' hp)
theorem step_app_ex (hgd : o.guard = none) (s x : Operand) (ho : o.op = .call { callee := .builtin .append, args := #[s, x], argTypes := #[t, u] }) (hs : a.eval s = vs) (hx : a.eval x = vx)
    (hr : ∃ v' w', (Builtin.append_ #[t, u] o.type #[vs, vx]).run P w = .ok v' w' ∧ pq v' w') (h : ∀ v' w', pq v' w' → K (a.put o.dst v') w') : if Region.wanted o (yielded ops a.tmps) = true then Oper.wp P o a w K Q else E := by
  have hw : Region.wanted o (yielded ops a.tmps) = true := by simp [Region.wanted, hgd]
  rw [if_pos hw]
  exact wp_app_ex s x ho hs hx hr h
end

/-! ### What is appended -/
section
variable {α : Type} {R : Rep α} {T : Nat → Prop} {P : Program} {w : World} {own A : Option Addr} {m : Nat} {l2 : List α}
/-- m elements l2 behind A; they hang on blocks of T, not on block 'own'. -/
def SrcS (sz : Nat) (R : Rep α) (T : Nat → Prop) (w : World) (own : Option Nat) (A : Option Addr) (m : Nat) (l2 : List α) : Prop :=
  l2.length = m ∧ ∃ ys : List Value, ys.length = m * sz ∧ (∀ b, A = some b → 0 < m → ∀ j u, ys[j]? = some u → w.cell? (b.add j) = some u) ∧ (A = none → m = 0) ∧ (∀ u ∈ ys, u.oneCell' = true) ∧
    ∀ (k : Nat) (x : α), l2[k]? = some x → ∃ vs : List Value, vs.length = sz ∧ Held R (fun b => T b ∧ b < w.heap.size ∧ own ≠ some b) w w.heap.size x vs ∧ ∀ (j : Nat) (u : Value), vs[j]? = some u → ys[k * sz + j]? = some u
theorem oneCell_of {R : Rep α} (hoR : OneCells R) {sz m B : Nat} {ys : List Value} (hl : l2.length = m) (hsz : 0 < sz) (hys : ys.length = m * sz)
    (h : ∀ (k : Nat) (x : α), l2[k]? = some x → ∃ vs : List Value, vs.length = sz ∧ R w B x vs ∧ ∀ (j : Nat) (u : Value), vs[j]? = some u → ys[k * sz + j]? = some u) : ∀ u ∈ ys, u.oneCell' = true := by
  intro u hu
  obtain ⟨j, hj, rfl⟩ := List.mem_iff_getElem.1 hu
  have hk : j / sz < l2.length := by rw [hl]; exact (Nat.div_lt_iff_lt_mul hsz).2 (by rw [← hys]; exact hj)
  obtain ⟨vs, a1, a2, a3⟩ := h (j / sz) _ (List.getElem?_eq_getElem hk)
  have hmod : j % sz < vs.length := by rw [a1]; exact Nat.mod_lt _ hsz
  have e1 := a3 (j % sz) _ (List.getElem?_eq_getElem hmod)
  have e3 : j / sz * sz + j % sz = j := by rw [Nat.mul_comm]; exact Nat.div_add_mod j sz
  rw [e3, List.getElem?_eq_getElem hj] at e1
  rw [Option.some.inj e1]
  exact hoR.one w B _ vs a2 _ (List.getElem_mem _)
/-- A slice that is read: what it reaches lies below B. -/
theorem rSl.srcS [Stable R] [OneCells R] {sz bts n c B : Nat} {A : Option Addr} {l : List α} {own : Option Nat} (h : rSl sz bts R w B l [.slice A n c]) (hsz : 0 < sz) (hB : B ≤ w.heap.size) (hT : ∀ b, b < B → T b) (hown : ∀ g, own = some g → B ≤ g) : SrcS sz R T w own A n l := by
  obtain ⟨ys, y1, y2, y3, y4⟩ := h.cellsOf hsz
  refine ⟨h.len, ys, y1, y2, y3, oneCell_of inferInstance h.len hsz y1 y4, fun k x hk => ?_⟩
  obtain ⟨vs, a1, a2, a3⟩ := y4 k x hk
  exact ⟨vs, a1, ((Held.of_stable a2).mono fun b hb => ⟨hT b hb, by omega, fun e => by have := hown b e; omega⟩).up hB, a3⟩
theorem rSl.srcP [PureR R] [OneCells R] {sz bts n c B : Nat} {A : Option Addr} {l : List α} {own : Option Nat} (h : rSl sz bts R w B l [.slice A n c]) (hsz : 0 < sz) : SrcS sz R T w own A n l := by
  obtain ⟨ys, y1, y2, y3, y4⟩ := h.cellsOf hsz
  refine ⟨h.len, ys, y1, y2, y3, oneCell_of inferInstance h.len hsz y1 y4, fun k x hk => ?_⟩
  obtain ⟨vs, a1, a2, a3⟩ := y4 k x hk
  exact ⟨vs, a1, Held.of_pure a2, a3⟩
/-- One element, whose cells lie as a block. -/
theorem SrcS.block {sz g c : Nat} {cs : Array Value} {e : TypeId} {y : α} {own : Option Nat} (hg : w.heap[g]? = some (.cells cs e (0, 0))) (hcs : cs.size = sz) (h1 : ∀ u ∈ cs.toList, u.oneCell' = true)
    (hy : Held R (fun b => T b ∧ b < w.heap.size ∧ own ≠ some b) w w.heap.size y cs.toList) : SrcS sz R T w own (some ⟨g, 0, none⟩) 1 [y] := by
  refine ⟨rfl, cs.toList, by simp [hcs], fun b hb _ j u hj => ?_, fun h => (by cases h), h1, fun k x hk => ?_⟩
  · cases hb
    exact World.news_of_block hg j u hj
  · have hk0 : k = 0 := by
      have := (List.getElem?_eq_some_iff.1 hk).1
      simp at this; exact this
    subst hk0
    simp at hk
    subst hk
    exact ⟨cs.toList, by simp [hcs], hy, fun j u hj => by simpa using hj⟩
/-- Several elements of one cell each, of what hangs on nothing. -/
theorem SrcS.cells [PureR R] {g n c : Nat} {cs : Array Value} {e : TypeId} {own : Option Nat} (hg : w.heap[g]? = some (.cells cs e (0, 0))) (h1 : ∀ u ∈ cs.toList, u.oneCell' = true) (hn : cs.size = n) (hl : l2.length = n)
    (hy : ∀ (k : Nat) (x : α), l2[k]? = some x → ∃ u, cs.toList[k]? = some u ∧ R w w.heap.size x [u]) : SrcS 1 R T w own (some ⟨g, 0, none⟩) n l2 := by
  refine ⟨hl, cs.toList, by simp [hn], fun b hb _ j u hj => ?_, fun h => (by cases h), h1, fun k x hk => ?_⟩
  · cases hb
    exact World.news_of_block hg j u hj
  · obtain ⟨u, h2, h3⟩ := hy k x hk
    refine ⟨[u], rfl, Held.of_pure h3, fun j v hj => ?_⟩
    have hj0 : j = 0 := by
      have := (List.getElem?_eq_some_iff.1 hj).1
      simp at this; exact this
    subst hj0
    simp at hj
    subst hj
    simpa using h2
end

theorem blk_allocA {w : World} {g : Nat} {t : TypeId} {cs : List Value} (h : w.heap.size = g) : blk (w.alloc (.cells cs.toArray t)) g t cs := by
  subst h; exact heap_alloc_new w _
/-- What an append leaves. -/
def AppOut {α : Type} (e : TypeId) (sz : Nat) (R : Rep α) (T : Nat → Prop) (w : World) (base : Nat) (l : List α) (v v' : Value) (w' : World) : Prop :=
  ownS e sz R T w' base l v' ∧ w.grownBy w' v.ownBlock ∧ (v'.ownBlock = v.ownBlock ∨ v'.ownBlock = some w.heap.size)

section
variable {α : Type} {R : Rep α} {T : Nat → Prop} {P : Program} {w w' : World}
theorem ownS.grown [Stable R] {e : TypeId} {sz base n m : Nat} {l l2 : List α} {v v' : Value} {xs ys : List Value} (h1 : w.ownsRow base e sz v l.length xs)
    (h2 : ∀ (k : Nat) (x : α), l[k]? = some x → ∃ vs : List Value, vs.length = sz ∧ Held R (fun b => T b ∧ b < w.heap.size ∧ v.ownBlock ≠ some b) w w.heap.size x vs ∧ ∀ (j : Nat) (u : Value), vs[j]? = some u → xs[k * sz + j]? = some u)
    (h3 : ∀ (k : Nat) (x : α), l2[k]? = some x → ∃ vs : List Value, vs.length = sz ∧ Held R (fun b => T b ∧ b < w.heap.size ∧ v.ownBlock ≠ some b) w w.heap.size x vs ∧ ∀ (j : Nat) (u : Value), vs[j]? = some u → ys[k * sz + j]? = some u)
    (hown : w'.ownsRow base e sz v' (l ++ l2).length (xs ++ ys)) (hgrow : w.grownBy w' v.ownBlock) (hat : v'.ownBlock = v.ownBlock ∨ v'.ownBlock = some w.heap.size) : ownS e sz R T w' base (l ++ l2) v' := by
  have st : ∀ (z : α) (vs : List Value), Held R (fun b => T b ∧ b < w.heap.size ∧ v.ownBlock ≠ some b) w w.heap.size z vs → Held R (fun b => T b ∧ b < w'.heap.size ∧ v'.ownBlock ≠ some b) w' w'.heap.size z vs := by
    intro z vs hz
    refine ((hz.move (grown_zero hgrow) fun b hb => hgrow.block b hb.2.1 (fun e => hb.2.2 e.symm)).mono fun b hb => ⟨hb.1, Nat.lt_of_lt_of_le hb.2.1 hgrow.size, fun e => ?_⟩).up hgrow.size
    rcases hat with h | h
    · exact hb.2.2 (by rw [← h]; exact e)
    · rw [h] at e; injection e with e; omega
  refine ⟨xs ++ ys, hown, fun k z hk => ?_⟩
  by_cases hlt : k < l.length
  · rw [List.getElem?_append_left hlt] at hk
    obtain ⟨vs, a1, a2, a3⟩ := h2 k z hk
    refine ⟨vs, a1, st z vs a2, fun j u hj => ?_⟩
    have := a3 j u hj
    rw [List.getElem?_append_left (List.getElem?_eq_some_iff.1 this).1]; exact this
  · rw [List.getElem?_append_right (by omega)] at hk
    obtain ⟨vs, a1, a2, a3⟩ := h3 _ z hk
    refine ⟨vs, a1, st z vs a2, fun j u hj => ?_⟩
    have hle : l.length * sz ≤ k * sz := Nat.mul_le_mul_right _ (by omega)
    rw [List.getElem?_append_right (by rw [h1.1]; omega), h1.1]
    rw [show k * sz + j - l.length * sz = (k - l.length) * sz + j by rw [Nat.sub_mul]; omega]
    exact a3 j u hj

theorem run_app [Stable R] {t e ty : TypeId} {sz bts base : Nat} (he : ElemOk P t e sz bts) {l : List α} {v : Value} (hown : ownS e sz R T w base l v) {A : Option Addr} {m c : Nat} {l2 : List α} (hsl : SrcS sz R T w v.ownBlock A m l2)
    (h63 : l.length + m ≤ maxLen) (hbytes : (l.length + m) * bts ≤ 140737488355328) (hbase : base ≤ w.heap.size) :
    ∃ v' w', (Builtin.append_ #[t, t] ty #[v, .slice A m c]).run P w = .ok v' w' ∧ AppOut e sz R T w base (l ++ l2) v v' w' := by
  obtain ⟨xs, o1, o2⟩ := hown
  obtain ⟨i, z, hi, hz, hsz, hby, hzc⟩ := he.info
  obtain ⟨hl2, ys, y1, y2, y3, y5, y4⟩ := hsl
  have key : ∃ v' w', (Builtin.append_ #[t, t] ty #[v, .slice A m c]).run P w = .ok v' w' ∧ w'.ownsRow base e sz v' (l.length + m) (xs ++ ys) ∧ w.grownBy w' v.ownBlock ∧ (v'.ownBlock = v.ownBlock ∨ v'.ownBlock = some w.heap.size) := by
    rcases A with _ | ad
    · obtain rfl := y3 rfl
      obtain rfl : ys = [] := List.eq_nil_of_length_eq_zero (by simpa using y1)
      exact ⟨v, w, run_append_empty base t ty e i sz he.under hi v _ xs o1 c, by simpa using o1, grown_refl, .inl rfl⟩
    · obtain ⟨v', w', r1, r2, r3, _, r5⟩ := run_append_own_at (P := P) w base t ty e i z sz bts he.under hi hz hsz hby hzc he.pos v _ xs o1 ad m c ys y1 (fun j u hj => by
          rcases Nat.eq_zero_or_pos m with h0 | h0
          · subst h0
            obtain rfl : ys = [] := List.eq_nil_of_length_eq_zero (by simpa using y1)
            simp at hj
          · exact y2 ad rfl h0 j u hj) y5 h63 hbytes hbase
      exact ⟨v', w', r1, r2, r3, r5⟩
  obtain ⟨v', w', r1, r2, r3, r4⟩ := key
  exact ⟨v', w', r1, ownS.grown (n := 0) (m := 0) o1 o2 y4 (by simpa [hl2] using r2) r3 r4, r3, r4⟩

theorem strCells_get (s : ByteArray) (k : Nat) (x : UInt8) (h : s.data.toList[k]? = some x) : (strCells s)[k]? = some (.int .u8 (x.toNat : Int)) := by
  unfold strCells
  simp [h]
theorem run_app_str {t u e ty : TypeId} {base : Nat} (he : ElemOk P t e 1 1) (hz : (P.info? e).bind (·.zero) = some (.int .u8 0)) (hu : P.underlying u = some .string) {l : List UInt8} {v : Value} (hown : ownS e 1 rByte T w base l v) (s : ByteArray)
    (h63 : l.length + s.size ≤ 140737488355328) (hbase : base ≤ w.heap.size) :
    ∃ v' w', (Builtin.append_ #[t, u] ty #[v, .string s]).run P w = .ok v' w' ∧ AppOut e 1 rByte T w base (l ++ s.data.toList) v v' w' := by
  obtain ⟨xs, o1, o2⟩ := hown
  obtain ⟨i, z, hi, hz', hsz, hby, hzc⟩ := he.info
  rw [hi, Option.bind_some] at hz
  obtain ⟨v', w', r1, r2, r3, r4⟩ := run_append_own_string (P := P) w base t u ty e i he.under hu hi hz hsz hby v _ xs o1 s (by unfold maxLen; omega) h63 hbase
  have hl : s.data.toList.length = s.size := by rw [Array.length_toList]; rfl
  have hat : v'.ownBlock = v.ownBlock ∨ v'.ownBlock = some w.heap.size := by
    have hlx : xs.length = l.length := by simpa using o1.1
    have inj : ∀ {v2 : Value} {w2 : World}, (Builtin.append_ #[t, u] ty #[v, .string s]).run P w = .ok v2 w2 → v' = v2 := fun {v2 w2} h => by
      rw [r1] at h
      injection h
    rcases o1.2 with ⟨rfl, h0⟩ | ⟨g, cap, cur, rfl, hbg, hg, hnc, hcm, hcs, htake⟩
    · by_cases hs : s.size = 0
      · rw [r4.2 ⟨rfl, hs⟩]; exact .inl rfl
      · rw [inj (run_append_nil_string (P := P) w t u ty e i (.int .u8 0) he.under hu hi hz s (by omega) (by omega) (by rw [hby]; omega))]
        exact .inr rfl
    · have hcs' : cur.size = cap := by simpa using hcs
      unfold maxLen at hcm
      by_cases hroom : l.length + s.size ≤ cap
      · rw [inj (run_append_room_string (P := P) w t u ty e i he.under hu hi hsz g _ cap cur hg s hroom (by omega))]
        exact .inl rfl
      · rw [inj (run_append_grow_string (P := P) w t u ty e i (.int .u8 0) he.under hu hi hz ⟨g, 0, none⟩ _ cap xs (by rw [hsz]; simpa using o1.1) (fun j v hj => o1.cells (g := g) rfl j v hj) s (by omega) (by omega) (by have := nextslicecap_le (show cap < l.length + s.size by omega); rw [hby]; omega))]
        exact .inr rfl
  refine ⟨v', w', r1, ownS.grown (n := 0) (m := 0) o1 o2 (fun k x hk => ?_) (by simpa [hl] using r2) r3 hat, r3, hat⟩
  refine ⟨[.int .u8 (x.toNat : Int)], rfl, Held.of_pure (w := w) (B := 0) rfl, fun j u hj => ?_⟩
  have hj0 : j = 0 := by
    have := (List.getElem?_eq_some_iff.1 hj).1
    simp at this; exact this
  subst hj0
  simp at hj
  subst hj
  simpa using strCells_get s k x hk
end
end Go.Proofs.Yteoojplgchlhcaa
