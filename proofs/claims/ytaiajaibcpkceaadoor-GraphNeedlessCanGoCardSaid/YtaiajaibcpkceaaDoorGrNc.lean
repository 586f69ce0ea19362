/-
  The law NeedlessCanGo, walked (slices are frozen by so_one). No statement of the seat is proved here; no conditions.
-/
import Derived.Test.YtaiajaibcpkceaaDoorGrRv
import Derived.Test.YtaiajaibcpkceaaDoorGrQ
import Derived.Test.YtaiajaibcpkceaaDoorLowE
import Derived.Test.YtaiajaibcpkceaaDoorGrNt
namespace Go.Proofs.YtaiajaibcpkceaaDoor
open Go.RowKit Go.Shelf
set_option linter.unusedVariables false
set_option linter.unusedSimpArgs false
set_option maxRecDepth 100000

theorem pos_ltS {g : Graph} {o : List Nat} (h : TOk g o) {i d : Nat} (hi : i < g.length) (hd : d ∈ (allDeps g).getD i []) : o.idxOf d < o.idxOf i := by
  have him := nd_all h.nd h.lt h.len hi
  have h1 := List.idxOf_lt_length_iff.2 him
  have h2 : o[o.idxOf i]? = some i := by rw [List.getElem?_eq_getElem h1, List.getElem_idxOf]
  obtain ⟨q, hq⟩ := List.mem_iff_getElem?.1 (h.bd _ i h2 d hd)
  have hqk : q < o.idxOf i := by have := (List.getElem?_eq_some_iff.1 hq).1; rw [List.length_take] at this; omega
  rw [List.getElem?_take_of_lt hqk] at hq
  obtain ⟨a1, a2⟩ := List.getElem?_eq_some_iff.1 hq
  have : o.idxOf d ≤ q := by rw [← a2, h.nd.idxOf_getElem]; exact Nat.le_refl _
  omega
theorem pos_nS {g : Graph} {o : List Nat} (h : TOk g o) {i : Nat} (hi : i < g.length) : o.idxOf i < g.length := by
  have := List.idxOf_lt_length_iff.2 (nd_all h.nd h.lt h.len hi)
  rwa [h.len] at this
/-! ### Rows of bits -/
def bitAt (row : List Nat) (t : Nat) : Bool := (row.getD (t / 64) 0).testBit (t % 64)
def orBit (row : List Nat) (k : Nat) : List Nat := row.set (k / 64) (row.getD (k / 64) 0 ||| 2 ^ (k % 64))
def orRow (row r2 : List Nat) : List Nat := List.zipWith (fun a b => a ||| b) row r2
def stepRow (R : List (List Nat)) (row : List Nat) (k : Nat) : List Nat := orRow (orBit row k) (R.getD k [])
def undRow (R : List (List Nat)) (W : Nat) (deps : List Nat) : List Nat := deps.foldl (stepRow R) (List.replicate W 0)
def RowOk (W : Nat) (row : List Nat) : Prop := row.length = W ∧ ∀ v ∈ row, v < 2 ^ 64
theorem getD_setN {l : List Nat} {k i d : Nat} (hk : k < l.length) : (l.set k d).getD i 0 = if k = i then d else l.getD i 0 := by
  rw [List.getD_eq_getElem?_getD]
  split
  · rename_i e; subst e; rw [List.getElem?_set_self hk]; rfl
  · rename_i e; rw [List.getElem?_set_ne e, List.getD_eq_getElem?_getD]
theorem row_v {W : Nat} {row : List Nat} (h : RowOk W row) (j : Nat) : row.getD j 0 < 2 ^ 64 := by
  rw [List.getD_eq_getElem?_getD]
  cases e : row[j]? with
  | none => exact Nat.two_pow_pos 64
  | some v => exact h.2 v (List.mem_of_getElem? e)
theorem orBit_ok {W : Nat} {row : List Nat} (h : RowOk W row) (k : Nat) : RowOk W (orBit row k) := by
  refine ⟨by rw [orBit, List.length_set]; exact h.1, fun v hv => ?_⟩
  rcases List.mem_or_eq_of_mem_set hv with hv | hv
  · exact h.2 v hv
  · subst hv
    exact Nat.or_lt_two_pow (row_v h _) (Nat.pow_lt_pow_right (by decide) (Nat.mod_lt _ (by decide)))
theorem orRow_ok {W : Nat} {row r2 : List Nat} (h : RowOk W row) (h2 : RowOk W r2) : RowOk W (orRow row r2) := by
  refine ⟨by rw [orRow, List.length_zipWith, h.1, h2.1, Nat.min_self], fun v hv => ?_⟩
  obtain ⟨k, hk⟩ := List.mem_iff_getElem?.1 hv
  rw [orRow, List.getElem?_zipWith] at hk
  cases e1 : row[k]? with
  | none => rw [e1] at hk; simp at hk
  | some a =>
    cases e2 : r2[k]? with
    | none => rw [e1, e2] at hk; simp at hk
    | some b =>
      rw [e1, e2] at hk
      obtain rfl := Option.some.inj hk
      exact Nat.or_lt_two_pow (h.2 a (List.mem_of_getElem? e1)) (h2.2 b (List.mem_of_getElem? e2))
theorem bit_orBit {W : Nat} {row : List Nat} (h : RowOk W row) {k t : Nat} (hk : k / 64 < W) : bitAt (orBit row k) t = (decide (t = k) || bitAt row t) := by
  unfold bitAt orBit
  rw [getD_setN (by rw [h.1]; exact hk)]
  by_cases e : k / 64 = t / 64
  · rw [if_pos e, Nat.testBit_or, e, Nat.testBit_two_pow, Bool.or_comm]
    congr 1
    rw [decide_eq_decide]
    omega
  · rw [if_neg e, decide_eq_false (fun h => e (by rw [h])), Bool.false_or]
theorem bit_orRow {W : Nat} {row r2 : List Nat} (h : RowOk W row) (h2 : RowOk W r2) (t : Nat) : bitAt (orRow row r2) t = (bitAt row t || bitAt r2 t) := by
  unfold bitAt orRow
  rw [List.getD_eq_getElem?_getD, List.getElem?_zipWith, List.getD_eq_getElem?_getD, List.getD_eq_getElem?_getD]
  rcases Nat.lt_or_ge (t / 64) W with hlt | hge
  · rw [List.getElem?_eq_getElem (by rw [h.1]; exact hlt), List.getElem?_eq_getElem (by rw [h2.1]; exact hlt)]
    simp only [Option.getD_some]
    exact Nat.testBit_or ..
  · rw [List.getElem?_eq_none (by rw [h.1]; exact hge), List.getElem?_eq_none (by rw [h2.1]; exact hge)]; simp
theorem rowOf_ok {R : List (List Nat)} {W : Nat} : ∀ {deps : List Nat} {row : List Nat}, RowOk W row → (∀ k ∈ deps, RowOk W (R.getD k [])) → RowOk W (deps.foldl (stepRow R) row)
  | [], row, h, _ => h
  | k :: deps, row, h, hd => by
    rw [List.foldl_cons]
    exact rowOf_ok (orRow_ok (orBit_ok h k) (hd k (List.mem_cons_self ..))) fun j hj => hd j (List.mem_cons_of_mem _ hj)
theorem bit_rows {R : List (List Nat)} {W t : Nat} : ∀ {deps : List Nat} {row : List Nat}, RowOk W row → (∀ k ∈ deps, k / 64 < W ∧ RowOk W (R.getD k [])) → (bitAt (deps.foldl (stepRow R) row) t = true ↔ bitAt row t = true ∨ ∃ k ∈ deps, t = k ∨ bitAt (R.getD k []) t = true)
  | [], row, h, _ => by simp
  | k :: deps, row, h, hd => by
    obtain ⟨h1, h2⟩ := hd k (List.mem_cons_self ..)
    have hs : stepRow R row k = orRow (orBit row k) (R.getD k []) := rfl
    rw [List.foldl_cons, bit_rows (by rw [hs]; exact orRow_ok (orBit_ok h k) h2) fun j hj => hd j (List.mem_cons_of_mem _ hj), hs, bit_orRow (orBit_ok h k) h2, bit_orBit h h1]
    simp only [Bool.or_eq_true, decide_eq_true_eq, List.mem_cons, exists_eq_or_imp]
    constructor
    · intro h3
      rcases h3 with h3 | h3
      · rcases h3 with h3 | h3
        · rcases h3 with h3 | h3
          · exact .inr (.inl (.inl h3))
          · exact .inl h3
        · exact .inr (.inl (.inr h3))
      · exact .inr (.inr h3)
    · intro h3
      rcases h3 with h3 | h3
      · exact .inl (.inl (.inr h3))
      · rcases h3 with h3 | h3
        · rcases h3 with h3 | h3
          · exact .inl (.inl (.inl h3))
          · exact .inl (.inr h3)
        · exact .inr h3
theorem rep_ok {W : Nat} : RowOk W (List.replicate W 0) := ⟨List.length_replicate, fun v hv => by rw [(List.mem_replicate.1 hv).2]; exact Nat.two_pow_pos 64⟩
theorem bit_rep {W t : Nat} : bitAt (List.replicate W 0) t = false := by
  unfold bitAt
  rw [List.getD_eq_getElem?_getD, List.getElem?_replicate]
  split <;> simp
/-! ### What is under each node -/
def undStep (D : List (List Nat)) (W : Nat) (R : List (List Nat)) (i : Nat) : List (List Nat) := R.set i (undRow R W (D.getD i []))
def undV (D : List (List Nat)) (n W : Nat) (o : List Nat) : List (List Nat) := o.foldl (undStep D W) (List.replicate n [])
theorem und_len {D : List (List Nat)} {W : Nat} : ∀ {o : List Nat} {R : List (List Nat)}, (o.foldl (undStep D W) R).length = R.length
  | [], R => rfl
  | i :: o, R => by rw [List.foldl_cons, und_len, undStep, List.length_set]
theorem getD_setR {R : List (List Nat)} {k i : Nat} {d : List Nat} (hk : k < R.length) : (R.set k d).getD i [] = if k = i then d else R.getD i [] := by
  rw [List.getD_eq_getElem?_getD]
  split
  · rename_i e; subst e; rw [List.getElem?_set_self hk]; rfl
  · rename_i e; rw [List.getElem?_set_ne e, List.getD_eq_getElem?_getD]
/-- Over one step or more. -/
def Rch (D : List (List Nat)) (i t : Nat) : Prop := ∃ m, Walk D (m + 1) i t
theorem rch_first {D : List (List Nat)} {i t : Nat} : Rch D i t ↔ ∃ k ∈ D.getD i [], t = k ∨ Rch D k t := by
  constructor
  · rintro ⟨m, hw⟩
    have key : ∀ (m : Nat) (t : Nat), Walk D (m + 1) i t → ∃ k ∈ D.getD i [], Walk D m k t := fun m => by
      induction m with
      | zero =>
        rintro t ⟨c, h1, h2⟩
        obtain rfl : i = c := h1
        exact ⟨t, h2, rfl⟩
      | succ m ih =>
        rintro t ⟨c, h1, h2⟩
        obtain ⟨k, h3, h4⟩ := ih c h1
        exact ⟨k, h3, c, h4, h2⟩
    obtain ⟨k, h1, h2⟩ := key m t hw
    cases m with
    | zero => exact ⟨k, h1, .inl (Eq.symm h2)⟩
    | succ m => exact ⟨k, h1, .inr ⟨m, h2⟩⟩
  · rintro ⟨k, h1, rfl | ⟨m, h2⟩⟩
    · exact ⟨0, i, rfl, h1⟩
    · exact ⟨m + 1, Walk.front h1 h2⟩
theorem und_prefix {g : Graph} {o : List Nat} (h : TOk g o) : ∀ m : Nat, m ≤ o.length →
    (∀ i, i ∈ o.take m → RowOk (g.length / 64 + 1) (((o.take m).foldl (undStep (allDeps g) (g.length / 64 + 1)) (List.replicate g.length [])).getD i []) ∧
      ∀ t, t < g.length → (bitAt (((o.take m).foldl (undStep (allDeps g) (g.length / 64 + 1)) (List.replicate g.length [])).getD i []) t = true ↔ Rch (allDeps g) i t))
  | 0, _ => fun i hi => by simp at hi
  | m + 1, hm => by
    have ih := und_prefix h m (by omega)
    have hlen : ((o.take m).foldl (undStep (allDeps g) (g.length / 64 + 1)) (List.replicate g.length [])).length = g.length := by rw [und_len, List.length_replicate]
    obtain ⟨x, hx⟩ : ∃ x, o[m]? = some x := ⟨_, List.getElem?_eq_getElem (by omega)⟩
    have hxn := h.lt x (List.mem_of_getElem? hx)
    have ht : o.take (m + 1) = o.take m ++ [x] := by rw [List.take_add_one, hx]; rfl
    have hxnot : x ∉ o.take m := fun hq => by
      obtain ⟨j, hj⟩ := List.mem_iff_getElem?.1 hq
      have hjm : j < m := by have := (List.getElem?_eq_some_iff.1 hj).1; rw [List.length_take] at this; omega
      rw [List.getElem?_take_of_lt hjm] at hj
      obtain ⟨a1, a2⟩ := List.getElem?_eq_some_iff.1 hj
      obtain ⟨b1, b2⟩ := List.getElem?_eq_some_iff.1 hx
      have := (List.getElem_inj (h₀ := a1) (h₁ := b1) h.nd).1 (a2.trans b2.symm)
      omega
    rw [ht, List.foldl_append, List.foldl_cons, List.foldl_nil]
    generalize (o.take m).foldl (undStep (allDeps g) (g.length / 64 + 1)) (List.replicate g.length []) = R at *
    intro i hi
    rw [undStep, getD_setR (by omega)]
    rcases List.mem_append.1 hi with hi | hi
    · rw [if_neg (fun e : x = i => hxnot (by rw [e]; exact hi))]; exact ih i hi
    · rw [List.mem_singleton.1 hi, if_pos rfl]
      have hd : ∀ k ∈ (allDeps g).getD x [], k ∈ o.take m := fun k hk => h.bd m x hx k hk
      have hdk : ∀ k ∈ (allDeps g).getD x [], k / 64 < g.length / 64 + 1 ∧ RowOk (g.length / 64 + 1) (R.getD k []) := fun k hk => by
        have hkn := rowD_lt h.net x k hk
        exact ⟨by have := Nat.div_le_div_right (c := 64) (Nat.le_of_lt hkn); omega, (ih k (hd k hk)).1⟩
      refine ⟨rowOf_ok rep_ok fun k hk => (hdk k hk).2, fun t ht => ?_⟩
      rw [undRow, bit_rows rep_ok hdk, bit_rep, rch_first]
      simp only [Bool.false_eq_true, false_or]
      exact exists_congr fun k => and_congr_right fun hk => or_congr_right ((ih k (hd k hk)).2 t ht)
def undOf (g : Graph) : List (List Nat) := undV (allDeps g) g.length (g.length / 64 + 1) ((orderOf g).getD [])
theorem und_spec {g : Graph} {o : List Nat} (h : TOk g o) {i : Nat} (hi : i < g.length) : RowOk (g.length / 64 + 1) ((undOf g).getD i []) ∧ ∀ t, t < g.length → (bitAt ((undOf g).getD i []) t = true ↔ Rch (allDeps g) i t) := by
  have e : undOf g = o.foldl (undStep (allDeps g) (g.length / 64 + 1)) (List.replicate g.length []) := by unfold undOf undV; rw [h.ord]; rfl
  have := und_prefix h o.length (Nat.le_refl _) i
  rw [List.take_length, ← e] at this
  exact this (nd_all h.nd h.lt h.len hi)
/-! ### Needless edges -/
def needlessB (g : Graph) (i k : Nat) : Bool := ((allDeps g).getD i []).any fun c => bitAt ((undOf g).getD c []) k
theorem needless_iff {g : Graph} {o : List Nat} (h : TOk g o) {i k : Nat} (hk : k < g.length) : needlessB g i k = true ↔ ∃ c ∈ (allDeps g).getD i [], Rch (allDeps g) c k := by
  rw [needlessB, List.any_eq_true]
  exact exists_congr fun c => and_congr_right fun hc => (und_spec h (rowD_lt h.net i c hc)).2 k hk
theorem rch_pos {g : Graph} {o : List Nat} (h : TOk g o) : ∀ (m i t : Nat), i < g.length → Walk (allDeps g) (m + 1) i t → t < g.length ∧ o.idxOf t < o.idxOf i
  | 0, i, t, hi, ⟨c, h1, h2⟩ => by
    obtain rfl : i = c := h1
    exact ⟨rowD_lt h.net i t h2, pos_ltS h hi h2⟩
  | m + 1, i, t, hi, ⟨c, h1, h2⟩ => by
    obtain ⟨h3, h4⟩ := rch_pos h m i c hi h1
    have := pos_ltS h h3 h2
    exact ⟨rowD_lt h.net c t h2, by omega⟩
/-- Edges that are left. -/
def lessD (g : Graph) : List (List Nat) := (List.range g.length).map fun i => ((allDeps g).getD i []).filter fun k => !needlessB g i k
theorem lessD_at {g : Graph} {i : Nat} (hi : i < g.length) : (lessD g).getD i [] = ((allDeps g).getD i []).filter fun k => !needlessB g i k := by
  rw [lessD, List.getD_eq_getElem?_getD, List.getElem?_map, List.getElem?_range hi]; rfl
theorem less_sub {g : Graph} {o : List Nat} (h : TOk g o) : ∀ (m i t : Nat), i < g.length → Walk (lessD g) m i t → Walk (allDeps g) m i t
  | 0, i, t, _, hw => hw
  | m + 1, i, t, hi, ⟨c, h1, h2⟩ => by
    have h3 := less_sub h m i c hi h1
    have hc := Walk.lt (rowD_lt h.net) hi h3
    rw [lessD_at hc] at h2
    exact ⟨c, h3, (List.mem_filter.1 h2).1⟩
theorem rch_trans {D : List (List Nat)} {a b c : Nat} (h1 : Rch D a b) (h2 : Rch D b c) : Rch D a c := by
  obtain ⟨m, h1⟩ := h1
  obtain ⟨p, h2⟩ := h2
  exact ⟨m + 1 + p, (Walk.append (m := m + 1) (p := p + 1) h1 h2 : Walk D (m + 1 + (p + 1)) a c)⟩
/-- Without the needless edges all is reached that was. -/
theorem less_rch {g : Graph} {o : List Nat} (h : TOk g o) : ∀ (p i : Nat), i < g.length → o.idxOf i ≤ p → ∀ t, Rch (allDeps g) i t → Rch (lessD g) i t := by
  intro p
  induction p with
  | zero =>
    intro i hi hp t ⟨m, hw⟩
    have := (rch_pos h m i t hi hw).2; omega
  | succ p ih =>
    intro i hi hp t ht
    -- each one needed is reached
    have hdir : ∀ (q k : Nat), g.length - o.idxOf k ≤ q → k ∈ (allDeps g).getD i [] → Rch (lessD g) i k := by
      intro q
      induction q with
      | zero => intro k hq hk; have := pos_nS h (rowD_lt h.net i k hk); omega
      | succ q ihq =>
        intro k hq hk
        have hkn := rowD_lt h.net i k hk
        cases hn : needlessB g i k
        · exact ⟨0, i, rfl, by rw [lessD_at hi]; exact List.mem_filter.2 ⟨hk, by rw [hn]; rfl⟩⟩
        · obtain ⟨c, hc, hr⟩ := (needless_iff h hkn).1 hn
          have hcn := rowD_lt h.net i c hc
          obtain ⟨m, hw⟩ := hr
          have hpc := (rch_pos h m c k hcn hw).2
          have hpn := pos_nS h hcn
          have hci := pos_ltS h hi hc
          exact rch_trans (ihq c (by omega) hc) (ih c hcn (by omega) k ⟨m, hw⟩)
    obtain ⟨k, hk, hr⟩ := rch_first.1 ht
    have hkn := rowD_lt h.net i k hk
    have hpk := pos_ltS h hi hk
    rcases hr with rfl | hr
    · exact hdir _ t (Nat.le_refl _) hk
    · exact rch_trans (hdir _ k (Nat.le_refl _) hk) (ih k hkn (by omega) t hr)
theorem leS_ltG {a b : ByteArray} (h : strLt a b = true) : leS b a = false := by
  cases h2 : leS b a
  · rfl
  · unfold leS at h2
    rw [Bool.or_eq_true, decide_eq_true_eq] at h2
    rcases h2 with h2 | rfl
    · exact absurd (strLt_trans h h2) (by rw [strLt_irrefl]; decide)
    · rw [strLt_irrefl] at h; cases h
theorem prevV_okG {α : Type} {key : α → ByteArray} {l : List α} {m : Nat} {b : α} (hr : Rising key l) (hb : l[m]? = some b) : prevV l m (fun e => if leS (key b) (key e) = true then (8 : Int) else 0) = 0 := by
  unfold prevV
  split
  · rfl
  · rename_i h
    split
    · rename_i e he
      show (if leS (key b) (key e) = true then (8 : Int) else 0) = 0
      rw [leS_ltG (hr (m - 1) m e b (by omega) he hb)]; rfl
    · rfl
theorem ris_get {p : ByteArray → Bool} {l : List ByteArray} (h : risV p l = 0) : (∀ d ∈ l, p d = true) ∧ Rising (fun d : ByteArray => d) l := by
  have hz := fe_zero h
  have h1 : ∀ (m : Nat) d, l[m]? = some d → p d = true ∧ prevV l m (fun e => if leS d e = true then (8 : Int) else 0) = 0 := fun m d hd => by
    have := hz m (List.getElem?_eq_some_iff.1 hd).1
    rw [risErr_of hd] at this
    split at this
    · rename_i hp; exact ⟨hp, this⟩
    · cases this
  refine ⟨fun d hd => ?_, rising_of fun i x y hx hy => leS_false (prevV_zero (p := fun e => leS y e) hx (by decide) (h1 (i + 1) y hy).2)⟩
  obtain ⟨m, hm⟩ := List.mem_iff_getElem?.1 hd
  exact (h1 m d hm).1
theorem ris_mk {p : ByteArray → Bool} {l : List ByteArray} (h : ∀ d ∈ l, p d = true) (hr : Rising (fun d : ByteArray => d) l) : risV p l = 0 := by
  refine fe_none fun m hm => ?_
  have hd := List.getElem?_eq_getElem hm
  rw [risErr_of hd, if_pos (h _ (List.mem_of_getElem? hd))]
  exact prevV_okG (key := fun d : ByteArray => d) hr hd
theorem rising_pw {l : List ByteArray} : Rising (fun d : ByteArray => d) l ↔ l.Pairwise fun a b => strLt a b = true := by
  rw [List.pairwise_iff_getElem]
  constructor
  · intro h i j hi hj hij
    exact h i j _ _ hij (List.getElem?_eq_getElem hi) (List.getElem?_eq_getElem hj)
  · intro h i j x y hij hx hy
    obtain ⟨a1, a2⟩ := List.getElem?_eq_some_iff.1 hx
    obtain ⟨b1, b2⟩ := List.getElem?_eq_some_iff.1 hy
    have := h i j a1 b1 hij
    rw [a2, b2] at this; exact this
theorem ris_filter {p q : ByteArray → Bool} {l : List ByteArray} (h : risV p l = 0) : risV p (l.filter q) = 0 := by
  obtain ⟨h1, h2⟩ := ris_get h
  refine ris_mk (fun d hd => h1 d (List.mem_filter.1 hd).1) ?_
  rw [rising_pw] at h2 ⊢
  exact h2.filter q
/-- A node with other deps. -/
def withDeps (n : Node) (d : List ByteArray) : Node := (n.1, n.2.1, d, n.2.2.2)
theorem ck_with {n : Node} {d : List ByteArray} (h : ckNode n = 0) (h1 : d.length ≤ n.2.2.1.length) (h2 : risV isWholeV d = 0) : ckNode (withDeps n d) = 0 := by
  unfold ckNode at h ⊢
  split at h
  · cases h
  split at h
  · cases h
  split at h
  · cases h
  split at h
  · rename_i hh; exact absurd h hh
  rename_i a1 a2 a3 a4
  unfold withDeps
  dsimp only
  rw [if_neg a1, if_neg a2, if_neg (by omega), if_neg (by rw [h2]; exact fun h => h rfl)]; exact h
theorem ck_ris {n : Node} (h : ckNode n = 0) : risV isWholeV n.2.2.1 = 0 := by
  unfold ckNode at h
  split at h
  · cases h
  split at h
  · cases h
  split at h
  · cases h
  split at h
  · rename_i hh; exact absurd h hh
  · rename_i hh; simpa using hh
def lessN (g : Graph) (i : Nat) (x : Node) : Node := withDeps x (x.2.2.1.filter fun t => !needlessB g i (nIdx g t))
def lessG (g : Graph) : Graph := g.mapIdx (lessN g)
theorem less_len (g : Graph) : (lessG g).length = g.length := List.length_mapIdx
theorem less_at {g : Graph} {i : Nat} {x : Node} (h : g[i]? = some x) : (lessG g)[i]? = some (lessN g i x) := by rw [lessG, List.getElem?_mapIdx, h]; rfl
theorem less_labs (g : Graph) : (lessG g).map (fun n : Node => n.1) = g.map (fun n : Node => n.1) := by
  refine List.ext_getElem? fun i => ?_
  rw [List.getElem?_map, List.getElem?_map]
  cases h : g[i]? with
  | none => rw [List.getElem?_eq_none (by rw [less_len]; exact List.getElem?_eq_none_iff.1 h)]
  | some x => rw [less_at h]; rfl
theorem nIdx_labs (g : Graph) (t : ByteArray) : nIdx g t = (g.map fun n : Node => n.1).countP fun l => decide (cmpB l t < 0) := by
  rw [nIdx, bsIdx, List.countP_map]; rfl
theorem nHas_labs (g : Graph) (t : ByteArray) : nHas g t = (g.map fun n : Node => n.1).any fun l => decide (l = t) := by
  rw [nHas, hasK, List.any_map]; rfl
theorem less_idx (g : Graph) (t : ByteArray) : nIdx (lessG g) t = nIdx g t := by rw [nIdx_labs, nIdx_labs, less_labs]
theorem less_has (g : Graph) (t : ByteArray) : nHas (lessG g) t = nHas g t := by rw [nHas_labs, nHas_labs, less_labs]
theorem less_back {g : Graph} {i : Nat} {y : Node} (h : (lessG g)[i]? = some y) : ∃ x, g[i]? = some x ∧ y = lessN g i x := by
  have hi := (List.getElem?_eq_some_iff.1 h).1
  rw [less_len] at hi
  have hx := List.getElem?_eq_getElem hi
  rw [less_at hx] at h
  exact ⟨_, hx, (Option.some.inj h).symm⟩
theorem less_labN (g : Graph) : labN (lessG g) = labN g := by
  funext i
  cases h : g[i]? with
  | none =>
    have h2 : (lessG g)[i]? = none := List.getElem?_eq_none (by rw [less_len]; exact List.getElem?_eq_none_iff.1 h)
    unfold labN; rw [h, h2]
  | some x => rw [labN_of h, labN_of (less_at h)]; rfl
theorem less_deps (g : Graph) : allDeps (lessG g) = lessD g := by
  refine List.ext_getElem? fun i => ?_
  rw [allDeps, List.getElem?_map]
  cases h : g[i]? with
  | none =>
    have hl := List.getElem?_eq_none_iff.1 h
    rw [List.getElem?_eq_none (by rw [less_len]; exact hl), lessD, List.getElem?_map, List.getElem?_eq_none (by rw [List.length_range]; exact hl)]; rfl
  | some x =>
    have hi := (List.getElem?_eq_some_iff.1 h).1
    rw [less_at h, lessD, List.getElem?_map, List.getElem?_range hi]
    have hD : (allDeps g).getD i [] = depsOf g x := by rw [List.getD_eq_getElem?_getD, allDeps, List.getElem?_map, h]; rfl
    simp only [Option.map_some]
    rw [hD, depsOf, depsOf]
    show some (List.map (nIdx (lessG g)) (x.2.2.1.filter fun t => !needlessB g i (nIdx g t))) = _
    rw [List.filter_map, List.map_congr_left fun t _ => less_idx g t]; rfl
/-- What opens. -/
theorem op_zero {g : Graph} (h1 : g.length ≤ 1000) (h2 : ∀ n ∈ g, ckNode n = 0) (h3 : Rising (fun b : Node => b.1) g) (h4 : depsOk g = true) : opErr g = 0 := by
  unfold opErr
  have hz : firstErr (grErr g) 0 g.length = 0 := fe_none fun m hm => by
    have hx := List.getElem?_eq_getElem hm
    rw [grErr_of hx, if_neg (by rw [h2 _ (List.mem_of_getElem? hx)]; exact fun h => h rfl)]
    exact prevV_okG (key := fun b : Node => b.1) h3 hx
  rw [if_neg (by omega), hz, if_neg (fun h => h rfl), if_pos h4]
theorem less_open {g : Graph} {o : List Nat} (h : TOk g o) : opErr (lessG g) = 0 := by
  refine op_zero (by rw [less_len]; exact h.ok.len) (fun n hn => ?_) (fun i j x y hij hx hy => ?_) ?_
  · obtain ⟨i, hi⟩ := List.mem_iff_getElem?.1 hn
    obtain ⟨x, hx, rfl⟩ := less_back hi
    have hc := h.ok.nodes x (List.mem_of_getElem? hx)
    exact ck_with hc (List.length_filter_le ..) (ris_filter (ck_ris hc))
  · obtain ⟨x', hx', rfl⟩ := less_back hx
    obtain ⟨y', hy', rfl⟩ := less_back hy
    exact h.ok.rising i j x' y' hij hx' hy'
  · unfold depsOk
    rw [List.all_eq_true]
    intro n hn
    obtain ⟨i, hi⟩ := List.mem_iff_getElem?.1 hn
    obtain ⟨x, hx, rfl⟩ := less_back hi
    rw [List.all_eq_true]
    intro t ht
    rw [less_has]
    exact List.all_eq_true.1 (List.all_eq_true.1 h.ok.deps x (List.mem_of_getElem? hx)) t (List.mem_filter.1 ht).1
theorem less_tree {g : Graph} {o : List Nat} (h : TOk g o) : treeErr (lessG g) = 0 := by
  have h1 := less_open h
  have hG := gok_of h1
  have hN := net_ok hG
  have hs : (orderOf (lessG g)).isSome = true := by
    cases e : orderOf (lessG g) with
    | some l => rfl
    | none =>
      exfalso
      have hl := (order_iff hG).1 e
      obtain ⟨l, hl⟩ := Option.isSome_iff_exists.1 hl
      obtain ⟨i, c, hi, hc, hci, h0, _, _⟩ := loop_parts hN hl
      obtain ⟨a, ha, hw⟩ := steps_walk (rowU_lt hN) (sing_lt hi) _ c hc ((Int.toNat_of_nonneg h0).symm)
      rw [List.mem_singleton.1 ha] at hw
      have hw2 := Walk.turn (rowU_lt hN) (fun u x hu hx hm => net_mutual hG x u hx hu hm) hi hw
      rw [less_deps] at hw2 hci
      rw [less_len] at hi hc
      have hw3 := less_sub h _ c i hc hw2
      rw [lessD_at hi] at hci
      have := (rch_pos h _ i i hi (Walk.front (List.mem_filter.1 hci).1 hw3)).2
      omega
  unfold treeErr
  rw [h1, if_neg (fun h => h rfl), if_pos hs]
theorem less_needless {g : Graph} {o : List Nat} (h : TOk g o) {i k : Nat} (hi : i < g.length) (hk : k ∈ (lessD g).getD i []) : needlessB (lessG g) i k = false := by
  obtain ⟨o', h'⟩ := tok_of (less_tree h)
  have hk2 := hk
  rw [lessD_at hi] at hk2
  obtain ⟨h1, h2⟩ := List.mem_filter.1 hk2
  have hkn := rowD_lt h.net i k h1
  cases e : needlessB (lessG g) i k
  · rfl
  · obtain ⟨c, hc, m, hw⟩ := (needless_iff h' (by rw [less_len]; exact hkn)).1 e
    rw [less_deps] at hc hw
    rw [lessD_at hi] at hc
    have hcD := (List.mem_filter.1 hc).1
    have := (needless_iff h hkn).2 ⟨c, hcD, m, less_sub h _ c k (rowD_lt h.net i c hcD) hw⟩
    rw [this] at h2; cases h2
theorem less_numErr (g : Graph) (l : List ByteArray) : numErr (lessG g) l = numErr g l := by
  unfold numErr
  have : l.all (nHas (lessG g)) = l.all (nHas g) := by congr 1; funext t; exact less_has g t
  rw [this]
theorem less_reErr {g : Graph} {o : List Nat} (h : TOk g o) (h0 : treeErr g = 0) (l : List ByteArray) (m : Int) : reErr (lessG g) l m = reErr g l m := by
  unfold reErr
  rw [less_tree h, h0, less_numErr]
theorem less_reV {g : Graph} {o : List Nat} (h : TOk g o) {l : ByteArray} (hn : nHas g l = true) : (reV (lessG g) [l] (-1) false).map (labN (lessG g)) = (reV g [l] (-1) false).map (labN g) := by
  have h' := net_ok (gok_of (less_open h))
  rw [less_labN]
  congr 1
  have hl := nIdx_lt h.ok.rising hn
  unfold reV withinV numsV
  rw [less_len, less_deps]
  have e1 : [l].map (nIdx (lessG g)) = [nIdx g l] := by rw [List.map_cons, List.map_nil, less_idx]
  rw [e1]
  show (List.range g.length).filter _ = (List.range g.length).filter _
  refine List.filter_congr fun k hk => ?_
  have hk := List.mem_range.1 hk
  rw [show [l].map (nIdx g) = [nIdx g l] from rfl, Bool.eq_iff_iff, if_neg (by decide), if_neg (by decide)]
  have hr : ∀ i, ∀ k ∈ (lessD g).getD i [], k < g.length := fun i k hk => by
    rw [← less_deps] at hk
    have := rowD_lt h' i k hk
    rwa [less_len] at this
  rw [inM_iff hr (sing_lt hl) hk, inM_iff (rowD_lt h.net) (sing_lt hl) hk]
  refine exists_congr fun a => and_congr_right fun ha => ?_
  rw [List.mem_singleton.1 ha]
  constructor
  · rintro ⟨j, h1, h2⟩
    exact ⟨j, h1, less_sub h j _ k hl h2⟩
  · rintro ⟨j, h1, h2⟩
    cases j with
    | zero => exact ⟨0, h1, h2⟩
    | succ j =>
      obtain ⟨p, hp⟩ := less_rch h _ _ hl (Nat.le_refl _) k ⟨j, h2⟩
      exact ⟨p + 1, .inl (by decide), hp⟩
def fU (v : Nat) : FV := .int .u64 v
theorem or64 {a b : Nat} (ha : a < 2 ^ 64) (hb : b < 2 ^ 64) : IntKind.u64.wrap ((BitVec.ofInt IntKind.u64.bits (a : Int) ||| BitVec.ofInt IntKind.u64.bits (b : Int)).toNat : Int) = ((a ||| b : Nat) : Int) := by
  have h1 : (BitVec.ofInt 64 (a : Int) ||| BitVec.ofInt 64 (b : Int)).toNat = a ||| b := by
    rw [BitVec.toNat_or]
    simp only [BitVec.toNat_ofInt]
    rw [show ((a : Int) % ((2 ^ 64 : Nat) : Int)).toNat = a by omega, show ((b : Int) % ((2 ^ 64 : Nat) : Int)).toNat = b by omega]
  have h2 := Nat.or_lt_two_pow ha hb
  show IntKind.u64.wrap ((BitVec.ofInt 64 (a : Int) ||| BitVec.ofInt 64 (b : Int)).toNat : Int) = _
  rw [h1]
  generalize a ||| b = c at *
  rw [wrapu64] <;> omega
theorem shl64 {b : Nat} (hb : b < 64) : IntKind.u64.wrap ((2 : Int) ^ (min b 64)) = ((2 ^ b : Nat) : Int) := by
  have h2 : 2 ^ b < 2 ^ 64 := Nat.pow_lt_pow_right (by decide) hb
  rw [Nat.min_eq_left (by omega)]
  have : ((2 : Int) ^ b) = ((2 ^ b : Nat) : Int) := by rw [Int.natCast_pow]; rfl
  rw [this]
  generalize 2 ^ b = c at *
  rw [wrapu64] <;> omega
theorem shr64 {a b : Nat} (hb : b < 64) : (a : Int).fdiv (2 ^ (min b 64)) = ((a / 2 ^ b : Nat) : Int) := by
  rw [Nat.min_eq_left (by omega)]
  have : ((2 : Int) ^ b) = ((2 ^ b : Nat) : Int) := by rw [Int.natCast_pow]; rfl
  rw [this, Int.fdiv_eq_ediv_of_nonneg _ (Int.natCast_nonneg _)]; rfl
theorem and64 {a : Nat} (ha : a < 2 ^ 64) : IntKind.u64.wrap ((BitVec.ofInt IntKind.u64.bits (a : Int) &&& BitVec.ofInt IntKind.u64.bits 1).toNat : Int) = ((a % 2 : Nat) : Int) := by
  have h1 : (BitVec.ofInt 64 (a : Int) &&& BitVec.ofInt 64 1).toNat = a % 2 := by
    rw [BitVec.toNat_and]
    simp only [BitVec.toNat_ofInt]
    rw [show ((a : Int) % ((2 ^ 64 : Nat) : Int)).toNat = a by omega, show ((1 : Int) % ((2 ^ 64 : Nat) : Int)).toNat = 1 by decide, Nat.and_one_is_mod]
  show IntKind.u64.wrap ((BitVec.ofInt 64 (a : Int) &&& BitVec.ofInt 64 1).toNat : Int) = _
  rw [h1, wrapu64] <;> omega
theorem bit_test {a b : Nat} : decide (((a / 2 ^ b % 2 : Nat) : Int) = 1) = a.testBit b := by
  rw [Nat.testBit_eq_decide_div_mod_eq, decide_eq_decide]; omega
theorem div64 {a : Nat} : IntKind.i64.wrap ((a : Int).tdiv 64) = ((a / 64 : Nat) : Int) ∨ 9223372036854775807 < a := by
  by_cases h : 9223372036854775807 < a
  · exact .inr h
  · refine .inl ?_
    have : (a : Int).tdiv 64 = ((a / 64 : Nat) : Int) := rfl
    rw [this, wrap64] <;> omega
def frU (row : List Nat) : FV := .fr 1 (row.map fun v => [fU v])
def frUs (R : List (List Nat)) : FV := .fr 1 (R.map fun r => [frU r])
theorem ixf_ints (l : List Nat) (fn : FuncId) (caps : List AV) (p : Nat → Bool) (hl : l.length ≤ 1000000) (hp : ∀ x ∈ l, FRet Tryd.prog fn ([.f (fN x)] ++ caps) [.c (.v (.bool (p x)))]) (hcp : caps.all AV.pure = true) :
    FRet Tryd.prog 53 [.f (.fr 1 (l.map fun x => [fN x])), .clo (.func fn) caps] [.c (.v (.int .i64 (ixV p l)))] := by
  refine FCall.of_ax low_slices_IndexFunc_int_int ?_
  dsimp only [l_slices_IndexFunc_int_int]
  refine srun_sound 300 _ _ _ _ ?_
  repeat' (first
    | (simp -implicitDefEqProofs only [*, zr, Nat.reduceAdd, Nat.reduceSub, Nat.reduceMul, Nat.reduceLT, Nat.reduceLeDiff, Nat.reduceEqDiff, Nat.reduceBEq, reduceIte, reduceCtorEq, Int.reduceLE, Int.reduceLT, Int.reduceToNat, Int.reduceEq, Int.reduceNe])
    | ((first | apply condS_splitN | apply condS_split | apply guardS_splitTN | apply guardS_splitFN | apply guardD_splitTN | apply guardD_splitFN | apply guardS_splitT | apply guardS_splitF | apply guardD_splitT | apply guardD_splitF) <;> intro hc)
    | (refine callP0 rfl ?_)
    | (refine callD0 rfl ?_)
    | fail)
  refine ax_loopU (S := Nat) 19 [0, 1, 7] [] (fun s => [(8, .f (.int .i64 s))]) (fun s => []) (fun s => s ≤ l.length ∧ ∀ k x, k < s → l[k]? = some x → p x = false) (fun s => l.length - s) (0) [] ?_ ?_ fun s hs => ?_
  · exact ⟨Nat.zero_le _, fun k x h => absurd h (by omega)⟩
  · refine ⟨rfl, (by first | exact small_0 | exact small_mk rfl | (repeat (first | exact small_0 | exact small_mk rfl | refine small_upd rfl ?_ | refine small_sw rfl rfl ?_))), rfl, rfl, (by rfl), ?_, ?_⟩ <;> simp only [hcp, so_clo, zw, swN, ElOk, HlOk, Nat.reduceEqDiff, Nat.reduceBEq, Nat.reduceLT, Nat.reduceLeDiff, reduceIte, reduceCtorEq, H0, AObj.cells.injEq]
  obtain ⟨hi, hall⟩ := hs
  refine srun_sound 300 _ _ _ _ ?_
  have hA := hide hall
  clear hall
  rcases Nat.lt_or_ge s l.length with hlt | hge
  · obtain ⟨x, hx⟩ := get_some hlt
    have h4 := inc64 hlt (by omega)
    have h2 := lt_t hlt
    have hm := List.mem_of_getElem? hx
    cases hpx : p x
    · repeat' (first
        | (simp -implicitDefEqProofs only [*, List.getElem?_map, Option.map_some, zr, Nat.reduceAdd, Nat.reduceSub, Nat.reduceMul, Nat.reduceLT, Nat.reduceLeDiff, Nat.reduceEqDiff, Nat.reduceBEq, reduceIte, reduceCtorEq, Int.reduceLE, Int.reduceLT, Int.reduceToNat, Int.reduceEq, Int.reduceNe])
        | ((first | apply condS_splitN | apply condS_split | apply guardS_splitTN | apply guardS_splitFN | apply guardD_splitTN | apply guardD_splitFN | apply guardS_splitT | apply guardS_splitF | apply guardD_splitT | apply guardD_splitF) <;> intro hc)
        | (refine callP0 rfl ?_)
        | (refine callD0 rfl ?_)
        | (refine cC (hp x hm) ?_)
        | fail)
      refine ⟨s + 1, ⟨hlt, fun k y hk hy => ?_⟩, by omega, ?_⟩
      · rcases Nat.lt_succ_iff_lt_or_eq.1 hk with h1 | rfl
        · exact hA.out k y h1 hy
        · rw [hx] at hy; obtain rfl := Option.some.inj hy; exact hpx
      · refine ⟨rfl, (by first | exact small_0 | exact small_mk rfl | (repeat (first | exact small_0 | exact small_mk rfl | refine small_upd rfl ?_ | refine small_sw rfl rfl ?_))), rfl, rfl, (by rfl), ?_, ?_⟩ <;> simp only [hcp, so_clo, zw, swN, ElOk, HlOk, Nat.reduceEqDiff, Nat.reduceBEq, Nat.reduceLT, Nat.reduceLeDiff, reduceIte, reduceCtorEq, H0, AObj.cells.injEq]
    · have he := ix_hit hA.out hx hpx
      repeat' (first
        | (simp -implicitDefEqProofs only [*, List.getElem?_map, Option.map_some, zr, Nat.reduceAdd, Nat.reduceSub, Nat.reduceMul, Nat.reduceLT, Nat.reduceLeDiff, Nat.reduceEqDiff, Nat.reduceBEq, reduceIte, reduceCtorEq, Int.reduceLE, Int.reduceLT, Int.reduceToNat, Int.reduceEq, Int.reduceNe])
        | ((first | apply condS_splitN | apply condS_split | apply guardS_splitTN | apply guardS_splitFN | apply guardD_splitTN | apply guardD_splitFN | apply guardS_splitT | apply guardS_splitF | apply guardD_splitT | apply guardD_splitF) <;> intro hc)
        | (refine callP0 rfl ?_)
        | (refine callD0 rfl ?_)
        | (refine cC (hp x hm) ?_)
        | fail)
      exact ret_ve rfl
  · obtain rfl : s = l.length := by omega
    have h2 := lt_f hge
    have he := ix_none hA.out
    repeat' (first
      | (simp -implicitDefEqProofs only [*, zr, Nat.reduceAdd, Nat.reduceSub, Nat.reduceMul, Nat.reduceLT, Nat.reduceLeDiff, Nat.reduceEqDiff, Nat.reduceBEq, reduceIte, reduceCtorEq, Int.reduceLE, Int.reduceLT, Int.reduceToNat, Int.reduceEq, Int.reduceNe])
      | ((first | apply condS_splitN | apply condS_split | apply guardS_splitTN | apply guardS_splitFN | apply guardD_splitTN | apply guardD_splitFN | apply guardS_splitT | apply guardS_splitF | apply guardD_splitT | apply guardD_splitF) <;> intro hc)
      | (refine callP0 rfl ?_)
      | (refine callD0 rfl ?_)
      | fail)
    exact ret_ve rfl
theorem cf_ints (l : List Nat) (fn : FuncId) (caps : List AV) (p : Nat → Bool) (hl : l.length ≤ 1000000) (hp : ∀ x ∈ l, FRet Tryd.prog fn ([.f (fN x)] ++ caps) [.c (.v (.bool (p x)))]) (hcp : caps.all AV.pure = true) :
    FRet Tryd.prog 43 [.f (.fr 1 (l.map fun x => [fN x])), .clo (.func fn) caps] [.c (.v (.bool (l.any p)))] := by
  have hI := ixf_ints l fn caps p hl hp hcp
  have he := ix_any p l
  refine FCall.of_ax low_slices_ContainsFunc_int_int ?_
  dsimp only [l_slices_ContainsFunc_int_int]
  refine srun_sound 300 _ _ _ _ ?_
  replace hp := hide hp
  generalize ixV p l = i at *
  generalize l.any p = q at *
  repeat' (first
    | (simp -implicitDefEqProofs only [*, zr, Nat.reduceAdd, Nat.reduceSub, Nat.reduceMul, Nat.reduceLT, Nat.reduceLeDiff, Nat.reduceEqDiff, Nat.reduceBEq, reduceIte, reduceCtorEq, Int.reduceLE, Int.reduceLT, Int.reduceToNat, Int.reduceEq, Int.reduceNe])
    | ((first | apply condS_splitN | apply condS_split | apply guardS_splitTN | apply guardS_splitFN | apply guardD_splitTN | apply guardD_splitFN | apply guardS_splitT | apply guardS_splitF | apply guardD_splitT | apply guardD_splitF) <;> intro hc)
    | (refine callP0 rfl ?_)
    | (refine callD0 rfl ?_)
    | fail)
  refine cP hI ?_ (hp := by simpa [AV.pure, AV.pureL_all] using hcp)
  repeat' (first
    | (simp -implicitDefEqProofs only [*, zr, Nat.reduceAdd, Nat.reduceSub, Nat.reduceMul, Nat.reduceLT, Nat.reduceLeDiff, Nat.reduceEqDiff, Nat.reduceBEq, reduceIte, reduceCtorEq, Int.reduceLE, Int.reduceLT, Int.reduceToNat, Int.reduceEq, Int.reduceNe])
    | ((first | apply condS_splitN | apply condS_split | apply guardS_splitTN | apply guardS_splitFN | apply guardD_splitTN | apply guardD_splitFN | apply guardS_splitT | apply guardS_splitF | apply guardD_splitT | apply guardD_splitF) <;> intro hc)
    | (refine callP0 rfl ?_)
    | (refine callD0 rfl ?_)
    | fail)
  exact ret_ve rfl

/-- Rows that are there for the nodes that are asked for. -/
def UOk (n : Nat) (R : List (List Nat)) : Prop := R.length = n ∧ ∀ i, i < n → RowOk (n / 64 + 1) (R.getD i [])
theorem needC_f (R : List (List Nat)) (n c t : Nat) (hn : n ≤ 1000) (hR : UOk n R) (hc : c < n) (ht : t < n) : FRet Tryd.prog 44 ([.f (fN c)] ++ [.f (.fp [frUs R]), .f (.fp [fN t])]) [.c (.v (.bool (bitAt (R.getD c []) t)))] := by
  obtain ⟨row, hr⟩ := get_some (l := R) (i := c) (by rw [hR.1]; exact hc)
  have hrow := hR.2 c hc
  rw [getD_some hr] at hrow
  have htd : t / 64 < n / 64 + 1 := by have := Nat.div_le_div_right (c := 64) (Nat.le_of_lt ht); omega
  obtain ⟨v, hv⟩ := get_some (l := row) (i := t / 64) (by rw [hrow.1]; exact htd)
  have hvb := hrow.2 v (List.mem_of_getElem? hv)
  have hbt : bitAt (R.getD c []) t = v.testBit (t % 64) := by rw [getD_some hr]; unfold bitAt; rw [List.getD_eq_getElem?_getD, hv]; rfl
  rw [hbt, ← bit_test]
  have h1 : IntKind.i64.wrap ((t : Int).tdiv 64) = ((t / 64 : Nat) : Int) := (div64 (a := t)).resolve_right (by omega)
  have h2 : (t : Int).tmod 64 = ((t % 64 : Nat) : Int) := rfl
  have h3 := shr64 (a := v) (b := t % 64) (Nat.mod_lt _ (by decide))
  have h4 : v / 2 ^ (t % 64) < 2 ^ 64 := Nat.lt_of_le_of_lt (Nat.div_le_self ..) hvb
  have h5 := and64 h4
  have d1 : decide (c < R.length) = true := dec_t (by rw [hR.1]; exact hc)
  have d2 : decide (t / 64 < row.length) = true := dec_t (by rw [hrow.1]; exact htd)
  generalize t / 64 = a at *
  generalize t % 64 = b at *
  generalize v / 2 ^ b = w at *
  have h6 : IntKind.u64.bits = 64 := rfl
  have h7 : ((0 : Int) ≤ (b : Int)) = True := by rw [eq_iff_iff, iff_true]; omega
  replace hR := hide hR
  replace hrow := hide hrow
  refine FCall.of_ax low_graph_Needless_c1_c1 ?_
  dsimp only [l_graph_Needless_c1_c1]
  refine srun_sound 300 _ _ _ _ ?_
  repeat' (first
    | (simp -implicitDefEqProofs only [*, List.getElem?_map, Option.map_some, frUs, frU, fU, fN, zr, Nat.reduceAdd, Nat.reduceSub, Nat.reduceMul, Nat.reduceLT, Nat.reduceLeDiff, Nat.reduceEqDiff, Nat.reduceBEq, reduceIte, reduceCtorEq, Int.reduceLE, Int.reduceLT, Int.reduceToNat, Int.reduceEq, Int.reduceNe])
    | ((first | apply condS_splitN | apply condS_split | apply guardS_splitTN | apply guardS_splitFN | apply guardD_splitTN | apply guardD_splitFN | apply guardS_splitT | apply guardS_splitF | apply guardD_splitT | apply guardD_splitF) <;> intro hc)
    | (refine callP0 rfl ?_)
    | (refine callD0 rfl ?_)
    | fail)
  exact ret_ve rfl
def isNd (D R : List (List Nat)) (i k : Nat) : Bool := (D.getD i []).any fun c => bitAt (R.getD c []) k
theorem needP_f (g : Graph) (D U R : List (List Nat)) (i k : Nat) (hN : NetOk g.length D U) (hR : UOk g.length R) (hi : i < g.length) (hk : k < g.length) : FRet Tryd.prog 42 ([.f (fN i), .f (fN k)] ++ [.f (.fp [fNet g D U]), .f (.fp [frUs R])]) [.c (.v (.bool (isNd D R i k)))] := by
  obtain ⟨row, hr⟩ := get_some (l := D) (i := i) (by rw [hN.dl]; exact hi)
  obtain ⟨hr1, hr2⟩ := hN.dr row (List.mem_of_getElem? hr)
  have hC := cf_ints row 44 [.f (.fp [frUs R]), .f (.fp [fN k])] (fun c => bitAt (R.getD c []) k) (by omega) (fun c hc => needC_f R g.length c k hN.nl hR (hr2 c hc) hk) rfl
  have hb : isNd D R i k = row.any fun c => bitAt (R.getD c []) k := by unfold isNd; rw [getD_some hr]
  rw [hb]
  generalize (row.any fun c => bitAt (R.getD c []) k) = q at *
  have d1 : decide (i < D.length) = true := dec_t (by rw [hN.dl]; exact hi)
  replace hN := hide hN
  replace hR := hide hR
  replace hr2 := hide hr2
  refine FCall.of_ax low_graph_Needless_c1 ?_
  dsimp only [l_graph_Needless_c1, fNet]
  refine srun_sound 300 _ _ _ _ ?_
  repeat' (first
    | (simp -implicitDefEqProofs only [*, List.getElem?_map, Option.map_some, frRows, fN, zr, Nat.reduceAdd, Nat.reduceSub, Nat.reduceMul, Nat.reduceLT, Nat.reduceLeDiff, Nat.reduceEqDiff, Nat.reduceBEq, reduceIte, reduceCtorEq, Int.reduceLE, Int.reduceLT, Int.reduceToNat, Int.reduceEq, Int.reduceNe])
    | ((first | apply condS_splitN | apply condS_split | apply guardS_splitTN | apply guardS_splitFN | apply guardD_splitTN | apply guardD_splitFN | apply guardS_splitT | apply guardS_splitF | apply guardD_splitT | apply guardD_splitF) <;> intro hc)
    | (refine callP0 rfl ?_)
    | (refine callD0 rfl ?_)
    | fail)
  refine ax_weakA [] (nw := []) (n := 16) (el := [(13, .f (frN row)), (14, .clo (.func 44) [.f (.fp [frUs R]), .f (.fp [fN k])])]) (hl := []) rfl ?_ ?_
  · refine ⟨rfl, (by first | exact small_0 | exact small_mk rfl | (repeat (first | exact small_0 | exact small_mk rfl | refine small_upd rfl ?_ | refine small_sw rfl rfl ?_))), rfl, rfl, (by rfl), ?_, ?_⟩ <;> simp only [so_mf, mapOfH_some, so_ptf, so_cc, so_ff', cellsOf_some, List.drop_zero, List.take_succ_cons, List.take_zero, Nat.zero_add, frN, fN, zw, swN, ElOk, HlOk, Nat.reduceEqDiff, Nat.reduceBEq, Nat.reduceLT, Nat.reduceLeDiff, reduceIte, reduceCtorEq, H0, AObj.cells.injEq]
  repeat' (first
    | (simp -implicitDefEqProofs only [*, zr, Nat.reduceAdd, Nat.reduceSub, Nat.reduceMul, Nat.reduceLT, Nat.reduceLeDiff, Nat.reduceEqDiff, Nat.reduceBEq, reduceIte, reduceCtorEq, Int.reduceLE, Int.reduceLT, Int.reduceToNat, Int.reduceEq, Int.reduceNe])
    | ((first | apply condS_splitN | apply condS_split | apply guardS_splitTN | apply guardS_splitFN | apply guardD_splitTN | apply guardD_splitFN | apply guardS_splitT | apply guardS_splitF | apply guardD_splitT | apply guardD_splitF) <;> intro hc)
    | (refine callP0 rfl ?_)
    | (refine callD0 rfl ?_)
    | (refine cP (hC) ?_)
    | (refine cD (hC) ?_)
    | (refine cF (hC) ?_)
    | fail)
  exact ret_ve rfl
def eTo (D : List (List Nat)) (is : Nat → Nat → Bool) (s : Nat) : List (Nat × Nat) := (List.range s).flatMap fun i => ((D.getD i []).filter (is i)).map fun k => (i, k)
def eIn (D : List (List Nat)) (is : Nat → Nat → Bool) (s : Nat) (row : List Nat) (j : Nat) : List (Nat × Nat) := eTo D is s ++ ((row.take j).filter (is s)).map fun k => (s, k)
theorem eTo_succ {D : List (List Nat)} {is : Nat → Nat → Bool} {s : Nat} {row : List Nat} (h : D[s]? = some row) : eTo D is (s + 1) = eIn D is s row row.length := by
  unfold eTo eIn eTo
  rw [List.range_succ, List.flatMap_append, List.flatMap_cons, List.flatMap_nil, List.append_nil, getD_some h, List.take_length]
theorem eIn_succ {D : List (List Nat)} {is : Nat → Nat → Bool} {s j k : Nat} {row : List Nat} (h : row[j]? = some k) : eIn D is s row (j + 1) = eIn D is s row j ++ (if is s k = true then [(s, k)] else []) := by
  unfold eIn
  rw [List.take_add_one, h, List.filter_append, List.map_append, List.append_assoc]
  congr 2
  show (List.filter (is s) [k]).map _ = _
  rw [List.filter_cons, List.filter_nil]
  split <;> rfl
theorem eTo_len {D : List (List Nat)} {is : Nat → Nat → Bool} (h : ∀ r ∈ D, r.length ≤ 300) : ∀ s : Nat, (eTo D is s).length ≤ 300 * s
  | 0 => by simp [eTo]
  | s + 1 => by
    unfold eTo
    rw [List.range_succ, List.flatMap_append, List.length_append, List.flatMap_cons, List.flatMap_nil, List.append_nil, List.length_map]
    have h1 : (eTo D is s).length ≤ 300 * s := eTo_len h s
    have h2 := List.length_filter_le (is s) (D.getD s [])
    have h3 : (D.getD s []).length ≤ 300 := by
      rw [List.getD_eq_getElem?_getD]
      cases e : D[s]? with
      | none => simp
      | some r => exact h r (List.mem_of_getElem? e)
    unfold eTo at h1
    omega
def fE (g : Graph) (p : Nat × Nat) : List FV := [.str (labN g p.1), .str (labN g p.2)]
def edgesV (g : Graph) (D : List (List Nat)) (is : Nat → Nat → Bool) : List (Nat × Nat) := eTo D is g.length
theorem rowE_snoc {g : Graph} {l : List (Nat × Nat)} {i k : Nat} : ((rowF (fE g) l).map AV.f) ++ [.f (.str (labN g i)), .f (.str (labN g k))] = (rowF (fE g) (l ++ [(i, k)])).map .f := by
  unfold rowF; simp [fE]
theorem edges_f (g : Graph) (D U : List (List Nat)) (fn : FuncId) (caps : List AV) (is : Nat → Nat → Bool) (hN : NetOk g.length D U) (hp : ∀ i k, i < g.length → k < g.length → FRet Tryd.prog fn ([.f (fN i), .f (fN k)] ++ caps) [.c (.v (.bool (is i k)))]) (hcp : caps.all AV.pure = true) :
    FRet Tryd.prog 41 [.f (fNet g D U), .clo (.func fn) caps] [.c (.v (.fr 2 ((edgesV g D is).map (fE g))))] := by
  have hDl := hN.dl
  have hgl := hN.nl
  have hel := fun s => eTo_len (is := is) (fun r hr => (hN.dr r hr).1) s
  have hdr := hN.dr
  refine FCall.of_ax low_graph_net_edges ?_
  dsimp only [l_graph_net_edges, fNet, frRows]
  refine srun_sound 300 _ _ _ _ ?_
  replace hN := hide hN
  replace hp := hide hp
  replace hel := hide hel
  replace hdr := hide hdr
  repeat' (first
    | (simp -implicitDefEqProofs only [*, zr, Nat.reduceAdd, Nat.reduceSub, Nat.reduceMul, Nat.reduceLT, Nat.reduceLeDiff, Nat.reduceEqDiff, Nat.reduceBEq, reduceIte, reduceCtorEq, Int.reduceLE, Int.reduceLT, Int.reduceToNat, Int.reduceEq, Int.reduceNe])
    | ((first | apply condS_splitN | apply condS_split | apply guardS_splitTN | apply guardS_splitFN | apply guardD_splitTN | apply guardD_splitFN | apply guardS_splitT | apply guardS_splitF | apply guardD_splitT | apply guardD_splitF) <;> intro hc)
    | (refine callP0 rfl ?_)
    | (refine callD0 rfl ?_)
    | fail)
  refine ax_loopU (S := Nat) 53 [0, 1, 13, 14] [] (fun s => [(5, .sl 49 1 2 0 (eTo D is s).length), (15, .f (.int .i64 s))]) (fun s => [(49, 1, .cells ((rowF (fE g) (eTo D is s)).map .f))]) (fun s => s ≤ g.length) (fun s => g.length - s) (0) [49] ?_ ?_ fun s hs => ?_
  · exact Nat.zero_le _
  · refine ⟨rfl, (by first | exact small_0 | exact small_mk rfl | (repeat (first | exact small_0 | exact small_mk rfl | refine small_upd rfl ?_ | refine small_sw rfl rfl ?_))), rfl, rfl, (by rfl), ?_, ?_⟩ <;> simp only [hcp, so_clo, eTo, List.range_zero, List.flatMap_nil, zw, swN, ElOk, HlOk, Nat.reduceEqDiff, Nat.reduceBEq, Nat.reduceLT, Nat.reduceLeDiff, reduceIte, reduceCtorEq, H0, AObj.cells.injEq]
    rfl
  rcases Nat.lt_or_ge s g.length with hlt | hge
  · refine srun_sound 300 _ _ _ _ ?_
    obtain ⟨row, hr⟩ := get_some (l := D) (i := s) (by omega)
    obtain ⟨hr1, hr2⟩ := hdr.out row (List.mem_of_getElem? hr)
    have h4 := inc64 hlt (by omega)
    have h2 := lt_t hlt
    obtain ⟨x, hx⟩ := get_some hlt
    have hlx := labN_of hx
    repeat' (first
      | (simp -implicitDefEqProofs only [*, List.getElem?_map, Option.map_some, frN, zr, Nat.reduceAdd, Nat.reduceSub, Nat.reduceMul, Nat.reduceLT, Nat.reduceLeDiff, Nat.reduceEqDiff, Nat.reduceBEq, reduceIte, reduceCtorEq, Int.reduceLE, Int.reduceLT, Int.reduceToNat, Int.reduceEq, Int.reduceNe])
      | ((first | apply condS_splitN | apply condS_split | apply guardS_splitTN | apply guardS_splitFN | apply guardD_splitTN | apply guardD_splitFN | apply guardS_splitT | apply guardS_splitF | apply guardD_splitT | apply guardD_splitF) <;> intro hc)
      | (refine callP0 rfl ?_)
      | (refine callD0 rfl ?_)
      | fail)
    obtain ⟨i, rfl⟩ : ∃ i, i = s := ⟨_, rfl⟩
    have hsucc := eTo_succ (is := is) hr
    have hz : eIn D is i row 0 = eTo D is i := by unfold eIn; simp
    have hlen : ∀ j, (eIn D is i row j).length ≤ 300 * i + j := fun j => by
      have h1 := hel.out i
      have h2 := List.length_filter_le (is i) (row.take j)
      unfold eIn
      rw [List.length_append, List.length_map]
      rw [List.length_take] at h2
      omega
    replace hlen := hide hlen
    replace hsucc := hide hsucc
    refine ax_loopU (S := Nat) 53 [0, 1, 6, 13, 14, 15, 20, 21] [] (fun s => [(5, .sl 49 1 2 0 (eIn D is i row s).length), (22, .f (.int .i64 s))]) (fun s => [(49, 1, .cells ((rowF (fE g) (eIn D is i row s)).map .f))]) (fun s => s ≤ row.length) (fun s => row.length - s) (0) [] ?_ ?_ fun s hs => ?_
    · exact Nat.zero_le _
    · refine ⟨rfl, (by first | exact small_0 | exact small_mk rfl | (repeat (first | exact small_0 | exact small_mk rfl | refine small_upd rfl ?_ | refine small_sw rfl rfl ?_))), rfl, rfl, (by rfl), ?_, ?_⟩ <;> simp only [hcp, so_clo, hz, zw, swN, ElOk, HlOk, Nat.reduceEqDiff, Nat.reduceBEq, Nat.reduceLT, Nat.reduceLeDiff, reduceIte, reduceCtorEq, H0, AObj.cells.injEq]
    clear hz
    refine srun_sound 300 _ _ _ _ ?_
    rcases Nat.lt_or_ge s row.length with hlt2 | hge2
    · obtain ⟨k, hk⟩ := get_some hlt2
      have hkn := hr2 k (List.mem_of_getElem? hk)
      obtain ⟨y, hy⟩ := get_some hkn
      have hly := labN_of hy
      have g4 := inc64 hlt2 (by omega)
      have g2 := lt_t hlt2
      have g3 := lt_t hkn
      have hP := hp.out i k hlt hkn
      have hnx := eIn_succ (D := D) (is := is) (s := i) hk
      have hLn := hlen.out s
      have hst := rowE_snoc (g := g) (l := eIn D is i row s) (i := i) (k := k)
      rw [hlx, hly] at hst
      have hl1 : (eIn D is i row s ++ [(i, k)]).length = (eIn D is i row s).length + 1 := by simp
      generalize eIn D is i row s = L at *
      have hk8 := nle_t (show (L.length + 1) * 32 ≤ 140737488355328 by omega)
      replace hlx := hide hlx
      replace hly := hide hly
      have hrl : (rowF (fE g) L).length = L.length * 2 := row_len (fun _ => rfl)
      cases q : is i k
      · rw [q, if_neg (by decide), List.append_nil] at hnx
        rw [q] at hP
        replace hnx := hide hnx
        repeat' (first
          | (simp -implicitDefEqProofs only [*, List.getElem?_map, Option.map_some, fN, zr, Nat.reduceAdd, Nat.reduceSub, Nat.reduceMul, Nat.reduceLT, Nat.reduceLeDiff, Nat.reduceEqDiff, Nat.reduceBEq, reduceIte, reduceCtorEq, Int.reduceLE, Int.reduceLT, Int.reduceToNat, Int.reduceEq, Int.reduceNe])
          | ((first | apply condS_splitN | apply condS_split | apply guardS_splitTN | apply guardS_splitFN | apply guardD_splitTN | apply guardD_splitFN | apply guardS_splitT | apply guardS_splitF | apply guardD_splitT | apply guardD_splitF) <;> intro hc)
          | (refine callP0 rfl ?_)
          | (refine callD0 rfl ?_)
          | (refine cC (hP) ?_)
          | fail)
        refine ⟨s + 1, hlt2, by omega, ?_⟩
        rw [hnx.out]
        refine ⟨rfl, (by first | exact small_0 | exact small_mk rfl | (repeat (first | exact small_0 | exact small_mk rfl | refine small_upd rfl ?_ | refine small_sw rfl rfl ?_))), rfl, rfl, (by rfl), ?_, ?_⟩ <;> simp only [hcp, so_clo, zw, swN, ElOk, HlOk, Nat.reduceEqDiff, Nat.reduceBEq, Nat.reduceLT, Nat.reduceLeDiff, reduceIte, reduceCtorEq, H0, AObj.cells.injEq]
      · rw [q, if_pos rfl] at hnx
        rw [q] at hP
        replace hnx := hide hnx
        repeat' (first
          | (simp -implicitDefEqProofs only [*, List.getElem?_map, Option.map_some, fN, fNode, frNodes, zr, Nat.reduceAdd, Nat.reduceSub, Nat.reduceMul, Nat.reduceLT, Nat.reduceLeDiff, Nat.reduceEqDiff, Nat.reduceBEq, reduceIte, reduceCtorEq, Int.reduceLE, Int.reduceLT, Int.reduceToNat, Int.reduceEq, Int.reduceNe])
          | ((first | apply condS_splitN | apply condS_split | apply guardS_splitTN | apply guardS_splitFN | apply guardD_splitTN | apply guardD_splitFN | apply guardS_splitT | apply guardS_splitF | apply guardD_splitT | apply guardD_splitF) <;> intro hc)
          | (refine callP0 rfl ?_)
          | (refine callD0 rfl ?_)
          | (refine cC (hP) ?_)
          | fail)
        refine ⟨s + 1, hlt2, by omega, ?_⟩
        rw [hnx.out, hl1]
        refine ⟨rfl, (by first | exact small_0 | exact small_mk rfl | (repeat (first | exact small_0 | exact small_mk rfl | refine small_upd rfl ?_ | refine small_sw rfl rfl ?_))), rfl, rfl, (by rfl), ?_, ?_⟩ <;> simp only [hcp, so_clo, hst, zw, swN, ElOk, HlOk, Nat.reduceEqDiff, Nat.reduceBEq, Nat.reduceLT, Nat.reduceLeDiff, reduceIte, reduceCtorEq, H0, AObj.cells.injEq]
    · obtain rfl : s = row.length := by omega
      have g2 := lt_f hge2
      repeat' (first
        | (simp -implicitDefEqProofs only [*, zr, Nat.reduceAdd, Nat.reduceSub, Nat.reduceMul, Nat.reduceLT, Nat.reduceLeDiff, Nat.reduceEqDiff, Nat.reduceBEq, reduceIte, reduceCtorEq, Int.reduceLE, Int.reduceLT, Int.reduceToNat, Int.reduceEq, Int.reduceNe])
        | ((first | apply condS_splitN | apply condS_split | apply guardS_splitTN | apply guardS_splitFN | apply guardD_splitTN | apply guardD_splitFN | apply guardS_splitT | apply guardS_splitF | apply guardD_splitT | apply guardD_splitF) <;> intro hc)
        | (refine callP0 rfl ?_)
        | (refine callD0 rfl ?_)
        | fail)
      refine ⟨i + 1, hlt, by omega, ?_⟩
      rw [hsucc.out]
      refine ⟨rfl, (by first | exact small_0 | exact small_mk rfl | (repeat (first | exact small_0 | exact small_mk rfl | refine small_upd rfl ?_ | refine small_sw rfl rfl ?_))), rfl, rfl, (by rfl), ?_, ?_⟩ <;> simp only [hcp, so_clo, zw, swN, ElOk, HlOk, Nat.reduceEqDiff, Nat.reduceBEq, Nat.reduceLT, Nat.reduceLeDiff, reduceIte, reduceCtorEq, H0, AObj.cells.injEq]
  · obtain rfl : s = g.length := by omega
    have h2 := lt_f hge
    refine ax_weak (nw := []) (n := 53) (el := [(5, .f (.fr 2 ((edgesV g D is).map (fE g)))), (14, .f (.int .i64 g.length)), (15, .f (.int .i64 g.length))]) (hl := []) ?_ ?_
    · refine ⟨rfl, small_mk rfl, rfl, rfl, rfl, ⟨by decide, ?_, by decide, ?_, by decide, .inl rfl, trivial⟩, trivial⟩
      · have hso : ∀ L : List (Nat × Nat), SlotOk (mkH [(49, 1, .cells ((rowF (fE g) L).map .f))]) (mkH []) [] (.sl 49 1 2 0 L.length) (.f (.fr 2 (L.map (fE g)))) := fun L => so_row0 (enc := fE g) (fun _ => rfl) rfl rfl rfl
        exact hso _
      · rw [← hDl]; exact .inl rfl
    refine srun_sound 300 _ _ _ _ ?_
    repeat' (first
      | (simp -implicitDefEqProofs only [*, zr, Nat.reduceAdd, Nat.reduceSub, Nat.reduceMul, Nat.reduceLT, Nat.reduceLeDiff, Nat.reduceEqDiff, Nat.reduceBEq, reduceIte, reduceCtorEq, Int.reduceLE, Int.reduceLT, Int.reduceToNat, Int.reduceEq, Int.reduceNe])
      | ((first | apply condS_splitN | apply condS_split | apply guardS_splitTN | apply guardS_splitFN | apply guardD_splitTN | apply guardD_splitFN | apply guardS_splitT | apply guardS_splitF | apply guardD_splitT | apply guardD_splitF) <;> intro hc)
      | (refine callP0 rfl ?_)
      | (refine callD0 rfl ?_)
      | fail)
    exact ret_ve rfl
def fRow (r : List Nat) : FV := if r.length = 0 then .nil else frU r
theorem fRow_pos {r : List Nat} (h : 0 < r.length) : fRow r = frU r := by unfold fRow; rw [if_neg (by omega)]
def orTo (a b : List Nat) (t : Nat) : List Nat := List.zipWith (fun x y => x ||| y) (a.take t) (b.take t) ++ a.drop t
theorem orTo_0 {a b : List Nat} : orTo a b 0 = a := by simp [orTo]
theorem orTo_all {a b : List Nat} {W : Nat} (ha : a.length = W) (hb : b.length = W) : orTo a b W = orRow a b := by
  unfold orTo orRow
  rw [List.take_of_length_le (by omega), List.take_of_length_le (by omega), List.drop_of_length_le (by omega), List.append_nil]
theorem orTo_len {a b : List Nat} {W t : Nat} (ha : a.length = W) (hb : b.length = W) (ht : t ≤ W) : (orTo a b t).length = W := by
  unfold orTo
  rw [List.length_append, List.length_zipWith, List.length_take, List.length_take, List.length_drop]; omega
theorem orTo_at {a b : List Nat} {W t x : Nat} (ha : a.length = W) (hb : b.length = W) (ht : t < W) (hx : a[t]? = some x) : (orTo a b t)[t]? = some x := by
  have h1 : (List.zipWith (fun x y => x ||| y) (a.take t) (b.take t)).length = t := by rw [List.length_zipWith, List.length_take, List.length_take]; omega
  unfold orTo
  rw [List.getElem?_append_right (by omega), h1, Nat.sub_self, List.getElem?_drop, Nat.add_zero, hx]
theorem orTo_set {a b : List Nat} {W t x y : Nat} (ha : a.length = W) (hb : b.length = W) (ht : t < W) (hx : a[t]? = some x) (hy : b[t]? = some y) : (orTo a b t).set t (x ||| y) = orTo a b (t + 1) := by
  have h1 : (List.zipWith (fun x y => x ||| y) (a.take t) (b.take t)).length = t := by rw [List.length_zipWith, List.length_take, List.length_take]; omega
  have hd : a.drop t = x :: a.drop (t + 1) := by
    obtain ⟨h2, h3⟩ := List.getElem?_eq_some_iff.1 hx
    rw [List.drop_eq_getElem_cons h2, h3]
  unfold orTo
  rw [List.set_append_right _ _ (by omega), h1, Nat.sub_self, hd, List.set_cons_zero, List.take_add_one, List.take_add_one, hx, hy, Option.toList_some, Option.toList_some, List.zipWith_append (by rw [List.length_take, List.length_take]; omega), List.append_assoc]; rfl
theorem uset (L : List Nat) (k z : Nat) : ((L.map fU).map AV.f).set k (.f (.int .u64 z)) = ((L.set k z).map fU).map .f := by rw [List.map_set, List.map_set]; rfl
theorem zeros_u (n : Nat) : zeros n [FV.int .u64 0] = ((List.replicate n 0).map fU).map .f := by rw [zeros_one]; simp [fU]
theorem SlotsOk.set2 {H H' : Heap} {nw : List Nat} : ∀ {l l' : List AV} {i : Nat} {a a' : AV}, SlotsOk H H' nw l l' → SlotOk H H' nw a a' → SlotsOk H H' nw (l.set i a) (l'.set i a')
  | [], l', i, a, a', h, _ => by
    obtain rfl : l' = [] := h
    simp [SlotsOk]
  | b :: l, [], i, a, a', h, _ => h.elim
  | b :: l, b' :: l', 0, a, a', h, h2 => ⟨h2, h.2⟩
  | b :: l, b' :: l', i + 1, a, a', h, h2 => ⟨h.1, SlotsOk.set2 h.2 h2⟩
theorem frU_eq (l : List Nat) : frU l = .fr 1 ((l.map fU).map fun x => [x]) := by unfold frU; rw [List.map_map]; rfl
theorem frUs_eq (R : List (List Nat)) : frUs R = .fr 1 ((R.map frU).map fun x => [x]) := by unfold frUs; rw [List.map_map]; rfl
theorem Needless_f (g : Graph) (hb : GBound g) : FRet Tryd.prog 21 [.f (frNodes g)] [.c (.v (if treeErr g = 0 then .fr 2 ((edgesV g (allDeps g) (needlessB g)).map (fE g)) else .nil)), .c (.v (.int .i64 (treeErr g)))] := by
  have hT := tree_f g hb
  refine FCall.of_ax low_graph_Needless ?_
  dsimp only [l_graph_Needless]
  refine srun_sound 300 _ _ _ _ ?_
  by_cases h0 : treeErr g = 0
  · obtain ⟨o, hK⟩ := tok_of h0
    have hgl := hK.ok.len
    have hol := hK.len
    have hDl := hK.net.dl
    rw [h0, if_pos rfl, if_pos rfl, hK.ord] at hT
    rw [h0, if_pos rfl]
    dsimp only [ordR] at hT
    have hUO : UOk g.length (undOf g) := ⟨by unfold undOf undV; rw [und_len, List.length_replicate], fun i hi => (und_spec hK hi).1⟩
    have hE := edges_f g (allDeps g) (usersOf g) 42 [.f (.fp [fNet g (allDeps g) (usersOf g)]), .f (.fp [frUs (undOf g)])] (needlessB g) hK.net (fun i k hi hk => needP_f g (allDeps g) (usersOf g) (undOf g) i k hK.net hUO hi hk) rfl
    have hue : undOf g = o.foldl (undStep (allDeps g) (g.length / 64 + 1)) (List.replicate g.length []) := by unfold undOf undV; rw [hK.ord]; rfl
    have hpre := fun m (h : m ≤ o.length) i (hi : i ∈ o.take m) => (und_prefix hK m h i hi).1
    have hbd := hK.bd
    have hlt := hK.lt
    have hrl := fun r hr => hK.net.dr r hr
    have hself := self_of hK.nd hK.lt hol hK.bd hK.net.dl
    generalize edgesV g (allDeps g) (needlessB g) = EE at *
    generalize hW : g.length / 64 + 1 = W at *
    have hWb : W ≤ 17 := by omega
    replace hK := hide hK
    replace hUO := hide hUO
    replace hue := hide hue
    replace hpre := hide hpre
    replace hbd := hide hbd
    replace hlt := hide hlt
    replace hrl := hide hrl
    replace hself := hide hself
    replace hol := hide hol
    have k0 := le_tt (show (0 : Int) ≤ (g.length : Int) by omega)
    have k1 := le_tt (show ((g.length : Int) * ((24 : Nat) : Int)) ≤ 140737488355328 by omega)
    have k2 := le_tt (show (g.length : Int) ≤ 9223372036854775807 by omega)
    have w0 : IntKind.i64.wrap ((g.length : Int).tdiv 64) = ((g.length / 64 : Nat) : Int) := (div64 (a := g.length)).resolve_right (by omega)
    have w1 : IntKind.i64.wrap (((g.length / 64 : Nat) : Int) + 1) = (W : Int) := by rw [wrap64] <;> omega
    have w2 := le_tt (show (0 : Int) ≤ (W : Int) by omega)
    have w3 := le_tt (show ((W : Int) * ((8 : Nat) : Int)) ≤ 140737488355328 by omega)
    have w4 := le_tt (show (W : Int) ≤ 9223372036854775807 by omega)
    change FRet Tryd.prog 24 _ [.c (.v (fNet g (allDeps g) (usersOf g))), _, _] at hT
    have hno : (fNet g (allDeps g) (usersOf g)).isOne = true := rfl
    unfold frNodes at hT
    repeat' (first
      | (simp -implicitDefEqProofs only [*, Int.le_refl, frNodes, frN, zr, Nat.reduceAdd, Nat.reduceSub, Nat.reduceMul, Nat.reduceLT, Nat.reduceLeDiff, Nat.reduceEqDiff, Nat.reduceBEq, reduceIte, reduceCtorEq, Int.reduceLE, Int.reduceLT, Int.reduceToNat, Int.reduceEq, Int.reduceNe])
      | ((first | apply condS_splitN | apply condS_split | apply guardS_splitTN | apply guardS_splitFN | apply guardD_splitTN | apply guardD_splitFN | apply guardS_splitT | apply guardS_splitF | apply guardD_splitT | apply guardD_splitF) <;> intro hc)
      | (refine callP0 rfl ?_)
      | (refine callD0 rfl ?_)
      | (refine cP (hT) ?_)
      | (refine cD (hT) ?_)
      | (refine cF (hT) ?_)
      | fail)
    have hfn : fNet g (allDeps g) (usersOf g) = .fp [.fr 6 (g.map fNode), frRows (allDeps g), frRows (usersOf g)] := rfl
    refine ax_loopU (S := Nat) 91 [0, 4, 7, 26, 27] [4, 7] (fun s => [(28, .f (.int .i64 s))]) (fun s => [(25, 1, .cells ((((o.take s).foldl (undStep (allDeps g) W) (List.replicate g.length [])).map fRow).map .f))]) (fun s => s ≤ o.length) (fun s => o.length - s) (0) [] ?_ ?_ fun s hs => ?_
    · exact Nat.zero_le _
    · refine ⟨rfl, (by first | exact small_0 | exact small_mk rfl | (repeat (first | exact small_0 | exact small_mk rfl | refine small_upd rfl ?_ | refine small_sw rfl rfl ?_))), rfl, rfl, (by rfl), ?_, ?_⟩ <;> simp only [List.take_zero, List.foldl_nil, zw, swN, ElOk, HlOk, Nat.reduceEqDiff, Nat.reduceBEq, Nat.reduceLT, Nat.reduceLeDiff, reduceIte, reduceCtorEq, H0, AObj.cells.injEq]
      exact SlotsOk.of_eq (by rw [zeros_one]; simp [fRow])
    rcases Nat.lt_or_ge s o.length with hlo | hgo
    · refine srun_sound 300 _ _ _ _ ?_
      obtain ⟨i, hi⟩ := get_some hlo
      have hin := hlt.out i (List.mem_of_getElem? hi)
      have h4 := inc64 hlo (by have := hol.out; omega)
      have h2 := lt_t hlo
      have hnx : (o.take (s + 1)).foldl (undStep (allDeps g) W) (List.replicate g.length []) = undStep (allDeps g) W ((o.take s).foldl (undStep (allDeps g) W) (List.replicate g.length [])) i := by
        rw [List.take_add_one, hi, List.foldl_append]; rfl
      have hRl : ((o.take s).foldl (undStep (allDeps g) W) (List.replicate g.length [])).length = g.length := by rw [und_len, List.length_replicate]
      have hRo := hpre.out s (by omega)
      have hbi := hbd.out s i hi
      obtain ⟨row, hr⟩ := get_some (l := allDeps g) (i := i) (by omega)
      obtain ⟨hr1, hr2⟩ := hrl.out row (List.mem_of_getElem? hr)
      have hDi : (allDeps g).getD i [] = row := getD_some hr
      rw [hDi] at hbi
      have hsf := hself.out i
      rw [hDi] at hsf
      generalize (o.take s).foldl (undStep (allDeps g) W) (List.replicate g.length []) = R at *
      have hus : undStep (allDeps g) W R i = R.set i (undRow R W row) := by rw [undStep, hDi]
      have d3 := lt_t hin
      have p1 : (i < g.length) = True := by rw [eq_iff_iff, iff_true]; exact hin
      have p2 := nle_t (show i + 1 ≤ g.length by omega)
      obtain ⟨t, rfl⟩ : ∃ t, t = s := ⟨_, rfl⟩
      replace hnx := hide hnx
      replace hRo := hide hRo
      replace hbi := hide hbi
      replace hsf := hide hsf
      replace hus := hide hus
      replace hW := hide hW
      repeat' (first
        | (simp -implicitDefEqProofs only [*, Int.le_refl, List.getElem?_map, Option.map_some, fN, fNet, frRows, frN, List.length_set, zr, Nat.reduceAdd, Nat.reduceSub, Nat.reduceMul, Nat.reduceLT, Nat.reduceLeDiff, Nat.reduceEqDiff, Nat.reduceBEq, reduceIte, reduceCtorEq, Int.reduceLE, Int.reduceLT, Int.reduceToNat, Int.reduceEq, Int.reduceNe])
        | ((first | apply condS_splitN | apply condS_split | apply guardS_splitTN | apply guardS_splitFN | apply guardD_splitTN | apply guardD_splitFN | apply guardS_splitT | apply guardS_splitF | apply guardD_splitT | apply guardD_splitF) <;> intro hc)
        | (refine callP0 rfl ?_)
        | (refine callD0 rfl ?_)
        | fail)
      have hWp : 0 < W := by have := hW.out; omega
      refine ax_loopU (S := Nat) 91 [0, 4, 7, 9, 26, 27, 28, 46, 47] [4, 7, 25] (fun s => [(48, .f (.int .i64 s))]) (fun s => [(38, 1, .cells ((((row.take s).foldl (stepRow R) (List.replicate W 0)).map fU).map .f))]) (fun s => s ≤ row.length) (fun s => row.length - s) (0) [] ?_ ?_ fun s hs => ?_
      · exact Nat.zero_le _
      · refine ⟨rfl, (by first | exact small_0 | exact small_mk rfl | (repeat (first | exact small_0 | exact small_mk rfl | refine small_upd rfl ?_ | refine small_sw rfl rfl ?_))), rfl, rfl, (by rfl), ?_, ?_⟩ <;> simp only [List.take_zero, List.foldl_nil, zeros_u, zw, swN, ElOk, HlOk, Nat.reduceEqDiff, Nat.reduceBEq, Nat.reduceLT, Nat.reduceLeDiff, reduceIte, reduceCtorEq, H0, AObj.cells.injEq]
        exact SlotsOk.set2 (SlotsOk.fs rfl) ⟨rfl, rfl, rfl, rfl, rfl, rfl, by simp, rfl, rfl⟩
      have hpok := fun j => rowOf_ok (R := R) (W := W) (deps := row.take j) rep_ok fun k hk => hRo.out k (hbi.out k (List.mem_of_mem_take hk))
      replace hpok := hide hpok
      have hcl : (((R.map fRow).map AV.f).set i (.sl 38 1 1 0 W)).length = g.length := by rw [List.length_set, List.length_map, List.length_map]; exact hRl
      refine srun_sound 300 _ _ _ _ ?_
      rcases Nat.lt_or_ge s row.length with hlt2 | hge2
      · obtain ⟨k, hk⟩ := get_some hlt2
        have hkm := List.mem_of_getElem? hk
        have hkn := hr2 k hkm
        have hki : k ≠ i := fun e => hsf.out (by rw [← e]; exact hkm)
        have hrk := hRo.out k (hbi.out k hkm)
        obtain ⟨rk, hRk⟩ := get_some (l := R) (i := k) (by omega)
        rw [getD_some hRk] at hrk
        have hpk := hpok.out s
        have hnx2 : (row.take (s + 1)).foldl (stepRow R) (List.replicate W 0) = orRow (orBit ((row.take s).foldl (stepRow R) (List.replicate W 0)) k) rk := by
          rw [List.take_add_one, hk, List.foldl_append]
          show stepRow R _ k = _
          rw [stepRow, getD_some hRk]
        generalize (row.take s).foldl (stepRow R) (List.replicate W 0) = a at *
        have hq : k / 64 < W := by have := hW.out; have := Nat.div_le_div_right (c := 64) (Nat.le_of_lt hkn); omega
        obtain ⟨v, hv⟩ := get_some (l := a) (i := k / 64) (by rw [hpk.1]; exact hq)
        have hvb := hpk.2 v (List.mem_of_getElem? hv)
        have hob : orBit a k = a.set (k / 64) (v ||| 2 ^ (k % 64)) := by unfold orBit; rw [List.getD_eq_getElem?_getD, hv]; rfl
        have hbk : RowOk W (orBit a k) := orBit_ok hpk k
        have c1 : (((R.map fRow).map AV.f).set i (.sl 38 1 1 0 W))[i]? = some (.sl 38 1 1 0 W) := List.getElem?_set_self (by rw [List.length_map, List.length_map]; omega)
        have c2 : (((R.map fRow).map AV.f).set i (.sl 38 1 1 0 W))[k]? = some (.f (frU rk)) := by
          rw [List.getElem?_set_ne (fun e => hki e.symm), List.getElem?_map, List.getElem?_map, hRk, Option.map_some, Option.map_some, fRow_pos (by rw [hrk.1]; exact hWp)]
        have g4 := inc64 hlt2 (by omega)
        have g2 := lt_t hlt2
        have h1 : IntKind.i64.wrap ((k : Int).tdiv 64) = ((k / 64 : Nat) : Int) := (div64 (a := k)).resolve_right (by omega)
        have h3 : (k : Int).tmod 64 = ((k % 64 : Nat) : Int) := rfl
        have hb64 : k % 64 < 64 := Nat.mod_lt _ (by decide)
        have h5 : IntKind.u64.wrap (1 * 2 ^ min (k % 64) 64) = ((2 ^ (k % 64) : Nat) : Int) := by rw [Int.one_mul]; exact shl64 hb64
        have h6 : IntKind.u64.bits = 64 := rfl
        have h8 := or64 hvb (Nat.pow_lt_pow_right (a := 2) (by decide) hb64)
        have hset := uset a (k / 64) (v ||| 2 ^ (k % 64))
        rw [← hob] at hset
        have hal := hpk.1
        have p3 : (k / 64 < W) = True := by rw [eq_iff_iff, iff_true]; exact hq
        have p4 := nle_t (show k / 64 + 1 ≤ W by omega)
        have p5 : (k < g.length) = True := by rw [eq_iff_iff, iff_true]; exact hkn
        have p6 := nle_t (show k + 1 ≤ g.length by omega)
        have p7 : ((0 : Int) ≤ ((k % 64 : Nat) : Int)) = True := by rw [eq_iff_iff, iff_true]; omega
        have hfv : fU v = FV.int .u64 v := rfl
        replace hob := hide hob
        replace hpk := hide hpk
        replace hrk := hide hrk
        replace hnx2 := hide hnx2
        replace hbk := hide hbk
        generalize k / 64 = q at *
        generalize k % 64 = b at *
        generalize v ||| 2 ^ b = vb at *
        replace hki := hide hki
        repeat' (first
          | (simp -implicitDefEqProofs only [*, List.getElem?_map, Option.map_some, fN, frU, zr, Nat.reduceAdd, Nat.reduceSub, Nat.reduceMul, Nat.reduceLT, Nat.reduceLeDiff, Nat.reduceEqDiff, Nat.reduceBEq, reduceIte, reduceCtorEq, Int.reduceLE, Int.reduceLT, Int.reduceToNat, Int.reduceEq, Int.reduceNe])
          | ((first | apply condS_splitN | apply condS_split | apply guardS_splitTN | apply guardS_splitFN | apply guardD_splitTN | apply guardD_splitFN | apply guardS_splitT | apply guardS_splitF | apply guardD_splitT | apply guardD_splitF) <;> intro hc)
          | (refine callP0 rfl ?_)
          | (refine callD0 rfl ?_)
          | fail)
        have hbl := hbk.out.1
        have hrl2 := hrk.out.1
        obtain ⟨j, rfl⟩ : ∃ j, j = s := ⟨_, rfl⟩
        clear c2 h5 h8 h1 h3 hv p3 p4 p7
        generalize orBit a k = a1 at *
        refine ax_loopU (S := Nat) 91 [0, 4, 7, 9, 26, 27, 28, 46, 47, 48, 68, 69] [4, 7, 25] (fun s => [(70, .f (.int .i64 s))]) (fun s => [(38, 1, .cells (((orTo a1 rk s).map fU).map .f))]) (fun s => s ≤ W) (fun s => W - s) (0) [] ?_ ?_ fun s hs => ?_
        · exact Nat.zero_le _
        · refine ⟨rfl, (by first | exact small_0 | exact small_mk rfl | (repeat (first | exact small_0 | exact small_mk rfl | refine small_upd rfl ?_ | refine small_sw rfl rfl ?_))), rfl, rfl, (by rfl), ?_, ?_⟩ <;> simp only [orTo_0, hset, zw, swN, ElOk, HlOk, Nat.reduceEqDiff, Nat.reduceBEq, Nat.reduceLT, Nat.reduceLeDiff, reduceIte, reduceCtorEq, H0, AObj.cells.injEq]
          exact SlotsOk.set2 (SlotsOk.fs rfl) ⟨rfl, rfl, rfl, rfl, rfl, rfl, by simp, rfl, rfl⟩
        clear hset
        refine srun_sound 300 _ _ _ _ ?_
        rcases Nat.lt_or_ge s W with hlt3 | hge3
        · obtain ⟨x, hx⟩ := get_some (l := a1) (i := s) (by omega)
          obtain ⟨y, hy⟩ := get_some (l := rk) (i := s) (by omega)
          have hxa := orTo_at hbl hrl2 hlt3 hx
          have hsn := orTo_set hbl hrl2 hlt3 hx hy
          have hol2 := orTo_len (t := s) hbl hrl2 (by omega)
          have hxb := hbk.out.2 x (List.mem_of_getElem? hx)
          have hyb := hrk.out.2 y (List.mem_of_getElem? hy)
          have h8 := or64 hxb hyb
          have f4 := inc64 hlt3 (by omega)
          have f2 := lt_t hlt3
          have hset := uset (orTo a1 rk s) s (x ||| y)
          rw [hsn] at hset
          have q3 : (s < W) = True := by rw [eq_iff_iff, iff_true]; exact hlt3
          have q4 := nle_t (show s + 1 ≤ W by omega)
          have hfx : fU x = FV.int .u64 x := rfl
          have hfy : fU y = FV.int .u64 y := rfl
          replace hsn := hide hsn
          generalize x ||| y = xy at *
          generalize orTo a1 rk s = m0 at *
          replace hx := hide hx
          repeat' (first
            | (simp -implicitDefEqProofs only [*, List.getElem?_map, Option.map_some, zr, Nat.reduceAdd, Nat.reduceSub, Nat.reduceMul, Nat.reduceLT, Nat.reduceLeDiff, Nat.reduceEqDiff, Nat.reduceBEq, reduceIte, reduceCtorEq, Int.reduceLE, Int.reduceLT, Int.reduceToNat, Int.reduceEq, Int.reduceNe])
            | ((first | apply condS_splitN | apply condS_split | apply guardS_splitTN | apply guardS_splitFN | apply guardD_splitTN | apply guardD_splitFN | apply guardS_splitT | apply guardS_splitF | apply guardD_splitT | apply guardD_splitF) <;> intro hc)
            | (refine callP0 rfl ?_)
            | (refine callD0 rfl ?_)
            | fail)
          refine ⟨s + 1, hlt3, by omega, ?_⟩
          refine ⟨rfl, (by first | exact small_0 | exact small_mk rfl | (repeat (first | exact small_0 | exact small_mk rfl | refine small_upd rfl ?_ | refine small_sw rfl rfl ?_))), rfl, rfl, (by rfl), ?_, ?_⟩ <;> simp only [hset, zw, swN, ElOk, HlOk, Nat.reduceEqDiff, Nat.reduceBEq, Nat.reduceLT, Nat.reduceLeDiff, reduceIte, reduceCtorEq, H0, AObj.cells.injEq]
          exact SlotsOk.set2 (SlotsOk.fs rfl) ⟨rfl, rfl, rfl, rfl, rfl, rfl, by simp, rfl, rfl⟩
        · obtain rfl : s = W := by omega
          have f2 := lt_f hge3
          rw [orTo_all hbl hrl2]
          repeat' (first
            | (simp -implicitDefEqProofs only [*, zr, Nat.reduceAdd, Nat.reduceSub, Nat.reduceMul, Nat.reduceLT, Nat.reduceLeDiff, Nat.reduceEqDiff, Nat.reduceBEq, reduceIte, reduceCtorEq, Int.reduceLE, Int.reduceLT, Int.reduceToNat, Int.reduceEq, Int.reduceNe])
            | ((first | apply condS_splitN | apply condS_split | apply guardS_splitTN | apply guardS_splitFN | apply guardD_splitTN | apply guardD_splitFN | apply guardS_splitT | apply guardS_splitF | apply guardD_splitT | apply guardD_splitF) <;> intro hc)
            | (refine callP0 rfl ?_)
            | (refine callD0 rfl ?_)
            | fail)
          refine ⟨j + 1, hlt2, by omega, ?_⟩
          rw [hnx2.out]
          refine ⟨rfl, (by first | exact small_0 | exact small_mk rfl | (repeat (first | exact small_0 | exact small_mk rfl | refine small_upd rfl ?_ | refine small_sw rfl rfl ?_))), rfl, rfl, (by rfl), ?_, ?_⟩ <;> simp only [zw, swN, ElOk, HlOk, Nat.reduceEqDiff, Nat.reduceBEq, Nat.reduceLT, Nat.reduceLeDiff, reduceIte, reduceCtorEq, H0, AObj.cells.injEq]
          exact SlotsOk.set2 (SlotsOk.fs rfl) ⟨rfl, rfl, rfl, rfl, rfl, rfl, by simp, rfl, rfl⟩
      · obtain rfl : s = row.length := by omega
        have g2 := lt_f hge2
        have hpk := hpok.out row.length
        rw [List.take_length] at hpk ⊢
        rw [show row.foldl (stepRow R) (List.replicate W 0) = undRow R W row from rfl] at hpk ⊢
        repeat' (first
          | (simp -implicitDefEqProofs only [*, zr, Nat.reduceAdd, Nat.reduceSub, Nat.reduceMul, Nat.reduceLT, Nat.reduceLeDiff, Nat.reduceEqDiff, Nat.reduceBEq, reduceIte, reduceCtorEq, Int.reduceLE, Int.reduceLT, Int.reduceToNat, Int.reduceEq, Int.reduceNe])
          | ((first | apply condS_splitN | apply condS_split | apply guardS_splitTN | apply guardS_splitFN | apply guardD_splitTN | apply guardD_splitFN | apply guardS_splitT | apply guardS_splitF | apply guardD_splitT | apply guardD_splitF) <;> intro hc)
          | (refine callP0 rfl ?_)
          | (refine callD0 rfl ?_)
          | fail)
        refine ⟨t + 1, hlo, by omega, ?_⟩
        rw [hnx.out, hus.out]
        generalize undRow R W row = b at *
        refine ⟨rfl, (by first | exact small_0 | exact small_mk rfl | (repeat (first | exact small_0 | exact small_mk rfl | refine small_upd rfl ?_ | refine small_sw rfl rfl ?_))), rfl, rfl, (by rfl), ?_, ?_⟩ <;> simp only [zw, swN, ElOk, HlOk, Nat.reduceEqDiff, Nat.reduceBEq, Nat.reduceLT, Nat.reduceLeDiff, reduceIte, reduceCtorEq, H0, AObj.cells.injEq]
        have e : ∀ X : AV, ((R.map fRow).map AV.f).set i X = (((R.set i b).map fRow).map AV.f).set i X := fun X => by
          rw [List.map_set, List.map_set, List.set_set]
        rw [e]
        refine SlotsOk.set fun y hy => ?_
        rw [List.getElem?_map, List.getElem?_set_self (by omega), Option.map_some, fRow_pos (by rw [hpk.1]; exact hWp), frU_eq] at hy
        obtain rfl := Option.some.inj hy
        exact so_cells1 (l := b.map fU) rfl rfl (by rw [List.length_map]; exact hpk.1)
    · obtain rfl : s = o.length := by omega
      have h2 := lt_f hgo
      rw [List.take_length, ← hue.out]
      have hall : (undOf g).map fRow = (undOf g).map frU := List.map_congr_left fun r hr => by
        obtain ⟨k, hk⟩ := List.mem_iff_getElem?.1 hr
        have hkl : k < g.length := by have := (List.getElem?_eq_some_iff.1 hk).1; rw [hUO.out.1] at this; exact this
        have := (hUO.out.2 k hkl).1
        rw [getD_some hk] at this
        exact fRow_pos (by omega)
      have hull := hUO.out.1
      rw [hall]
      clear hall
      generalize undOf g = UU at *
      refine ax_weak (nw := []) (n := 91) (el := [(4, .ptr 4 1 0), (7, .ptr 7 1 0), (27, .f (.int .i64 o.length)), (28, .f (.int .i64 o.length))]) (hl := [(4, 1, .cells [.f (fNet g (allDeps g) (usersOf g))]), (7, 1, .cells [.f (frUs UU)])]) ?_ ?_
      · refine ⟨rfl, (by first | exact small_0 | exact small_mk rfl | (repeat (first | exact small_0 | exact small_mk rfl | refine small_upd rfl ?_ | refine small_sw rfl rfl ?_))), rfl, rfl, (by rfl), ?_, ?_⟩ <;> simp only [zw, swN, ElOk, HlOk, Nat.reduceEqDiff, Nat.reduceBEq, Nat.reduceLT, Nat.reduceLeDiff, reduceIte, reduceCtorEq, H0, AObj.cells.injEq]
        rw [frUs_eq]
        exact so_cells1 (l := UU.map frU) rfl rfl (by rw [List.length_map]; exact hull)
      refine ax_weak (nw := []) (n := 91) (el := [(4, .f (.fp [fNet g (allDeps g) (usersOf g)])), (7, .f (.fp [frUs UU])), (27, .f (.int .i64 o.length)), (28, .f (.int .i64 o.length))]) (hl := []) ?_ ?_
      · refine ⟨rfl, (by first | exact small_0 | exact small_mk rfl | (repeat (first | exact small_0 | exact small_mk rfl | refine small_upd rfl ?_ | refine small_sw rfl rfl ?_))), rfl, rfl, (by rfl), ?_, ?_⟩ <;> simp only [so_ptf, so_ff', cellsOf_some, List.drop_zero, List.take_succ_cons, List.take_zero, Nat.zero_add, zw, swN, ElOk, HlOk, Nat.reduceEqDiff, Nat.reduceBEq, Nat.reduceLT, Nat.reduceLeDiff, reduceIte, reduceCtorEq, H0, AObj.cells.injEq]
      refine srun_sound 300 _ _ _ _ ?_
      repeat' (first
        | (simp -implicitDefEqProofs only [*, zr, Nat.reduceAdd, Nat.reduceSub, Nat.reduceMul, Nat.reduceLT, Nat.reduceLeDiff, Nat.reduceEqDiff, Nat.reduceBEq, reduceIte, reduceCtorEq, Int.reduceLE, Int.reduceLT, Int.reduceToNat, Int.reduceEq, Int.reduceNe])
        | ((first | apply condS_splitN | apply condS_split | apply guardS_splitTN | apply guardS_splitFN | apply guardD_splitTN | apply guardD_splitFN | apply guardS_splitT | apply guardS_splitF | apply guardD_splitT | apply guardD_splitF) <;> intro hc)
        | (refine callP0 rfl ?_)
        | (refine callD0 rfl ?_)
        | (refine cP (hE) ?_)
        | (refine cD (hE) ?_)
        | (refine cF (hE) ?_)
        | fail)
      exact ret_vve rfl rfl
  · rw [if_neg h0, if_neg h0] at hT
    rw [if_neg h0]
    have hd := dec_f h0
    generalize treeErr g = e at *
    unfold nilP at hT
    repeat' (first
      | (simp -implicitDefEqProofs only [*, zr, Nat.reduceAdd, Nat.reduceSub, Nat.reduceMul, Nat.reduceLT, Nat.reduceLeDiff, Nat.reduceEqDiff, Nat.reduceBEq, reduceIte, reduceCtorEq, Int.reduceLE, Int.reduceLT, Int.reduceToNat, Int.reduceEq, Int.reduceNe])
      | ((first | apply condS_splitN | apply condS_split | apply guardS_splitTN | apply guardS_splitFN | apply guardD_splitTN | apply guardD_splitFN | apply guardS_splitT | apply guardS_splitF | apply guardD_splitT | apply guardD_splitF) <;> intro hc)
      | (refine callP0 rfl ?_)
      | (refine callD0 rfl ?_)
      | (refine cP (hT) ?_)
      | (refine cD (hT) ?_)
      | (refine cF (hT) ?_)
      | fail)
    all_goals first | exact ret_vve rfl rfl | (rw [hd] at hc; cases hc)
def fP (p : ByteArray × ByteArray) : List FV := [.str p.1, .str p.2]
def hasP (L : List (ByteArray × ByteArray)) (a b : ByteArray) : Bool := L.any fun p => decide (a = p.1) && decide (b = p.2)
theorem anyP_none {L : List (ByteArray × ByteArray)} {a b : ByteArray} (h : ∀ (m : Nat) x, m < L.length → L[m]? = some x → (decide (a = x.1) && decide (b = x.2)) = false) : hasP L a b = false := by
  unfold hasP
  rw [List.any_eq_false]
  intro x hx
  obtain ⟨m, hm⟩ := List.mem_iff_getElem?.1 hx
  rw [h m x (List.getElem?_eq_some_iff.1 hm).1 hm]; decide
theorem idxE_f (L : List (ByteArray × ByteArray)) (a b : ByteArray) (hl : L.length ≤ 1000000) : FRet Tryd.prog 45 [.f (.fr 2 (L.map fP)), .agg [.f (.str a), .f (.str b)]] [.c (.v (.int .i64 (ixV (fun p => decide (a = p.1) && decide (b = p.2)) L)))] := by
  refine FCall.of_ax low_slices_Index_api_Edge_api_Edge ?_
  dsimp only [l_slices_Index_api_Edge_api_Edge]
  refine srun_sound 300 _ _ _ _ ?_
  repeat' (first
    | (simp -implicitDefEqProofs only [*, zr, Nat.reduceAdd, Nat.reduceSub, Nat.reduceMul, Nat.reduceLT, Nat.reduceLeDiff, Nat.reduceEqDiff, Nat.reduceBEq, reduceIte, reduceCtorEq, Int.reduceLE, Int.reduceLT, Int.reduceToNat, Int.reduceEq, Int.reduceNe])
    | ((first | apply condS_splitN | apply condS_split | apply guardS_splitTN | apply guardS_splitFN | apply guardD_splitTN | apply guardD_splitFN | apply guardS_splitT | apply guardS_splitF | apply guardD_splitT | apply guardD_splitF) <;> intro hc)
    | (refine callP0 rfl ?_)
    | (refine callD0 rfl ?_)
    | fail)
  refine ax_loopU (S := Nat) 19 [0, 3, 7] [3] (fun s => [(8, .f (.int .i64 s))]) (fun s => []) (fun s => s ≤ L.length ∧ ∀ k x, k < s → L[k]? = some x → (decide (a = x.1) && decide (b = x.2)) = false) (fun s => L.length - s) (0) [] ?_ ?_ fun s hs => ?_
  · exact ⟨Nat.zero_le _, fun k x h => absurd h (by omega)⟩
  · refine ⟨rfl, (by first | exact small_0 | exact small_mk rfl | (repeat (first | exact small_0 | exact small_mk rfl | refine small_upd rfl ?_ | refine small_sw rfl rfl ?_))), rfl, rfl, (by rfl), ?_, ?_⟩ <;> simp only [zw, swN, ElOk, HlOk, Nat.reduceEqDiff, Nat.reduceBEq, Nat.reduceLT, Nat.reduceLeDiff, reduceIte, reduceCtorEq, H0, AObj.cells.injEq]
  obtain ⟨hi, hall⟩ := hs
  refine srun_sound 300 _ _ _ _ ?_
  have hA := hide hall
  clear hall
  rcases Nat.lt_or_ge s L.length with hlt | hge
  · obtain ⟨x, hx⟩ := get_some hlt
    have h4 := inc64 hlt (by omega)
    have h2 := lt_t hlt
    have hnx : ∀ (hc : (decide (a = x.1) && decide (b = x.2)) = false), ∀ k y, k < s + 1 → L[k]? = some y → (decide (a = y.1) && decide (b = y.2)) = false := fun hc k y hk hy => by
      rcases Nat.lt_succ_iff_lt_or_eq.1 hk with h1 | rfl
      · exact hA.out k y h1 hy
      · rw [hx] at hy; obtain rfl := Option.some.inj hy; exact hc
    have hit := fun hc => ix_hit (p := fun p : ByteArray × ByteArray => decide (a = p.1) && decide (b = p.2)) hA.out hx hc
    replace hit := hide hit
    cases q1 : decide (a = x.1) <;> cases q2 : decide (b = x.2)
    · have hst := hnx (by rw [q1, q2]; rfl)
      replace hnx := hide hnx
      replace hst := hide hst
      repeat' (first
        | (simp -implicitDefEqProofs only [*, List.getElem?_map, Option.map_some, fP, Bool.false_and, Bool.and_false, Bool.and_true, zr, Nat.reduceAdd, Nat.reduceSub, Nat.reduceMul, Nat.reduceLT, Nat.reduceLeDiff, Nat.reduceEqDiff, Nat.reduceBEq, reduceIte, reduceCtorEq, Int.reduceLE, Int.reduceLT, Int.reduceToNat, Int.reduceEq, Int.reduceNe])
        | ((first | apply condS_splitN | apply condS_split | apply guardS_splitTN | apply guardS_splitFN | apply guardD_splitTN | apply guardD_splitFN | apply guardS_splitT | apply guardS_splitF | apply guardD_splitT | apply guardD_splitF) <;> intro hc)
        | (refine callP0 rfl ?_)
        | (refine callD0 rfl ?_)
        | fail)
      refine ⟨s + 1, ⟨hlt, hst.out⟩, by omega, ?_⟩
      refine ⟨rfl, (by first | exact small_0 | exact small_mk rfl | (repeat (first | exact small_0 | exact small_mk rfl | refine small_upd rfl ?_ | refine small_sw rfl rfl ?_))), rfl, rfl, (by rfl), ?_, ?_⟩ <;> simp only [zw, swN, ElOk, HlOk, Nat.reduceEqDiff, Nat.reduceBEq, Nat.reduceLT, Nat.reduceLeDiff, reduceIte, reduceCtorEq, H0, AObj.cells.injEq]
    · have hst := hnx (by rw [q1, q2]; rfl)
      replace hnx := hide hnx
      replace hst := hide hst
      repeat' (first
        | (simp -implicitDefEqProofs only [*, List.getElem?_map, Option.map_some, fP, Bool.false_and, Bool.and_false, Bool.and_true, zr, Nat.reduceAdd, Nat.reduceSub, Nat.reduceMul, Nat.reduceLT, Nat.reduceLeDiff, Nat.reduceEqDiff, Nat.reduceBEq, reduceIte, reduceCtorEq, Int.reduceLE, Int.reduceLT, Int.reduceToNat, Int.reduceEq, Int.reduceNe])
        | ((first | apply condS_splitN | apply condS_split | apply guardS_splitTN | apply guardS_splitFN | apply guardD_splitTN | apply guardD_splitFN | apply guardS_splitT | apply guardS_splitF | apply guardD_splitT | apply guardD_splitF) <;> intro hc)
        | (refine callP0 rfl ?_)
        | (refine callD0 rfl ?_)
        | fail)
      refine ⟨s + 1, ⟨hlt, hst.out⟩, by omega, ?_⟩
      refine ⟨rfl, (by first | exact small_0 | exact small_mk rfl | (repeat (first | exact small_0 | exact small_mk rfl | refine small_upd rfl ?_ | refine small_sw rfl rfl ?_))), rfl, rfl, (by rfl), ?_, ?_⟩ <;> simp only [zw, swN, ElOk, HlOk, Nat.reduceEqDiff, Nat.reduceBEq, Nat.reduceLT, Nat.reduceLeDiff, reduceIte, reduceCtorEq, H0, AObj.cells.injEq]
    · have hst := hnx (by rw [q1, q2]; rfl)
      replace hnx := hide hnx
      replace hst := hide hst
      repeat' (first
        | (simp -implicitDefEqProofs only [*, List.getElem?_map, Option.map_some, fP, Bool.false_and, Bool.and_false, Bool.and_true, zr, Nat.reduceAdd, Nat.reduceSub, Nat.reduceMul, Nat.reduceLT, Nat.reduceLeDiff, Nat.reduceEqDiff, Nat.reduceBEq, reduceIte, reduceCtorEq, Int.reduceLE, Int.reduceLT, Int.reduceToNat, Int.reduceEq, Int.reduceNe])
        | ((first | apply condS_splitN | apply condS_split | apply guardS_splitTN | apply guardS_splitFN | apply guardD_splitTN | apply guardD_splitFN | apply guardS_splitT | apply guardS_splitF | apply guardD_splitT | apply guardD_splitF) <;> intro hc)
        | (refine callP0 rfl ?_)
        | (refine callD0 rfl ?_)
        | fail)
      refine ⟨s + 1, ⟨hlt, hst.out⟩, by omega, ?_⟩
      refine ⟨rfl, (by first | exact small_0 | exact small_mk rfl | (repeat (first | exact small_0 | exact small_mk rfl | refine small_upd rfl ?_ | refine small_sw rfl rfl ?_))), rfl, rfl, (by rfl), ?_, ?_⟩ <;> simp only [zw, swN, ElOk, HlOk, Nat.reduceEqDiff, Nat.reduceBEq, Nat.reduceLT, Nat.reduceLeDiff, reduceIte, reduceCtorEq, H0, AObj.cells.injEq]
    · have he := hit.out (by rw [q1, q2]; rfl)
      rw [he]
      replace hnx := hide hnx
      replace hit := hide hit
      repeat' (first
        | (simp -implicitDefEqProofs only [*, List.getElem?_map, Option.map_some, fP, Bool.false_and, Bool.and_false, Bool.and_true, zr, Nat.reduceAdd, Nat.reduceSub, Nat.reduceMul, Nat.reduceLT, Nat.reduceLeDiff, Nat.reduceEqDiff, Nat.reduceBEq, reduceIte, reduceCtorEq, Int.reduceLE, Int.reduceLT, Int.reduceToNat, Int.reduceEq, Int.reduceNe])
        | ((first | apply condS_splitN | apply condS_split | apply guardS_splitTN | apply guardS_splitFN | apply guardD_splitTN | apply guardD_splitFN | apply guardS_splitT | apply guardS_splitF | apply guardD_splitT | apply guardD_splitF) <;> intro hc)
        | (refine callP0 rfl ?_)
        | (refine callD0 rfl ?_)
        | fail)
      exact ret_ve rfl
  · obtain rfl : s = L.length := by omega
    have h2 := lt_f hge
    rw [ix_none (p := fun p : ByteArray × ByteArray => decide (a = p.1) && decide (b = p.2)) hA.out]
    repeat' (first
      | (simp -implicitDefEqProofs only [*, zr, Nat.reduceAdd, Nat.reduceSub, Nat.reduceMul, Nat.reduceLT, Nat.reduceLeDiff, Nat.reduceEqDiff, Nat.reduceBEq, reduceIte, reduceCtorEq, Int.reduceLE, Int.reduceLT, Int.reduceToNat, Int.reduceEq, Int.reduceNe])
      | ((first | apply condS_splitN | apply condS_split | apply guardS_splitTN | apply guardS_splitFN | apply guardD_splitTN | apply guardD_splitFN | apply guardS_splitT | apply guardS_splitF | apply guardD_splitT | apply guardD_splitF) <;> intro hc)
      | (refine callP0 rfl ?_)
      | (refine callD0 rfl ?_)
      | fail)
    exact ret_ve rfl
theorem conE_f (L : List (ByteArray × ByteArray)) (a b : ByteArray) (hl : L.length ≤ 1000000) : FRet Tryd.prog 22 [.f (.fr 2 (L.map fP)), .agg [.f (.str a), .f (.str b)]] [.c (.v (.bool (hasP L a b)))] := by
  have hI := idxE_f L a b hl
  have he := ix_any (fun p : ByteArray × ByteArray => decide (a = p.1) && decide (b = p.2)) L
  change decide _ = hasP L a b at he
  generalize ixV (fun p : ByteArray × ByteArray => decide (a = p.1) && decide (b = p.2)) L = i at *
  generalize hasP L a b = q at *
  refine FCall.of_ax low_slices_Contains_api_Edge_api_Edge ?_
  dsimp only [l_slices_Contains_api_Edge_api_Edge]
  refine srun_sound 300 _ _ _ _ ?_
  repeat' (first
    | (simp -implicitDefEqProofs only [*, zr, Nat.reduceAdd, Nat.reduceSub, Nat.reduceMul, Nat.reduceLT, Nat.reduceLeDiff, Nat.reduceEqDiff, Nat.reduceBEq, reduceIte, reduceCtorEq, Int.reduceLE, Int.reduceLT, Int.reduceToNat, Int.reduceEq, Int.reduceNe])
    | ((first | apply condS_splitN | apply condS_split | apply guardS_splitTN | apply guardS_splitFN | apply guardD_splitTN | apply guardD_splitFN | apply guardS_splitT | apply guardS_splitF | apply guardD_splitT | apply guardD_splitF) <;> intro hc)
    | (refine callP0 rfl ?_)
    | (refine callD0 rfl ?_)
    | (refine cP (hI) ?_)
    | (refine cD (hI) ?_)
    | (refine cF (hI) ?_)
    | fail)
  exact ret_ve rfl
theorem eqSame_f (L : List ByteArray) (hl : L.length ≤ 1000000) : FRet Tryd.prog 23 [.f (frStrs L), .f (frStrs L)] [.c (.v (.bool true))] := by
  refine FCall.of_ax low_slices_Equal_string_string ?_
  dsimp only [l_slices_Equal_string_string, frStrs]
  refine srun_sound 300 _ _ _ _ ?_
  have d1 : decide ((L.length : Int) = (L.length : Int)) = true := dec_t rfl
  repeat' (first
    | (simp -implicitDefEqProofs only [*, zr, Nat.reduceAdd, Nat.reduceSub, Nat.reduceMul, Nat.reduceLT, Nat.reduceLeDiff, Nat.reduceEqDiff, Nat.reduceBEq, reduceIte, reduceCtorEq, Int.reduceLE, Int.reduceLT, Int.reduceToNat, Int.reduceEq, Int.reduceNe])
    | ((first | apply condS_splitN | apply condS_split | apply guardS_splitTN | apply guardS_splitFN | apply guardD_splitTN | apply guardD_splitFN | apply guardS_splitT | apply guardS_splitF | apply guardD_splitT | apply guardD_splitF) <;> intro hc)
    | (refine callP0 rfl ?_)
    | (refine callD0 rfl ?_)
    | fail)
  refine ax_loopU (S := Nat) 26 [0, 1, 12] [] (fun s => [(13, .f (.int .i64 s))]) (fun s => []) (fun s => s ≤ L.length) (fun s => L.length - s) (0) [] ?_ ?_ fun s hs => ?_
  · exact Nat.zero_le _
  · refine ⟨rfl, (by first | exact small_0 | exact small_mk rfl | (repeat (first | exact small_0 | exact small_mk rfl | refine small_upd rfl ?_ | refine small_sw rfl rfl ?_))), rfl, rfl, (by rfl), ?_, ?_⟩ <;> simp only [zw, swN, ElOk, HlOk, Nat.reduceEqDiff, Nat.reduceBEq, Nat.reduceLT, Nat.reduceLeDiff, reduceIte, reduceCtorEq, H0, AObj.cells.injEq]
  refine srun_sound 300 _ _ _ _ ?_
  rcases Nat.lt_or_ge s L.length with hlt | hge
  · obtain ⟨x, hx⟩ := get_some hlt
    have h4 := inc64 hlt (by omega)
    have h2 := lt_t hlt
    have d2 : decide (x = x) = true := dec_t rfl
    repeat' (first
      | (simp -implicitDefEqProofs only [*, List.getElem?_map, Option.map_some, zr, Nat.reduceAdd, Nat.reduceSub, Nat.reduceMul, Nat.reduceLT, Nat.reduceLeDiff, Nat.reduceEqDiff, Nat.reduceBEq, reduceIte, reduceCtorEq, Int.reduceLE, Int.reduceLT, Int.reduceToNat, Int.reduceEq, Int.reduceNe])
      | ((first | apply condS_splitN | apply condS_split | apply guardS_splitTN | apply guardS_splitFN | apply guardD_splitTN | apply guardD_splitFN | apply guardS_splitT | apply guardS_splitF | apply guardD_splitT | apply guardD_splitF) <;> intro hc)
      | (refine callP0 rfl ?_)
      | (refine callD0 rfl ?_)
      | fail)
    refine ⟨s + 1, hlt, by omega, ?_⟩
    refine ⟨rfl, (by first | exact small_0 | exact small_mk rfl | (repeat (first | exact small_0 | exact small_mk rfl | refine small_upd rfl ?_ | refine small_sw rfl rfl ?_))), rfl, rfl, (by rfl), ?_, ?_⟩ <;> simp only [zw, swN, ElOk, HlOk, Nat.reduceEqDiff, Nat.reduceBEq, Nat.reduceLT, Nat.reduceLeDiff, reduceIte, reduceCtorEq, H0, AObj.cells.injEq]
  · obtain rfl : s = L.length := by omega
    have h2 := lt_f hge
    repeat' (first
      | (simp -implicitDefEqProofs only [*, zr, Nat.reduceAdd, Nat.reduceSub, Nat.reduceMul, Nat.reduceLT, Nat.reduceLeDiff, Nat.reduceEqDiff, Nat.reduceBEq, reduceIte, reduceCtorEq, Int.reduceLE, Int.reduceLT, Int.reduceToNat, Int.reduceEq, Int.reduceNe])
      | ((first | apply condS_splitN | apply condS_split | apply guardS_splitTN | apply guardS_splitFN | apply guardD_splitTN | apply guardD_splitFN | apply guardS_splitT | apply guardS_splitF | apply guardD_splitT | apply guardD_splitF) <;> intro hc)
      | (refine callP0 rfl ?_)
      | (refine callD0 rfl ?_)
      | fail)
    exact ret_ve rfl
theorem eqNil_f : FRet Tryd.prog 23 [.f .nil, .f .nil] [.c (.v (.bool true))] := by
  refine FCall.of_ax low_slices_Equal_string_string ?_
  dsimp only [l_slices_Equal_string_string]
  refine srun_sound 300 _ _ _ _ ?_
  repeat' (first
    | (simp -implicitDefEqProofs only [*, zr, Nat.reduceAdd, Nat.reduceSub, Nat.reduceMul, Nat.reduceLT, Nat.reduceLeDiff, Nat.reduceEqDiff, Nat.reduceBEq, reduceIte, reduceCtorEq, Int.reduceLE, Int.reduceLT, Int.reduceToNat, Int.reduceEq, Int.reduceNe])
    | ((first | apply condS_splitN | apply condS_split | apply guardS_splitTN | apply guardS_splitFN | apply guardD_splitTN | apply guardD_splitFN | apply guardS_splitT | apply guardS_splitF | apply guardD_splitT | apply guardD_splitF) <;> intro hc)
    | (refine callP0 rfl ?_)
    | (refine callD0 rfl ?_)
    | fail)
  refine ax_loopU (S := Nat) 26 [0, 1, 12] [] (fun s => [(13, .f (.int .i64 0))]) (fun s => []) (fun s => True) (fun s => 0) (0) [] ?_ ?_ fun s hs => ?_
  · exact trivial
  · refine ⟨rfl, (by first | exact small_0 | exact small_mk rfl | (repeat (first | exact small_0 | exact small_mk rfl | refine small_upd rfl ?_ | refine small_sw rfl rfl ?_))), rfl, rfl, (by rfl), ?_, ?_⟩ <;> simp only [zw, swN, ElOk, HlOk, Nat.reduceEqDiff, Nat.reduceBEq, Nat.reduceLT, Nat.reduceLeDiff, reduceIte, reduceCtorEq, H0, AObj.cells.injEq]
  refine srun_sound 300 _ _ _ _ ?_
  repeat' (first
    | (simp -implicitDefEqProofs only [*, zr, Nat.reduceAdd, Nat.reduceSub, Nat.reduceMul, Nat.reduceLT, Nat.reduceLeDiff, Nat.reduceEqDiff, Nat.reduceBEq, reduceIte, reduceCtorEq, Int.reduceLE, Int.reduceLT, Int.reduceToNat, Int.reduceEq, Int.reduceNe])
    | ((first | apply condS_splitN | apply condS_split | apply guardS_splitTN | apply guardS_splitFN | apply guardD_splitTN | apply guardD_splitFN | apply guardS_splitT | apply guardS_splitF | apply guardD_splitT | apply guardD_splitF) <;> intro hc)
    | (refine callP0 rfl ?_)
    | (refine callD0 rfl ?_)
    | fail)
  exact ret_ve rfl
/-- A needless edge is one that is told. -/
theorem edge_told {g : Graph} {o : List Nat} (h : TOk g o) {i : Nat} {x : Node} {t : ByteArray} (hx : g[i]? = some x) (ht : t ∈ x.2.2.1) : hasP ((edgesV g (allDeps g) (needlessB g)).map fun p => (labN g p.1, labN g p.2)) x.1 t = needlessB g i (nIdx g t) := by
  have hi := (List.getElem?_eq_some_iff.1 hx).1
  have hth := List.all_eq_true.1 (List.all_eq_true.1 h.ok.deps x (List.mem_of_getElem? hx)) t ht
  have htl := nIdx_lab h.ok hth
  have hkn := nIdx_lt h.ok.rising hth
  have hkd : nIdx g t ∈ (allDeps g).getD i [] := (dep_lab h.ok hx).2 ⟨hkn, by rw [htl]; exact ht⟩
  have hmem : ∀ p : Nat × Nat, p ∈ edgesV g (allDeps g) (needlessB g) ↔ p.1 < g.length ∧ p.2 ∈ (allDeps g).getD p.1 [] ∧ needlessB g p.1 p.2 = true := fun p => by
    unfold edgesV eTo
    rw [List.mem_flatMap]
    constructor
    · rintro ⟨a, ha, hp⟩
      obtain ⟨b, hb, rfl⟩ := List.mem_map.1 hp
      exact ⟨List.mem_range.1 ha, List.mem_filter.1 hb⟩
    · rintro ⟨h1, h2, h3⟩
      exact ⟨p.1, List.mem_range.2 h1, List.mem_map.2 ⟨p.2, List.mem_filter.2 ⟨h2, h3⟩, rfl⟩⟩
  unfold hasP
  rw [Bool.eq_iff_iff, List.any_map, List.any_eq_true]
  constructor
  · rintro ⟨p, hp, he⟩
    obtain ⟨h1, h2, h3⟩ := (hmem p).1 hp
    simp only [Function.comp_def, Bool.and_eq_true, decide_eq_true_eq] at he
    obtain ⟨e1, e2⟩ := he
    rw [← labN_of hx] at e1
    rw [← htl] at e2
    rw [lab_inj h.ok hi h1 e1, lab_inj h.ok hkn (rowD_lt h.net _ _ h2) e2]; exact h3
  · intro hn
    refine ⟨(i, nIdx g t), (hmem _).2 ⟨hi, hkd, hn⟩, ?_⟩
    simp only [Function.comp_def, Bool.and_eq_true, decide_eq_true_eq]
    exact ⟨(labN_of hx).symm, htl.symm⟩
theorem edges_len {g : Graph} {o : List Nat} (h : TOk g o) : (edgesV g (allDeps g) (needlessB g)).length ≤ 300000 := by
  have h1 := eTo_len (is := needlessB g) (fun r hr => (h.net.dr r hr).1) g.length
  have := h.ok.len
  unfold edgesV; omega
theorem edges_none {g : Graph} {o : List Nat} (h : TOk g o) : edgesV (lessG g) (allDeps (lessG g)) (needlessB (lessG g)) = [] := by
  unfold edgesV eTo
  rw [List.flatMap_eq_nil_iff]
  intro i hi
  have hi := List.mem_range.1 hi
  rw [less_len] at hi
  rw [List.map_eq_nil_iff, List.filter_eq_nil_iff]
  intro k hk
  rw [less_deps] at hk
  rw [less_needless h hi hk]; decide
theorem less_bound {g : Graph} {o : List Nat} (h : TOk g o) (hb : GBound g) : GBound (lessG g) := by
  refine ⟨by rw [less_len]; exact hb.1, fun n hn => ?_⟩
  obtain ⟨i, hi⟩ := List.mem_iff_getElem?.1 hn
  obtain ⟨x, hx, rfl⟩ := less_back hi
  have hx2 := hb.2 x (List.mem_of_getElem? hx)
  have hf : (x.2.2.1.filter fun t => !needlessB g i (nIdx g t)).length ≤ x.2.2.1.length := List.length_filter_le ..
  exact ⟨hx2.lab, by show ((x.2.2.1.filter _).length : Int) ≤ _; have := hx2.dl; omega, fun d hd => hx2.ds d (List.mem_filter.1 hd).1, hx2.fl, hx2.sl, hx2.ss⟩
/-- The deps of a node, read so far, without needless ones. -/
def dTake (g : Graph) (i : Nat) (x : Node) (j : Nat) : List ByteArray := (x.2.2.1.take j).filter fun t => !needlessB g i (nIdx g t)
theorem dTake_succ {g : Graph} {i : Nat} {x : Node} {j : Nat} {t : ByteArray} (h : x.2.2.1[j]? = some t) : dTake g i x (j + 1) = dTake g i x j ++ (if needlessB g i (nIdx g t) = true then [] else [t]) := by
  unfold dTake
  rw [List.take_add_one, h, List.filter_append]
  congr 1
  show List.filter _ [t] = _
  rw [List.filter_cons, List.filter_nil]
  cases needlessB g i (nIdx g t) <;> rfl
theorem needless_f (g : Graph) (hb : GBound g) (lab : ByteArray) : FRet Tryd.prog 8 [.f (frNodes g), .f (.str lab)] [.c (.v (.bool true))] := by
  have hN1 := Needless_f g hb
  have hA := awake_f
  have hNe := Needs_f g hb [lab] (by simp) (-1)
  refine FCall.of_ax low_law4_GraphNeedlessCanGo ?_
  dsimp only [l_law4_GraphNeedlessCanGo]
  refine srun_sound 300 _ _ _ _ ?_
  by_cases h0 : treeErr g = 0
  · obtain ⟨o, hK⟩ := tok_of h0
    have hgl := hK.ok.len
    have hlb := less_bound hK hb
    have hN2 := Needless_f (lessG g) hlb
    have hNl := Needs_f (lessG g) hlb [lab] (by simp) (-1)
    rw [less_tree hK, if_pos rfl, edges_none hK] at hN2
    rw [less_reErr hK h0] at hNl
    rw [h0, if_pos rfl] at hN1
    have hLE : ((edgesV g (allDeps g) (needlessB g)).map (fE g)) = (((edgesV g (allDeps g) (needlessB g)).map fun p => (labN g p.1, labN g p.2)).map fP) := by rw [List.map_map]; rfl
    rw [hLE] at hN1
    have htold := fun i x t h1 h2 => edge_told hK (i := i) (x := x) (t := t) h1 h2
    have hlen := edges_len hK
    have hC := fun a b => conE_f ((edgesV g (allDeps g) (needlessB g)).map fun p => (labN g p.1, labN g p.2)) a b (by rw [List.length_map]; omega)
    clear hLE hlen
    generalize ((edgesV g (allDeps g) (needlessB g)).map fun p => (labN g p.1, labN g p.2)) = L at *
    have hck := fun n hn => ck_deps (hK.ok.nodes n hn)
    have hre : reErr g [lab] (-1) = 0 → (reV (lessG g) [lab] (-1) false).map (labN (lessG g)) = (reV g [lab] (-1) false).map (labN g) := fun h => less_reV hK (num_has (re_ok h).2.1)
    have hrl : ((reV g [lab] (-1) false).map (labN g)).length ≤ 1000 := by rw [List.length_map]; have := (re_lt (g := g) (l := [lab]) (m := -1) (up := false)).1; omega
    have hll := less_len g
    have hlat := fun i x (h : g[i]? = some x) => less_at h
    replace hK := hide hK
    replace htold := hide htold
    replace hC := hide hC
    replace hck := hide hck
    replace hre := hide hre
    replace hll := hide hll
    replace hlat := hide hlat
    replace hlb := hide hlb
    have d0 : decide ((0 : Int) < ((0 : Nat) : Int)) = false := rfl
    unfold frNodes at hN1
    repeat' (first
      | (simp -implicitDefEqProofs only [*, frNodes, zr, Nat.reduceAdd, Nat.reduceSub, Nat.reduceMul, Nat.reduceLT, Nat.reduceLeDiff, Nat.reduceEqDiff, Nat.reduceBEq, reduceIte, reduceCtorEq, Int.reduceLE, Int.reduceLT, Int.reduceToNat, Int.reduceEq, Int.reduceNe])
      | ((first | apply condS_splitN | apply condS_split | apply guardS_splitTN | apply guardS_splitFN | apply guardD_splitTN | apply guardD_splitFN | apply guardS_splitT | apply guardS_splitF | apply guardD_splitT | apply guardD_splitF) <;> intro hc)
      | (refine callP0 rfl ?_)
      | (refine callD0 rfl ?_)
      | (refine cP (hN1) ?_)
      | (refine cD (hN1) ?_)
      | (refine cF (hN1) ?_)
      | fail)
    refine ax_loopU (S := Nat) 120 [0, 1, 5] [] (fun s => [(7, .sl 82 1 6 0 s), (8, .f (.int .i64 s))]) (fun s => [(82, 1, .cells ((rowF fNode ((lessG g).take s)).map .f))]) (fun s => s ≤ g.length) (fun s => g.length - s) (0) [82] ?_ ?_ fun s hs => ?_
    · exact Nat.zero_le _
    · refine ⟨rfl, (by first | exact small_0 | exact small_mk rfl | (repeat (first | exact small_0 | exact small_mk rfl | refine small_upd rfl ?_ | refine small_sw rfl rfl ?_))), rfl, rfl, (by rfl), ?_, ?_⟩ <;> simp only [List.take_zero, zw, swN, ElOk, HlOk, Nat.reduceEqDiff, Nat.reduceBEq, Nat.reduceLT, Nat.reduceLeDiff, reduceIte, reduceCtorEq, H0, AObj.cells.injEq]
      rfl
    rcases Nat.lt_or_ge s g.length with hlt | hge
    · refine srun_sound 300 _ _ _ _ ?_
      obtain ⟨x, hx⟩ := get_some hlt
      have h4 := inc64 hlt (by omega)
      have h2 := lt_t hlt
      have hxd := hck.out x (List.mem_of_getElem? hx)
      have hlx := hlat.out s x hx
      have hdT : dTake g s x x.2.2.1.length = (lessN g s x).2.2.1 := by unfold dTake; rw [List.take_length]; rfl
      have hsn : rowF fNode ((lessG g).take (s + 1)) = rowF fNode ((lessG g).take s) ++ fNode (lessN g s x) := by
        rw [List.take_add_one, hlx]; unfold rowF; simp
      have hrl2 : (rowF fNode ((lessG g).take s)).length = s * 6 := by
        rw [row_len (sz := 6) (fun _ => rfl), List.length_take, hll.out]; omega
      obtain ⟨i, rfl⟩ : ∃ i, i = s := ⟨_, rfl⟩
      replace hlx := hide hlx
      replace hdT := hide hdT
      replace hsn := hide hsn
      generalize rowF fNode ((lessG g).take i) = Rw at *
      repeat' (first
        | (simp -implicitDefEqProofs only [*, List.getElem?_map, Option.map_some, fNode, zr, Nat.reduceAdd, Nat.reduceSub, Nat.reduceMul, Nat.reduceLT, Nat.reduceLeDiff, Nat.reduceEqDiff, Nat.reduceBEq, reduceIte, reduceCtorEq, Int.reduceLE, Int.reduceLT, Int.reduceToNat, Int.reduceEq, Int.reduceNe])
        | ((first | apply condS_splitN | apply condS_split | apply guardS_splitTN | apply guardS_splitFN | apply guardD_splitTN | apply guardD_splitFN | apply guardS_splitT | apply guardS_splitF | apply guardD_splitT | apply guardD_splitF) <;> intro hc)
        | (refine callP0 rfl ?_)
        | (refine callD0 rfl ?_)
        | fail)
      refine ax_loopU (S := Nat) 120 [0, 1, 5, 7, 8, 9] [82] (fun s => [(10, .f (.int .i64 s))]) (fun s => [(9, 1, .cells [.f (.str x.1), .f (.str x.2.1), .sl 77 1 1 0 (dTake g i x s).length, .f (frStrs x.2.2.2.1), .f (frStrs x.2.2.2.2.1), .f (.int .i64 x.2.2.2.2.2)]), (77, 1, .cells (((dTake g i x s).map FV.str).map .f))]) (fun s => s ≤ x.2.2.1.length) (fun s => x.2.2.1.length - s) (0) [77] ?_ ?_ fun s hs => ?_
      · exact Nat.zero_le _
      · refine ⟨rfl, (by first | exact small_0 | exact small_mk rfl | (repeat (first | exact small_0 | exact small_mk rfl | refine small_upd rfl ?_ | refine small_sw rfl rfl ?_))), rfl, rfl, (by rfl), ?_, ?_⟩ <;> simp only [dTake, List.take_zero, List.filter_nil, zw, swN, ElOk, HlOk, Nat.reduceEqDiff, Nat.reduceBEq, Nat.reduceLT, Nat.reduceLeDiff, reduceIte, reduceCtorEq, H0, AObj.cells.injEq]
      have hdl : ∀ j, (dTake g i x j).length ≤ j := fun j => by
        unfold dTake
        have := List.length_filter_le (fun t => !needlessB g i (nIdx g t)) (x.2.2.1.take j)
        rw [List.length_take] at this
        omega
      replace hdl := hide hdl
      rcases Nat.lt_or_ge s x.2.2.1.length with hlt2 | hge2
      · refine srun_sound 300 _ _ _ _ ?_
        obtain ⟨t, ht⟩ := get_some hlt2
        have g4 := inc64 hlt2 (by omega)
        have g2 := lt_t hlt2
        have hCt := hC.out x.1 t
        rw [htold.out i x t hx (List.mem_of_getElem? ht)] at hCt
        have hnx := dTake_succ (g := g) (i := i) ht
        have hd1 := hdl.out s
        generalize dTake g i x s = D0 at *
        have hst : ((D0.map FV.str).map AV.f) ++ [.f (.str t)] = ((D0 ++ [t]).map FV.str).map .f := by simp
        have hl1 : (D0 ++ [t]).length = D0.length + 1 := by simp
        have hk8 := nle_t (show (D0.length + 1) * 16 ≤ 140737488355328 by omega)
        cases q : needlessB g i (nIdx g t)
        · rw [q] at hCt hnx
          rw [if_neg (by decide)] at hnx
          replace hnx := hide hnx
          repeat' (first
            | (simp -implicitDefEqProofs only [*, List.getElem?_map, Option.map_some, fNode, frStrs, zr, Nat.reduceAdd, Nat.reduceSub, Nat.reduceMul, Nat.reduceLT, Nat.reduceLeDiff, Nat.reduceEqDiff, Nat.reduceBEq, reduceIte, reduceCtorEq, Int.reduceLE, Int.reduceLT, Int.reduceToNat, Int.reduceEq, Int.reduceNe])
            | ((first | apply condS_splitN | apply condS_split | apply guardS_splitTN | apply guardS_splitFN | apply guardD_splitTN | apply guardD_splitFN | apply guardS_splitT | apply guardS_splitF | apply guardD_splitT | apply guardD_splitF) <;> intro hc)
            | (refine callP0 rfl ?_)
            | (refine callD0 rfl ?_)
            | (refine cP (hCt) ?_)
            | (refine cD (hCt) ?_)
            | (refine cF (hCt) ?_)
            | fail)
          refine ⟨s + 1, hlt2, by omega, ?_⟩
          rw [hnx.out, hl1]
          refine ⟨rfl, (by first | exact small_0 | exact small_mk rfl | (repeat (first | exact small_0 | exact small_mk rfl | refine small_upd rfl ?_ | refine small_sw rfl rfl ?_))), rfl, rfl, (by rfl), ?_, ?_⟩ <;> simp only [hst, zw, swN, ElOk, HlOk, Nat.reduceEqDiff, Nat.reduceBEq, Nat.reduceLT, Nat.reduceLeDiff, reduceIte, reduceCtorEq, H0, AObj.cells.injEq]
        · rw [q] at hCt hnx
          rw [if_pos rfl, List.append_nil] at hnx
          replace hnx := hide hnx
          repeat' (first
            | (simp -implicitDefEqProofs only [*, List.getElem?_map, Option.map_some, fNode, frStrs, zr, Nat.reduceAdd, Nat.reduceSub, Nat.reduceMul, Nat.reduceLT, Nat.reduceLeDiff, Nat.reduceEqDiff, Nat.reduceBEq, reduceIte, reduceCtorEq, Int.reduceLE, Int.reduceLT, Int.reduceToNat, Int.reduceEq, Int.reduceNe])
            | ((first | apply condS_splitN | apply condS_split | apply guardS_splitTN | apply guardS_splitFN | apply guardD_splitTN | apply guardD_splitFN | apply guardS_splitT | apply guardS_splitF | apply guardD_splitT | apply guardD_splitF) <;> intro hc)
            | (refine callP0 rfl ?_)
            | (refine callD0 rfl ?_)
            | (refine cP (hCt) ?_)
            | (refine cD (hCt) ?_)
            | (refine cF (hCt) ?_)
            | fail)
          refine ⟨s + 1, hlt2, by omega, ?_⟩
          rw [hnx.out]
          refine ⟨rfl, (by first | exact small_0 | exact small_mk rfl | (repeat (first | exact small_0 | exact small_mk rfl | refine small_upd rfl ?_ | refine small_sw rfl rfl ?_))), rfl, rfl, (by rfl), ?_, ?_⟩ <;> simp only [zw, swN, ElOk, HlOk, Nat.reduceEqDiff, Nat.reduceBEq, Nat.reduceLT, Nat.reduceLeDiff, reduceIte, reduceCtorEq, H0, AObj.cells.injEq]
      · obtain rfl : s = x.2.2.1.length := by omega
        have g2 := lt_f hge2
        rw [hdT.out]
        have hfy : fNode (lessN g i x) = [.str x.1, .str x.2.1, frStrs (lessN g i x).2.2.1, frStrs x.2.2.2.1, frStrs x.2.2.2.2.1, .int .i64 x.2.2.2.2.2] := rfl
        generalize hdd : (lessN g i x).2.2.1 = dd at *
        refine ax_weak (nw := []) (n := 120) (el := [(0, .f (.fr 6 (g.map fNode))), (1, .f (.str lab)), (5, .f (.fr 2 (L.map fP))), (7, .sl 82 1 6 0 i), (8, .f (.int .i64 i)), (9, .ptr 9 1 0), (10, .f (.int .i64 x.2.2.1.length))]) (hl := [(9, 1, .cells [.f (.str x.1), .f (.str x.2.1), .f (frStrs dd), .f (frStrs x.2.2.2.1), .f (frStrs x.2.2.2.2.1), .f (.int .i64 x.2.2.2.2.2)]), (82, 1, .cells (Rw.map .f))]) ?_ ?_
        · refine ⟨rfl, (by first | exact small_0 | exact small_mk rfl | (repeat (first | exact small_0 | exact small_mk rfl | refine small_upd rfl ?_ | refine small_sw rfl rfl ?_))), rfl, rfl, (by rfl), ?_, ?_⟩ <;> simp only [zw, swN, ElOk, HlOk, Nat.reduceEqDiff, Nat.reduceBEq, Nat.reduceLT, Nat.reduceLeDiff, reduceIte, reduceCtorEq, H0, AObj.cells.injEq]
          have hso : ∀ (H H' : Heap) (D : List ByteArray), H 77 = (1, some (.cells ((D.map FV.str).map .f))) → (H' 77).2 = none → SlotOk H H' [] (.sl 77 1 1 0 D.length) (.f (frStrs D)) := fun H H' D h1 h2 => by
            rw [frStrs_eq]; exact so_cells1 (l := D.map FV.str) h1 h2 (List.length_map _)
          exact hso _ _ dd rfl rfl
        refine srun_sound 300 _ _ _ _ ?_
        have hk8 := nle_t (show (i + 1) * 112 ≤ 140737488355328 by omega)
        have hrw : (Rw.map AV.f).length = i * 6 := by rw [List.length_map]; exact hrl2
        have hst : Rw.map AV.f ++ [.f (.str x.1), .f (.str x.2.1), .f (frStrs dd), .f (frStrs x.2.2.2.1), .f (frStrs x.2.2.2.2.1), .f (.int .i64 x.2.2.2.2.2)] = (Rw ++ fNode (lessN g i x)).map .f := by rw [hfy]; simp
        have hf1 : frStrs x.2.2.1 = .fr 1 (x.2.2.1.map fun s => [FV.str s]) := rfl
        replace hfy := hide hfy
        replace hdd := hide hdd
        repeat' (first
          | (simp -implicitDefEqProofs only [*, List.getElem?_map, Option.map_some, fNode, zr, Nat.reduceAdd, Nat.reduceSub, Nat.reduceMul, Nat.reduceLT, Nat.reduceLeDiff, Nat.reduceEqDiff, Nat.reduceBEq, reduceIte, reduceCtorEq, Int.reduceLE, Int.reduceLT, Int.reduceToNat, Int.reduceEq, Int.reduceNe])
          | ((first | apply condS_splitN | apply condS_split | apply guardS_splitTN | apply guardS_splitFN | apply guardD_splitTN | apply guardD_splitFN | apply guardS_splitT | apply guardS_splitF | apply guardD_splitT | apply guardD_splitF) <;> intro hc)
          | (refine callP0 rfl ?_)
          | (refine callD0 rfl ?_)
          | fail)
        refine ⟨i + 1, hlt, by omega, ?_⟩
        rw [hsn.out]
        refine ⟨rfl, (by first | exact small_0 | exact small_mk rfl | (repeat (first | exact small_0 | exact small_mk rfl | refine small_upd rfl ?_ | refine small_sw rfl rfl ?_))), rfl, rfl, (by rfl), ?_, ?_⟩ <;> simp only [hst, zw, swN, ElOk, HlOk, Nat.reduceEqDiff, Nat.reduceBEq, Nat.reduceLT, Nat.reduceLeDiff, reduceIte, reduceCtorEq, H0, AObj.cells.injEq]
        exact SlotsOk.fs rfl
    · obtain rfl : s = g.length := by omega
      have h2 := lt_f hge
      have htk : (lessG g).take g.length = lessG g := by rw [← hll.out, List.take_length]
      rw [htk]
      refine ax_weak (nw := []) (n := 120) (el := [(0, .f (frNodes g)), (1, .f (.str lab)), (7, .f (frNodes (lessG g))), (8, .f (.int .i64 g.length))]) (hl := []) ?_ ?_
      · refine ⟨rfl, small_mk rfl, rfl, rfl, rfl, ⟨by decide, .inl rfl, by decide, .inl rfl, by decide, ?_, by decide, .inl rfl, trivial⟩, trivial⟩
        have hso : ∀ (L : List Node) (n : Nat), n = L.length → SlotOk (mkH [(82, 1, .cells ((rowF fNode L).map .f))]) (mkH []) [] (.sl 82 1 6 0 n) (.f (.fr 6 (L.map fNode))) := fun L n hn => so_row0 (enc := fNode) (fun _ => rfl) rfl rfl hn
        exact hso _ _ hll.out.symm
      refine srun_sound 300 _ _ _ _ ?_
      have hf1 : frNodes g = .fr 6 (g.map fNode) := rfl
      clear hN1
      repeat' (first
        | (simp -implicitDefEqProofs only [*, List.map_nil, List.length_nil, zr, Nat.reduceAdd, Nat.reduceSub, Nat.reduceMul, Nat.reduceLT, Nat.reduceLeDiff, Nat.reduceEqDiff, Nat.reduceBEq, reduceIte, reduceCtorEq, Int.reduceLE, Int.reduceLT, Int.reduceToNat, Int.reduceEq, Int.reduceNe])
        | ((first | apply condS_splitN | apply condS_split | apply guardS_splitTN | apply guardS_splitFN | apply guardD_splitTN | apply guardD_splitFN | apply guardS_splitT | apply guardS_splitF | apply guardD_splitT | apply guardD_splitF) <;> intro hc)
        | (refine callP0 rfl ?_)
        | (refine callD0 rfl ?_)
        | (refine cP (hN2) ?_)
        | (refine cD (hN2) ?_)
        | (refine cF (hN2) ?_)
        | fail)
      refine ax_weakA [] (nw := []) (n := 120) (el := [(0, .f (frNodes g)), (1, .f (.str lab)), (7, .f (frNodes (lessG g))), (96, .f (frNodes g)), (98, .f (frStrs [lab]))]) (hl := []) rfl ?_ ?_
      · refine ⟨rfl, (by repeat (first | exact small_0 | exact small_mk rfl | refine small_upd rfl ?_)), rfl, rfl, rfl, ?_, trivial⟩
        repeat (first | exact trivial | refine And.intro (by decide) ?_ | refine And.intro (so_one rfl rfl) ?_ | refine And.intro (Or.inl rfl) ?_)
      by_cases he : reErr g [lab] (-1) = 0
      · rw [he, if_pos rfl] at hNe hNl
        rw [hre.out he] at hNl
        have hEq := eqSame_f ((reV g [lab] (-1) false).map (labN g)) (by omega)
        clear hf1
        generalize (reV g [lab] (-1) false).map (labN g) = X at *
        repeat' (first
          | (simp -implicitDefEqProofs only [*, zr, Nat.reduceAdd, Nat.reduceSub, Nat.reduceMul, Nat.reduceLT, Nat.reduceLeDiff, Nat.reduceEqDiff, Nat.reduceBEq, reduceIte, reduceCtorEq, Int.reduceLE, Int.reduceLT, Int.reduceToNat, Int.reduceEq, Int.reduceNe])
          | ((first | apply condS_splitN | apply condS_split | apply guardS_splitTN | apply guardS_splitFN | apply guardD_splitTN | apply guardD_splitFN | apply guardS_splitT | apply guardS_splitF | apply guardD_splitT | apply guardD_splitF) <;> intro hc)
          | (refine callP0 rfl ?_)
          | (refine callD0 rfl ?_)
          | (refine cP (hNe) ?_)
          | (refine cD (hNe) ?_)
          | (refine cF (hNe) ?_)
          | fail)
        refine ax_weakA [] (nw := []) (n := 120) (el := [(6, .f (.int .i64 0)), (12, .f (frStrs X)), (103, .f (frNodes (lessG g))), (105, .f (frStrs [lab]))]) (hl := []) rfl ?_ ?_
        · refine ⟨rfl, (by repeat (first | exact small_0 | exact small_mk rfl | refine small_upd rfl ?_)), rfl, rfl, rfl, ?_, trivial⟩
          repeat (first | exact trivial | refine And.intro (by decide) ?_ | refine And.intro (so_one rfl rfl) ?_ | refine And.intro (Or.inl rfl) ?_)
        repeat' (first
          | (simp -implicitDefEqProofs only [*, zr, Nat.reduceAdd, Nat.reduceSub, Nat.reduceMul, Nat.reduceLT, Nat.reduceLeDiff, Nat.reduceEqDiff, Nat.reduceBEq, reduceIte, reduceCtorEq, Int.reduceLE, Int.reduceLT, Int.reduceToNat, Int.reduceEq, Int.reduceNe])
          | ((first | apply condS_splitN | apply condS_split | apply guardS_splitTN | apply guardS_splitFN | apply guardD_splitTN | apply guardD_splitFN | apply guardS_splitT | apply guardS_splitF | apply guardD_splitT | apply guardD_splitF) <;> intro hc)
          | (refine callP0 rfl ?_)
          | (refine callD0 rfl ?_)
          | (refine cP (hNl) ?_)
          | (refine cD (hNl) ?_)
          | (refine cF (hNl) ?_)
          | (refine cP (hEq) ?_)
          | (refine cD (hEq) ?_)
          | (refine cF (hEq) ?_)
          | (refine cP (hA) ?_)
          | (refine cD (hA) ?_)
          | (refine cF (hA) ?_)
          | fail)
        exact ret_ve rfl
      · rw [if_neg he] at hNe hNl
        clear hf1
        have de : ∀ e : Int, decide (e = e) = true := fun e => dec_t rfl
        generalize reErr g [lab] (-1) = e at *
        have dee := de e
        clear de
        replace he := hide he
        repeat' (first
          | (simp -implicitDefEqProofs only [*, zr, Nat.reduceAdd, Nat.reduceSub, Nat.reduceMul, Nat.reduceLT, Nat.reduceLeDiff, Nat.reduceEqDiff, Nat.reduceBEq, reduceIte, reduceCtorEq, Int.reduceLE, Int.reduceLT, Int.reduceToNat, Int.reduceEq, Int.reduceNe])
          | ((first | apply condS_splitN | apply condS_split | apply guardS_splitTN | apply guardS_splitFN | apply guardD_splitTN | apply guardD_splitFN | apply guardS_splitT | apply guardS_splitF | apply guardD_splitT | apply guardD_splitF) <;> intro hc)
          | (refine callP0 rfl ?_)
          | (refine callD0 rfl ?_)
          | (refine cP (hNe) ?_)
          | (refine cD (hNe) ?_)
          | (refine cF (hNe) ?_)
          | fail)
        refine ax_weakA [] (nw := []) (n := 120) (el := [(6, .f (.int .i64 e)), (12, .f .nil), (103, .f (frNodes (lessG g))), (105, .f (frStrs [lab]))]) (hl := []) rfl ?_ ?_
        · refine ⟨rfl, (by repeat (first | exact small_0 | exact small_mk rfl | refine small_upd rfl ?_)), rfl, rfl, rfl, ?_, trivial⟩
          repeat (first | exact trivial | refine And.intro (by decide) ?_ | refine And.intro (so_one rfl rfl) ?_ | refine And.intro (Or.inl rfl) ?_)
        repeat' (first
          | (simp -implicitDefEqProofs only [*, zr, Nat.reduceAdd, Nat.reduceSub, Nat.reduceMul, Nat.reduceLT, Nat.reduceLeDiff, Nat.reduceEqDiff, Nat.reduceBEq, reduceIte, reduceCtorEq, Int.reduceLE, Int.reduceLT, Int.reduceToNat, Int.reduceEq, Int.reduceNe])
          | ((first | apply condS_splitN | apply condS_split | apply guardS_splitTN | apply guardS_splitFN | apply guardD_splitTN | apply guardD_splitFN | apply guardS_splitT | apply guardS_splitF | apply guardD_splitT | apply guardD_splitF) <;> intro hc)
          | (refine callP0 rfl ?_)
          | (refine callD0 rfl ?_)
          | (refine cP (hNl) ?_)
          | (refine cD (hNl) ?_)
          | (refine cF (hNl) ?_)
          | (refine cP (eqNil_f) ?_)
          | (refine cD (eqNil_f) ?_)
          | (refine cF (eqNil_f) ?_)
          | (refine cP (hA) ?_)
          | (refine cD (hA) ?_)
          | (refine cF (hA) ?_)
          | fail)
        exact ret_ve rfl
  · rw [if_neg h0] at hN1
    have hd := dec_f h0
    generalize treeErr g = e at *
    repeat' (first
      | (simp -implicitDefEqProofs only [*, zr, Nat.reduceAdd, Nat.reduceSub, Nat.reduceMul, Nat.reduceLT, Nat.reduceLeDiff, Nat.reduceEqDiff, Nat.reduceBEq, reduceIte, reduceCtorEq, Int.reduceLE, Int.reduceLT, Int.reduceToNat, Int.reduceEq, Int.reduceNe])
      | ((first | apply condS_splitN | apply condS_split | apply guardS_splitTN | apply guardS_splitFN | apply guardD_splitTN | apply guardD_splitFN | apply guardS_splitT | apply guardS_splitF | apply guardD_splitT | apply guardD_splitF) <;> intro hc)
      | (refine callP0 rfl ?_)
      | (refine callD0 rfl ?_)
      | (refine cP (hN1) ?_)
      | (refine cD (hN1) ?_)
      | (refine cF (hN1) ?_)
      | (refine cP (hA) ?_)
      | (refine cD (hA) ?_)
      | (refine cF (hA) ?_)
      | fail)
    exact ret_ve rfl
theorem needless_any (A : Option Addr) (n c : Nat) (g : Graph) (a : ByteArray) (W : World) (h : rSl 6 112 rNode W W.heap.size g [.slice A n c]) (ha : a.size ≤ 140737488355328) :
    Calls Tryd.prog 8 #[.slice A n c, .string a] W fun e w' => e = .returned (.bool true) ∧ Below W.heap.size W w' := by
  refine FRet.calls (xs := [frNodes g, .str a]) (needless_f g (graph_bound h) a) rfl fun j x v hx hv => ?_
  rcases j with _ | _ | j
  · obtain rfl := Option.some.inj hx; obtain rfl := Option.some.inj hv; exact fz_nodes.one h
  · obtain rfl := Option.some.inj hx; obtain rfl := Option.some.inj hv; exact .str _
  · simp at hx
end Go.Proofs.YtaiajaibcpkceaaDoor
