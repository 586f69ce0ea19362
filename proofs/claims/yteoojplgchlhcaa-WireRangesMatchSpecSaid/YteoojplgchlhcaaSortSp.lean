/-
  slices.SortFunc at spans: what the row holds is a permutation, in the order of the beginnings.
-/
import Derived.Test.YteoojplgchlhcaaLaySort
import Derived.Test.YteoojplgchlhcaaJoin
import Derived.Shelf.SlSortCmp.WholeK
namespace Go.Proofs.Yteoojplgchlhcaa
open Go.RowKit Go.Sort
set_option linter.unusedVariables false
set_option linter.unusedSimpArgs false

/-! ### The sort's words and the row's -/
section
variable {α : Type} {enc : α → List Value} {k : Nat}
theorem flat_get (hk : ∀ x, (enc x).length = k) : ∀ (l : List α) (i j : Nat) (x : α), l[i]? = some x → j < k → (l.flatMap enc)[i * k + j]? = (enc x)[j]? := by
  intro l
  induction l with
  | nil => intro i j x h; simp at h
  | cons y r ih =>
    intro i j x h hj
    cases i with
    | zero =>
      simp at h; subst h
      rw [List.flatMap_cons, Nat.zero_mul, Nat.zero_add, List.getElem?_append_left (by rw [hk]; exact hj)]
    | succ i =>
      rw [List.flatMap_cons, List.getElem?_append_right (by rw [hk, Nat.succ_mul]; omega), hk, show (i + 1) * k + j - k = i * k + j by rw [Nat.succ_mul]; omega]
      exact ih i j x (by simpa using h) hj
theorem flat_len (hk : ∀ x, (enc x).length = k) (l : List α) : (l.flatMap enc).length = l.length * k := by
  induction l with
  | nil => simp
  | cons y r ih => rw [List.flatMap_cons, List.length_append, ih, hk, List.length_cons, Nat.succ_mul]; omega
variable [Inhabited α]
theorem flatK_list (hk : ∀ x, (enc x).length = k) (l : List α) : (flatK enc k l.toArray).toList = l.flatMap enc := by
  apply List.ext_getElem?
  intro t
  by_cases ht : t < l.length * k
  · have k0 : 0 < k := by rcases Nat.eq_zero_or_pos k with h | h; · subst h; simp at ht
                          · exact h
    have hi : t / k < l.length := (Nat.div_lt_iff_lt_mul k0).2 ht
    have hj : t % k < k := Nat.mod_lt _ k0
    have e : t / k * k + t % k = t := by rw [Nat.mul_comm]; exact Nat.div_add_mod t k
    have h1 := flat_get hk l (t / k) (t % k) _ (List.getElem?_eq_getElem hi) hj
    rw [e] at h1
    rw [h1]
    have h2 := get_flatK enc k l.toArray t (by simpa using ht)
    rw [getElem!_pos _ t (by simpa using ht)] at h2
    rw [Array.getElem?_toList, Array.getElem?_eq_getElem (by simpa using ht), h2]
    rw [getElem!_pos l.toArray (t / k) (by simpa using hi)]
    rw [getElem!_pos _ (t % k) (by simpa [hk] using hj), List.getElem?_eq_getElem (by rw [hk]; exact hj)]
    simp
  · rw [List.getElem?_eq_none (by simp; omega), List.getElem?_eq_none (by rw [flat_len hk]; omega)]
theorem holdsK_of_row (hk : ∀ x, (enc x).length = k) {w : World} {base : Nat} {e : TypeId} {g cap : Nat} {l : List α} (h : w.ownsRow base e k (.slice (some ⟨g, 0, none⟩) l.length cap) l.length (l.flatMap enc)) : HoldsK enc k w g 0 l.toArray := by
  intro j hj
  have hj2 : j < l.length * k := by simpa using hj
  refine ⟨?_, by rw [Nat.zero_add]; exact h.frozenAt j⟩
  rw [Nat.zero_add, h.cellAt j hj2, ← flatK_list hk, Array.getElem?_toList, Array.getElem?_eq_getElem hj, getElem!_pos _ j hj]
  rfl
theorem sortWorldK_heap {w : World} {g n : Nat} {cur : Array Value} {e : TypeId} {fr : Nat × Nat} {d : Array α} {os : Array Obj} (h : w.heap[g]? = some (.cells cur e fr)) : (Go.Proofs.sortWorldK enc k w g 0 n d os).heap[g]? = some (.cells (putCells id 0 (flatK enc k d) cur) e fr) := by
  have hg : g < w.heap.size := (Array.getElem?_eq_some_iff.1 h).1
  show (w.heap.modify g (onCells (putCells id 0 (flatK enc k d))) ++ os)[g]? = _
  rw [Array.getElem?_append_left (by simpa using hg), Array.getElem?_modify, if_pos rfl, h]
  rfl
theorem sortWorldK_grown {w : World} {g n : Nat} {d : Array α} {os : Array Obj} : w.grownBy (Go.Proofs.sortWorldK enc k w g 0 n d os) (some g) := by
  refine ⟨rfl, rfl, rfl, ?_, fun b hb hne => ?_⟩
  · show w.heap.size ≤ (w.heap.modify g (onCells (putCells id 0 (flatK enc k d))) ++ os).size
    simp
  · show (w.heap.modify g (onCells (putCells id 0 (flatK enc k d))) ++ os)[b]? = _
    rw [Array.getElem?_append_left (by simpa using hb), Array.getElem?_modify, if_neg (fun e => hne (by rw [e]))]
theorem sortWorldK_own (hk : ∀ x, (enc x).length = k) {w : World} {base : Nat} {e : TypeId} {g cap n : Nat} {l : List α} {d : Array α} {os : Array Obj} (h : w.ownsRow base e k (.slice (some ⟨g, 0, none⟩) l.length cap) l.length (l.flatMap enc)) (hd : d.size = l.length) :
    (Go.Proofs.sortWorldK enc k w g 0 n d os).ownsRow base e k (.slice (some ⟨g, 0, none⟩) l.length cap) l.length (d.toList.flatMap enc) := by
  obtain ⟨h1, h2⟩ := h
  refine ⟨by rw [flat_len hk, Array.length_toList, hd], ?_⟩
  rcases h2 with ⟨h2, _⟩ | ⟨g', cap', cur, hv, hg, hh, hnc, hcm, hcs, htk⟩
  · cases h2
  · simp only [Value.slice.injEq, Option.some.injEq, Addr.mk.injEq, and_true, true_and] at hv
    obtain ⟨rfl, rfl⟩ := hv
    refine .inr ⟨g, cap, _, rfl, hg, sortWorldK_heap hh, hnc, hcm, by simp [putCells, hcs], ?_⟩
    rw [← flatK_list hk, Array.toArray_toList]
    apply List.ext_getElem?
    intro t
    have hsz : (flatK enc k d).size = l.length * k := by simp [hd]
    by_cases ht : t < l.length * k
    · have htc : t < cur.size := by rw [hcs]; exact Nat.lt_of_lt_of_le ht (Nat.mul_le_mul_right _ hnc)
      rw [List.getElem?_take_of_lt ht, Array.getElem?_toList, Array.getElem?_toList]
      unfold putCells
      rw [Array.getElem?_mapIdx, Array.getElem?_eq_getElem htc, Option.map_some, if_pos ⟨by omega, by omega⟩, Nat.sub_zero, getElem!_pos _ t (by omega), Array.getElem?_eq_getElem (by omega)]
      rfl
    · rw [List.getElem?_eq_none (by rw [List.length_take]; omega), List.getElem?_eq_none (by rw [Array.length_toList]; omega)]
end

/-! ### At spans -/
abbrev BSpan := {x : Span // (0 ≤ x.1 ∧ x.1 ≤ 2000000) ∧ (0 ≤ x.2 ∧ x.2 ≤ 2000000)}
instance : Inhabited BSpan := ⟨⟨(0, 0), by decide⟩⟩
def encB (x : BSpan) : List Value := encS x.1
def cfB (x y : BSpan) : Int := x.1.1 - y.1.1
theorem ltB (x y : BSpan) : Go.Proofs.ltOf cfB x y = decide (x.1.1 < y.1.1) := by
  unfold Go.Proofs.ltOf cfB
  rw [decide_eq_decide]; omega
theorem swoB : SWO (Go.Proofs.ltOf cfB) where
  irrefl x := by rw [ltB]; simp
  trans x y z h1 h2 := by rw [ltB] at *; simp at *; omega
  ntrans x y z h1 h2 := by rw [ltB] at *; simp at *; omega

theorem lessSp (x y : BSpan) (W : World) : Calls Try.prog 35 #[.agg (encB x).toArray, .agg (encB y).toArray] W fun e w' => e = .returned (.int .i64 (cfB x y)) ∧ ∃ q os', w' = grow (W.drewN q) os' := by
  obtain ⟨⟨x1, x2⟩, hx1, hx2⟩ := x
  obtain ⟨⟨y1, y2⟩, hy1, hy2⟩ := y
  simp only at hx1 hx2 hy1 hy2
  show Calls Try.prog 35 #[.agg #[.int .i64 x1, .int .i64 x2], .agg #[.int .i64 y1, .int .i64 y2]] W fun e w' => e = .returned (.int .i64 (x1 - y1)) ∧ ∃ q os', w' = grow (W.drewN q) os'
  go_enter Try.func35, Try.ntmps35
  go_wp2
  go_ret
  exact ⟨rfl, 0, _, by rw [alloc_eq_grow, alloc_eq_grow, grow_grow]; rfl⟩
theorem cmpLaysB (blk off size : Nat) (w : World) : CmpLays Try.prog 35 #[] encB 2 cfB blk off size w :=
  fun _ _ _ _ x y => lessSp x y _

/-- In the order of the beginnings. -/
def ByFrom (l : List Span) : Prop := ∀ (i j : Nat) (x y : Span), i < j → l[i]? = some x → l[j]? = some y → x.1 ≤ y.1
def inB (x : Span) : Prop := (0 ≤ x.1 ∧ x.1 ≤ 2000000) ∧ (0 ≤ x.2 ∧ x.2 ≤ 2000000)
theorem flat_val (l : List BSpan) : (l.map (·.1)).flatMap encS = l.flatMap encB := by
  rw [List.flatMap_map]; rfl
theorem lift_B : ∀ (l : List Span), (∀ x ∈ l, inB x) → ∃ d : List BSpan, d.map (·.1) = l
  | [], _ => ⟨[], rfl⟩
  | x :: r, h => by
    obtain ⟨d, hd⟩ := lift_B r fun y hy => h y (by simp [hy])
    exact ⟨⟨x, h x (by simp)⟩ :: d, by simp [hd]⟩
set_option maxHeartbeats 2000000 in
theorem sortSp_any (l : List Span) (v : Value) (w : World) (base : Nat) (hO : ownSp w base l v) (hB : ∀ x ∈ l, inB x) (hne : l ≠ []) (hn : l.length ≤ 20000) :
    Calls Try.prog 34 #[v, .func (.func 35) #[] #[]] w fun e w' => e = .returned (.tuple #[]) ∧ ∃ l', l'.Perm l ∧ ByFrom l' ∧ ownSp w' base l' v ∧ w.grownBy w' v.ownBlock := by
  obtain ⟨d, rfl⟩ := lift_B l hB
  obtain ⟨h1, h2⟩ := hO
  obtain ⟨g, cap, hv, hg1, hg2⟩ := h1.form (by have := List.length_pos_iff.2 hne; exact this)
  subst hv
  rw [flat_val, List.length_map] at h1
  simp only [List.length_map] at hn ⊢
  have eg : ∀ args w, (callFunc 35 args).run Try.prog w = .ok (.enter 35 args) w := enters_of Try.func35 (by kernel_rfl) rfl
  have hcon := AnyQ.slices_SortFunc Try.sortSpan 2 Try.isAgg55 Try.sizeOf55 encB (fun _ => rfl) (fun x v hv => by simp [encB, encS] at hv; rcases hv with rfl | rfl <;> rfl) cfB swoB 35 #[] g 0 cap d.toArray w eg (cmpLaysB g 0 d.toArray.size w) (holdsK_of_row (enc := encB) (fun _ => rfl) h1) hg2 (by simp; omega)
  change Calls Try.prog 34 _ _ _ at hcon
  refine hcon.mono ?_
  rintro e w' ⟨he, d', n, os, ⟨p1, p2, p3⟩, hs, rfl⟩
  have hsz : d'.size = d.length := by simpa using p1
  have hp : d'.toList.Perm d := by
    have h : (List.take d.length d'.toList).Perm d := by simpa using p3
    rwa [List.take_of_length_le (by rw [Array.length_toList, hsz]; exact Nat.le_refl _)] at h
  refine ⟨he, d'.toList.map (·.1), hp.map _, ?_, ⟨?_, ?_⟩, sortWorldK_grown⟩
  · intro i j x y hij hx hy
    rw [List.getElem?_map] at hx hy
    obtain ⟨x', hx', rfl⟩ := Option.map_eq_some_iff.1 hx
    obtain ⟨y', hy', rfl⟩ := Option.map_eq_some_iff.1 hy
    obtain ⟨hi, hx''⟩ := List.getElem?_eq_some_iff.1 hx'
    obtain ⟨hj, hy''⟩ := List.getElem?_eq_some_iff.1 hy'
    have hj2 : j < d'.size := by simpa using hj
    have h := hs i j (Nat.zero_le _) hij (by simp; omega)
    rw [ltB, getElem!_pos d' i (by omega), getElem!_pos d' j hj2] at h
    simp only [decide_eq_false_iff_not] at h
    rw [Array.getElem_toList] at hx'' hy''
    subst hx''; subst hy''
    omega
  · have := sortWorldK_own (enc := encB) (n := n) (os := os) (fun _ => rfl) h1 hsz
    rw [flat_val, List.length_map, show d'.toList.length = d.length from hsz]
    exact this
  · intro x hx
    refine h2 x ?_
    exact (hp.map _).mem_iff.1 hx
end Go.Proofs.Yteoojplgchlhcaa
