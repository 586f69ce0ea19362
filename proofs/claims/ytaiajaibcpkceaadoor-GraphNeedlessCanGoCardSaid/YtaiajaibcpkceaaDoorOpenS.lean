/-
  The reading of structs of any number of fields. No statement of the seat is proved here; no conditions.
-/
import Derived.Test.YtaiajaibcpkceaaDoorOpen
namespace Go.Proofs.YtaiajaibcpkceaaDoor
open Go.RowKit Go.ChangeShapes Go.WideShapes Go.ChangeAt
set_option linter.unusedVariables false
set_option linter.unusedSimpArgs false

section
variable {P : Program} {H : Type} {enc : TypeId × Value → H} {W : World} {t e : TypeId}
/-- Fields from cell off on, sz cells together. -/
def OpensF {α : Type} (P : Program) (H : Type) (enc : TypeId × Value → H) (W : World) (fs : List Field) (off sz : Nat) (R : Rep α) (μ : α → Nat) : Prop :=
  ∀ (B fuel : Nat) (cs : List Value) (xs : List (DataW H × List MemPlace)), xs.length = fs.length → (∀ (i : Nat) (f : Field), fs[i]? = some f → DataW.trod enc P W 0 (fun _ => true) true fuel f.type ((cs.drop f.offset).take (P.cellsOf f.type)) = xs[i]?) →
    (∀ x ∈ xs, ∀ q ∈ x.2, q.block < B) → (∀ (i : Nat) (f : Field) (x : DataW H × List MemPlace), fs[i]? = some f → xs[i]? = some x → ∀ n ∈ x.1.weights P f.type, n ≤ reachBytes) → off + sz ≤ cs.length →
    ∃ a, R W B a ((cs.drop off).take sz) ∧ μ a ≤ Rows.uptoBulkAll (xs.map (·.1))
theorem opens_fields_one {α : Type} {f : Field} {off sz : Nat} {R : Rep α} {μ : α → Nat} (ho : f.offset = off) (hc : P.cellsOf f.type = sz) (h : Opens P H enc W f.type sz R μ) : OpensF P H enc W [f] off sz R μ := by
  intro B fuel cs xs hl hx hp hw hcs
  match xs, hl with
  | [y], _ =>
    have g := hx 0 f rfl
    rw [ho, hc] at g
    obtain ⟨a, ha, hm⟩ := h B fuel _ _ g (fun q hq => hp y (by simp) q hq) (fun n hn => hw 0 f y rfl rfl n hn) (by simp; omega)
    exact ⟨a, ha, by simpa [Rows.uptoBulkAll] using hm⟩
theorem opens_fields_cons {α β : Type} {f : Field} {fs : List Field} {off s0 s1 : Nat} {R : Rep α} {S : Rep β} {μ : α → Nat} {ν : β → Nat} (ho : f.offset = off) (hc : P.cellsOf f.type = s0) (h : Opens P H enc W f.type s0 R μ)
    (hr : OpensF P H enc W fs (off + s0) s1 S ν) : OpensF P H enc W (f :: fs) off (s0 + s1) (rPair R S) (fun x => μ x.1 + ν x.2) := by
  intro B fuel cs xs hl hx hp hw hcs
  match xs, hl with
  | y :: ys, hl =>
    have g := hx 0 f rfl
    rw [ho, hc] at g
    obtain ⟨a, ha, hm⟩ := h B fuel _ _ g (fun q hq => hp y (by simp) q hq) (fun n hn => hw 0 f y rfl rfl n hn) (by simp; omega)
    obtain ⟨b, hb, hn⟩ := hr B fuel cs ys (by simpa using hl) (fun i f' hf => by have := hx (i + 1) f' (by simpa using hf); simpa using this) (fun x hx q hq => hp x (by simp [hx]) q hq)
      (fun i f' x hf hxi n hn => hw (i + 1) f' x (by simpa using hf) (by simpa using hxi) n hn) (by omega)
    refine ⟨(a, b), ⟨(cs.drop off).take s0, (cs.drop (off + s0)).take s1, ?_, ha, hb⟩, ?_⟩
    · rw [List.take_add, List.drop_drop]
    · simp [Rows.uptoBulkAll]; omega
theorem weightsEach_mem {n : Nat} : ∀ {ts : List TypeId} {ds : List (DataW H)} {i : Nat} {t : TypeId} {d : DataW H}, ts[i]? = some t → ds[i]? = some d → n ∈ d.weights P t → n ∈ DataW.weightsEach P ts ds :=
  fun ht hd hn => DataW.weights_mem_each ht hd n hn
theorem opens_struct {α : Type} {fs : List Field} {sz : Nat} {R : Rep α} {μ : α → Nat} (ht : P.underlying t = some (.struct fs.toArray)) (hc : P.cellsOf t = sz) (h : OpensF P H enc W fs 0 sz R μ) : Opens P H enc W t sz R (fun x => μ x + 1) := by
  intro B fuel cs x hx hlt hw hcs
  obtain ⟨xs, n, _, rfl, hlen, hxl, hg⟩ := DataW.trod_struct ht hx
  obtain ⟨a, ha, hm⟩ := h B n cs xs (by simpa using hxl) (fun i f hf => by have := hg i f (by simpa using hf); exact this) (fun y hy q hq => hlt q (List.mem_flatMap.2 ⟨y, hy, hq⟩))
    (fun i f y hf hy m hm => hw m (by
      simp only [DataW.weights, ht]
      refine weightsEach_mem (i := i) (t := f.type) (d := y.1) ?_ ?_ hm
      · simp [hf]
      · simp [hy])) (by omega)
  refine ⟨a, ?_, ?_⟩
  · rw [List.drop_zero, List.take_of_length_le (by omega)] at ha
    exact ha
  · simp [Rows.uptoBulk]; omega
/-- With the reach's own bound. -/
def rSlT {α : Type} (sz bts : Nat) (R : Rep α) : Rep (List α) := fun w B l cs => rSl sz bts R w B l cs ∧ l.length * bts ≤ 140737488351232
theorem opens_sliceT {α : Type} {sz bts : Nat} {R : Rep α} {μ : α → Nat} (ht : P.underlying t = some (.slice e)) (hc : P.cellsOf e = sz) (hby : P.bytesOf e = bts) (hpos : 0 < sz) (he : Opens P H enc W e sz R μ) :
    Opens P H enc W t 1 (rSlT sz bts R) (mSl μ) := by
  intro B fuel cs x h hlt hw _
  rcases Go.Deep.open_slice ht h with ⟨rfl, rfl⟩ | ⟨a, len, cap, m, n, D, Pl, rfl, _, hl, hm, hmm, rfl, hx⟩
  · exact ⟨[], ⟨rSl.nil_, by simp⟩, by simp [mSl, Rows.uptoBulk]⟩
  · simp only [if_true] at hmm
    subst hmm
    rw [hc] at hx hlt
    have hw0 := hw ((((List.range len).map D).length + ((List.range (m - len)).map fun j => D (len + j)).length) * P.bytesOf e) (by simp [DataW.weights, ht])
    simp only [List.length_map, List.length_range, hby] at hw0
    have hwi : ∀ i, i < len → ∀ n ∈ (D i).weights P e, n ≤ reachBytes := by
      intro i hi n hn
      refine hw n ?_
      simp only [DataW.weights, ht, List.mem_cons, List.mem_append]
      exact .inr (.inl (weightsAll_mem (List.mem_map.2 ⟨i, List.mem_range.2 hi, rfl⟩) n hn))
    have hel : ∀ i, i < len → ∃ y : α × List Value, y.2.length = sz ∧ R W B y.1 y.2 ∧ μ y.1 ≤ Rows.uptoBulk (D i) ∧ ∀ (j : Nat) (u : Value), y.2[j]? = some u → W.cell? (a.add (i * sz + j)) = some u := by
      intro i hi
      obtain ⟨cs', h1, h2⟩ := hx i (by omega)
      obtain ⟨_, hcl, hat⟩ := World.cells?_some h1
      obtain ⟨y, hy, hμ⟩ := he B n cs' _ h2 (fun q hq => hlt q (List.mem_append_right _ (List.mem_flatMap.2 ⟨i, List.mem_range.2 (by omega), hq⟩))) (hwi i hi) hcl
      refine ⟨(y, cs'), hcl, hy, hμ, fun j u hj => ?_⟩
      have hjl : j < sz := by have := (List.getElem?_eq_some_iff.1 hj).1; rwa [hcl] at this
      have := hat j hjl
      rw [Go.Deep.add_add] at this
      rw [this]; exact hj
    have hch : ∃ f : Nat → Option (α × List Value), ∀ i, i < len → ∃ y, f i = some y ∧ y.2.length = sz ∧ R W B y.1 y.2 ∧ μ y.1 ≤ Rows.uptoBulk (D i) ∧ ∀ (j : Nat) (u : Value), y.2[j]? = some u → W.cell? (a.add (i * sz + j)) = some u := by
      obtain ⟨f, hf⟩ := Go.Deep.choose_lt (α := Option (α × List Value)) (p := fun i o => ∃ y, o = some y ∧ y.2.length = sz ∧ R W B y.1 y.2 ∧ μ y.1 ≤ Rows.uptoBulk (D i) ∧ ∀ (j : Nat) (u : Value), y.2[j]? = some u → W.cell? (a.add (i * sz + j)) = some u)
        (fun i hi => let ⟨y, hy⟩ := hel i hi; ⟨some y, y, rfl, hy⟩)
      exact ⟨f, hf⟩
    obtain ⟨f, hf⟩ := hch
    have hlist : ∃ ys : List (α × List Value), ys.length = len ∧ ∀ i y, ys[i]? = some y → f i = some y := by
      have : ∀ k, k ≤ len → ∃ ys : List (α × List Value), ys.length = k ∧ ∀ i y, ys[i]? = some y → f i = some y := by
        intro k
        induction k with
        | zero => intro _; exact ⟨[], rfl, fun i y h => by simp at h⟩
        | succ k ih =>
          intro hk
          obtain ⟨ys, h1, h2⟩ := ih (by omega)
          obtain ⟨y, hy, _⟩ := hf k (by omega)
          refine ⟨ys ++ [y], by simp [h1], fun i z hz => ?_⟩
          by_cases hi : i < k
          · rw [List.getElem?_append_left (by omega)] at hz; exact h2 i z hz
          · have hi2 : i < k + 1 := by have := (List.getElem?_eq_some_iff.1 hz).1; simpa [h1] using this
            obtain rfl : i = k := by omega
            rw [List.getElem?_append_right (by omega), h1] at hz
            simp at hz
            rw [hy, hz]
      exact this len (Nat.le_refl _)
    obtain ⟨ys, hyl, hyf⟩ := hlist
    have hyp : ∀ i y, ys[i]? = some y → y.2.length = sz ∧ R W B y.1 y.2 ∧ μ y.1 ≤ Rows.uptoBulk (D i) ∧ ∀ (j : Nat) (u : Value), y.2[j]? = some u → W.cell? (a.add (i * sz + j)) = some u := by
      intro i y hy
      have hi : i < len := by rw [← hyl]; exact (List.getElem?_eq_some_iff.1 hy).1
      obtain ⟨z, hz, r⟩ := hf i hi
      rw [hyf i y hy] at hz
      cases hz
      exact r
    refine ⟨ys.map (·.1), ⟨⟨some a, m, by simp [hyl], by simpa [hyl] using hl, hm, ?_, fun h0 => ?_⟩, ?_⟩, ?_⟩
    · have : len * bts ≤ (len + (m - len)) * bts := Nat.mul_le_mul_right _ (by omega)
      simp only [List.length_map, hyl]
      unfold reachBytes at hw0
      omega
    · simp only [List.length_map, hyl] at h0
      obtain ⟨y0, hy0⟩ : ∃ y, ys[0]? = some y := ⟨_, List.getElem?_eq_getElem (by omega)⟩
      obtain ⟨hl0, _, _, hc0⟩ := hyp 0 y0 hy0
      obtain ⟨b, off, spot⟩ := a
      have hspot : spot = none := by
        have hu : ∃ u, y0.2[0]? = some u := ⟨_, List.getElem?_eq_getElem (by omega)⟩
        obtain ⟨u, hu⟩ := hu
        have := hc0 0 u hu
        simpa [Addr.add] using World.cell?_spot this
      subst hspot
      refine ⟨b, off, rfl, hlt (.cell b off) (List.mem_append_left _ (MemPlace.mem_row.2 ⟨0, Nat.mul_pos (by omega) hpos, by simp⟩)), fun k x hk => ?_⟩
      rw [List.getElem?_map, Option.map_eq_some_iff] at hk
      obtain ⟨y, hy, rfl⟩ := hk
      obtain ⟨h1, h2, _, h4⟩ := hyp k y hy
      refine ⟨y.2, h1, h2, fun j u hj => ?_⟩
      have := h4 j u hj
      rw [Addr.add_lit] at this
      rw [Nat.add_assoc]; exact this
    · have : len * bts ≤ (len + (m - len)) * bts := Nat.mul_le_mul_right _ (by omega)
      simp only [List.length_map, hyl]
      unfold reachBytes at hw0
      omega
    · simp only [mSl, Rows.uptoBulk, bulkAll_map, List.map_map]
      have : ∀ (k : Nat) (ys : List (α × List Value)), (∀ i y, ys[i]? = some y → μ y.1 ≤ Rows.uptoBulk (D (k + i))) → (ys.map (μ ∘ fun x => x.1)).sum ≤ ((List.range' k ys.length).map fun i => Rows.uptoBulk (D i)).sum := by
        intro k ys
        induction ys generalizing k with
        | nil => intro _; simp
        | cons y r ih =>
          intro h
          have h0 := h 0 y rfl
          have h1 := ih (k + 1) (fun i z hz => by have := h (i + 1) z (by simpa using hz); rwa [show k + (i + 1) = k + 1 + i by omega] at this)
          simp only [List.map_cons, List.sum_cons, List.length_cons, List.range'_succ, Function.comp_apply]
          simp only [Nat.add_zero] at h0
          omega
      have h := this 0 ys (fun i y hy => by rw [Nat.zero_add]; exact (hyp i y hy).2.2.1)
      rw [hyl, ← List.range_eq_range'] at h
      omega

theorem arg_sliceT {α : Type} {sz bts : Nat} {R : Rep α} {μ : List α → Nat} {v : Value} {d : DataW H} {p : List MemPlace} {r : Reach} {b0 B : Nat} (ht : P.underlying t = some (.slice e)) (ho : Opens P H enc W t 1 (rSlT sz bts R) μ)
    (hv : Value.okWide P W r b0 t v) (h : DataW.Trod enc P W 0 (fun _ => true) true t v d p) (hlt : ∀ q ∈ p, q.block < B) (hw : ∀ n ∈ d.weights P t, n ≤ reachBytes) :
    ∃ A n c l, v = .slice A n c ∧ rSl sz bts R W B l [.slice A n c] ∧ n * bts ≤ 140737488351232 ∧ μ l ≤ Rows.uptoBulk d := by
  obtain ⟨A, n, c, rfl⟩ := okWide_slice ht hv
  obtain ⟨fuel, hf⟩ := h
  obtain ⟨l, hl, hm⟩ := ho B fuel _ _ hf hlt hw (by simp [Value.cells])
  exact ⟨A, n, c, l, rfl, hl.1, by rw [← hl.1.len]; exact hl.2, hm⟩
end
end Go.Proofs.YtaiajaibcpkceaaDoor
