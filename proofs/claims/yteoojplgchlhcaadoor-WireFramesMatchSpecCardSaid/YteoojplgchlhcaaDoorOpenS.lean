/-
  The reading of structs of any number of fields. No statement of the seat is proved here; no conditions.
-/
import Derived.Test.YteoojplgchlhcaaDoorOpen
namespace Go.Proofs.YteoojplgchlhcaaDoor
open Go.RowKit Go.ChangeShapes Go.WideShapes Go.ChangeAt
set_option linter.unusedVariables false
set_option linter.unusedSimpArgs false

section
variable {P : Program} {H : Type} {enc : TypeId × Value → H} {W : World} {t e : TypeId}
/-- Fields from cell off on, sz cells together. -/
def OpensF {α : Type} (P : Program) (H : Type) (enc : TypeId × Value → H) (W : World) (fs : List Field) (off sz : Nat) (R : Rep α) (μ : α → Nat) : Prop :=
  ∀ (B fuel : Nat) (cs : List Value) (xs : List (DataW H × List MemPlace)), xs.length = fs.length → (∀ (i : Nat) (f : Field), fs[i]? = some f → DataW.trod enc P W 0 (fun _ => true) true fuel f.type ((cs.drop f.offset).take (P.cellsOf f.type)) = xs[i]?) →
    (∀ x ∈ xs, ∀ q ∈ x.2, q.block < B) → (∀ (i : Nat) (f : Field) (x : DataW H × List MemPlace), fs[i]? = some f → xs[i]? = some x → ∀ n ∈ x.1.weights P f.type, n ≤ reachBytes) → off + sz ≤ cs.length →
    ∃ a, R W B a ((cs.drop off).take sz) ∧ μ a ≤ Rows.uptoBulkAll (xs.map (·.1))
theorem opens_fields_one {α : Type} {f : Field} {off sz : Nat} {R : Rep α} {μ : α → Nat} (ho : f.offset = off) (hc : P.cellsOf f.type = sz) (h : Opens P H enc W f.type sz R μ) : OpensF P H enc W [f] off sz R μ := by
  intro B fuel cs xs hl hx hp hw hcs
  match xs, hl with
  | [y], _ =>
    have g := hx 0 f rfl
    rw [ho, hc] at g
    obtain ⟨a, ha, hm⟩ := h B fuel _ _ g (fun q hq => hp y (by simp) q hq) (fun n hn => hw 0 f y rfl rfl n hn) (by simp; omega)
    exact ⟨a, ha, by simpa [Rows.uptoBulkAll] using hm⟩
theorem opens_fields_cons {α β : Type} {f : Field} {fs : List Field} {off s0 s1 : Nat} {R : Rep α} {S : Rep β} {μ : α → Nat} {ν : β → Nat} (ho : f.offset = off) (hc : P.cellsOf f.type = s0) (h : Opens P H enc W f.type s0 R μ)
    (hr : OpensF P H enc W fs (off + s0) s1 S ν) : OpensF P H enc W (f :: fs) off (s0 + s1) (rPair R S) (fun x => μ x.1 + ν x.2) := by
  intro B fuel cs xs hl hx hp hw hcs
  match xs, hl with
  | y :: ys, hl =>
    have g := hx 0 f rfl
    rw [ho, hc] at g
    obtain ⟨a, ha, hm⟩ := h B fuel _ _ g (fun q hq => hp y (by simp) q hq) (fun n hn => hw 0 f y rfl rfl n hn) (by simp; omega)
    obtain ⟨b, hb, hn⟩ := hr B fuel cs ys (by simpa using hl) (fun i f' hf => by have := hx (i + 1) f' (by simpa using hf); simpa using this) (fun x hx q hq => hp x (by simp [hx]) q hq)
      (fun i f' x hf hxi n hn => hw (i + 1) f' x (by simpa using hf) (by simpa using hxi) n hn) (by omega)
    refine ⟨(a, b), ⟨(cs.drop off).take s0, (cs.drop (off + s0)).take s1, ?_, ha, hb⟩, ?_⟩
    · rw [List.take_add, List.drop_drop]
    · simp [Rows.uptoBulkAll]; omega
theorem weightsEach_mem {n : Nat} : ∀ {ts : List TypeId} {ds : List (DataW H)} {i : Nat} {t : TypeId} {d : DataW H}, ts[i]? = some t → ds[i]? = some d → n ∈ d.weights P t → n ∈ DataW.weightsEach P ts ds :=
  fun ht hd hn => DataW.weights_mem_each ht hd n hn
theorem opens_struct {α : Type} {fs : List Field} {sz : Nat} {R : Rep α} {μ : α → Nat} (ht : P.underlying t = some (.struct fs.toArray)) (hc : P.cellsOf t = sz) (h : OpensF P H enc W fs 0 sz R μ) : Opens P H enc W t sz R (fun x => μ x + 1) := by
  intro B fuel cs x hx hlt hw hcs
  obtain ⟨xs, n, _, rfl, hlen, hxl, hg⟩ := DataW.trod_struct ht hx
  obtain ⟨a, ha, hm⟩ := h B n cs xs (by simpa using hxl) (fun i f hf => by have := hg i f (by simpa using hf); exact this) (fun y hy q hq => hlt q (List.mem_flatMap.2 ⟨y, hy, hq⟩))
    (fun i f y hf hy m hm => hw m (by
      simp only [DataW.weights, ht]
      refine weightsEach_mem (i := i) (t := f.type) (d := y.1) ?_ ?_ hm
      · simp [hf]
      · simp [hy])) (by omega)
  refine ⟨a, ?_, ?_⟩
  · rw [List.drop_zero, List.take_of_length_le (by omega)] at ha
    exact ha
  · simp [Rows.uptoBulk]; omega
end
end Go.Proofs.YteoojplgchlhcaaDoor
