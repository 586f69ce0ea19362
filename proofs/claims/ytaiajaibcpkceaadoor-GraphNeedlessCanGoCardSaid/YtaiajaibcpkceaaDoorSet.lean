/-
  Sets of strings as the machine's maps. No statement of the seat is proved here; no conditions.
-/
import Derived.Test.YtaiajaibcpkceaaDoorEngV
import Derived.Test.YtaiajaibcpkceaaDoorRun
namespace Go.Proofs.YtaiajaibcpkceaaDoor
open Go.RowKit
set_option linter.unusedVariables false
set_option linter.unusedSimpArgs false

def hasS (s : ByteArray) (l : List ByteArray) : Bool := l.any fun d => decide (d = s)
def setL (l : List ByteArray) : List (ByteArray × Value) := l.foldl (fun m d => mSet d (.bool true) m) []
theorem setL_nil : setL [] = [] := rfl
theorem setL_snoc (l : List ByteArray) (d : ByteArray) : mSet d (.bool true) (setL l) = setL (l ++ [d]) := by rw [setL, setL, List.foldl_append]; rfl
theorem mGet_mSet (d : ByteArray) (x : Value) (s : ByteArray) : ∀ m : List (ByteArray × Value), mGet s (mSet d x m) = if d = s then some x else mGet s m
  | [] => by simp [mSet, mGet]
  | (k, v) :: m => by
    by_cases h : k = d
    · subst h
      simp only [mSet, if_true, mGet]
      split <;> rename_i h <;> simp [h]
    · simp only [mSet, if_neg h, mGet, mGet_mSet d x s m]
      by_cases h1 : k = s
      · subst h1; rw [if_pos rfl, if_neg (Ne.symm h), if_pos rfl]
      · rw [if_neg h1, if_neg h1]
theorem mGet_setL (s : ByteArray) (l : List ByteArray) : mGet s (setL l) = if hasS s l = true then some (.bool true) else none := by
  have key : ∀ (l : List ByteArray) (m : List (ByteArray × Value)), mGet s (l.foldl (fun m d => mSet d (.bool true) m) m) = if hasS s l = true then some (Value.bool true) else mGet s m := by
    intro l
    induction l with
    | nil => intro m; simp [hasS]
    | cons d l ih =>
      intro m
      rw [List.foldl_cons, ih, mGet_mSet]
      have e : hasS s (d :: l) = (decide (d = s) || hasS s l) := rfl
      rw [e]
      cases h1 : hasS s l <;> by_cases h2 : d = s <;> simp [h2]
  rw [setL, key]; rfl
theorem mGet_t {s : ByteArray} {l : List ByteArray} (h : hasS s l = true) : mGet s (setL l) = some (.bool true) := by rw [mGet_setL, h]; rfl
theorem mGet_f {s : ByteArray} {l : List ByteArray} (h : hasS s l = false) : mGet s (setL l) = none := by rw [mGet_setL, h]; rfl
theorem hasS_iff {s : ByteArray} {l : List ByteArray} : hasS s l = true ↔ s ∈ l := by
  unfold hasS
  rw [List.any_eq_true]
  constructor
  · rintro ⟨x, h1, h2⟩; exact of_decide_eq_true h2 ▸ h1
  · intro h; exact ⟨s, h, by simp⟩
/-- Bytes as a string. -/
abbrev bs (l : List UInt8) : ByteArray := ⟨l.toArray⟩
theorem bs_inj {a b : List UInt8} (h : bs a = bs b) : a = b := by
  have := congrArg (fun x : ByteArray => x.data.toList) h
  simpa using this
theorem hasS_bs {x : List UInt8} {l : List (List UInt8)} : hasS (bs x) (l.map bs) = decide (x ∈ l) := by
  rw [Bool.eq_iff_iff, hasS_iff, decide_eq_true_eq, List.mem_map]
  constructor
  · rintro ⟨y, h1, h2⟩; exact bs_inj h2 ▸ h1
  · intro h; exact ⟨x, h, rfl⟩
section
variable {α : Type} {p : α → Bool} {l m : List α} {i j : Nat} {x : α}
def ixV (p : α → Bool) : List α → Int
  | [] => -1
  | x :: l => if p x = true then 0 else if ixV p l = -1 then -1 else ixV p l + 1
theorem ix_none : ∀ {l : List α}, (∀ k x, k < l.length → l[k]? = some x → p x = false) → ixV p l = -1
  | [], _ => rfl
  | x :: l, h => by
    have h1 := h 0 x (by simp) rfl
    have h2 := ix_none (l := l) fun k y hk hy => h (k + 1) y (by simpa using hk) (by simpa using hy)
    simp [ixV, h1, h2]
theorem ix_hit : ∀ {l : List α} {i : Nat} {x : α}, (∀ k x, k < i → l[k]? = some x → p x = false) → l[i]? = some x → p x = true → ixV p l = i
  | [], i, x, _, h, _ => by simp at h
  | y :: l, 0, x, h, hx, hp => by
    simp at hx; subst hx; simp [ixV, hp]
  | y :: l, i + 1, x, h, hx, hp => by
    have h1 := h 0 y (by omega) rfl
    have h2 := ix_hit (l := l) (i := i) (fun k z hk hz => h (k + 1) z (by omega) (by simpa using hz)) (by simpa using hx) hp
    simp only [ixV, h1, h2]
    rw [if_neg (by simp), if_neg (by omega)]; omega
theorem ix_ge (p : α → Bool) : ∀ l : List α, -1 ≤ ixV p l
  | [] => by simp [ixV]
  | x :: l => by
    have := ix_ge p l
    unfold ixV; split
    · omega
    · split <;> omega
theorem ix_any (p : α → Bool) : ∀ l : List α, decide (0 ≤ ixV p l) = l.any p
  | [] => by simp [ixV]
  | x :: l => by
    have h1 := ix_any p l
    have h2 := ix_ge p l
    rw [List.any_cons, ← h1]
    rw [ixV]
    cases hx : p x
    · rw [if_neg (by decide)]
      split
      · rename_i h3; rw [h3]; rfl
      · rename_i h3; simp only [Bool.false_or]; rw [decide_eq_decide]; omega
    · rw [if_pos rfl]; rfl
end
end Go.Proofs.YtaiajaibcpkceaaDoor
