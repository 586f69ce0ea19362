/-
  What values stand for (Rep), kept while memory grows (Stable); general lemmas for the walks of this seat. No statement of the seat is proved here; no conditions.
-/
import Derived.Test.YtaiajaibcpkceaaDoorRows
import Derived.WalkKit
import Derived.WalkSpells
import Derived.WalkLawsBesides
import Derived.BigQuiet
import Derived.Deep.QuietTactic
import Derived.Lib.Hide
import Derived.Deep.LoopGhost
import Derived.Deep.DeepCutAuto
import Derived.ProofKit
import Derived.SizedLaws
import Derived.Deep.Slices
import Derived.Deep.CondSized
import Derived.Deep.AppendLies
import Derived.JoinedCond
namespace Go.Proofs.YtaiajaibcpkceaaDoor
open Go.RowKit
set_option linter.unusedVariables false
set_option linter.unusedSimpArgs false

/-! ### Cells of old blocks -/
theorem bcell {W w1 : World} {B : Nat} (hb : Below B W w1) : (∀ b o, b < B → w1.cell? ⟨b, o, none⟩ = W.cell? ⟨b, o, none⟩) ∧ (∀ b o, b < B → w1.frozen? ⟨b, o, none⟩ = W.frozen? ⟨b, o, none⟩) :=
  ⟨fun b o h => hb.cell (p := ⟨b, o, none⟩) h, fun b o h => hb.frozen (p := ⟨b, o, none⟩) h⟩

theorem drewN_below {B : Nat} {a w : World} (h : Below B a w) (n : Nat) : Below B a (w.drewN n) := ⟨h.os, h.tape, h.output, h.size, h.block⟩

/-! ### What cells stand for -/
abbrev Rep (α : Type) := World → Nat → α → List Value → Prop

class Stable {α : Type} (R : Rep α) : Prop where
  keep : ∀ (w w' : World) (B B' : Nat) (x : α) (cs : List Value), Below B w w' → B ≤ B' → R w B x cs → R w' B' x cs

def rI (k : IntKind) : Rep Int := fun _ _ x cs => cs = [.int k x] ∧ (Lit.int k x).wf = true
def rByte : Rep UInt8 := fun _ _ x cs => cs = [.int .u8 (x.toNat : Int)]
def rBool : Rep Bool := fun _ _ x cs => cs = [.bool x]
def rStr : Rep ByteArray := fun _ _ x cs => cs = [.string x] ∧ x.size ≤ 140737488355328
def rPair {α β : Type} (R : Rep α) (S : Rep β) : Rep (α × β) := fun w B x cs => ∃ c1 c2, cs = c1 ++ c2 ∧ R w B x.1 c1 ∧ S w B x.2 c2
/-- A slice: sz cells an element, 'by' bytes an element. -/
def rSl {α : Type} (sz bts : Nat) (R : Rep α) : Rep (List α) := fun w B l cs =>
  ∃ (A : Option Addr) (c : Nat), cs = [.slice A l.length c] ∧ l.length ≤ c ∧ c ≤ maxLen ∧ l.length * bts ≤ 140737488355328 ∧
    (0 < l.length → ∃ b o, A = some ⟨b, o, none⟩ ∧ b < B ∧ ∀ (k : Nat) (x : α), l[k]? = some x → ∃ vs : List Value, vs.length = sz ∧ R w B x vs ∧ ∀ (j : Nat) (u : Value), vs[j]? = some u → w.cell? ⟨b, o + k * sz + j, none⟩ = some u)

instance {k : IntKind} : Stable (rI k) := ⟨fun _ _ _ _ _ _ _ _ h => h⟩
instance : Stable rByte := ⟨fun _ _ _ _ _ _ _ _ h => h⟩
instance : Stable rBool := ⟨fun _ _ _ _ _ _ _ _ h => h⟩
instance : Stable rStr := ⟨fun _ _ _ _ _ _ _ _ h => h⟩
instance {α β : Type} {R : Rep α} {S : Rep β} [Stable R] [Stable S] : Stable (rPair R S) :=
  ⟨fun w w' B B' _ _ hb hB ⟨c1, c2, e, h1, h2⟩ => ⟨c1, c2, e, Stable.keep w w' B B' _ _ hb hB h1, Stable.keep w w' B B' _ _ hb hB h2⟩⟩
instance {α : Type} {sz bts : Nat} {R : Rep α} [Stable R] : Stable (rSl sz bts R) :=
  ⟨fun w w' B B' _ _ hb hB ⟨A, c, e, h1, h2, h3, h4⟩ => ⟨A, c, e, h1, h2, h3, fun h0 => by
    obtain ⟨b, o, hA, hlt, hx⟩ := h4 h0
    refine ⟨b, o, hA, by omega, fun k x hk => ?_⟩
    obtain ⟨vs, hl, hR, hc⟩ := hx k x hk
    exact ⟨vs, hl, Stable.keep w w' B B' _ _ hb hB hR, fun j u hj => (hb.cell (p := ⟨b, _, none⟩) hlt).trans (hc j u hj)⟩⟩⟩

section
variable {α : Type} {R : Rep α} {w : World} {B sz bts n c : Nat} {A : Option Addr} {l : List α}
theorem rSl.nil_ : rSl sz bts R w B [] [.slice none 0 0] := ⟨none, 0, rfl, by simp, by simp, by simp, fun h => absurd h (by simp)⟩
theorem rSl.form {cs : List Value} (h : rSl sz bts R w B l cs) : ∃ A c, cs = [.slice A l.length c] ∧ l.length ≤ c ∧ c ≤ maxLen := by
  obtain ⟨A, c, e, h1, h2, _⟩ := h
  exact ⟨A, c, e, h1, h2⟩
theorem rSl.len (h : rSl sz bts R w B l [.slice A n c]) : l.length = n := by
  obtain ⟨A', c', e, _⟩ := h
  simp only [List.cons.injEq, Value.slice.injEq, and_true] at e
  exact e.2.1.symm
theorem rSl.le (h : rSl sz bts R w B l [.slice A n c]) : n ≤ c ∧ c ≤ 9223372036854775807 ∧ n * bts ≤ 140737488355328 := by
  obtain ⟨A', c', e, h1, h2, h3, _⟩ := h
  simp only [List.cons.injEq, Value.slice.injEq, and_true] at e
  obtain ⟨rfl, rfl, rfl⟩ := e
  unfold maxLen at h2
  exact ⟨h1, h2, h3⟩
theorem rSl.at_ {k : Nat} (h : rSl sz bts R w B l [.slice A n c]) (hk : k < n) :
    ∃ b o x vs, A = some ⟨b, o, none⟩ ∧ b < B ∧ l[k]? = some x ∧ vs.length = sz ∧ R w B x vs ∧ ∀ (j : Nat) (u : Value), vs[j]? = some u → w.cell? ⟨b, o + k * sz + j, none⟩ = some u := by
  have hn := h.len
  obtain ⟨A', c', e, _, _, _, h4⟩ := h
  simp only [List.cons.injEq, Value.slice.injEq, and_true] at e
  obtain ⟨rfl, _, rfl⟩ := e
  obtain ⟨b, o, hA, hb, hx⟩ := h4 (by omega)
  have hl : l[k]? = some (l[k]'(by omega)) := List.getElem?_eq_getElem (by omega)
  obtain ⟨vs, h1, h2, h3⟩ := hx k _ hl
  exact ⟨b, o, _, vs, hA, hb, hl, h1, h2, h3⟩
theorem rSl.keep [Stable R] {w' : World} {B' : Nat} {cs : List Value} (h : rSl sz bts R w B l cs) (hb : Below B w w') (hB : B ≤ B') : rSl sz bts R w' B' l cs :=
  Stable.keep (R := rSl sz bts R) w w' B B' _ _ hb hB h
end

/-- The row that the call owns, as a slice: 'enc': an element's cells. -/
theorem rSl.of_own {α : Type} {R : Rep α} {w : World} {B sz bts n base : Nat} {e : TypeId} {v : Value} {l : List α} {xs : List Value} (enc : α → List Value)
    (h : w.ownsRow base e sz v n xs) (hB : w.heap.size ≤ B) (hx : xs = l.flatMap enc) (hn : l.length = n) (hs : ∀ x, (enc x).length = sz) (hR : ∀ x ∈ l, R w B x (enc x)) (hb : n * bts ≤ 140737488355328) :
    ∃ A c, v = .slice A n c ∧ rSl sz bts R w B l [v] := by
  obtain ⟨h1, h2⟩ := h
  rcases h2 with ⟨rfl, rfl⟩ | ⟨g, cap, cur, rfl, hg, hh, hnc, hcm, hcs, hcur⟩
  · have : l = [] := List.eq_nil_of_length_eq_zero hn
    subst this
    exact ⟨_, _, rfl, rSl.nil_⟩
  · refine ⟨_, _, rfl, some ⟨g, 0, none⟩, cap, by rw [hn], by omega, hcm, by rw [hn]; exact hb, fun h0 => ⟨g, 0, rfl, ?_, fun k x hk => ⟨enc x, hs x, hR x (List.mem_of_getElem? hk), fun j u hj => ?_⟩⟩⟩
    · rcases Nat.lt_or_ge g w.heap.size with hlt | hge
      · omega
      · rw [Array.getElem?_eq_none hge] at hh; cases hh
    · have hj' : j < sz := by
        have := (List.getElem?_eq_some_iff.1 hj).1
        rw [hs x] at this; exact this
      have hk' : k < l.length := (List.getElem?_eq_some_iff.1 hk).1
      have key : ∀ (l : List α) (k : Nat) (x : α), l[k]? = some x → (l.flatMap enc)[k * sz + j]? = (enc x)[j]? := by
        intro l
        induction l with
        | nil => intro k x hk; simp at hk
        | cons y r ih =>
          intro k x hk
          cases k with
          | zero =>
            simp only [List.getElem?_cons_zero, Option.some.injEq] at hk
            subst hk
            simp only [List.flatMap_cons, Nat.zero_mul, Nat.zero_add]
            rw [List.getElem?_append_left (by rw [hs]; exact hj')]
          | succ k =>
            simp only [List.getElem?_cons_succ] at hk
            simp only [List.flatMap_cons]
            rw [List.getElem?_append_right (by rw [hs, Nat.succ_mul]; omega), hs]
            rw [show (k + 1) * sz + j - sz = k * sz + j by rw [Nat.succ_mul]; omega]
            exact ih k x hk
      have hlt : k * sz + j < n * sz := by
        have : (k + 1) * sz ≤ n * sz := Nat.mul_le_mul_right _ (by omega)
        rw [Nat.succ_mul] at this; omega
      have e1 : (cur.toList.take (n * sz))[k * sz + j]? = some u := by rw [hcur, hx, key l k x hk, hj]
      rw [List.getElem?_take_of_lt hlt] at e1
      show w.cell? ⟨g, 0 + k * sz + j, none⟩ = some u
      rw [cell_of_row w g _ cur e (0, 0) hh]
      rw [← e1]; simp [Nat.zero_add]

/-- Ints that the call owns. -/
theorem rSl.of_ints {w : World} {B bts n base : Nat} {k : IntKind} {e : TypeId} {v : Value} {l : List Int} (h : w.ownsRow base e 1 v n (l.map (Value.int k))) (hB : w.heap.size ≤ B) (hw : ∀ x ∈ l, (Lit.int k x).wf = true) (hb : n * bts ≤ 140737488355328) :
    ∃ A c, v = .slice A n c ∧ rSl 1 bts (rI k) w B l [v] := by
  have hl : l.length = n := by have := h.1; simpa using this
  exact rSl.of_own (fun x => [Value.int k x]) h hB List.map_eq_flatMap hl (fun _ => rfl) (fun x hx => ⟨rfl, hw x hx⟩) hb

/-! ### What a call hands back -/
def Ret (P : Value → World → Prop) (w : World) (e : Ending) (w' : World) : Prop := ∃ v, e = .returned v ∧ Below w.heap.size w w' ∧ P v w'

def inR (a l h : Int) : Bool := decide (l ≤ a) && decide (a ≤ h)

theorem wf64 {x : Int} (h : (Lit.int .i64 x).wf = true) : -9223372036854775808 ≤ x ∧ x ≤ 9223372036854775807 := by
  simpa [Lit.wf, IntKind.min, IntKind.max, IntKind.signed, IntKind.bits] using h
theorem wf64_of {x : Int} (h1 : -9223372036854775808 ≤ x) (h2 : x ≤ 9223372036854775807) : (Lit.int .i64 x).wf = true := by
  simp [Lit.wf, IntKind.min, IntKind.max, IntKind.signed, IntKind.bits]; omega

/-! ### max and min of ints: laid into the context ahead of a walk (have hmx := @run_max_int P) the walk keeps them as terms -/
theorem run_max_int {P : Program} (ts : Array TypeId) (t : TypeId) (k : IntKind) (x y : Int) (w : World) : Sem.run P (Builtin.max_ ts t #[.int k x, .int k y]) w = .ok (.int k (max x y)) w := by
  simp only [Builtin.max_, List.foldlM, Builtin.max2, Sem.run_pure, Sem.run_bind, Result.andThen_ok, pure_bind]
  congr 2
  simp only [Int.max_def]; split <;> split <;> omega
theorem run_min_int {P : Program} (ts : Array TypeId) (t : TypeId) (k : IntKind) (x y : Int) (w : World) : Sem.run P (Builtin.min_ ts t #[.int k x, .int k y]) w = .ok (.int k (min x y)) w := by
  simp only [Builtin.min_, List.foldlM, Builtin.min2, Sem.run_pure, Sem.run_bind, Result.andThen_ok, pure_bind]
  congr 2
  simp only [Int.min_def]; split <;> split <;> omega

/-! ### append of one element to a row of the call's own -/
/-- Slice type t has elements e of so many cells and bytes. -/
structure ElemOk (P : Program) (t e : TypeId) (size bytes : Nat) : Prop where
  under : P.underlying t = some (.slice e)
  info : ∃ i z, P.info? e = some i ∧ i.zero = some z ∧ i.size = size ∧ i.bytes = bytes ∧ z.cells.size = size
  pos : 0 < size
theorem ElemOk.mk' {P : Program} {t e : TypeId} {z : Value} {size bytes : Nat} (h1 : P.underlying t = some (.slice e)) (h2 : (P.info? e).map (fun i => (i.zero, i.size, i.bytes)) = some (some z, size, bytes)) (h3 : z.cells.size = size) (h4 : 0 < size) : ElemOk P t e size bytes := by
  obtain ⟨i, hi, hz, hs, hb⟩ := info_parts h2
  exact ⟨h1, ⟨i, z, hi, hz, hs, hb, h3⟩, h4⟩

theorem own_slice {w : World} {base : Nat} {e : TypeId} {size n : Nat} {v : Value} {xs : List Value} (h : w.ownsRow base e size v n xs) : ∃ A c, v = .slice A n c := by
  rcases h.2 with ⟨rfl, rfl⟩ | ⟨g, cap, cur, rfl, _⟩
  · exact ⟨_, _, rfl⟩
  · exact ⟨_, _, rfl⟩

section
variable {P : Program} {w0 : World} {ops : Array Oper} {rest : List Oper} {o : Oper} {a : Act} {Q : Exit → Act → World → Prop}
theorem own_below {w w' : World} {base : Nat} {e : TypeId} {size n : Nat} {v : Value} {xs : List Value} (h : w.ownsRow base e size v n xs) (hg : w.grownBy w' v.ownBlock) (hb : base ≤ w.heap.size) : Below base w w' :=
  (Below.refl _ _).grown hg hb (fun k hk => (h.lt k hk).1)

theorem wpList_append1 {t e : TypeId} {size bytes : Nat} (he : ElemOk P t e size bytes) (hgd : o.guard = none) (s x : Operand)
    (ho : o.op = .call { callee := .builtin .append, args := #[s, x], argTypes := #[t, t] })
    {base : Nat} {v : Value} {n : Nat} {xs : List Value} (hs : a.eval s = v) (hown : w0.ownsRow base e size v n xs)
    {cs : Array Value} {g : Nat} (hx : a.eval x = .slice (some ⟨g, 0, none⟩) 1 1) (hg : w0.heap.size = g) (hcs : cs.size = size) (h1 : ∀ u ∈ cs.toList, u.oneCell' = true)
    (h63 : n + 1 ≤ maxLen) (hbytes : (n + 1) * bytes ≤ 140737488355328) (hbase : base ≤ w0.heap.size)
    (h : ∀ v' w', w'.ownsRow base e size v' (n + 1) (xs ++ cs.toList) → Below base w0 w' → w0.heap.size < w'.heap.size → wpList P ops Q rest (a.put o.dst v') w') : wpList P ops Q (o :: rest) a (w0.alloc (.cells cs e)) := by
  obtain ⟨i, z, hi, hz, hsz, hby, hzc⟩ := he.info
  subst hg
  refine wpList_append_own _ hgd s x t ho base e i z size bytes he.under hi hz hsz hby hzc he.pos v n xs hs (hown.alloc _) ⟨w0.heap.size, 0, none⟩ 1 1 cs.toList hx (by simp [hcs]) ?_ h1 h63 hbytes (by simp; omega) ?_
  · intro j u hu
    rw [Addr.add_lit, Nat.zero_add]
    rw [cell_of_row _ w0.heap.size j cs e (0, 0) (heap_alloc_new w0 _)]
    simpa using hu
  · intro v' w' h2 h3 _
    exact h v' w' h2 (((Below.refl _ _).alloc hbase _).trans (own_below (hown.alloc _) h3 (by simp; omega))) (by have := h3.size; simp at this; omega)
end
end Go.Proofs.YtaiajaibcpkceaaDoor
