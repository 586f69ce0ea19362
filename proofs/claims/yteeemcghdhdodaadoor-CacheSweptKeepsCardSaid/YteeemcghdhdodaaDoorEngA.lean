/-
  An abstract machine for the walks of this seat: abstract values, what they stand for in memory (RepA), abstract heaps (St), steps of the world. No statement of the seat is proved here; no conditions.
-/
import Derived.WalkKit
import Derived.SizedLaws
import Derived.Deep.MidRow
import Derived.Deep.AppendSrc
import Derived.Maps.OwnSet
import Derived.Deep.Draws
namespace Go.Proofs.YteeemcghdhdodaaDoor
open Go.RowKit
set_option linter.unusedVariables false
set_option linter.unusedSimpArgs false

/-- Values that hang on no block of the call's own: plain ones, and slices and pointers that are only read (fr: elements by cells). -/
inductive FV where
  | int (k : IntKind) (n : Int)
  | bool (b : Bool)
  | str (s : ByteArray)
  | lit (v : Value)
  | nil
  | fr (sz : Nat) (l : List (List FV))
  | fp (cells : List FV)
  | fn (f : Fn)
  | bit
  | fm (m : List (ByteArray × Value))

/-- Entries of a map with strings for keys, in the order in which they came. -/
def MapR (es : Array MapEntry) (m : List (ByteArray × Value)) : Prop := es.size = m.length ∧ (m.map (·.1)).Nodup ∧ (∀ p ∈ m, p.2.oneCell' = true) ∧ ∀ (i : Nat) (p : ByteArray × Value), m[i]? = some p → ∃ e, es[i]? = some e ∧ e.key = .string p.1 ∧ e.val = p.2
/-- Abstract values. sl: a slice of n elements of sz cells, from element off on, of object id (of this version); ptr: a cell of it. -/
inductive AV where
  | any
  | f (x : FV)
  | sl (id ver sz off n : Nat)
  | ptr (id ver off : Nat)
  | map (id ver : Nat)
  | agg (cells : List AV)
  | tup (vs : List AV)
  | clo (f : Fn) (caps : List AV)
instance : Inhabited AV := ⟨.any⟩

/-- Objects: a row of cells, or a map. -/
inductive AObj where
  | cells (cs : List AV)
  | map (m : List (ByteArray × Value))

abbrev Heap := Nat → Nat × Option AObj
abbrev Ghost := Nat → Nat × Option (Option (Nat × Nat))

/-- What a value that hangs on nothing of the call's own stands for: its blocks are in Z. -/
inductive RepF (Z : Nat → Prop) (w : World) : FV → Value → Prop
  | int (k : IntKind) (n : Int) : RepF Z w (.int k n) (.int k n)
  | bool (b : Bool) : RepF Z w (.bool b) (.bool b)
  | str (s : ByteArray) : RepF Z w (.str s) (.string s)
  | lit (v : Value) : RepF Z w (.lit v) v
  | nil (A : Option Addr) : RepF Z w .nil (.slice A 0 0)
  | frNil (sz : Nat) (A : Option Addr) (c : Nat) : c ≤ maxLen → RepF Z w (.fr sz []) (.slice A 0 c)
  | fr (sz : Nat) (l : List (List FV)) (b o c : Nat) (us : Nat → Nat → Value) : 0 < l.length → l.length ≤ c → c ≤ maxLen → Z b → (∀ x ∈ l, x.length = sz) →
      (∀ k j, k < l.length → j < sz → w.cell? ⟨b, o + k * sz + j, none⟩ = some (us k j) ∧ (us k j).oneCell' = true) →
      (∀ k j x a, l[k]? = some x → x[j]? = some a → RepF Z w a (us k j)) → RepF Z w (.fr sz l) (.slice (some ⟨b, o, none⟩) l.length c)
  | fp (cells : List FV) (b o : Nat) (us : Nat → Value) : Z b → (∀ j, j < cells.length → w.cell? ⟨b, o + j, none⟩ = some (us j) ∧ (us j).oneCell' = true) →
      (∀ j a, cells[j]? = some a → RepF Z w a (us j)) → RepF Z w (.fp cells) (.pointer (some ⟨b, o, none⟩))
  | fn (f : Fn) : RepF Z w (.fn f) (.func f #[] #[])
  | bit (b : Bool) : RepF Z w .bit (.bool b)
  | fm (m : List (ByteArray × Value)) (g : Nat) : Z g → (∃ es clock, w.heap[g]? = some (.map es clock) ∧ MapR es m) → RepF Z w (.fm m) (.map (some g))

theorem cell_same {w w' : World} {b o : Nat} (h : w'.heap[b]? = w.heap[b]?) : w'.cell? ⟨b, o, none⟩ = w.cell? ⟨b, o, none⟩ := World.cell?_of_block (w := w) h
theorem RepF.keep {Z Z' : Nat → Prop} {w w' : World} (hz : ∀ b, Z b → Z' b ∧ w'.heap[b]? = w.heap[b]?) {a : FV} {v : Value} (h : RepF Z w a v) : RepF Z' w' a v := by
  induction h with
  | int k n => exact .int k n
  | bool b => exact .bool b
  | str s => exact .str s
  | lit v => exact .lit v
  | nil A => exact .nil A
  | frNil sz A c hc => exact .frNil sz A c hc
  | fr sz l b o c us h0 h1 h2 hb hl hc _ ih => exact .fr sz l b o c us h0 h1 h2 (hz b hb).1 hl (fun k j hk hj => by rw [cell_same (hz b hb).2]; exact hc k j hk hj) ih
  | fp cells b o us hb hc _ ih => exact .fp cells b o us (hz b hb).1 (fun j hj => by rw [cell_same (hz b hb).2]; exact hc j hj) ih
  | fn f => exact .fn f
  | bit b => exact .bit b
  | fm m g h1 h2 => obtain ⟨es, clock, h3, h4⟩ := h2; exact .fm m g (hz g h1).1 ⟨es, clock, by rw [(hz g h1).2]; exact h3, h4⟩

/-- Cells from an address on. -/
def CellsR (R : AV → Value → Prop) (arr : Array Value) (o : Nat) (cs : List AV) : Prop := ∀ j a, cs[j]? = some a → ∃ v, arr[o + j]? = some v ∧ v.oneCell' = true ∧ R a v

inductive RepA (G : Ghost) (Z : Nat → Prop) (w : World) : AV → Value → Prop
  | any (v : Value) : RepA G Z w .any v
  | f {x : FV} {v : Value} : RepF Z w x v → RepA G Z w (.f x) v
  | slOld (id ver sz off n : Nat) (v : Value) : ver ≤ (G id).1 → (ver = (G id).1 → (G id).2 = none) → v.oneCell' = true → RepA G Z w (.sl id ver sz off n) v
  | slCap (id ver sz off : Nat) (A : Option Addr) (loc : Option (Nat × Nat)) : G id = (ver, some loc) → RepA G Z w (.sl id ver sz off 0) (.slice A 0 0)
  | slLive (id ver sz off n g o c : Nat) : G id = (ver, some (some (g, o))) → n ≤ c → c ≤ maxLen → (∃ arr e fz, w.heap[g]? = some (.cells arr e fz) ∧ o + (off + c) * sz = arr.size) →
      RepA G Z w (.sl id ver sz off n) (.slice (some ⟨g, o + off * sz, none⟩) n c)
  | ptrOld (id ver off : Nat) (v : Value) : ver ≤ (G id).1 → (ver = (G id).1 → (G id).2 = none) → v.oneCell' = true → RepA G Z w (.ptr id ver off) v
  | ptrLive (id ver off g o : Nat) : G id = (ver, some (some (g, o))) → RepA G Z w (.ptr id ver off) (.pointer (some ⟨g, o + off, none⟩))
  | mapOld (id ver : Nat) (v : Value) : ver ≤ (G id).1 → (ver = (G id).1 → (G id).2 = none) → v.oneCell' = true → RepA G Z w (.map id ver) v
  | mapLive (id ver g o : Nat) : G id = (ver, some (some (g, o))) → RepA G Z w (.map id ver) (.map (some g))
  | agg (cells : List AV) (us : Array Value) : us.size = cells.length → (∀ (j : Nat) (u : Value), us[j]? = some u → u.oneCell' = true) → (∀ (j : Nat) (a : AV) (u : Value), cells[j]? = some a → us[j]? = some u → RepA G Z w a u) → RepA G Z w (.agg cells) (.agg us)
  | tup (vs : List AV) (us : Array Value) : us.size = vs.length → (∀ (j : Nat) (a : AV) (u : Value), vs[j]? = some a → us[j]? = some u → RepA G Z w a u) → RepA G Z w (.tup vs) (.tuple us)
  | clo (f : Fn) (caps : List AV) (us : Array Value) : us.size = caps.length → (∀ (j : Nat) (a : AV) (u : Value), caps[j]? = some a → us[j]? = some u → RepA G Z w a u) → RepA G Z w (.clo f caps) (.func f #[] us)

/-- A block that one of the call's own objects lies in. -/
def LiveB (G : Ghost) (b : Nat) : Prop := ∃ id o, (G id).2 = some (some (b, o))

structure Keep (G : Ghost) (Z : Nat → Prop) (w : World) (G' : Ghost) (Z' : Nat → Prop) (w' : World) : Prop where
  zin : ∀ b, Z b → Z' b ∧ w'.heap[b]? = w.heap[b]?
  ver : ∀ id, (G id).1 ≤ (G' id).1
  same : ∀ id, (G' id).1 = (G id).1 → (G' id).2 = none ∨ (G' id).2 = (G id).2
  room : ∀ b (arr : Array Value) e fz, LiveB G b → w.heap[b]? = some (.cells arr e fz) → ∃ arr' e' fz', w'.heap[b]? = some (.cells arr' e' fz') ∧ arr'.size = arr.size

/-- A general law: what refs are turned into. -/
structure Turn where
  sl : Nat → Nat → Nat → Nat → Nat → AV
  ptr : Nat → Nat → Nat → AV
  map : Nat → Nat → AV
mutual
def AV.turn (τ : Turn) : AV → AV
  | .any => .any
  | .f x => .f x
  | .sl id ver sz off n => τ.sl id ver sz off n
  | .ptr id ver off => τ.ptr id ver off
  | .map id ver => τ.map id ver
  | .agg cells => .agg (AV.turnL τ cells)
  | .tup vs => .tup (AV.turnL τ vs)
  | .clo g caps => .clo g (AV.turnL τ caps)
def AV.turnL (τ : Turn) : List AV → List AV
  | [] => []
  | a :: l => a.turn τ :: AV.turnL τ l
end
theorem AV.turnL_eq (τ : Turn) : ∀ l : List AV, AV.turnL τ l = l.map (AV.turn τ)
  | [] => rfl
  | a :: l => by rw [AV.turnL, AV.turnL_eq τ l]; rfl
structure TurnOk (G : Ghost) (Z : Nat → Prop) (w : World) (G' : Ghost) (Z' : Nat → Prop) (w' : World) (τ : Turn) : Prop where
  zin : ∀ b, Z b → Z' b ∧ w'.heap[b]? = w.heap[b]?
  sl : ∀ id ver sz off n v, RepA G Z w (.sl id ver sz off n) v → RepA G' Z' w' (τ.sl id ver sz off n) v
  ptr : ∀ id ver off v, RepA G Z w (.ptr id ver off) v → RepA G' Z' w' (τ.ptr id ver off) v
  map : ∀ id ver v, RepA G Z w (.map id ver) v → RepA G' Z' w' (τ.map id ver) v
theorem RepA.turn {G G' : Ghost} {Z Z' : Nat → Prop} {w w' : World} {τ : Turn} (h : TurnOk G Z w G' Z' w' τ) {a : AV} {v : Value} (hr : RepA G Z w a v) : RepA G' Z' w' (a.turn τ) v := by
  induction hr with
  | any v => rw [AV.turn]; exact .any v
  | f hf => rw [AV.turn]; exact .f (hf.keep h.zin)
  | slOld id ver sz off n v h1 h2 h3 => rw [AV.turn]; exact h.sl _ _ _ _ _ _ (.slOld id ver sz off n v h1 h2 h3)
  | slCap id ver sz off A loc h1 => rw [AV.turn]; exact h.sl _ _ _ _ _ _ (.slCap id ver sz off A loc h1)
  | slLive id ver sz off n g o c h1 h2 h3 h4 => rw [AV.turn]; exact h.sl _ _ _ _ _ _ (.slLive id ver sz off n g o c h1 h2 h3 h4)
  | ptrOld id ver off v h1 h2 h3 => rw [AV.turn]; exact h.ptr _ _ _ _ (.ptrOld id ver off v h1 h2 h3)
  | ptrLive id ver off g o h1 => rw [AV.turn]; exact h.ptr _ _ _ _ (.ptrLive id ver off g o h1)
  | mapOld id ver v h1 h2 h3 => rw [AV.turn]; exact h.map _ _ _ (.mapOld id ver v h1 h2 h3)
  | mapLive id ver g o h1 => rw [AV.turn]; exact h.map _ _ _ (.mapLive id ver g o h1)
  | agg cells us h1 h2 _ ih =>
    rw [AV.turn, AV.turnL_eq]
    refine .agg _ us (by simp [h1]) h2 fun j a u ha hu => ?_
    rw [List.getElem?_map] at ha
    obtain ⟨a', ha', rfl⟩ := Option.map_eq_some_iff.1 ha
    exact ih j a' u ha' hu
  | tup vs us h1 _ ih =>
    rw [AV.turn, AV.turnL_eq]
    refine .tup _ us (by simp [h1]) fun j a u ha hu => ?_
    rw [List.getElem?_map] at ha
    obtain ⟨a', ha', rfl⟩ := Option.map_eq_some_iff.1 ha
    exact ih j a' u ha' hu
  | clo f caps us h1 _ ih =>
    rw [AV.turn, AV.turnL_eq]
    refine .clo f _ us (by simp [h1]) fun j a u ha hu => ?_
    rw [List.getElem?_map] at ha
    obtain ⟨a', ha', rfl⟩ := Option.map_eq_some_iff.1 ha
    exact ih j a' u ha' hu

def Turn.id_ : Turn := ⟨.sl, .ptr, .map⟩
mutual
theorem AV.turn_id : ∀ a : AV, a.turn Turn.id_ = a
  | .any | .f _ | .sl .. | .ptr .. | .map .. => by simp [AV.turn, Turn.id_]
  | .agg cells => by rw [AV.turn, AV.turnL_id cells]
  | .tup cells => by rw [AV.turn, AV.turnL_id cells]
  | .clo g cells => by rw [AV.turn, AV.turnL_id cells]
theorem AV.turnL_id : ∀ l : List AV, AV.turnL Turn.id_ l = l
  | [] => rfl
  | a :: l => by rw [AV.turnL, AV.turn_id a, AV.turnL_id l]
end

theorem RepA.keep {G G' : Ghost} {Z Z' : Nat → Prop} {w w' : World} (h : Keep G Z w G' Z' w') {a : AV} {v : Value} (hr : RepA G Z w a v) : RepA G' Z' w' a v := by
  have t : TurnOk G Z w G' Z' w' Turn.id_ := by
    have old : ∀ id ver, ver ≤ (G id).1 → (ver = (G id).1 → (G id).2 = none) → ver ≤ (G' id).1 ∧ (ver = (G' id).1 → (G' id).2 = none) := by
      intro id ver h1 h2
      have hv := h.ver id
      refine ⟨by omega, fun e => ?_⟩
      have e2 : (G' id).1 = (G id).1 := by omega
      rcases h.same id e2 with h3 | h3
      · exact h3
      · rw [h3]; exact h2 (by omega)
    have live : ∀ id ver loc, G id = (ver, some loc) → G' id = (ver, some loc) ∨ (ver ≤ (G' id).1 ∧ (ver = (G' id).1 → (G' id).2 = none)) := by
      intro id ver loc e
      have hv := h.ver id
      have hs := h.same id
      rw [e] at hv hs
      simp only at hv hs
      by_cases e2 : (G' id).1 = ver
      · rcases hs e2 with h3 | h3
        · exact .inr ⟨by omega, fun _ => h3⟩
        · exact .inl (by rw [← e2, ← h3])
      · exact .inr ⟨by omega, fun e3 => absurd e3.symm e2⟩
    refine ⟨h.zin, fun id ver sz off n v hr => ?_, fun id ver off v hr => ?_, fun id ver v hr => ?_⟩
    · cases hr with
      | slOld _ _ _ _ _ _ h1 h2 h3 => exact .slOld _ _ _ _ _ _ (old _ _ h1 h2).1 (old _ _ h1 h2).2 h3
      | slCap _ _ _ _ A loc h1 =>
        rcases live _ _ _ h1 with h3 | h3
        · exact .slCap _ _ _ _ A loc h3
        · exact .slOld _ _ _ _ _ _ h3.1 h3.2 rfl
      | slLive _ _ _ _ _ g o c h1 h2 h3 h4 =>
        rcases live _ _ _ h1 with h5 | h5
        · obtain ⟨arr, e, fz, h6, h7⟩ := h4
          obtain ⟨arr', e', fz', h8, h9⟩ := h.room g arr e fz ⟨id, o, by rw [h1]⟩ h6
          exact .slLive _ _ _ _ _ g o c h5 h2 h3 ⟨arr', e', fz', h8, by omega⟩
        · exact .slOld _ _ _ _ _ _ h5.1 h5.2 rfl
    · cases hr with
      | ptrOld _ _ _ _ h1 h2 h3 => exact .ptrOld _ _ _ _ (old _ _ h1 h2).1 (old _ _ h1 h2).2 h3
      | ptrLive _ _ _ g o h1 =>
        rcases live _ _ _ h1 with h5 | h5
        · exact .ptrLive _ _ _ g o h5
        · exact .ptrOld _ _ _ _ h5.1 h5.2 rfl
    · cases hr with
      | mapOld _ _ _ h1 h2 h3 => exact .mapOld _ _ _ (old _ _ h1 h2).1 (old _ _ h1 h2).2 h3
      | mapLive _ _ g o h1 =>
        rcases live _ _ _ h1 with h5 | h5
        · exact .mapLive _ _ g o h5
        · exact .mapOld _ _ _ h5.1 h5.2 rfl
  have := RepA.turn t hr
  rwa [AV.turn_id] at this
end Go.Proofs.YteeemcghdhdodaaDoor
