/-
  An abstract machine for the walks of this seat: abstract values, what they stand for in memory (RepA), abstract heaps (St), steps of the world. No statement of the seat is proved here; no conditions.
-/
import Derived.WalkKit
import Derived.SizedLaws
import Derived.Deep.MidRow
import Derived.Deep.AppendSrc
import Derived.Maps.OwnSet
import Derived.Deep.Draws
namespace Go.Proofs.YtaiajaibcpkceaaDoor
open Go.RowKit
set_option linter.unusedVariables false
set_option linter.unusedSimpArgs false

/-- Values that hang on no block of the call's own: plain ones, and slices and pointers that are only read (fr: elements by cells). -/
inductive FV where
  | int (k : IntKind) (n : Int)
  | bool (b : Bool)
  | str (s : ByteArray)
  | lit (v : Value)
  | nil
  | fr (sz : Nat) (l : List (List FV))
  | fp (cells : List FV)
  | fn (f : Fn)
  | bit
  | fm (m : List (ByteArray × Value))

/-- Entries of a map with strings for keys, in the order in which they came. -/
def MapR (es : Array MapEntry) (m : List (ByteArray × Value)) : Prop := es.size = m.length ∧ (m.map (·.1)).Nodup ∧ (∀ p ∈ m, p.2.oneCell' = true) ∧ ∀ (i : Nat) (p : ByteArray × Value), m[i]? = some p → ∃ e, es[i]? = some e ∧ e.key = .string p.1 ∧ e.val = p.2
/-- Abstract values. sl: a slice of n elements of sz cells, from element off on, of object id (of this version); ptr: a cell of it. -/
inductive AV where
  | any
  | f (x : FV)
  | sl (id ver sz off n : Nat)
  | ptr (id ver off : Nat)
  | map (id ver : Nat)
  | agg (cells : List AV)
  | tup (vs : List AV)
  | clo (f : Fn) (caps : List AV)
instance : Inhabited AV := ⟨.any⟩

/-- Objects: a row of cells, or a map. -/
inductive AObj where
  | cells (cs : List AV)
  | map (m : List (ByteArray × Value))

abbrev Heap := Nat → Nat × Option AObj
abbrev Ghost := Nat → Nat × Option (Option (Nat × Nat))

/-- What a value that hangs on nothing of the call's own stands for: its blocks are in Z. -/
inductive RepF (Z : Nat → Prop) (w : World) : FV → Value → Prop
  | int (k : IntKind) (n : Int) : RepF Z w (.int k n) (.int k n)
  | bool (b : Bool) : RepF Z w (.bool b) (.bool b)
  | str (s : ByteArray) : RepF Z w (.str s) (.string s)
  | lit (v : Value) : RepF Z w (.lit v) v
  | nil (A : Option Addr) : RepF Z w .nil (.slice A 0 0)
  | frNil (sz : Nat) (A : Option Addr) (c : Nat) : c ≤ maxLen → RepF Z w (.fr sz []) (.slice A 0 c)
  | fr (sz : Nat) (l : List (List FV)) (b o c : Nat) (us : Nat → Nat → Value) : 0 < l.length → l.length ≤ c → c ≤ maxLen → Z b → (∀ x ∈ l, x.length = sz) →
      (∀ k j, k < l.length → j < sz → w.cell? ⟨b, o + k * sz + j, none⟩ = some (us k j) ∧ (us k j).oneCell' = true) →
      (∀ k j x a, l[k]? = some x → x[j]? = some a → RepF Z w a (us k j)) → RepF Z w (.fr sz l) (.slice (some ⟨b, o, none⟩) l.length c)
  | fp (cells : List FV) (b o : Nat) (us : Nat → Value) : Z b → (∀ j, j < cells.length → w.cell? ⟨b, o + j, none⟩ = some (us j) ∧ (us j).oneCell' = true) →
      (∀ j a, cells[j]? = some a → RepF Z w a (us j)) → RepF Z w (.fp cells) (.pointer (some ⟨b, o, none⟩))
  | fn (f : Fn) : RepF Z w (.fn f) (.func f #[] #[])
  | bit (b : Bool) : RepF Z w .bit (.bool b)
  | fm (m : List (ByteArray × Value)) (g : Nat) : Z g → (∃ es clock, w.heap[g]? = some (.map es clock) ∧ MapR es m) → RepF Z w (.fm m) (.map (some g))

theorem cell_same {w w' : World} {b o : Nat} (h : w'.heap[b]? = w.heap[b]?) : w'.cell? ⟨b, o, none⟩ = w.cell? ⟨b, o, none⟩ := World.cell?_of_block (w := w) h
theorem RepF.keep {Z Z' : Nat → Prop} {w w' : World} (hz : ∀ b, Z b → Z' b ∧ w'.heap[b]? = w.heap[b]?) {a : FV} {v : Value} (h : RepF Z w a v) : RepF Z' w' a v := by
  induction h with
  | int k n => exact .int k n
  | bool b => exact .bool b
  | str s => exact .str s
  | lit v => exact .lit v
  | nil A => exact .nil A
  | frNil sz A c hc => exact .frNil sz A c hc
  | fr sz l b o c us h0 h1 h2 hb hl hc _ ih => exact .fr sz l b o c us h0 h1 h2 (hz b hb).1 hl (fun k j hk hj => by rw [cell_same (hz b hb).2]; exact hc k j hk hj) ih
  | fp cells b o us hb hc _ ih => exact .fp cells b o us (hz b hb).1 (fun j hj => by rw [cell_same (hz b hb).2]; exact hc j hj) ih
  | fn f => exact .fn f
  | bit b => exact .bit b
  | fm m g h1 h2 => obtain ⟨es, clock, h3, h4⟩ := h2; exact .fm m g (hz g h1).1 ⟨es, clock, by rw [(hz g h1).2]; exact h3, h4⟩

/-- Cells from an address on. -/
def CellsR (R : AV → Value → Prop) (arr : Array Value) (o : Nat) (cs : List AV) : Prop := ∀ j a, cs[j]? = some a → ∃ v, arr[o + j]? = some v ∧ v.oneCell' = true ∧ R a v

inductive RepA (G : Ghost) (Z : Nat → Prop) (w : World) : AV → Value → Prop
  | any (v : Value) : RepA G Z w .any v
  | f {x : FV} {v : Value} : RepF Z w x v → RepA G Z w (.f x) v
  | slOld (id ver sz off n : Nat) (v : Value) : ver ≤ (G id).1 → (ver = (G id).1 → (G id).2 = none) → v.oneCell' = true → RepA G Z w (.sl id ver sz off n) v
  | slCap (id ver sz off : Nat) (A : Option Addr) (loc : Option (Nat × Nat)) : G id = (ver, some loc) → RepA G Z w (.sl id ver sz off 0) (.slice A 0 0)
  | slLive (id ver sz off n g o c : Nat) : G id = (ver, some (some (g, o))) → n ≤ c → c ≤ maxLen → (∃ arr e fz, w.heap[g]? = some (.cells arr e fz) ∧ o + (off + c) * sz = arr.size) →
      RepA G Z w (.sl id ver sz off n) (.slice (some ⟨g, o + off * sz, none⟩) n c)
  | ptrOld (id ver off : Nat) (v : Value) : ver ≤ (G id).1 → (ver = (G id).1 → (G id).2 = none) → v.oneCell' = true → RepA G Z w (.ptr id ver off) v
  | ptrLive (id ver off g o : Nat) : G id = (ver, some (some (g, o))) → RepA G Z w (.ptr id ver off) (.pointer (some ⟨g, o + off, none⟩))
  | mapOld (id ver : Nat) (v : Value) : ver ≤ (G id).1 → (ver = (G id).1 → (G id).2 = none) → v.oneCell' = true → RepA G Z w (.map id ver) v
  | mapLive (id ver g o : Nat) : G id = (ver, some (some (g, o))) → RepA G Z w (.map id ver) (.map (some g))
  | agg (cells : List AV) (us : Array Value) : us.size = cells.length → (∀ (j : Nat) (u : Value), us[j]? = some u → u.oneCell' = true) → (∀ (j : Nat) (a : AV) (u : Value), cells[j]? = some a → us[j]? = some u → RepA G Z w a u) → RepA G Z w (.agg cells) (.agg us)
  | tup (vs : List AV) (us : Array Value) : us.size = vs.length → (∀ (j : Nat) (a : AV) (u : Value), vs[j]? = some a → us[j]? = some u → RepA G Z w a u) → RepA G Z w (.tup vs) (.tuple us)
  | clo (f : Fn) (caps : List AV) (us : Array Value) : us.size = caps.length → (∀ (j : Nat) (a : AV) (u : Value), caps[j]? = some a → us[j]? = some u → RepA G Z w a u) → RepA G Z w (.clo f caps) (.func f #[] us)

/-- A block that one of the call's own objects lies in. -/
def LiveB (G : Ghost) (b : Nat) : Prop := ∃ id o, (G id).2 = some (some (b, o))

structure Keep (G : Ghost) (Z : Nat → Prop) (w : World) (G' : Ghost) (Z' : Nat → Prop) (w' : World) : Prop where
  zin : ∀ b, Z b → Z' b ∧ w'.heap[b]? = w.heap[b]?
  ver : ∀ id, (G id).1 ≤ (G' id).1
  same : ∀ id, (G' id).1 = (G id).1 → (G' id).2 = none ∨ (G' id).2 = (G id).2
  room : ∀ b (arr : Array Value) e fz, LiveB G b → w.heap[b]? = some (.cells arr e fz) → ∃ arr' e' fz', w'.heap[b]? = some (.cells arr' e' fz') ∧ arr'.size = arr.size

/-- A general law: what refs are turned into. -/
structure Turn where
  sl : Nat → Nat → Nat → Nat → Nat → AV
  ptr : Nat → Nat → Nat → AV
  map : Nat → Nat → AV
mutual
def AV.turn (τ : Turn) : AV → AV
  | .any => .any
  | .f x => .f x
  | .sl id ver sz off n => τ.sl id ver sz off n
  | .ptr id ver off => τ.ptr id ver off
  | .map id ver => τ.map id ver
  | .agg cells => .agg (AV.turnL τ cells)
  | .tup vs => .tup (AV.turnL τ vs)
  | .clo g caps => .clo g (AV.turnL τ caps)
def AV.turnL (τ : Turn) : List AV → List AV
  | [] => []
  | a :: l => a.turn τ :: AV.turnL τ l
end
theorem AV.turnL_eq (τ : Turn) : ∀ l : List AV, AV.turnL τ l = l.map (AV.turn τ)
  | [] => rfl
  | a :: l => by rw [AV.turnL, AV.turnL_eq τ l]; rfl
structure TurnOk (G : Ghost) (Z : Nat → Prop) (w : World) (G' : Ghost) (Z' : Nat → Prop) (w' : World) (τ : Turn) : Prop where
  zin : ∀ b, Z b → Z' b ∧ w'.heap[b]? = w.heap[b]?
  sl : ∀ id ver sz off n v, RepA G Z w (.sl id ver sz off n) v → RepA G' Z' w' (τ.sl id ver sz off n) v
  ptr : ∀ id ver off v, RepA G Z w (.ptr id ver off) v → RepA G' Z' w' (τ.ptr id ver off) v
  map : ∀ id ver v, RepA G Z w (.map id ver) v → RepA G' Z' w' (τ.map id ver) v
theorem RepA.turn {G G' : Ghost} {Z Z' : Nat → Prop} {w w' : World} {τ : Turn} (h : TurnOk G Z w G' Z' w' τ) {a : AV} {v : Value} (hr : RepA G Z w a v) : RepA G' Z' w' (a.turn τ) v := by
  induction hr with
  | any v => rw [AV.turn]; exact .any v
  | f hf => rw [AV.turn]; exact .f (hf.keep h.zin)
  | slOld id ver sz off n v h1 h2 h3 => rw [AV.turn]; exact h.sl _ _ _ _ _ _ (.slOld id ver sz off n v h1 h2 h3)
  | slCap id ver sz off A loc h1 => rw [AV.turn]; exact h.sl _ _ _ _ _ _ (.slCap id ver sz off A loc h1)
  | slLive id ver sz off n g o c h1 h2 h3 h4 => rw [AV.turn]; exact h.sl _ _ _ _ _ _ (.slLive id ver sz off n g o c h1 h2 h3 h4)
  | ptrOld id ver off v h1 h2 h3 => rw [AV.turn]; exact h.ptr _ _ _ _ (.ptrOld id ver off v h1 h2 h3)
  | ptrLive id ver off g o h1 => rw [AV.turn]; exact h.ptr _ _ _ _ (.ptrLive id ver off g o h1)
  | mapOld id ver v h1 h2 h3 => rw [AV.turn]; exact h.map _ _ _ (.mapOld id ver v h1 h2 h3)
  | mapLive id ver g o h1 => rw [AV.turn]; exact h.map _ _ _ (.mapLive id ver g o h1)
  | agg cells us h1 h2 _ ih =>
    rw [AV.turn, AV.turnL_eq]
    refine .agg _ us (by simp [h1]) h2 fun j a u ha hu => ?_
    rw [List.getElem?_map] at ha
    obtain ⟨a', ha', rfl⟩ := Option.map_eq_some_iff.1 ha
    exact ih j a' u ha' hu
  | tup vs us h1 _ ih =>
    rw [AV.turn, AV.turnL_eq]
    refine .tup _ us (by simp [h1]) fun j a u ha hu => ?_
    rw [List.getElem?_map] at ha
    obtain ⟨a', ha', rfl⟩ := Option.map_eq_some_iff.1 ha
    exact ih j a' u ha' hu
  | clo f caps us h1 _ ih =>
    rw [AV.turn, AV.turnL_eq]
    refine .clo f _ us (by simp [h1]) fun j a u ha hu => ?_
    rw [List.getElem?_map] at ha
    obtain ⟨a', ha', rfl⟩ := Option.map_eq_some_iff.1 ha
    exact ih j a' u ha' hu

def Turn.id_ : Turn := ⟨.sl, .ptr, .map⟩
mutual
theorem AV.turn_id : ∀ a : AV, a.turn Turn.id_ = a
  | .any | .f _ | .sl .. | .ptr .. | .map .. => by simp [AV.turn, Turn.id_]
  | .agg cells => by rw [AV.turn, AV.turnL_id cells]
  | .tup cells => by rw [AV.turn, AV.turnL_id cells]
  | .clo g cells => by rw [AV.turn, AV.turnL_id cells]
theorem AV.turnL_id : ∀ l : List AV, AV.turnL Turn.id_ l = l
  | [] => rfl
  | a :: l => by rw [AV.turnL, AV.turn_id a, AV.turnL_id l]
end

theorem RepA.keep {G G' : Ghost} {Z Z' : Nat → Prop} {w w' : World} (h : Keep G Z w G' Z' w') {a : AV} {v : Value} (hr : RepA G Z w a v) : RepA G' Z' w' a v := by
  have t : TurnOk G Z w G' Z' w' Turn.id_ := by
    have old : ∀ id ver, ver ≤ (G id).1 → (ver = (G id).1 → (G id).2 = none) → ver ≤ (G' id).1 ∧ (ver = (G' id).1 → (G' id).2 = none) := by
      intro id ver h1 h2
      have hv := h.ver id
      refine ⟨by omega, fun e => ?_⟩
      have e2 : (G' id).1 = (G id).1 := by omega
      rcases h.same id e2 with h3 | h3
      · exact h3
      · rw [h3]; exact h2 (by omega)
    have live : ∀ id ver loc, G id = (ver, some loc) → G' id = (ver, some loc) ∨ (ver ≤ (G' id).1 ∧ (ver = (G' id).1 → (G' id).2 = none)) := by
      intro id ver loc e
      have hv := h.ver id
      have hs := h.same id
      rw [e] at hv hs
      simp only at hv hs
      by_cases e2 : (G' id).1 = ver
      · rcases hs e2 with h3 | h3
        · exact .inr ⟨by omega, fun _ => h3⟩
        · exact .inl (by rw [← e2, ← h3])
      · exact .inr ⟨by omega, fun e3 => absurd e3.symm e2⟩
    refine ⟨h.zin, fun id ver sz off n v hr => ?_, fun id ver off v hr => ?_, fun id ver v hr => ?_⟩
    · cases hr with
      | slOld _ _ _ _ _ _ h1 h2 h3 => exact .slOld _ _ _ _ _ _ (old _ _ h1 h2).1 (old _ _ h1 h2).2 h3
      | slCap _ _ _ _ A loc h1 =>
        rcases live _ _ _ h1 with h3 | h3
        · exact .slCap _ _ _ _ A loc h3
        · exact .slOld _ _ _ _ _ _ h3.1 h3.2 rfl
      | slLive _ _ _ _ _ g o c h1 h2 h3 h4 =>
        rcases live _ _ _ h1 with h5 | h5
        · obtain ⟨arr, e, fz, h6, h7⟩ := h4
          obtain ⟨arr', e', fz', h8, h9⟩ := h.room g arr e fz ⟨id, o, by rw [h1]⟩ h6
          exact .slLive _ _ _ _ _ g o c h5 h2 h3 ⟨arr', e', fz', h8, by omega⟩
        · exact .slOld _ _ _ _ _ _ h5.1 h5.2 rfl
    · cases hr with
      | ptrOld _ _ _ _ h1 h2 h3 => exact .ptrOld _ _ _ _ (old _ _ h1 h2).1 (old _ _ h1 h2).2 h3
      | ptrLive _ _ _ g o h1 =>
        rcases live _ _ _ h1 with h5 | h5
        · exact .ptrLive _ _ _ g o h5
        · exact .ptrOld _ _ _ _ h5.1 h5.2 rfl
    · cases hr with
      | mapOld _ _ _ h1 h2 h3 => exact .mapOld _ _ _ (old _ _ h1 h2).1 (old _ _ h1 h2).2 h3
      | mapLive _ _ g o h1 =>
        rcases live _ _ _ h1 with h5 | h5
        · exact .mapLive _ _ g o h5
        · exact .mapOld _ _ _ h5.1 h5.2 rfl
  have := RepA.turn t hr
  rwa [AV.turn_id] at this

open Go.RowKit
set_option linter.unusedVariables false
set_option linter.unusedSimpArgs false

def upd {α : Type} (H : Nat → α) (i : Nat) (x : α) : Nat → α := fun j => if j = i then x else H j
section
variable {α : Type} (H : Nat → α) (i j : Nat) (x y : α)
@[simp] theorem upd_same : upd H i x i = x := by simp [upd]
theorem upd_ne (h : j ≠ i) : upd H i x j = H j := by simp [upd, h]
@[simp] theorem upd_upd : upd (upd H i x) i y = upd H i y := by
  funext k; simp only [upd]; split <;> rfl
theorem upd_comm (h : j < i) : upd (upd H i x) j y = upd (upd H j y) i x := by
  funext k; simp only [upd]; split <;> split <;> first | rfl | omega
theorem upd_self (h : H i = x) : upd H i x = H := by
  funext k; simp only [upd]; split
  · rename_i e; rw [e, h]
  · rfl
end

def ObjR (P : Program) (G : Ghost) (Z : Nat → Prop) (w : World) : Option (Nat × Nat) → AObj → Prop
  | none, .cells cs => cs = []
  | some (g, o), .cells cs => ∃ (arr : Array Value) (e : TypeId), w.heap[g]? = some (.cells arr e (0, 0)) ∧ CellsR (RepA G Z w) arr o cs
  | some (g, o), .map m => o = 0 ∧ ∃ es clock, w.heap[g]? = some (.map es clock) ∧ MapR es m
  | none, .map .. => False

/-- All cells of a block are single ones. -/
def OnesA (arr : Array Value) : Prop := ∀ (i : Nat) (v : Value), arr[i]? = some v → v.oneCell' = true
def Ones (w : World) (g : Nat) : Prop := ∀ (arr : Array Value) e fz, w.heap[g]? = some (.cells arr e fz) → OnesA arr
theorem Ones.same {w w' : World} {g : Nat} (h : Ones w g) (e : w'.heap[g]? = w.heap[g]?) : Ones w' g := fun arr t fz ha => h arr t fz (by rw [← e]; exact ha)
structure St (P : Program) (G : Ghost) (H : Heap) (Z : Nat → Prop) (w : World) : Prop where
  ver : ∀ id, (G id).1 = (H id).1
  dead : ∀ id, (H id).2 = none → (G id).2 = none
  obj : ∀ id o, (H id).2 = some o → ∃ loc, (G id).2 = some loc ∧ ObjR P G Z w loc o
  inj : ∀ id id' g o o', (G id).2 = some (some (g, o)) → (G id').2 = some (some (g, o')) → id = id'
  disj : ∀ id g o, (G id).2 = some (some (g, o)) → ¬ Z g
  zlt : ∀ b, Z b → b < w.heap.size
  glt : ∀ id g o, (G id).2 = some (some (g, o)) → g < w.heap.size
  ones : ∀ id g o, (G id).2 = some (some (g, o)) → Ones w g

structure Step (G : Ghost) (Z : Nat → Prop) (w : World) (G' : Ghost) (Z' : Nat → Prop) (w' : World) : Prop extends Keep G Z w G' Z' w' where
  os : w'.os = w.os
  tape : w'.tape = w.tape
  output : w'.output = w.output
  size : w.heap.size ≤ w'.heap.size
  old : ∀ b, b < w.heap.size → ¬ LiveB G b → w'.heap[b]? = w.heap[b]?
  zout : ∀ b, Z' b → Z b ∨ LiveB G b ∨ w.heap.size ≤ b
  live : ∀ b, LiveB G' b → LiveB G b ∨ w.heap.size ≤ b

theorem Keep.refl (G : Ghost) (Z : Nat → Prop) (w : World) : Keep G Z w G Z w := ⟨fun b h => ⟨h, rfl⟩, fun _ => Nat.le_refl _, fun _ _ => .inr rfl, fun b arr e fz _ h => ⟨arr, e, fz, h, rfl⟩⟩
theorem Step.refl (G : Ghost) (Z : Nat → Prop) (w : World) : Step G Z w G Z w := ⟨Keep.refl G Z w, rfl, rfl, rfl, Nat.le_refl _, fun _ _ _ => rfl, fun _ h => .inl h, fun _ h => .inl h⟩
theorem heap_lt {w : World} {b : Nat} {o : Obj} (h : w.heap[b]? = some o) : b < w.heap.size := (Array.getElem?_eq_some_iff.1 h).1

theorem Step.trans {G G1 G2 : Ghost} {Z Z1 Z2 : Nat → Prop} {w w1 w2 : World} (h1 : Step G Z w G1 Z1 w1) (h2 : Step G1 Z1 w1 G2 Z2 w2) : Step G Z w G2 Z2 w2 := by
  have hold : ∀ b, b < w.heap.size → ¬ LiveB G b → w2.heap[b]? = w.heap[b]? := fun b hb hn => by
    rw [h2.old b (Nat.lt_of_lt_of_le hb h1.size) (fun hl => (h1.live b hl).elim hn (by omega)), h1.old b hb hn]
  refine ⟨⟨fun b hz => ⟨(h2.zin b (h1.zin b hz).1).1, by rw [(h2.zin b (h1.zin b hz).1).2, (h1.zin b hz).2]⟩, fun id => Nat.le_trans (h1.ver id) (h2.ver id), fun id e => ?_, fun b arr e fz hl hh => ?_⟩,
    h2.os.trans h1.os, h2.tape.trans h1.tape, h2.output.trans h1.output, Nat.le_trans h1.size h2.size, hold, fun b hz => ?_, fun b hl => ?_⟩
  · have a1 := h1.ver id
    have a2 := h2.ver id
    rcases h2.same id (by omega) with h3 | h3
    · exact .inl h3
    · rcases h1.same id (by omega) with h4 | h4
      · exact .inl (h3.trans h4)
      · exact .inr (h3.trans h4)
  · obtain ⟨arr1, e1, fz1, hh1, hs1⟩ := h1.room b arr e fz hl hh
    by_cases hl1 : LiveB G1 b
    · obtain ⟨arr2, e2, fz2, hh2, hs2⟩ := h2.room b arr1 e1 fz1 hl1 hh1
      exact ⟨arr2, e2, fz2, hh2, by omega⟩
    · exact ⟨arr1, e1, fz1, by rw [h2.old b (heap_lt hh1) hl1]; exact hh1, hs1⟩
  · rcases h2.zout b hz with h3 | h3 | h3
    · exact h1.zout b h3
    · rcases h1.live b h3 with h4 | h4
      · exact .inr (.inl h4)
      · exact .inr (.inr h4)
    · exact .inr (.inr (Nat.le_trans h1.size h3))
  · rcases h2.live b hl with h3 | h3
    · exact h1.live b h3
    · exact .inr (Nat.le_trans h1.size h3)

/-- Only block t is touched. -/
structure Only (t : Nat) (w w' : World) : Prop where
  os : w'.os = w.os
  tape : w'.tape = w.tape
  output : w'.output = w.output
  size : w.heap.size ≤ w'.heap.size
  same : ∀ b, b < w.heap.size → b ≠ t → w'.heap[b]? = w.heap[b]?
  room : ∀ (arr : Array Value) e fz, w.heap[t]? = some (.cells arr e fz) → ∃ arr' e' fz', w'.heap[t]? = some (.cells arr' e' fz') ∧ arr'.size = arr.size

theorem CellsR.mono {R R' : AV → Value → Prop} {arr : Array Value} {o : Nat} {cs : List AV} (h : CellsR R arr o cs) (hr : ∀ a v, R a v → R' a v) : CellsR R' arr o cs :=
  fun j a ha => let ⟨v, h1, h2, h3⟩ := h j a ha; ⟨v, h1, h2, hr _ _ h3⟩

/-- One object changes: id's version and place become g, its content h. -/
theorem St.change {P : Program} {G : Ghost} {H : Heap} {Z : Nat → Prop} {w w' : World} (st : St P G H Z w) (id t : Nat) (ho : Only t w w') (g : Nat × Option (Option (Nat × Nat))) (h : Nat × Option AObj)
    (ht : t = w.heap.size ∨ ∃ o, (G id).2 = some (some (t, o))) (htl : t < w'.heap.size ∨ ∀ o, g.2 ≠ some (some (t, o)))
    (hv : g.1 = h.1) (hle : (H id).1 ≤ g.1) (hsame : g.1 = (H id).1 → g.2 = none ∨ g.2 = (G id).2)
    (hloc : g.2 = none ∨ g.2 = some none ∨ ∃ o, g.2 = some (some (t, o))) (hon : (∃ o, g.2 = some (some (t, o))) → Ones w' t) (hdead : h.2 = none → g.2 = none)
    (hobj : ∀ o, h.2 = some o → ∃ loc, g.2 = some loc ∧ (Keep G Z w (upd G id g) Z w' → ObjR P (upd G id g) Z w' loc o)) :
    St P (upd G id g) (upd H id h) Z w' ∧ Step G Z w (upd G id g) Z w' := by
  have hnz : ¬ Z t := by
    rcases ht with rfl | ⟨o, h1⟩
    · exact fun hz => absurd (st.zlt _ hz) (by omega)
    · exact st.disj _ _ _ h1
  have hg : ∀ id', id' ≠ id → upd G id g id' = G id' := fun id' hne => upd_ne _ _ _ _ hne
  have hother : ∀ id' b o, id' ≠ id → (G id').2 = some (some (b, o)) → b ≠ t := by
    intro id' b o hne h1 hbt
    subst hbt
    rcases ht with h2 | ⟨o', h2⟩
    · exact absurd (st.glt _ _ _ h1) (by omega)
    · exact hne (st.inj _ _ _ _ _ h1 h2)
  have hkeep : Keep G Z w (upd G id g) Z w' := by
    refine ⟨fun b hz => ⟨hz, ho.same b (st.zlt b hz) (fun e => hnz (e ▸ hz))⟩, fun id' => ?_, fun id' e => ?_, fun b arr e fz hl hh => ?_⟩
    · by_cases e : id' = id
      · subst e; rw [upd_same, st.ver]; exact hle
      · rw [hg _ e]; exact Nat.le_refl _
    · by_cases e' : id' = id
      · subst e'; rw [upd_same] at e ⊢; exact hsame (by rw [e, st.ver])
      · rw [hg _ e']; exact .inr rfl
    · by_cases hbt : b = t
      · subst hbt; exact ho.room arr e fz hh
      · exact ⟨arr, e, fz, by rw [ho.same b (heap_lt hh) hbt]; exact hh, rfl⟩
  have hlive : ∀ b, LiveB (upd G id g) b → LiveB G b ∨ b = t := by
    rintro b ⟨id', o, h1⟩
    by_cases e : id' = id
    · subst e
      rw [upd_same] at h1
      rcases hloc with h2 | h2 | ⟨o', h2⟩ <;> rw [h2] at h1 <;> simp at h1
      exact .inr h1.1.symm
    · rw [hg _ e] at h1; exact .inl ⟨id', o, h1⟩
  have htlive : t = w.heap.size ∨ LiveB G t := ht.imp (fun h => h) fun ⟨o, h1⟩ => ⟨id, o, h1⟩
  refine ⟨⟨fun id' => ?_, fun id' e => ?_, fun id' o e => ?_, fun i1 i2 b o1 o2 h1 h2 => ?_, fun id' b o h1 => ?_, fun b hz => Nat.lt_of_lt_of_le (st.zlt b hz) ho.size, fun id' b o h1 => ?_, fun id' b o h1 => ?_⟩,
    ⟨hkeep, ho.os, ho.tape, ho.output, ho.size, fun b hb hn => ho.same b hb (fun e => ?_), fun b hz => .inl hz, fun b hl => ?_⟩⟩
  · by_cases e : id' = id
    · subst e; rw [upd_same, upd_same]; exact hv
    · rw [hg _ e, upd_ne _ _ _ _ e]; exact st.ver id'
  · by_cases e' : id' = id
    · subst e'; rw [upd_same] at e ⊢; exact hdead e
    · rw [hg _ e']; rw [upd_ne _ _ _ _ e'] at e; exact st.dead id' e
  · by_cases e' : id' = id
    · subst e'; rw [upd_same] at e ⊢
      obtain ⟨loc, h1, h2⟩ := hobj o e
      exact ⟨loc, h1, h2 hkeep⟩
    · rw [hg _ e']; rw [upd_ne _ _ _ _ e'] at e
      obtain ⟨loc, h1, h2⟩ := st.obj id' o e
      refine ⟨loc, h1, ?_⟩
      cases loc with
      | none => cases o <;> exact h2
      | some p =>
        obtain ⟨b, ob⟩ := p
        have hb : w'.heap[b]? = w.heap[b]? := ho.same b (st.glt _ _ _ h1) (hother _ _ _ e' h1)
        cases o with
        | cells cs =>
          obtain ⟨arr, e, h3, h4⟩ := h2
          exact ⟨arr, e, hb.trans h3, h4.mono fun a v hr => hr.keep hkeep⟩
        | map m =>
          obtain ⟨h3, es, clock, h4, h5⟩ := h2
          exact ⟨h3, es, clock, hb.trans h4, h5⟩
  · by_cases e1 : i1 = id <;> by_cases e2 : i2 = id
    · rw [e1, e2]
    · subst e1
      rw [upd_same] at h1; rw [hg _ e2] at h2
      rcases hloc with h3 | h3 | ⟨o', h3⟩ <;> rw [h3] at h1 <;> simp at h1
      exact absurd h1.1.symm (hother _ _ _ e2 h2)
    · subst e2
      rw [upd_same] at h2; rw [hg _ e1] at h1
      rcases hloc with h3 | h3 | ⟨o', h3⟩ <;> rw [h3] at h2 <;> simp at h2
      exact absurd h2.1.symm (hother _ _ _ e1 h1)
    · rw [hg _ e1] at h1; rw [hg _ e2] at h2
      exact st.inj _ _ _ _ _ h1 h2
  · by_cases e : id' = id
    · subst e
      rw [upd_same] at h1
      rcases hloc with h2 | h2 | ⟨o', h2⟩ <;> rw [h2] at h1 <;> simp at h1
      rw [← h1.1]; exact hnz
    · rw [hg _ e] at h1; exact st.disj _ _ _ h1
  · by_cases e : id' = id
    · subst e
      rw [upd_same] at h1
      rcases hloc with h2 | h2 | ⟨o', h2⟩ <;> rw [h2] at h1 <;> simp at h1
      rcases htl with h3 | h3
      · rw [← h1.1]; exact h3
      · exact absurd h2 (h3 o')
    · rw [hg _ e] at h1; exact Nat.lt_of_lt_of_le (st.glt _ _ _ h1) ho.size
  · by_cases e : id' = id
    · subst e
      rw [upd_same] at h1
      have h0 := h1
      rcases hloc with h2 | h2 | ⟨o', h2⟩ <;> rw [h2] at h1 <;> simp at h1
      rw [← h1.1]; exact hon ⟨o', h2⟩
    · rw [hg _ e] at h1
      exact (st.ones _ _ _ h1).same (ho.same b (st.glt _ _ _ h1) (hother _ _ _ e h1))
  · subst e
    rcases htlive with h1 | h1
    · omega
    · exact hn h1
  · rcases hlive b hl with h1 | h1
    · exact .inl h1
    · subst h1; exact htlive.symm.imp (fun h => h) (fun h => by omega)

theorem Only.alloc (w : World) (o : Obj) : Only w.heap.size w (w.alloc o) :=
  ⟨rfl, rfl, rfl, by simp, fun b hb _ => Below.heap_alloc w o b hb, fun arr e fz h => absurd (heap_lt h) (by omega)⟩
theorem Only.drew (t : Nat) (w : World) : Only t w w.drew := ⟨rfl, rfl, rfl, Nat.le_refl _, fun _ _ _ => rfl, fun arr e fz h => ⟨arr, e, fz, h, rfl⟩⟩
theorem Only.refl (t : Nat) (w : World) : Only t w w := ⟨rfl, rfl, rfl, Nat.le_refl _, fun _ _ _ => rfl, fun arr e fz h => ⟨arr, e, fz, h, rfl⟩⟩
theorem Only.trans {t : Nat} {a b c : World} (h : Only t a b) (k : Only t b c) : Only t a c :=
  ⟨k.os.trans h.os, k.tape.trans h.tape, k.output.trans h.output, Nat.le_trans h.size k.size, fun i hi ht => (k.same i (Nat.lt_of_lt_of_le hi h.size) ht).trans (h.same i hi ht), fun arr e fz hh => by
    obtain ⟨a1, e1, f1, h1, s1⟩ := h.room arr e fz hh
    obtain ⟨a2, e2, f2, h2, s2⟩ := k.room a1 e1 f1 h1
    exact ⟨a2, e2, f2, h2, by omega⟩⟩

theorem setCells_heap (g : Nat) (t : TypeId) (fz : Nat × Nat) : ∀ (vs : List Value) (o : Nat) (w : World) (arr : Array Value), w.heap[g]? = some (.cells arr t fz) →
    ∃ arr' : Array Value, (w.setCells g o vs).heap[g]? = some (.cells arr' t fz) ∧ arr'.size = arr.size ∧
      (∀ i, (i < o ∨ o + vs.length ≤ i) → arr'[i]? = arr[i]?) ∧ (∀ j v, vs[j]? = some v → o + j < arr.size → arr'[o + j]? = some v)
  | [], o, w, arr, h => ⟨arr, h, rfl, fun _ _ => rfl, fun j v h => by simp at h⟩
  | v :: vs, o, w, arr, h => by
    have h1 : (w.setCell ⟨g, o, none⟩ v).heap[g]? = some (.cells (arr.setIfInBounds o v) t fz) := by
      simp [World.setCell, Array.getElem?_modify, h]
    obtain ⟨arr', h2, h3, h4, h5⟩ := setCells_heap g t fz vs (o + 1) _ _ h1
    refine ⟨arr', h2, by simp [h3], fun i hi => ?_, fun j u hj hlt => ?_⟩
    · simp only [List.length_cons] at hi
      rw [h4 i (by omega), Array.getElem?_setIfInBounds_ne (by omega)]
    · cases j with
      | zero =>
        simp only [List.getElem?_cons_zero, Option.some.injEq] at hj
        subst hj
        rw [Nat.add_zero, h4 o (by omega)]
        simp at hlt
        simp [Array.getElem?_setIfInBounds, hlt]
      | succ j =>
        simp only [List.getElem?_cons_succ] at hj
        have := h5 j u hj (by simp; omega)
        rw [show o + (j + 1) = o + 1 + j by omega]; exact this
theorem setCells_mem (g : Nat) (t : TypeId) (fz : Nat × Nat) (vs : List Value) (o : Nat) (w : World) (h : Ones w g) (hv : ∀ v ∈ vs, v.oneCell' = true) : Ones (w.setCells g o vs) g := by
  induction vs generalizing o w with
  | nil => exact h
  | cons v vs ih =>
    rw [World.setCells]
    refine ih (o + 1) _ (fun arr e fz ha i x hx => ?_) (fun x hx => hv x (by simp [hx]))
    simp only [World.setCell, Array.getElem?_modify] at ha
    split at ha
    · cases hq : w.heap[g]? with
      | none => rw [hq] at ha; cases ha
      | some ob =>
        rw [hq] at ha
        simp only [Option.map_some, Option.some.injEq] at ha
        cases ob with
        | cells arr0 e0 fz0 =>
          simp only [Obj.cells.injEq] at ha
          obtain ⟨rfl, _⟩ := ha
          rw [if_neg (by decide), Array.getElem?_setIfInBounds] at hx
          split at hx
          · split at hx
            · obtain rfl := Option.some.inj hx; exact hv _ (by simp)
            · cases hx
          · exact h _ _ _ hq i x hx
        | _ => cases ha
    · rename_i hn; exact absurd trivial hn
theorem setCells_other (g : Nat) : ∀ (vs : List Value) (o : Nat) (w : World) (b : Nat), b ≠ g → (w.setCells g o vs).heap[b]? = w.heap[b]?
  | [], _, _, _, _ => rfl
  | v :: vs, o, w, b, h => by
    rw [World.setCells, setCells_other g vs (o + 1) _ b h]
    exact Below.heap_setCell w _ v b h
theorem setCells_rest (g : Nat) : ∀ (vs : List Value) (o : Nat) (w : World), (w.setCells g o vs).os = w.os ∧ (w.setCells g o vs).tape = w.tape ∧ (w.setCells g o vs).output = w.output ∧ (w.setCells g o vs).heap.size = w.heap.size
  | [], _, _ => ⟨rfl, rfl, rfl, rfl⟩
  | v :: vs, o, w => by
    rw [World.setCells]
    obtain ⟨h1, h2, h3, h4⟩ := setCells_rest g vs (o + 1) (w.setCell ⟨g, o, none⟩ v)
    exact ⟨h1, h2, h3, by rw [h4]; simp [World.setCell]⟩
theorem Only.setCells (g o : Nat) (vs : List Value) (w : World) : Only g w (w.setCells g o vs) := by
  obtain ⟨h1, h2, h3, h4⟩ := setCells_rest g vs o w
  refine ⟨h1, h2, h3, by omega, fun b _ hb => setCells_other g vs o w b hb, fun arr e fz h => ?_⟩
  obtain ⟨arr', h5, h6, _⟩ := setCells_heap g e fz vs o w arr h
  exact ⟨arr', e, fz, h5, by omega⟩
end Go.Proofs.YtaiajaibcpkceaaDoor
