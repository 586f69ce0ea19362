/-
  The abstract machine: how operations of the program are lowered, and that what a lowered one does to an abstract state is what the operation does (part 1: plain ones). No statement of the seat is proved here; no conditions.
-/
import Derived.Test.YteeemcghdhdodaaDoorEngC
import Derived.Great.BuildSlice
namespace Go.Proofs.YteeemcghdhdodaaDoor
open Go.RowKit
set_option linter.unusedVariables false
set_option linter.unusedSimpArgs false

def zeroCellsOf (P : Program) (t : TypeId) : Option (List FV) :=
  match P.info? t with
  | some i => match i.zero with
    | some z => if z.cells.toList.all (·.oneCell') && z.cells.size == i.size then some (z.cells.toList.map FV.ofValue) else none
    | none => none
  | none => none
def rowOf (P : Program) (t : TypeId) : Option (Option Nat) :=
  match P.underlying t, P.info? t with
  | some d, some i => some (if d.isRow then some i.size else none)
  | _, _ => none
def sizeOf? (P : Program) (t : TypeId) : Option Nat := (P.info? t).map (·.size)
def bytesOf? (P : Program) (t : TypeId) : Option Nat := (P.info? t).map (·.bytes)
def elemOf? (P : Program) (t : TypeId) : Option TypeId := match P.underlying t with
  | some (.slice e) => some e
  | _ => none
def fieldOf? (P : Program) (t : TypeId) (i : Nat) : Option Field := match P.underlying t with
  | some (.struct fs) => fs[i]?
  | _ => none
def isStr (P : Program) (t : TypeId) : Bool := match P.underlying t with
  | some .string => true
  | _ => false
def isBoolT (P : Program) (t : TypeId) : Bool := match P.underlying t with
  | some .bool => true
  | _ => false
def isPtr (P : Program) (t : TypeId) : Bool := match P.underlying t with
  | some (.pointer _) => true
  | _ => false
def intKindOf? (P : Program) (t : TypeId) : Option IntKind := match P.underlying t with
  | some (.int k) => some k
  | _ => none
def isBytes (P : Program) (t : TypeId) : Bool := match elemOf? P t with
  | some e => intKindOf? P e == some .u8
  | none => false
def partsOf? (P : Program) (fs : Array Field) : List (Nat × Operand) → Option (List (Nat × Nat × Operand))
  | [] => some []
  | (i, x) :: r => match fs[i]? with
    | some f => match sizeOf? P f.type, partsOf? P fs r with
      | some s, some l => some ((f.offset, s, x) :: l)
      | _, _ => none
    | none => none
/-- x against nil, at a slice's or a pointer's type. -/
def nilOf? (P : Program) (op : BinOp) (t : TypeId) (x y : Operand) : Option LOp := match op, y with
  | .eql, .const (.slice none 0 0) => if (elemOf? P t).isSome then some (.isNil false false x) else none
  | .neq, .const (.slice none 0 0) => if (elemOf? P t).isSome then some (.isNil false true x) else none
  | .eql, .const (.pointer none) => if isPtr P t then some (.isNil true false x) else none
  | .neq, .const (.pointer none) => if isPtr P t then some (.isNil true true x) else none
  | _, _ => none
def kindOf? (P : Program) (t : TypeId) : Option Nat := match P.underlying t with
  | some (.int _) => some 0
  | some .bool => some 1
  | some .string => some 2
  | _ => none
def kindsOf? (P : Program) : List Field → Nat → Option (List Nat)
  | [], _ => some []
  | f :: fs, k => if f.name ≠ "_" ∧ f.offset = k then match kindOf? P f.type, kindsOf? P fs (k + 1) with
    | some a, some l => some (a :: l)
    | _, _ => none else none
/-- Structs of plain fields, equal or not. -/
def eqOf? (P : Program) (op : BinOp) (t : TypeId) (x y : Operand) : Option LOp := match P.underlying t with
  | some (.struct fs) => if P.stoodInHeld t = false ∧ P.eqGuardType P.depth t = false then match kindsOf? P fs.toList 0 with
    | some ks => match op with
      | .eql => some (.eqS ks false x y)
      | .neq => some (.eqS ks true x y)
      | _ => none
    | none => none else none
  | _ => none
def mapOf? (P : Program) (t : TypeId) : Option (TypeId × TypeId) := match P.underlying t with
  | some (.map k e) => if isStr P k = true then some (k, e) else none
  | _ => none
def lowOp (P : Program) : Op → Option LOp
  | .move x | .assign x => some (.move x)
  | .nilCheck x => some (.nilChk x)
  | .pick c a b => some (.pick c a b)
  | .alloc e => (zeroCellsOf P e).map (.alloc e)
  | .box e x => some (.box e x)
  | .build t parts => match P.underlying t, zeroCellsOf P t with
    | some (.struct fs), some z => if fs.toList.all (fun f => (sizeOf? P f.type).isSome) then (partsOf? P fs parts.toList).map (.build z) else none
    | _, _ => none
  | .buildSlice t len parts => match elemOf? P t with
    | some e => match zeroCellsOf P e, sizeOf? P e with
      | some z, some sz => if sz ≠ 0 ∧ len * sz ≤ 16777216 then some (.buildSlice e sz len z parts.toList) else none
      | _, _ => none
    | none => none
  | .load t a => (rowOf P t).map (.load · a)
  | .store t a v => (sizeOf? P t).map (.store · a v)
  | .binOp op t x y _ => (match nilOf? P op t x y with | some lo => some lo | none => match eqOf? P op t x y with | some lo => some lo | none => some (.bin op (isBoolT P t) x y))
  | .unOp op _ x => some (.un op x)
  | .convert src dst x => match intKindOf? P dst with
    | some k => if (intKindOf? P src).isSome then some (.convInt k x) else none
    | none => if isStr P src && isStr P dst then some (.convStr x) else if isBytes P src && isStr P dst then some (.bytesStr x) else if isStr P src && isBytes P dst then some (.strBytes x) else if isBytes P src && src == dst then some (.mark x) else none
  | .makeFunc fn first caps => if first.isEmpty then some (.clo fn caps.toList) else none
  | .makeSlice t l c => match elemOf? P t with
    | some e => match zeroCellsOf P e, sizeOf? P e, bytesOf? P e with
      | some z, some sz, some by_ => if sz ≠ 0 then some (.makeSlice e sz by_ z l c) else none
      | _, _, _ => none
    | none => none
  | .slice t x lo hi mx => match elemOf? P t with
    | some e => match sizeOf? P e, lo, hi, mx with
      | some sz, lo, hi, none => some (.slice sz x lo hi)
      | some sz, some lo, some hi, some mx => some (.slice0 x lo hi mx)
      | some sz, none, some hi, some mx => some (.slice0 x (.const (.int .i64 0)) hi mx)
      | _, _, _, _ => none
    | none => if isStr P t && mx.isNone then some (.sliceS x lo hi) else none
  | .fieldAddr s x i => match fieldOf? P s i with
    | some f => match sizeOf? P f.type with
      | some n => if n ≠ 0 then some (.fieldAddr f.offset x) else none
      | none => none
    | none => none
  | .field s x i => match fieldOf? P s i with
    | some f => (rowOf P f.type).map (.field f.offset · x)
    | none => none
  | .indexAddr t x ix => match elemOf? P t with
    | some e => (sizeOf? P e).map (.indexAddr · x ix)
    | none => none
  | .index t x ix => if isStr P t then some (.indexS x ix) else none
  | .extract x i => some (.extract x i)
  | .makeMap t r => match mapOf? P t, r with
    | some _, none => some .mkMap
    | _, _ => none
  | .mapUpdate t m k x => match mapOf? P t with
    | some _ => some (.mapUpd m k x)
    | none => none
  | .lookup t m k ok => match mapOf? P t with
    | some (_, e) => match P.info? e with
      | some i => match i.zero with
        | some z => some (.lookup z ok m k)
        | none => none
      | none => none
    | none => none
  | .call c => match c.callee with
    | .builtin .len => match c.args.toList, c.argTypes.toList with
      | [x], [t] => if isStr P t then some (.len true x) else if (elemOf? P t).isSome then some (.len false x) else none
      | _, _ => none
    | .builtin .max => match c.args.toList with
      | [x, y] => some (.maxI x y)
      | _ => none
    | .builtin .min => match c.args.toList with
      | [x, y] => some (.minI x y)
      | _ => none
    | .builtin .append => match c.args.toList, c.argTypes.toList with
      | [s, x], [t, tx] => match elemOf? P t with
        | some e => match sizeOf? P e, bytesOf? P e with
          | some sz, some by_ => if sz ≠ 0 ∧ by_ ≠ 0 ∧ (zeroCellsOf P e).isSome = true then (if isStr P tx then some (.append true e sz by_ s x) else if (elemOf? P tx).isSome then some (.append false e sz by_ s x) else none) else none
          | _, _ => none
        | none => none
      | _, _ => none
    | .builtin .copy => match c.args.toList, c.argTypes.toList with
      | [d, s], [dT, sT] => match elemOf? P dT with
        | some e => match sizeOf? P e with
          | some sz => if (elemOf? P sT).isSome then some (.copy sz d s) else none
          | none => none
        | none => none
      | _, _ => none
    | .builtin .clear => match c.args.toList, c.argTypes.toList with
      | [x], [t] => match elemOf? P t with
        | some e => match sizeOf? P e, zeroCellsOf P e with
          | some sz, some z => some (.clear sz z x)
          | _, _ => none
        | none => none
      | _, _ => none
    | .builtin .cap => match c.args.toList, c.argTypes.toList with
      | [x], [t] => if (elemOf? P t).isSome then some (.cap x) else none
      | _, _ => none
    | .value f => some (.call f c.args.toList)
    | _ => none
  | _ => none

/-- An operation yields u (or nothing). -/
def Runs (P : Program) (s : Sem Next) (w w' : World) (u : Value) : Prop := s.run P w = .ok (.value u) w' ∨ (s.run P w = .ok .skip w' ∧ u = undef)

section inv
variable {G : Ghost} {Z : Nat → Prop} {w : World} {v : Value}
theorem RepA.f_ {x : FV} (h : RepA G Z w (.f x) v) : RepF Z w x v := by cases h; assumption
theorem RepA.int_ {k : IntKind} {n : Int} (h : RepA G Z w (.f (.int k n)) v) : v = .int k n := by cases h.f_; rfl
theorem RepA.bool_ {b : Bool} (h : RepA G Z w (.f (.bool b)) v) : v = .bool b := by cases h.f_; rfl
theorem RepA.str_ {s : ByteArray} (h : RepA G Z w (.f (.str s)) v) : v = .string s := by cases h.f_; rfl
theorem RepA.nil_ (h : RepA G Z w (.f .nil) v) : ∃ A, v = .slice A 0 0 := by cases h.f_; exact ⟨_, rfl⟩
theorem RepA.bit_ (h : RepA G Z w (.f .bit) v) : ∃ b, v = .bool b := by cases h.f_; exact ⟨_, rfl⟩
theorem RepA.fn_ {f : Fn} (h : RepA G Z w (.f (.fn f)) v) : v = .func f #[] #[] := by cases h.f_; rfl
theorem RepA.toI_ {a : AV} {n : Int} (h : RepA G Z w a v) (e : a.toI = some n) : ∃ k, v = .int k n := by
  cases a <;> simp only [AV.toI] at e <;> try cases e
  rename_i x
  cases x <;> simp only [FV.toI] at e <;> try cases e
  exact ⟨_, h.int_⟩
theorem RepA.fr_ {sz : Nat} {l : List (List FV)} (h : RepA G Z w (.f (.fr sz l)) v) : ∃ A c, v = .slice A l.length c ∧ l.length ≤ c ∧ c ≤ maxLen ∧ (0 < l.length → ∃ b o, A = some ⟨b, o, none⟩ ∧ Z b) := by
  cases h.f_ with
  | frNil _ A c hc => exact ⟨A, c, rfl, by simp, hc, fun h => absurd h (by simp)⟩
  | fr _ _ b o c us h0 h1 h2 hb => exact ⟨_, c, rfl, h1, h2, fun _ => ⟨b, o, rfl, hb⟩⟩
theorem RepA.fp_ {cs : List FV} (h : RepA G Z w (.f (.fp cs)) v) : ∃ (b o : Nat) (us : Nat → Value), v = .pointer (some ⟨b, o, none⟩) ∧ Z b ∧ (∀ j, j < cs.length → w.cell? ⟨b, o + j, none⟩ = some (us j) ∧ (us j).oneCell' = true) ∧ ∀ j a, cs[j]? = some a → RepF Z w a (us j) := by
  cases h.f_ with
  | fp _ b o us hz hc hc2 => exact ⟨b, o, us, rfl, hz, hc, hc2⟩
theorem RepF.one_ {x : FV} (h : RepF Z w x v) (e : x.isOne = true) : v.oneCell' = true := by
  cases h <;> first | rfl | exact e
theorem RepA.agg_ {cs : List AV} (h : RepA G Z w (.agg cs) v) : ∃ us : Array Value, v = .agg us ∧ us.size = cs.length ∧ (∀ (j : Nat) (u : Value), us[j]? = some u → u.oneCell' = true) ∧ ∀ (j : Nat) (a : AV) (u : Value), cs[j]? = some a → us[j]? = some u → RepA G Z w a u := by
  cases h with
  | agg _ us h1 h2 h3 => exact ⟨us, rfl, h1, h2, h3⟩
theorem RepA.tup_ {cs : List AV} (h : RepA G Z w (.tup cs) v) : ∃ us : Array Value, v = .tuple us ∧ us.size = cs.length ∧ ∀ (j : Nat) (a : AV) (u : Value), cs[j]? = some a → us[j]? = some u → RepA G Z w a u := by
  cases h with
  | tup _ us h1 h3 => exact ⟨us, rfl, h1, h3⟩
theorem RepA.clo_ {f : Fn} {cs : List AV} (h : RepA G Z w (.clo f cs) v) : ∃ us : Array Value, v = .func f #[] us ∧ us.size = cs.length ∧ ∀ (j : Nat) (a : AV) (u : Value), cs[j]? = some a → us[j]? = some u → RepA G Z w a u := by
  cases h with
  | clo _ _ us h1 h3 => exact ⟨us, rfl, h1, h3⟩
theorem RepA.sl_ {id ver sz off n : Nat} {loc : Option (Nat × Nat)} (h : RepA G Z w (.sl id ver sz off n) v) (e : G id = (ver, some loc)) :
    (n = 0 ∧ ∃ A, v = .slice A 0 0) ∨ ∃ g o c, loc = some (g, o) ∧ v = .slice (some ⟨g, o + off * sz, none⟩) n c ∧ n ≤ c ∧ c ≤ maxLen ∧ ∃ (arr : Array Value) (e : TypeId) (fz : Nat × Nat), w.heap[g]? = some (.cells arr e fz) ∧ o + (off + c) * sz = arr.size := by
  cases h with
  | slOld _ _ _ _ _ _ h1 h2 h3 => rw [e] at h2; exact absurd (h2 rfl) (by simp)
  | slCap _ _ _ _ A loc h1 => exact .inl ⟨rfl, A, rfl⟩
  | slLive _ _ _ _ _ g o c h1 h2 h3 h4 =>
    rw [e] at h1
    simp only [Prod.mk.injEq, Option.some.injEq, true_and] at h1
    exact .inr ⟨g, o, c, h1, rfl, h2, h3, h4⟩
theorem RepA.ptr_ {id ver off : Nat} {loc : Option (Nat × Nat)} (h : RepA G Z w (.ptr id ver off) v) (e : G id = (ver, some loc)) : ∃ g o, loc = some (g, o) ∧ v = .pointer (some ⟨g, o + off, none⟩) := by
  cases h with
  | ptrOld _ _ _ _ h1 h2 h3 => rw [e] at h2; exact absurd (h2 rfl) (by simp)
  | ptrLive _ _ _ g o h1 =>
    rw [e] at h1
    simp only [Prod.mk.injEq, Option.some.injEq, true_and] at h1
    exact ⟨g, o, h1, rfl⟩
end inv

section st
variable {P : Program} {G : Ghost} {H : Heap} {Z : Nat → Prop} {w : World}
theorem St.alive (st : St P G H Z w) {id ver : Nat} (h : aliveOf ver (H id) = true) : ∃ loc, G id = (ver, some loc) := by
  unfold aliveOf at h
  have h1 := st.ver id
  split at h
  · rename_i v o e
    obtain ⟨loc, h2, _⟩ := st.obj id o (by rw [e])
    refine ⟨loc, ?_⟩
    rw [e] at h1
    simp only [beq_iff_eq] at h
    rw [← h2, ← h]
    exact Prod.ext h1 rfl
  · cases h
theorem St.cells (st : St P G H Z w) {id ver : Nat} {cs : List AV} (h : cellsOf ver (H id) = some cs) : ∃ loc, G id = (ver, some loc) ∧ ObjR P G Z w loc (.cells cs) ∧ H id = (ver, some (.cells cs)) := by
  unfold cellsOf at h
  have h1 := st.ver id
  split at h
  · rename_i v cs' e
    split at h
    · rename_i hv
      obtain rfl := Option.some.inj h
      obtain ⟨loc, h2, h3⟩ := st.obj id _ (by rw [e])
      subst hv
      refine ⟨loc, ?_, h3, e⟩
      rw [e] at h1
      rw [← h2]
      exact Prod.ext h1 rfl
    · cases h
  · cases h
/-- A draw. -/
theorem St.drew (st : St P G H Z w) (n : Nat) : St P G H Z (w.drewN n) ∧ Step G Z w G Z (w.drewN n) := by
  have hk : Keep G Z w G Z (w.drewN n) := ⟨fun b h => ⟨h, rfl⟩, fun _ => Nat.le_refl _, fun _ _ => .inr rfl, fun b arr e fz _ h => ⟨arr, e, fz, h, rfl⟩⟩
  refine ⟨⟨st.ver, st.dead, fun id o h => ?_, st.inj, st.disj, st.zlt, st.glt, st.ones⟩, ⟨hk, rfl, rfl, rfl, Nat.le_refl _, fun _ _ _ => rfl, fun _ h => .inl h, fun _ h => .inl h⟩⟩
  obtain ⟨loc, h1, h2⟩ := st.obj id o h
  refine ⟨loc, h1, ?_⟩
  cases loc with
  | none => cases o <;> exact h2
  | some p =>
    obtain ⟨g, ob⟩ := p
    cases o with
    | cells cs =>
      obtain ⟨arr, e, h3, h4⟩ := h2
      exact ⟨arr, e, h3, h4.mono fun a v hr => hr.keep hk⟩
    | map m =>
      obtain ⟨h3, es, clock, h4, h5⟩ := h2
      exact ⟨h3, es, clock, h4, h5⟩
end st

theorem RepA.one_ {G : Ghost} {Z : Nat → Prop} {w : World} {a : AV} {v : Value} (h : RepA G Z w a v) (e : a.isOne = true) : v.oneCell' = true := by
  cases h with
  | any v => cases e
  | f hf => exact hf.one_ e
  | slOld _ _ _ _ _ _ _ _ h3 => exact h3
  | ptrOld _ _ _ _ _ _ h3 => exact h3
  | mapOld _ _ _ _ _ h3 => exact h3
  | slCap => rfl
  | slLive => rfl
  | ptrLive => rfl
  | mapLive => rfl
  | agg => cases e
  | tup => cases e
  | clo => rfl
/-- A value's cells. -/
theorem RepA.cellsN_ {G : Ghost} {Z : Nat → Prop} {w : World} {a : AV} {v : Value} {n : Nat} {xs : List AV} (h : RepA G Z w a v) (e : a.cellsN n = some xs) :
    v.cells.size = n ∧ xs.length = n ∧ ∀ (j : Nat) (x : AV), xs[j]? = some x → ∃ u, v.cells[j]? = some u ∧ u.oneCell' = true ∧ RepA G Z w x u := by
  have hone : ∀ a : AV, RepA G Z w a v → (n = 1 ∧ a.isOne = true) → v.cells.size = n ∧ [a].length = n ∧ ∀ (j : Nat) (x : AV), [a][j]? = some x → ∃ u, v.cells[j]? = some u ∧ u.oneCell' = true ∧ RepA G Z w x u := by
    rintro a h ⟨rfl, h1⟩
    have h2 := h.one_ h1
    have h3 : v.cells = #[v] := by cases v <;> first | rfl | cases h2
    rw [h3]
    refine ⟨rfl, rfl, fun j x hj => ?_⟩
    cases j with
    | zero =>
      simp only [List.getElem?_cons_zero, Option.some.injEq] at hj
      subst hj
      exact ⟨v, rfl, h2, h⟩
    | succ j => simp at hj
  cases a
  case agg cs =>
    simp only [AV.cellsN] at e
    split at e
    · rename_i hl
      obtain rfl := Option.some.inj e
      obtain ⟨us, rfl, h1, h2, h3⟩ := h.agg_
      refine ⟨by simp only [Value.cells]; omega, hl, fun j x hj => ?_⟩
      have hlt : j < us.size := by
        have := (List.getElem?_eq_some_iff.1 hj).1
        omega
      have hu : us[j]? = some us[j] := Array.getElem?_eq_getElem hlt
      exact ⟨us[j], hu, h2 j _ hu, h3 j x _ hj hu⟩
    · cases e
  all_goals
    simp only [AV.cellsN] at e
    split at e
    · rename_i hc
      obtain rfl := Option.some.inj e
      exact hone _ h hc
    · cases e
end Go.Proofs.YteeemcghdhdodaaDoor
