/-
  The abstract machine: lowered operations, what they do to abstract states. No statement of the seat is proved here; no conditions.
-/
import Derived.Test.YteeemcghdhdodaaDoorEngB
namespace Go.Proofs.YteeemcghdhdodaaDoor
open Go.RowKit
set_option linter.unusedVariables false
set_option linter.unusedSimpArgs false

def FV.ofValue : Value → FV
  | .int k n => .int k n
  | .bool b => .bool b
  | .string s => .str s
  | .slice none 0 0 => .nil
  | .func g fs cs => match fs.toList, cs.toList with
    | [], [] => .fn g
    | _, _ => .lit (.func g fs cs)
  | v => .lit v
def AV.ofValue : Value → AV
  | .agg cs => if cs.toList.all (·.oneCell') then .agg (cs.toList.map fun c => .f (FV.ofValue c)) else .f (.lit (.agg cs))
  | v => .f (FV.ofValue v)
theorem RepF.ofValue (Z : Nat → Prop) (w : World) (v : Value) : RepF Z w (FV.ofValue v) v := by
  unfold FV.ofValue
  split
  · exact .int _ _
  · exact .bool _
  · exact .str _
  · exact .nil _
  · split
    · rename_i g fs cs _ _ h1 h2
      have e1 : fs = #[] := Array.toList_inj.1 h1
      have e2 : cs = #[] := Array.toList_inj.1 h2
      subst e1 e2
      exact .fn _
    · exact .lit _
  · exact .lit _
theorem RepA.ofValue (G : Ghost) (Z : Nat → Prop) (w : World) (v : Value) : RepA G Z w (AV.ofValue v) v := by
  unfold AV.ofValue
  split
  · rename_i cs
    split
    · rename_i h
      refine .agg _ cs (by simp) (fun j u hu => ?_) fun j a u ha hu => ?_
      · exact List.all_eq_true.1 h u (Array.mem_toList_iff.2 (Array.mem_of_getElem? hu))
      · rw [List.getElem?_map] at ha
        obtain ⟨c, hc, rfl⟩ := Option.map_eq_some_iff.1 ha
        rw [Array.getElem?_toList] at hc
        rw [hu] at hc
        obtain rfl := Option.some.inj hc
        exact .f (RepF.ofValue Z w u)
    · exact .f (.lit _)
  · exact .f (RepF.ofValue Z w _)

/-- Slots: n of them; those behind are any. -/
structure Env where
  n : Nat
  f : Nat → AV
def evA (env : Env) : Operand → AV
  | .tmp t => env.f t
  | .const v => AV.ofValue v
  | .global g => .f (.lit (.pointer (some ⟨g, 0, none⟩)))
  | .func f => .f (.fn (.func f))
structure EnvR (G : Ghost) (Z : Nat → Prop) (w : World) (env : Env) (tmps : Array Value) : Prop where
  len : tmps.size = env.n
  out : ∀ i, env.n ≤ i → env.f i = .any
  at_ : ∀ (i : Nat) (v : Value), tmps[i]? = some v → RepA G Z w (env.f i) v
theorem EnvR.eval {G : Ghost} {Z : Nat → Prop} {w : World} {env : Env} {a : Act} (h : EnvR G Z w env a.tmps) (x : Operand) : RepA G Z w (evA env x) (a.eval x) := by
  cases x with
  | tmp t =>
    show RepA G Z w (env.f t) (a.tmps.getD t undef)
    rcases Nat.lt_or_ge t env.n with hlt | hge
    · have hlt' : t < a.tmps.size := by rw [h.len]; exact hlt
      have h2 : a.tmps[t]? = some (a.tmps[t]'hlt') := Array.getElem?_eq_getElem hlt'
      rw [Array.getD_eq_getD_getElem?, h2]
      exact h.at_ t _ h2
    · rw [h.out t hge]
      exact .any _
  | const v => exact RepA.ofValue G Z w v
  | global g => exact .f (.lit _)
  | func f => exact .f (.fn _)
def putE (env : Env) (dst : Option Nat) (v : AV) : Env := match dst with
  | some d => if d < env.n then ⟨env.n, upd env.f d v⟩ else env
  | none => env
theorem EnvR.put {G : Ghost} {Z : Nat → Prop} {w : World} {env : Env} {a : Act} (h : EnvR G Z w env a.tmps) (dst : Option Nat) {x : AV} {v : Value} (hv : RepA G Z w x v) : EnvR G Z w (putE env dst x) (a.put dst v).tmps := by
  cases dst with
  | none => exact h
  | some d =>
    simp only [putE, Act.put]
    split
    · rename_i hd
      refine ⟨by simp [h.len], fun i hi => ?_, fun i u hu => ?_⟩
      · simp only at hi ⊢
        rw [upd_ne _ _ _ _ (by omega)]; exact h.out i hi
      · simp only
        rw [Array.getElem?_setIfInBounds] at hu
        by_cases e : d = i
        · subst e
          simp only [if_true] at hu
          split at hu
          · obtain rfl := Option.some.inj hu
            rw [upd_same]; exact hv
          · cases hu
        · simp only [e, if_false] at hu
          rw [upd_ne _ _ _ _ (Ne.symm e)]; exact h.at_ i u hu
    · rename_i hd
      have : a.tmps.setIfInBounds d v = a.tmps := Array.setIfInBounds_eq_of_size_le (by rw [h.len]; omega)
      rw [this]; exact h
theorem EnvR.keep {G G' : Ghost} {Z Z' : Nat → Prop} {w w' : World} {env : Env} {t : Array Value} (h : EnvR G Z w env t) (hk : Keep G Z w G' Z' w') : EnvR G' Z' w' env t :=
  ⟨h.len, h.out, fun i v h2 => (h.at_ i v h2).keep hk⟩

/-! ### Lowered operations -/
inductive LOp where
  | move (x : Operand)
  | nilChk (x : Operand)
  | pick (c a b : Operand)
  | alloc (e : TypeId) (zero : List FV)
  | box (e : TypeId) (x : Operand)
  | build (zero : List FV) (parts : List (Nat × Nat × Operand))
  | buildSlice (e : TypeId) (sz len : Nat) (zero : List FV) (parts : List (Nat × Operand))
  | load (n : Option Nat) (x : Operand)
  | store (n : Nat) (a v : Operand)
  | bin (op : BinOp) (tb : Bool) (x y : Operand)
  | un (op : UnOp) (x : Operand)
  | isNil (ptr neg : Bool) (x : Operand)
  | eqS (ks : List Nat) (neg : Bool) (x y : Operand)
  | convInt (k : IntKind) (x : Operand)
  | convStr (x : Operand)
  | bytesStr (x : Operand)
  | strBytes (x : Operand)
  | mark (x : Operand)
  | clo (f : Fn) (caps : List Operand)
  | makeSlice (e sz bytes : Nat) (zero : List FV) (len cap : Operand)
  | slice (sz : Nat) (x : Operand) (lo hi : Option Operand)
  | slice0 (x lo hi mx : Operand)
  | sliceS (x : Operand) (lo hi : Option Operand)
  | fieldAddr (off : Nat) (x : Operand)
  | field (off : Nat) (n : Option Nat) (x : Operand)
  | indexAddr (sz : Nat) (x ix : Operand)
  | indexS (x ix : Operand)
  | extract (x : Operand) (i : Nat)
  | len (str : Bool) (x : Operand)
  | maxI (x y : Operand)
  | minI (x y : Operand)
  | append (str : Bool) (e sz bytes : Nat) (s x : Operand)
  | copy (sz : Nat) (d s : Operand)
  | clear (sz : Nat) (z : List FV) (x : Operand)
  | cap (x : Operand)
  | mkMap
  | mapUpd (m k v : Operand)
  | lookup (z : Value) (ok : Bool) (m k : Operand)
  | call (f : Operand) (args : List Operand)

/-- What an operation does to a heap: id is the number of what it makes. -/
inductive Eff where
  | no
  | pure (v : AV)
  | rd (id : Nat) (k : Nat × Option AObj → Option AV)
  | md (id : Nat) (k : Nat × Option AObj → Option (AV × (Nat × Option AObj)))
  | rm (src id : Nat) (k : Nat × Option AObj → Nat × Option AObj → Option (AV × (Nat × Option AObj)))
def Eff.exec (H : Heap) : Eff → Option (AV × Heap)
  | .no => none
  | .pure v => some (v, H)
  | .rd id k => match k (H id) with
    | some v => some (v, H)
    | none => none
  | .md id k => match k (H id) with
    | some (v, x) => some (v, upd H id x)
    | none => none
  | .rm src id k => match k (H src) (H id) with
    | some (v, x) => some (v, upd H id x)
    | none => none

def strLt (x y : ByteArray) : Bool := Op.bytesLess x.toList y.toList
def binF (op : BinOp) (tb : Bool) : FV → FV → Option FV
  | .int k a, .int k' b => match op with
    | .shl => if 0 ≤ b then some (.int k (k.wrap (a * 2 ^ (min b.toNat k.bits)))) else none
    | .shr => if 0 ≤ b then some (.int k (a.fdiv (2 ^ (min b.toNat k.bits)))) else none
    | .add => if k = k' then some (.int k (k.wrap (a + b))) else none
    | .sub => if k = k' then some (.int k (k.wrap (a - b))) else none
    | .mul => if k = k' then some (.int k (k.wrap (a * b))) else none
    | .quo => if k = k' ∧ b ≠ 0 then some (.int k (k.wrap (a.tdiv b))) else none
    | .rem => if k = k' ∧ b ≠ 0 then some (.int k (a.tmod b)) else none
    | .and => if k = k' then some (.int k (k.wrap (BitVec.ofInt k.bits a &&& BitVec.ofInt k.bits b).toNat)) else none
    | .or => if k = k' then some (.int k (k.wrap (BitVec.ofInt k.bits a ||| BitVec.ofInt k.bits b).toNat)) else none
    | .xor => if k = k' then some (.int k (k.wrap (BitVec.ofInt k.bits a ^^^ BitVec.ofInt k.bits b).toNat)) else none
    | .andNot => none
    | .eql => if k = k' then some (.bool (decide (a = b))) else none
    | .neq => if k = k' then some (.bool (!decide (a = b))) else none
    | .lss => if k = k' then some (.bool (decide (a < b))) else none
    | .leq => if k = k' then some (.bool (decide (a ≤ b))) else none
    | .gtr => if k = k' then some (.bool (decide (b < a))) else none
    | .geq => if k = k' then some (.bool (decide (b ≤ a))) else none
  | .str a, .str b => match op with
    | .add => if ((a.size + b.size : Nat) : Int) ≤ 9223372036854775807 then some (.str (a ++ b)) else none
    | .eql => some (.bool (decide (a = b)))
    | .neq => some (.bool (!decide (a = b)))
    | .lss => some (.bool (strLt a b))
    | .leq => some (.bool (strLt a b || decide (a = b)))
    | .gtr => some (.bool (!(strLt a b || decide (a = b))))
    | .geq => some (.bool (!strLt a b))
    | _ => none
  | .bool a, .bool b => match op with
    | .eql => if tb then some (.bool (a == b)) else none
    | .neq => if tb then some (.bool (!(a == b))) else none
    | _ => none
  | _, _ => none
/-- Values of a kind (0 int, 1 bool, 2 string), equal or not. -/
def eqV : Nat → FV → FV → Option Bool
  | 0, .int k a, .int k' b => if k = k' then some (decide (a = b)) else none
  | 1, .bool a, .bool b => some (a == b)
  | 2, .str a, .str b => some (decide (a = b))
  | _, _, _ => none
def eqL : List Nat → List AV → List AV → Option Bool
  | [], [], [] => some true
  | k :: ks, .f x :: xs, .f y :: ys => match eqV k x y, eqL ks xs ys with
    | some a, some b => some (a && b)
    | _, _ => none
  | _, _, _ => none
def unF (op : UnOp) : FV → Option FV
  | .int k a => match op with
    | .neg => some (.int k (k.wrap (0 - a)))
    | _ => none
  | .bool a => match op with
    | .not => some (.bool (!a))
    | _ => none
  | .bit => match op with
    | .not => some .bit
    | _ => none
  | _ => none
def pickA (c : Bool) : AV → AV → AV
  | .f (.bool x), .f (.bool y) => .f (.bool (if c then x else y))
  | a, b => if c then a else b
def FV.isOne : FV → Bool
  | .lit v => v.oneCell'
  | _ => true
def AV.isOne : AV → Bool
  | .f x => x.isOne
  | .sl .. | .ptr .. | .map .. | .clo .. => true
  | _ => false
/-- A value's cells, so many. -/
def AV.cellsN (n : Nat) : AV → Option (List AV)
  | .agg cs => if cs.length = n then some cs else none
  | a => if n = 1 ∧ a.isOne then some [a] else none
def splice (cs : List AV) (o : Nat) : List AV → List AV
  | [] => cs
  | x :: r => splice (cs.set o x) (o + 1) r
def fillA (cs : List AV) : List (Nat × Nat × AV) → Option (List AV)
  | [] => some cs
  | (off, size, a) :: r => match a.cellsN size with
    | some xs => if off + size ≤ cs.length then fillA (splice cs off xs) r else none
    | none => none
def FV.toI : FV → Option Int
  | .int _ n => some n
  | _ => none
def AV.toI : AV → Option Int
  | .f x => x.toI
  | _ => none
/-- Bounds of a slice expression. -/
def bounds (n : Nat) (ρ : Operand → AV) (lo hi : Option Operand) : Option (Nat × Nat) :=
  match (match hi with | some h => (ρ h).toI | none => some (n : Int)), (match lo with | some l => (ρ l).toI | none => some 0) with
  | some h, some l => if 0 ≤ l ∧ l ≤ h ∧ h ≤ n then some (l.toNat, h.toNat) else none
  | _, _ => none
def cellsOf (ver : Nat) : Nat × Option AObj → Option (List AV)
  | (v, some (.cells cs)) => if v = ver then some cs else none
  | _ => none
def aliveOf (ver : Nat) : Nat × Option AObj → Bool
  | (v, some _) => v == ver
  | _ => false
def zeros (n : Nat) (z : List FV) : List AV := ((List.replicate n z).flatten).map .f
def newObj_ (id : Nat) (v : Nat → AV) (cs : List AV) : Eff := .md id fun o => match o with
  | (ver, none) => some (v (ver + 1), (ver + 1, some (.cells cs)))
  | _ => none
def bytesL (s : ByteArray) : List AV := s.data.toList.map fun b => .f (.int .u8 b.toNat)
/-- What is appended. -/
def srcF (str : Bool) (sz : Nat) : AV → Option (Nat × List AV)
  | .f .nil => if str = false then some (0, []) else none
  | .f (.fr sz' l) => if str = false ∧ sz' = sz then some (l.length, l.flatten.map .f) else none
  | .f (.str s) => if str = true ∧ sz = 1 then some (s.size, bytesL s) else none
  | _ => none
def growA (sz bytes ver off n : Nat) (m : Nat) (news : List AV) (id : Nat) (o : Nat × Option AObj) : Option (AV × (Nat × Option AObj)) :=
  match cellsOf ver o with
  | some cs => if cs.length = (off + n) * sz ∧ (n + m) * bytes ≤ 140737488355328 then some (.sl id (ver + 1) sz 0 (n + m), (ver + 1, some (.cells (cs.drop (off * sz) ++ news)))) else none
  | none => none
def bornA (sz bytes m : Nat) (news : List AV) (id : Nat) : Nat × Option AObj → Option (AV × (Nat × Option AObj))
  | (ver, none) => if m * bytes ≤ 140737488355328 then some (.sl id (ver + 1) sz 0 m, (ver + 1, some (.cells news))) else none
  | _ => none
def mGet (s : ByteArray) : List (ByteArray × Value) → Option Value
  | [] => none
  | (k, v) :: r => if k = s then some v else mGet s r
def mSet (s : ByteArray) (x : Value) : List (ByteArray × Value) → List (ByteArray × Value)
  | [] => [(s, x)]
  | (k, v) :: r => if k = s then (k, x) :: r else (k, v) :: mSet s x r
def mapOfH (ver : Nat) : Nat × Option AObj → Option (List (ByteArray × Value))
  | (v, some (.map m)) => if v = ver then some m else none
  | _ => none
def lookV (z : Value) (ok : Bool) (r : Option Value) : AV := match ok, r with
  | true, some v => .tup [.f (FV.ofValue v), .f (.bool true)]
  | true, none => .tup [.f (FV.ofValue z), .f (.bool false)]
  | false, some v => .f (FV.ofValue v)
  | false, none => .f (FV.ofValue z)
def AV.plainVal : AV → Option Value
  | .f (.int k n) => some (.int k n)
  | .f (.bool b) => some (.bool b)
  | .f (.str s) => some (.string s)
  | _ => none
def copyN (sz ver off n m : Nat) (news : List AV) (o : Nat × Option AObj) : Option (AV × (Nat × Option AObj)) := match cellsOf ver o with
  | some cs => if (off + min m n) * sz ≤ cs.length then some (.f (.int .i64 (min m n : Nat)), (ver, some (.cells (splice cs (off * sz) (news.take (min m n * sz)))))) else none
  | none => none
def copyS (sz ver off n ver2 off2 m : Nat) (o : Nat × Option AObj) : Option (AV × (Nat × Option AObj)) := match cellsOf ver o with
  | some cs => if ver2 = ver ∧ (off + min m n) * sz ≤ cs.length ∧ (off2 + min m n) * sz ≤ cs.length then some (.f (.int .i64 (min m n : Nat)), (ver, some (.cells (splice cs (off * sz) ((cs.drop (off2 * sz)).take (min m n * sz)))))) else none
  | none => none
def copyR (sz ver off n ver2 off2 m : Nat) (o2 o : Nat × Option AObj) : Option (AV × (Nat × Option AObj)) := match cellsOf ver2 o2, cellsOf ver o with
  | some cs2, some cs => if (off + min m n) * sz ≤ cs.length ∧ (off2 + min m n) * sz ≤ cs2.length then some (.f (.int .i64 (min m n : Nat)), (ver, some (.cells (splice cs (off * sz) ((cs2.drop (off2 * sz)).take (min m n * sz)))))) else none
  | _, _ => none
def byteV : FV → Option UInt8
  | .int .u8 n => some (UInt8.ofNat n.toNat)
  | _ => none
/-- Bytes in cells. -/
def bytesV : List FV → Option (List UInt8)
  | [] => some []
  | x :: l => match byteV x, bytesV l with
    | some b, some r => some (b :: r)
    | _, _ => none
def bytesA : List AV → Option (List UInt8)
  | [] => some []
  | .f x :: l => match byteV x, bytesA l with
    | some b, some r => some (b :: r)
    | _, _ => none
  | _ :: _ => none
def encU (b : UInt8) : List FV := [.int .u8 b.toNat]
def bytesFr (l : List (List FV)) : Option (List UInt8) := bytesV l.flatten
/-- Plain cells, each by itself. -/
def onesA : List AV → Option (List (List FV))
  | [] => some []
  | .f x :: l => match onesA l with
    | some r => some ([x] :: r)
    | none => none
  | _ :: _ => none
def eff (lo : LOp) (ρ : Operand → AV) (t : Nat) : Eff :=
  match lo with
  | .move x => .pure (ρ x)
  | .nilChk x => match ρ x with
    | .f (.fp cs) => .pure (.f (.fp cs))
    | .f (.fn f) => .pure (.f (.fn f))
    | .clo f cs => .pure (.clo f cs)
    | .ptr id ver off => .rd id fun o => if aliveOf ver o then some (.ptr id ver off) else none
    | _ => .no
  | .pick c a b => match ρ c with
    | .f (.bool x) => .pure (pickA x (ρ a) (ρ b))
    | _ => .no
  | .alloc e z => newObj_ t (fun v => .ptr t v 0) (z.map .f)
  | .box e x => match ρ x with
    | .agg cs => newObj_ t (fun v => .ptr t v 0) cs
    | a => if a.isOne then newObj_ t (fun v => .ptr t v 0) [a] else .no
  | .build z parts => match fillA (z.map .f) (parts.map fun (o, s, x) => (o, s, ρ x)) with
    | some cs => .pure (.agg cs)
    | none => .no
  | .buildSlice e sz len z parts => match fillA (zeros len z) (parts.map fun (i, x) => (i * sz, sz, ρ x)) with
    | some cs => newObj_ t (fun v => .sl t v sz 0 len) cs
    | none => .no
  | .load n x => match ρ x with
    | .f (.fp cs) => match n with
      | none => match cs[0]? with
        | some c => .pure (.f c)
        | none => .no
      | some n => if n ≤ cs.length then .pure (.agg ((cs.take n).map .f)) else .no
    | .ptr id ver off => .rd id fun o => match cellsOf ver o with
      | some cs => match n with
        | none => cs[off]?
        | some n => if off + n ≤ cs.length then some (.agg ((cs.drop off).take n)) else none
      | none => none
    | _ => .no
  | .store n a v => match ρ a, (ρ v).cellsN n with
    | .ptr id ver off, some xs => .md id fun o => match cellsOf ver o with
      | some cs => if off + n ≤ cs.length then some (.any, (ver, some (.cells (splice cs off xs)))) else none
      | none => none
    | _, _ => .no
  | .bin op tb x y => match ρ x, ρ y with
    | .f a, .f b => match binF op tb a b with
      | some c => .pure (.f c)
      | none => .no
    | _, _ => .no
  | .un op x => match ρ x with
    | .f a => match unF op a with
      | some c => .pure (.f c)
      | none => .no
    | _ => .no
  | .eqS ks neg x y => match ρ x, ρ y with
    | .agg xs, .agg ys => match eqL ks xs ys with
      | some b => .pure (.f (.bool (b != neg)))
      | none => .no
    | _, _ => .no
  | .isNil false neg x => match ρ x with
    | .f .nil => .pure (.f .bit)
    | .f (.fr _ l) => .pure (.f (if l.length = 0 then .bit else .bool neg))
    | .sl id ver _ _ n => .rd id fun o => if aliveOf ver o then some (.f (if n = 0 then .bit else .bool neg)) else none
    | _ => .no
  | .isNil true neg x => match ρ x with
    | .f (.fp _) => .pure (.f (.bool neg))
    | .ptr id ver _ => .rd id fun o => if aliveOf ver o then some (.f (.bool neg)) else none
    | _ => .no
  | .convInt k x => match ρ x with
    | .f (.int _ n) => .pure (.f (.int k (k.wrap n)))
    | _ => .no
  | .convStr x => match ρ x with
    | .f (.str s) => .pure (.f (.str s))
    | _ => .no
  | .bytesStr x => match ρ x with
    | .f .nil => .pure (.f (.str ⟨#[]⟩))
    | .f (.fr sz l) => if sz = 1 then match bytesFr l with
      | some s => .pure (.f (.str ⟨s.toArray⟩))
      | none => .no else .no
    | .sl id ver sz off n => if sz = 1 then .rd id fun o => match cellsOf ver o with
      | some cs => if off + n ≤ cs.length then match bytesA ((cs.drop off).take n) with
        | some s => some (.f (.str ⟨s.toArray⟩))
        | none => none else none
      | none => none else .no
    | _ => .no
  | .strBytes x => match ρ x with
    | .f (.str s) => if s.size ≤ 140737488355328 then .pure (.f (.fr 1 (s.data.toList.map encU))) else .no
    | _ => .no
  | .mark x => match ρ x with
    | .sl id ver sz off n => if sz = 1 ∧ n ≠ 0 then .md id fun o => match cellsOf ver o with
      | some cs => if off + n ≤ cs.length then match onesA ((cs.drop off).take n) with
        | some l => some (.f (.fr 1 l), (ver, none))
        | none => none else none
      | none => none else .no
    | _ => .no
  | .clo f caps => match caps with
    | [] => .pure (.f (.fn f))
    | _ => .pure (.clo f (caps.map ρ))
  | .makeSlice e sz bytes z l c => match (ρ l).toI, (ρ c).toI with
    | some n, some m => if 0 ≤ n ∧ n ≤ m ∧ m * bytes ≤ 140737488355328 ∧ m ≤ 9223372036854775807 then newObj_ t (fun v => .sl t v sz 0 n.toNat) (zeros n.toNat z) else .no
    | _, _ => .no
  | .slice sz x lo hi => match ρ x with
    | .f .nil => match bounds 0 ρ lo hi with
      | some _ => .pure (.f .nil)
      | none => .no
    | .f (.fr sz' l) => if sz' = sz then match bounds l.length ρ lo hi with
      | some (a, b) => .pure (.f (.fr sz ((l.take b).drop a)))
      | none => .no else .no
    | .sl id ver sz' off n => if sz' = sz then match bounds n ρ lo hi with
      | some (a, b) => .rd id fun o => if aliveOf ver o then some (.sl id ver sz (off + a) (b - a)) else none
      | none => .no else .no
    | _ => .no
  | .slice0 x lo hi mx => match (ρ lo).toI, (ρ hi).toI, (ρ mx).toI with
    | some 0, some 0, some 0 => match ρ x with
      | .f .nil => .pure (.f .nil)
      | .f (.fr _ _) => .pure (.f .nil)
      | .sl id ver _ _ _ => .rd id fun o => if aliveOf ver o then some (.f .nil) else none
      | _ => .no
    | _, _, _ => .no
  | .sliceS x lo hi => match ρ x with
    | .f (.str s) => match bounds s.size ρ lo hi with
      | some (a, b) => .pure (.f (.str (s.extract a b)))
      | none => .no
    | _ => .no
  | .fieldAddr off x => match ρ x with
    | .f (.fp cs) => if off ≤ cs.length then .pure (.f (.fp (cs.drop off))) else .no
    | .ptr id ver o => .rd id fun ob => if aliveOf ver ob then some (.ptr id ver (o + off)) else none
    | _ => .no
  | .field off n x => match ρ x with
    | .agg cs => match n with
      | none => match cs[off]? with
        | some a => .pure a
        | none => .no
      | some n => if off + n ≤ cs.length then .pure (.agg ((cs.drop off).take n)) else .no
    | _ => .no
  | .indexAddr sz x ix => match ρ x, (ρ ix).toI with
    | .f (.fr sz' l), some i => if sz' = sz ∧ 0 ≤ i then match l[i.toNat]? with
      | some cs => .pure (.f (.fp cs))
      | none => .no else .no
    | .sl id ver sz' off n, some i => if sz' = sz ∧ 0 ≤ i ∧ i < n then .rd id fun ob => if aliveOf ver ob then some (.ptr id ver ((off + i.toNat) * sz)) else none else .no
    | _, _ => .no
  | .indexS x ix => match ρ x, (ρ ix).toI with
    | .f (.str s), some i => if 0 ≤ i then match s.data.toList[i.toNat]? with
      | some b => .pure (.f (.int .u8 b.toNat))
      | none => .no else .no
    | _, _ => .no
  | .extract x i => match ρ x with
    | .tup vs => match vs[i]? with
      | some a => .pure a
      | none => .no
    | _ => .no
  | .len str x => match ρ x with
    | .f (.str s) => if str = true then .pure (.f (.int .i64 s.size)) else .no
    | .f .nil => if str = false then .pure (.f (.int .i64 0)) else .no
    | .f (.fr _ l) => if str = false then .pure (.f (.int .i64 l.length)) else .no
    | .sl id ver _ _ n => if str = false then .rd id fun o => if aliveOf ver o then some (.f (.int .i64 n)) else none else .no
    | _ => .no
  | .maxI x y => match ρ x, ρ y with
    | .f (.int k a), .f (.int k' b) => if k = k' then .pure (.f (.int k (max a b))) else .no
    | _, _ => .no
  | .minI x y => match ρ x, ρ y with
    | .f (.int k a), .f (.int k' b) => if k = k' then .pure (.f (.int k (min a b))) else .no
    | _, _ => .no
  | .append str e sz bytes s x => match ρ s, ρ x with
    | .f .nil, .sl id ver sz' off n => if str = false ∧ sz' = sz ∧ id ≠ t then .rm id t fun o o2 => match cellsOf ver o with
      | some cs => if (off + n) * sz ≤ cs.length then bornA sz bytes n ((cs.drop (off * sz)).take (n * sz)) t o2 else none
      | none => none else .no
    | .sl id ver sz1 off n, .sl id2 ver2 sz2 off2 n2 => if str = false ∧ sz1 = sz ∧ sz2 = sz ∧ id2 ≠ id then .rm id2 id fun o2 o => match cellsOf ver2 o2 with
      | some cs => if (off2 + n2) * sz ≤ cs.length then growA sz bytes ver off n n2 ((cs.drop (off2 * sz)).take (n2 * sz)) id o else none
      | none => none else .no
    | .f .nil, b => match srcF str sz b with
      | some (m, news) => .md t (bornA sz bytes m news t)
      | none => .no
    | .sl id ver sz' off n, b => if sz' = sz then match srcF str sz b with
      | some (m, news) => .md id (growA sz bytes ver off n m news id)
      | none => .no else .no
    | _, _ => .no
  | .copy sz d s => match ρ d, ρ s with
    | .sl id ver sz1 off n, .sl id2 ver2 sz2 off2 n2 => if sz1 = sz ∧ sz2 = sz then (if id2 = id then .md id (copyS sz ver off n ver2 off2 n2) else .rm id2 id (copyR sz ver off n ver2 off2 n2)) else .no
    | .sl id ver sz1 off n, .f (.fr sz2 l) => if sz1 = sz ∧ sz2 = sz then .md id (copyN sz ver off n l.length (l.flatten.map .f)) else .no
    | .sl id ver sz1 off n, .f .nil => if sz1 = sz then .md id (copyN sz ver off n 0 []) else .no
    | _, _ => .no
  | .clear sz z x => match ρ x with
    | .sl id ver sz1 off n => if sz1 = sz then .md id fun o => match cellsOf ver o with
      | some cs => if (off + n) * sz ≤ cs.length then some (.tup [], (ver, some (.cells (splice cs (off * sz) (zeros n z))))) else none
      | none => none else .no
    | _ => .no
  | .cap _ => .no
  | .mkMap => .md t fun o => match o with
    | (ver, none) => some (.map t (ver + 1), (ver + 1, some (.map [])))
    | _ => none
  | .mapUpd m k x => match ρ m, ρ k, (ρ x).plainVal with
    | .map id ver, .f (.str s), some x => .md id fun o => match mapOfH ver o with
      | some es => some (.any, (ver, some (.map (mSet s x es))))
      | none => none
    | _, _, _ => .no
  | .lookup z ok m k => match ρ m, ρ k with
    | .map id ver, .f (.str s) => .rd id fun o => match mapOfH ver o with
      | some es => some (lookV z ok (mGet s es))
      | none => none
    | .f (.fm es), .f (.str s) => .pure (lookV z ok (mGet s es))
    | _, _ => .no
  | .call _ _ => .no
end Go.Proofs.YteeemcghdhdodaaDoor
