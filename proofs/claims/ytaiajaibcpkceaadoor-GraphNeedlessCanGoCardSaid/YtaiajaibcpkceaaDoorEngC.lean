/-
  The abstract machine: lowered operations, what they do to abstract states. No statement of the seat is proved here; no conditions.
-/
import Derived.Test.YtaiajaibcpkceaaDoorEngA
import Derived.Great.BuildSlice
namespace Go.Proofs.YtaiajaibcpkceaaDoor
open Go.RowKit
set_option linter.unusedVariables false
set_option linter.unusedSimpArgs false

def FV.ofValue : Value → FV
  | .int k n => .int k n
  | .bool b => .bool b
  | .string s => .str s
  | .slice none 0 0 => .nil
  | .func g fs cs => match fs.toList, cs.toList with
    | [], [] => .fn g
    | _, _ => .lit (.func g fs cs)
  | v => .lit v
def AV.ofValue : Value → AV
  | .agg cs => if cs.toList.all (·.oneCell') then .agg (cs.toList.map fun c => .f (FV.ofValue c)) else .f (.lit (.agg cs))
  | v => .f (FV.ofValue v)
theorem RepF.ofValue (Z : Nat → Prop) (w : World) (v : Value) : RepF Z w (FV.ofValue v) v := by
  unfold FV.ofValue
  split
  · exact .int _ _
  · exact .bool _
  · exact .str _
  · exact .nil _
  · split
    · rename_i g fs cs _ _ h1 h2
      have e1 : fs = #[] := Array.toList_inj.1 h1
      have e2 : cs = #[] := Array.toList_inj.1 h2
      subst e1 e2
      exact .fn _
    · exact .lit _
  · exact .lit _
theorem RepA.ofValue (G : Ghost) (Z : Nat → Prop) (w : World) (v : Value) : RepA G Z w (AV.ofValue v) v := by
  unfold AV.ofValue
  split
  · rename_i cs
    split
    · rename_i h
      refine .agg _ cs (by simp) (fun j u hu => ?_) fun j a u ha hu => ?_
      · exact List.all_eq_true.1 h u (Array.mem_toList_iff.2 (Array.mem_of_getElem? hu))
      · rw [List.getElem?_map] at ha
        obtain ⟨c, hc, rfl⟩ := Option.map_eq_some_iff.1 ha
        rw [Array.getElem?_toList] at hc
        rw [hu] at hc
        obtain rfl := Option.some.inj hc
        exact .f (RepF.ofValue Z w u)
    · exact .f (.lit _)
  · exact .f (RepF.ofValue Z w _)

/-- Slots: n of them; those behind are any. -/
structure Env where
  n : Nat
  f : Nat → AV
def evA (env : Env) : Operand → AV
  | .tmp t => env.f t
  | .const v => AV.ofValue v
  | .global g => .f (.lit (.pointer (some ⟨g, 0, none⟩)))
  | .func f => .f (.fn (.func f))
structure EnvR (G : Ghost) (Z : Nat → Prop) (w : World) (env : Env) (tmps : Array Value) : Prop where
  len : tmps.size = env.n
  out : ∀ i, env.n ≤ i → env.f i = .any
  at_ : ∀ (i : Nat) (v : Value), tmps[i]? = some v → RepA G Z w (env.f i) v
theorem EnvR.eval {G : Ghost} {Z : Nat → Prop} {w : World} {env : Env} {a : Act} (h : EnvR G Z w env a.tmps) (x : Operand) : RepA G Z w (evA env x) (a.eval x) := by
  cases x with
  | tmp t =>
    show RepA G Z w (env.f t) (a.tmps.getD t undef)
    rcases Nat.lt_or_ge t env.n with hlt | hge
    · have hlt' : t < a.tmps.size := by rw [h.len]; exact hlt
      have h2 : a.tmps[t]? = some (a.tmps[t]'hlt') := Array.getElem?_eq_getElem hlt'
      rw [Array.getD_eq_getD_getElem?, h2]
      exact h.at_ t _ h2
    · rw [h.out t hge]
      exact .any _
  | const v => exact RepA.ofValue G Z w v
  | global g => exact .f (.lit _)
  | func f => exact .f (.fn _)
def putE (env : Env) (dst : Option Nat) (v : AV) : Env := match dst with
  | some d => if d < env.n then ⟨env.n, upd env.f d v⟩ else env
  | none => env
theorem EnvR.put {G : Ghost} {Z : Nat → Prop} {w : World} {env : Env} {a : Act} (h : EnvR G Z w env a.tmps) (dst : Option Nat) {x : AV} {v : Value} (hv : RepA G Z w x v) : EnvR G Z w (putE env dst x) (a.put dst v).tmps := by
  cases dst with
  | none => exact h
  | some d =>
    simp only [putE, Act.put]
    split
    · rename_i hd
      refine ⟨by simp [h.len], fun i hi => ?_, fun i u hu => ?_⟩
      · simp only at hi ⊢
        rw [upd_ne _ _ _ _ (by omega)]; exact h.out i hi
      · simp only
        rw [Array.getElem?_setIfInBounds] at hu
        by_cases e : d = i
        · subst e
          simp only [if_true] at hu
          split at hu
          · obtain rfl := Option.some.inj hu
            rw [upd_same]; exact hv
          · cases hu
        · simp only [e, if_false] at hu
          rw [upd_ne _ _ _ _ (Ne.symm e)]; exact h.at_ i u hu
    · rename_i hd
      have : a.tmps.setIfInBounds d v = a.tmps := Array.setIfInBounds_eq_of_size_le (by rw [h.len]; omega)
      rw [this]; exact h
theorem EnvR.keep {G G' : Ghost} {Z Z' : Nat → Prop} {w w' : World} {env : Env} {t : Array Value} (h : EnvR G Z w env t) (hk : Keep G Z w G' Z' w') : EnvR G' Z' w' env t :=
  ⟨h.len, h.out, fun i v h2 => (h.at_ i v h2).keep hk⟩

/-! ### Lowered operations -/
inductive LOp where
  | move (x : Operand)
  | nilChk (x : Operand)
  | pick (c a b : Operand)
  | alloc (e : TypeId) (zero : List FV)
  | box (e : TypeId) (x : Operand)
  | build (zero : List FV) (parts : List (Nat × Nat × Operand))
  | buildSlice (e : TypeId) (sz len : Nat) (zero : List FV) (parts : List (Nat × Operand))
  | load (n : Option Nat) (x : Operand)
  | store (n : Nat) (a v : Operand)
  | bin (op : BinOp) (tb : Bool) (x y : Operand)
  | un (op : UnOp) (x : Operand)
  | isNil (ptr neg : Bool) (x : Operand)
  | eqS (ks : List Nat) (neg : Bool) (x y : Operand)
  | convInt (k : IntKind) (x : Operand)
  | convStr (x : Operand)
  | bytesStr (x : Operand)
  | strBytes (x : Operand)
  | mark (x : Operand)
  | clo (f : Fn) (caps : List Operand)
  | makeSlice (e sz bytes : Nat) (zero : List FV) (len cap : Operand)
  | slice (sz : Nat) (x : Operand) (lo hi : Option Operand)
  | slice0 (x lo hi mx : Operand)
  | sliceS (x : Operand) (lo hi : Option Operand)
  | fieldAddr (off : Nat) (x : Operand)
  | field (off : Nat) (n : Option Nat) (x : Operand)
  | indexAddr (sz : Nat) (x ix : Operand)
  | indexS (x ix : Operand)
  | extract (x : Operand) (i : Nat)
  | len (str : Bool) (x : Operand)
  | maxI (x y : Operand)
  | minI (x y : Operand)
  | append (str : Bool) (e sz bytes : Nat) (s x : Operand)
  | copy (sz : Nat) (d s : Operand)
  | clear (sz : Nat) (z : List FV) (x : Operand)
  | cap (x : Operand)
  | mkMap
  | mapUpd (m k v : Operand)
  | lookup (z : Value) (ok : Bool) (m k : Operand)
  | call (f : Operand) (args : List Operand)

/-- What an operation does to a heap: id is the number of what it makes. -/
inductive Eff where
  | no
  | pure (v : AV)
  | rd (id : Nat) (k : Nat × Option AObj → Option AV)
  | md (id : Nat) (k : Nat × Option AObj → Option (AV × (Nat × Option AObj)))
  | rm (src id : Nat) (k : Nat × Option AObj → Nat × Option AObj → Option (AV × (Nat × Option AObj)))
def Eff.exec (H : Heap) : Eff → Option (AV × Heap)
  | .no => none
  | .pure v => some (v, H)
  | .rd id k => match k (H id) with
    | some v => some (v, H)
    | none => none
  | .md id k => match k (H id) with
    | some (v, x) => some (v, upd H id x)
    | none => none
  | .rm src id k => match k (H src) (H id) with
    | some (v, x) => some (v, upd H id x)
    | none => none

def strLt (x y : ByteArray) : Bool := Op.bytesLess x.toList y.toList
def binF (op : BinOp) (tb : Bool) : FV → FV → Option FV
  | .int k a, .int k' b => match op with
    | .shl => if 0 ≤ b then some (.int k (k.wrap (a * 2 ^ (min b.toNat k.bits)))) else none
    | .shr => if 0 ≤ b then some (.int k (a.fdiv (2 ^ (min b.toNat k.bits)))) else none
    | .add => if k = k' then some (.int k (k.wrap (a + b))) else none
    | .sub => if k = k' then some (.int k (k.wrap (a - b))) else none
    | .mul => if k = k' then some (.int k (k.wrap (a * b))) else none
    | .quo => if k = k' ∧ b ≠ 0 then some (.int k (k.wrap (a.tdiv b))) else none
    | .rem => if k = k' ∧ b ≠ 0 then some (.int k (a.tmod b)) else none
    | .and => if k = k' then some (.int k (k.wrap (BitVec.ofInt k.bits a &&& BitVec.ofInt k.bits b).toNat)) else none
    | .or => if k = k' then some (.int k (k.wrap (BitVec.ofInt k.bits a ||| BitVec.ofInt k.bits b).toNat)) else none
    | .xor => if k = k' then some (.int k (k.wrap (BitVec.ofInt k.bits a ^^^ BitVec.ofInt k.bits b).toNat)) else none
    | .andNot => none
    | .eql => if k = k' then some (.bool (decide (a = b))) else none
    | .neq => if k = k' then some (.bool (!decide (a = b))) else none
    | .lss => if k = k' then some (.bool (decide (a < b))) else none
    | .leq => if k = k' then some (.bool (decide (a ≤ b))) else none
    | .gtr => if k = k' then some (.bool (decide (b < a))) else none
    | .geq => if k = k' then some (.bool (decide (b ≤ a))) else none
  | .str a, .str b => match op with
    | .add => if a.size + b.size ≤ 9223372036854775807 then some (.str (a ++ b)) else none
    | .eql => some (.bool (decide (a = b)))
    | .neq => some (.bool (!decide (a = b)))
    | .lss => some (.bool (strLt a b))
    | .leq => some (.bool (strLt a b || decide (a = b)))
    | .gtr => some (.bool (!(strLt a b || decide (a = b))))
    | .geq => some (.bool (!strLt a b))
    | _ => none
  | .bool a, .bool b => match op with
    | .eql => if tb then some (.bool (a == b)) else none
    | .neq => if tb then some (.bool (!(a == b))) else none
    | _ => none
  | _, _ => none
/-- Values of a kind (0 int, 1 bool, 2 string), equal or not. -/
def eqV : Nat → FV → FV → Option Bool
  | 0, .int k a, .int k' b => if k = k' then some (decide (a = b)) else none
  | 1, .bool a, .bool b => some (a == b)
  | 2, .str a, .str b => some (decide (a = b))
  | _, _, _ => none
def eqL : List Nat → List AV → List AV → Option Bool
  | [], [], [] => some true
  | k :: ks, .f x :: xs, .f y :: ys => match eqV k x y, eqL ks xs ys with
    | some a, some b => some (a && b)
    | _, _ => none
  | _, _, _ => none
def unF (op : UnOp) : FV → Option FV
  | .int k a => match op with
    | .neg => some (.int k (k.wrap (0 - a)))
    | _ => none
  | .bool a => match op with
    | .not => some (.bool (!a))
    | _ => none
  | .bit => match op with
    | .not => some .bit
    | _ => none
  | _ => none
def pickA (c : Bool) : AV → AV → AV
  | .f (.bool x), .f (.bool y) => .f (.bool (if c then x else y))
  | a, b => if c then a else b
def FV.isOne : FV → Bool
  | .lit v => v.oneCell'
  | _ => true
def AV.isOne : AV → Bool
  | .f x => x.isOne
  | .sl .. | .ptr .. | .map .. | .clo .. => true
  | _ => false
/-- A value's cells, so many. -/
def AV.cellsN (n : Nat) : AV → Option (List AV)
  | .agg cs => if cs.length = n then some cs else none
  | a => if n = 1 ∧ a.isOne then some [a] else none
def splice (cs : List AV) (o : Nat) : List AV → List AV
  | [] => cs
  | x :: r => splice (cs.set o x) (o + 1) r
def fillA (cs : List AV) : List (Nat × Nat × AV) → Option (List AV)
  | [] => some cs
  | (off, size, a) :: r => match a.cellsN size with
    | some xs => if off + size ≤ cs.length then fillA (splice cs off xs) r else none
    | none => none
def FV.toI : FV → Option Int
  | .int _ n => some n
  | _ => none
def AV.toI : AV → Option Int
  | .f x => x.toI
  | _ => none
/-- Bounds of a slice expression. -/
def bounds (n : Nat) (ρ : Operand → AV) (lo hi : Option Operand) : Option (Nat × Nat) :=
  match (match hi with | some h => (ρ h).toI | none => some (n : Int)), (match lo with | some l => (ρ l).toI | none => some 0) with
  | some h, some l => if 0 ≤ l ∧ l ≤ h ∧ h ≤ n then some (l.toNat, h.toNat) else none
  | _, _ => none
def cellsOf (ver : Nat) : Nat × Option AObj → Option (List AV)
  | (v, some (.cells cs)) => if v = ver then some cs else none
  | _ => none
def aliveOf (ver : Nat) : Nat × Option AObj → Bool
  | (v, some _) => v == ver
  | _ => false
def zeros (n : Nat) (z : List FV) : List AV := ((List.replicate n z).flatten).map .f
def newObj_ (id : Nat) (v : Nat → AV) (cs : List AV) : Eff := .md id fun o => match o with
  | (ver, none) => some (v (ver + 1), (ver + 1, some (.cells cs)))
  | _ => none
def bytesL (s : ByteArray) : List AV := s.data.toList.map fun b => .f (.int .u8 b.toNat)
/-- What is appended. -/
def srcF (str : Bool) (sz : Nat) : AV → Option (Nat × List AV)
  | .f .nil => if str = false then some (0, []) else none
  | .f (.fr sz' l) => if str = false ∧ sz' = sz then some (l.length, l.flatten.map .f) else none
  | .f (.str s) => if str = true ∧ sz = 1 then some (s.size, bytesL s) else none
  | _ => none
def growA (sz bytes ver off n : Nat) (m : Nat) (news : List AV) (id : Nat) (o : Nat × Option AObj) : Option (AV × (Nat × Option AObj)) :=
  match cellsOf ver o with
  | some cs => if cs.length = (off + n) * sz ∧ (n + m) * bytes ≤ 140737488355328 then some (.sl id (ver + 1) sz 0 (n + m), (ver + 1, some (.cells (cs.drop (off * sz) ++ news)))) else none
  | none => none
def bornA (sz bytes m : Nat) (news : List AV) (id : Nat) : Nat × Option AObj → Option (AV × (Nat × Option AObj))
  | (ver, none) => if m * bytes ≤ 140737488355328 then some (.sl id (ver + 1) sz 0 m, (ver + 1, some (.cells news))) else none
  | _ => none
def mGet (s : ByteArray) : List (ByteArray × Value) → Option Value
  | [] => none
  | (k, v) :: r => if k = s then some v else mGet s r
def mSet (s : ByteArray) (x : Value) : List (ByteArray × Value) → List (ByteArray × Value)
  | [] => [(s, x)]
  | (k, v) :: r => if k = s then (k, x) :: r else (k, v) :: mSet s x r
def mapOfH (ver : Nat) : Nat × Option AObj → Option (List (ByteArray × Value))
  | (v, some (.map m)) => if v = ver then some m else none
  | _ => none
def lookV (z : Value) (ok : Bool) (r : Option Value) : AV := match ok, r with
  | true, some v => .tup [.f (FV.ofValue v), .f (.bool true)]
  | true, none => .tup [.f (FV.ofValue z), .f (.bool false)]
  | false, some v => .f (FV.ofValue v)
  | false, none => .f (FV.ofValue z)
def AV.plainVal : AV → Option Value
  | .f (.int k n) => some (.int k n)
  | .f (.bool b) => some (.bool b)
  | .f (.str s) => some (.string s)
  | _ => none
def copyN (sz ver off n m : Nat) (news : List AV) (o : Nat × Option AObj) : Option (AV × (Nat × Option AObj)) := match cellsOf ver o with
  | some cs => if (off + min m n) * sz ≤ cs.length then some (.f (.int .i64 (min m n : Nat)), (ver, some (.cells (splice cs (off * sz) (news.take (min m n * sz)))))) else none
  | none => none
def copyS (sz ver off n ver2 off2 m : Nat) (o : Nat × Option AObj) : Option (AV × (Nat × Option AObj)) := match cellsOf ver o with
  | some cs => if ver2 = ver ∧ (off + min m n) * sz ≤ cs.length ∧ (off2 + min m n) * sz ≤ cs.length then some (.f (.int .i64 (min m n : Nat)), (ver, some (.cells (splice cs (off * sz) ((cs.drop (off2 * sz)).take (min m n * sz)))))) else none
  | none => none
def copyR (sz ver off n ver2 off2 m : Nat) (o2 o : Nat × Option AObj) : Option (AV × (Nat × Option AObj)) := match cellsOf ver2 o2, cellsOf ver o with
  | some cs2, some cs => if (off + min m n) * sz ≤ cs.length ∧ (off2 + min m n) * sz ≤ cs2.length then some (.f (.int .i64 (min m n : Nat)), (ver, some (.cells (splice cs (off * sz) ((cs2.drop (off2 * sz)).take (min m n * sz)))))) else none
  | _, _ => none
def byteV : FV → Option UInt8
  | .int .u8 n => some (UInt8.ofNat n.toNat)
  | _ => none
/-- Bytes in cells. -/
def bytesV : List FV → Option (List UInt8)
  | [] => some []
  | x :: l => match byteV x, bytesV l with
    | some b, some r => some (b :: r)
    | _, _ => none
def bytesA : List AV → Option (List UInt8)
  | [] => some []
  | .f x :: l => match byteV x, bytesA l with
    | some b, some r => some (b :: r)
    | _, _ => none
  | _ :: _ => none
def encU (b : UInt8) : List FV := [.int .u8 b.toNat]
def bytesFr (l : List (List FV)) : Option (List UInt8) := bytesV l.flatten
/-- Plain cells, each by itself. -/
def onesA : List AV → Option (List (List FV))
  | [] => some []
  | .f x :: l => match onesA l with
    | some r => some ([x] :: r)
    | none => none
  | _ :: _ => none
def eff (lo : LOp) (ρ : Operand → AV) (t : Nat) : Eff :=
  match lo with
  | .move x => .pure (ρ x)
  | .nilChk x => match ρ x with
    | .f (.fp cs) => .pure (.f (.fp cs))
    | .f (.fn f) => .pure (.f (.fn f))
    | .clo f cs => .pure (.clo f cs)
    | .ptr id ver off => .rd id fun o => if aliveOf ver o then some (.ptr id ver off) else none
    | _ => .no
  | .pick c a b => match ρ c with
    | .f (.bool x) => .pure (pickA x (ρ a) (ρ b))
    | _ => .no
  | .alloc e z => newObj_ t (fun v => .ptr t v 0) (z.map .f)
  | .box e x => match ρ x with
    | .agg cs => newObj_ t (fun v => .ptr t v 0) cs
    | a => if a.isOne then newObj_ t (fun v => .ptr t v 0) [a] else .no
  | .build z parts => match fillA (z.map .f) (parts.map fun (o, s, x) => (o, s, ρ x)) with
    | some cs => .pure (.agg cs)
    | none => .no
  | .buildSlice e sz len z parts => match fillA (zeros len z) (parts.map fun (i, x) => (i * sz, sz, ρ x)) with
    | some cs => newObj_ t (fun v => .sl t v sz 0 len) cs
    | none => .no
  | .load n x => match ρ x with
    | .f (.fp cs) => match n with
      | none => match cs[0]? with
        | some c => .pure (.f c)
        | none => .no
      | some n => if n ≤ cs.length then .pure (.agg ((cs.take n).map .f)) else .no
    | .ptr id ver off => .rd id fun o => match cellsOf ver o with
      | some cs => match n with
        | none => cs[off]?
        | some n => if off + n ≤ cs.length then some (.agg ((cs.drop off).take n)) else none
      | none => none
    | _ => .no
  | .store n a v => match ρ a, (ρ v).cellsN n with
    | .ptr id ver off, some xs => .md id fun o => match cellsOf ver o with
      | some cs => if off + n ≤ cs.length then some (.any, (ver, some (.cells (splice cs off xs)))) else none
      | none => none
    | _, _ => .no
  | .bin op tb x y => match ρ x, ρ y with
    | .f a, .f b => match binF op tb a b with
      | some c => .pure (.f c)
      | none => .no
    | _, _ => .no
  | .un op x => match ρ x with
    | .f a => match unF op a with
      | some c => .pure (.f c)
      | none => .no
    | _ => .no
  | .eqS ks neg x y => match ρ x, ρ y with
    | .agg xs, .agg ys => match eqL ks xs ys with
      | some b => .pure (.f (.bool (b != neg)))
      | none => .no
    | _, _ => .no
  | .isNil false neg x => match ρ x with
    | .f .nil => .pure (.f .bit)
    | .f (.fr _ l) => .pure (.f (if l.length = 0 then .bit else .bool neg))
    | .sl id ver _ _ n => .rd id fun o => if aliveOf ver o then some (.f (if n = 0 then .bit else .bool neg)) else none
    | _ => .no
  | .isNil true neg x => match ρ x with
    | .f (.fp _) => .pure (.f (.bool neg))
    | .ptr id ver _ => .rd id fun o => if aliveOf ver o then some (.f (.bool neg)) else none
    | _ => .no
  | .convInt k x => match ρ x with
    | .f (.int _ n) => .pure (.f (.int k (k.wrap n)))
    | _ => .no
  | .convStr x => match ρ x with
    | .f (.str s) => .pure (.f (.str s))
    | _ => .no
  | .bytesStr x => match ρ x with
    | .f .nil => .pure (.f (.str ⟨#[]⟩))
    | .f (.fr sz l) => if sz = 1 then match bytesFr l with
      | some s => .pure (.f (.str ⟨s.toArray⟩))
      | none => .no else .no
    | .sl id ver sz off n => if sz = 1 then .rd id fun o => match cellsOf ver o with
      | some cs => if off + n ≤ cs.length then match bytesA ((cs.drop off).take n) with
        | some s => some (.f (.str ⟨s.toArray⟩))
        | none => none else none
      | none => none else .no
    | _ => .no
  | .strBytes x => match ρ x with
    | .f (.str s) => if s.size ≤ 140737488355328 then .pure (.f (.fr 1 (s.data.toList.map encU))) else .no
    | _ => .no
  | .mark x => match ρ x with
    | .sl id ver sz off n => if sz = 1 ∧ n ≠ 0 then .md id fun o => match cellsOf ver o with
      | some cs => if off + n ≤ cs.length then match onesA ((cs.drop off).take n) with
        | some l => some (.f (.fr 1 l), (ver, none))
        | none => none else none
      | none => none else .no
    | _ => .no
  | .clo f caps => match caps with
    | [] => .pure (.f (.fn f))
    | _ => .pure (.clo f (caps.map ρ))
  | .makeSlice e sz bytes z l c => match (ρ l).toI, (ρ c).toI with
    | some n, some m => if 0 ≤ n ∧ n ≤ m ∧ m * bytes ≤ 140737488355328 ∧ m ≤ 9223372036854775807 then newObj_ t (fun v => .sl t v sz 0 n.toNat) (zeros n.toNat z) else .no
    | _, _ => .no
  | .slice sz x lo hi => match ρ x with
    | .f .nil => match bounds 0 ρ lo hi with
      | some _ => .pure (.f .nil)
      | none => .no
    | .f (.fr sz' l) => if sz' = sz then match bounds l.length ρ lo hi with
      | some (a, b) => .pure (.f (.fr sz ((l.take b).drop a)))
      | none => .no else .no
    | .sl id ver sz' off n => if sz' = sz then match bounds n ρ lo hi with
      | some (a, b) => .rd id fun o => if aliveOf ver o then some (.sl id ver sz (off + a) (b - a)) else none
      | none => .no else .no
    | _ => .no
  | .slice0 x lo hi mx => match (ρ lo).toI, (ρ hi).toI, (ρ mx).toI with
    | some 0, some 0, some 0 => match ρ x with
      | .f .nil => .pure (.f .nil)
      | .f (.fr _ _) => .pure (.f .nil)
      | .sl id ver _ _ _ => .rd id fun o => if aliveOf ver o then some (.f .nil) else none
      | _ => .no
    | _, _, _ => .no
  | .sliceS x lo hi => match ρ x with
    | .f (.str s) => match bounds s.size ρ lo hi with
      | some (a, b) => .pure (.f (.str (s.extract a b)))
      | none => .no
    | _ => .no
  | .fieldAddr off x => match ρ x with
    | .f (.fp cs) => if off ≤ cs.length then .pure (.f (.fp (cs.drop off))) else .no
    | .ptr id ver o => .rd id fun ob => if aliveOf ver ob then some (.ptr id ver (o + off)) else none
    | _ => .no
  | .field off n x => match ρ x with
    | .agg cs => match n with
      | none => match cs[off]? with
        | some a => .pure a
        | none => .no
      | some n => if off + n ≤ cs.length then .pure (.agg ((cs.drop off).take n)) else .no
    | _ => .no
  | .indexAddr sz x ix => match ρ x, (ρ ix).toI with
    | .f (.fr sz' l), some i => if sz' = sz ∧ 0 ≤ i then match l[i.toNat]? with
      | some cs => .pure (.f (.fp cs))
      | none => .no else .no
    | .sl id ver sz' off n, some i => if sz' = sz ∧ 0 ≤ i ∧ i < n then .rd id fun ob => if aliveOf ver ob then some (.ptr id ver ((off + i.toNat) * sz)) else none else .no
    | _, _ => .no
  | .indexS x ix => match ρ x, (ρ ix).toI with
    | .f (.str s), some i => if 0 ≤ i then match s.data.toList[i.toNat]? with
      | some b => .pure (.f (.int .u8 b.toNat))
      | none => .no else .no
    | _, _ => .no
  | .extract x i => match ρ x with
    | .tup vs => match vs[i]? with
      | some a => .pure a
      | none => .no
    | _ => .no
  | .len str x => match ρ x with
    | .f (.str s) => if str = true then .pure (.f (.int .i64 s.size)) else .no
    | .f .nil => if str = false then .pure (.f (.int .i64 0)) else .no
    | .f (.fr _ l) => if str = false then .pure (.f (.int .i64 l.length)) else .no
    | .sl id ver _ _ n => if str = false then .rd id fun o => if aliveOf ver o then some (.f (.int .i64 n)) else none else .no
    | _ => .no
  | .maxI x y => match ρ x, ρ y with
    | .f (.int k a), .f (.int k' b) => if k = k' then .pure (.f (.int k (max a b))) else .no
    | _, _ => .no
  | .minI x y => match ρ x, ρ y with
    | .f (.int k a), .f (.int k' b) => if k = k' then .pure (.f (.int k (min a b))) else .no
    | _, _ => .no
  | .append str e sz bytes s x => match ρ s, ρ x with
    | .f .nil, .sl id ver sz' off n => if str = false ∧ sz' = sz ∧ id ≠ t then .rm id t fun o o2 => match cellsOf ver o with
      | some cs => if (off + n) * sz ≤ cs.length then bornA sz bytes n ((cs.drop (off * sz)).take (n * sz)) t o2 else none
      | none => none else .no
    | .sl id ver sz1 off n, .sl id2 ver2 sz2 off2 n2 => if str = false ∧ sz1 = sz ∧ sz2 = sz ∧ id2 ≠ id then .rm id2 id fun o2 o => match cellsOf ver2 o2 with
      | some cs => if (off2 + n2) * sz ≤ cs.length then growA sz bytes ver off n n2 ((cs.drop (off2 * sz)).take (n2 * sz)) id o else none
      | none => none else .no
    | .f .nil, b => match srcF str sz b with
      | some (m, news) => .md t (bornA sz bytes m news t)
      | none => .no
    | .sl id ver sz' off n, b => if sz' = sz then match srcF str sz b with
      | some (m, news) => .md id (growA sz bytes ver off n m news id)
      | none => .no else .no
    | _, _ => .no
  | .copy sz d s => match ρ d, ρ s with
    | .sl id ver sz1 off n, .sl id2 ver2 sz2 off2 n2 => if sz1 = sz ∧ sz2 = sz then (if id2 = id then .md id (copyS sz ver off n ver2 off2 n2) else .rm id2 id (copyR sz ver off n ver2 off2 n2)) else .no
    | .sl id ver sz1 off n, .f (.fr sz2 l) => if sz1 = sz ∧ sz2 = sz then .md id (copyN sz ver off n l.length (l.flatten.map .f)) else .no
    | .sl id ver sz1 off n, .f .nil => if sz1 = sz then .md id (copyN sz ver off n 0 []) else .no
    | _, _ => .no
  | .clear sz z x => match ρ x with
    | .sl id ver sz1 off n => if sz1 = sz then .md id fun o => match cellsOf ver o with
      | some cs => if (off + n) * sz ≤ cs.length then some (.tup [], (ver, some (.cells (splice cs (off * sz) (zeros n z))))) else none
      | none => none else .no
    | _ => .no
  | .cap _ => .no
  | .mkMap => .md t fun o => match o with
    | (ver, none) => some (.map t (ver + 1), (ver + 1, some (.map [])))
    | _ => none
  | .mapUpd m k x => match ρ m, ρ k, (ρ x).plainVal with
    | .map id ver, .f (.str s), some x => .md id fun o => match mapOfH ver o with
      | some es => some (.any, (ver, some (.map (mSet s x es))))
      | none => none
    | _, _, _ => .no
  | .lookup z ok m k => match ρ m, ρ k with
    | .map id ver, .f (.str s) => .rd id fun o => match mapOfH ver o with
      | some es => some (lookV z ok (mGet s es))
      | none => none
    | .f (.fm es), .f (.str s) => .pure (lookV z ok (mGet s es))
    | _, _ => .no
  | .call _ _ => .no

open Go.RowKit
set_option linter.unusedVariables false
set_option linter.unusedSimpArgs false

def zeroCellsOf (P : Program) (t : TypeId) : Option (List FV) :=
  match P.info? t with
  | some i => match i.zero with
    | some z => if z.cells.toList.all (·.oneCell') && z.cells.size == i.size then some (z.cells.toList.map FV.ofValue) else none
    | none => none
  | none => none
def rowOf (P : Program) (t : TypeId) : Option (Option Nat) :=
  match P.underlying t, P.info? t with
  | some d, some i => some (if d.isRow then some i.size else none)
  | _, _ => none
def sizeOf? (P : Program) (t : TypeId) : Option Nat := (P.info? t).map (·.size)
def bytesOf? (P : Program) (t : TypeId) : Option Nat := (P.info? t).map (·.bytes)
def elemOf? (P : Program) (t : TypeId) : Option TypeId := match P.underlying t with
  | some (.slice e) => some e
  | _ => none
def fieldOf? (P : Program) (t : TypeId) (i : Nat) : Option Field := match P.underlying t with
  | some (.struct fs) => fs[i]?
  | _ => none
def isStr (P : Program) (t : TypeId) : Bool := match P.underlying t with
  | some .string => true
  | _ => false
def isBoolT (P : Program) (t : TypeId) : Bool := match P.underlying t with
  | some .bool => true
  | _ => false
def isPtr (P : Program) (t : TypeId) : Bool := match P.underlying t with
  | some (.pointer _) => true
  | _ => false
def intKindOf? (P : Program) (t : TypeId) : Option IntKind := match P.underlying t with
  | some (.int k) => some k
  | _ => none
def isBytes (P : Program) (t : TypeId) : Bool := match elemOf? P t with
  | some e => intKindOf? P e == some .u8
  | none => false
def partsOf? (P : Program) (fs : Array Field) : List (Nat × Operand) → Option (List (Nat × Nat × Operand))
  | [] => some []
  | (i, x) :: r => match fs[i]? with
    | some f => match sizeOf? P f.type, partsOf? P fs r with
      | some s, some l => some ((f.offset, s, x) :: l)
      | _, _ => none
    | none => none
/-- x against nil, at a slice's or a pointer's type. -/
def nilOf? (P : Program) (op : BinOp) (t : TypeId) (x y : Operand) : Option LOp := match op, y with
  | .eql, .const (.slice none 0 0) => if (elemOf? P t).isSome then some (.isNil false false x) else none
  | .neq, .const (.slice none 0 0) => if (elemOf? P t).isSome then some (.isNil false true x) else none
  | .eql, .const (.pointer none) => if isPtr P t then some (.isNil true false x) else none
  | .neq, .const (.pointer none) => if isPtr P t then some (.isNil true true x) else none
  | _, _ => none
def kindOf? (P : Program) (t : TypeId) : Option Nat := match P.underlying t with
  | some (.int _) => some 0
  | some .bool => some 1
  | some .string => some 2
  | _ => none
def kindsOf? (P : Program) : List Field → Nat → Option (List Nat)
  | [], _ => some []
  | f :: fs, k => if f.name ≠ "_" ∧ f.offset = k then match kindOf? P f.type, kindsOf? P fs (k + 1) with
    | some a, some l => some (a :: l)
    | _, _ => none else none
/-- Structs of plain fields, equal or not. -/
def eqOf? (P : Program) (op : BinOp) (t : TypeId) (x y : Operand) : Option LOp := match P.underlying t with
  | some (.struct fs) => if P.stoodInHeld t = false ∧ P.eqGuardType P.depth t = false then match kindsOf? P fs.toList 0 with
    | some ks => match op with
      | .eql => some (.eqS ks false x y)
      | .neq => some (.eqS ks true x y)
      | _ => none
    | none => none else none
  | _ => none
def mapOf? (P : Program) (t : TypeId) : Option (TypeId × TypeId) := match P.underlying t with
  | some (.map k e) => if isStr P k = true then some (k, e) else none
  | _ => none
def lowOp (P : Program) : Op → Option LOp
  | .move x | .assign x => some (.move x)
  | .nilCheck x => some (.nilChk x)
  | .pick c a b => some (.pick c a b)
  | .alloc e => (zeroCellsOf P e).map (.alloc e)
  | .box e x => some (.box e x)
  | .build t parts => match P.underlying t, zeroCellsOf P t with
    | some (.struct fs), some z => if fs.toList.all (fun f => (sizeOf? P f.type).isSome) then (partsOf? P fs parts.toList).map (.build z) else none
    | _, _ => none
  | .buildSlice t len parts => match elemOf? P t with
    | some e => match zeroCellsOf P e, sizeOf? P e with
      | some z, some sz => if sz ≠ 0 ∧ len * sz ≤ 16777216 then some (.buildSlice e sz len z parts.toList) else none
      | _, _ => none
    | none => none
  | .load t a => (rowOf P t).map (.load · a)
  | .store t a v => (sizeOf? P t).map (.store · a v)
  | .binOp op t x y _ => (match nilOf? P op t x y with | some lo => some lo | none => match eqOf? P op t x y with | some lo => some lo | none => some (.bin op (isBoolT P t) x y))
  | .unOp op _ x => some (.un op x)
  | .convert src dst x => match intKindOf? P dst with
    | some k => if (intKindOf? P src).isSome then some (.convInt k x) else none
    | none => if isStr P src && isStr P dst then some (.convStr x) else if isBytes P src && isStr P dst then some (.bytesStr x) else if isStr P src && isBytes P dst then some (.strBytes x) else if isBytes P src && src == dst then some (.mark x) else none
  | .makeFunc fn first caps => if first.isEmpty then some (.clo fn caps.toList) else none
  | .makeSlice t l c => match elemOf? P t with
    | some e => match zeroCellsOf P e, sizeOf? P e, bytesOf? P e with
      | some z, some sz, some by_ => if sz ≠ 0 then some (.makeSlice e sz by_ z l c) else none
      | _, _, _ => none
    | none => none
  | .slice t x lo hi mx => match elemOf? P t with
    | some e => match sizeOf? P e, lo, hi, mx with
      | some sz, lo, hi, none => some (.slice sz x lo hi)
      | some sz, some lo, some hi, some mx => some (.slice0 x lo hi mx)
      | some sz, none, some hi, some mx => some (.slice0 x (.const (.int .i64 0)) hi mx)
      | _, _, _, _ => none
    | none => if isStr P t && mx.isNone then some (.sliceS x lo hi) else none
  | .fieldAddr s x i => match fieldOf? P s i with
    | some f => match sizeOf? P f.type with
      | some n => if n ≠ 0 then some (.fieldAddr f.offset x) else none
      | none => none
    | none => none
  | .field s x i => match fieldOf? P s i with
    | some f => (rowOf P f.type).map (.field f.offset · x)
    | none => none
  | .indexAddr t x ix => match elemOf? P t with
    | some e => (sizeOf? P e).map (.indexAddr · x ix)
    | none => none
  | .index t x ix => if isStr P t then some (.indexS x ix) else none
  | .extract x i => some (.extract x i)
  | .makeMap t r => match mapOf? P t, r with
    | some _, none => some .mkMap
    | _, _ => none
  | .mapUpdate t m k x => match mapOf? P t with
    | some _ => some (.mapUpd m k x)
    | none => none
  | .lookup t m k ok => match mapOf? P t with
    | some (_, e) => match P.info? e with
      | some i => match i.zero with
        | some z => some (.lookup z ok m k)
        | none => none
      | none => none
    | none => none
  | .call c => match c.callee with
    | .builtin .len => match c.args.toList, c.argTypes.toList with
      | [x], [t] => if isStr P t then some (.len true x) else if (elemOf? P t).isSome then some (.len false x) else none
      | _, _ => none
    | .builtin .max => match c.args.toList with
      | [x, y] => some (.maxI x y)
      | _ => none
    | .builtin .min => match c.args.toList with
      | [x, y] => some (.minI x y)
      | _ => none
    | .builtin .append => match c.args.toList, c.argTypes.toList with
      | [s, x], [t, tx] => match elemOf? P t with
        | some e => match sizeOf? P e, bytesOf? P e with
          | some sz, some by_ => if sz ≠ 0 ∧ by_ ≠ 0 ∧ (zeroCellsOf P e).isSome = true then (if isStr P tx then some (.append true e sz by_ s x) else if (elemOf? P tx).isSome then some (.append false e sz by_ s x) else none) else none
          | _, _ => none
        | none => none
      | _, _ => none
    | .builtin .copy => match c.args.toList, c.argTypes.toList with
      | [d, s], [dT, sT] => match elemOf? P dT with
        | some e => match sizeOf? P e with
          | some sz => if (elemOf? P sT).isSome then some (.copy sz d s) else none
          | none => none
        | none => none
      | _, _ => none
    | .builtin .clear => match c.args.toList, c.argTypes.toList with
      | [x], [t] => match elemOf? P t with
        | some e => match sizeOf? P e, zeroCellsOf P e with
          | some sz, some z => some (.clear sz z x)
          | _, _ => none
        | none => none
      | _, _ => none
    | .builtin .cap => match c.args.toList, c.argTypes.toList with
      | [x], [t] => if (elemOf? P t).isSome then some (.cap x) else none
      | _, _ => none
    | .value f => some (.call f c.args.toList)
    | _ => none
  | _ => none

/-- An operation yields u (or nothing). -/
def Runs (P : Program) (s : Sem Next) (w w' : World) (u : Value) : Prop := s.run P w = .ok (.value u) w' ∨ (s.run P w = .ok .skip w' ∧ u = undef)

section inv
variable {G : Ghost} {Z : Nat → Prop} {w : World} {v : Value}
theorem RepA.f_ {x : FV} (h : RepA G Z w (.f x) v) : RepF Z w x v := by cases h; assumption
theorem RepA.int_ {k : IntKind} {n : Int} (h : RepA G Z w (.f (.int k n)) v) : v = .int k n := by cases h.f_; rfl
theorem RepA.bool_ {b : Bool} (h : RepA G Z w (.f (.bool b)) v) : v = .bool b := by cases h.f_; rfl
theorem RepA.str_ {s : ByteArray} (h : RepA G Z w (.f (.str s)) v) : v = .string s := by cases h.f_; rfl
theorem RepA.nil_ (h : RepA G Z w (.f .nil) v) : ∃ A, v = .slice A 0 0 := by cases h.f_; exact ⟨_, rfl⟩
theorem RepA.bit_ (h : RepA G Z w (.f .bit) v) : ∃ b, v = .bool b := by cases h.f_; exact ⟨_, rfl⟩
theorem RepA.fn_ {f : Fn} (h : RepA G Z w (.f (.fn f)) v) : v = .func f #[] #[] := by cases h.f_; rfl
theorem RepA.toI_ {a : AV} {n : Int} (h : RepA G Z w a v) (e : a.toI = some n) : ∃ k, v = .int k n := by
  cases a <;> simp only [AV.toI] at e <;> try cases e
  rename_i x
  cases x <;> simp only [FV.toI] at e <;> try cases e
  exact ⟨_, h.int_⟩
theorem RepA.fr_ {sz : Nat} {l : List (List FV)} (h : RepA G Z w (.f (.fr sz l)) v) : ∃ A c, v = .slice A l.length c ∧ l.length ≤ c ∧ c ≤ maxLen ∧ (0 < l.length → ∃ b o, A = some ⟨b, o, none⟩ ∧ Z b) := by
  cases h.f_ with
  | frNil _ A c hc => exact ⟨A, c, rfl, by simp, hc, fun h => absurd h (by simp)⟩
  | fr _ _ b o c us h0 h1 h2 hb => exact ⟨_, c, rfl, h1, h2, fun _ => ⟨b, o, rfl, hb⟩⟩
theorem RepA.fp_ {cs : List FV} (h : RepA G Z w (.f (.fp cs)) v) : ∃ (b o : Nat) (us : Nat → Value), v = .pointer (some ⟨b, o, none⟩) ∧ Z b ∧ (∀ j, j < cs.length → w.cell? ⟨b, o + j, none⟩ = some (us j) ∧ (us j).oneCell' = true) ∧ ∀ j a, cs[j]? = some a → RepF Z w a (us j) := by
  cases h.f_ with
  | fp _ b o us hz hc hc2 => exact ⟨b, o, us, rfl, hz, hc, hc2⟩
theorem RepF.one_ {x : FV} (h : RepF Z w x v) (e : x.isOne = true) : v.oneCell' = true := by
  cases h <;> first | rfl | exact e
theorem RepA.agg_ {cs : List AV} (h : RepA G Z w (.agg cs) v) : ∃ us : Array Value, v = .agg us ∧ us.size = cs.length ∧ (∀ (j : Nat) (u : Value), us[j]? = some u → u.oneCell' = true) ∧ ∀ (j : Nat) (a : AV) (u : Value), cs[j]? = some a → us[j]? = some u → RepA G Z w a u := by
  cases h with
  | agg _ us h1 h2 h3 => exact ⟨us, rfl, h1, h2, h3⟩
theorem RepA.tup_ {cs : List AV} (h : RepA G Z w (.tup cs) v) : ∃ us : Array Value, v = .tuple us ∧ us.size = cs.length ∧ ∀ (j : Nat) (a : AV) (u : Value), cs[j]? = some a → us[j]? = some u → RepA G Z w a u := by
  cases h with
  | tup _ us h1 h3 => exact ⟨us, rfl, h1, h3⟩
theorem RepA.clo_ {f : Fn} {cs : List AV} (h : RepA G Z w (.clo f cs) v) : ∃ us : Array Value, v = .func f #[] us ∧ us.size = cs.length ∧ ∀ (j : Nat) (a : AV) (u : Value), cs[j]? = some a → us[j]? = some u → RepA G Z w a u := by
  cases h with
  | clo _ _ us h1 h3 => exact ⟨us, rfl, h1, h3⟩
theorem RepA.sl_ {id ver sz off n : Nat} {loc : Option (Nat × Nat)} (h : RepA G Z w (.sl id ver sz off n) v) (e : G id = (ver, some loc)) :
    (n = 0 ∧ ∃ A, v = .slice A 0 0) ∨ ∃ g o c, loc = some (g, o) ∧ v = .slice (some ⟨g, o + off * sz, none⟩) n c ∧ n ≤ c ∧ c ≤ maxLen ∧ ∃ (arr : Array Value) (e : TypeId) (fz : Nat × Nat), w.heap[g]? = some (.cells arr e fz) ∧ o + (off + c) * sz = arr.size := by
  cases h with
  | slOld _ _ _ _ _ _ h1 h2 h3 => rw [e] at h2; exact absurd (h2 rfl) (by simp)
  | slCap _ _ _ _ A loc h1 => exact .inl ⟨rfl, A, rfl⟩
  | slLive _ _ _ _ _ g o c h1 h2 h3 h4 =>
    rw [e] at h1
    simp only [Prod.mk.injEq, Option.some.injEq, true_and] at h1
    exact .inr ⟨g, o, c, h1, rfl, h2, h3, h4⟩
theorem RepA.ptr_ {id ver off : Nat} {loc : Option (Nat × Nat)} (h : RepA G Z w (.ptr id ver off) v) (e : G id = (ver, some loc)) : ∃ g o, loc = some (g, o) ∧ v = .pointer (some ⟨g, o + off, none⟩) := by
  cases h with
  | ptrOld _ _ _ _ h1 h2 h3 => rw [e] at h2; exact absurd (h2 rfl) (by simp)
  | ptrLive _ _ _ g o h1 =>
    rw [e] at h1
    simp only [Prod.mk.injEq, Option.some.injEq, true_and] at h1
    exact ⟨g, o, h1, rfl⟩
end inv

section st
variable {P : Program} {G : Ghost} {H : Heap} {Z : Nat → Prop} {w : World}
theorem St.alive (st : St P G H Z w) {id ver : Nat} (h : aliveOf ver (H id) = true) : ∃ loc, G id = (ver, some loc) := by
  unfold aliveOf at h
  have h1 := st.ver id
  split at h
  · rename_i v o e
    obtain ⟨loc, h2, _⟩ := st.obj id o (by rw [e])
    refine ⟨loc, ?_⟩
    rw [e] at h1
    simp only [beq_iff_eq] at h
    rw [← h2, ← h]
    exact Prod.ext h1 rfl
  · cases h
theorem St.cells (st : St P G H Z w) {id ver : Nat} {cs : List AV} (h : cellsOf ver (H id) = some cs) : ∃ loc, G id = (ver, some loc) ∧ ObjR P G Z w loc (.cells cs) ∧ H id = (ver, some (.cells cs)) := by
  unfold cellsOf at h
  have h1 := st.ver id
  split at h
  · rename_i v cs' e
    split at h
    · rename_i hv
      obtain rfl := Option.some.inj h
      obtain ⟨loc, h2, h3⟩ := st.obj id _ (by rw [e])
      subst hv
      refine ⟨loc, ?_, h3, e⟩
      rw [e] at h1
      rw [← h2]
      exact Prod.ext h1 rfl
    · cases h
  · cases h
/-- A draw. -/
theorem St.drew (st : St P G H Z w) (n : Nat) : St P G H Z (w.drewN n) ∧ Step G Z w G Z (w.drewN n) := by
  have hk : Keep G Z w G Z (w.drewN n) := ⟨fun b h => ⟨h, rfl⟩, fun _ => Nat.le_refl _, fun _ _ => .inr rfl, fun b arr e fz _ h => ⟨arr, e, fz, h, rfl⟩⟩
  refine ⟨⟨st.ver, st.dead, fun id o h => ?_, st.inj, st.disj, st.zlt, st.glt, st.ones⟩, ⟨hk, rfl, rfl, rfl, Nat.le_refl _, fun _ _ _ => rfl, fun _ h => .inl h, fun _ h => .inl h⟩⟩
  obtain ⟨loc, h1, h2⟩ := st.obj id o h
  refine ⟨loc, h1, ?_⟩
  cases loc with
  | none => cases o <;> exact h2
  | some p =>
    obtain ⟨g, ob⟩ := p
    cases o with
    | cells cs =>
      obtain ⟨arr, e, h3, h4⟩ := h2
      exact ⟨arr, e, h3, h4.mono fun a v hr => hr.keep hk⟩
    | map m =>
      obtain ⟨h3, es, clock, h4, h5⟩ := h2
      exact ⟨h3, es, clock, h4, h5⟩
end st

theorem RepA.one_ {G : Ghost} {Z : Nat → Prop} {w : World} {a : AV} {v : Value} (h : RepA G Z w a v) (e : a.isOne = true) : v.oneCell' = true := by
  cases h with
  | any v => cases e
  | f hf => exact hf.one_ e
  | slOld _ _ _ _ _ _ _ _ h3 => exact h3
  | ptrOld _ _ _ _ _ _ h3 => exact h3
  | mapOld _ _ _ _ _ h3 => exact h3
  | slCap => rfl
  | slLive => rfl
  | ptrLive => rfl
  | mapLive => rfl
  | agg => cases e
  | tup => cases e
  | clo => rfl
/-- A value's cells. -/
theorem RepA.cellsN_ {G : Ghost} {Z : Nat → Prop} {w : World} {a : AV} {v : Value} {n : Nat} {xs : List AV} (h : RepA G Z w a v) (e : a.cellsN n = some xs) :
    v.cells.size = n ∧ xs.length = n ∧ ∀ (j : Nat) (x : AV), xs[j]? = some x → ∃ u, v.cells[j]? = some u ∧ u.oneCell' = true ∧ RepA G Z w x u := by
  have hone : ∀ a : AV, RepA G Z w a v → (n = 1 ∧ a.isOne = true) → v.cells.size = n ∧ [a].length = n ∧ ∀ (j : Nat) (x : AV), [a][j]? = some x → ∃ u, v.cells[j]? = some u ∧ u.oneCell' = true ∧ RepA G Z w x u := by
    rintro a h ⟨rfl, h1⟩
    have h2 := h.one_ h1
    have h3 : v.cells = #[v] := by cases v <;> first | rfl | cases h2
    rw [h3]
    refine ⟨rfl, rfl, fun j x hj => ?_⟩
    cases j with
    | zero =>
      simp only [List.getElem?_cons_zero, Option.some.injEq] at hj
      subst hj
      exact ⟨v, rfl, h2, h⟩
    | succ j => simp at hj
  cases a
  case agg cs =>
    simp only [AV.cellsN] at e
    split at e
    · rename_i hl
      obtain rfl := Option.some.inj e
      obtain ⟨us, rfl, h1, h2, h3⟩ := h.agg_
      refine ⟨by simp only [Value.cells]; omega, hl, fun j x hj => ?_⟩
      have hlt : j < us.size := by
        have := (List.getElem?_eq_some_iff.1 hj).1
        omega
      have hu : us[j]? = some us[j] := Array.getElem?_eq_getElem hlt
      exact ⟨us[j], hu, h2 j _ hu, h3 j x _ hj hu⟩
    · cases e
  all_goals
    simp only [AV.cellsN] at e
    split at e
    · rename_i hc
      obtain rfl := Option.some.inj e
      exact hone _ h hc
    · cases e
end Go.Proofs.YtaiajaibcpkceaaDoor
