/-
  The abstract machine: lowered code, footprints, certificates of operations. No statement of the seat is proved here; no conditions.
-/
import Derived.Test.YtaiajaibcpkceaaDoorEngH
import Derived.Deep.Quiet
namespace Go.Proofs.YtaiajaibcpkceaaDoor
open Go.RowKit
set_option linter.unusedVariables false
set_option linter.unusedSimpArgs false

structure LO where
  dst : Option Nat
  op : LOp
  guard : Option (Nat × Bool)
/-- ord: the operations of the region that come before in every order. -/
structure DO where
  dst : Option Nat
  op : LOp
  guard : Option (Nat × Bool)
  ord : List Nat
inductive LCode where
  | skip
  | reg (ops : List LO)
  | draw (ops : List DO)
  | seq (a b : LCode)
  | cond (c : Operand) (thn els : LCode)
  | block (id : Nat) (body : LCode)
  | loop (body : LCode)
  | exit (id : Nat)
  | ret

def lowGuard (ops : Array Oper) : Option (Nat × Bool) → Option (Option (Nat × Bool))
  | none => some none
  | some (j, want) => ((ops[j]?).bind (·.dst)).map fun s => some (s, want)
def lowOper (P : Program) (ops : Array Oper) (o : Oper) : Option LO :=
  match lowOp P o.op, lowGuard ops o.guard with
  | some lo, some g => some ⟨o.dst, lo, g⟩
  | _, _ => none
def lowOpers (P : Program) (ops : Array Oper) : List Oper → Option (List LO)
  | [] => some []
  | o :: l => match lowOper P ops o, lowOpers P ops l with
    | some a, some r => some (a :: r)
    | _, _ => none
def ordOf (o : Oper) (acc : List (List Nat)) : List Nat :=
  ((o.after.toList.filter fun e => Region.binds .any e).flatMap fun e => e.on :: acc.getD e.on []).eraseDups
def lowDOpers (P : Program) (ops : Array Oper) : List Oper → List (List Nat) → Option (List DO)
  | [], _ => some []
  | o :: l, acc => match lowOper P ops o, lowDOpers P ops l (acc ++ [ordOf o acc]) with
    | some a, some r => some (⟨a.dst, a.op, a.guard, ordOf o acc⟩ :: r)
    | _, _ => none
def lowC (P : Program) : Code → Option LCode
  | .skip => some .skip
  | .region id ops false => (lowOpers P ops ops.toList).map .reg
  | .region id ops true => if P.follows .mixedOrders && Region.lexB .any ops then (lowDOpers P ops ops.toList []).map .draw else none
  | .seq a b => match lowC P a, lowC P b with
    | some x, some y => some (.seq x y)
    | _, _ => none
  | .cond c a b => match lowC P a, lowC P b with
    | some x, some y => some (.cond c x y)
    | _, _ => none
  | .block id c => (lowC P c).map (.block id)
  | .loop c => (lowC P c).map .loop
  | .exit id => some (.exit id)
  | .ret => some .ret
  | _ => none

/-! ### Calls -/
def callable (P : Program) (f : FuncId) : Bool := match P.funcs[f]? with
  | some fn => !(fn.name == "runtime.NumGoroutine") && fn.body.isSome
  | none => false
/-- What a call of function f, from this heap, hands back: Q (a value, the heap behind it). -/
def ACall (P : Program) (f : FuncId) (args : List AV) (H : Heap) (Q : AV → Heap → Prop) : Prop :=
  callable P f = true ∧ ∀ (G : Ghost) (Z : Nat → Prop) (w : World) (vs : Array Value), St P G H Z w → vs.size = args.length → (∀ (j : Nat) (a : AV) (v : Value), args[j]? = some a → vs[j]? = some v → RepA G Z w a v) →
    Calls P f vs w fun e w' => ∃ v r H' G' Z', e = .returned v ∧ Q r H' ∧ St P G' H' Z' w' ∧ Step G Z w G' Z' w' ∧ RepA G' Z' w' r v
def ACallV (P : Program) (fv : AV) (args : List AV) (H : Heap) (Q : AV → Heap → Prop) : Prop := match fv with
  | .f (.fn (.func f)) => ACall P f args H Q
  | .clo (.func f) caps => ACall P f (args ++ caps) H Q
  | _ => False
theorem ACall.mono {P : Program} {f : FuncId} {args : List AV} {H : Heap} {Q Q' : AV → Heap → Prop} (h : ACall P f args H Q) (hq : ∀ r H', Q r H' → Q' r H') : ACall P f args H Q' :=
  ⟨h.1, fun G Z w vs h1 h2 h3 => (h.2 G Z w vs h1 h2 h3).mono fun e w' ⟨v, r, H', G', Z', e1, e2, e3⟩ => ⟨v, r, H', G', Z', e1, hq _ _ e2, e3⟩⟩
theorem ACallV.mono {P : Program} {fv : AV} {args : List AV} {H : Heap} {Q Q' : AV → Heap → Prop} (h : ACallV P fv args H Q) (hq : ∀ r H', Q r H' → Q' r H') : ACallV P fv args H Q' := by
  unfold ACallV at *
  split
  · exact ACall.mono h hq
  · exact ACall.mono h hq
  · rename_i h1 h2
    split at h
    · rename_i f; exact absurd rfl (h1 f)
    · rename_i f caps; exact absurd rfl (h2 f caps)
    · exact h
def LOp.isCall : LOp → Bool
  | .call .. => true
  | .cap .. => true
  | _ => false

section
variable {P : Program} {G : Ghost} {H : Heap} {Z : Nat → Prop} {w : World} {o : Oper} {a : Act}
/-- One operation, from an abstract state: behind it v in its place, heap H'. -/
def OpTo (P : Program) (o : Oper) (G : Ghost) (H : Heap) (Z : Nat → Prop) (w : World) (a : Act) (Q : AV → Heap → Prop) : Prop :=
  ∀ (K : Act → World → Prop) (X : Exit → Act → World → Prop), (∀ u v H' G' Z' w', Q v H' → St P G' H' Z' w' → Step G Z w G' Z' w' → RepA G' Z' w' v u → K (a.put o.dst u) w') → o.wp P a w K X
theorem OpOk.to {v : AV} {H' : Heap} (h : OpOk P (execOp a.eval o) G H Z w v H') : OpTo P o G H Z w a (fun v' H'' => v' = v ∧ H'' = H') := by
  intro K X hK
  obtain ⟨G', Z', w', u, hr, h1, h2, h3⟩ := h
  unfold Oper.wp
  rcases hr with hr | ⟨hr, rfl⟩
  · rw [hr, Oper.upon_value]; exact hK u v H' G' Z' w' ⟨rfl, rfl⟩ h1 h2 h3
  · rw [hr, Oper.upon_skip]; exact hK _ v H' G' Z' w' ⟨rfl, rfl⟩ h1 h2 h3
theorem call_to {env : Env} (st : St P G H Z w) (he : EnvR G Z w env a.tmps) {c : Call} {f : Operand} (ho : o.op = .call c) (hc : c.callee = .value f) {Q : AV → Heap → Prop} (h : ACallV P (evA env f) (c.args.toList.map (evA env)) H Q) : OpTo P o G H Z w a Q := by
  intro K X hK
  have hf := he.eval f
  have hargs : ∀ (j : Nat) (x : AV) (v : Value), (c.args.toList.map (evA env))[j]? = some x → (c.args.map a.eval)[j]? = some v → RepA G Z w x v := fun j x v hx hv => by
    rw [List.getElem?_map] at hx
    rw [Array.getElem?_map] at hv
    obtain ⟨y, hy, rfl⟩ := Option.map_eq_some_iff.1 hx
    rw [Array.getElem?_toList] at hy
    rw [hy] at hv
    obtain rfl := Option.some.inj hv
    exact he.eval y
  have fin : ∀ (fid : FuncId) (args : List AV) (vs : Array Value), ACall P fid args H Q → vs.size = args.length → (∀ (j : Nat) (x : AV) (v : Value), args[j]? = some x → vs[j]? = some v → RepA G Z w x v) → (execOp a.eval o).run P w = (callFunc fid vs).run P w → o.wp P a w K X := by
    intro fid args vs hA hsz hrep hrun
    obtain ⟨hcal, hA⟩ := hA
    have : (callFunc fid vs).run P w = .ok (.enter fid vs) w := by
      unfold callable at hcal
      split at hcal
      · rename_i fn hfn
        simp only [Bool.and_eq_true, Bool.not_eq_true', Option.isSome_iff_ne_none] at hcal
        obtain ⟨h1, h2⟩ := hcal
        have h4 : ¬ fn.name = "runtime.NumGoroutine" := by simpa using h1
        cases hb : fn.body with
        | none => exact absurd hb h2
        | some c => simp [callFunc, hfn, h4, hb]
      · cases hcal
    unfold Oper.wp
    rw [hrun, this, Oper.upon_enter]
    refine (hA G Z w vs st hsz hrep).mono fun e w' ⟨v, r, H', G', Z', he1, hq, h1, h2, h3⟩ => ?_
    subst he1
    exact hK v r H' G' Z' w' hq h1 h2 h3
  unfold ACallV at h
  split at h
  · rename_i fid e
    rw [e] at hf
    refine fin fid _ (c.args.map a.eval) h (by simp) hargs ?_
    simp [execOp, ho, resolve, hc, hf.fn_, Deferred.ofValue, invoke]
  · rename_i fid caps e
    rw [e] at hf
    obtain ⟨us, hv, hul, hus⟩ := hf.clo_
    refine fin fid _ (c.args.map a.eval ++ us) h (by simp [hul]) (fun j x v hx hv => ?_) ?_
    · rcases Nat.lt_or_ge j c.args.size with hj | hj
      · rw [List.getElem?_append_left (by simpa using hj)] at hx
        rw [Array.getElem?_append_left (by simpa using hj)] at hv
        exact hargs j x v hx hv
      · rw [List.getElem?_append_right (by simpa using hj)] at hx
        rw [Array.getElem?_append_right (by simpa using hj)] at hv
        simp only [List.length_map, Array.length_toList, Array.size_map] at hx hv
        exact hus _ x v hx hv
    · simp [execOp, ho, resolve, hc, hv, Deferred.ofValue, invoke]
  · exact h.elim
end
end Go.Proofs.YtaiajaibcpkceaaDoor
