/-
  The abstract machine: a run of straight code, as far as it goes by itself. No statement of the seat is proved here; no conditions.
-/
import Derived.Test.YtaiajaibcpkceaaDoorEngL
namespace Go.Proofs.YtaiajaibcpkceaaDoor
open Go.RowKit
set_option linter.unusedVariables false
set_option linter.unusedSimpArgs false

section
variable (P : Program) (R : Env → Heap → Prop)
def condS (go : Lams → List It → Env → Heap → Prop) (c : AV) (Λ : Lams) (a b : LCode) (k : List It) (env : Env) (H : Heap) : Prop := match c with
  | .f (.bool true) => go Λ (.code a :: k) env H
  | .f (.bool false) => go Λ (.code b :: k) env H
  | .f .bit => go Λ (.code a :: k) env H ∧ go Λ (.code b :: k) env H
  | _ => False
def execS (go : Lams → List It → Env → Heap → Prop) (x : Option (AV × Heap)) (Λ : Lams) (d : Option Nat) (l : List LO) (k : List It) (env : Env) : Prop := match x with
  | some (v, H') => go Λ (.ops l :: k) (putE env d v) H'
  | none => False
def guardS (go : Lams → List It → Env → Heap → Prop) (g : AV) (want : Bool) (Λ : Lams) (d : Option Nat) (op : LOp) (l : List LO) (k : List It) (env : Env) (H : Heap) : Prop := match g with
  | .f (.bool b) => if b = want then execS go ((eff op (evA env) (d.getD 0)).exec H) Λ d l k env else go Λ (.ops l :: k) (putE env d (.tup [])) H
  | .tup [] => go Λ (.ops l :: k) (putE env d (.tup [])) H
  | _ => False
def execD (go : Lams → List It → Env → Heap → Prop) (x : Option (AV × Heap)) (ok : Bool) (Λ : Lams) (d : Option Nat) (l : List DO) (j : Nat) (acc : List Fp) (k : List It) (env : Env) : Prop := match x with
  | some (v, H') => ok = true ∧ go Λ (.dops l j acc :: k) (putE env d v) H'
  | none => False
def guardD (go : Lams → List It → Env → Heap → Prop) (g : AV) (want : Bool) (Λ : Lams) (d : Option Nat) (op : LOp) (od : List Nat) (l : List DO) (j : Nat) (acc : List Fp) (k : List It) (env : Env) (H : Heap) : Prop := match g with
  | .f (.bool b) => if b = want then execD go ((eff op (evA env) (d.getD 0)).exec H) (noConf acc od (eff op (evA env) (d.getD 0)).rds (eff op (evA env) (d.getD 0)).wrs) Λ d l (j + 1) (addFp j (eff op (evA env) (d.getD 0)).rds (eff op (evA env) (d.getD 0)).wrs acc) k env
    else go Λ (.dops l (j + 1) acc :: k) (putE env d (.tup [])) H
  | .tup [] => go Λ (.dops l (j + 1) acc :: k) (putE env d (.tup [])) H
  | _ => False
def exitS (go : Lams → List It → Env → Heap → Prop) (p : Option (Lams × List It)) (env : Env) (H : Heap) : Prop := match p with
  | some (Λ', k') => go Λ' k' env H
  | none => False
def sstep (go : Lams → List It → Env → Heap → Prop) : Lams → List It → Env → Heap → Prop
  | Λ, [], env, H => R env H
  | Λ, .code .skip :: k, env, H => go Λ k env H
  | Λ, .code (.seq a b) :: k, env, H => go Λ (.code a :: .code b :: k) env H
  | Λ, .code (.block id c) :: k, env, H => go Λ (.code c :: .blk id :: k) env H
  | Λ, .blk id :: k, env, H => go Λ k env H
  | Λ, .code .ret :: k, env, H => R env H
  | Λ, .code (.exit id) :: k, env, H => exitS go (popTo id Λ k) env H
  | Λ, .code (.cond c a b) :: k, env, H => condS go (evA env c) Λ a b k env H
  | Λ, .code (.reg l) :: k, env, H => go Λ (.ops l :: k) env H
  | Λ, .code (.draw l) :: k, env, H => go Λ (.dops l 0 [] :: k) env H
  | Λ, .ops [] :: k, env, H => go Λ k env H
  | Λ, .ops (⟨d, .call f args, g⟩ :: l) :: k, env, H => Ax P R Λ (.ops (⟨d, .call f args, g⟩ :: l) :: k) env H
  | Λ, .ops (⟨d, .cap x, g⟩ :: l) :: k, env, H => Ax P R Λ (.ops (⟨d, .cap x, g⟩ :: l) :: k) env H
  | Λ, .ops (⟨d, op, none⟩ :: l) :: k, env, H => execS go ((eff op (evA env) (d.getD 0)).exec H) Λ d l k env
  | Λ, .ops (⟨d, op, some (s, want)⟩ :: l) :: k, env, H => guardS go (env.f s) want Λ d op l k env H
  | Λ, .dops [] j acc :: k, env, H => go Λ k env H
  | Λ, .dops (⟨d, .call f args, g, od⟩ :: l) j acc :: k, env, H => Ax P R Λ (.dops (⟨d, .call f args, g, od⟩ :: l) j acc :: k) env H
  | Λ, .dops (⟨d, .cap x, g, od⟩ :: l) j acc :: k, env, H => Ax P R Λ (.dops (⟨d, .cap x, g, od⟩ :: l) j acc :: k) env H
  | Λ, .dops (⟨d, op, none, od⟩ :: l) j acc :: k, env, H => execD go ((eff op (evA env) (d.getD 0)).exec H) (noConf acc od (eff op (evA env) (d.getD 0)).rds (eff op (evA env) (d.getD 0)).wrs) Λ d l (j + 1) (addFp j (eff op (evA env) (d.getD 0)).rds (eff op (evA env) (d.getD 0)).wrs acc) k env
  | Λ, .dops (⟨d, op, some (s, want), od⟩ :: l) j acc :: k, env, H => guardD go (env.f s) want Λ d op od l j acc k env H
  | L :: Λ, .again :: k, env, H => L env H
  | [], .again :: k, env, H => False
  | Λ, .code (.loop c) :: k, env, H => Ax P R Λ (.code (.loop c) :: k) env H
/-- As far as it goes without a call or a loop. -/
def srun : Nat → Lams → List It → Env → Heap → Prop
  | 0, Λ, k, env, H => Ax P R Λ k env H
  | n + 1, Λ, k, env, H => sstep P R (srun n) Λ k env H
end

section
variable {P : Program} {R : Env → Heap → Prop}
theorem gd_none (env : Env) : gd none env = some true := rfl
theorem gd_of {env : Env} {s : Nat} {want b : Bool} (h : env.f s = .f (.bool b)) : gd (some (s, want)) env = some (b == want) := by
  simp only [gd, h]
theorem gd_tup {env : Env} {s : Nat} {want : Bool} (h : env.f s = .tup []) : gd (some (s, want)) env = some false := by
  simp only [gd, h]
theorem srun_sound : ∀ (n : Nat) (Λ : Lams) (k : List It) (env : Env) (H : Heap), srun P R n Λ k env H → Ax P R Λ k env H := by
  intro n
  induction n with
  | zero => intro Λ k env H h; exact h
  | succ n ih =>
    intro Λ k env H h
    have hex : ∀ {d : Option Nat} {op : LOp} {g : Option (Nat × Bool)} {l : List LO} {k : List It}, gd g env = some true → execS (srun P R n) ((eff op (evA env) (d.getD 0)).exec H) Λ d l k env → Ax P R Λ (.ops (⟨d, op, g⟩ :: l) :: k) env H := by
      intro d op g l k hg h
      unfold execS at h
      split at h
      · rename_i v H' hx; exact ax_op hg hx (ih _ _ _ _ h)
      · exact h.elim
    have hexD : ∀ {d : Option Nat} {op : LOp} {g : Option (Nat × Bool)} {od : List Nat} {l : List DO} {j : Nat} {acc : List Fp} {k : List It}, gd g env = some true →
        execD (srun P R n) ((eff op (evA env) (d.getD 0)).exec H) (noConf acc od (eff op (evA env) (d.getD 0)).rds (eff op (evA env) (d.getD 0)).wrs) Λ d l (j + 1) (addFp j (eff op (evA env) (d.getD 0)).rds (eff op (evA env) (d.getD 0)).wrs acc) k env → Ax P R Λ (.dops (⟨d, op, g, od⟩ :: l) j acc :: k) env H := by
      intro d op g od l j acc k hg h
      unfold execD at h
      split at h
      · rename_i v H' hx; exact ax_dOp hg rfl hx h.1 (ih _ _ _ _ h.2)
      · exact h.elim
    simp only [srun] at h
    unfold sstep at h
    split at h
    · exact ax_nil h
    · exact ax_skip (ih _ _ _ _ h)
    · exact ax_seq (ih _ _ _ _ h)
    · exact ax_block (ih _ _ _ _ h)
    · exact ax_blk (ih _ _ _ _ h)
    · exact ax_ret h
    · unfold exitS at h
      split at h
      · rename_i e; exact ax_exit e (ih _ _ _ _ h)
      · exact h.elim
    · unfold condS at h
      split at h
      · rename_i e; exact ax_cond e (fun _ => ih _ _ _ _ h) (fun hb => by cases hb)
      · rename_i e; exact ax_cond e (fun hb => by cases hb) (fun _ => ih _ _ _ _ h)
      · rename_i e; exact ax_condBit e (ih _ _ _ _ h.1) (ih _ _ _ _ h.2)
      · exact h.elim
    · exact ax_reg (ih _ _ _ _ h)
    · exact ax_draw (ih _ _ _ _ h)
    · exact ax_opsNil (ih _ _ _ _ h)
    · exact h
    · exact h
    · exact hex rfl h
    · unfold guardS at h
      split at h
      · rename_i b e
        split at h
        · rename_i hb; exact hex (by rw [gd_of e, hb]; simp) h
        · rename_i hb; exact ax_opSkip (by rw [gd_of e]; simp [hb]) (ih _ _ _ _ h)
      · rename_i e; exact ax_opSkip (gd_tup e) (ih _ _ _ _ h)
      · exact h.elim
    · exact ax_dNil (ih _ _ _ _ h)
    · exact h
    · exact h
    · exact hexD rfl h
    · unfold guardD at h
      split at h
      · rename_i b e
        split at h
        · rename_i hb; exact hexD (by rw [gd_of e, hb]; simp) h
        · rename_i hb; exact ax_dSkip (by rw [gd_of e]; simp [hb]) (ih _ _ _ _ h)
      · rename_i e; exact ax_dSkip (gd_tup e) (ih _ _ _ _ h)
      · exact h.elim
    · exact ax_again h
    · exact h.elim
    · exact h
end

/-! ### Rules for runs -/
section
variable {go : Lams → List It → Env → Heap → Prop} {Λ Λ' : Lams} {a b : LCode} {k k' : List It} {env : Env} {H H' : Heap} {d : Option Nat} {l : List LO} {ld : List DO} {v : AV} {op : LOp} {j : Nat} {acc : List Fp} {od : List Nat} {ok : Bool}
theorem condS_true : condS go (.f (.bool true)) Λ a b k env H = go Λ (.code a :: k) env H := rfl
theorem condS_bit : condS go (.f .bit) Λ a b k env H = (go Λ (.code a :: k) env H ∧ go Λ (.code b :: k) env H) := rfl
theorem condS_false : condS go (.f (.bool false)) Λ a b k env H = go Λ (.code b :: k) env H := rfl
theorem execS_some : execS go (some (v, H')) Λ d l k env = go Λ (.ops l :: k) (putE env d v) H' := rfl
theorem guardS_bool {x want : Bool} : guardS go (.f (.bool x)) want Λ d op l k env H = if x = want then execS go ((eff op (evA env) (d.getD 0)).exec H) Λ d l k env else go Λ (.ops l :: k) (putE env d (.tup [])) H := rfl
theorem guardS_tt : guardS go (.f (.bool true)) true Λ d op l k env H = execS go ((eff op (evA env) (d.getD 0)).exec H) Λ d l k env := rfl
theorem guardS_ff : guardS go (.f (.bool false)) false Λ d op l k env H = execS go ((eff op (evA env) (d.getD 0)).exec H) Λ d l k env := rfl
theorem guardS_tf : guardS go (.f (.bool true)) false Λ d op l k env H = go Λ (.ops l :: k) (putE env d (.tup [])) H := rfl
theorem guardS_ft : guardS go (.f (.bool false)) true Λ d op l k env H = go Λ (.ops l :: k) (putE env d (.tup [])) H := rfl
theorem execD_some : execD go (some (v, H')) true Λ d ld j acc k env = go Λ (.dops ld j acc :: k) (putE env d v) H' := by simp [execD]
theorem guardD_tt : guardD go (.f (.bool true)) true Λ d op od ld j acc k env H = execD go ((eff op (evA env) (d.getD 0)).exec H) (noConf acc od (eff op (evA env) (d.getD 0)).rds (eff op (evA env) (d.getD 0)).wrs) Λ d ld (j + 1) (addFp j (eff op (evA env) (d.getD 0)).rds (eff op (evA env) (d.getD 0)).wrs acc) k env := rfl
theorem guardD_ff : guardD go (.f (.bool false)) false Λ d op od ld j acc k env H = execD go ((eff op (evA env) (d.getD 0)).exec H) (noConf acc od (eff op (evA env) (d.getD 0)).rds (eff op (evA env) (d.getD 0)).wrs) Λ d ld (j + 1) (addFp j (eff op (evA env) (d.getD 0)).rds (eff op (evA env) (d.getD 0)).wrs acc) k env := rfl
theorem guardD_tf : guardD go (.f (.bool true)) false Λ d op od ld j acc k env H = go Λ (.dops ld (j + 1) acc :: k) (putE env d (.tup [])) H := rfl
theorem guardD_ft : guardD go (.f (.bool false)) true Λ d op od ld j acc k env H = go Λ (.dops ld (j + 1) acc :: k) (putE env d (.tup [])) H := rfl
theorem guardS_tup {want : Bool} : guardS go (.tup []) want Λ d op l k env H = go Λ (.ops l :: k) (putE env d (.tup [])) H := rfl
theorem guardD_tup {want : Bool} : guardD go (.tup []) want Λ d op od ld j acc k env H = go Λ (.dops ld (j + 1) acc :: k) (putE env d (.tup [])) H := rfl
theorem exitS_some : exitS go (some (Λ', k')) env H = go Λ' k' env H := rfl
theorem putE_some {n d : Nat} {f : Nat → AV} (h : decide (d < n) = true) : putE ⟨n, f⟩ (some d) v = ⟨n, upd f d v⟩ := by simp only [putE, if_pos (of_decide_eq_true h)]
theorem putE_none : putE env none v = env := rfl
theorem upd_get {α : Type} {f : Nat → α} {i j : Nat} {x : α} : upd f i x j = if j = i then x else f j := rfl
theorem pickA_true {x y : AV} : pickA true x y = x := by unfold pickA; split <;> rfl
theorem pickA_false {x y : AV} : pickA false x y = y := by unfold pickA; split <;> rfl
theorem pickA_bool {c x y : Bool} : pickA c (.f (.bool x)) (.f (.bool y)) = .f (.bool (if c then x else y)) := rfl
theorem popTo_blk {id id' : Nat} : popTo id Λ (.blk id' :: k) = if id' = id then some (Λ, k) else popTo id Λ k := by
  cases Λ <;> rfl
theorem popTo_again {id : Nat} {L : Env → Heap → Prop} : popTo id (L :: Λ) (.again :: k) = popTo id Λ k := rfl
theorem popTo_code {id : Nat} {c : LCode} : popTo id Λ (.code c :: k) = popTo id Λ k := by
  cases Λ <;> rfl
/-- What stands undecided is parted. -/
theorem condS_split {x : Bool} (h1 : x = true → go Λ (.code a :: k) env H) (h2 : x = false → go Λ (.code b :: k) env H) : condS go (.f (.bool x)) Λ a b k env H := by
  cases x
  · exact h2 rfl
  · exact h1 rfl
end

open Go.RowKit
set_option linter.unusedVariables false
set_option linter.unusedSimpArgs false

section
variable {P : Program} {R : Env → Heap → Prop} {go : Lams → List It → Env → Heap → Prop} {Λ : Lams} {L : Env → Heap → Prop} {k : List It} {env : Env} {H : Heap} {a b c : LCode} {id n j : Nat} {l : List LO} {dl : List DO} {d : Option Nat} {op : LOp} {s : Nat} {want : Bool} {acc : List Fp} {od : List Nat} {o : Operand} {f : Operand} {args : List Operand} {g : Option (Nat × Bool)}
theorem srun_s : srun P R (n + 1) Λ k env H = sstep P R (srun P R n) Λ k env H := rfl
theorem srun_0 : srun P R 0 Λ k env H = Ax P R Λ k env H := rfl
theorem st_nil : sstep P R go Λ [] env H = R env H := by cases Λ <;> rfl
theorem st_skip : sstep P R go Λ (.code .skip :: k) env H = go Λ k env H := by cases Λ <;> rfl
theorem st_seq : sstep P R go Λ (.code (.seq a b) :: k) env H = go Λ (.code a :: .code b :: k) env H := by cases Λ <;> rfl
theorem st_block : sstep P R go Λ (.code (.block id c) :: k) env H = go Λ (.code c :: .blk id :: k) env H := by cases Λ <;> rfl
theorem st_blk : sstep P R go Λ (.blk id :: k) env H = go Λ k env H := by cases Λ <;> rfl
theorem st_ret : sstep P R go Λ (.code .ret :: k) env H = R env H := by cases Λ <;> rfl
theorem st_exit : sstep P R go Λ (.code (.exit id) :: k) env H = exitS go (popTo id Λ k) env H := by cases Λ <;> rfl
theorem st_cond : sstep P R go Λ (.code (.cond o a b) :: k) env H = condS go (evA env o) Λ a b k env H := by cases Λ <;> rfl
theorem st_reg : sstep P R go Λ (.code (.reg l) :: k) env H = go Λ (.ops l :: k) env H := by cases Λ <;> rfl
theorem st_draw : sstep P R go Λ (.code (.draw dl) :: k) env H = go Λ (.dops dl 0 [] :: k) env H := by cases Λ <;> rfl
theorem st_opsNil : sstep P R go Λ (.ops [] :: k) env H = go Λ k env H := by cases Λ <;> rfl
theorem st_dNil : sstep P R go Λ (.dops [] j acc :: k) env H = go Λ k env H := by cases Λ <;> rfl
theorem st_call : sstep P R go Λ (.ops (⟨d, .call f args, g⟩ :: l) :: k) env H = Ax P R Λ (.ops (⟨d, .call f args, g⟩ :: l) :: k) env H := by cases Λ <;> rfl
theorem st_dCall : sstep P R go Λ (.dops (⟨d, .call f args, g, od⟩ :: dl) j acc :: k) env H = Ax P R Λ (.dops (⟨d, .call f args, g, od⟩ :: dl) j acc :: k) env H := by cases Λ <;> rfl
theorem st_cap {x : Operand} : sstep P R go Λ (.ops (⟨d, .cap x, g⟩ :: l) :: k) env H = Ax P R Λ (.ops (⟨d, .cap x, g⟩ :: l) :: k) env H := by cases Λ <;> rfl
theorem st_op (h : op.isCall = false) : sstep P R go Λ (.ops (⟨d, op, none⟩ :: l) :: k) env H = execS go ((eff op (evA env) (d.getD 0)).exec H) Λ d l k env := by cases op <;> first | (cases Λ <;> rfl) | cases h
theorem st_opG (h : op.isCall = false) : sstep P R go Λ (.ops (⟨d, op, some (s, want)⟩ :: l) :: k) env H = guardS go (env.f s) want Λ d op l k env H := by cases op <;> first | (cases Λ <;> rfl) | cases h
theorem st_d (h : op.isCall = false) : sstep P R go Λ (.dops (⟨d, op, none, od⟩ :: dl) j acc :: k) env H = execD go ((eff op (evA env) (d.getD 0)).exec H) (noConf acc od (eff op (evA env) (d.getD 0)).rds (eff op (evA env) (d.getD 0)).wrs) Λ d dl (j + 1) (addFp j (eff op (evA env) (d.getD 0)).rds (eff op (evA env) (d.getD 0)).wrs acc) k env := by cases op <;> first | (cases Λ <;> rfl) | cases h
theorem st_dG (h : op.isCall = false) : sstep P R go Λ (.dops (⟨d, op, some (s, want), od⟩ :: dl) j acc :: k) env H = guardD go (env.f s) want Λ d op od dl j acc k env H := by cases op <;> first | (cases Λ <;> rfl) | cases h
theorem st_again : sstep P R go (L :: Λ) (.again :: k) env H = L env H := rfl
theorem st_loop : sstep P R go Λ (.code (.loop c) :: k) env H = Ax P R Λ (.code (.loop c) :: k) env H := by cases Λ <;> rfl
end

/-! ### Operands -/
section
variable {env : Env} {t : Nat} {f : FuncId} {k : IntKind} {n : Int} {b : Bool} {s : ByteArray} {cs : Array Value}
theorem ev_tmp : evA env (.tmp t) = env.f t := rfl
theorem ev_func : evA env (.func f) = .f (.fn (.func f)) := rfl
theorem ev_int : evA env (.const (.int k n)) = .f (.int k n) := rfl
theorem ev_bool : evA env (.const (.bool b)) = .f (.bool b) := rfl
theorem ev_str : evA env (.const (.string s)) = .f (.str s) := rfl
theorem ev_nil : evA env (.const (.slice none 0 0)) = .f .nil := rfl
theorem ev_ptr : evA env (.const (.pointer none)) = .f (.lit (.pointer none)) := rfl
theorem ev_map : evA env (.const (.map none)) = .f (.lit (.map none)) := rfl
theorem ev_agg : evA env (.const (.agg cs)) = if cs.toList.all (·.oneCell') then .agg (cs.toList.map fun c => .f (FV.ofValue c)) else .f (.lit (.agg cs)) := rfl
theorem of_int : FV.ofValue (.int k n) = .int k n := rfl
theorem of_bool : FV.ofValue (.bool b) = .bool b := rfl
theorem of_str : FV.ofValue (.string s) = .str s := rfl
theorem of_nil : FV.ofValue (.slice none 0 0) = .nil := rfl
theorem of_ptr : FV.ofValue (.pointer none) = .lit (.pointer none) := rfl
theorem one_int : (Value.int k n).oneCell' = true := rfl
theorem one_bool : (Value.bool b).oneCell' = true := rfl
theorem one_str : (Value.string s).oneCell' = true := rfl
theorem one_nil : (Value.slice none 0 0).oneCell' = true := rfl
theorem one_ptr : (Value.pointer none).oneCell' = true := rfl
end

/-! ### Effects -/
def rdX (x : Option AV) (H : Heap) : Option (AV × Heap) := match x with
  | some v => some (v, H)
  | none => none
def mdX (x : Option (AV × (Nat × Option AObj))) (id : Nat) (H : Heap) : Option (AV × Heap) := match x with
  | some (v, y) => some (v, upd H id y)
  | none => none
def newX (o : Nat × Option AObj) (id : Nat) (v : Nat → AV) (cs : List AV) (H : Heap) : Option (AV × Heap) := match o with
  | (ver, none) => some (v (ver + 1), upd H id (ver + 1, some (.cells cs)))
  | _ => none
section
variable {H : Heap} {id src ver : Nat} {v : AV} {y : Nat × Option AObj} {f : Nat → AV} {cs : List AV} {k : Nat × Option AObj → Option AV} {k2 : Nat × Option AObj → Option (AV × (Nat × Option AObj))} {k3 : Nat × Option AObj → Nat × Option AObj → Option (AV × (Nat × Option AObj))} {ob : AObj}
theorem ex_pure : (Eff.pure v).exec H = some (v, H) := rfl
theorem ex_rd : (Eff.rd id k).exec H = rdX (k (H id)) H := by
  simp only [Eff.exec, rdX]; split <;> split <;> simp_all
theorem ex_md : (Eff.md id k2).exec H = mdX (k2 (H id)) id H := by
  simp only [Eff.exec, mdX]; split <;> split <;> simp_all
theorem ex_rm : (Eff.rm src id k3).exec H = mdX (k3 (H src) (H id)) id H := by
  simp only [Eff.exec, mdX]; split <;> split <;> simp_all
theorem ex_new : (newObj_ id f cs).exec H = newX (H id) id f cs H := by
  simp only [newObj_, Eff.exec, newX]
  split <;> rename_i h
  · split at h
    · rename_i ver e; simp only [Option.some.injEq, Prod.mk.injEq] at h; obtain ⟨rfl, rfl⟩ := h; rw [e]
    · cases h
  · split at h
    · cases h
    · rename_i hne
      split
      · rename_i ver e; exact absurd e (hne ver)
      · rfl
theorem rdX_some : rdX (some v) H = some (v, H) := rfl
theorem mdX_some : mdX (some (v, y)) id H = some (v, upd H id y) := rfl
theorem newX_none : newX (ver, none) id f cs H = some (f (ver + 1), upd H id (ver + 1, some (.cells cs))) := rfl
theorem alive_some : aliveOf ver (ver, some ob) = true := by simp [aliveOf]
theorem cellsOf_some : cellsOf ver (ver, some (.cells cs)) = some cs := by simp [cellsOf]
theorem rds_pure : (Eff.pure v).rds = [] := rfl
theorem rds_rd : (Eff.rd id k).rds = [id] := rfl
theorem rds_md : (Eff.md id k2).rds = [id] := rfl
theorem rds_rm : (Eff.rm src id k3).rds = [src, id] := rfl
theorem rds_new : (newObj_ id f cs).rds = [id] := rfl
theorem wrs_pure : (Eff.pure v).wrs = [] := rfl
theorem wrs_rd : (Eff.rd id k).wrs = [] := rfl
theorem wrs_md : (Eff.md id k2).wrs = [id] := rfl
theorem wrs_rm : (Eff.rm src id k3).wrs = [id] := rfl
theorem wrs_new : (newObj_ id f cs).wrs = [id] := rfl
theorem noConf_nil {od rd wr : List Nat} : noConf [] od rd wr = true := rfl
theorem noConf_cons {fp : Fp} {acc : List Fp} {od rd wr : List Nat} : noConf (fp :: acc) od rd wr = ((od.contains fp.i || fp.ok rd wr) && noConf acc od rd wr) := rfl
theorem fpOk {i : Nat} {rd wr rd' wr' : List Nat} : Fp.ok ⟨i, rd, wr⟩ rd' wr' = (disj wr (rd' ++ wr') && disj wr' rd) := rfl
theorem disj_nil {b : List Nat} : disj [] b = true := rfl
theorem disj_cons {x : Nat} {a b : List Nat} : disj (x :: a) b = (!b.contains x && disj a b) := rfl
theorem addFp_nil {n : Nat} {acc : List Fp} : addFp n [] [] acc = acc := rfl
theorem addFp_cons {n x : Nat} {r wr : List Nat} {acc : List Fp} : addFp n (x :: r) wr acc = ⟨n, x :: r, wr⟩ :: acc := rfl
end

section
variable {ρ : Operand → AV} {t : Nat}
/-- A function of values that an operation is. -/
def effNil : AV → Eff
  | .f (.fp cs) => .pure (.f (.fp cs))
  | .f (.fn f) => .pure (.f (.fn f))
  | .clo f cs => .pure (.clo f cs)
  | .ptr id ver off => .rd id fun o => if aliveOf ver o then some (.ptr id ver off) else none
  | _ => .no
def effPick (c a b : AV) : Eff := match c with
  | .f (.bool x) => .pure (pickA x a b)
  | _ => .no
def effBox (t : Nat) : AV → Eff
  | .agg cs => newObj_ t (fun v => .ptr t v 0) cs
  | a => if a.isOne then newObj_ t (fun v => .ptr t v 0) [a] else .no
def effBuild (x : Option (List AV)) : Eff := match x with
  | some cs => .pure (.agg cs)
  | none => .no
def effBuildS (t sz len : Nat) (x : Option (List AV)) : Eff := match x with
  | some cs => newObj_ t (fun v => .sl t v sz 0 len) cs
  | none => .no
def effLoad (n : Option Nat) : AV → Eff
  | .f (.fp cs) => match n with
    | none => match cs[0]? with
      | some c => .pure (.f c)
      | none => .no
    | some n => if n ≤ cs.length then .pure (.agg ((cs.take n).map .f)) else .no
  | .ptr id ver off => .rd id fun o => match cellsOf ver o with
    | some cs => match n with
      | none => cs[off]?
      | some n => if off + n ≤ cs.length then some (.agg ((cs.drop off).take n)) else none
    | none => none
  | _ => .no
def effStore (n : Nat) (a : AV) (v : Option (List AV)) : Eff := match a, v with
  | .ptr id ver off, some xs => .md id fun o => match cellsOf ver o with
    | some cs => if off + n ≤ cs.length then some (.any, (ver, some (.cells (splice cs off xs)))) else none
    | none => none
  | _, _ => .no
def fvX (x : Option FV) : Eff := match x with
  | some c => .pure (.f c)
  | none => .no
def effBin (op : BinOp) (tb : Bool) (a b : AV) : Eff := match a, b with
  | .f a, .f b => fvX (binF op tb a b)
  | _, _ => .no
def effUn (op : UnOp) (a : AV) : Eff := match a with
  | .f a => fvX (unF op a)
  | _ => .no
def effConvInt (k : IntKind) (a : AV) : Eff := match a with
  | .f (.int _ n) => .pure (.f (.int k (k.wrap n)))
  | _ => .no
def effConvStr (a : AV) : Eff := match a with
  | .f (.str s) => .pure (.f (.str s))
  | _ => .no
theorem ef_move {x : Operand} : eff (.move x) ρ t = .pure (ρ x) := rfl
theorem ef_nil {x : Operand} : eff (.nilChk x) ρ t = effNil (ρ x) := rfl
theorem ef_pick {c a b : Operand} : eff (.pick c a b) ρ t = effPick (ρ c) (ρ a) (ρ b) := rfl
theorem zeros_0 {z : List FV} : zeros 0 z = [] := rfl
theorem zeros_1 {z : List FV} : zeros 1 z = z.map .f := by simp [zeros]
theorem zeros_2 {z : List FV} : zeros 2 z = z.map .f ++ zeros 1 z := by simp [zeros, List.replicate_succ]
theorem zeros_3 {z : List FV} : zeros 3 z = z.map .f ++ zeros 2 z := by simp [zeros, List.replicate_succ]
theorem zeros_4 {z : List FV} : zeros 4 z = z.map .f ++ zeros 3 z := by simp [zeros, List.replicate_succ]
theorem zeros_5 {z : List FV} : zeros 5 z = z.map .f ++ zeros 4 z := by simp [zeros, List.replicate_succ]
theorem zeros_6 {z : List FV} : zeros 6 z = z.map .f ++ zeros 5 z := by simp [zeros, List.replicate_succ]
theorem zeros_7 {z : List FV} : zeros 7 z = z.map .f ++ zeros 6 z := by simp [zeros, List.replicate_succ]
theorem zeros_8 {z : List FV} : zeros 8 z = z.map .f ++ zeros 7 z := by simp [zeros, List.replicate_succ]
theorem zeros_9 {z : List FV} : zeros 9 z = z.map .f ++ zeros 8 z := by simp [zeros, List.replicate_succ]
theorem zeros_10 {z : List FV} : zeros 10 z = z.map .f ++ zeros 9 z := by simp [zeros, List.replicate_succ]
theorem zeros_11 {z : List FV} : zeros 11 z = z.map .f ++ zeros 10 z := by simp [zeros, List.replicate_succ]
theorem zeros_12 {z : List FV} : zeros 12 z = z.map .f ++ zeros 11 z := by simp [zeros, List.replicate_succ]
theorem zeros_13 {z : List FV} : zeros 13 z = z.map .f ++ zeros 12 z := by simp [zeros, List.replicate_succ]
theorem zeros_14 {z : List FV} : zeros 14 z = z.map .f ++ zeros 13 z := by simp [zeros, List.replicate_succ]
theorem zeros_15 {z : List FV} : zeros 15 z = z.map .f ++ zeros 14 z := by simp [zeros, List.replicate_succ]
theorem zeros_16 {z : List FV} : zeros 16 z = z.map .f ++ zeros 15 z := by simp [zeros, List.replicate_succ]
theorem ef_alloc {e : TypeId} {z : List FV} : eff (.alloc e z) ρ t = newObj_ t (fun v => .ptr t v 0) (z.map .f) := rfl
theorem ef_box {e : TypeId} {x : Operand} : eff (.box e x) ρ t = effBox t (ρ x) := rfl
theorem ef_build {z : List FV} {ps : List (Nat × Nat × Operand)} : eff (.build z ps) ρ t = effBuild (fillA (z.map .f) (ps.map fun (o, s, x) => (o, s, ρ x))) := rfl
theorem ef_buildS {e : TypeId} {sz len : Nat} {z : List FV} {ps : List (Nat × Operand)} : eff (.buildSlice e sz len z ps) ρ t = effBuildS t sz len (fillA (zeros len z) (ps.map fun (i, x) => (i * sz, sz, ρ x))) := rfl
theorem ef_load {n : Option Nat} {x : Operand} : eff (.load n x) ρ t = effLoad n (ρ x) := rfl
theorem ef_store {n : Nat} {a v : Operand} : eff (.store n a v) ρ t = effStore n (ρ a) ((ρ v).cellsN n) := rfl
theorem ef_bin {op : BinOp} {tb : Bool} {x y : Operand} : eff (.bin op tb x y) ρ t = effBin op tb (ρ x) (ρ y) := rfl
theorem ef_un {op : UnOp} {x : Operand} : eff (.un op x) ρ t = effUn op (ρ x) := rfl
theorem ef_convInt {k : IntKind} {x : Operand} : eff (.convInt k x) ρ t = effConvInt k (ρ x) := rfl
def effBytesStr (x : AV) : Eff := match x with
  | .f .nil => .pure (.f (.str ⟨#[]⟩))
  | .f (.fr sz l) => if sz = 1 then match bytesFr l with
    | some s => .pure (.f (.str ⟨s.toArray⟩))
    | none => .no else .no
  | .sl id ver sz off n => if sz = 1 then .rd id fun o => match cellsOf ver o with
    | some cs => if off + n ≤ cs.length then match bytesA ((cs.drop off).take n) with
      | some s => some (.f (.str ⟨s.toArray⟩))
      | none => none else none
    | none => none else .no
  | _ => .no
theorem ef_bytesStr {x : Operand} : eff (.bytesStr x) ρ t = effBytesStr (ρ x) := rfl
def effStrBytes (x : AV) : Eff := match x with
  | .f (.str s) => if s.size ≤ 140737488355328 then .pure (.f (.fr 1 (s.data.toList.map encU))) else .no
  | _ => .no
theorem ef_strBytes {x : Operand} : eff (.strBytes x) ρ t = effStrBytes (ρ x) := rfl
def effMark (x : AV) : Eff := match x with
  | .sl id ver sz off n => if sz = 1 ∧ n ≠ 0 then .md id fun o => match cellsOf ver o with
    | some cs => if off + n ≤ cs.length then match onesA ((cs.drop off).take n) with
      | some l => some (.f (.fr 1 l), (ver, none))
      | none => none else none
    | none => none else .no
  | _ => .no
theorem ef_mark {x : Operand} : eff (.mark x) ρ t = effMark (ρ x) := rfl
theorem ef_convStr {x : Operand} : eff (.convStr x) ρ t = effConvStr (ρ x) := rfl
def effClo (f : Fn) (caps : List AV) : Eff := match caps with
  | [] => .pure (.f (.fn f))
  | _ => .pure (.clo f caps)
def effMake (t sz bytes : Nat) (z : List FV) (l c : Option Int) : Eff := match l, c with
  | some n, some m => if 0 ≤ n ∧ n ≤ m ∧ m * bytes ≤ 140737488355328 ∧ m ≤ 9223372036854775807 then newObj_ t (fun v => .sl t v sz 0 n.toNat) (zeros n.toNat z) else .no
  | _, _ => .no
/-- Bounds, by values. -/
def boundsV (n : Nat) (lo hi : Option Int) : Option (Nat × Nat) := match hi, lo with
  | some h, some l => if 0 ≤ l ∧ l ≤ h ∧ h ≤ n then some (l.toNat, h.toNat) else none
  | _, _ => none
def effSlice (sz : Nat) (x : AV) (bd : Nat → Option (Nat × Nat)) : Eff := match x with
  | .f .nil => match bd 0 with
    | some _ => .pure (.f .nil)
    | none => .no
  | .f (.fr sz' l) => if sz' = sz then match bd l.length with
    | some (a, b) => .pure (.f (.fr sz ((l.take b).drop a)))
    | none => .no else .no
  | .sl id ver sz' off n => if sz' = sz then match bd n with
    | some (a, b) => .rd id fun o => if aliveOf ver o then some (.sl id ver sz (off + a) (b - a)) else none
    | none => .no else .no
  | _ => .no
def effSlice0 (x : AV) (lo hi mx : Option Int) : Eff := match lo, hi, mx with
  | some 0, some 0, some 0 => match x with
    | .f .nil => .pure (.f .nil)
    | .f (.fr _ _) => .pure (.f .nil)
    | .sl id ver _ _ _ => .rd id fun o => if aliveOf ver o then some (.f .nil) else none
    | _ => .no
  | _, _, _ => .no
def effSliceS (x : AV) (bd : Nat → Option (Nat × Nat)) : Eff := match x with
  | .f (.str s) => match bd s.size with
    | some (a, b) => .pure (.f (.str (s.extract a b)))
    | none => .no
  | _ => .no
def effFieldAddr (off : Nat) : AV → Eff
  | .f (.fp cs) => if off ≤ cs.length then .pure (.f (.fp (cs.drop off))) else .no
  | .ptr id ver o => .rd id fun ob => if aliveOf ver ob then some (.ptr id ver (o + off)) else none
  | _ => .no
def effField (off : Nat) (n : Option Nat) : AV → Eff
  | .agg cs => match n with
    | none => match cs[off]? with
      | some a => .pure a
      | none => .no
    | some n => if off + n ≤ cs.length then .pure (.agg ((cs.drop off).take n)) else .no
  | _ => .no
def effIndex (sz : Nat) (x : AV) (ix : Option Int) : Eff := match x, ix with
  | .f (.fr sz' l), some i => if sz' = sz ∧ 0 ≤ i then match l[i.toNat]? with
    | some cs => .pure (.f (.fp cs))
    | none => .no else .no
  | .sl id ver sz' off n, some i => if sz' = sz ∧ 0 ≤ i ∧ i < n then .rd id fun ob => if aliveOf ver ob then some (.ptr id ver ((off + i.toNat) * sz)) else none else .no
  | _, _ => .no
def effIndexS (x : AV) (ix : Option Int) : Eff := match x, ix with
  | .f (.str s), some i => if 0 ≤ i then match s.data.toList[i.toNat]? with
    | some b => .pure (.f (.int .u8 b.toNat))
    | none => .no else .no
  | _, _ => .no
def effExtract (x : AV) (i : Nat) : Eff := match x with
  | .tup vs => match vs[i]? with
    | some a => .pure a
    | none => .no
  | _ => .no
def effLen (str : Bool) : AV → Eff
  | .f (.str s) => if str = true then .pure (.f (.int .i64 s.size)) else .no
  | .f .nil => if str = false then .pure (.f (.int .i64 0)) else .no
  | .f (.fr _ l) => if str = false then .pure (.f (.int .i64 l.length)) else .no
  | .sl id ver _ _ n => if str = false then .rd id fun o => if aliveOf ver o then some (.f (.int .i64 n)) else none else .no
  | _ => .no
def effMax (x y : AV) : Eff := match x, y with
  | .f (.int k a), .f (.int k' b) => if k = k' then .pure (.f (.int k (max a b))) else .no
  | _, _ => .no
def effMin (x y : AV) : Eff := match x, y with
  | .f (.int k a), .f (.int k' b) => if k = k' then .pure (.f (.int k (min a b))) else .no
  | _, _ => .no
def effAppend (t : Nat) (str : Bool) (sz bytes : Nat) (s x : AV) : Eff := match s, x with
  | .f .nil, .sl id ver sz' off n => if str = false ∧ sz' = sz ∧ id ≠ t then .rm id t fun o o2 => match cellsOf ver o with
    | some cs => if (off + n) * sz ≤ cs.length then bornA sz bytes n ((cs.drop (off * sz)).take (n * sz)) t o2 else none
    | none => none else .no
  | .sl id ver sz1 off n, .sl id2 ver2 sz2 off2 n2 => if str = false ∧ sz1 = sz ∧ sz2 = sz ∧ id2 ≠ id then .rm id2 id fun o2 o => match cellsOf ver2 o2 with
    | some cs => if (off2 + n2) * sz ≤ cs.length then growA sz bytes ver off n n2 ((cs.drop (off2 * sz)).take (n2 * sz)) id o else none
    | none => none else .no
  | .f .nil, b => match srcF str sz b with
    | some (m, news) => .md t (bornA sz bytes m news t)
    | none => .no
  | .sl id ver sz' off n, b => if sz' = sz then match srcF str sz b with
    | some (m, news) => .md id (growA sz bytes ver off n m news id)
    | none => .no else .no
  | _, _ => .no
def effEqS (ks : List Nat) (neg : Bool) (a b : AV) : Eff := match a, b with
  | .agg xs, .agg ys => match eqL ks xs ys with
    | some b => .pure (.f (.bool (b != neg)))
    | none => .no
  | _, _ => .no
theorem ef_eqS {ks : List Nat} {neg : Bool} {x y : Operand} : eff (.eqS ks neg x y) ρ t = effEqS ks neg (ρ x) (ρ y) := rfl
def effIsNil (p neg : Bool) (a : AV) : Eff := match p, a with
  | false, .f .nil => .pure (.f .bit)
  | false, .f (.fr _ l) => .pure (.f (if l.length = 0 then .bit else .bool neg))
  | false, .sl id ver _ _ n => .rd id fun o => if aliveOf ver o then some (.f (if n = 0 then .bit else .bool neg)) else none
  | true, .f (.fp _) => .pure (.f (.bool neg))
  | true, .ptr id ver _ => .rd id fun o => if aliveOf ver o then some (.f (.bool neg)) else none
  | _, _ => .no
theorem ef_isNil {p neg : Bool} {x : Operand} : eff (.isNil p neg x) ρ t = effIsNil p neg (ρ x) := by
  cases p <;> simp only [eff] <;> cases ρ x <;> try rfl
  all_goals (rename_i x; cases x <;> rfl)
theorem ef_clo {f : Fn} {caps : List Operand} : eff (.clo f caps) ρ t = effClo f (caps.map ρ) := by
  cases caps <;> rfl
theorem ef_make {e sz bytes : Nat} {z : List FV} {l c : Operand} : eff (.makeSlice e sz bytes z l c) ρ t = effMake t sz bytes z (ρ l).toI (ρ c).toI := rfl
theorem bounds_v (n : Nat) (lo hi : Option Operand) : bounds n ρ lo hi = boundsV n (match lo with | some l => (ρ l).toI | none => some 0) (match hi with | some h => (ρ h).toI | none => some (n : Int)) := rfl
theorem ef_slice {sz : Nat} {x : Operand} {lo hi : Option Operand} : eff (.slice sz x lo hi) ρ t = effSlice sz (ρ x) (fun n => bounds n ρ lo hi) := rfl
theorem ef_slice0 {x lo hi mx : Operand} : eff (.slice0 x lo hi mx) ρ t = effSlice0 (ρ x) (ρ lo).toI (ρ hi).toI (ρ mx).toI := rfl
theorem ef_sliceS {x : Operand} {lo hi : Option Operand} : eff (.sliceS x lo hi) ρ t = effSliceS (ρ x) (fun n => bounds n ρ lo hi) := rfl
theorem ef_fieldAddr {off : Nat} {x : Operand} : eff (.fieldAddr off x) ρ t = effFieldAddr off (ρ x) := rfl
theorem ef_field {off : Nat} {n : Option Nat} {x : Operand} : eff (.field off n x) ρ t = effField off n (ρ x) := rfl
theorem ef_index {sz : Nat} {x ix : Operand} : eff (.indexAddr sz x ix) ρ t = effIndex sz (ρ x) (ρ ix).toI := rfl
theorem ef_indexS {x ix : Operand} : eff (.indexS x ix) ρ t = effIndexS (ρ x) (ρ ix).toI := rfl
theorem ef_extract {x : Operand} {i : Nat} : eff (.extract x i) ρ t = effExtract (ρ x) i := rfl
theorem ef_len {str : Bool} {x : Operand} : eff (.len str x) ρ t = effLen str (ρ x) := rfl
theorem ef_max {x y : Operand} : eff (.maxI x y) ρ t = effMax (ρ x) (ρ y) := rfl
theorem ef_min {x y : Operand} : eff (.minI x y) ρ t = effMin (ρ x) (ρ y) := rfl
theorem ef_append {str : Bool} {e sz bytes : Nat} {s x : Operand} : eff (.append str e sz bytes s x) ρ t = effAppend t str sz bytes (ρ s) (ρ x) := rfl
def effCopy (sz : Nat) (d s : AV) : Eff := match d, s with
  | .sl id ver sz1 off n, .sl id2 ver2 sz2 off2 n2 => if sz1 = sz ∧ sz2 = sz then (if id2 = id then .md id (copyS sz ver off n ver2 off2 n2) else .rm id2 id (copyR sz ver off n ver2 off2 n2)) else .no
  | .sl id ver sz1 off n, .f (.fr sz2 l) => if sz1 = sz ∧ sz2 = sz then .md id (copyN sz ver off n l.length (l.flatten.map .f)) else .no
  | .sl id ver sz1 off n, .f .nil => if sz1 = sz then .md id (copyN sz ver off n 0 []) else .no
  | _, _ => .no
theorem ef_copy {sz : Nat} {d s : Operand} : eff (.copy sz d s) ρ t = effCopy sz (ρ d) (ρ s) := rfl
def effClear (sz : Nat) (z : List FV) : AV → Eff
  | .sl id ver sz1 off n => if sz1 = sz then .md id fun o => match cellsOf ver o with
    | some cs => if (off + n) * sz ≤ cs.length then some (.tup [], (ver, some (.cells (splice cs (off * sz) (zeros n z))))) else none
    | none => none else .no
  | _ => .no
theorem ef_clear {sz : Nat} {z : List FV} {x : Operand} : eff (.clear sz z x) ρ t = effClear sz z (ρ x) := rfl
theorem ef_mkMap : eff .mkMap ρ t = .md t fun o => match o with
    | (ver, none) => some (.map t (ver + 1), (ver + 1, some (.map [])))
    | _ => none := rfl
def effMapUpd (m k : AV) (x : Option Value) : Eff := match m, k, x with
  | .map id ver, .f (.str s), some x => .md id fun o => match mapOfH ver o with
    | some es => some (.any, (ver, some (.map (mSet s x es))))
    | none => none
  | _, _, _ => .no
theorem ef_mapUpd {m k x : Operand} : eff (.mapUpd m k x) ρ t = effMapUpd (ρ m) (ρ k) (ρ x).plainVal := rfl
def effLookup (z : Value) (ok : Bool) (m k : AV) : Eff := match m, k with
  | .map id ver, .f (.str s) => .rd id fun o => match mapOfH ver o with
    | some es => some (lookV z ok (mGet s es))
    | none => none
  | .f (.fm es), .f (.str s) => .pure (lookV z ok (mGet s es))
  | _, _ => .no
theorem ef_lookup {z : Value} {ok : Bool} {m k : Operand} : eff (.lookup z ok m k) ρ t = effLookup z ok (ρ m) (ρ k) := rfl
theorem mapOfH_some {ver : Nat} {m : List (ByteArray × Value)} : mapOfH ver (ver, some (.map m)) = some m := by simp [mapOfH]
theorem toI_int {k : IntKind} {n : Int} : (AV.f (.int k n)).toI = some n := rfl
end
theorem ic_move : ∀ x, LOp.isCall (.move x) = false := fun _ => rfl
theorem ic_nilChk : ∀ x, LOp.isCall (.nilChk x) = false := fun _ => rfl
theorem ic_pick : ∀ a b c, LOp.isCall (.pick a b c) = false := fun _ _ _ => rfl
theorem ic_alloc : ∀ e z, LOp.isCall (.alloc e z) = false := fun _ _ => rfl
theorem ic_box : ∀ e x, LOp.isCall (.box e x) = false := fun _ _ => rfl
theorem ic_build : ∀ z l, LOp.isCall (.build z l) = false := fun _ _ => rfl
theorem ic_buildSlice : ∀ e s n z l, LOp.isCall (.buildSlice e s n z l) = false := fun _ _ _ _ _ => rfl
theorem ic_load : ∀ n x, LOp.isCall (.load n x) = false := fun _ _ => rfl
theorem ic_store : ∀ n a v, LOp.isCall (.store n a v) = false := fun _ _ _ => rfl
theorem ic_bin : ∀ o b x y, LOp.isCall (.bin o b x y) = false := fun _ _ _ _ => rfl
theorem ic_isNil : ∀ p o x, LOp.isCall (.isNil p o x) = false := fun _ _ _ => rfl
theorem ic_eqS : ∀ k o x y, LOp.isCall (.eqS k o x y) = false := fun _ _ _ _ => rfl
theorem ic_un : ∀ o x, LOp.isCall (.un o x) = false := fun _ _ => rfl
theorem ic_convInt : ∀ k x, LOp.isCall (.convInt k x) = false := fun _ _ => rfl
theorem ic_convStr : ∀ x, LOp.isCall (.convStr x) = false := fun _ => rfl
theorem ic_bytesStr : ∀ x, LOp.isCall (.bytesStr x) = false := fun _ => rfl
theorem ic_strBytes : ∀ x, LOp.isCall (.strBytes x) = false := fun _ => rfl
theorem ic_mark : ∀ x, LOp.isCall (.mark x) = false := fun _ => rfl
theorem ic_clo : ∀ f l, LOp.isCall (.clo f l) = false := fun _ _ => rfl
theorem ic_makeSlice : ∀ e s b z l c, LOp.isCall (.makeSlice e s b z l c) = false := fun _ _ _ _ _ _ => rfl
theorem ic_slice : ∀ s x l h, LOp.isCall (.slice s x l h) = false := fun _ _ _ _ => rfl
theorem ic_slice0 : ∀ x l h m, LOp.isCall (.slice0 x l h m) = false := fun _ _ _ _ => rfl
theorem ic_sliceS : ∀ x l h, LOp.isCall (.sliceS x l h) = false := fun _ _ _ => rfl
theorem ic_fieldAddr : ∀ o x, LOp.isCall (.fieldAddr o x) = false := fun _ _ => rfl
theorem ic_field : ∀ o n x, LOp.isCall (.field o n x) = false := fun _ _ _ => rfl
theorem ic_indexAddr : ∀ s x i, LOp.isCall (.indexAddr s x i) = false := fun _ _ _ => rfl
theorem ic_indexS : ∀ x i, LOp.isCall (.indexS x i) = false := fun _ _ => rfl
theorem ic_extract : ∀ x i, LOp.isCall (.extract x i) = false := fun _ _ => rfl
theorem ic_len : ∀ s x, LOp.isCall (.len s x) = false := fun _ _ => rfl
theorem ic_maxI : ∀ x y, LOp.isCall (.maxI x y) = false := fun _ _ => rfl
theorem ic_minI : ∀ x y, LOp.isCall (.minI x y) = false := fun _ _ => rfl
theorem ic_copy : ∀ s x y, LOp.isCall (.copy s x y) = false := fun _ _ _ => rfl
theorem ic_clear : ∀ s z x, LOp.isCall (.clear s z x) = false := fun _ _ _ => rfl
theorem ic_mkMap : LOp.isCall .mkMap = false := rfl
theorem ic_mapUpd : ∀ x y z, LOp.isCall (.mapUpd x y z) = false := fun _ _ _ => rfl
theorem ic_lookup : ∀ z o x y, LOp.isCall (.lookup z o x y) = false := fun _ _ _ _ => rfl
theorem ic_append : ∀ a e s b x y, LOp.isCall (.append a e s b x y) = false := fun _ _ _ _ _ _ => rfl
/-! ### Wraps -/
theorem wrap64 {n : Int} (h1 : -9223372036854775808 ≤ n) (h2 : n ≤ 9223372036854775807) : IntKind.i64.wrap n = n := by
  rw [IntKind.wrap_i64]; omega
end Go.Proofs.YtaiajaibcpkceaaDoor
