/-
  The abstract machine: a run of straight code, as far as it goes by itself. No statement of the seat is proved here; no conditions.
-/
import Derived.Test.YteeemcghdhdodaaDoorEngL
namespace Go.Proofs.YteeemcghdhdodaaDoor
open Go.RowKit
set_option linter.unusedVariables false
set_option linter.unusedSimpArgs false

section
variable (P : Program) (R : Env → Heap → Prop)
def condS (go : Lams → List It → Env → Heap → Prop) (c : AV) (Λ : Lams) (a b : LCode) (k : List It) (env : Env) (H : Heap) : Prop := match c with
  | .f (.bool true) => go Λ (.code a :: k) env H
  | .f (.bool false) => go Λ (.code b :: k) env H
  | .f .bit => go Λ (.code a :: k) env H ∧ go Λ (.code b :: k) env H
  | _ => False
def execS (go : Lams → List It → Env → Heap → Prop) (x : Option (AV × Heap)) (Λ : Lams) (d : Option Nat) (l : List LO) (k : List It) (env : Env) : Prop := match x with
  | some (v, H') => go Λ (.ops l :: k) (putE env d v) H'
  | none => False
def guardS (go : Lams → List It → Env → Heap → Prop) (g : AV) (want : Bool) (Λ : Lams) (d : Option Nat) (op : LOp) (l : List LO) (k : List It) (env : Env) (H : Heap) : Prop := match g with
  | .f (.bool b) => if b = want then execS go ((eff op (evA env) (d.getD 0)).exec H) Λ d l k env else go Λ (.ops l :: k) (putE env d (.tup [])) H
  | .tup [] => go Λ (.ops l :: k) (putE env d (.tup [])) H
  | _ => False
def execD (go : Lams → List It → Env → Heap → Prop) (x : Option (AV × Heap)) (ok : Bool) (Λ : Lams) (d : Option Nat) (l : List DO) (j : Nat) (acc : List Fp) (k : List It) (env : Env) : Prop := match x with
  | some (v, H') => ok = true ∧ go Λ (.dops l j acc :: k) (putE env d v) H'
  | none => False
def guardD (go : Lams → List It → Env → Heap → Prop) (g : AV) (want : Bool) (Λ : Lams) (d : Option Nat) (op : LOp) (od : List Nat) (l : List DO) (j : Nat) (acc : List Fp) (k : List It) (env : Env) (H : Heap) : Prop := match g with
  | .f (.bool b) => if b = want then execD go ((eff op (evA env) (d.getD 0)).exec H) (noConf acc od (eff op (evA env) (d.getD 0)).rds (eff op (evA env) (d.getD 0)).wrs) Λ d l (j + 1) (addFp j (eff op (evA env) (d.getD 0)).rds (eff op (evA env) (d.getD 0)).wrs acc) k env
    else go Λ (.dops l (j + 1) acc :: k) (putE env d (.tup [])) H
  | .tup [] => go Λ (.dops l (j + 1) acc :: k) (putE env d (.tup [])) H
  | _ => False
def exitS (go : Lams → List It → Env → Heap → Prop) (p : Option (Lams × List It)) (env : Env) (H : Heap) : Prop := match p with
  | some (Λ', k') => go Λ' k' env H
  | none => False
def sstep (go : Lams → List It → Env → Heap → Prop) : Lams → List It → Env → Heap → Prop
  | Λ, [], env, H => R env H
  | Λ, .code .skip :: k, env, H => go Λ k env H
  | Λ, .code (.seq a b) :: k, env, H => go Λ (.code a :: .code b :: k) env H
  | Λ, .code (.block id c) :: k, env, H => go Λ (.code c :: .blk id :: k) env H
  | Λ, .blk id :: k, env, H => go Λ k env H
  | Λ, .code .ret :: k, env, H => R env H
  | Λ, .code (.exit id) :: k, env, H => exitS go (popTo id Λ k) env H
  | Λ, .code (.cond c a b) :: k, env, H => condS go (evA env c) Λ a b k env H
  | Λ, .code (.reg l) :: k, env, H => go Λ (.ops l :: k) env H
  | Λ, .code (.draw l) :: k, env, H => go Λ (.dops l 0 [] :: k) env H
  | Λ, .ops [] :: k, env, H => go Λ k env H
  | Λ, .ops (⟨d, .call f args, g⟩ :: l) :: k, env, H => Ax P R Λ (.ops (⟨d, .call f args, g⟩ :: l) :: k) env H
  | Λ, .ops (⟨d, .cap x, g⟩ :: l) :: k, env, H => Ax P R Λ (.ops (⟨d, .cap x, g⟩ :: l) :: k) env H
  | Λ, .ops (⟨d, op, none⟩ :: l) :: k, env, H => execS go ((eff op (evA env) (d.getD 0)).exec H) Λ d l k env
  | Λ, .ops (⟨d, op, some (s, want)⟩ :: l) :: k, env, H => guardS go (env.f s) want Λ d op l k env H
  | Λ, .dops [] j acc :: k, env, H => go Λ k env H
  | Λ, .dops (⟨d, .call f args, g, od⟩ :: l) j acc :: k, env, H => Ax P R Λ (.dops (⟨d, .call f args, g, od⟩ :: l) j acc :: k) env H
  | Λ, .dops (⟨d, .cap x, g, od⟩ :: l) j acc :: k, env, H => Ax P R Λ (.dops (⟨d, .cap x, g, od⟩ :: l) j acc :: k) env H
  | Λ, .dops (⟨d, op, none, od⟩ :: l) j acc :: k, env, H => execD go ((eff op (evA env) (d.getD 0)).exec H) (noConf acc od (eff op (evA env) (d.getD 0)).rds (eff op (evA env) (d.getD 0)).wrs) Λ d l (j + 1) (addFp j (eff op (evA env) (d.getD 0)).rds (eff op (evA env) (d.getD 0)).wrs acc) k env
  | Λ, .dops (⟨d, op, some (s, want), od⟩ :: l) j acc :: k, env, H => guardD go (env.f s) want Λ d op od l j acc k env H
  | L :: Λ, .again :: k, env, H => L env H
  | [], .again :: k, env, H => False
  | Λ, .code (.loop c) :: k, env, H => Ax P R Λ (.code (.loop c) :: k) env H
/-- As far as it goes without a call or a loop. -/
def srun : Nat → Lams → List It → Env → Heap → Prop
  | 0, Λ, k, env, H => Ax P R Λ k env H
  | n + 1, Λ, k, env, H => sstep P R (srun n) Λ k env H
end

section
variable {P : Program} {R : Env → Heap → Prop}
theorem gd_none (env : Env) : gd none env = some true := rfl
theorem gd_of {env : Env} {s : Nat} {want b : Bool} (h : env.f s = .f (.bool b)) : gd (some (s, want)) env = some (b == want) := by
  simp only [gd, h]
theorem gd_tup {env : Env} {s : Nat} {want : Bool} (h : env.f s = .tup []) : gd (some (s, want)) env = some false := by
  simp only [gd, h]
theorem srun_sound : ∀ (n : Nat) (Λ : Lams) (k : List It) (env : Env) (H : Heap), srun P R n Λ k env H → Ax P R Λ k env H := by
  intro n
  induction n with
  | zero => intro Λ k env H h; exact h
  | succ n ih =>
    intro Λ k env H h
    have hex : ∀ {d : Option Nat} {op : LOp} {g : Option (Nat × Bool)} {l : List LO} {k : List It}, gd g env = some true → execS (srun P R n) ((eff op (evA env) (d.getD 0)).exec H) Λ d l k env → Ax P R Λ (.ops (⟨d, op, g⟩ :: l) :: k) env H := by
      intro d op g l k hg h
      unfold execS at h
      split at h
      · rename_i v H' hx; exact ax_op hg hx (ih _ _ _ _ h)
      · exact h.elim
    have hexD : ∀ {d : Option Nat} {op : LOp} {g : Option (Nat × Bool)} {od : List Nat} {l : List DO} {j : Nat} {acc : List Fp} {k : List It}, gd g env = some true →
        execD (srun P R n) ((eff op (evA env) (d.getD 0)).exec H) (noConf acc od (eff op (evA env) (d.getD 0)).rds (eff op (evA env) (d.getD 0)).wrs) Λ d l (j + 1) (addFp j (eff op (evA env) (d.getD 0)).rds (eff op (evA env) (d.getD 0)).wrs acc) k env → Ax P R Λ (.dops (⟨d, op, g, od⟩ :: l) j acc :: k) env H := by
      intro d op g od l j acc k hg h
      unfold execD at h
      split at h
      · rename_i v H' hx; exact ax_dOp hg rfl hx h.1 (ih _ _ _ _ h.2)
      · exact h.elim
    simp only [srun] at h
    unfold sstep at h
    split at h
    · exact ax_nil h
    · exact ax_skip (ih _ _ _ _ h)
    · exact ax_seq (ih _ _ _ _ h)
    · exact ax_block (ih _ _ _ _ h)
    · exact ax_blk (ih _ _ _ _ h)
    · exact ax_ret h
    · unfold exitS at h
      split at h
      · rename_i e; exact ax_exit e (ih _ _ _ _ h)
      · exact h.elim
    · unfold condS at h
      split at h
      · rename_i e; exact ax_cond e (fun _ => ih _ _ _ _ h) (fun hb => by cases hb)
      · rename_i e; exact ax_cond e (fun hb => by cases hb) (fun _ => ih _ _ _ _ h)
      · rename_i e; exact ax_condBit e (ih _ _ _ _ h.1) (ih _ _ _ _ h.2)
      · exact h.elim
    · exact ax_reg (ih _ _ _ _ h)
    · exact ax_draw (ih _ _ _ _ h)
    · exact ax_opsNil (ih _ _ _ _ h)
    · exact h
    · exact h
    · exact hex rfl h
    · unfold guardS at h
      split at h
      · rename_i b e
        split at h
        · rename_i hb; exact hex (by rw [gd_of e, hb]; simp) h
        · rename_i hb; exact ax_opSkip (by rw [gd_of e]; simp [hb]) (ih _ _ _ _ h)
      · rename_i e; exact ax_opSkip (gd_tup e) (ih _ _ _ _ h)
      · exact h.elim
    · exact ax_dNil (ih _ _ _ _ h)
    · exact h
    · exact h
    · exact hexD rfl h
    · unfold guardD at h
      split at h
      · rename_i b e
        split at h
        · rename_i hb; exact hexD (by rw [gd_of e, hb]; simp) h
        · rename_i hb; exact ax_dSkip (by rw [gd_of e]; simp [hb]) (ih _ _ _ _ h)
      · rename_i e; exact ax_dSkip (gd_tup e) (ih _ _ _ _ h)
      · exact h.elim
    · exact ax_again h
    · exact h.elim
    · exact h
end

/-! ### Rules for runs -/
section
variable {go : Lams → List It → Env → Heap → Prop} {Λ Λ' : Lams} {a b : LCode} {k k' : List It} {env : Env} {H H' : Heap} {d : Option Nat} {l : List LO} {ld : List DO} {v : AV} {op : LOp} {j : Nat} {acc : List Fp} {od : List Nat} {ok : Bool}
theorem condS_true : condS go (.f (.bool true)) Λ a b k env H = go Λ (.code a :: k) env H := rfl
theorem condS_bit : condS go (.f .bit) Λ a b k env H = (go Λ (.code a :: k) env H ∧ go Λ (.code b :: k) env H) := rfl
theorem condS_false : condS go (.f (.bool false)) Λ a b k env H = go Λ (.code b :: k) env H := rfl
theorem execS_some : execS go (some (v, H')) Λ d l k env = go Λ (.ops l :: k) (putE env d v) H' := rfl
theorem guardS_bool {x want : Bool} : guardS go (.f (.bool x)) want Λ d op l k env H = if x = want then execS go ((eff op (evA env) (d.getD 0)).exec H) Λ d l k env else go Λ (.ops l :: k) (putE env d (.tup [])) H := rfl
theorem guardS_tt : guardS go (.f (.bool true)) true Λ d op l k env H = execS go ((eff op (evA env) (d.getD 0)).exec H) Λ d l k env := rfl
theorem guardS_ff : guardS go (.f (.bool false)) false Λ d op l k env H = execS go ((eff op (evA env) (d.getD 0)).exec H) Λ d l k env := rfl
theorem guardS_tf : guardS go (.f (.bool true)) false Λ d op l k env H = go Λ (.ops l :: k) (putE env d (.tup [])) H := rfl
theorem guardS_ft : guardS go (.f (.bool false)) true Λ d op l k env H = go Λ (.ops l :: k) (putE env d (.tup [])) H := rfl
theorem execD_some : execD go (some (v, H')) true Λ d ld j acc k env = go Λ (.dops ld j acc :: k) (putE env d v) H' := by simp [execD]
theorem guardD_tt : guardD go (.f (.bool true)) true Λ d op od ld j acc k env H = execD go ((eff op (evA env) (d.getD 0)).exec H) (noConf acc od (eff op (evA env) (d.getD 0)).rds (eff op (evA env) (d.getD 0)).wrs) Λ d ld (j + 1) (addFp j (eff op (evA env) (d.getD 0)).rds (eff op (evA env) (d.getD 0)).wrs acc) k env := rfl
theorem guardD_ff : guardD go (.f (.bool false)) false Λ d op od ld j acc k env H = execD go ((eff op (evA env) (d.getD 0)).exec H) (noConf acc od (eff op (evA env) (d.getD 0)).rds (eff op (evA env) (d.getD 0)).wrs) Λ d ld (j + 1) (addFp j (eff op (evA env) (d.getD 0)).rds (eff op (evA env) (d.getD 0)).wrs acc) k env := rfl
theorem guardD_tf : guardD go (.f (.bool true)) false Λ d op od ld j acc k env H = go Λ (.dops ld (j + 1) acc :: k) (putE env d (.tup [])) H := rfl
theorem guardD_ft : guardD go (.f (.bool false)) true Λ d op od ld j acc k env H = go Λ (.dops ld (j + 1) acc :: k) (putE env d (.tup [])) H := rfl
theorem guardS_tup {want : Bool} : guardS go (.tup []) want Λ d op l k env H = go Λ (.ops l :: k) (putE env d (.tup [])) H := rfl
theorem guardD_tup {want : Bool} : guardD go (.tup []) want Λ d op od ld j acc k env H = go Λ (.dops ld (j + 1) acc :: k) (putE env d (.tup [])) H := rfl
theorem exitS_some : exitS go (some (Λ', k')) env H = go Λ' k' env H := rfl
theorem putE_some {n d : Nat} {f : Nat → AV} (h : decide (d < n) = true) : putE ⟨n, f⟩ (some d) v = ⟨n, upd f d v⟩ := by simp only [putE, if_pos (of_decide_eq_true h)]
theorem putE_none : putE env none v = env := rfl
theorem upd_get {α : Type} {f : Nat → α} {i j : Nat} {x : α} : upd f i x j = if j = i then x else f j := rfl
theorem pickA_true {x y : AV} : pickA true x y = x := by unfold pickA; split <;> rfl
theorem pickA_false {x y : AV} : pickA false x y = y := by unfold pickA; split <;> rfl
theorem pickA_bool {c x y : Bool} : pickA c (.f (.bool x)) (.f (.bool y)) = .f (.bool (if c then x else y)) := rfl
theorem popTo_blk {id id' : Nat} : popTo id Λ (.blk id' :: k) = if id' = id then some (Λ, k) else popTo id Λ k := by
  cases Λ <;> rfl
theorem popTo_again {id : Nat} {L : Env → Heap → Prop} : popTo id (L :: Λ) (.again :: k) = popTo id Λ k := rfl
theorem popTo_code {id : Nat} {c : LCode} : popTo id Λ (.code c :: k) = popTo id Λ k := by
  cases Λ <;> rfl
/-- What stands undecided is parted. -/
theorem condS_split {x : Bool} (h1 : x = true → go Λ (.code a :: k) env H) (h2 : x = false → go Λ (.code b :: k) env H) : condS go (.f (.bool x)) Λ a b k env H := by
  cases x
  · exact h2 rfl
  · exact h1 rfl
end
end Go.Proofs.YteeemcghdhdodaaDoor
