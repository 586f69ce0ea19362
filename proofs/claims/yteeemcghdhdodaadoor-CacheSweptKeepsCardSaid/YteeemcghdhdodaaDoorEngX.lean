/-
  The abstract machine: calls in drawn regions whose results are objects; calls of closures. No statement of the seat is proved here; no conditions.
-/
import Derived.Test.YteeemcghdhdodaaDoorEngW
namespace Go.Proofs.YteeemcghdhdodaaDoor
open Go.RowKit
set_option linter.unusedVariables false
set_option linter.unusedSimpArgs false

theorem putHcs_out {t i : Nat} : ∀ {rs : List RC} {k : Nat} {H : Heap}, (∀ j, k ≤ j → j < nextCs k rs → i ≠ t + 1000 * j) → putHcs t k rs H i = H i
  | [], _, _, _ => rfl
  | .v _ :: rs, k, H, h => putHcs_out (rs := rs) h
  | .own sz n cs :: rs, k, H, h => by
    have h1 : i ≠ t + 1000 * k := h k (Nat.le_refl _) (Nat.lt_of_lt_of_le (Nat.lt_succ_self k) (nextCs_le rs (k + 1)))
    exact (putHcs_out (rs := rs) (k := k + 1) fun j h1 h2 => h j (by omega) h2).trans (upd_ne _ _ _ _ h1)
theorem putHs_out {t i : Nat} : ∀ {rs : List RS} {k : Nat} {H : Heap}, (∀ j, k ≤ j → j < nextSs k rs → i ≠ t + 1000 * j) → putHs t k rs H i = H i
  | [], _, _, _ => rfl
  | .c r :: rs, k, H, h => (putHs_out (rs := rs) fun j h1 h2 => h j (Nat.le_trans (nextC_le k r) h1) h2).trans (putHcs_out (rs := [r]) fun j h1 h2 => h j h1 (Nat.lt_of_lt_of_le h2 (nextSs_le rs _)))
  | .agg l :: rs, k, H, h => (putHs_out (rs := rs) fun j h1 h2 => h j (Nat.le_trans (nextCs_le l k) h1) h2).trans (putHcs_out (rs := l) fun j h1 h2 => h j h1 (Nat.lt_of_lt_of_le h2 (nextSs_le rs _)))
def wrL (t : Nat) : Nat → List Nat
  | 0 => []
  | n + 1 => (t + 1000 * n) :: wrL t n
theorem wrL_0 {t : Nat} : wrL t 0 = [] := rfl
theorem wrL_1 {t : Nat} : wrL t 1 = [t] := rfl
theorem wrL_2 {t : Nat} : wrL t 2 = [t + 1000, t] := rfl
theorem mem_wrL {t i : Nat} : ∀ {n : Nat}, i ∈ wrL t n ↔ ∃ j, j < n ∧ i = t + 1000 * j
  | 0 => by simp [wrL]
  | n + 1 => by
    rw [wrL, List.mem_cons, mem_wrL (n := n)]
    constructor
    · rintro (h | ⟨j, h1, h2⟩)
      · exact ⟨n, by omega, h⟩
      · exact ⟨j, by omega, h2⟩
    · rintro ⟨j, h1, h2⟩
      by_cases e : j = n
      · subst e; exact .inl h2
      · exact .inr ⟨j, by omega, h2⟩
theorem nss_n {k : Nat} : nextSs k [] = k := rfl
theorem nss_c {k : Nat} {r : RC} {rs : List RS} : nextSs k (.c r :: rs) = nextSs (nextC k r) rs := rfl
theorem nss_a {k : Nat} {l : List RC} {rs : List RS} : nextSs k (.agg l :: rs) = nextSs (nextCs k l) rs := rfl
section
variable {P : Program} {R : Env → Heap → Prop} {Λ : Lams} {k : List It} {env : Env} {H : Heap} {d j : Nat} {f : Operand} {args : List Operand} {g : Option (Nat × Bool)} {los : List LO} {dos : List DO} {acc : List Fp} {od : List Nat} {fid : FuncId} {args' caps : List AV} {rs : List RS}
theorem callDO (hg : gd g env = some true) (hF : FRet P fid args' rs) (hfn : evA env f = .f (.fn (.func fid))) (ha : LeL (args.map (evA env)) args') (hp : args'.all AV.pure = true) (hfree : Free d H) (hk : noConf acc od [] (wrL d (nextSs 0 rs)) = true)
    (h : srun P R 300 Λ (.dops dos (j + 1) (addFp j [] (wrL d (nextSs 0 rs)) acc) :: k) (putE env (some d) (oneOrTup (putS d 0 rs))) (putHs d 0 rs H)) : Ax P R Λ (.dops (⟨some d, .call f args, g, od⟩ :: dos) j acc :: k) env H := by
  have out : ∀ (H : Heap) id, id ∉ wrL d (nextSs 0 rs) → putHs d 0 rs H id = H id := fun H id hid => putHs_out fun j _ h2 e => hid (mem_wrL.2 ⟨j, h2, e⟩)
  refine ax_dCall (f := f) (args := args) (rd := []) (wr := wrL d (nextSs 0 rs)) (v := oneOrTup (putS d 0 rs)) (H' := putHs d 0 rs H) rfl hg (out H) (fun H2 _ hw => ?_) hk (srun_sound 300 _ _ _ _ h)
  rw [hfn]
  refine ACall.mono ((call_p (t := d) hF hp fun j hj => by rw [hw _ (mem_wrL.2 ⟨j, hj, rfl⟩)]; exact hfree j).le ha) fun r H' ⟨h1, h2⟩ => ⟨h1, ?_⟩
  rw [h2]
  funext id
  unfold mix
  split
  · rename_i hid; exact putHs_at (hw id hid)
  · rename_i hid; exact out H2 id hid
/-- A closure is called. -/
theorem callC (hg : gd g env = some true) (hfn : evA env f = .clo (.func fid) caps) (hF : FRet P fid args' rs) (ha : LeL (args.map (evA env) ++ caps) args') (hp : args'.all AV.pure = true) (hfree : Free d H)
    (h : srun P R 300 Λ (.ops los :: k) (putE env (some d) (oneOrTup (putS d 0 rs))) (putHs d 0 rs H)) : Ax P R Λ (.ops (⟨some d, .call f args, g⟩ :: los) :: k) env H :=
  ax_call (f := f) (args := args) rfl hg (Q := fun r H' => r = oneOrTup (putS d 0 rs) ∧ H' = putHs d 0 rs H) (by rw [hfn]; exact (call_p (t := d) hF hp (fun j _ => hfree j)).le ha) fun v H' hq => by obtain ⟨h1, h2⟩ := hq; subst h1 h2; exact srun_sound 300 _ _ _ _ h
end
section
variable {H H' : Heap} {nw : List Nat}
theorem SlotsOk.set : ∀ {l : List FV} {i : Nat} {a : AV}, (∀ x, l[i]? = some x → SlotOk H H' nw a (.f x)) → SlotsOk H H' nw ((l.map AV.f).set i a) (l.map .f)
  | [], _, _, _ => by simp [SlotsOk]
  | x :: l, 0, a, h => ⟨h x rfl, SlotsOk.fs rfl⟩
  | x :: l, i + 1, a, h => ⟨.inl rfl, SlotsOk.set (l := l) fun y hy => h y (by simpa using hy)⟩
theorem kl_1 {i : Nat} {H : Heap} : killL [i] H = upd H i ((H i).1, none) := rfl
end
end Go.Proofs.YteeemcghdhdodaaDoor
