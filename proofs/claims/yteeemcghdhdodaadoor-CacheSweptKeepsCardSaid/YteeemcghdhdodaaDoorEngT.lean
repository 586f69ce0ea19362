/-
  The abstract machine: loops that change a few slots, undecided tests. No statement of the seat is proved here; no conditions.
-/
import Derived.Test.YteeemcghdhdodaaDoorEngS
namespace Go.Proofs.YteeemcghdhdodaaDoor
open Go.RowKit
set_option linter.unusedVariables false
set_option linter.unusedSimpArgs false

theorem so_nil {H H' : Heap} {nw : List Nat} : SlotsOk H H' nw [] [] = True := by simp [SlotsOk]
theorem so_cons {H H' : Heap} {nw : List Nat} {a b : AV} {l l' : List AV} : SlotsOk H H' nw (a :: l) (b :: l') = (SlotOk H H' nw a b ∧ SlotsOk H H' nw l l') := by rw [SlotsOk]
theorem so_same {H H' : Heap} {nw : List Nat} {l : List FV} : SlotsOk H H' nw (l.map .f) (l.map .f) = True := by simp [SlotsOk.fs rfl]
def cellsG : Option AObj → AObj
  | some ob => ob
  | none => .cells []
theorem cellsG_some {ob : AObj} : cellsG (some ob) = ob := rfl
/-- A loop: M what changes in it, ul the slots and ol the objects that stay. -/
theorem ax_loopU {P : Program} {env : Env} {H : Heap} {S : Type} {R : Env → Heap → Prop} {Λ : Lams} {c : LCode} {k : List It} (n : Nat) (ul ol : List Nat) (M : S → List (Nat × AV)) (HH : S → List (Nat × Nat × AObj)) (inv : S → Prop) (μ : S → Nat) (s0 : S) (nw : List Nat) (h0 : inv s0)
    (hw : Wk env H nw n (M s0 ++ ul.map fun t => (t, env.f t)) (HH s0 ++ ol.map fun i => (i, (H i).1, cellsG (H i).2)))
    (hr : ∀ s, inv s → Ax P R ((fun env' H' => ∃ s', inv s' ∧ μ s' < μ s ∧ Wk env' H' [] n (M s' ++ ul.map fun t => (t, env.f t)) (HH s' ++ ol.map fun i => (i, (H i).1, cellsG (H i).2))) :: Λ) (.code c :: .again :: k) (mkE n (M s ++ ul.map fun t => (t, env.f t))) (mkH (HH s ++ ol.map fun i => (i, (H i).1, cellsG (H i).2)))) :
    Ax P R Λ (.code (.loop c) :: k) env H :=
  ax_loopS n (fun s => M s ++ ul.map fun t => (t, env.f t)) (fun s => HH s ++ ol.map fun i => (i, (H i).1, cellsG (H i).2)) inv μ s0 nw h0 hw hr
section
variable {go : Lams → List It → Env → Heap → Prop} {Λ : Lams} {a b : LCode} {k : List It} {env : Env} {H : Heap} {d : Option Nat} {l : List LO} {ld : List DO} {op : LOp} {j : Nat} {acc : List Fp} {od : List Nat}
theorem guardS_splitX {x want : Bool} (h1 : x = want → execS go ((eff op (evA env) (d.getD 0)).exec H) Λ d l k env) (h2 : x = !want → go Λ (.ops l :: k) (putE env d (.tup [])) H) : guardS go (.f (.bool x)) want Λ d op l k env H := by
  rw [guardS_bool]
  split
  · exact h1 (by assumption)
  · exact h2 (by cases x <;> cases want <;> simp_all)
end
section
variable {go : Lams → List It → Env → Heap → Prop} {Λ : Lams} {k : List It} {env : Env} {H : Heap} {d : Option Nat} {ld : List DO} {op : LOp} {j : Nat} {acc : List Fp} {od : List Nat}
theorem guardD_splitX {x want : Bool} (h1 : x = want → execD go ((eff op (evA env) (d.getD 0)).exec H) (noConf acc od (eff op (evA env) (d.getD 0)).rds (eff op (evA env) (d.getD 0)).wrs) Λ d ld (j + 1) (addFp j (eff op (evA env) (d.getD 0)).rds (eff op (evA env) (d.getD 0)).wrs acc) k env)
    (h2 : x = !want → go Λ (.dops ld (j + 1) acc :: k) (putE env d (.tup [])) H) : guardD go (.f (.bool x)) want Λ d op od ld j acc k env H := by
  unfold guardD
  simp only
  split
  · exact h1 (by assumption)
  · exact h2 (by cases x <;> cases want <;> simp_all)
end
section
variable {P : Program} {R : Env → Heap → Prop} {Λ : Lams} {k : List It} {env : Env} {H : Heap} {d : Nat} {f : Operand} {args : List Operand} {g : Option (Nat × Bool)} {los : List LO} {dos : List DO} {fid : FuncId} {args' : List AV} {rs : List RS} {od : List Nat} {j : Nat} {acc : List Fp}
theorem guardS_splitT {go : Lams → List It → Env → Heap → Prop} {d : Option Nat} {l : List LO} {op : LOp} {x : Bool} (h1 : x = true → execS go ((eff op (evA env) (d.getD 0)).exec H) Λ d l k env) (h2 : x = false → go Λ (.ops l :: k) (putE env d (.tup [])) H) : guardS go (.f (.bool x)) true Λ d op l k env H := guardS_splitX h1 h2
theorem guardS_splitF {go : Lams → List It → Env → Heap → Prop} {d : Option Nat} {l : List LO} {op : LOp} {x : Bool} (h1 : x = false → execS go ((eff op (evA env) (d.getD 0)).exec H) Λ d l k env) (h2 : x = true → go Λ (.ops l :: k) (putE env d (.tup [])) H) : guardS go (.f (.bool x)) false Λ d op l k env H := guardS_splitX h1 h2
theorem guardD_splitT {go : Lams → List It → Env → Heap → Prop} {d : Option Nat} {ld : List DO} {op : LOp} {x : Bool} (h1 : x = true → execD go ((eff op (evA env) (d.getD 0)).exec H) (noConf acc od (eff op (evA env) (d.getD 0)).rds (eff op (evA env) (d.getD 0)).wrs) Λ d ld (j + 1) (addFp j (eff op (evA env) (d.getD 0)).rds (eff op (evA env) (d.getD 0)).wrs acc) k env)
    (h2 : x = false → go Λ (.dops ld (j + 1) acc :: k) (putE env d (.tup [])) H) : guardD go (.f (.bool x)) true Λ d op od ld j acc k env H := guardD_splitX h1 h2
theorem guardD_splitF {go : Lams → List It → Env → Heap → Prop} {d : Option Nat} {ld : List DO} {op : LOp} {x : Bool} (h1 : x = false → execD go ((eff op (evA env) (d.getD 0)).exec H) (noConf acc od (eff op (evA env) (d.getD 0)).rds (eff op (evA env) (d.getD 0)).wrs) Λ d ld (j + 1) (addFp j (eff op (evA env) (d.getD 0)).rds (eff op (evA env) (d.getD 0)).wrs acc) k env)
    (h2 : x = true → go Λ (.dops ld (j + 1) acc :: k) (putE env d (.tup [])) H) : guardD go (.f (.bool x)) false Λ d op od ld j acc k env H := guardD_splitX h1 h2
theorem condS_splitN {go : Lams → List It → Env → Heap → Prop} {a b : LCode} {x : Bool} (h1 : x = false → go Λ (.code a :: k) env H) (h2 : x = true → go Λ (.code b :: k) env H) : condS go (.f (.bool (!x))) Λ a b k env H := by
  cases x
  · exact h1 rfl
  · exact h2 rfl
theorem guardS_splitTN {go : Lams → List It → Env → Heap → Prop} {d : Option Nat} {l : List LO} {op : LOp} {x : Bool} (h1 : x = false → execS go ((eff op (evA env) (d.getD 0)).exec H) Λ d l k env) (h2 : x = true → go Λ (.ops l :: k) (putE env d (.tup [])) H) : guardS go (.f (.bool (!x))) true Λ d op l k env H := guardS_splitT (fun h => h1 (by simpa using h)) (fun h => h2 (by simpa using h))
theorem guardS_splitFN {go : Lams → List It → Env → Heap → Prop} {d : Option Nat} {l : List LO} {op : LOp} {x : Bool} (h1 : x = true → execS go ((eff op (evA env) (d.getD 0)).exec H) Λ d l k env) (h2 : x = false → go Λ (.ops l :: k) (putE env d (.tup [])) H) : guardS go (.f (.bool (!x))) false Λ d op l k env H := guardS_splitF (fun h => h1 (by simpa using h)) (fun h => h2 (by simpa using h))
theorem guardD_splitTN {go : Lams → List It → Env → Heap → Prop} {d : Option Nat} {ld : List DO} {op : LOp} {x : Bool} (h1 : x = false → execD go ((eff op (evA env) (d.getD 0)).exec H) (noConf acc od (eff op (evA env) (d.getD 0)).rds (eff op (evA env) (d.getD 0)).wrs) Λ d ld (j + 1) (addFp j (eff op (evA env) (d.getD 0)).rds (eff op (evA env) (d.getD 0)).wrs acc) k env)
    (h2 : x = true → go Λ (.dops ld (j + 1) acc :: k) (putE env d (.tup [])) H) : guardD go (.f (.bool (!x))) true Λ d op od ld j acc k env H := guardD_splitT (fun h => h1 (by simpa using h)) (fun h => h2 (by simpa using h))
theorem guardD_splitFN {go : Lams → List It → Env → Heap → Prop} {d : Option Nat} {ld : List DO} {op : LOp} {x : Bool} (h1 : x = true → execD go ((eff op (evA env) (d.getD 0)).exec H) (noConf acc od (eff op (evA env) (d.getD 0)).rds (eff op (evA env) (d.getD 0)).wrs) Λ d ld (j + 1) (addFp j (eff op (evA env) (d.getD 0)).rds (eff op (evA env) (d.getD 0)).wrs acc) k env)
    (h2 : x = false → go Λ (.dops ld (j + 1) acc :: k) (putE env d (.tup [])) H) : guardD go (.f (.bool (!x))) false Λ d op od ld j acc k env H := guardD_splitF (fun h => h1 (by simpa using h)) (fun h => h2 (by simpa using h))
/-- A call whose arguments hang on nothing of one's own: its result stands in its slot. -/
theorem callP (hg : gd g env = some true) (hF : FRet P fid args' rs) (hfn : evA env f = .f (.fn (.func fid))) (ha : LeL (args.map (evA env)) args') (hp : args'.all AV.pure = true) (hfree : Free d H)
    (h : srun P R 300 Λ (.ops los :: k) (putE env (some d) (oneOrTup (putS d 0 rs))) (putHs d 0 rs H)) : Ax P R Λ (.ops (⟨some d, .call f args, g⟩ :: los) :: k) env H :=
  ax_call (f := f) (args := args) rfl hg (Q := fun r H' => r = oneOrTup (putS d 0 rs) ∧ H' = putHs d 0 rs H) (by rw [hfn]; exact (call_p (t := d) hF hp (fun j _ => hfree j)).le ha) fun v H' hq => by obtain ⟨h1, h2⟩ := hq; subst h1 h2; exact srun_sound 300 _ _ _ _ h
theorem callP0 (hg : gd g env = some false) (h : srun P R 300 Λ (.ops los :: k) (putE env (some d) (.tup [])) H) : Ax P R Λ (.ops (⟨some d, .call f args, g⟩ :: los) :: k) env H :=
  ax_opSkip hg (srun_sound 300 _ _ _ _ h)
/-- .. whose result is plain, in a drawn region. -/
def plainC : List RC → Bool
  | [] => true
  | .v _ :: l => plainC l
  | .own .. :: _ => false
def plainRs : List RS → Bool
  | [] => true
  | .c (.v _) :: l => plainRs l
  | .c (.own ..) :: _ => false
  | .agg l :: r => plainC l && plainRs r
theorem putCs_pure {t : Nat} : ∀ {l : List RC} {k : Nat}, plainC l = true → (putCs t k l).all AV.pure = true
  | [], _, _ => rfl
  | .v _ :: l, k, h => by simp only [putCs, putC, List.all_cons, AV.pure, Bool.true_and]; exact putCs_pure (by simpa [plainC] using h)
  | .own .. :: l, k, h => by simp [plainC] at h
theorem putS_pure {t : Nat} : ∀ {rs : List RS} {k : Nat}, plainRs rs = true → (putS t k rs).all AV.pure = true
  | [], _, _ => rfl
  | .c (.v _) :: l, k, h => by simp only [putS, putC, List.all_cons, AV.pure, Bool.true_and]; exact putS_pure (by simpa [plainRs] using h)
  | .c (.own ..) :: l, k, h => by simp [plainRs] at h
  | .agg l :: r, k, h => by
    simp only [plainRs, Bool.and_eq_true] at h
    simp only [putS, List.all_cons, AV.pure, AV.pureL_all, putCs_pure h.1, Bool.true_and]; exact putS_pure h.2
theorem plain_cs {t : Nat} {H1 : Heap} : ∀ {rs : List RC} {l : List AV} {k : Nat}, RcsOk H1 rs l → plainC rs = true → l = putCs t k rs
  | [], l, _, h, _ => h
  | .v x :: rs, l, k, h, hp => by
    cases l with
    | nil => exact h.elim
    | cons a l =>
      obtain ⟨h1, h2⟩ := h
      have h1 : a = .f x := h1
      rw [h1, putCs, putC, plain_cs h2 (by simpa [plainC] using hp)]
  | .own .. :: rs, l, k, h, hp => by simp [plainC] at hp
theorem plain_ss {t : Nat} {H1 : Heap} : ∀ {rs : List RS} {l : List AV} {k : Nat}, RsOk H1 rs l → plainRs rs = true → l = putS t k rs
  | [], l, _, h, _ => h
  | .c (.v x) :: rs, l, k, h, hp => by
    cases l with
    | nil => exact h.elim
    | cons a l =>
      obtain ⟨h1, h2⟩ := h
      have h1 : a = .f x := h1
      rw [h1, putS, putC, plain_ss h2 (by simpa [plainRs] using hp)]
  | .c (.own ..) :: rs, l, k, h, hp => by simp [plainRs] at hp
  | .agg rc :: rs, l, k, h, hp => by
    have ⟨cs, l', e, hr1, hr2⟩ : ∃ cs l', l = .agg cs :: l' ∧ RcsOk H1 rc cs ∧ RsOk H1 rs l' := by
      cases l with
      | nil => exact h.elim
      | cons a l =>
        cases a <;> try exact h.elim
        exact ⟨_, _, rfl, h.1, h.2⟩
    simp only [plainRs, Bool.and_eq_true] at hp
    rw [e, putS, plain_cs (t := t) (k := k) hr1 hp.1, plain_ss (t := t) hr2 hp.2]
theorem call_plain {t : Nat} {f : FuncId} {args : List AV} (hF : FRet P f args rs) (hp : args.all AV.pure = true) (hpl : plainRs rs = true) : ACall P f args H (fun r H' => r = oneOrTup (putS t 0 rs) ∧ H' = H) := by
  refine ⟨hF.1, fun G Z w vs st hsz hrep => ?_⟩
  have nolive : ∀ b, ¬ LiveB (fun _ => ((0, none) : Nat × Option (Option (Nat × Nat)))) b := fun b ⟨_, _, h⟩ => by cases h
  have st0 : St P (fun _ => (0, none)) H0 Z w := ⟨fun _ => rfl, fun _ _ => rfl, fun id o h => (by cases h), fun _ _ _ _ _ h => (by cases h), fun _ _ _ h => (by cases h), st.zlt, fun _ _ _ h => (by cases h), fun _ _ _ h => (by cases h)⟩
  refine (hF.2 _ Z w vs st0 hsz fun j a v ha hv => (hrep j a v ha hv).pure_ (fun b hb => ⟨hb, rfl⟩) (List.all_eq_true.1 hp a (List.mem_of_getElem? ha))).mono fun e w1 ⟨v, r, H1, G1, Z1, e1, ⟨l, hl, hrs, _⟩, st1, hh, hr⟩ => ?_
  have old : ∀ b, b < w.heap.size → w1.heap[b]? = w.heap[b]? := fun b hb => hh.old b hb (nolive b)
  have hz1 : ∀ b, Z1 b → Z b ∨ w.heap.size ≤ b := fun b hb => by
    rcases hh.zout b hb with h | h | h
    · exact .inl h
    · exact absurd h (nolive b)
    · exact .inr h
  have hz2 : ∀ b, Z1 b → ¬ LiveB G b := fun b hb ⟨id, o, hl⟩ => by
    rcases hz1 b hb with h | h
    · exact st.disj _ _ _ hl h
    · have := st.glt _ _ _ hl; omega
  have hk : Keep G Z w G Z1 w1 := ⟨fun b hb => ⟨(hh.zin b hb).1, old b (st.zlt b hb)⟩, fun _ => Nat.le_refl _, fun _ _ => .inr rfl,
    fun b arr e fz ⟨id, o, hl⟩ h => ⟨arr, e, fz, by rw [old b (st.glt _ _ _ hl)]; exact h, rfl⟩⟩
  refine ⟨v, _, H, G, Z1, e1, ⟨rfl, rfl⟩, ⟨st.ver, st.dead, fun id o h => ?_, st.inj, fun id g o h hz => hz2 g hz ⟨id, o, h⟩, st1.zlt, fun id g o h => Nat.lt_of_lt_of_le (st.glt _ _ _ h) hh.size, fun id g o h => (st.ones _ _ _ h).same (old g (st.glt _ _ _ h))⟩, ⟨hk, hh.os, hh.tape, hh.output, hh.size, fun b hb _ => old b hb, fun b hb => (hz1 b hb).imp (fun h => h) .inr, fun b hb => .inl hb⟩, ?_⟩
  · obtain ⟨loc, k1, k2⟩ := st.obj id o h
    refine ⟨loc, k1, ?_⟩
    cases loc with
    | none => cases o <;> exact k2
    | some q =>
      obtain ⟨g, ob⟩ := q
      have hb := old g (st.glt _ _ _ k1)
      cases o with
      | cells cs =>
        obtain ⟨arr, e, k3, k4⟩ := k2
        exact ⟨arr, e, hb.trans k3, k4.mono fun a v hr => hr.keep hk⟩
      | map m =>
        obtain ⟨k3, es, clock, k4, k5⟩ := k2
        exact ⟨k3, es, clock, hb.trans k4, k5⟩
  · rw [plain_ss (t := t) (k := 0) hrs hpl] at hl
    rw [hl] at hr
    refine hr.pure_ (fun b hb => ⟨hb, rfl⟩) ?_
    have h1 := putS_pure (t := t) (k := 0) hpl
    generalize putS t 0 rs = m at h1
    rcases m with _ | ⟨a, _ | ⟨b, m⟩⟩
    · rfl
    · simpa [oneOrTup] using h1
    · simp only [oneOrTup, AV.pure, AV.pureL_all]; exact h1
theorem callD (hg : gd g env = some true) (hF : FRet P fid args' rs) (hfn : evA env f = .f (.fn (.func fid))) (ha : LeL (args.map (evA env)) args') (hp : args'.all AV.pure = true) (hpl : plainRs rs = true)
    (h : srun P R 300 Λ (.dops dos (j + 1) acc :: k) (putE env (some d) (oneOrTup (putS d 0 rs))) H) : Ax P R Λ (.dops (⟨some d, .call f args, g, od⟩ :: dos) j acc :: k) env H :=
  ax_dCall (f := f) (args := args) (rd := []) (wr := []) (v := oneOrTup (putS d 0 rs)) (H' := H) rfl hg (fun _ _ => rfl) (fun H2 _ _ => by
    rw [hfn]
    exact ACall.mono ((call_plain (t := d) hF hp hpl).le ha) fun r H' ⟨h1, h2⟩ => ⟨h1, by rw [h2]; funext id; simp [mix]⟩) (by simp [noConf, Fp.ok, disj]) (srun_sound 300 _ _ _ _ h)
theorem callD0 (hg : gd g env = some false) (h : srun P R 300 Λ (.dops dos (j + 1) acc :: k) (putE env (some d) (.tup [])) H) : Ax P R Λ (.dops (⟨some d, .call f args, g, od⟩ :: dos) j acc :: k) env H :=
  ax_dSkip hg (srun_sound 300 _ _ _ _ h)
theorem ret_v {x : FV} {H : Heap} : Rets [.c (.v x)] (.f x) H := ⟨[_], rfl, ⟨rfl, rfl⟩, List.nodup_nil⟩
theorem cs_plain {t : Nat} {H : Heap} : ∀ {rs : List RC} {k : Nat}, plainC rs = true → RcsOk H rs (putCs t k rs) ∧ idsC (putCs t k rs) = []
  | [], _, _ => ⟨rfl, rfl⟩
  | .v x :: rs, k, h => by
    obtain ⟨h1, h2⟩ := cs_plain (t := t) (H := H) (k := nextC k (.v x)) (rs := rs) (by simpa [plainC] using h)
    exact ⟨⟨rfl, h1⟩, by simp only [putCs, putC, idsC]; exact h2⟩
  | .own .. :: rs, k, h => by simp [plainC] at h
theorem ss_plain {t : Nat} {H : Heap} : ∀ {rs : List RS} {k : Nat}, plainRs rs = true → RsOk H rs (putS t k rs) ∧ idsS (putS t k rs) = []
  | [], _, _ => ⟨rfl, rfl⟩
  | .c (.v x) :: rs, k, h => by
    obtain ⟨h1, h2⟩ := ss_plain (t := t) (H := H) (k := nextC k (.v x)) (rs := rs) (by simpa [plainRs] using h)
    exact ⟨⟨rfl, h1⟩, by simp only [putS, putC, idsS]; exact h2⟩
  | .c (.own ..) :: rs, k, h => by simp [plainRs] at h
  | .agg l :: rs, k, h => by
    simp only [plainRs, Bool.and_eq_true] at h
    obtain ⟨h1, h2⟩ := cs_plain (t := t) (H := H) (k := k) h.1
    obtain ⟨h3, h4⟩ := ss_plain (t := t) (H := H) (k := nextCs k l) h.2
    exact ⟨⟨h1, h3⟩, by simp only [putS, idsS, h2, h4, List.nil_append]⟩
/-- Plain results. -/
theorem retw_p {rs : List RS} {l : List AV} {H : Heap} (hp : plainRs rs = true) (h : LeL l (putS 0 0 rs)) : RetsW rs (oneOrTup l) H := by
  obtain ⟨h1, h2⟩ := ss_plain (t := 0) (H := H) (k := 0) hp
  exact ⟨l, _, rfl, h, h1, by rw [h2]; exact List.nodup_nil⟩
theorem retw_p2 {rs : List RS} {a b : AV} {l : List AV} {H : Heap} (hp : plainRs rs = true) (h : LeL (a :: b :: l) (putS 0 0 rs)) : RetsW rs (.tup (a :: b :: l)) H := retw_p hp h
theorem retw_p1 {rs : List RS} {a : AV} {H : Heap} (hp : plainRs rs = true) (h : LeL [a] (putS 0 0 rs)) : RetsW rs a H := retw_p (l := [a]) hp h
theorem retw_v {x y : FV} {H : Heap} (h : y = x) : RetsW [.c (.v x)] (.f y) H := by subst h; exact ⟨[_], _, rfl, .refl _, ⟨rfl, rfl⟩, List.nodup_nil⟩
theorem ret_ve {x y : FV} {H : Heap} (h : y = x) : Rets [.c (.v x)] (.f y) H := by subst h; exact ret_v
theorem ret_vve {x y x' y' : FV} {H : Heap} (h : x' = x) (h' : y' = y) : Rets [.c (.v x), .c (.v y)] (.tup [.f x', .f y']) H := by subst h h'; exact ⟨[_, _], rfl, ⟨rfl, rfl, rfl⟩, List.nodup_nil⟩
theorem ret_vv {x y : FV} {H : Heap} : Rets [.c (.v x), .c (.v y)] (.tup [.f x, .f y]) H := ⟨[_, _], rfl, ⟨rfl, rfl, rfl⟩, List.nodup_nil⟩
end
/-- The first error of n tests. -/
def firstErr (f : Nat → Int) : Nat → Nat → Int
  | _, 0 => 0
  | i, n + 1 => if f i = 0 then firstErr f (i + 1) n else f i
theorem fe_go (f : Nat → Int) : ∀ (n i j : Nat), i ≤ j → j ≤ i + n → (∀ m, i ≤ m → m < j → f m = 0) → firstErr f i n = firstErr f j (i + n - j)
  | 0, i, j, h1, h2, h => by rw [show i + 0 - j = 0 by omega]; rfl
  | n + 1, i, j, h1, h2, h => by
    rcases Nat.eq_or_lt_of_le h1 with rfl | hlt
    · rw [show i + (n + 1) - i = n + 1 by omega]
    · rw [firstErr, if_pos (h i (Nat.le_refl _) hlt), fe_go f n (i + 1) j hlt (by omega) (fun m h3 h4 => h m (by omega) h4), show i + 1 + n - j = i + (n + 1) - j by omega]
theorem fe_hit {f : Nat → Int} {n i : Nat} (h : ∀ m, m < i → f m = 0) (hi : i < n) (hf : f i ≠ 0) : firstErr f 0 n = f i := by
  rw [fe_go f n 0 i (Nat.zero_le _) (by omega) (fun m _ hm => h m hm), show 0 + n - i = (n - i - 1) + 1 by omega, firstErr, if_neg hf]
theorem fe_none {f : Nat → Int} {n : Nat} (h : ∀ m, m < n → f m = 0) : firstErr f 0 n = 0 := by
  rw [fe_go f n 0 n (Nat.zero_le _) (by omega) (fun m _ hm => h m hm), Nat.zero_add, Nat.sub_self]; rfl
theorem fe_zero {f : Nat → Int} {n : Nat} (h : firstErr f 0 n = 0) : ∀ m, m < n → f m = 0 := by
  intro m
  induction m using Nat.strongRecOn with
  | _ m ih =>
    intro hm
    apply Classical.byContradiction
    intro hf
    rw [fe_hit (fun j hj => ih j hj (by omega)) hm hf] at h
    exact hf h
theorem fe_step {f : Nat → Int} {i : Nat} (h : ∀ m, m < i → f m = 0) (hf : f i = 0) : ∀ m, m < i + 1 → f m = 0 := fun m hm => by
  rcases Nat.lt_succ_iff_lt_or_eq.1 hm with h1 | rfl
  · exact h m h1
  · exact hf
theorem fe_0 {f : Nat → Int} : ∀ m, m < 0 → f m = 0 := fun m hm => absurd hm (by omega)
theorem inc64 {i n : Nat} (h : i < n) (hn : (n : Int) ≤ 9223372036854775807) : IntKind.i64.wrap ((i : Int) + 1) = ((i + 1 : Nat) : Int) := by rw [wrap64] <;> omega
theorem dec64 {i n : Nat} (h0 : 0 < i) (h : i < n) (hn : (n : Int) ≤ 9223372036854775807) : IntKind.i64.wrap ((i : Int) - 1) = ((i - 1 : Nat) : Int) := by rw [wrap64] <;> omega
theorem pos_t {i : Nat} (h : 0 < i) : decide ((0 : Int) < (i : Int)) = true := by simpa using h
theorem pos_f {i : Nat} (h : i = 0) : decide ((0 : Int) < (i : Int)) = false := by simp [h]
theorem dec64' {i n : Nat} (h : i < n) (hn : (n : Int) ≤ 9223372036854775807) (h0 : decide ((0 : Int) < (i : Int)) = true) : IntKind.i64.wrap ((i : Int) - 1) = ((i - 1 : Nat) : Int) := dec64 (by simpa using h0) h hn
/-- What f says of what comes before. -/
def prevV {α : Type} (l : List α) (i : Nat) (f : α → Int) : Int := if i = 0 then 0 else match l[i - 1]? with
  | some e => f e
  | none => 0
theorem prev_of {α : Type} {l : List α} {i : Nat} {d : α} (h : l[i]? = some d) : ∃ y, (decide ((0 : Int) < (i : Int)) = true → l[i - 1]? = some y) ∧ ∀ f : α → Int, prevV l i f = if decide ((0 : Int) < (i : Int)) = true then f y else 0 := by
  rcases Nat.eq_zero_or_pos i with rfl | h0
  · exact ⟨d, fun h => by simp at h, fun f => by simp [prevV]⟩
  · have hlt := (List.getElem?_eq_some_iff.1 h).1
    have h1 : l[i - 1]? = some l[i - 1] := List.getElem?_eq_getElem (by omega)
    refine ⟨l[i - 1], fun _ => h1, fun f => ?_⟩
    rw [prevV, if_neg (by omega), h1, if_pos (by simpa using h0)]
theorem get_some {α : Type} {l : List α} {i : Nat} (h : i < l.length) : ∃ x, l[i]? = some x := ⟨_, List.getElem?_eq_getElem h⟩
theorem lt_t {i n : Nat} (h : i < n) : decide (i < n) = true := by simpa using h
theorem lt_f {i n : Nat} (h : n ≤ i) : decide (i < n) = false := by simpa using h
end Go.Proofs.YteeemcghdhdodaaDoor
