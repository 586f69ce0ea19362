/-
  The abstract machine: drawn regions inside code; functions (FCall); what may be forgotten. No statement of the seat is proved here; no conditions.
-/
import Derived.Test.YtaiajaibcpkceaaDoorEngK
namespace Go.Proofs.YtaiajaibcpkceaaDoor
open Go.RowKit
set_option linter.unusedVariables false
set_option linter.unusedSimpArgs false

section
variable {P : Program} {R : Env → Heap → Prop} {Λ : Lams} {k : List It} {env : Env} {H : Heap}
theorem wpAny_of_anyA {md : Region.Mode} {ops : Array Oper} {s : At0} {K : Env → Heap → Prop} {Q : Exit → Act → World → Prop} (hQ : ∀ env H a w, K env H → Sim P s env H a w → Q .normal a w) :
    ∀ (fuel : Nat) (listed : Array Bool) (acc : List Fp) (env : Env) (H : Heap) (a : Act) (w : World), Sim P s env H a w → anyA P md ops K fuel listed acc env H → wpAny P md ops Q fuel listed a w
  | 0, _, _, env, H, a, w, hs, h => ⟨h.1, hQ _ _ _ _ h.2 hs⟩
  | fuel + 1, listed, acc, env, H, a, w, hs, h => by
    refine ⟨fun h0 => hQ _ _ _ _ (h.1 h0) hs, fun i hi => ?_⟩
    obtain ⟨o, ho, h1⟩ := h.2 i hi
    obtain ⟨G, Z, st, he, hd, hh⟩ := hs
    unfold wpOp
    simp only [ho]
    rcases h1 with ⟨h1, h2⟩ | ⟨h1, rd, wr, v, H', hc, _, h2⟩
    · rw [if_neg (by rw [skipA_wanted he h1]; decide)]
      exact wpAny_of_anyA hQ fuel _ acc _ _ _ _ (Sim.next he hd hh st (Step.refl _ _ _) (.tup _ _ rfl fun j x u h => by simp at h)) h2
    · rw [if_pos (skipA_wanted he h1)]
      refine .inl (hc.run env H (fun _ _ => rfl) (fun _ _ => rfl) (fun _ _ => rfl) G Z w a st he _ Q fun u v' H'' G' Z' w' hq k1 k2 k3 => ?_)
      obtain ⟨rfl, rfl⟩ := hq
      have e : mix wr H' H = H' := by
        funext id; simp only [mix]; split
        · rfl
        · rename_i hn; exact (hc.frame id hn).symm
      rw [e] at k1
      exact wpAny_of_anyA hQ fuel _ acc _ _ _ _ (Sim.next he hd hh k1 k2 k3) h2
theorem Sim.drew {s : At0} {a : Act} {w : World} (h : Sim P s env H a w) : Sim P s env H a { w with drawn := w.drawn + 1 } := by
  obtain ⟨G, Z, st, he, hd, hh⟩ := h
  obtain ⟨s1, s2⟩ := st.drew 1
  exact ⟨G, Z, s1, he.keep s2.toKeep, hd, hh.trans s2.hist⟩
theorem closed_none (md : Region.Mode) (ops : Array Oper) (n : Nat) : Closed md ops (Array.replicate n false) := fun j o _ h => by
  rw [Array.getD_eq_getD_getElem?, Array.getElem?_replicate] at h
  split at h <;> simp at h
theorem ax_draw {los : List DO} (h : Ax P R Λ (.dops los 0 [] :: k) env H) : Ax P R Λ (.code (.draw los) :: k) env H := fun s t hm a w hs => by
  cases hm with
  | code hc hm =>
    obtain ⟨id, ops, rfl, hf, hB, h1⟩ := low_inv hc
    have hl := h s ops ops.toList _ [] [] h1 (fun j => by simp) rfl (fun j r hj => by simp at hj) (fun f hf => by cases hf) hm
    refine Goal.wp (wp_region_any hf ?_)
    simp only [Region.lexB, Bool.and_eq_true] at hB
    have := anyA_lex hB.1 ops.toList 0 (Array.replicate ops.size false) [] env H (by simp) (closed_none _ _ _) (by simpa using hB.2) hl
    exact wpAny_of_anyA (s := s) (K := fun env H => ∀ a w, Sim P s env H a w → Goal P (Fin P R s) _ a w) (fun env H a w hK hs => ⟨rfl, hK a w hs⟩) ops.size _ [] env H a _ hs.drew (by simpa using this)
theorem ax_dNil {n : Nat} {acc : List Fp} (h : Ax P R Λ k env H) : Ax P R Λ (.dops [] n acc :: k) env H := fun s ops l t ords accF hl _ _ _ _ hm => by
  have : l = [] := by
    cases l with
    | nil => rfl
    | cons o l => simp only [lowDOpers] at hl; split at hl <;> cases hl
  subst this
  exact fun a w hs => h.go hm hs
theorem lowDOpers_cons {ops : Array Oper} {l : List Oper} {o : DO} {los : List DO} {ords : List (List Nat)} (h : lowDOpers P ops l ords = some (o :: los)) :
    ∃ c r, l = c :: r ∧ lowOp P c.op = some o.op ∧ o.dst = c.dst ∧ lowGuard ops c.guard = some o.guard ∧ o.ord = ordOf c ords ∧ lowDOpers P ops r (ords ++ [ordOf c ords]) = some los := by
  cases l with
  | nil => simp [lowDOpers] at h
  | cons c r =>
    simp only [lowDOpers] at h
    split at h
    · rename_i a b ha hb
      simp only [Option.some.injEq, List.cons.injEq] at h
      obtain ⟨h1, rfl⟩ := h
      obtain ⟨g1, g2, g3⟩ := lowOper_inv ha
      subst h1
      exact ⟨c, r, rfl, g1, g2, g3, rfl, hb⟩
    · cases h
theorem ords_next {ops : Array Oper} {c : Oper} {ords : List (List Nat)} {n : Nat} (hn : ords.length = n) (hc : ops[n]? = some c) (h : ∀ (j : Nat) (r : List Nat), ords[j]? = some r → ∀ i ∈ r, Bef .any ops j i) :
    ∀ (j : Nat) (r : List Nat), (ords ++ [ordOf c ords])[j]? = some r → ∀ i ∈ r, Bef .any ops j i := by
  intro j r hj i hi
  rcases Nat.lt_or_ge j n with h1 | h1
  · rw [List.getElem?_append_left (by omega)] at hj
    exact h j r hj i hi
  · rw [List.getElem?_append_right (by omega)] at hj
    have hj0 : j = n := by
      have := (List.getElem?_eq_some_iff.1 hj).1
      simp at this; omega
    subst hj0
    rw [hn, Nat.sub_self] at hj
    simp only [List.getElem?_cons_zero, Option.some.injEq] at hj
    subst hj
    unfold ordOf at hi
    rw [List.mem_eraseDups, List.mem_flatMap] at hi
    obtain ⟨e, he, hi⟩ := hi
    rw [List.mem_filter] at he
    obtain ⟨he, hb⟩ := he
    have he' : e ∈ c.after := by simpa using he
    rcases List.mem_cons.1 hi with rfl | hi
    · exact .one hc he' hb
    · rw [List.getD_eq_getElem?_getD] at hi
      cases hq : ords[e.on]? with
      | none => rw [hq] at hi; simp at hi
      | some r => rw [hq] at hi; exact .more hc he' hb (h e.on r hq i hi)
def addFp (n : Nat) (rd wr : List Nat) (acc : List Fp) : List Fp := match rd, wr with
  | [], [] => acc
  | rd, wr => ⟨n, rd, wr⟩ :: acc
theorem addFp_ok {n : Nat} {rd wr : List Nat} {acc accF : List Fp} (h : ∀ f ∈ accF, f ∈ acc ∨ (f.rd = [] ∧ f.wr = [])) : ∀ f ∈ (⟨n, rd, wr⟩ : Fp) :: accF, f ∈ addFp n rd wr acc ∨ (f.rd = [] ∧ f.wr = []) := by
  intro f hf
  unfold addFp
  split
  · rcases List.mem_cons.1 hf with rfl | hf
    · exact .inr ⟨rfl, rfl⟩
    · exact h f hf
  · rcases List.mem_cons.1 hf with rfl | hf
    · exact .inl (by simp)
    · exact (h f hf).imp (fun h => List.mem_cons_of_mem _ h) (fun h => h)
theorem conf_ok {ops : Array Oper} {c : Oper} {ords : List (List Nat)} {n : Nat} {acc accF : List Fp} {rd wr : List Nat} (hn : ords.length = n) (hc : ops[n]? = some c) (h : ∀ (j : Nat) (r : List Nat), ords[j]? = some r → ∀ i ∈ r, Bef .any ops j i)
    (ha : ∀ f ∈ accF, f ∈ acc ∨ (f.rd = [] ∧ f.wr = [])) (hk : noConf acc (ordOf c ords) rd wr = true) : ∀ f ∈ accF, ¬ Bef .any ops n f.i → f.ok rd wr = true := by
  intro f hf hb
  rcases ha f hf with h1 | ⟨h1, h2⟩
  · have := List.all_eq_true.1 hk f h1
    rw [Bool.or_eq_true] at this
    rcases this with h3 | h3
    · have hi : f.i ∈ ordOf c ords := by simpa using h3
      exact absurd (ords_next hn hc h n (ordOf c ords) (by rw [← hn]; simp) f.i hi) hb
    · exact h3
  · simp [Fp.ok, h1, h2, disj]
theorem ax_dGen {o : DO} {los : List DO} {n : Nat} {acc : List Fp} {rd wr : List Nat} {v : AV} {H' : Heap} (hg : gd o.guard env = some true) (hc : ∀ (c : Oper), lowOp P c.op = some o.op → Cert P c env H rd wr v H') (hk : noConf acc o.ord rd wr = true)
    (h : Ax P R Λ (.dops los (n + 1) (addFp n rd wr acc) :: k) (putE env o.dst v) H') : Ax P R Λ (.dops (o :: los) n acc :: k) env H := fun s ops l t ords accF hl hidx hn hv ha hm => by
  obtain ⟨c, r, rfl, g1, g2, g3, g4, g5⟩ := lowDOpers_cons hl
  have h0 : ops[n]? = some c := by simpa using (hidx 0).symm
  rw [g4] at hk
  refine ⟨rd, wr, v, H', .inr ⟨(gd_skipA g3).trans hg, hc c g1⟩, conf_ok hn h0 hv ha hk, ?_⟩
  rw [g2] at h
  exact h s ops r t _ _ g5 (fun j => by have := hidx (j + 1); simpa [Nat.add_assoc, Nat.add_comm 1 j] using this) (by simp [hn]) (ords_next hn h0 hv) (addFp_ok ha) hm
theorem ax_dOp {o : DO} {los : List DO} {n : Nat} {acc : List Fp} {e : Eff} {v : AV} {H' : Heap} (hg : gd o.guard env = some true) (he : eff o.op (evA env) (o.dst.getD 0) = e) (hx : e.exec H = some (v, H')) (hk : noConf acc o.ord e.rds e.wrs = true)
    (h : Ax P R Λ (.dops los (n + 1) (addFp n e.rds e.wrs acc) :: k) (putE env o.dst v) H') : Ax P R Λ (.dops (o :: los) n acc :: k) env H := by
  subst he
  exact ax_dGen hg (fun c hl => cert_eff hl hx) hk h
theorem ax_dSkip {o : DO} {los : List DO} {n : Nat} {acc : List Fp} (hg : gd o.guard env = some false) (h : Ax P R Λ (.dops los (n + 1) acc :: k) (putE env o.dst (.tup [])) H) : Ax P R Λ (.dops (o :: los) n acc :: k) env H := fun s ops l t ords accF hl hidx hn hv ha hm => by
  obtain ⟨c, r, rfl, g1, g2, g3, g4, g5⟩ := lowDOpers_cons hl
  have h0 : ops[n]? = some c := by simpa using (hidx 0).symm
  refine ⟨[], [], .tup [], H, .inl ⟨(gd_skipA g3).trans hg, rfl, rfl, rfl, rfl⟩, fun f hf _ => by simp [Fp.ok, disj], ?_⟩
  rw [g2] at h
  exact h s ops r t _ _ g5 (fun j => by have := hidx (j + 1); simpa [Nat.add_assoc, Nat.add_comm 1 j] using this) (by simp [hn]) (ords_next hn h0 hv) (addFp_ok (n := n) (rd := []) (wr := []) ha) hm
/-- A call in a drawn region: what it does depends on the objects rd alone, and it touches those of wr alone. -/
theorem ax_dCall {o : DO} {los : List DO} {n : Nat} {acc : List Fp} {f : Operand} {args : List Operand} {rd wr : List Nat} {v : AV} {H' : Heap} (ho : o.op = .call f args) (hg : gd o.guard env = some true) (hfr : ∀ id, id ∉ wr → H' id = H id)
    (hc : ∀ H2 : Heap, (∀ id ∈ rd, H2 id = H id) → (∀ id ∈ wr, H2 id = H id) → ACallV P (evA env f) (args.map (evA env)) H2 (fun r H'' => r = v ∧ H'' = mix wr H' H2)) (hk : noConf acc o.ord rd wr = true)
    (h : Ax P R Λ (.dops los (n + 1) (addFp n rd wr acc) :: k) (putE env o.dst v) H') : Ax P R Λ (.dops (o :: los) n acc :: k) env H := by
  refine ax_dGen hg (fun c hl => ⟨hfr, fun env2 H2 h1 h2 h3 G Z w a st he => ?_⟩) hk h
  rw [ho] at hl
  obtain ⟨cl, g1, g2, g3⟩ := lowOp_call hl
  have hmem : ∀ t, .tmp t ∈ f :: args → .tmp t ∈ c.op.operands := fun t ht => lowOp_opnds hl t (by simpa [LOp.opnds] using ht)
  have e1 : evA env2 f = evA env f := evA_same (l := f :: args) (fun t ht => h1 t (hmem t ht)) f (by simp)
  have e2 : args.map (evA env2) = args.map (evA env) := List.map_congr_left fun x hx => evA_same (l := f :: args) (fun t ht => h1 t (hmem t ht)) x (by simp [hx])
  refine call_to st he g1 g2 ?_
  rw [g3, e1, e2]
  exact hc H2 h2 h3

/-! ### Functions -/
inductive LRes where
  | tmp (t : Nat)
  | cell (t : Nat) (n : Option Nat)
structure LFunc where
  code : LCode
  ntmps : Nat
  res : List LRes
def lowRes (P : Program) : List ResultVar → Option (List LRes)
  | [] => some []
  | .tmp t :: l => (lowRes P l).map (.tmp t :: ·)
  | .cell a t :: l => match rowOf P t, lowRes P l with
    | some n, some r => some (.cell a n :: r)
    | _, _ => none
def lowF (P : Program) (f : FuncId) : Option LFunc := match P.funcs[f]? with
  | some fn => if fn.name == "runtime.NumGoroutine" then none else match fn.body with
    | some c => match lowC P c, lowRes P fn.results.toList with
      | some lc, some r => some ⟨lc, fn.ntmps, r⟩
      | _, _ => none
    | none => none
  | none => none
def resA (env : Env) (H : Heap) : List LRes → Option (List AV)
  | [] => some []
  | .tmp t :: l => match resA env H l with
    | some r => some (env.f t :: r)
    | none => none
  | .cell t n :: l => match (eff (.load n (.tmp t)) (evA env) 0).exec H, resA env H l with
    | some (v, _), some r => some (v :: r)
    | _, _ => none
def oneOrTup : List AV → AV
  | [a] => a
  | l => .tup l
/-- What function f makes of these arguments, from heap H0 (its own numbers): Q (a value, the heap behind it). -/
def FCall (P : Program) (f : FuncId) (args : List AV) (H0 : Heap) (Q : AV → Heap → Prop) : Prop :=
  callable P f = true ∧ ∀ (G : Ghost) (Z : Nat → Prop) (w : World) (vs : Array Value), St P G H0 Z w → vs.size = args.length → (∀ (j : Nat) (a : AV) (v : Value), args[j]? = some a → vs[j]? = some v → RepA G Z w a v) →
    Calls P f vs w fun e w' => ∃ v r H' G' Z', e = .returned v ∧ Q r H' ∧ St P G' H' Z' w' ∧ Hist G Z w G' Z' w' ∧ RepA G' Z' w' r v
theorem FCall.mono {f : FuncId} {args : List AV} {Q Q' : AV → Heap → Prop} (h : FCall P f args H Q) (hq : ∀ r H', Q r H' → Q' r H') : FCall P f args H Q' :=
  ⟨h.1, fun G Z w vs h1 h2 h3 => (h.2 G Z w vs h1 h2 h3).mono fun e w' ⟨v, r, H', G', Z', e1, e2, e3⟩ => ⟨v, r, H', G', Z', e1, hq _ _ e2, e3⟩⟩
def resOne (tmps : Array Value) (r : ResultVar) : Sem Value := match r with
  | .tmp t => pure (tmps.getD t undef)
  | .cell b t => do loadVar t (← asAddr (tmps.getD b undef))
theorem res_ok {G : Ghost} {Z : Nat → Prop} {w : World} {a : Act} (st : St P G H Z w) (he : EnvR G Z w env a.tmps) : ∀ (rs : List ResultVar) (lrs : List LRes) (l : List AV), lowRes P rs = some lrs → resA env H lrs = some l →
    ∃ vs : List Value, (rs.mapM (resOne a.tmps)).run P w = .ok vs w ∧ vs.length = l.length ∧ ∀ (j : Nat) (x : AV) (u : Value), l[j]? = some x → vs[j]? = some u → RepA G Z w x u
  | [], lrs, l, h1, h2 => by
    simp only [lowRes, Option.some.injEq] at h1
    subst h1
    simp only [resA, Option.some.injEq] at h2
    subst h2
    exact ⟨[], by simp, rfl, fun j x u h => by simp at h⟩
  | .tmp t :: rs, lrs, l, h1, h2 => by
    simp only [lowRes] at h1
    obtain ⟨lr, h3, rfl⟩ := Option.map_eq_some_iff.1 h1
    simp only [resA] at h2
    split at h2
    case h_2 => cases h2
    rename_i r hr
    obtain rfl := Option.some.inj h2
    obtain ⟨vs, g1, g2, g3⟩ := res_ok st he rs lr r h3 hr
    have h0 : (resOne a.tmps (.tmp t)).run P w = .ok (a.tmps.getD t undef) w := rfl
    refine ⟨a.tmps.getD t undef :: vs, by simp only [List.mapM_cons, Sem.run_bind, h0, Result.andThen_ok, g1, Sem.run_pure], by simp [g2], fun j x u hx hu => ?_⟩
    cases j with
    | zero =>
      simp only [List.getElem?_cons_zero, Option.some.injEq] at hx hu
      subst hx hu
      exact he.eval (.tmp t)
    | succ j => exact g3 j x u (by simpa using hx) (by simpa using hu)
  | .cell b t :: rs, lrs, l, h1, h2 => by
    simp only [lowRes] at h1
    split at h1
    case h_2 => cases h1
    rename_i n lr hn h3
    obtain rfl := Option.some.inj h1
    simp only [resA] at h2
    split at h2
    case h_2 => cases h2
    rename_i v H1 r hx hr
    obtain rfl := Option.some.inj h2
    obtain ⟨vs, g1, g2, g3⟩ := res_ok st he rs lr r h3 hr
    obtain ⟨u, k1, k2, _⟩ := load_ok st (fun x => he.eval x) t n (.tmp b) hn hx
    have h0 : (resOne a.tmps (.cell b t)).run P w = .ok u w := by
      have e : a.eval (.tmp b) = a.tmps.getD b undef := rfl
      rw [e] at k1
      unfold resOne
      simp only
      cases hv : a.tmps.getD b undef <;> rw [hv] at k1 <;> try (simp [Instr.loadAt, Instr.sureAddr, stuck, Sem.run] at k1; done)
      rename_i p
      cases p with
      | none => simp [Instr.loadAt, Instr.sureAddr, stuck, Sem.run] at k1
      | some p =>
        simp only [Instr.loadAt, Instr.sureAddr, pure_bind] at k1
        simp only [hv, asAddr, pure_bind]
        exact k1
    refine ⟨u :: vs, by simp only [List.mapM_cons, Sem.run_bind, h0, Result.andThen_ok, g1, Sem.run_pure], by simp [g2], fun j x u' hx hu => ?_⟩
    cases j with
    | zero =>
      simp only [List.getElem?_cons_zero, Option.some.injEq] at hx hu
      subst hx hu
      exact k2
    | succ j => exact g3 j x u' (by simpa using hx) (by simpa using hu)
theorem results_ok {G : Ghost} {Z : Nat → Prop} {w : World} {a : Act} {fn : Func} (st : St P G H Z w) (he : EnvR G Z w env a.tmps) {lrs : List LRes} {l : List AV} (h1 : lowRes P fn.results.toList = some lrs) (h2 : resA env H lrs = some l) :
    ∃ v, (results fn a.tmps).run P w = .ok v w ∧ RepA G Z w (oneOrTup l) v := by
  obtain ⟨vs, g1, g2, g3⟩ := res_ok st he _ _ _ h1 h2
  have e : results fn a.tmps = (do let vs ← fn.results.mapM (resOne a.tmps); pure (if h : vs.size = 1 then vs[0] else .tuple vs)) := rfl
  have hrun : (fn.results.mapM (resOne a.tmps)).run P w = .ok vs.toArray w := by
    rw [Array.mapM_eq_mapM_toList]
    simp [g1]
  rw [e, Sem.run_bind, hrun, Result.andThen_ok, Sem.run_pure]
  refine ⟨_, rfl, ?_⟩
  rcases l with _ | ⟨x, _ | ⟨y, l⟩⟩
  · obtain rfl : vs = [] := List.eq_nil_of_length_eq_zero g2
    exact .tup _ _ rfl fun j x u h => by simp at h
  · rcases vs with _ | ⟨u, _ | ⟨u2, vs⟩⟩
    · simp at g2
    · exact g3 0 x u rfl rfl
    · simp at g2
  · have hsz : ¬ vs.toArray.size = 1 := by simp [g2]
    rw [dif_neg hsz]
    exact .tup _ _ (by simpa using g2) fun j x u hx hu => g3 j x u hx (by simpa using hu)
/-- The slots at the start. -/
def argsF : Nat → List AV → Nat → AV
  | _, [] => fun _ => .any
  | i, a :: l => upd (argsF (i + 1) l) i a
def argsE (n : Nat) (args : List AV) : Env := ⟨n, argsF 0 args⟩
theorem argsF_get : ∀ (l : List AV) (i j : Nat), (j < i → argsF i l j = .any) ∧ (i ≤ j → argsF i l j = l.getD (j - i) .any)
  | [], i, j => ⟨fun _ => rfl, fun _ => rfl⟩
  | a :: l, i, j => by
    obtain ⟨h1, h2⟩ := argsF_get l (i + 1) j
    refine ⟨fun h => ?_, fun h => ?_⟩
    · rw [argsF, upd_ne _ _ _ _ (by omega)]; exact h1 (by omega)
    · by_cases e : j = i
      · subst e; rw [argsF, upd_same, Nat.sub_self]; rfl
      · rw [argsF, upd_ne _ _ _ _ e, h2 (by omega), show j - i = (j - (i + 1)) + 1 by omega]; rfl
theorem FCall.of_ax {f : FuncId} {lf : LFunc} {args : List AV} {Q : AV → Heap → Prop} (hl : lowF P f = some lf)
    (h : Ax P (fun env H => match resA env H lf.res with | some l => Q (oneOrTup l) H | none => False) [] [.code lf.code] (argsE (max lf.ntmps args.length) args) H) : FCall P f args H Q := by
  unfold lowF at hl
  split at hl
  case h_2 => cases hl
  rename_i fn hfn
  split at hl
  case isTrue => cases hl
  rename_i hname
  split at hl
  case h_2 => cases hl
  rename_i c hc
  split at hl
  case h_2 => cases hl
  rename_i lc r hlc hr
  obtain rfl := Option.some.inj hl
  simp only at h
  refine ⟨by simp only [callable, hfn, hc, Option.isSome_some, Bool.and_true]; simpa using hname, fun G Z w vs st hsz hrep cs => ?_⟩
  let b : Frame := { (default : Frame) with fn := f, kind := .normal }
  have henter : Frame.enter P f vs .normal = b.at { tmps := vs ++ Array.replicate (fn.ntmps - vs.size) undef, defers := [] } [.code c] := by
    simp [Frame.enter, Frame.at, hfn, hc, b]
  have hsim : Sim P ⟨G, Z, w⟩ (argsE (max fn.ntmps args.length) args) H { tmps := vs ++ Array.replicate (fn.ntmps - vs.size) undef, defers := [] } w := by
    refine ⟨G, Z, st, ⟨by simp only [argsE, Array.size_append, Array.size_replicate, hsz]; omega, fun i hi => ?_, fun i v hv => ?_⟩, rfl, Hist.refl _ _ _⟩
    · simp only [argsE] at hi ⊢
      rw [(argsF_get args 0 i).2 (Nat.zero_le _), List.getD_eq_getElem?_getD, List.getElem?_eq_none (by omega)]; rfl
    · simp only [argsE]
      rw [(argsF_get args 0 i).2 (Nat.zero_le _), Nat.sub_zero, List.getD_eq_getElem?_getD]
      rcases Nat.lt_or_ge i args.length with hi | hi
      · rw [Array.getElem?_append_left (by omega)] at hv
        rw [List.getElem?_eq_getElem hi]
        exact hrep i _ v (List.getElem?_eq_getElem hi) hv
      · rw [List.getElem?_eq_none hi]
        exact .any _
  obtain ⟨a', w', t', h1, env', H', h2, h3⟩ := (h.go (s := ⟨G, Z, w⟩) (.code hlc .nil) hsim) b cs
  obtain ⟨G', Z', st', he', hd', hh'⟩ := h3
  split at h2
  case h_2 => exact h2.elim
  rename_i l hres
  obtain ⟨v, k1, k2⟩ := results_ok (fn := fn) st' he' hr hres
  rw [← henter] at h1
  exact ⟨.returned v, w', _, ⟨v, _, H', G', Z', rfl, h2, st', hh', k2⟩, h1, rfl, rfl, hd', rfl, fn, hfn, k1⟩
end
end Go.Proofs.YtaiajaibcpkceaaDoor
