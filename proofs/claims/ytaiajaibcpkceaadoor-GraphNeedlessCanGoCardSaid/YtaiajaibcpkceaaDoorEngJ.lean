/-
  The abstract machine: regions that draw their order. No statement of the seat is proved here; no conditions.
-/
import Derived.Test.YtaiajaibcpkceaaDoorEngI
namespace Go.Proofs.YtaiajaibcpkceaaDoor
open Go.RowKit
set_option linter.unusedVariables false
set_option linter.unusedSimpArgs false

def LOp.opnds : LOp → List Operand
  | .move x => [x]
  | .nilChk x => [x]
  | .pick c a b => [c, a, b]
  | .alloc _ _ => []
  | .box _ x => [x]
  | .build _ ps => ps.map fun p => p.2.2
  | .buildSlice _ _ _ _ ps => ps.map fun p => p.2
  | .load _ x => [x]
  | .store _ a v => [a, v]
  | .bin _ _ x y => [x, y]
  | .isNil _ _ x => [x]
  | .eqS _ _ x y => [x, y]
  | .un _ x => [x]
  | .convInt _ x => [x]
  | .convStr x => [x]
  | .bytesStr x => [x]
  | .strBytes x => [x]
  | .mark x => [x]
  | .clo _ caps => caps
  | .makeSlice _ _ _ _ l c => [l, c]
  | .slice _ x lo hi => x :: (lo.toList ++ hi.toList)
  | .slice0 x lo hi mx => [x, lo, hi, mx]
  | .sliceS x lo hi => x :: (lo.toList ++ hi.toList)
  | .fieldAddr _ x => [x]
  | .field _ _ x => [x]
  | .indexAddr _ x ix => [x, ix]
  | .indexS x ix => [x, ix]
  | .extract x _ => [x]
  | .len _ x => [x]
  | .maxI x y => [x, y]
  | .minI x y => [x, y]
  | .append _ _ _ _ s x => [s, x]
  | .copy _ d s => [d, s]
  | .clear _ _ x => [x]
  | .cap x => [x]
  | .mkMap => []
  | .mapUpd m k v => [m, k, v]
  | .lookup _ _ m k => [m, k]
  | .call f args => f :: args
theorem bounds_congr {ρ ρ' : Operand → AV} {n : Nat} {lo hi : Option Operand} (h : ∀ x ∈ lo.toList ++ hi.toList, ρ x = ρ' x) : bounds n ρ lo hi = bounds n ρ' lo hi := by
  unfold bounds
  cases lo <;> cases hi <;> simp_all
theorem eff_congr {ρ ρ' : Operand → AV} {t : Nat} (lo : LOp) (h : ∀ x ∈ lo.opnds, ρ x = ρ' x) : eff lo ρ t = eff lo ρ' t := by
  cases lo <;> simp only [LOp.opnds] at h
  case build z ps =>
    have : (ps.map fun (p : Nat × Nat × Operand) => (p.1, p.2.1, ρ p.2.2)) = ps.map fun p => (p.1, p.2.1, ρ' p.2.2) := List.map_congr_left fun p hp => by rw [h p.2.2 (List.mem_map.2 ⟨p, hp, rfl⟩)]
    simp only [eff]
    rw [this]
  case buildSlice e sz len z ps =>
    have : (ps.map fun (p : Nat × Operand) => (p.1 * sz, sz, ρ p.2)) = ps.map fun p => (p.1 * sz, sz, ρ' p.2) := List.map_congr_left fun p hp => by rw [h p.2 (List.mem_map.2 ⟨p, hp, rfl⟩)]
    simp only [eff]
    rw [this]
  case clo f caps =>
    have : caps.map ρ = caps.map ρ' := List.map_congr_left h
    simp only [eff]
    rw [this]
  case isNil p neg x =>
    have h1 : ρ x = ρ' x := h x (by simp)
    cases p <;> simp [eff, h1]
  case slice sz x lo hi =>
    have h1 : ρ x = ρ' x := h x (by simp)
    have h2 : ∀ n, bounds n ρ lo hi = bounds n ρ' lo hi := fun n => bounds_congr fun y hy => h y (List.mem_cons_of_mem _ hy)
    simp only [eff, h1, h2]
  case sliceS x lo hi =>
    have h1 : ρ x = ρ' x := h x (by simp)
    have h2 : ∀ n, bounds n ρ lo hi = bounds n ρ' lo hi := fun n => bounds_congr fun y hy => h y (List.mem_cons_of_mem _ hy)
    simp only [eff, h1, h2]
  all_goals (simp only [List.mem_cons, List.not_mem_nil, or_false, forall_eq_or_imp, forall_eq] at h; simp [eff, h])
theorem lowOp_opnds {P : Program} {op : Op} {lo : LOp} (h : lowOp P op = some lo) : ∀ t, .tmp t ∈ lo.opnds → .tmp t ∈ op.operands := by
  intro t ht
  cases op <;> simp only [lowOp] at h <;> try cases h
  case move => simpa [LOp.opnds, Op.operands] using ht
  case assign => simpa [LOp.opnds, Op.operands] using ht
  case nilCheck => simpa [LOp.opnds, Op.operands] using ht
  case pick => simpa [LOp.opnds, Op.operands] using ht
  case alloc => obtain ⟨_, _, rfl⟩ := Option.map_eq_some_iff.1 h; simp [LOp.opnds] at ht
  case box => simpa [LOp.opnds, Op.operands] using ht
  case build ty parts =>
    split at h
    case h_2 => cases h
    split at h
    case isFalse => cases h
    obtain ⟨l, hl, rfl⟩ := Option.map_eq_some_iff.1 h
    obtain ⟨h1, _⟩ := partsOf_inv hl
    rw [h1] at ht
    simp only [LOp.opnds, List.map_map, Op.operands, List.mem_map, Array.mem_toList_iff, List.mem_toArray] at ht ⊢
    obtain ⟨p, hp, e⟩ := ht
    exact ⟨p, hp, e⟩
  case buildSlice ty len parts =>
    split at h
    case h_2 => cases h
    split at h
    case h_2 => cases h
    split at h
    case isFalse => cases h
    obtain rfl := Option.some.inj h
    simp only [LOp.opnds, Op.operands, List.mem_map, Array.mem_toList_iff, List.mem_toArray] at ht ⊢
    exact ht
  case load => obtain ⟨_, _, rfl⟩ := Option.map_eq_some_iff.1 h; simpa [LOp.opnds, Op.operands] using ht
  case store => obtain ⟨_, _, rfl⟩ := Option.map_eq_some_iff.1 h; simpa [LOp.opnds, Op.operands] using ht
  case binOp =>
    split at h
    · rename_i hn
      obtain rfl := Option.some.inj h
      obtain ⟨neg, _, ⟨rfl, _⟩ | ⟨rfl, _⟩⟩ := nilOf_inv hn <;> (simp [LOp.opnds, Op.operands] at ht ⊢; exact .inl ht)
    · split at h
      · rename_i hn
        obtain rfl := Option.some.inj h
        obtain ⟨_, _, neg, rfl, _⟩ := eqOf_inv hn
        simpa [LOp.opnds, Op.operands] using ht
      · obtain rfl := Option.some.inj h
        simpa [LOp.opnds, Op.operands] using ht
  case unOp => simpa [LOp.opnds, Op.operands] using ht
  case convert =>
    split at h
    · split at h
      · obtain rfl := Option.some.inj h; simpa [LOp.opnds, Op.operands] using ht
      · cases h
    · split at h
      · obtain rfl := Option.some.inj h; simpa [LOp.opnds, Op.operands] using ht
      · split at h
        · obtain rfl := Option.some.inj h; simpa [LOp.opnds, Op.operands] using ht
        · split at h
          · obtain rfl := Option.some.inj h; simpa [LOp.opnds, Op.operands] using ht
          · split at h
            · obtain rfl := Option.some.inj h; simpa [LOp.opnds, Op.operands] using ht
            · cases h
  case makeFunc =>
    split at h
    case isFalse => cases h
    obtain rfl := Option.some.inj h
    simp only [LOp.opnds, Op.operands, Array.mem_append] at ht ⊢
    exact .inr (by simpa using ht)
  case makeSlice =>
    split at h
    case h_2 => cases h
    split at h
    case h_2 => cases h
    split at h
    case isFalse => cases h
    obtain rfl := Option.some.inj h
    simpa [LOp.opnds, Op.operands] using ht
  case slice ty x lo hi mx =>
    split at h
    · split at h
      · obtain rfl := Option.some.inj h
        simp only [LOp.opnds, Op.operands, List.mem_cons, List.mem_append, Array.mem_append, Option.mem_toList, Option.mem_toArray, List.mem_toArray, List.not_mem_nil, or_false] at ht ⊢
        rcases ht with ht | ht | ht
        · exact .inl (.inl (.inl ht))
        · exact .inl (.inl (.inr ht))
        · exact .inl (.inr ht)
      · obtain rfl := Option.some.inj h
        simpa [LOp.opnds, Op.operands] using ht
      · obtain rfl := Option.some.inj h
        simpa [LOp.opnds, Op.operands] using ht
      · cases h
    · split at h
      case isFalse => cases h
      obtain rfl := Option.some.inj h
      simp only [LOp.opnds, Op.operands, List.mem_cons, List.mem_append, Array.mem_append, Option.mem_toList, Option.mem_toArray, List.mem_toArray, List.not_mem_nil, or_false] at ht ⊢
      rcases ht with ht | ht | ht
      · exact .inl (.inl (.inl ht))
      · exact .inl (.inl (.inr ht))
      · exact .inl (.inr ht)
  case fieldAddr =>
    split at h
    case h_2 => cases h
    split at h
    case h_2 => cases h
    split at h
    case isFalse => cases h
    obtain rfl := Option.some.inj h
    simpa [LOp.opnds, Op.operands] using ht
  case field =>
    split at h
    case h_2 => cases h
    obtain ⟨_, _, rfl⟩ := Option.map_eq_some_iff.1 h
    simpa [LOp.opnds, Op.operands] using ht
  case indexAddr =>
    split at h
    case h_2 => cases h
    obtain ⟨_, _, rfl⟩ := Option.map_eq_some_iff.1 h
    simpa [LOp.opnds, Op.operands] using ht
  case index =>
    split at h
    case isFalse => cases h
    obtain rfl := Option.some.inj h
    simpa [LOp.opnds, Op.operands] using ht
  case extract => simpa [LOp.opnds, Op.operands] using ht
  case makeMap =>
    split at h
    case h_2 => cases h
    obtain rfl := Option.some.inj h
    simp [LOp.opnds] at ht
  case mapUpdate =>
    split at h
    case h_2 => cases h
    obtain rfl := Option.some.inj h
    simpa [LOp.opnds, Op.operands] using ht
  case lookup =>
    split at h
    case h_2 => cases h
    split at h
    case h_2 => cases h
    split at h
    case h_2 => cases h
    obtain rfl := Option.some.inj h
    simpa [LOp.opnds, Op.operands] using ht
  case call c =>
    have hmem : ∀ x, x ∈ c.args.toList → x ∈ c.operands := fun x hx => by
      simp only [Call.operands, Array.mem_append]; exact .inr (by simpa using hx)
    simp only [Op.operands]
    split at h
    · split at h
      case h_2 => cases h
      rename_i ha _
      split at h
      · obtain rfl := Option.some.inj h
        exact hmem _ (by rw [ha]; simpa [LOp.opnds] using ht)
      · split at h
        case isFalse => cases h
        obtain rfl := Option.some.inj h
        exact hmem _ (by rw [ha]; simpa [LOp.opnds] using ht)
    · split at h
      case h_2 => cases h
      rename_i ha
      obtain rfl := Option.some.inj h
      exact hmem _ (by rw [ha]; simpa [LOp.opnds] using ht)
    · split at h
      case h_2 => cases h
      rename_i ha
      obtain rfl := Option.some.inj h
      exact hmem _ (by rw [ha]; simpa [LOp.opnds] using ht)
    · split at h
      case h_2 => cases h
      rename_i ha _
      split at h
      case h_2 => cases h
      split at h
      case h_2 => cases h
      split at h
      case isFalse => cases h
      split at h
      · obtain rfl := Option.some.inj h
        exact hmem _ (by rw [ha]; simpa [LOp.opnds] using ht)
      · split at h
        case isFalse => cases h
        obtain rfl := Option.some.inj h
        exact hmem _ (by rw [ha]; simpa [LOp.opnds] using ht)
    · split at h
      case h_2 => cases h
      rename_i ha _
      split at h
      case h_2 => cases h
      split at h
      case h_2 => cases h
      split at h
      case isFalse => cases h
      obtain rfl := Option.some.inj h
      exact hmem _ (by rw [ha]; simpa [LOp.opnds] using ht)
    · split at h
      case h_2 => cases h
      rename_i ha _
      split at h
      case h_2 => cases h
      split at h
      case h_2 => cases h
      obtain rfl := Option.some.inj h
      exact hmem _ (by rw [ha]; simpa [LOp.opnds] using ht)
    · split at h
      case h_2 => cases h
      rename_i ha _
      split at h
      case isFalse => cases h
      obtain rfl := Option.some.inj h
      exact hmem _ (by rw [ha]; simpa [LOp.opnds] using ht)
    · rename_i f hc
      obtain rfl := Option.some.inj h
      simp only [LOp.opnds, List.mem_cons] at ht
      rcases ht with ht | ht
      · simp [Call.operands, hc, ht]
      · exact hmem _ ht
    · cases h

/-! ### Footprints -/
def Eff.rds : Eff → List Nat
  | .rd id _ => [id]
  | .md id _ => [id]
  | .rm s id _ => [s, id]
  | _ => []
def Eff.wrs : Eff → List Nat
  | .md id _ => [id]
  | .rm _ id _ => [id]
  | _ => []
/-- H, but for these ids as in H'. -/
def mix (wr : List Nat) (H' H : Heap) : Heap := fun id => if id ∈ wr then H' id else H id

/-- Operation o (lowered: lo) does this at env, H, and wherever the objects that it looks at are the same. -/
structure Cert (P : Program) (o : Oper) (env : Env) (H : Heap) (rd wr : List Nat) (v : AV) (H' : Heap) : Prop where
  frame : ∀ id, id ∉ wr → H' id = H id
  run : ∀ (env2 : Env) (H2 : Heap), (∀ t, .tmp t ∈ o.op.operands → evA env2 (.tmp t) = evA env (.tmp t)) → (∀ id ∈ rd, H2 id = H id) → (∀ id ∈ wr, H2 id = H id) →
    ∀ G Z w (a : Act), St P G H2 Z w → EnvR G Z w env2 a.tmps → OpTo P o G H2 Z w a (fun v' H'' => v' = v ∧ H'' = mix wr H' H2)
theorem Cert.move {P : Program} {o : Oper} {env env2 : Env} {H H2 H' : Heap} {rd wr : List Nat} {v : AV} (c : Cert P o env H rd wr v H') (h1 : ∀ t, .tmp t ∈ o.op.operands → evA env2 (.tmp t) = evA env (.tmp t)) (h2 : ∀ id ∈ rd, H2 id = H id) (h3 : ∀ id ∈ wr, H2 id = H id) :
    Cert P o env2 H2 rd wr v (mix wr H' H2) := by
  refine ⟨fun id h => by simp [mix, h], fun env3 H3 g1 g2 g3 G Z w a st he => ?_⟩
  have := c.run env3 H3 (fun t ht => (g1 t ht).trans (h1 t ht)) (fun id h => (g2 id h).trans (h2 id h)) (fun id h => (g3 id h).trans (h3 id h)) G Z w a st he
  have e : mix wr (mix wr H' H2) H3 = mix wr H' H3 := by
    funext id; simp only [mix]; split <;> rfl
  rw [e]; exact this
theorem eff_exec_mix {e : Eff} {H H2 H' : Heap} {v : AV} (h : e.exec H = some (v, H')) (h2 : ∀ id ∈ e.rds, H2 id = H id) : e.exec H2 = some (v, mix e.wrs H' H2) ∧ ∀ id, id ∉ e.wrs → H' id = H id := by
  cases e with
  | no => cases h
  | pure u =>
    simp only [Eff.exec, Option.some.injEq, Prod.mk.injEq] at h ⊢
    obtain ⟨rfl, rfl⟩ := h
    exact ⟨⟨rfl, by funext id; simp [mix, Eff.wrs]⟩, fun _ _ => rfl⟩
  | rd i k =>
    have hi := h2 i (by simp [Eff.rds])
    obtain ⟨h3, rfl⟩ := exec_rd h
    refine ⟨?_, fun _ _ => rfl⟩
    simp only [Eff.exec, hi, h3, Eff.wrs, Option.some.injEq, Prod.mk.injEq, true_and]
    funext id; simp [mix]
  | md i k =>
    have hi := h2 i (by simp [Eff.rds])
    obtain ⟨x, h3, rfl⟩ := exec_md h
    refine ⟨?_, fun id hn => upd_ne _ _ _ _ (by simpa [Eff.wrs] using hn)⟩
    simp only [Eff.exec, hi, h3, Eff.wrs, Option.some.injEq, Prod.mk.injEq, true_and]
    funext id
    simp only [mix, List.mem_singleton]
    by_cases e : id = i
    · subst e; simp
    · rw [if_neg e, upd_ne _ _ _ _ e]
  | rm s i k =>
    have hi := h2 i (by simp [Eff.rds])
    have hs := h2 s (by simp [Eff.rds])
    obtain ⟨x, h3, rfl⟩ := exec_rm h
    refine ⟨?_, fun id hn => upd_ne _ _ _ _ (by simpa [Eff.wrs] using hn)⟩
    simp only [Eff.exec, hi, hs, h3, Eff.wrs, Option.some.injEq, Prod.mk.injEq, true_and]
    funext id
    simp only [mix, List.mem_singleton]
    by_cases e : id = i
    · subst e; simp
    · rw [if_neg e, upd_ne _ _ _ _ e]
theorem evA_same {env env2 : Env} {l : List Operand} (h : ∀ t, .tmp t ∈ l → evA env2 (.tmp t) = evA env (.tmp t)) : ∀ x ∈ l, evA env2 x = evA env x := by
  intro x hx
  cases x with
  | tmp t => exact h t hx
  | _ => rfl
theorem cert_eff {P : Program} {o : Oper} {lo : LOp} (hl : lowOp P o.op = some lo) {env : Env} {H H' : Heap} {t : Nat} {v : AV} (hx : (eff lo (evA env) t).exec H = some (v, H')) :
    Cert P o env H (eff lo (evA env) t).rds (eff lo (evA env) t).wrs v H' := by
  refine ⟨(eff_exec_mix hx fun _ _ => rfl).2, fun env2 H2 h1 h2 _ G Z w a st he => ?_⟩
  have e : eff lo (evA env2) t = eff lo (evA env) t := eff_congr lo (evA_same fun u hu => h1 u (lowOp_opnds hl u hu))
  exact (lower_sound st (fun x => he.eval x) (fun _ => rfl) hl (t := t) (by rw [e]; exact (eff_exec_mix hx h2).1)).to

/-! ### Any order -/
def disj (a b : List Nat) : Bool := a.all fun x => !b.contains x
structure Fp where
  i : Nat
  rd : List Nat
  wr : List Nat
def Fp.ok (f : Fp) (rd wr : List Nat) : Bool := disj f.wr (rd ++ wr) && disj wr f.rd
/-- What an operation must not touch: the footprints of those that it need not stand behind. -/
def noConf (acc : List Fp) (ord : List Nat) (rd wr : List Nat) : Bool := acc.all fun f => ord.contains f.i || f.ok rd wr

section
variable {P : Program} {ops : Array Oper} {md : Region.Mode}
def skipA (ops : Array Oper) (env : Env) (o : Oper) : Option Bool := match o.guard with
  | none => some true
  | some (j, want) => match ((ops[j]?).bind (·.dst)) with
    | some s => match env.f s with
      | .f (.bool b) => some (b == want)
      | .tup [] => some false
      | _ => none
    | none => none
/-- j stands behind i in every order. -/
inductive Bef (md : Region.Mode) (ops : Array Oper) : Nat → Nat → Prop
  | one {j : Nat} {o : Oper} {e : Edge} : ops[j]? = some o → e ∈ o.after → Region.binds md e = true → Bef md ops j e.on
  | more {j i : Nat} {o : Oper} {e : Edge} : ops[j]? = some o → e ∈ o.after → Region.binds md e = true → Bef md ops e.on i → Bef md ops j i
def Closed (md : Region.Mode) (ops : Array Oper) (listed : Array Bool) : Prop := ∀ j o, ops[j]? = some o → listed.getD j false = true → ∀ e ∈ o.after, Region.binds md e = true → listed.getD e.on false = true
theorem Closed.bef {listed : Array Bool} (hc : Closed md ops listed) {j i : Nat} (h : Bef md ops j i) : listed.getD j false = true → listed.getD i false = true := by
  induction h with
  | one h1 h2 h3 => exact fun hj => hc _ _ h1 hj _ h2 h3
  | more h1 h2 h3 _ ih => exact fun hj => ih (hc _ _ h1 hj _ h2 h3)
theorem Closed.ready {listed : Array Bool} (hc : Closed md ops listed) {j i : Nat} (hj : j ∈ Region.ready md ops listed) (h : Bef md ops j i) : listed.getD i false = true := by
  obtain ⟨_, o, ho, hall⟩ := mem_ready.1 hj
  cases h with
  | one h1 h2 h3 => rw [ho] at h1; obtain rfl := Option.some.inj h1; exact hall _ h2 h3
  | more h1 h2 h3 h4 => rw [ho] at h1; obtain rfl := Option.some.inj h1; exact hc.bef h4 (hall _ h2 h3)
theorem Closed.set {listed : Array Bool} (hc : Closed md ops listed) {j : Nat} (hj : j ∈ Region.ready md ops listed) : Closed md ops (listed.setIfInBounds j true) := by
  obtain ⟨_, o, ho, hall⟩ := mem_ready.1 hj
  have mono : ∀ k, listed.getD k false = true → (listed.setIfInBounds j true).getD k false = true := by
    intro k hk
    rw [Array.getD_eq_getD_getElem?] at hk ⊢
    rw [Array.getElem?_setIfInBounds]
    split
    · split
      · rfl
      · rename_i h1 h2; subst h1; rw [Array.getElem?_eq_none (by omega)] at hk; cases hk
    · exact hk
  intro k ok hok hk e he hb
  by_cases hkj : k = j
  · subst hkj
    rw [ho] at hok; obtain rfl := Option.some.inj hok
    exact mono _ (hall e he hb)
  · have : listed.getD k false = true := by
      rw [Array.getD_eq_getD_getElem?, Array.getElem?_setIfInBounds_ne (Ne.symm hkj)] at hk
      rw [Array.getD_eq_getD_getElem?]; exact hk
    exact mono _ (hc k ok hok this e he hb)
/-- The operations that are not listed yet, in any order, under these bars. -/
def anyA (P : Program) (md : Region.Mode) (ops : Array Oper) (K : Env → Heap → Prop) : Nat → Array Bool → List Fp → Env → Heap → Prop
  | 0, listed, _, env, H => Region.ready md ops listed = [] ∧ K env H
  | fuel + 1, listed, acc, env, H => (Region.ready md ops listed = [] → K env H) ∧ ∀ i ∈ Region.ready md ops listed, ∃ o, ops[i]? = some o ∧
      ((skipA ops env o = some false ∧ anyA P md ops K fuel (listed.setIfInBounds i true) acc (putE env o.dst (.tup [])) H) ∨
       (skipA ops env o = some true ∧ ∃ rd wr v H', Cert P o env H rd wr v H' ∧ (∀ f ∈ acc, ¬ Bef md ops i f.i → f.ok rd wr = true) ∧ anyA P md ops K fuel (listed.setIfInBounds i true) acc (putE env o.dst v) H'))
theorem anyA_acc {K : Env → Heap → Prop} : ∀ (fuel : Nat) (listed : Array Bool) (acc acc' : List Fp) (env : Env) (H : Heap), (∀ f ∈ acc', f ∈ acc) → anyA P md ops K fuel listed acc env H → anyA P md ops K fuel listed acc' env H
  | 0, _, _, _, _, _, _, h => h
  | fuel + 1, listed, acc, acc', env, H, hs, h => ⟨h.1, fun i hi => by
    obtain ⟨o, ho, h1⟩ := h.2 i hi
    refine ⟨o, ho, ?_⟩
    rcases h1 with ⟨h1, h2⟩ | ⟨h1, rd, wr, v, H', h2, h3, h4⟩
    · exact .inl ⟨h1, anyA_acc fuel _ acc acc' _ _ hs h2⟩
    · exact .inr ⟨h1, rd, wr, v, H', h2, fun f hf => h3 f (hs f hf), anyA_acc fuel _ acc acc' _ _ hs h4⟩⟩

theorem evA_put {env : Env} {dst : Option Nat} {v : AV} {t : Nat} (h : ∀ d, dst = some d → t ≠ d) : evA (putE env dst v) (.tmp t) = evA env (.tmp t) := by
  cases dst with
  | none => rfl
  | some d =>
    simp only [evA, putE]
    split
    · exact upd_ne _ _ _ _ (h d rfl)
    · rfl
theorem putE_comm (env : Env) {x y : Option Nat} (u v : AV) (h : ∀ d, x = some d → y ≠ some d) : putE (putE env x u) y v = putE (putE env y v) x u := by
  cases x with
  | none => rfl
  | some d =>
    cases y with
    | none => rfl
    | some e =>
      have hne : d ≠ e := fun he => h d rfl (he ▸ rfl)
      simp only [putE]
      by_cases h1 : d < env.n <;> by_cases h2 : e < env.n <;> simp only [h1, h2, if_true, if_false]
      congr 1
      funext k
      simp only [upd]
      split <;> split <;> first | rfl | omega
theorem skipA_put {env : Env} {o : Oper} {dst : Option Nat} {v : AV} (h : ∀ d, dst = some d → d ∉ o.looksAt ops) : skipA ops (putE env dst v) o = skipA ops env o := by
  unfold skipA
  cases hg : o.guard with
  | none => rfl
  | some p =>
    obtain ⟨j, want⟩ := p
    simp only
    cases hs : (ops[j]?).bind (·.dst) with
    | none => rfl
    | some s =>
      have : evA (putE env dst v) (.tmp s) = evA env (.tmp s) := evA_put fun d hd e => h d hd (by subst e; simp [Oper.looksAt, hg, hs])
      simp only [evA] at this
      simp only [this]
theorem mem_looks {o : Oper} {t : Nat} (h : .tmp t ∈ o.op.operands) : t ∈ o.looksAt ops := by
  unfold Oper.looksAt
  exact List.mem_append_left _ (List.mem_filterMap.2 ⟨.tmp t, by simpa using h, rfl⟩)

/-- What operation o does here: nothing, or this. -/
def YA (P : Program) (ops : Array Oper) (o : Oper) (env : Env) (H : Heap) (rd wr : List Nat) (v : AV) (H' : Heap) : Prop :=
  (skipA ops env o = some false ∧ rd = [] ∧ wr = [] ∧ v = .tup [] ∧ H' = H) ∨ (skipA ops env o = some true ∧ Cert P o env H rd wr v H')
theorem disj_spec {a b : List Nat} (h : disj a b = true) : ∀ x ∈ a, x ∉ b := fun x hx hb => by
  have := List.all_eq_true.1 h x hx
  simp at this; exact this hb

theorem anyA_first {K : Env → Heap → Prop} {i : Nat} {oi : Oper} {rd wr : List Nat} {v : AV} (hi : ops[i]? = some oi) : ∀ (fuel : Nat) (listed : Array Bool) (acc : List Fp) (env : Env) (H H' : Heap),
    Closed md ops listed → (∀ j oj, ops[j]? = some oj → j ≠ i → listed.getD j true = false → (∀ e ∈ oj.after, Region.binds md e = true → e.on ≠ i) → oi.apart ops oj = true) →
    i ∈ Region.ready md ops listed → YA P ops oi env H rd wr v H' → (∀ f ∈ acc, ¬ Bef md ops i f.i → f.ok rd wr = true) →
    anyA P md ops K fuel (listed.setIfInBounds i true) (⟨i, rd, wr⟩ :: acc) (putE env oi.dst v) H' → anyA P md ops K (fuel + 1) listed acc env H := by
  have here : ∀ (fuel : Nat) (listed : Array Bool) (acc : List Fp) (env : Env) (H H' : Heap), YA P ops oi env H rd wr v H' → (∀ f ∈ acc, ¬ Bef md ops i f.i → f.ok rd wr = true) →
      anyA P md ops K fuel (listed.setIfInBounds i true) (⟨i, rd, wr⟩ :: acc) (putE env oi.dst v) H' → ∃ o, ops[i]? = some o ∧
      ((skipA ops env o = some false ∧ anyA P md ops K fuel (listed.setIfInBounds i true) acc (putE env o.dst (.tup [])) H) ∨
       (skipA ops env o = some true ∧ ∃ rd wr v H', Cert P o env H rd wr v H' ∧ (∀ f ∈ acc, ¬ Bef md ops i f.i → f.ok rd wr = true) ∧ anyA P md ops K fuel (listed.setIfInBounds i true) acc (putE env o.dst v) H')) := by
    intro fuel listed acc env H H' hy hacc h
    have h' := anyA_acc fuel _ _ acc _ _ (fun f hf => List.mem_cons_of_mem _ hf) h
    refine ⟨oi, hi, ?_⟩
    rcases hy with ⟨h1, rfl, rfl, rfl, rfl⟩ | ⟨h1, h2⟩
    · exact .inl ⟨h1, h'⟩
    · exact .inr ⟨h1, rd, wr, v, H', h2, hacc, h'⟩
  intro fuel
  induction fuel with
  | zero =>
    intro listed acc env H H' hcl hfree hr hy hacc h
    refine ⟨fun h0 => (by rw [h0] at hr; cases hr), fun j hj => ?_⟩
    by_cases hji : j = i
    · subst hji; exact here 0 listed acc env H H' hy hacc h
    · have := ready_mono hj hji
      rw [h.1] at this; cases this
  | succ fuel ih =>
    intro listed acc env H H' hcl hfree hr hy hacc h
    refine ⟨fun h0 => (by rw [h0] at hr; cases hr), fun j hj => ?_⟩
    by_cases hji : j = i
    · subst hji; exact here (fuel + 1) listed acc env H H' hy hacc h
    · obtain ⟨hjun, oj0, hoj0, hall⟩ := mem_ready.1 hj
      have hiun : listed.getD i true = false := (mem_ready.1 hr).1
      have hiun' : listed.getD i false ≠ true := by
        intro h1
        rw [Array.getD_eq_getD_getElem?] at h1 hiun
        cases hq : listed[i]? with
        | none => rw [hq] at h1; cases h1
        | some b => rw [hq] at h1 hiun; simp at h1 hiun; rw [h1] at hiun; cases hiun
      obtain ⟨oj, hoj, h1⟩ := h.2 j (ready_mono hj hji)
      have hnot : ∀ e ∈ oj.after, Region.binds md e = true → e.on ≠ i := fun e he hb heq => by
        rw [hoj] at hoj0; obtain rfl := Option.some.inj hoj0
        have := hall e he hb
        rw [heq] at this; exact hiun' this
      have hbef : ¬ Bef md ops j i := fun hb => hiun' (hcl.ready hj hb)
      obtain ⟨g1, g2, g3⟩ := Oper.apart_spec (hfree j oj hoj hji hjun hnot)
      have hfree' : ∀ k ok, ops[k]? = some ok → k ≠ i → (listed.setIfInBounds j true).getD k true = false → (∀ e ∈ ok.after, Region.binds md e = true → e.on ≠ i) → oi.apart ops ok = true := fun k ok hk hki hun hno => by
        refine hfree k ok hk hki ?_ hno
        by_cases hjk : j = k
        · subst hjk; exact hjun
        · rw [getD_set_ne true hjk] at hun; exact hun
      have comm : (listed.setIfInBounds i true).setIfInBounds j true = (listed.setIfInBounds j true).setIfInBounds i true := Array.setIfInBounds_comm _ _ (Ne.symm hji)
      rw [skipA_put g1] at h1
      refine ⟨oj, hoj, ?_⟩
      rcases h1 with ⟨h1, h2⟩ | ⟨h1, rdj, wrj, vj, Hj, hcj, haccj, h2⟩
      · refine .inl ⟨h1, ih (listed.setIfInBounds j true) acc (putE env oj.dst (.tup [])) H H' (hcl.set hj) hfree' (ready_mono hr (Ne.symm hji)) ?_ hacc ?_⟩
        · rcases hy with ⟨k1, k2⟩ | ⟨k1, k2⟩
          · exact .inl ⟨by rw [skipA_put g3]; exact k1, k2⟩
          · refine .inr ⟨by rw [skipA_put g3]; exact k1, ?_⟩
            have := k2.move (env2 := putE env oj.dst (.tup [])) (H2 := H) (fun t ht => evA_put fun d hd e => g3 d hd (by subst e; exact mem_looks ht)) (fun _ _ => rfl) (fun _ _ => rfl)
            have e : mix wr H' H = H' := by
              funext id; simp only [mix]; split
              · rfl
              · rename_i hn; exact (k2.frame id hn).symm
            rw [e] at this; exact this
        · rw [← putE_comm env v (.tup []) g2, ← comm]; exact h2
      · have hok := haccj ⟨i, rd, wr⟩ (by simp) hbef
        simp only [Fp.ok, Bool.and_eq_true] at hok
        have d1 := disj_spec hok.1
        have d2 := disj_spec hok.2
        have hH : ∀ id, id ∉ wr → H' id = H id := by
          rcases hy with ⟨_, _, _, _, rfl⟩ | ⟨_, k2⟩
          · exact fun _ _ => rfl
          · exact k2.frame
        have hcj' := hcj.move (env2 := env) (H2 := H) (fun t ht => (evA_put fun d hd e => g1 d hd (by subst e; exact mem_looks ht)).symm)
          (fun id hid => (hH id (fun hw => d1 id hw (List.mem_append_left _ hid))).symm) (fun id hid => (hH id (fun hw => d1 id hw (List.mem_append_right _ hid))).symm)
        refine .inr ⟨h1, rdj, wrj, vj, _, hcj', fun f hf hb => haccj f (List.mem_cons_of_mem _ hf) hb, ih (listed.setIfInBounds j true) acc (putE env oj.dst vj) _ (mix wr H' (mix wrj Hj H)) (hcl.set hj) hfree' (ready_mono hr (Ne.symm hji)) ?_ hacc ?_⟩
        · rcases hy with ⟨k1, rfl, rfl, rfl, rfl⟩ | ⟨k1, k2⟩
          · exact .inl ⟨by rw [skipA_put g3]; exact k1, rfl, rfl, rfl, by funext id; simp [mix]⟩
          · refine .inr ⟨by rw [skipA_put g3]; exact k1, ?_⟩
            exact k2.move (env2 := putE env oj.dst vj) (H2 := mix wrj Hj H) (fun t ht => evA_put fun d hd e => g3 d hd (by subst e; exact mem_looks ht))
              (fun id hid => by simp only [mix]; rw [if_neg (fun hw => d2 id hw hid)]) (fun id hid => by simp only [mix]; rw [if_neg (fun hw => d1 id hid (List.mem_append_right _ hw))])
        · have e : mix wr H' (mix wrj Hj H) = Hj := by
            funext id
            simp only [mix]
            split
            · rename_i hw
              exact (hcj.frame id (fun hj => d1 id hw (List.mem_append_right _ hj))).symm
            · rename_i hw
              split
              · rfl
              · rename_i hwj
                rw [hcj.frame id hwj, hH id hw]
          rw [e, ← putE_comm env v vj g2, ← comm]; exact h2

/-- In the order of the text. -/
def lexA (P : Program) (md : Region.Mode) (ops : Array Oper) (K : Env → Heap → Prop) : List Oper → Nat → List Fp → Env → Heap → Prop
  | [], _, _, env, H => K env H
  | o :: l, k, acc, env, H => ∃ rd wr v H', YA P ops o env H rd wr v H' ∧ (∀ f ∈ acc, ¬ Bef md ops k f.i → f.ok rd wr = true) ∧ lexA P md ops K l (k + 1) (⟨k, rd, wr⟩ :: acc) (putE env o.dst v) H'
theorem anyA_lex {K : Env → Heap → Prop} (hs : Region.noSelect ops = true) : ∀ (l : List Oper) (k : Nat) (listed : Array Bool) (acc : List Fp) (env : Env) (H : Heap), (∀ j, l[j]? = ops[k + j]?) →
    Closed md ops listed → Region.lexFrom md ops l.length k listed = true → lexA P md ops K l k acc env H → anyA P md ops K l.length listed acc env H
  | [], _, _, _, _, _, _, _, hB, h => ⟨by simpa [Region.lexFrom] using hB, h⟩
  | o :: l, k, listed, acc, env, H, hl, hcl, hB, h => by
    have h0 : ops[k]? = some o := by simpa using (hl 0).symm
    simp only [List.length_cons, Region.lexFrom, Bool.and_eq_true] at hB
    obtain ⟨⟨hr, hf⟩, hB'⟩ := hB
    obtain ⟨rd, wr, v, H', hy, hacc, hK⟩ := h
    have hr' : k ∈ Region.ready md ops listed := by simpa using hr
    exact anyA_first h0 l.length listed acc env H H' hcl (Region.free_spec h0 hf) hr' hy hacc
      (anyA_lex hs l (k + 1) _ _ _ _ (fun j => by have := hl (j + 1); simpa [Nat.add_assoc, Nat.add_comm 1 j] using this) (hcl.set hr') hB' hK)

/-- .. and so the region itself goes through. -/
theorem skipA_wanted {env : Env} {o : Oper} {a : Act} {G : Ghost} {Z : Nat → Prop} {w : World} {b : Bool} (he : EnvR G Z w env a.tmps) (h : skipA ops env o = some b) : Region.wanted o (yielded ops a.tmps) = b := by
  unfold skipA at h
  unfold Region.wanted
  cases hg : o.guard with
  | none => rw [hg] at h; simpa using h
  | some p =>
    obtain ⟨j, want⟩ := p
    rw [hg] at h
    simp only at h ⊢
    unfold yielded
    split at h
    · rename_i s hs
      split at h
      · rename_i c hc
        obtain rfl := Option.some.inj h
        have hr := he.eval (.tmp s)
        simp only [evA, Act.eval] at hr
        rw [hc] at hr
        have hv := hr.bool_
        rw [Array.getD_eq_getD_getElem?] at hv
        cases hq : a.tmps[s]? with
        | none => rw [hq] at hv; simp [undef] at hv
        | some u =>
          rw [hq] at hv
          simp only [Option.getD_some] at hv
          subst hv
          simp only [hs, Option.bind_some, hq]
          cases c <;> cases want <;> rfl
      · rename_i hc
        obtain rfl := Option.some.inj h
        have hr := he.eval (.tmp s)
        simp only [evA, Act.eval] at hr
        rw [hc] at hr
        obtain ⟨us, hv, hu, _⟩ := hr.tup_
        rw [Array.getD_eq_getD_getElem?] at hv
        cases hq : a.tmps[s]? with
        | none => simp only [hs, Option.bind_some, hq]; rfl
        | some u =>
          rw [hq] at hv
          simp only [Option.getD_some] at hv
          subst hv
          simp only [hs, Option.bind_some, hq]; rfl
      · cases h
    · cases h
end
end Go.Proofs.YtaiajaibcpkceaaDoor
