/-
  The abstract machine: code, by abstract states (Ax: from this state on, the function ends as asked). No statement of the seat is proved here; no conditions.
-/
import Derived.Test.YtaiajaibcpkceaaDoorEngJ
namespace Go.Proofs.YtaiajaibcpkceaaDoor
open Go.RowKit
set_option linter.unusedVariables false
set_option linter.unusedSimpArgs false

/-- What has become of memory since a call began. -/
structure Hist (G : Ghost) (Z : Nat → Prop) (w : World) (G' : Ghost) (Z' : Nat → Prop) (w' : World) : Prop where
  os : w'.os = w.os
  tape : w'.tape = w.tape
  output : w'.output = w.output
  size : w.heap.size ≤ w'.heap.size
  old : ∀ b, b < w.heap.size → ¬ LiveB G b → w'.heap[b]? = w.heap[b]?
  zin : ∀ b, Z b → Z' b ∧ w'.heap[b]? = w.heap[b]?
  zout : ∀ b, Z' b → Z b ∨ LiveB G b ∨ w.heap.size ≤ b
  live : ∀ b, LiveB G' b → LiveB G b ∨ w.heap.size ≤ b
  room : ∀ b (arr : Array Value) e fz, LiveB G b → w.heap[b]? = some (.cells arr e fz) → ∃ arr' e' fz', w'.heap[b]? = some (.cells arr' e' fz') ∧ arr'.size = arr.size
  ver : ∀ id, 100000 ≤ id → (G id).1 ≤ (G' id).1
  same : ∀ id, 100000 ≤ id → (G' id).1 = (G id).1 → (G' id).2 = none ∨ (G' id).2 = (G id).2
theorem Step.hist {G G' : Ghost} {Z Z' : Nat → Prop} {w w' : World} (h : Step G Z w G' Z' w') : Hist G Z w G' Z' w' :=
  ⟨h.os, h.tape, h.output, h.size, h.old, h.zin, h.zout, h.live, h.room, fun id _ => h.ver id, fun id _ => h.same id⟩
theorem Hist.refl (G : Ghost) (Z : Nat → Prop) (w : World) : Hist G Z w G Z w := (Step.refl G Z w).hist
theorem Hist.trans {G G1 G2 : Ghost} {Z Z1 Z2 : Nat → Prop} {w w1 w2 : World} (h1 : Hist G Z w G1 Z1 w1) (h2 : Hist G1 Z1 w1 G2 Z2 w2) : Hist G Z w G2 Z2 w2 := by
  have hold : ∀ b, b < w.heap.size → ¬ LiveB G b → w2.heap[b]? = w.heap[b]? := fun b hb hn => by
    rw [h2.old b (Nat.lt_of_lt_of_le hb h1.size) (fun hl => (h1.live b hl).elim hn (by omega)), h1.old b hb hn]
  refine ⟨h2.os.trans h1.os, h2.tape.trans h1.tape, h2.output.trans h1.output, Nat.le_trans h1.size h2.size, hold, fun b hz => ⟨(h2.zin b (h1.zin b hz).1).1, by rw [(h2.zin b (h1.zin b hz).1).2, (h1.zin b hz).2]⟩, fun b hz => ?_, fun b hl => ?_, fun b arr e fz hl hh => ?_,
    fun id hid => Nat.le_trans (h1.ver id hid) (h2.ver id hid), fun id hid e => ?_⟩
  · rcases h2.zout b hz with h3 | h3 | h3
    · exact h1.zout b h3
    · rcases h1.live b h3 with h4 | h4
      · exact .inr (.inl h4)
      · exact .inr (.inr h4)
    · exact .inr (.inr (Nat.le_trans h1.size h3))
  · rcases h2.live b hl with h3 | h3
    · exact h1.live b h3
    · exact .inr (Nat.le_trans h1.size h3)
  · obtain ⟨arr1, e1, fz1, hh1, hs1⟩ := h1.room b arr e fz hl hh
    by_cases hl1 : LiveB G1 b
    · obtain ⟨arr2, e2, fz2, hh2, hs2⟩ := h2.room b arr1 e1 fz1 hl1 hh1
      exact ⟨arr2, e2, fz2, hh2, by omega⟩
    · exact ⟨arr1, e1, fz1, by rw [h2.old b (heap_lt hh1) hl1]; exact hh1, hs1⟩
  · have a1 := h1.ver id hid
    have a2 := h2.ver id hid
    rcases h2.same id hid (by omega) with h3 | h3
    · exact .inl h3
    · rcases h1.same id hid (by omega) with h4 | h4
      · exact .inl (h3.trans h4)
      · exact .inr (h3.trans h4)

/-- Where a call began. -/
structure At0 where
  G : Ghost
  Z : Nat → Prop
  w : World
def Sim (P : Program) (s : At0) (env : Env) (H : Heap) (a : Act) (w : World) : Prop :=
  ∃ G Z, St P G H Z w ∧ EnvR G Z w env a.tmps ∧ a.defers = [] ∧ Hist s.G s.Z s.w G Z w
def Goal (P : Program) (F : Act → World → Prop) (t : List Item) (a : Act) (w : World) : Prop :=
  ∀ (b : Frame) (cs : List Frame), ∃ a' w' t', Steps P (lone (b.at a t) cs w) (lone { b.at a' t' with mode := .returning } cs w') ∧ F a' w'
section
variable {P : Program}
theorem Goal.steps {F : Act → World → Prop} {t t' : List Item} {a a' : Act} {w w' : World} (h : ∀ (b : Frame) cs, Steps P (lone (b.at a t) cs w) (lone (b.at a' t') cs w')) (g : Goal P F t' a' w') : Goal P F t a w := fun b cs => by
  obtain ⟨a2, w2, t2, h1, h2⟩ := g b cs
  exact ⟨a2, w2, t2, (h b cs).trans h1, h2⟩
theorem Goal.wp {F : Act → World → Prop} {c : Code} {t : List Item} {a : Act} {w : World} (h : c.wp P (fun e a w => e = .normal ∧ Goal P F t a w) a w) : Goal P F (.code c :: t) a w := fun b cs => by
  obtain ⟨e, a1, w1, ⟨rfl, h1⟩, h2⟩ := h b t cs
  obtain ⟨a2, w2, t2, h3, h4⟩ := h1 b cs
  exact ⟨a2, w2, t2, Steps.trans h2 h3, h4⟩

inductive It where
  | code (c : LCode)
  | ops (l : List LO)
  | dops (l : List DO) (k : Nat) (acc : List Fp)
  | blk (id : Nat)
  | again
abbrev Lams := List (Env → Heap → Prop)
/-- The machine's list of what is to be done, and the abstract one. -/
inductive Mt (P : Program) (R : Env → Heap → Prop) (s : At0) : Lams → List It → List Item → Prop
  | nil : Mt P R s [] [] []
  | code {Λ : Lams} {c : Code} {lc : LCode} {k : List It} {t : List Item} : lowC P c = some lc → Mt P R s Λ k t → Mt P R s Λ (.code lc :: k) (.code c :: t)
  | blk {Λ : Lams} {id : Nat} {k : List It} {t : List Item} : Mt P R s Λ k t → Mt P R s Λ (.blk id :: k) (.inBlock id :: t)
  | again {Λ : Lams} {L : Env → Heap → Prop} {c : Code} {k : List It} {t : List Item} : (∀ env H a w, L env H → Sim P s env H a w → Goal P (fun a w => ∃ env H, R env H ∧ Sim P s env H a w) (.inLoop c :: t) a w) → Mt P R s Λ k t → Mt P R s (L :: Λ) (.again :: k) (.inLoop c :: t)
def Fin (P : Program) (R : Env → Heap → Prop) (s : At0) (a : Act) (w : World) : Prop := ∃ env H, R env H ∧ Sim P s env H a w

/-- Abstractly: from here on it ends in R. -/
def Ax (P : Program) (R : Env → Heap → Prop) (Λ : Lams) (k : List It) (env : Env) (H : Heap) : Prop := match k with
  | .ops los :: k => ∀ (s : At0) (ops : Array Oper) (l : List Oper) (t : List Item), lowOpers P ops l = some los → Mt P R s Λ k t → ∀ a w, Sim P s env H a w → wpList P ops (fun e a w => e = .normal ∧ Goal P (Fin P R s) t a w) l a w
  | .dops los n acc :: k => ∀ (s : At0) (ops : Array Oper) (l : List Oper) (t : List Item) (ords : List (List Nat)) (accF : List Fp), lowDOpers P ops l ords = some los → (∀ j, l[j]? = ops[n + j]?) → ords.length = n →
      (∀ (j : Nat) (r : List Nat), ords[j]? = some r → ∀ i ∈ r, Bef .any ops j i) → (∀ f ∈ accF, f ∈ acc ∨ (f.rd = [] ∧ f.wr = [])) → Mt P R s Λ k t →
      lexA P .any ops (fun env H => ∀ a w, Sim P s env H a w → Goal P (Fin P R s) t a w) l n accF env H
  | k => ∀ (s : At0) (t : List Item), Mt P R s Λ k t → ∀ a w, Sim P s env H a w → Goal P (Fin P R s) t a w

variable {R : Env → Heap → Prop} {Λ : Lams} {k : List It} {env : Env} {H : Heap}
theorem ax_nil (h : R env H) : Ax P R Λ [] env H := fun s t hm a w hs => by
  cases hm
  exact fun b cs => ⟨a, w, [], .one step_end, env, H, h, hs⟩
/-- What the lowered forms come from. -/
theorem low_inv {c : Code} {lc : LCode} (h : lowC P c = some lc) : match lc with
    | .skip => c = .skip
    | .ret => c = .ret
    | .exit id => c = .exit id
    | .seq x y => ∃ a b, c = .seq a b ∧ lowC P a = some x ∧ lowC P b = some y
    | .cond o x y => ∃ a b, c = .cond o a b ∧ lowC P a = some x ∧ lowC P b = some y
    | .block id x => ∃ a, c = .block id a ∧ lowC P a = some x
    | .loop x => ∃ a, c = .loop a ∧ lowC P a = some x
    | .reg los => ∃ id ops, c = .region id ops false ∧ lowOpers P ops ops.toList = some los
    | .draw los => ∃ id ops, c = .region id ops true ∧ P.follows .mixedOrders = true ∧ Region.lexB .any ops = true ∧ lowDOpers P ops ops.toList [] = some los := by
  cases c with
  | skip => simp only [lowC, Option.some.injEq] at h; subst h; rfl
  | ret => simp only [lowC, Option.some.injEq] at h; subst h; rfl
  | exit id => simp only [lowC, Option.some.injEq] at h; subst h; rfl
  | seq a b =>
    simp only [lowC] at h
    split at h
    · rename_i x y hx hy
      obtain rfl := Option.some.inj h
      exact ⟨a, b, rfl, hx, hy⟩
    · cases h
  | cond o a b =>
    simp only [lowC] at h
    split at h
    · rename_i x y hx hy
      obtain rfl := Option.some.inj h
      exact ⟨a, b, rfl, hx, hy⟩
    · cases h
  | block id a =>
    simp only [lowC] at h
    obtain ⟨x, hx, rfl⟩ := Option.map_eq_some_iff.1 h
    exact ⟨a, rfl, hx⟩
  | loop a =>
    simp only [lowC] at h
    obtain ⟨x, hx, rfl⟩ := Option.map_eq_some_iff.1 h
    exact ⟨a, rfl, hx⟩
  | region id ops d =>
    cases d with
    | false =>
      simp only [lowC] at h
      obtain ⟨x, hx, rfl⟩ := Option.map_eq_some_iff.1 h
      exact ⟨id, ops, rfl, hx⟩
    | true =>
      simp only [lowC] at h
      split at h
      · rename_i hb
        simp only [Bool.and_eq_true] at hb
        obtain ⟨x, hx, rfl⟩ := Option.map_eq_some_iff.1 h
        exact ⟨id, ops, rfl, hb.1, hb.2, hx⟩
      · cases h
  | _ => simp only [lowC] at h; cases h
theorem Ax.go (h : Ax P R Λ k env H) {s : At0} {t : List Item} (hm : Mt P R s Λ k t) {a : Act} {w : World} (hs : Sim P s env H a w) : Goal P (Fin P R s) t a w := by
  have hm' := hm
  cases hm <;> exact h s _ hm' a w hs
theorem ax_ret (h : R env H) : Ax P R Λ (.code .ret :: k) env H := fun s t hm a w hs => by
  cases hm with
  | @code _ c _ _ t hc hm =>
    have e : c = .ret := low_inv hc
    subst e
    exact fun b cs => ⟨a, w, _, .one step_ret, env, H, h, hs⟩
theorem ax_skip (h : Ax P R Λ k env H) : Ax P R Λ (.code .skip :: k) env H := fun s t hm a w hs => by
  cases hm with
  | @code _ c _ _ t hc hm =>
    have e : c = .skip := low_inv hc
    subst e
    exact Goal.steps (fun b cs => .one step_skip) (h.go hm hs)
theorem ax_seq {x y : LCode} (h : Ax P R Λ (.code x :: .code y :: k) env H) : Ax P R Λ (.code (.seq x y) :: k) env H := fun s t hm a w hs => by
  cases hm with
  | code hc hm =>
    obtain ⟨c1, c2, rfl, h1, h2⟩ := low_inv hc
    exact Goal.steps (fun b cs => .one step_seq) (h.go (.code h1 (.code h2 hm)) hs)
theorem ax_block {id : Nat} {x : LCode} (h : Ax P R Λ (.code x :: .blk id :: k) env H) : Ax P R Λ (.code (.block id x) :: k) env H := fun s t hm a w hs => by
  cases hm with
  | code hc hm =>
    obtain ⟨c1, rfl, h1⟩ := low_inv hc
    exact Goal.steps (fun b cs => .one step_block) (h.go (.code h1 (.blk hm)) hs)
theorem ax_blk {id : Nat} (h : Ax P R Λ k env H) : Ax P R Λ (.blk id :: k) env H := fun s t hm a w hs => by
  cases hm with
  | blk hm => exact Goal.steps (fun b cs => .one step_inBlock) (h.go hm hs)
theorem ax_cond {c : Operand} {x y : LCode} {b : Bool} (hc : evA env c = .f (.bool b)) (h1 : b = true → Ax P R Λ (.code x :: k) env H) (h2 : b = false → Ax P R Λ (.code y :: k) env H) : Ax P R Λ (.code (.cond c x y) :: k) env H := fun s t hm a w hs => by
  cases hm with
  | code hl hm =>
    obtain ⟨c1, c2, rfl, g1, g2⟩ := low_inv hl
    obtain ⟨G, Z, st, he, hd, hh⟩ := id hs
    have hr := he.eval c
    rw [hc] at hr
    cases b with
    | true => exact Goal.steps (fun b cs => .one (step_cond hr.bool_)) ((h1 rfl).go (.code g1 hm) hs)
    | false => exact Goal.steps (fun b cs => .one (step_cond hr.bool_)) ((h2 rfl).go (.code g2 hm) hs)
theorem ax_condBit {c : Operand} {x y : LCode} (hc : evA env c = .f .bit) (h1 : Ax P R Λ (.code x :: k) env H) (h2 : Ax P R Λ (.code y :: k) env H) : Ax P R Λ (.code (.cond c x y) :: k) env H := fun s t hm a w hs => by
  cases hm with
  | code hl hm =>
    obtain ⟨c1, c2, rfl, g1, g2⟩ := low_inv hl
    obtain ⟨G, Z, st, he, hd, hh⟩ := id hs
    have hr := he.eval c
    rw [hc] at hr
    obtain ⟨b, hb⟩ := hr.bit_
    cases b with
    | true => exact Goal.steps (fun b cs => .one (step_cond hb)) (h1.go (.code g1 hm) hs)
    | false => exact Goal.steps (fun b cs => .one (step_cond hb)) (h2.go (.code g2 hm) hs)
def popTo (id : Nat) : Lams → List It → Option (Lams × List It)
  | _, [] => none
  | Λ, .blk id' :: k => if id' = id then some (Λ, k) else popTo id Λ k
  | _ :: Λ, .again :: k => popTo id Λ k
  | [], .again :: k => none
  | Λ, _ :: k => popTo id Λ k
theorem Mt.pop {s : At0} {id : Nat} : ∀ {Λ : Lams} {k : List It} {t : List Item} {Λ' : Lams} {k' : List It}, Mt P R s Λ k t → popTo id Λ k = some (Λ', k') → ∃ t', exitTo id t = some t' ∧ Mt P R s Λ' k' t' := by
  intro Λ k t Λ' k' hm
  induction hm with
  | nil => intro h; simp [popTo] at h
  | code hc hm ih =>
    intro h
    simp only [popTo] at h
    obtain ⟨t', h1, h2⟩ := ih h
    exact ⟨t', by simp only [exitTo]; exact h1, h2⟩
  | @blk Λ id' k t hm ih =>
    intro h
    simp only [popTo] at h
    by_cases e : id' = id
    · subst e
      rw [if_pos rfl] at h
      simp only [Option.some.injEq, Prod.mk.injEq] at h
      obtain ⟨rfl, rfl⟩ := h
      exact ⟨t, by simp [exitTo], hm⟩
    · rw [if_neg e] at h
      obtain ⟨t', h1, h2⟩ := ih h
      have e2 : (id' == id) = false := by simpa using e
      exact ⟨t', by simp only [exitTo, e2]; simpa using h1, h2⟩
  | again hL hm ih =>
    intro h
    simp only [popTo] at h
    obtain ⟨t', h1, h2⟩ := ih h
    exact ⟨t', by simp only [exitTo]; exact h1, h2⟩
theorem ax_exit {id : Nat} {Λ' : Lams} {k' : List It} (hp : popTo id Λ k = some (Λ', k')) (h : Ax P R Λ' k' env H) : Ax P R Λ (.code (.exit id) :: k) env H := fun s t hm a w hs => by
  cases hm with
  | @code _ c _ _ t hc hm =>
    have e : c = .exit id := low_inv hc
    subst e
    obtain ⟨t', h1, h2⟩ := hm.pop hp
    exact Goal.steps (fun b cs => .one (step_exit h1)) (h.go h2 hs)
theorem ax_again {L : Env → Heap → Prop} (h : L env H) : Ax P R (L :: Λ) (.again :: k) env H := fun s t hm a w hs => by
  cases hm with
  | again hL hm => exact hL env H a w h hs
/-- A loop: I holds at the head of each round, with a number that each round lowers. -/
theorem ax_loop {c : LCode} (I : Nat → Env → Heap → Prop) (n : Nat) (h0 : I n env H) (hr : ∀ n env H, I n env H → Ax P R ((fun env' H' => ∃ n', n' < n ∧ I n' env' H') :: Λ) (.code c :: .again :: k) env H) : Ax P R Λ (.code (.loop c) :: k) env H := fun s t hm a w hs => by
  cases hm with
  | code hc hm =>
    obtain ⟨c1, rfl, h1⟩ := low_inv hc
    rename_i t
    have key : ∀ n env H a w, I n env H → Sim P s env H a w → Goal P (Fin P R s) (.code c1 :: .inLoop c1 :: t) a w := by
      intro n
      induction n using Nat.strongRecOn with
      | _ n ih =>
        intro env H a w hI hs
        refine (hr n env H hI).go (.code h1 (.again (fun env' H' a' w' hL hs' => ?_) hm)) hs
        obtain ⟨n', hlt, hI'⟩ := hL
        exact Goal.steps (fun b cs => .one step_inLoop) (ih n' hlt env' H' a' w' hI' hs')
    exact Goal.steps (fun b cs => .one step_loop) (key n env H a w h0 hs)
theorem ax_reg {los : List LO} (h : Ax P R Λ (.ops los :: k) env H) : Ax P R Λ (.code (.reg los) :: k) env H := fun s t hm a w hs => by
  cases hm with
  | code hc hm =>
    obtain ⟨id, ops, rfl, h1⟩ := low_inv hc
    exact Goal.wp (wp_region_list (h s ops _ _ h1 hm a w hs))
theorem ax_opsNil (h : Ax P R Λ k env H) : Ax P R Λ (.ops [] :: k) env H := fun s ops l t hl hm a w hs => by
  have : l = [] := by
    cases l with
    | nil => rfl
    | cons o l => simp only [lowOpers] at hl; split at hl <;> cases hl
  subst this
  exact ⟨rfl, h.go hm hs⟩
theorem lowOpers_cons {ops : Array Oper} {l : List Oper} {o : LO} {los : List LO} (h : lowOpers P ops l = some (o :: los)) : ∃ c r, l = c :: r ∧ lowOper P ops c = some o ∧ lowOpers P ops r = some los := by
  cases l with
  | nil => simp [lowOpers] at h
  | cons c r =>
    simp only [lowOpers] at h
    split at h
    · rename_i a b ha hb
      simp only [Option.some.injEq, List.cons.injEq] at h
      exact ⟨c, r, rfl, by rw [ha, h.1], by rw [hb, h.2]⟩
    · cases h
theorem lowOper_inv {ops : Array Oper} {c : Oper} {o : LO} (h : lowOper P ops c = some o) : lowOp P c.op = some o.op ∧ o.dst = c.dst ∧ lowGuard ops c.guard = some o.guard := by
  unfold lowOper at h
  split at h
  · rename_i a b ha hb
    obtain rfl := Option.some.inj h
    exact ⟨ha, rfl, hb⟩
  · cases h
def gd (g : Option (Nat × Bool)) (env : Env) : Option Bool := match g with
  | none => some true
  | some (s, want) => match env.f s with
    | .f (.bool b) => some (b == want)
    | .tup [] => some false
    | _ => none
theorem gd_skipA {ops : Array Oper} {c : Oper} {g : Option (Nat × Bool)} (h : lowGuard ops c.guard = some g) : skipA ops env c = gd g env := by
  unfold lowGuard at h
  unfold skipA gd
  split at h
  · rename_i e
    obtain rfl := Option.some.inj h
    rw [e]
  · rename_i j want e
    obtain ⟨s, hs, rfl⟩ := Option.map_eq_some_iff.1 h
    rw [e]
    simp only [hs]
    rfl
theorem Sim.next {s : At0} {a : Act} {w w' : World} {G G' : Ghost} {Z Z' : Nat → Prop} {H' : Heap} {v : AV} {u : Value} {dst : Option Nat} (he : EnvR G Z w env a.tmps) (hd : a.defers = []) (hh : Hist s.G s.Z s.w G Z w) (st : St P G' H' Z' w') (h2 : Step G Z w G' Z' w') (h3 : RepA G' Z' w' v u) :
    Sim P s (putE env dst v) H' (a.put dst u) w' :=
  ⟨G', Z', st, (he.keep h2.toKeep).put dst h3, by cases dst <;> exact hd, hh.trans h2.hist⟩
theorem ax_opGen {o : LO} {los : List LO} {Q : AV → Heap → Prop} (hg : gd o.guard env = some true) (hop : ∀ (c : Oper), lowOp P c.op = some o.op → ∀ G Z w (a : Act), St P G H Z w → EnvR G Z w env a.tmps → OpTo P c G H Z w a Q)
    (h : ∀ v H', Q v H' → Ax P R Λ (.ops los :: k) (putE env o.dst v) H') : Ax P R Λ (.ops (o :: los) :: k) env H := fun s ops l t hl hm a w hs => by
  obtain ⟨c, r, rfl, h1, h2⟩ := lowOpers_cons hl
  obtain ⟨g1, g2, g3⟩ := lowOper_inv h1
  obtain ⟨G, Z, st, he, hd, hh⟩ := hs
  have hw := skipA_wanted he ((gd_skipA (env := env) g3).trans hg)
  refine wpList_step fun K hK => ?_
  rw [if_pos hw]
  refine hop c g1 G Z w a st he K _ fun u v H' G' Z' w' hq k1 k2 k3 => hK _ _ ?_
  rw [g2] at h
  exact h v H' hq s ops r t h2 hm _ _ (Sim.next he hd hh k1 k2 k3)
theorem ax_opSkip {o : LO} {los : List LO} (hg : gd o.guard env = some false) (h : Ax P R Λ (.ops los :: k) (putE env o.dst (.tup [])) H) : Ax P R Λ (.ops (o :: los) :: k) env H := fun s ops l t hl hm a w hs => by
  obtain ⟨c, r, rfl, h1, h2⟩ := lowOpers_cons hl
  obtain ⟨g1, g2, g3⟩ := lowOper_inv h1
  obtain ⟨G, Z, st, he, hd, hh⟩ := hs
  have hw := skipA_wanted he ((gd_skipA (env := env) g3).trans hg)
  refine wpList_step fun K hK => ?_
  rw [if_neg (by rw [hw]; decide)]
  rw [g2] at h
  exact hK _ _ (h s ops r t h2 hm _ _ (Sim.next he hd hh st (Step.refl _ _ _) (.tup _ _ rfl fun j x u h => by simp at h)))
theorem ax_op {o : LO} {los : List LO} {v : AV} {H' : Heap} (hg : gd o.guard env = some true) (hx : (eff o.op (evA env) (o.dst.getD 0)).exec H = some (v, H')) (h : Ax P R Λ (.ops los :: k) (putE env o.dst v) H') : Ax P R Λ (.ops (o :: los) :: k) env H :=
  ax_opGen hg (fun c hl G Z w a st he => (lower_sound st (fun x => he.eval x) (fun _ => rfl) hl hx).to) fun v' H'' ⟨h1, h2⟩ => by rw [h1, h2]; exact h
theorem lowOp_call {c : Oper} {f : Operand} {args : List Operand} (h : lowOp P c.op = some (.call f args)) : ∃ cl, c.op = .call cl ∧ cl.callee = .value f ∧ cl.args.toList = args := by
  cases ho : c.op <;> rw [ho] at h <;> simp only [lowOp] at h <;> try (cases h; done)
  case binOp =>
    split at h
    · rename_i hn
      obtain rfl := Option.some.inj h
      obtain ⟨_, _, ⟨h1, _⟩ | ⟨h1, _⟩⟩ := nilOf_inv hn <;> cases h1
    · split at h
      · rename_i hn
        obtain rfl := Option.some.inj h
        obtain ⟨_, _, neg, h1, _⟩ := eqOf_inv hn
        cases h1
      · cases h
  case call cl =>
    refine ⟨cl, rfl, ?_⟩
    split at h
    · split at h
      · split at h
        · cases h
        · split at h <;> cases h
      · cases h
    · split at h <;> cases h
    · split at h <;> cases h
    · split at h
      · split at h
        · split at h
          · split at h
            · split at h
              · cases h
              · split at h <;> cases h
            · cases h
          · cases h
        · cases h
      · cases h
    · repeat' (first | cases h; done | split at h)
    · repeat' (first | cases h; done | split at h)
    · repeat' (first | cases h; done | split at h)
    · rename_i f' hc
      simp only [Option.some.injEq, LOp.call.injEq] at h
      exact ⟨by rw [hc, h.1], h.2⟩
    · cases h
  case alloc => obtain ⟨_, _, h⟩ := Option.map_eq_some_iff.1 h; cases h
  case load => obtain ⟨_, _, h⟩ := Option.map_eq_some_iff.1 h; cases h
  case store => obtain ⟨_, _, h⟩ := Option.map_eq_some_iff.1 h; cases h
  case build =>
    split at h
    · split at h
      · obtain ⟨_, _, h⟩ := Option.map_eq_some_iff.1 h; cases h
      · cases h
    · cases h
  case field =>
    split at h
    · obtain ⟨_, _, h⟩ := Option.map_eq_some_iff.1 h; cases h
    · cases h
  case indexAddr =>
    split at h
    · obtain ⟨_, _, h⟩ := Option.map_eq_some_iff.1 h; cases h
    · cases h
  all_goals
    repeat' (first | cases h | split at h)
theorem ax_call {o : LO} {los : List LO} {f : Operand} {args : List Operand} {Q : AV → Heap → Prop} (ho : o.op = .call f args) (hg : gd o.guard env = some true) (hc : ACallV P (evA env f) (args.map (evA env)) H Q) (h : ∀ v H', Q v H' → Ax P R Λ (.ops los :: k) (putE env o.dst v) H') : Ax P R Λ (.ops (o :: los) :: k) env H :=
  ax_opGen hg (fun c hl G Z w a st he => by
    rw [ho] at hl
    obtain ⟨cl, h1, h2, rfl⟩ := lowOp_call hl
    exact call_to st he h1 h2 hc) h
/-- 'cap' of an own slice: the row's own, whatever it is; the cells behind are some. -/
theorem lowOp_cap {c : Oper} {x : Operand} (h : lowOp P c.op = some (.cap x)) : ∃ cl t e, c.op = .call cl ∧ cl.callee = .builtin .cap ∧ cl.args = #[x] ∧ cl.argTypes = #[t] ∧ P.underlying t = some (.slice e) := by
  cases ho : c.op <;> rw [ho] at h <;> simp only [lowOp] at h <;> try (cases h; done)
  case call cl =>
    split at h
    case h_7 =>
      rename_i hc
      split at h
      case h_2 => cases h
      rename_i y t ha hat
      split at h
      case isFalse => cases h
      rename_i he
      obtain ⟨e, he⟩ := elemOf_some he
      simp only [Option.some.injEq, LOp.cap.injEq] at h
      subst h
      exact ⟨cl, t, e, rfl, hc, arr1 ha, arr1 hat, he⟩
    all_goals repeat' (first | cases h; done | split at h)
  case binOp =>
    split at h
    · rename_i hn
      obtain rfl := Option.some.inj h
      obtain ⟨_, _, ⟨h1, _⟩ | ⟨h1, _⟩⟩ := nilOf_inv hn <;> cases h1
    · split at h
      · rename_i hn
        obtain rfl := Option.some.inj h
        obtain ⟨_, _, neg, h1, _⟩ := eqOf_inv hn
        cases h1
      · cases h
  case alloc => obtain ⟨_, _, h⟩ := Option.map_eq_some_iff.1 h; cases h
  case load => obtain ⟨_, _, h⟩ := Option.map_eq_some_iff.1 h; cases h
  case store => obtain ⟨_, _, h⟩ := Option.map_eq_some_iff.1 h; cases h
  case build =>
    split at h
    · split at h
      · obtain ⟨_, _, h⟩ := Option.map_eq_some_iff.1 h; cases h
      · cases h
    · cases h
  case field =>
    split at h
    · obtain ⟨_, _, h⟩ := Option.map_eq_some_iff.1 h; cases h
    · cases h
  case indexAddr =>
    split at h
    · obtain ⟨_, _, h⟩ := Option.map_eq_some_iff.1 h; cases h
    · cases h
  all_goals
    repeat' (first | cases h; done | split at h)
theorem St.wide {G0 : Ghost} {Z0 : Nat → Prop} {w0 : World} (st : St P G0 H Z0 w0) {id ver g o : Nat} {cs : List AV} (hG : G0 id = (ver, some (some (g, o)))) (hH : H id = (ver, some (.cells cs))) {m : Nat} (hm : ∀ (arr : Array Value) e fz, w0.heap[g]? = some (.cells arr e fz) → o + m ≤ arr.size) :
    St P G0 (upd H id (ver, some (.cells (cs ++ List.replicate (m - cs.length) .any)))) Z0 w0 := by
  have hg : ∀ i, (upd H id (ver, some (.cells (cs ++ List.replicate (m - cs.length) .any))) i).1 = (H i).1 := fun i => by
    by_cases e : i = id
    · subst e; rw [upd_same, hH]
    · rw [upd_ne _ _ _ _ e]
  refine ⟨fun i => by rw [hg]; exact st.ver i, fun i h => ?_, fun i ob h => ?_, st.inj, st.disj, st.zlt, st.glt, st.ones⟩
  · by_cases e : i = id
    · subst e; rw [upd_same] at h; cases h
    · rw [upd_ne _ _ _ _ e] at h; exact st.dead i h
  · by_cases e : i = id
    · subst e
      rw [upd_same] at h
      obtain rfl := Option.some.inj h
      obtain ⟨loc, h1, h2⟩ := st.obj i (.cells cs) (by rw [hH])
      rw [hG] at h1
      obtain rfl := Option.some.inj h1
      refine ⟨_, by rw [hG], ?_⟩
      obtain ⟨arr, et, hh, hc⟩ := h2
      have hsz := hm arr et (0, 0) hh
      have hon := st.ones i g o (by rw [hG]) arr et (0, 0) hh
      refine ⟨arr, et, hh, fun j a ha => ?_⟩
      rcases Nat.lt_or_ge j cs.length with hj | hj
      · rw [List.getElem?_append_left hj] at ha; exact hc j a ha
      · rw [List.getElem?_append_right hj] at ha
        have hjl := (List.getElem?_eq_some_iff.1 ha).1
        rw [List.length_replicate] at hjl
        have ha' : a = .any := List.eq_of_mem_replicate (List.mem_of_getElem? ha)
        subst ha'
        have hlt : o + j < arr.size := by omega
        exact ⟨arr[o + j], Array.getElem?_eq_getElem hlt, hon _ _ (Array.getElem?_eq_getElem hlt), .any _⟩
    · rw [upd_ne _ _ _ _ e] at h; exact st.obj i ob h
theorem ax_cap {d : Option Nat} {x : Operand} {g : Option (Nat × Bool)} {los : List LO} {id ver sz off n : Nat} {cs : List AV} (hg : gd g env = some true) (hx : evA env x = .sl id ver sz off n) (hc : cellsOf ver (H id) = some cs)
    (h0 : n = 0 → Ax P R Λ (.ops los :: k) (putE env d (.f (.int .i64 0))) H)
    (h : ∀ c : Nat, n ≤ c → c ≤ maxLen → Ax P R Λ (.ops los :: k) (putE env d (.f (.int .i64 c))) (upd H id (ver, some (.cells (cs ++ List.replicate ((off + c) * sz - cs.length) .any))))) : Ax P R Λ (.ops (⟨d, .cap x, g⟩ :: los) :: k) env H := by
  refine ax_opGen (Q := fun v H' => (n = 0 ∧ v = .f (.int .i64 0) ∧ H' = H) ∨ ∃ c : Nat, n ≤ c ∧ c ≤ maxLen ∧ v = .f (.int .i64 c) ∧ H' = upd H id (ver, some (.cells (cs ++ List.replicate ((off + c) * sz - cs.length) .any)))) hg (fun c hl G Z w a st he => ?_) (fun v H' hq => ?_)
  · obtain ⟨cl, t, e, h1, h2, h3, h4, h5⟩ := lowOp_cap hl
    have hr := he.eval x
    rw [hx] at hr
    obtain ⟨loc, hG, hob, hH⟩ := st.cells hc
    intro K X hK
    unfold Oper.wp
    rcases hr.sl_ hG with ⟨rfl, A, hv⟩ | ⟨g', o', c', rfl, hv, hnc, hcm, arr, et, fz, hh, hroom⟩
    · have : (execOp a.eval c).run P w = .ok (.value (.int .i64 0)) w := by
        simp [execOp, h1, resolve, h2, h3, h4, invoke, builtin, Builtin.cap_, run_underlying h5, hv, goInt]
      rw [this, Oper.upon_value]
      exact hK _ _ H G Z w (.inl ⟨rfl, rfl, rfl⟩) st (Step.refl _ _ _) (.f (.int _ _))
    · have : (execOp a.eval c).run P w = .ok (.value (.int .i64 (c' : Nat))) w := by
        simp [execOp, h1, resolve, h2, h3, h4, invoke, builtin, Builtin.cap_, run_underlying h5, hv, goInt]
      rw [this, Oper.upon_value]
      refine hK _ _ _ G Z w (.inr ⟨c', hnc, hcm, rfl, rfl⟩) (st.wide hG hH (m := (off + c') * sz) fun arr' e' fz' hh' => ?_) (Step.refl _ _ _) (.f (.int _ _))
      rw [hh] at hh'
      simp only [Option.some.injEq, Obj.cells.injEq] at hh'
      rw [← hh'.1]; omega
  · rcases hq with ⟨h1, rfl, rfl⟩ | ⟨c, h1, h2, rfl, rfl⟩
    · exact h0 h1
    · exact h c h1 h2
end
end Go.Proofs.YtaiajaibcpkceaaDoor
