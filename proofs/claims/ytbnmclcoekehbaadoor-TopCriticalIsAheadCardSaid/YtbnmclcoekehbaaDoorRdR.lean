/-
  A region that draws its order, whose last operation waits for all the others, which only read: one walk of the lexical order serves every order, in a round's frame too. No statement of the seat is proved here; no conditions.
-/
import Derived.Test.YtbnmclcoekehbaaDoorWkR
import Derived.Sort.QuietThIn
import Derived.Sort.BigQuietIn
namespace Go.Proofs.YtbnmclcoekehbaaDoor
open Go.RowKit Go.Shelf
set_option linter.unusedVariables false
set_option linter.unusedSimpArgs false

section
variable {F : Fence} {n : Nat} {P : Program} {ops : Array Oper} {md : Region.Mode} {C : World → Prop}

/-- Whatever order is picked up to the last operation. -/
def wpAnyR (F : Fence) (n : Nat) (P : Program) (md : Region.Mode) (ops : Array Oper) (C : World → Prop) (last : Nat) (Q : Array Bool → Act → Prop) : Nat → Array Bool → Act → Prop
  | 0, listed, a => Q listed a
  | fuel + 1, listed, a =>
    last ∉ Region.ready md ops listed ∧ Region.ready md ops listed ≠ [] ∧
    ∀ i ∈ Region.ready md ops listed, qOpIn F n P ops C i (wpAnyR F n P md ops C last Q fuel (listed.setIfInBounds i true)) a

/-- Only the last one is left. -/
def OneLeft (md : Region.Mode) (ops : Array Oper) (last : Nat) (K : Act → Prop) (listed : Array Bool) (a : Act) : Prop :=
  Region.ready md ops listed = [last] ∧ Region.ready md ops (listed.setIfInBounds last true) = [] ∧ K a

theorem Oper.wpIn_of_quietR {o : Oper} {a : Act} {K : Act → Prop} {K' : Act → World → Prop} {Q' : Exit → Act → World → Prop} {w : World} (l : Nat) (hd : ∀ c, o.op ≠ .defer c) (hw : C w) (h : ∀ a w', C w' → K a → K' a w')
    (ha : o.askedIn F P a C) (hh : o.quietIn F n P a C K) : o.wpIn (F.inRound l) n P a w K' Q' := by
  obtain ⟨v, h1, h2⟩ := hh
  have h3 := h1 w hw
  unfold Oper.quietAtIn at h3
  unfold Oper.wpIn
  refine ⟨ha w hw, ?_⟩
  rw [Fence.inRound_round, Oper.semAt_some l _ _ hd]
  generalize (execOp a.eval o).run P w = r at *
  cases r with
  | ok x w' =>
    cases x <;> simp only [Oper.quietUponIn] at h3 <;> simp only [Oper.uponIn]
    case value u =>
      obtain ⟨e1, e2⟩ := h3
      rw [e1, e2]
      exact h _ _ hw h2
    case skip =>
      obtain ⟨e1, e2⟩ := h3
      rw [e1, ← e2]
      exact h _ _ hw h2
    case enter f args =>
      obtain ⟨e1, hd, hc⟩ := h3
      rw [e1]
      exact ⟨hd, (CallsIn.inRound l hc).mono fun e w'' ⟨he, hw''⟩ => by subst he; exact h _ _ hw'' h2⟩
  | halt x w' => simp only [Oper.quietUponIn] at h3

theorem wpOpIn_of_qOpInR {i : Nat} {a : Act} {K : Act → Prop} {K' : Act → World → Prop} {Q' : Exit → Act → World → Prop} {w : World} (l : Nat) (hd : ∀ (j : Nat) (o : Oper) c, ops[j]? = some o → o.op ≠ .defer c) (hC : C w) (h : ∀ a w', C w' → K a → K' a w')
    (hh : qOpIn F n P ops C i K a) : wpOpIn (F.inRound l) n P ops Q' i K' a w := by
  unfold qOpIn at hh
  unfold wpOpIn
  split
  · rename_i ho; simp only [ho] at hh; exact h _ _ hC hh
  · rename_i o ho
    simp only [ho] at hh
    obtain ⟨ha, hh⟩ := hh
    split
    · rename_i hw; simp only [hw, if_true] at hh; exact Oper.wpIn_of_quietR l (fun c => hd i o c ho) hC h ha hh
    · rename_i hw; simp only [hw] at hh; exact ⟨ha w hC, h _ _ hC hh⟩

theorem wpAnyIn_of_R {last : Nat} {Q : Array Bool → Act → Prop} {Q' : Exit → Act → World → Prop} (l : Nat) (hd : ∀ (j : Nat) (o : Oper) c, ops[j]? = some o → o.op ≠ .defer c) (hQ : ∀ listed a w, C w → Q listed a → wpAnyIn (F.inRound l) n P md ops Q' 1 listed a w) :
    ∀ (fuel : Nat) (listed : Array Bool) (a : Act) (w : World), C w → wpAnyR F n P md ops C last Q fuel listed a → wpAnyIn (F.inRound l) n P md ops Q' (fuel + 1) listed a w
  | 0, _, _, _, hw, h => hQ _ _ _ hw h
  | fuel + 1, _, _, _, hw, h => ⟨fun h0 => absurd h0 h.2.1, fun i hi => wpOpIn_of_qOpInR l hd hw (fun a' w' hw' h' => wpAnyIn_of_R l hd hQ fuel _ a' w' hw' h') (h.2.2 i hi)⟩

theorem wpAnyR_first {last : Nat} {Q : Act → Prop} {i : Nat} {oi : Oper} {v : Value} (hi : ops[i]? = some oi) (hsel : ∀ (j : Nat) (o : Oper) cs b, ops[j]? = some o → o.op ≠ .select cs b)
    (hlast : ∃ ol, ops[last]? = some ol ∧ ∃ e ∈ ol.after, Region.binds md e = true ∧ e.on = i) :
    ∀ (fuel : Nat) (listed : Array Bool) (a : Act),
      (∀ j oj, ops[j]? = some oj → j ≠ i → listed.getD j true = false → (∀ e ∈ oj.after, Region.binds md e = true → e.on ≠ i) → oi.apart ops oj = true) →
      i ∈ Region.ready md ops listed → YieldsQuiet F n P ops C oi v a →
      wpAnyR F n P md ops C last (OneLeft md ops last Q) fuel (listed.setIfInBounds i true) (a.put oi.dst v) → wpAnyR F n P md ops C last (OneLeft md ops last Q) (fuel + 1) listed a := by
  have hno : ∀ listed : Array Bool, i ∈ Region.ready md ops listed → last ∉ Region.ready md ops listed := fun listed hr hl => by
    obtain ⟨ol, ho, e, he, hb, rfl⟩ := hlast
    obtain ⟨_, o', ho', hall⟩ := mem_ready.1 hl
    rw [ho] at ho'
    obtain rfl := Option.some.inj ho'
    have h1 := hall e he hb
    have h0 := (mem_ready.1 hr).1
    rcases Nat.lt_or_ge e.on listed.size with h' | h'
    · simp [h'] at h0 h1; rw [h0] at h1; cases h1
    · simp [Array.getElem?_eq_none h'] at h1
  intro fuel
  induction fuel with
  | zero =>
    intro listed a _ hr hy H
    refine ⟨hno _ hr, fun h => (by rw [h] at hr; cases hr), fun j hj => ?_⟩
    by_cases hji : j = i
    · subst hji; exact hy.qOpIn hi H
    · have h1 := ready_mono hj hji
      rw [H.1] at h1
      obtain rfl := List.mem_singleton.1 h1
      exact absurd hj (hno _ hr)
  | succ fuel ih =>
    intro listed a hfree hr hy H
    refine ⟨hno _ hr, fun h => (by rw [h] at hr; cases hr), fun j hj => ?_⟩
    by_cases hji : j = i
    · subst hji; exact hy.qOpIn hi H
    · have h1 := H.2.2 j (ready_mono hj hji)
      obtain ⟨hjun, oj, hoj, hall⟩ := mem_ready.1 hj
      have hnot : ∀ e ∈ oj.after, Region.binds md e = true → e.on ≠ i := fun e he hb heq => by
        have h1 := hall e he hb
        have h0 := (mem_ready.1 hr).1
        rw [heq] at h1
        rcases Nat.lt_or_ge i listed.size with h' | h'
        · simp [h'] at h0 h1; rw [h0] at h1; cases h1
        · simp [Array.getElem?_eq_none h'] at h1
      have h2 := qOpIn_put hoj (hfree j oj hoj hji hjun hnot) (fun cs b => hsel i oi cs b hi) (fun cs b => hsel j oj cs b hoj) hy h1
      have hfree' : ∀ k ok, ops[k]? = some ok → k ≠ i → (listed.setIfInBounds j true).getD k true = false →
          (∀ e ∈ ok.after, Region.binds md e = true → e.on ≠ i) → oi.apart ops ok = true := fun k ok hk hki hun hno => by
        refine hfree k ok hk hki ?_ hno
        by_cases hjk : j = k
        · subst hjk; exact hjun
        · rw [getD_set_ne true hjk] at hun; exact hun
      refine qOpIn_mono (fun a' h3 => ih (listed.setIfInBounds j true) a' hfree' (ready_mono hr (Ne.symm hji)) h3.1 ?_) h2
      rw [Array.setIfInBounds_comm _ _ hji]
      exact h3.2

/-- The static look: each in turn may come up, is apart from the others, and the last one waits for it. -/
def lexR (md : Region.Mode) (ops : Array Oper) (last : Nat) : Nat → Nat → Array Bool → Bool
  | 0, _, listed => (Region.ready md ops listed == [last]) && (Region.ready md ops (listed.setIfInBounds last true) == [])
  | fuel + 1, k, listed => (Region.ready md ops listed).contains k && Region.free md ops listed k && ((ops[last]?).map fun ol => ol.after.any fun e => Region.binds md e && e.on == k).getD false && lexR md ops last fuel (k + 1) (listed.setIfInBounds k true)
def isDefer (o : Oper) : Bool := match o.op with
  | .defer _ => true
  | _ => false
theorem isDefer_spec {o : Oper} (h : isDefer o = false) : ∀ c, o.op ≠ .defer c := fun c e => by
  unfold isDefer at h
  rw [e] at h
  cases h
def noDefer (l : List Oper) : Bool := l.all fun o => !isDefer o
theorem noDefer_spec {l : List Oper} (h : noDefer l = true) (o : Oper) (ho : o ∈ l) : ∀ c, o.op ≠ .defer c :=
  isDefer_spec (by simpa using List.all_eq_true.1 h o ho)

theorem wpAnyR_lex {last : Nat} {Q : Act → Prop} (hs : Region.noSelect ops = true) : ∀ (l : List Oper) (k : Nat) (listed : Array Bool) (a : Act), (∀ j, j < l.length → l[j]? = ops[k + j]?) →
    lexR md ops last l.length k listed = true → wpQuietIn F n P ops C Q l a → wpAnyR F n P md ops C last (OneLeft md ops last Q) l.length listed a
  | [], _, _, _, _, hB, h => by
    simp only [List.length_nil, lexR, Bool.and_eq_true, beq_iff_eq] at hB
    exact ⟨hB.1, hB.2, h⟩
  | o :: l, k, listed, a, hl, hB, h => by
    have h0 : ops[k]? = some o := by simpa using (hl 0 (by simp)).symm
    simp only [List.length_cons, lexR, Bool.and_eq_true] at hB
    obtain ⟨⟨⟨hr, hf⟩, hw⟩, hB'⟩ := hB
    have hst : qOpIn F n P ops C k (wpQuietIn F n P ops C Q l) a := by unfold qOpIn; simp only [h0]; exact h
    obtain ⟨v, hy, hK⟩ := yieldsQuiet_of_qOpIn h0 hst
    have hlast : ∃ ol, ops[last]? = some ol ∧ ∃ e ∈ ol.after, Region.binds md e = true ∧ e.on = k := by
      cases ho : ops[last]? with
      | none => rw [ho] at hw; cases hw
      | some ol =>
        rw [ho] at hw
        simp only [Option.map_some, Option.getD_some, Array.any_eq_true, Bool.and_eq_true, beq_iff_eq] at hw
        obtain ⟨i, hi, h1, h2⟩ := hw
        exact ⟨ol, rfl, _, Array.getElem_mem hi, h1, h2⟩
    exact wpAnyR_first h0 (Region.noSelect_spec hs) hlast l.length listed a (Region.free_spec h0 hf) (by simpa using hr) hy
      (wpAnyR_lex hs l (k + 1) _ _ (fun j hj => by have := hl (j + 1) (by simp; omega); simpa [Nat.add_assoc, Nat.add_comm 1 j] using this) hB' hK)

theorem wpIn_region_last {id r : Nat} {Q : Exit → Act → World → Prop} {a : Act} {w : World} {l : List Oper} {o : Oper} (hm : P.follows .mixedOrders = true) (hs : Region.noSelect (l ++ [o]).toArray = true) (hd : noDefer (l ++ [o]) = true)
    (hB : lexR .any (l ++ [o]).toArray l.length l.length 0 (Array.replicate (l ++ [o]).length false) = true)
    (h : wpQuietIn F n P (l ++ [o]).toArray (fun w' => ∃ n, w' = w.drewN n) (fun a' => ∀ k, wpListIn (F.inRound r) n P (l ++ [o]).toArray Q [o] a' (w.drewN k)) l a) : (Code.region id (l ++ [o]).toArray true).wpIn (F.inRound r) n P Q a w := by
  have hd' : ∀ (j : Nat) (x : Oper) c, (l ++ [o]).toArray[j]? = some x → x.op ≠ .defer c := fun j x c hx => noDefer_spec hd x (by
    rw [List.getElem?_toArray] at hx
    exact List.mem_of_getElem? hx) c
  refine wpIn_region_any hm ?_
  have key := wpAnyR_lex (F := F) (n := n) (P := P) (C := fun w' => ∃ n, w' = w.drewN n) (md := .any) (last := l.length) hs l 0 (Array.replicate (l ++ [o]).length false) a (fun j hj => by simp [List.getElem?_append_left hj]) hB h
  have hfin : ∀ (listed : Array Bool) (a' : Act) (w' : World), (∃ n, w' = w.drewN n) → OneLeft .any (l ++ [o]).toArray l.length (fun a' => ∀ k, wpListIn (F.inRound r) n P (l ++ [o]).toArray Q [o] a' (w.drewN k)) listed a' → wpAnyIn (F.inRound r) n P .any (l ++ [o]).toArray Q 1 listed a' w' := by
    rintro listed a' w' ⟨k, rfl⟩ ⟨h1, h2, h3⟩
    refine wpAnyIn_ready (rs := [l.length]) h1 (by simp) (AllReadyIn.cons (o := o) (by simp) (fun K hK => ?_) .nil)
    have h4 := h3 k
    rw [wpListIn] at h4
    have hK' : ∀ a w, wpListIn (F.inRound r) n P (l ++ [o]).toArray Q [] a w → K a w := fun a w h => hK a w ⟨h2, h⟩
    by_cases hw : Region.wanted o (yielded (l ++ [o]).toArray a'.tmps) = true
    · rw [if_pos hw] at h4 ⊢
      exact Oper.wpIn_mono hK' h4
    · rw [if_neg hw] at h4 ⊢
      exact ⟨h4.1, hK' _ _ h4.2⟩
  have := wpAnyIn_of_R (Q' := Q) r hd' hfin l.length _ a (w.drewN 1) ⟨1, rfl⟩ key
  rw [show (l ++ [o]).toArray.size = l.length + 1 by simp]
  rw [show (l ++ [o]).length = l.length + 1 by simp] at this
  exact this
/-- All but the last one; the last one. -/
def initL : List Oper → List Oper
  | [] => []
  | [_] => []
  | x :: y :: l => x :: initL (y :: l)
def lastL : List Oper → List Oper
  | [] => []
  | [x] => [x]
  | _ :: y :: l => lastL (y :: l)
theorem lastL_some : ∀ {L : List Oper}, L ≠ [] → ∃ o, lastL L = [o] ∧ L = initL L ++ [o]
  | [x], _ => ⟨x, rfl, rfl⟩
  | x :: y :: l, _ => by
    obtain ⟨o, h1, h2⟩ := lastL_some (L := y :: l) (by simp)
    exact ⟨o, h1, by rw [initL, List.cons_append, ← h2]⟩
theorem wpIn_region_lastL {id r : Nat} {Q : Exit → Act → World → Prop} {a : Act} {w : World} {L : List Oper} (hm : P.follows .mixedOrders = true) (hne : L ≠ []) (hs : Region.noSelect L.toArray = true) (hd : noDefer L = true)
    (hB : lexR .any L.toArray (initL L).length (initL L).length 0 (Array.replicate L.length false) = true)
    (h : wpQuietIn F n P L.toArray (fun w' => ∃ n, w' = w.drewN n) (fun a' => ∀ k, wpListIn (F.inRound r) n P L.toArray Q (lastL L) a' (w.drewN k)) (initL L) a) : (Code.region id L.toArray true).wpIn (F.inRound r) n P Q a w := by
  obtain ⟨o, h1, h2⟩ := lastL_some hne
  rw [h1] at h
  generalize initL L = l at *
  subst h2
  exact wpIn_region_last hm hs hd hB h
end
end Go.Proofs.YtbnmclcoekehbaaDoor
