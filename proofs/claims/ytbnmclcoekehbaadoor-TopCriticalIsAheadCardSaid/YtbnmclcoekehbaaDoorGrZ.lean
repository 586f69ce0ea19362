/-
  The law of loops: its plain law, and its walk. No statement of the seat is proved here; no conditions.
-/
import Derived.Test.YtbnmclcoekehbaaDoorGrW
import Derived.Test.YtbnmclcoekehbaaDoorGrI
namespace Go.Proofs.YtbnmclcoekehbaaDoor
open Go.RowKit Go.Shelf
set_option linter.unusedVariables false
set_option linter.unusedSimpArgs false
set_option maxRecDepth 100000

/-- Along a way each needs the next, and it falls by one. -/
theorem way_falls {n : Nat} {D U : List (List Nat)} {F : List Int} {b : Nat} (hN : NetOk n D U) (hm : Mutual n D U) (hs : StepsSpec U [b] n F) : ∀ (m a : Nat), a < n → F.getD a 0 = (m : Int) → ∀ j, j ≤ m → ∃ u, (a :: wayGo D F m a)[j]? = some u ∧ u < n ∧ F.getD u 0 = ((m - j : Nat) : Int) ∧ (j < m → ∃ v, (a :: wayGo D F m a)[j + 1]? = some v ∧ v ∈ D.getD u [])
  | 0, a, ha, hF, j, hj => by
    obtain rfl : j = 0 := by omega
    exact ⟨a, rfl, ha, by simpa using hF, fun h => absurd h (Nat.lt_irrefl _)⟩
  | m + 1, a, ha, hF, j, hj => by
    have hab : a ≠ b := fun e => by
      have := hs.src b (List.mem_singleton.2 rfl)
      rw [← e, hF] at this; omega
    obtain ⟨h1, h2⟩ := next_mem (next_is hm hs ha (by omega) hab)
    have hk := rowD_lt hN a _ h1
    have hFk : F.getD (nextV F (D.getD a []) a) 0 = (m : Int) := by
      unfold isNext at h2
      rw [Bool.and_eq_true, decide_eq_true_eq, decide_eq_true_eq] at h2
      omega
    cases j with
    | zero => exact ⟨a, rfl, ha, by simpa using hF, fun _ => ⟨_, rfl, h1⟩⟩
    | succ j =>
      obtain ⟨u, g1, g2, g3, g4⟩ := way_falls hN hm hs m _ hk hFk j (by omega)
      refine ⟨u, by rw [wayGo]; simpa using g1, g2, by rw [g3]; congr 1; omega, fun h => ?_⟩
      obtain ⟨v, g5, g6⟩ := g4 (by omega)
      exact ⟨v, by rw [wayGo]; simpa using g5, g6⟩
/-- The best one is one of the row. -/
theorem best_mem {F : List Int} : ∀ {l : List Nat} {b : Option Nat} {c : Nat}, l.foldl (bStep F) b = some c → c ∈ l ∨ b = some c
  | [], b, c, h => .inr h
  | k :: l, b, c, h => by
    rw [List.foldl_cons] at h
    rcases best_mem h with h1 | h1
    · exact .inl (List.mem_cons_of_mem _ h1)
    · unfold bStep at h1
      split at h1
      · split at h1
        · obtain rfl := Option.some.inj h1; exact .inl (List.mem_cons_self ..)
        · cases h1
      · split at h1
        · obtain rfl := Option.some.inj h1; exact .inl (List.mem_cons_self ..)
        · exact .inr h1
/-- A loop that is told: i, then a way from one that i needs to i, without its end. -/
theorem loop_parts {n : Nat} {D U : List (List Nat)} (hN : NetOk n D U) {l : List Nat} (h : loopV D U n = some l) : ∃ i c, i < n ∧ c < n ∧ c ∈ D.getD i [] ∧ 0 ≤ (stepsV U n [i]).getD c 0 ∧ StepsSpec U [i] n (stepsV U n [i]) ∧ l = (i :: wayV D (stepsV U n [i]) c).dropLast := by
  obtain ⟨i, hi, hl⟩ := List.exists_of_findSome?_eq_some h
  rw [List.mem_range] at hi
  unfold loopAt at hl
  obtain ⟨c, hc, rfl⟩ := Option.map_eq_some_iff.1 hl
  have hc1 := best_ok (n := n) (rowD_lt hN i) (fun c h => by cases h) c hc
  have hc2 := best_mem hc
  refine ⟨i, c, hi, hc1.1, ?_, hc1.2, steps_spec (rowU_lt hN) (fun k hk => by rw [List.mem_singleton.1 hk]; exact hi), rfl⟩
  rcases hc2 with h1 | h1
  · exact h1
  · cases h1
/-- Each of a told loop needs the next one, the last one the first one; and none stands twice. -/
theorem loop_spec {n : Nat} {D U : List (List Nat)} (hN : NetOk n D U) (hm : Mutual n D U) {l : List Nat} (h : loopV D U n = some l) : ∃ m, l.length = m + 1 ∧ (∀ j : Nat, j < m + 1 → ∃ u v, l[j]? = some u ∧ l[(j + 1) % (m + 1)]? = some v ∧ v ∈ D.getD u [] ∧ u < n ∧ v < n) ∧ ∀ (j k u : Nat), j < k → l[j]? = some u → l[k]? ≠ some u := by
  obtain ⟨i, c, hi, hc, hci, h0, hs, rfl⟩ := loop_parts hN h
  generalize stepsV U n [i] = F at *
  obtain ⟨m, hmF⟩ : ∃ m : Nat, F.getD c 0 = (m : Int) := ⟨(F.getD c 0).toNat, by omega⟩
  have hw := way_falls hN hm hs m c hc hmF
  have hwe : wayV D F c = c :: wayGo D F m c := by rw [wayV, hmF]; rfl
  have hlen := (wayGo_lt (F := F) hN m c hc).1
  rw [hwe]
  generalize hW : c :: wayGo D F m c = w at *
  have hwl : w.length = m + 1 := by rw [← hW, List.length_cons, hlen]
  have hw0 : w[0]? = some c := by rw [← hW]; rfl
  have hll : (i :: w).dropLast.length = m + 1 := by rw [List.length_dropLast, List.length_cons, hwl]; omega
  have hat : ∀ j : Nat, j < m + 1 → (i :: w).dropLast[j]? = (i :: w)[j]? := fun j hj => by
    rw [List.dropLast_eq_take, List.length_cons, hwl, List.getElem?_take_of_lt (by omega)]
  -- the way ends at i
  have hend : w[m]? = some i := by
    obtain ⟨u, g1, g2, g3, _⟩ := hw m (Nat.le_refl _)
    rw [Nat.sub_self] at g3
    rcases hs.pred u g2 (by rw [g3]; exact Int.le_refl _) with ⟨h1, _⟩ | ⟨k, _, _, h2, h3⟩
    · rw [List.mem_singleton.1 h1] at g1; exact g1
    · omega
  have hF0 : F.getD i 0 = 0 := hs.src i (List.mem_singleton.2 rfl)
  have hval : ∀ (j u : Nat), j < m + 1 → (i :: w)[j]? = some u → u < n ∧ F.getD u 0 = if j = 0 then 0 else ((m + 1 - j : Nat) : Int) := fun j u hj hu => by
    cases j with
    | zero => obtain rfl := Option.some.inj hu; exact ⟨hi, by rw [hF0]; rfl⟩
    | succ j =>
      obtain ⟨u', g1, g2, g3, _⟩ := hw j (by omega)
      rw [List.getElem?_cons_succ] at hu
      rw [g1] at hu; obtain rfl := Option.some.inj hu
      exact ⟨g2, by rw [g3, if_neg (by omega)]; congr 1; omega⟩
  refine ⟨m, hll, fun j hj => ?_, fun j k u hjk hu hk => ?_⟩
  · have hnext : ∃ u v, (i :: w)[j]? = some u ∧ (i :: w)[j + 1]? = some v ∧ v ∈ D.getD u [] := by
      cases j with
      | zero => exact ⟨i, c, rfl, hw0, hci⟩
      | succ j =>
        obtain ⟨u, g1, g2, g3, g4⟩ := hw j (by omega)
        obtain ⟨v, g5, g6⟩ := g4 (by omega)
        exact ⟨u, v, g1, g5, g6⟩
    obtain ⟨u, v, h1, h2, h3⟩ := hnext
    refine ⟨u, v, by rw [hat j hj]; exact h1, ?_, h3, (hval j u hj h1).1, rowD_lt hN u v h3⟩
    rcases Nat.lt_or_ge (j + 1) (m + 1) with h4 | h4
    · rw [Nat.mod_eq_of_lt h4, hat _ h4]; exact h2
    · obtain rfl : j = m := by omega
      rw [Nat.mod_self, hat 0 (by omega)]
      rw [List.getElem?_cons_succ, hend] at h2
      exact h2
  · have hkl : k < m + 1 := by have := (List.getElem?_eq_some_iff.1 hk).1; omega
    rw [hat j (by omega)] at hu
    rw [hat k hkl] at hk
    have h1 := (hval j u (by omega) hu).2
    have h2 := (hval k u hkl hk).2
    rw [h1] at h2
    rw [if_neg (show ¬ k = 0 by omega)] at h2
    split at h2 <;> omega
instance memB (s : ByteArray) (l : List ByteArray) : Decidable (s ∈ l) := @List.instDecidableMemOfLawfulBEq ByteArray instBEqOfDecidableEq inferInstance s l
/-- What is closed and holds at the sources holds at all that is reached. -/
theorem reach_sub {E : List (List Nat)} {fr : List Nat} {n : Nat} {F : List Int} (hs : StepsSpec E fr n F) {P : Nat → Prop} (h0 : ∀ k ∈ fr, P k) (hc : ∀ i, i < n → P i → ∀ k ∈ E.getD i [], P k) : ∀ (m k : Nat), k < n → F.getD k 0 = (m : Int) → P k
  | m, k, hk, hm => by
    rcases hs.pred k hk (by omega) with ⟨h1, _⟩ | ⟨i, hi, h1, h2, h3⟩
    · exact h0 k h1
    · cases m with
      | zero => omega
      | succ m => exact hc i hi (reach_sub hs h0 hc m i hi (by omega)) k h1
theorem reach_sub' {E : List (List Nat)} {fr : List Nat} {n : Nat} {F : List Int} (hs : StepsSpec E fr n F) {P : Nat → Prop} (h0 : ∀ k ∈ fr, P k) (hc : ∀ i, i < n → P i → ∀ k ∈ E.getD i [], P k) {k : Nat} (hk : k < n) (h : 0 ≤ F.getD k 0) : P k :=
  reach_sub hs h0 hc (F.getD k 0).toNat k hk (by omega)
theorem best_none {F : List Int} {l : List Nat} (h : bestV F l = none) : ∀ k ∈ l, F.getD k 0 < 0 := by
  have hso : ∀ (l : List Nat) (c : Nat), l.foldl (bStep F) (some c) ≠ none := fun l => by
    induction l with
    | nil => exact fun c h => by cases h
    | cons a l ih => intro c; rw [List.foldl_cons, bStep]; split <;> exact ih _
  unfold bestV at h
  induction l with
  | nil => exact fun k hk => by cases hk
  | cons a l ih =>
    rw [List.foldl_cons] at h
    intro k hk
    by_cases ha : 0 ≤ F.getD a 0
    · rw [show bStep F none a = some a by rw [bStep]; exact if_pos ha] at h; exact absurd h (hso l a)
    · rw [show bStep F none a = none by rw [bStep]; exact if_neg ha] at h
      rcases List.mem_cons.1 hk with rfl | hk
      · omega
      · exact ih h k hk
/-- Users and deps are the same edges. -/
def Mutual' (n : Nat) (D U : List (List Nat)) : Prop := ∀ u x, u < n → x < n → u ∈ D.getD x [] → x ∈ U.getD u []
theorem net_mutual' {g : Graph} (h : GOk g) : Mutual' g.length (allDeps g) (usersOf g) := fun u x hu hx hm => by
  have h1 := usTo_count (D := allDeps g) (x := x) hu g.length
  rw [if_pos hx] at h1
  have h2 : 0 < ((allDeps g).getD x []).count u := List.count_pos_iff.2 hm
  rw [← h1] at h2
  exact List.count_pos_iff.1 h2
/-- Where no loop is told, no nodes each need one of them. -/
theorem no_stuck {n : Nat} {D U : List (List Nat)} (hN : NetOk n D U) (hm : Mutual' n D U) (hl : loopV D U n = none) {S : Nat → Prop} (hS : ∀ i, i < n → S i → ∃ d, d ∈ D.getD i [] ∧ S d) : ∀ i, i < n → ¬ S i := by
  have hsp : ∀ i, i < n → StepsSpec U [i] n (stepsV U n [i]) := fun i hi => steps_spec (rowU_lt hN) (fun k hk => by rw [List.mem_singleton.1 hk]; exact hi)
  have hat : ∀ i, i < n → ∀ k ∈ D.getD i [], (stepsV U n [i]).getD k 0 < 0 := fun i hi => by
    unfold loopV at hl
    rw [List.findSome?_eq_none_iff] at hl
    have := hl i (List.mem_range.2 hi)
    rw [loopAt, Option.map_eq_none_iff] at this
    exact best_none this
  have key : ∀ (m i : Nat), i < n → S i → n - ((List.range n).filter fun k => decide (0 ≤ (stepsV U n [i]).getD k 0)).length ≤ m → False := fun m => by
    induction m with
    | zero =>
      intro i hi hs hle
      obtain ⟨d, hd, _⟩ := hS i hi hs
      have hdn := rowD_lt hN i d hd
      have h1 := hat i hi d hd
      have h2 : ((List.range n).filter fun k => decide (0 ≤ (stepsV U n [i]).getD k 0)).length < (List.range n).length := List.length_filter_lt_length_iff_exists.2 ⟨d, List.mem_range.2 hdn, by simpa using h1⟩
      rw [List.length_range] at h2; omega
    | succ m ih =>
      intro i hi hs hle
      obtain ⟨d, hd, hsd⟩ := hS i hi hs
      have hdn := rowD_lt hN i d hd
      refine ih d hdn hsd ?_
      have hsub : ∀ k, k < n → 0 ≤ (stepsV U n [i]).getD k 0 → 0 ≤ (stepsV U n [d]).getD k 0 := fun k hk h0 => by
        refine reach_sub' (hsp i hi) (P := fun k => 0 ≤ (stepsV U n [d]).getD k 0) (fun k hk => ?_) (fun j hj hP k hk => (hsp d hdn).clos j hj hP k hk) hk h0
        rw [List.mem_singleton.1 hk]
        exact (hsp d hdn).clos d hdn (by rw [(hsp d hdn).src d (List.mem_singleton.2 rfl)]; exact Int.le_refl _) i (hm d i hdn hi hd)
      have hlt : ((List.range n).filter fun k => decide (0 ≤ (stepsV U n [i]).getD k 0)).length < ((List.range n).filter fun k => decide (0 ≤ (stepsV U n [d]).getD k 0)).length := by
        have e : (List.range n).filter (fun k => decide (0 ≤ (stepsV U n [i]).getD k 0)) = ((List.range n).filter fun k => decide (0 ≤ (stepsV U n [d]).getD k 0)).filter fun k => decide (0 ≤ (stepsV U n [i]).getD k 0) := by
          rw [List.filter_filter]
          refine List.filter_congr fun k hk => ?_
          have hk := List.mem_range.1 hk
          by_cases h0 : 0 ≤ (stepsV U n [i]).getD k 0
          · rw [decide_eq_true h0, decide_eq_true (hsub k hk h0)]; rfl
          · rw [decide_eq_false h0]; rfl
        rw [e]
        refine List.length_filter_lt_length_iff_exists.2 ⟨d, List.mem_filter.2 ⟨List.mem_range.2 hdn, ?_⟩, ?_⟩
        · rw [(hsp d hdn).src d (List.mem_singleton.2 rfl)]; rfl
        · have := hat i hi d hd; simpa using this
      omega
  exact fun i hi hs => key _ i hi hs (Nat.le_refl _)
theorem rdy_all : ∀ {L : List Int} {B : List Bool}, L.length = B.length → rdyIdx L B = L.length → ∀ (i : Nat) z, L[i]? = some z → B[i]? = some false → 0 < z
  | [], [], _, _, i, z, h, _ => by simp at h
  | [], b :: B, h, _, _, _, _, _ => by cases h
  | z :: L, [], h, _, _, _, _, _ => by cases h
  | z :: L, b :: B, hl, h, i, z', hz, hb => by
    rw [rdyIdx] at h
    split at h
    · cases h
    · rename_i hc
      cases i with
      | zero =>
        obtain rfl := Option.some.inj hz
        obtain rfl := Option.some.inj hb
        simp only [Bool.not_false, Bool.true_and, decide_eq_true_eq] at hc; omega
      | succ i => exact rdy_all (L := L) (B := B) (by simpa using hl) (by simpa using h) i z' (by simpa using hz) (by simpa using hb)
theorem ordGo_stuck {n : Nat} {D U : List (List Nat)} (hN : NetOk n D U) (hU : ∀ u x, u < n → x < n → (U.getD u []).count x = (D.getD x []).count u) : ∀ m (s : OSt), OOk n s → OInv n D s → s.out.length + m = n → ordGo U m s = none → ∃ s' : OSt, OOk n s' ∧ OInv n D s' ∧ s'.out.length < n ∧ rdyIdx s'.left s'.done = s'.left.length
  | 0, s, hO, hI, hm, h => by cases h
  | m + 1, s, hO, hI, hm, h => by
    rw [ordGo] at h
    split at h
    · rename_i he; exact ⟨s, hO, hI, by omega, he⟩
    · rename_i hne
      have h1 := rdyIdx_le s.left s.done (by rw [hO.ll, hO.bl])
      have h2 := hO.ll
      refine ordGo_stuck hN hU m _ (ordStep_ok hN hO (by omega) (by omega)) (step_inv hN hU hO hI hne) ?_ h
      show (s.out ++ [_]).length + m = n
      rw [List.length_append]; simp only [List.length_cons, List.length_nil]; omega
theorem not_all {n : Nat} {l : List Nat} (h : l.length < n) : ∃ i, i < n ∧ i ∉ l := by
  refine Decidable.byContradiction fun hc => ?_
  have h1 : ∀ i ∈ List.range n, i ∈ l := fun i hi => Decidable.byContradiction fun hn => hc ⟨i, List.mem_range.1 hi, hn⟩
  have h2 := List.nodup_range (n := n)
  have : ∀ (r : List Nat) (l : List Nat), r.Nodup → (∀ i ∈ r, i ∈ l) → r.length ≤ l.length := fun r => by
    induction r with
    | nil => exact fun l _ _ => Nat.zero_le _
    | cons a r ih =>
      intro l hd hs
      rw [List.nodup_cons] at hd
      have ha := hs a (List.mem_cons_self ..)
      have := ih (l.erase a) hd.2 fun i hi => (List.mem_erase_of_ne (fun e => hd.1 (by rw [← e]; exact hi))).2 (hs i (List.mem_cons_of_mem _ hi))
      rw [List.length_erase_of_mem ha] at this
      have hp : 0 < l.length := List.length_pos_of_mem ha
      rw [List.length_cons]; omega
  have := this _ l h2 h1
  rw [List.length_range] at this; omega
theorem order_start {g : Graph} (h : GOk g) : OInv g.length (allDeps g) ⟨lens0 (allDeps g), List.replicate g.length false, []⟩ := by
  have hN := net_ok h
  refine ⟨List.nodup_nil, fun i hi => ?_, fun i hi => ?_, fun k i hk => ?_⟩
  · rw [List.getElem?_replicate, if_pos hi]; simp
  · have : i < (allDeps g).length := by rw [hN.dl]; exact hi
    simp only [lens0, List.getD_eq_getElem?_getD, List.getElem?_map, List.getElem?_eq_getElem this]
    simp
  · simp at hk
theorem order_iff {g : Graph} (h : GOk g) : (orderOf g = none) ↔ (loopOf g).isSome = true := by
  have hN := net_ok h
  have hm' := net_mutual' h
  constructor
  · intro ho
    cases hl : loopOf g with
    | some l => rfl
    | none =>
      exfalso
      unfold orderOf orderV at ho
      rw [hN.dl] at ho
      have hS := start_ok hN
      rw [hN.dl] at hS
      obtain ⟨s, a1, a2, a3, a4⟩ := ordGo_stuck hN (fun u x hu hx => by rw [usersOf, usTo_count hu, if_pos hx]) _ _ hS (order_start h) (by simp) ho
      obtain ⟨i, hi, hni⟩ := not_all a3
      refine no_stuck hN hm' hl (S := fun k => k < g.length ∧ k ∉ s.out) (fun k hk ⟨_, hs⟩ => ?_) i hi ⟨hi, hni⟩
      have hll := a1.ll
      have h1 : k < s.left.length := by omega
      have h2 := a2.dn k hk
      rw [decide_eq_false hs] at h2
      have h3 := rdy_all (by rw [a1.ll, a1.bl]) a4 k _ (List.getElem?_eq_getElem h1) h2
      have h4 := a2.lf k hk
      rw [getD_some (List.getElem?_eq_getElem h1), cntS a2.nd] at h4
      have h5 : ¬ ∀ d ∈ (allDeps g).getD k [], decide (d ∈ s.out) = true := fun h => by
        rw [← List.countP_eq_length] at h; omega
      refine Classical.byContradiction fun hc => h5 fun d hd => decide_eq_true (Classical.byContradiction fun hn => hc ⟨d, hd, rowD_lt hN k d hd, hn⟩)
  · intro hl
    obtain ⟨l, hl⟩ := Option.isSome_iff_exists.1 hl
    obtain ⟨i, c, hi, hc, hci, h0, hs, _⟩ := loop_parts hN hl
    cases ho : orderOf g with
    | none => rfl
    | some o =>
      exfalso
      obtain ⟨hnd, hbf⟩ := order_inv h ho
      obtain ⟨hlen, hlt⟩ := order_len hN ho
      have hpos : ∀ a, a < g.length → ∃ k : Nat, o[k]? = some a := fun a ha => List.mem_iff_getElem?.1 (nd_all hnd hlt hlen ha)
      have hun : ∀ {a p q : Nat}, o[p]? = some a → o[q]? = some a → p = q := fun h1 h2 => by
        obtain ⟨a1, a2⟩ := List.getElem?_eq_some_iff.1 h1
        obtain ⟨b1, b2⟩ := List.getElem?_eq_some_iff.1 h2
        exact (List.getElem_inj (h₀ := a1) (h₁ := b1) hnd).1 (a2.trans b2.symm)
      have hfall : ∀ {a d p q : Nat}, o[p]? = some a → d ∈ (allDeps g).getD a [] → o[q]? = some d → q < p := fun {a d p q} h1 h2 h3 => by
        obtain ⟨q', hq'⟩ := List.mem_iff_getElem?.1 (hbf p a h1 d h2)
        have : q' < p := by have := (List.getElem?_eq_some_iff.1 hq').1; rw [List.length_take] at this; omega
        rw [List.getElem?_take_of_lt this] at hq'
        rw [hun h3 hq']; exact this
      obtain ⟨pi, hpi⟩ := hpos i hi
      have hmm := net_mutual h
      obtain ⟨pc, hpc⟩ := hpos c hc
      have hle : ∀ q : Nat, o[q]? = some c → pi ≤ q := reach_sub' hs (P := fun k => ∀ q : Nat, o[q]? = some k → pi ≤ q) (fun k hk q hq => by rw [List.mem_singleton.1 hk] at hq; rw [hun hq hpi]; exact Nat.le_refl _) (fun j hj hP k hk q hq => by
        have hkn := rowU_lt hN j k hk
        obtain ⟨pj, hpj⟩ := hpos j hj
        have h1 := hP pj hpj
        have h2 := hfall hq (hmm j k hj hkn hk) hpj
        omega) hc h0
      have := hfall hpi hci hpc
      have := hle pc hpc
      omega
end Go.Proofs.YtbnmclcoekehbaaDoor
