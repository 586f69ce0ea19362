/-
  The law LongestIsHeaviest: its plain law, and its walk. No statement of the seat is proved here; no conditions.
-/
import Derived.Test.YtaiajaibcpkceaaDoorGrLg
import Derived.Test.YtaiajaibcpkceaaDoorGrL
namespace Go.Proofs.YtaiajaibcpkceaaDoor
open Go.RowKit Go.Shelf
set_option linter.unusedVariables false
set_option linter.unusedSimpArgs false
set_option maxRecDepth 100000

theorem down_eq {g : Graph} {o : List Nat} (h : TOk g o) {i : Nat} (hi : i < g.length) : (downV g).getD i 0 = maxAt (downV g) 0 ((allDeps g).getD i []) + wkOf g i := by
  have : downV g = sumsV (allDeps g) (wkOf g) g.length o := by unfold downV; rw [h.ord]; rfl
  rw [this]; exact sums_spec h.nd h.lt h.bd h.len hi
theorem ahead_eq {g : Graph} {o : List Nat} (h : TOk g o) {i : Nat} (hi : i < g.length) : (aheadV g).getD i 0 = maxAt (aheadV g) 0 ((usersOf g).getD i []) + wkOf g i := by
  have : aheadV g = sumsV (usersOf g) (wkOf g) g.length o.reverse := by unfold aheadV; rw [h.ord]; rfl
  rw [this]; exact sums_spec (List.pairwise_reverse.2 (h.nd.imp Ne.symm)) (fun i hi => h.lt i (List.mem_reverse.1 hi)) h.bu (by rw [List.length_reverse]; exact h.len) hi
theorem ahead_b {g : Graph} {o : List Nat} (h : TOk g o) : SB g.length (1000000 * 1000) (aheadV g) := by
  have e : aheadV g = sumsV (usersOf g) (wkOf g) g.length o.reverse := by unfold aheadV; rw [h.ord]; rfl
  have := sums_b (E := usersOf g) (wk := wkOf g) (n := g.length) (o := o.reverse) (fun i hi => h.lt i (List.mem_reverse.1 hi)) h.wk o.reverse.length
  rw [List.take_length] at this
  rw [e]
  refine ⟨this.1, fun k => ?_⟩
  have h1 := this.2 k
  have h2 := h.len
  have h3 := h.ok.len
  rw [List.length_reverse] at h1
  unfold sumsV
  omega
/-- The greatest one of a row that is not empty, of sums that are not below nothing. -/
theorem best_max {S : List Int} {row : List Nat} (h : row ≠ []) (h0 : ∀ k ∈ row, 0 ≤ S.getD k 0) : maxAt S 0 row = S.getD (bestS S row) 0 := by
  obtain ⟨h1, h2⟩ := bestS_spec (S := S) h
  have h3 := (maxAt_ge (S := S) (row := row) (a := 0)).2 _ h1
  have h4 := h0 _ h1
  rcases maxAt_is (S := S) (row := row) (a := 0) with h5 | ⟨k, h5, h6⟩
  · omega
  · have := h2 k h5; omega
theorem down_0 {g : Graph} {o : List Nat} (h : TOk g o) {i : Nat} (hi : i < g.length) : wkOf g i ≤ (downV g).getD i 0 ∧ 0 ≤ (downV g).getD i 0 := by
  have := down_eq h hi
  have := (maxAt_ge (S := downV g) (row := (allDeps g).getD i []) (a := 0)).1
  have := (h.wk i).1
  omega
theorem ahead_0 {g : Graph} {o : List Nat} (h : TOk g o) {i : Nat} (hi : i < g.length) : wkOf g i ≤ (aheadV g).getD i 0 ∧ 0 ≤ (aheadV g).getD i 0 := by
  have := ahead_eq h hi
  have := (maxAt_ge (S := aheadV g) (row := (usersOf g).getD i []) (a := 0)).1
  have := (h.wk i).1
  omega
structure WaySpec (g : Graph) (o : List Nat) (i : Nat) (w : List Nat) : Prop where
  lt : ∀ k ∈ w, k < g.length
  sum : (w.map (wkOf g)).sum = (downV g).getD i 0
  ch : ∀ (j : Nat) v, w[j + 1]? = some v → ∃ u, w[j]? = some u ∧ v ∈ (allDeps g).getD u []
  last : ∃ e, w[w.length - 1]? = some e ∧ (allDeps g).getD e [] = []
  pos : ∀ k ∈ w.tail, o.idxOf k < o.idxOf i
  nd : w.Nodup
  up : ∃ e ∈ w, (aheadV g).getD i 0 - wkOf g i + (downV g).getD i 0 ≤ (aheadV g).getD e 0
theorem longGo_spec {g : Graph} {o : List Nat} (h : TOk g o) : ∀ (m i : Nat), i < g.length → o.idxOf i ≤ m → WaySpec g o i (i :: longGo (allDeps g) (downV g) m i) := by
  intro m
  induction m with
  | zero =>
    intro i hi hm
    have hD : (allDeps g).getD i [] = [] := by
      cases e : (allDeps g).getD i [] with
      | nil => rfl
      | cons d r => have := pos_lt h hi (d := d) (by rw [e]; exact List.mem_cons_self ..); omega
    have hd := down_eq h hi
    rw [hD] at hd
    have hd : (downV g).getD i 0 = 0 + wkOf g i := hd
    have e : i :: longGo (allDeps g) (downV g) 0 i = [i] := rfl
    rw [e]
    refine ⟨fun k hk => by rw [List.mem_singleton.1 hk]; exact hi, by rw [List.map_cons, List.map_nil, List.sum_cons, List.sum_nil, hd]; omega, (fun j v hv => by simp at hv), ⟨i, rfl, hD⟩, (fun k hk => by cases hk), by simp, i, List.mem_singleton.2 rfl, by omega⟩
  | succ m ih =>
    intro i hi hm
    rcases Nat.eq_zero_or_pos ((allDeps g).getD i []).length with hz | hp
    · have hD := List.eq_nil_of_length_eq_zero hz
      have hd := down_eq h hi
      rw [hD] at hd
      have hd : (downV g).getD i 0 = 0 + wkOf g i := hd
      have e : i :: longGo (allDeps g) (downV g) (m + 1) i = [i] := by rw [longGo, if_pos hz]
      rw [e]
      refine ⟨fun k hk => by rw [List.mem_singleton.1 hk]; exact hi, by rw [List.map_cons, List.map_nil, List.sum_cons, List.sum_nil, hd]; omega, (fun j v hv => by simp at hv), ⟨i, rfl, hD⟩, (fun k hk => by cases hk), by simp, i, List.mem_singleton.2 rfl, by omega⟩
    · have hne : (allDeps g).getD i [] ≠ [] := fun e => by rw [e] at hp; exact absurd hp (Nat.lt_irrefl _)
      obtain ⟨hb1, _⟩ := bestS_spec (S := downV g) hne
      have hbm := best_max (S := downV g) hne fun k hk => (down_0 h (rowD_lt h.net i k hk)).2
      have hpb := pos_lt h hi hb1
      have hbn := rowD_lt h.net i _ hb1
      have hd := down_eq h hi
      rw [hbm] at hd
      have e : i :: longGo (allDeps g) (downV g) (m + 1) i = i :: (bestS (downV g) ((allDeps g).getD i []) :: longGo (allDeps g) (downV g) m (bestS (downV g) ((allDeps g).getD i []))) := by rw [longGo, if_neg (by omega)]
      rw [e]
      generalize bestS (downV g) ((allDeps g).getD i []) = b at *
      obtain ⟨a1, a2, a3, ⟨x, a4, a5⟩, a6, a7, y, a8, a9⟩ := ih b hbn (by omega)
      generalize hw : b :: longGo (allDeps g) (downV g) m b = w at *
      have hw0 : w[0]? = some b := by rw [← hw]; rfl
      have hwl : 0 < w.length := by rw [← hw]; simp
      have hall : ∀ k ∈ w, o.idxOf k < o.idxOf i := fun k hk => by
        rw [← hw] at hk
        rcases List.mem_cons.1 hk with rfl | hk
        · exact hpb
        · have := a6 k (by rw [← hw]; exact hk); omega
      refine ⟨fun k hk => ?_, ?_, fun j v hv => ?_, ⟨x, ?_, a5⟩, hall, ?_, y, List.mem_cons_of_mem _ a8, ?_⟩
      · rcases List.mem_cons.1 hk with rfl | hk
        · exact hi
        · exact a1 k hk
      · rw [List.map_cons, List.sum_cons, a2]; omega
      · rw [List.getElem?_cons_succ] at hv
        cases j with
        | zero => rw [hw0] at hv; obtain rfl := Option.some.inj hv; exact ⟨i, rfl, hb1⟩
        | succ j =>
          obtain ⟨u, h1, h2⟩ := a3 j v hv
          exact ⟨u, by rw [List.getElem?_cons_succ]; exact h1, h2⟩
      · rw [List.length_cons, show w.length + 1 - 1 = (w.length - 1) + 1 by omega, List.getElem?_cons_succ]; exact a4
      · rw [List.nodup_cons]
        exact ⟨fun hk => absurd (hall i hk) (Nat.lt_irrefl _), a7⟩
      · have hu := net_mutual' h.ok b i hbn hi hb1
        have h1 := ahead_eq h hbn
        have h2 := (maxAt_ge (S := aheadV g) (row := (usersOf g).getD b []) (a := 0)).2 i hu
        omega
/-- No node has more ahead than the longest way. -/
theorem ahead_le {g : Graph} {o : List Nat} (h : TOk g o) (hn : 0 < g.length) : ∀ (m i : Nat), i < g.length → g.length - o.idxOf i ≤ m → (aheadV g).getD i 0 + (downV g).getD i 0 - wkOf g i ≤ (downV g).getD (bestS (downV g) (topsV g)) 0 := by
  intro m
  induction m with
  | zero => intro i hi hm; have := pos_n h hi; omega
  | succ m ih =>
    intro i hi hm
    have ha := ahead_eq h hi
    obtain ⟨ht1, ht2⟩ := tops_ne h hn
    cases e : (usersOf g).getD i [] with
    | nil =>
      rw [e] at ha
      have ha : (aheadV g).getD i 0 = 0 + wkOf g i := ha
      have : i ∈ topsV g := by rw [topsV, List.mem_filter, List.mem_range, topP, decide_eq_true_eq, e]; exact ⟨hi, rfl⟩
      have := (bestS_spec (S := downV g) ht1).2 i this
      omega
    | cons u0 r =>
      have : ∃ u ∈ (usersOf g).getD i [], (aheadV g).getD i 0 ≤ (aheadV g).getD u 0 + wkOf g i := by
        rcases maxAt_is (S := aheadV g) (row := (usersOf g).getD i []) (a := 0) with h1 | ⟨k, h1, h2⟩
        · have hu : u0 ∈ (usersOf g).getD i [] := by rw [e]; exact List.mem_cons_self ..
          have := (ahead_0 h (rowU_lt h.net i u0 hu)).2
          exact ⟨u0, hu, by omega⟩
        · exact ⟨k, h1, by omega⟩
      obtain ⟨u, hu, h1⟩ := this
      have hun := rowU_lt h.net i u hu
      have hd := net_mutual h.ok i u hi hun hu
      have hp := pos_lt h hun hd
      have h2 := ih u hun (by have := pos_n h hun; omega)
      have h3 := down_eq h hun
      have h4 := (maxAt_ge (S := downV g) (row := (allDeps g).getD u []) (a := 0)).2 i hd
      omega
def mostTo (A : List Int) (s : Nat) : Int := maxAt A 0 (List.range s)
theorem most_is {g : Graph} {o : List Nat} (h : TOk g o) (hn : 0 < g.length) : mostTo (aheadV g) g.length = (downV g).getD (bestS (downV g) (topsV g)) 0 := by
  obtain ⟨ht1, ht2⟩ := tops_ne h hn
  have hb := bestS_spec (S := downV g) ht1
  have hbn := (ht2 _ hb.1).1
  have hw := longGo_spec h g.length _ hbn (Nat.le_of_lt (pos_n h hbn))
  obtain ⟨e, he, hle⟩ := hw.up
  have hen := hw.lt e he
  have h1 := (maxAt_ge (S := aheadV g) (row := List.range g.length) (a := 0)).2 e (List.mem_range.2 hen)
  have h2 := (ahead_0 h hbn).1
  have h0 := (down_0 h hbn).2
  unfold mostTo
  rcases maxAt_is (S := aheadV g) (row := List.range g.length) (a := 0) with h3 | ⟨k, h3, h4⟩
  · omega
  · have hk := List.mem_range.1 h3
    have h5 := ahead_le h hn _ k hk (Nat.le_refl _)
    have h6 := (down_0 h hk).1
    omega
def sumOn (W : List Nat) (wk : Nat → Int) : Nat → Int
  | 0 => 0
  | n + 1 => sumOn W wk n + if n ∈ W then wk n else 0
theorem sumOn_cons {a : Nat} {W : List Nat} {wk : Nat → Int} (ha : a ∉ W) : ∀ n : Nat, sumOn (a :: W) wk n = sumOn W wk n + if a < n then wk a else 0
  | 0 => by simp [sumOn]
  | n + 1 => by
    rw [sumOn, sumOn, sumOn_cons ha n]
    by_cases e : a = n
    · subst e
      rw [if_neg (Nat.lt_irrefl _), if_pos (List.mem_cons_self ..), if_neg ha, if_pos (show a < a + 1 by omega)]
    · have h3 : (if a < n + 1 then wk a else 0) = if a < n then wk a else 0 := by
        by_cases h2 : a < n
        · rw [if_pos h2, if_pos (show a < n + 1 by omega)]
        · rw [if_neg h2, if_neg (show ¬ a < n + 1 by omega)]
      have h4 : (if n ∈ a :: W then wk n else 0) = if n ∈ W then wk n else 0 := by
        by_cases h1 : n ∈ W
        · rw [if_pos (List.mem_cons_of_mem _ h1), if_pos h1]
        · rw [if_neg (fun h : n ∈ a :: W => by rcases List.mem_cons.1 h with h | h; exact e h.symm; exact h1 h), if_neg h1]
      rw [h3, h4]; omega
theorem sumOn_all {wk : Nat → Int} {n : Nat} : ∀ {W : List Nat}, W.Nodup → (∀ k ∈ W, k < n) → sumOn W wk n = (W.map wk).sum
  | [], _, _ => by
    have : ∀ n : Nat, sumOn [] wk n = 0 := fun n => by
      induction n with
      | zero => rfl
      | succ n ih => rw [sumOn, ih, if_neg (by simp)]; rfl
    rw [this]; rfl
  | a :: W, hd, hl => by
    rw [List.nodup_cons] at hd
    rw [sumOn_cons hd.1, sumOn_all hd.2 fun k hk => hl k (List.mem_cons_of_mem _ hk), if_pos (hl a (List.mem_cons_self ..)), List.map_cons, List.sum_cons]; omega
theorem sumOn_b {W : List Nat} {wk : Nat → Int} (h : ∀ i, 0 ≤ wk i ∧ wk i ≤ 1000000) : ∀ n : Nat, 0 ≤ sumOn W wk n ∧ sumOn W wk n ≤ 1000000 * n
  | 0 => by simp [sumOn]
  | n + 1 => by
    have h1 := sumOn_b (W := W) h n
    have h2 := h n
    rw [sumOn]; split <;> omega
theorem most_b {A : List Int} {n : Nat} {B : Int} (h : SB n B A) (hB : 0 ≤ B) (s : Nat) : 0 ≤ mostTo A s ∧ mostTo A s ≤ B := by
  refine ⟨maxAt_ge.1, ?_⟩
  unfold mostTo
  rcases maxAt_is (S := A) (row := List.range s) (a := 0) with h1 | ⟨k, _, h1⟩
  · omega
  · rw [h1]; exact (h.2 k).2
theorem most_step {A : List Int} {s : Nat} : mostTo A (s + 1) = max (mostTo A s) (A.getD s 0) := by
  unfold mostTo maxAt
  rw [List.range_succ, List.foldl_append]; rfl
theorem lab_mem' {g : Graph} (h : GOk g) {L : List Nat} (hL : ∀ k ∈ L, k < g.length) {i : Nat} {x : Node} (hx : g[i]? = some x) : decide (0 ≤ ixS (L.map (labN g)) x.1) = decide (i ∈ L) := by
  rw [ix_mem]
  have hi := (List.getElem?_eq_some_iff.1 hx).1
  refine decide_eq_decide.2 ⟨fun h1 => ?_, fun h1 => List.mem_map.2 ⟨_, h1, labN_of hx⟩⟩
  obtain ⟨k, hk, e⟩ := List.mem_map.1 h1
  rw [← lab_inj h (hL k hk) hi (e.trans (labN_of hx).symm)]; exact hk
/-- What the law asks of the longest way. -/
structure LongSpec (g : Graph) (W : List Nat) (N : Int) : Prop where
  lt : ∀ k ∈ W, k < g.length
  len : 0 < W.length ∧ W.length ≤ 1000
  sum : sumOn W (wkOf g) g.length = N
  most : mostTo (aheadV g) g.length = N
  top : ∀ a, W[0]? = some a → ∀ (i : Nat) x, g[i]? = some x → labN g a ∉ x.2.2.1
  last : ∀ e, W[W.length - 1]? = some e → ∀ (i : Nat) x, g[i]? = some x → x.1 = labN g e → x.2.2.1.length = 0
  ch : ∀ (j : Nat) v, W[j + 1]? = some v → ∃ u, W[j]? = some u ∧ needsV g (labN g u) (labN g v) = true
theorem long_spec {g : Graph} {o : List Nat} (h : TOk g o) (hn : 0 < g.length) : LongSpec g (longV g) ((downV g).getD (bestS (downV g) (topsV g)) 0) := by
  obtain ⟨ht1, ht2⟩ := tops_ne h hn
  have hb := bestS_spec (S := downV g) ht1
  obtain ⟨hbn, hbU⟩ := ht2 _ hb.1
  have hw := longGo_spec h g.length _ hbn (Nat.le_of_lt (pos_n h hbn))
  have hW : longV g = bestS (downV g) (topsV g) :: longGo (allDeps g) (downV g) g.length (bestS (downV g) (topsV g)) := rfl
  rw [← hW] at hw
  have hW0 : (longV g)[0]? = some (bestS (downV g) (topsV g)) := rfl
  have hll := nd_bound g.length _ hw.nd hw.lt
  have hgl := h.ok.len
  refine ⟨hw.lt, ⟨by rw [hW]; simp, by omega⟩, by rw [sumOn_all hw.nd hw.lt]; exact hw.sum, most_is h hn, fun a ha i x hx hm => ?_, fun e he i x hx hl => ?_, fun j v hv => ?_⟩
  · rw [hW0] at ha
    obtain rfl := Option.some.inj ha
    have hd := (dep_lab h.ok hx).2 ⟨hbn, hm⟩
    have := net_mutual' h.ok _ i hbn (List.getElem?_eq_some_iff.1 hx).1 hd
    rw [hbU] at this; cases this
  · obtain ⟨e', h1, h2⟩ := hw.last
    rw [he] at h1
    obtain rfl := Option.some.inj h1
    have hel := hw.lt e (List.mem_of_getElem? he)
    have hil := (List.getElem?_eq_some_iff.1 hx).1
    obtain rfl := lab_inj h.ok hil hel ((labN_of hx).trans hl)
    have : (allDeps g).getD i [] = depsOf g x := by rw [List.getD_eq_getElem?_getD, allDeps, List.getElem?_map, hx]; rfl
    rw [this] at h2
    have := congrArg List.length h2
    rwa [depsOf, List.length_map] at this
  · obtain ⟨u, h1, h2⟩ := hw.ch j v hv
    exact ⟨u, h1, by rw [needsV_dep h.ok (hw.lt u (List.mem_of_getElem? h1)) (hw.lt v (List.mem_of_getElem? hv))]; exact decide_eq_true h2⟩
theorem longest_f (g : Graph) (hb : GBound g) : FRet Tryd.prog 3 [.f (frNodes g)] [.c (.v (.bool true))] := by
  have hL := Longest_f g hb
  have hH := Ahead_f g hb
  have hA := awake_f
  have hNd := needs_f g hb
  refine FCall.of_ax low_law4_GraphLongestIsHeaviest ?_
  dsimp only [l_law4_GraphLongestIsHeaviest]
  refine srun_sound 300 _ _ _ _ ?_
  replace hNd := hide hNd
  by_cases h0 : treeErr g = 0
  · rw [h0, if_pos rfl] at hH
    rw [h0] at hL
    obtain ⟨o, hK⟩ := tok_of h0
    have hAb := ahead_b hK
    have hgl := hK.ok.len
    by_cases hn : 0 < g.length
    · rw [if_pos ⟨rfl, hn⟩, if_pos ⟨rfl, hn⟩] at hL
      obtain ⟨w1, ⟨w2, w3⟩, w4, w5, w6, w7, w8⟩ := long_spec hK hn
      have hAl := hAb.1
      have hmb := fun s => most_b hAb (by decide) s
      have hsb := fun s => sumOn_b (W := longV g) hK.wk s
      have hwk := hK.wk
      have hLl : ((longV g).map (labN g)).length = (longV g).length := List.length_map _
      have hC := fun t => contains_fS ((longV g).map (labN g)) t (by omega)
      have hCd := fun (x : Node) (hx : x ∈ g) t => contains_fS x.2.2.1 t (by have := ck_deps (hK.ok.nodes x hx); omega)
      have hlm := fun i x (hx : g[i]? = some x) => lab_mem' hK.ok w1 hx
      have hXa := fun (j : Nat) u (h : (longV g)[j]? = some u) => show ((longV g).map (labN g))[j]? = some (labN g u) by rw [List.getElem?_map, h]; rfl
      generalize (downV g).getD (bestS (downV g) (topsV g)) 0 = N at *
      generalize longV g = W at *
      generalize aheadV g = A at *
      obtain ⟨a, ha⟩ := get_some w2
      obtain ⟨e, he⟩ := get_some (l := W) (i := W.length - 1) (by omega)
      have hX0 := hXa 0 a ha
      have hXe := hXa (W.length - 1) e he
      have w6a := w6 a ha
      have w7e := w7 e he
      have w8' : ∀ (j : Nat) v, W[j + 1]? = some v → ∃ u, W[j]? = some u ∧ needsV g (labN g u) (labN g v) = true := w8
      generalize hXX : W.map (labN g) = X at *
      replace hXX := hide hXX
      replace hK := hide hK
      replace hAb := hide hAb
      replace w1 := hide w1
      replace w4 := hide w4
      replace w5 := hide w5
      replace w6 := hide w6
      replace w7 := hide w7
      replace w8 := hide w8
      replace w8' := hide w8'
      replace w6a := hide w6a
      replace w7e := hide w7e
      replace hmb := hide hmb
      replace hsb := hide hsb
      replace hwk := hide hwk
      replace hC := hide hC
      replace hCd := hide hCd
      replace hlm := hide hlm
      replace hXa := hide hXa
      replace ha := hide ha
      replace he := hide he
      generalize hwl : W.length = wl at *
      replace hwl := hide hwl
      unfold frStrs frNodes frI at *
      repeat' (first
        | (simp -implicitDefEqProofs only [*, zr, Nat.reduceAdd, Nat.reduceSub, Nat.reduceMul, Nat.reduceLT, Nat.reduceLeDiff, Nat.reduceEqDiff, Nat.reduceBEq, reduceIte, reduceCtorEq, Int.reduceLE, Int.reduceLT, Int.reduceToNat, Int.reduceEq, Int.reduceNe])
        | ((first | apply condS_splitN | apply condS_split | apply guardS_splitTN | apply guardS_splitFN | apply guardD_splitTN | apply guardD_splitFN | apply guardS_splitT | apply guardS_splitF | apply guardD_splitT | apply guardD_splitF) <;> intro hc)
        | (refine callP0 rfl ?_)
        | (refine callD0 rfl ?_)
        | (refine cP (hL) ?_)
        | (refine cD (hL) ?_)
        | (refine cF (hL) ?_)
        | (refine cP (hH) ?_)
        | (refine cD (hH) ?_)
        | (refine cF (hH) ?_)
        | fail)
      refine ax_loopU (S := Nat) 161 [0, 3, 4, 6, 7] [] (fun s => [(8, .f (.int .i64 (mostTo A s))), (9, .f (.int .i64 (sumOn W (wkOf g) s))), (10, .f (.int .i64 s))]) (fun s => []) (fun s => s ≤ g.length) (fun s => g.length - s) (0) [] ?_ ?_ fun s hs => ?_
      · exact Nat.zero_le _
      · refine ⟨rfl, (by first | exact small_0 | exact small_mk rfl | (repeat (first | exact small_0 | exact small_mk rfl | refine small_upd rfl ?_ | refine small_sw rfl rfl ?_))), rfl, rfl, (by rfl), ?_, ?_⟩ <;> simp only [zw, swN, ElOk, HlOk, Nat.reduceEqDiff, Nat.reduceBEq, Nat.reduceLT, Nat.reduceLeDiff, reduceIte, reduceCtorEq, H0, AObj.cells.injEq]
        exact ⟨rfl, rfl⟩
      refine srun_sound 300 _ _ _ _ ?_
      rcases Nat.lt_or_ge s g.length with hlt | hge
      · obtain ⟨x, hx⟩ := get_some hlt
        obtain ⟨z, hz⟩ := get_some (l := A) (i := s) (by omega)
        have g4 := inc64 hlt (by omega)
        have g2 := lt_t hlt
        have hCx := hC.out x.1
        rw [hlm.out s x hx] at hCx
        have hms : mostTo A (s + 1) = max (mostTo A s) z := by rw [most_step, getD_some hz]
        have hss : sumOn W (wkOf g) (s + 1) = sumOn W (wkOf g) s + if s ∈ W then wkOf g s else 0 := rfl
        have hsb2 := hsb.out s
        have hsb3 := hwk.out s
        rw [wkOf_of hx] at hss hsb3
        have hwr : IntKind.i64.wrap (sumOn W (wkOf g) s + x.2.2.2.2.2) = sumOn W (wkOf g) s + x.2.2.2.2.2 := by rw [wrap64] <;> omega
        have hfz : fI z = FV.int .i64 z := rfl
        generalize mostTo A s = m0 at *
        generalize sumOn W (wkOf g) s = s0 at *
        replace hms := hide hms
        cases q : decide (s ∈ W)
        · rw [q] at hCx
          rw [if_neg (of_decide_eq_false q)] at hss
          rw [Int.add_zero] at hss
          replace hss := hide hss
          repeat' (first
            | (simp -implicitDefEqProofs only [*, List.getElem?_map, Option.map_some, fNode, zr, Nat.reduceAdd, Nat.reduceSub, Nat.reduceMul, Nat.reduceLT, Nat.reduceLeDiff, Nat.reduceEqDiff, Nat.reduceBEq, reduceIte, reduceCtorEq, Int.reduceLE, Int.reduceLT, Int.reduceToNat, Int.reduceEq, Int.reduceNe])
            | ((first | apply condS_splitN | apply condS_split | apply guardS_splitTN | apply guardS_splitFN | apply guardD_splitTN | apply guardD_splitFN | apply guardS_splitT | apply guardS_splitF | apply guardD_splitT | apply guardD_splitF) <;> intro hc)
            | (refine callP0 rfl ?_)
            | (refine callD0 rfl ?_)
            | (refine cP (hCx) ?_)
            | (refine cD (hCx) ?_)
            | (refine cF (hCx) ?_)
            | fail)
          refine ⟨s + 1, hlt, by omega, ?_⟩
          rw [hms.out, hss.out]
          refine ⟨rfl, (by first | exact small_0 | exact small_mk rfl | (repeat (first | exact small_0 | exact small_mk rfl | refine small_upd rfl ?_ | refine small_sw rfl rfl ?_))), rfl, rfl, (by rfl), ?_, ?_⟩ <;> simp only [zw, swN, ElOk, HlOk, Nat.reduceEqDiff, Nat.reduceBEq, Nat.reduceLT, Nat.reduceLeDiff, reduceIte, reduceCtorEq, H0, AObj.cells.injEq]
        · rw [q] at hCx
          rw [if_pos (of_decide_eq_true q)] at hss
          replace hss := hide hss
          repeat' (first
            | (simp -implicitDefEqProofs only [*, List.getElem?_map, Option.map_some, fNode, zr, Nat.reduceAdd, Nat.reduceSub, Nat.reduceMul, Nat.reduceLT, Nat.reduceLeDiff, Nat.reduceEqDiff, Nat.reduceBEq, reduceIte, reduceCtorEq, Int.reduceLE, Int.reduceLT, Int.reduceToNat, Int.reduceEq, Int.reduceNe])
            | ((first | apply condS_splitN | apply condS_split | apply guardS_splitTN | apply guardS_splitFN | apply guardD_splitTN | apply guardD_splitFN | apply guardS_splitT | apply guardS_splitF | apply guardD_splitT | apply guardD_splitF) <;> intro hc)
            | (refine callP0 rfl ?_)
            | (refine callD0 rfl ?_)
            | (refine cP (hCx) ?_)
            | (refine cD (hCx) ?_)
            | (refine cF (hCx) ?_)
            | fail)
          refine ⟨s + 1, hlt, by omega, ?_⟩
          rw [hms.out, hss.out]
          refine ⟨rfl, (by first | exact small_0 | exact small_mk rfl | (repeat (first | exact small_0 | exact small_mk rfl | refine small_upd rfl ?_ | refine small_sw rfl rfl ?_))), rfl, rfl, (by rfl), ?_, ?_⟩ <;> simp only [zw, swN, ElOk, HlOk, Nat.reduceEqDiff, Nat.reduceBEq, Nat.reduceLT, Nat.reduceLeDiff, reduceIte, reduceCtorEq, H0, AObj.cells.injEq]
      · obtain rfl : s = g.length := by omega
        have g2 := lt_f hge
        rw [w4.out, w5.out]
        have hwp : decide ((0 : Int) < (wl : Int)) = true := dec_t (by omega)
        have hwp2 : decide (0 < wl) = true := dec_t w2
        have hwr : IntKind.i64.wrap ((wl : Int) - 1) = ((wl - 1 : Nat) : Int) := by rw [wrap64] <;> omega
        have hwlt : decide (wl - 1 < wl) = true := dec_t (by omega)
        repeat' (first
          | (simp -implicitDefEqProofs only [*, zr, Nat.reduceAdd, Nat.reduceSub, Nat.reduceMul, Nat.reduceLT, Nat.reduceLeDiff, Nat.reduceEqDiff, Nat.reduceBEq, reduceIte, reduceCtorEq, Int.reduceLE, Int.reduceLT, Int.reduceToNat, Int.reduceEq, Int.reduceNe])
          | ((first | apply condS_splitN | apply condS_split | apply guardS_splitTN | apply guardS_splitFN | apply guardD_splitTN | apply guardD_splitFN | apply guardS_splitT | apply guardS_splitF | apply guardD_splitT | apply guardD_splitF) <;> intro hc)
          | (refine callP0 rfl ?_)
          | (refine callD0 rfl ?_)
          | fail)
        refine ax_loopU (S := Nat) 161 [0, 3, 4, 7, 8, 9] [] (fun s => [(11, .f (.int .i64 s))]) (fun s => []) (fun s => s ≤ g.length) (fun s => g.length - s) (0) [] ?_ ?_ fun s hs => ?_
        · exact Nat.zero_le _
        · refine ⟨rfl, (by first | exact small_0 | exact small_mk rfl | (repeat (first | exact small_0 | exact small_mk rfl | refine small_upd rfl ?_ | refine small_sw rfl rfl ?_))), rfl, rfl, (by rfl), ?_, ?_⟩ <;> simp only [zw, swN, ElOk, HlOk, Nat.reduceEqDiff, Nat.reduceBEq, Nat.reduceLT, Nat.reduceLeDiff, reduceIte, reduceCtorEq, H0, AObj.cells.injEq]
        refine srun_sound 300 _ _ _ _ ?_
        clear g2
        rcases Nat.lt_or_ge s g.length with hlt2 | hge2
        · obtain ⟨x, hx⟩ := get_some hlt2
          have g4 := inc64 hlt2 (by omega)
          have g2 := lt_t hlt2
          have hCx := hCd.out x (List.mem_of_getElem? hx) (labN g a)
          have hna : decide (0 ≤ ixS x.2.2.1 (labN g a)) = false := by
            rw [ix_mem]; exact decide_eq_false (w6a.out s x hx)
          rw [hna] at hCx
          have hend := w7e.out s x hx
          replace hna := hide hna
          cases q : decide (x.1 = labN g e)
          · replace hend := hide hend
            repeat' (first
              | (simp -implicitDefEqProofs only [*, List.getElem?_map, Option.map_some, fNode, frStrs, zr, Nat.reduceAdd, Nat.reduceSub, Nat.reduceMul, Nat.reduceLT, Nat.reduceLeDiff, Nat.reduceEqDiff, Nat.reduceBEq, reduceIte, reduceCtorEq, Int.reduceLE, Int.reduceLT, Int.reduceToNat, Int.reduceEq, Int.reduceNe])
              | ((first | apply condS_splitN | apply condS_split | apply guardS_splitTN | apply guardS_splitFN | apply guardD_splitTN | apply guardD_splitFN | apply guardS_splitT | apply guardS_splitF | apply guardD_splitT | apply guardD_splitF) <;> intro hc)
              | (refine callP0 rfl ?_)
              | (refine callD0 rfl ?_)
              | (refine cP (hCx) ?_)
              | (refine cD (hCx) ?_)
              | (refine cF (hCx) ?_)
              | fail)
            refine ⟨s + 1, hlt2, by omega, ?_⟩
            refine ⟨rfl, (by first | exact small_0 | exact small_mk rfl | (repeat (first | exact small_0 | exact small_mk rfl | refine small_upd rfl ?_ | refine small_sw rfl rfl ?_))), rfl, rfl, (by rfl), ?_, ?_⟩ <;> simp only [zw, swN, ElOk, HlOk, Nat.reduceEqDiff, Nat.reduceBEq, Nat.reduceLT, Nat.reduceLeDiff, reduceIte, reduceCtorEq, H0, AObj.cells.injEq]
          · have hz := hend (of_decide_eq_true q)
            replace hend := hide hend
            have hz2 : decide ((0 : Int) < (x.2.2.1.length : Int)) = false := dec_f (by omega)
            have hz3 : decide (0 < x.2.2.1.length) = false := dec_f (by omega)
            replace hz := hide hz
            repeat' (first
              | (simp -implicitDefEqProofs only [*, List.getElem?_map, Option.map_some, fNode, frStrs, zr, Nat.reduceAdd, Nat.reduceSub, Nat.reduceMul, Nat.reduceLT, Nat.reduceLeDiff, Nat.reduceEqDiff, Nat.reduceBEq, reduceIte, reduceCtorEq, Int.reduceLE, Int.reduceLT, Int.reduceToNat, Int.reduceEq, Int.reduceNe])
              | ((first | apply condS_splitN | apply condS_split | apply guardS_splitTN | apply guardS_splitFN | apply guardD_splitTN | apply guardD_splitFN | apply guardS_splitT | apply guardS_splitF | apply guardD_splitT | apply guardD_splitF) <;> intro hc)
              | (refine callP0 rfl ?_)
              | (refine callD0 rfl ?_)
              | (refine cP (hCx) ?_)
              | (refine cD (hCx) ?_)
              | (refine cF (hCx) ?_)
              | fail)
            refine ⟨s + 1, hlt2, by omega, ?_⟩
            refine ⟨rfl, (by first | exact small_0 | exact small_mk rfl | (repeat (first | exact small_0 | exact small_mk rfl | refine small_upd rfl ?_ | refine small_sw rfl rfl ?_))), rfl, rfl, (by rfl), ?_, ?_⟩ <;> simp only [zw, swN, ElOk, HlOk, Nat.reduceEqDiff, Nat.reduceBEq, Nat.reduceLT, Nat.reduceLeDiff, reduceIte, reduceCtorEq, H0, AObj.cells.injEq]
        · obtain rfl : s = g.length := by omega
          have g2 := lt_f hge2
          repeat' (first
            | (simp -implicitDefEqProofs only [*, zr, Nat.reduceAdd, Nat.reduceSub, Nat.reduceMul, Nat.reduceLT, Nat.reduceLeDiff, Nat.reduceEqDiff, Nat.reduceBEq, reduceIte, reduceCtorEq, Int.reduceLE, Int.reduceLT, Int.reduceToNat, Int.reduceEq, Int.reduceNe])
            | ((first | apply condS_splitN | apply condS_split | apply guardS_splitTN | apply guardS_splitFN | apply guardD_splitTN | apply guardD_splitFN | apply guardS_splitT | apply guardS_splitF | apply guardD_splitT | apply guardD_splitF) <;> intro hc)
            | (refine callP0 rfl ?_)
            | (refine callD0 rfl ?_)
            | fail)
          refine ax_loopU (S := Nat) 161 [0, 3, 4, 7, 8, 9] [] (fun s => [(14, .f (.int .i64 ((s + 1 : Nat) : Int)))]) (fun s => []) (fun s => s + 1 ≤ wl) (fun s => wl - s) (0) [] ?_ ?_ fun s hs => ?_
          · exact w2
          · refine ⟨rfl, (by first | exact small_0 | exact small_mk rfl | (repeat (first | exact small_0 | exact small_mk rfl | refine small_upd rfl ?_ | refine small_sw rfl rfl ?_))), rfl, rfl, (by rfl), ?_, ?_⟩ <;> simp only [zw, swN, ElOk, HlOk, Nat.reduceEqDiff, Nat.reduceBEq, Nat.reduceLT, Nat.reduceLeDiff, reduceIte, reduceCtorEq, H0, AObj.cells.injEq]
            rfl
          refine srun_sound 300 _ _ _ _ ?_
          clear g2
          rcases Nat.lt_or_ge (s + 1) wl with hlt3 | hge3
          · obtain ⟨v, hv⟩ := get_some (l := W) (i := s + 1) (by have := hwl.out; omega)
            obtain ⟨u, hu, hn2⟩ := w8'.out s v hv
            have hNx := hNd.out (labN g u) (labN g v)
            rw [hn2] at hNx
            have hXu := hXa.out s u hu
            have hXv := hXa.out (s + 1) v hv
            have g4 := inc64 hlt3 (by omega)
            have g2 := lt_t hlt3
            have g5 : IntKind.i64.wrap (((s + 1 : Nat) : Int) - 1) = (s : Int) := by rw [wrap64] <;> omega
            have g6 : decide (s < wl) = true := dec_t (by omega)
            replace hv := hide hv
            replace hu := hide hu
            repeat' (first
              | (simp -implicitDefEqProofs only [*, List.getElem?_map, Option.map_some, zr, Nat.reduceAdd, Nat.reduceSub, Nat.reduceMul, Nat.reduceLT, Nat.reduceLeDiff, Nat.reduceEqDiff, Nat.reduceBEq, reduceIte, reduceCtorEq, Int.reduceLE, Int.reduceLT, Int.reduceToNat, Int.reduceEq, Int.reduceNe])
              | ((first | apply condS_splitN | apply condS_split | apply guardS_splitTN | apply guardS_splitFN | apply guardD_splitTN | apply guardD_splitFN | apply guardS_splitT | apply guardS_splitF | apply guardD_splitT | apply guardD_splitF) <;> intro hc)
              | (refine callP0 rfl ?_)
              | (refine callD0 rfl ?_)
              | (refine cP (hNx) ?_)
              | (refine cD (hNx) ?_)
              | (refine cF (hNx) ?_)
              | fail)
            refine ⟨s + 1, by omega, by omega, ?_⟩
            refine ⟨rfl, (by first | exact small_0 | exact small_mk rfl | (repeat (first | exact small_0 | exact small_mk rfl | refine small_upd rfl ?_ | refine small_sw rfl rfl ?_))), rfl, rfl, (by rfl), ?_, ?_⟩ <;> simp only [zw, swN, ElOk, HlOk, Nat.reduceEqDiff, Nat.reduceBEq, Nat.reduceLT, Nat.reduceLeDiff, reduceIte, reduceCtorEq, H0, AObj.cells.injEq]
          · have g2 := lt_f hge3
            have e1 : decide (N = N) = true := dec_t rfl
            have e2 : decide ((wl : Int) = 0) = false := dec_f (by omega)
            have e3 : decide ((g.length : Int) = 0) = false := dec_f (by omega)
            repeat' (first
              | (simp -implicitDefEqProofs only [*, zr, Nat.reduceAdd, Nat.reduceSub, Nat.reduceMul, Nat.reduceLT, Nat.reduceLeDiff, Nat.reduceEqDiff, Nat.reduceBEq, reduceIte, reduceCtorEq, Int.reduceLE, Int.reduceLT, Int.reduceToNat, Int.reduceEq, Int.reduceNe])
              | ((first | apply condS_splitN | apply condS_split | apply guardS_splitTN | apply guardS_splitFN | apply guardD_splitTN | apply guardD_splitFN | apply guardS_splitT | apply guardS_splitF | apply guardD_splitT | apply guardD_splitF) <;> intro hc)
              | (refine callP0 rfl ?_)
              | (refine callD0 rfl ?_)
              | (refine cP (hA) ?_)
              | (refine cD (hA) ?_)
              | (refine cF (hA) ?_)
              | fail)
            exact ret_ve rfl
    · have hg0 : g = [] := List.eq_nil_of_length_eq_zero (by omega)
      rw [if_neg (fun h => hn h.2), if_neg (fun h => hn h.2)] at hL
      have hAl := hAb.1
      subst hg0
      have hA0 : aheadV [] = [] := List.eq_nil_of_length_eq_zero hAl
      rw [hA0] at hH
      replace hK := hide hK
      replace hAb := hide hAb
      clear hA0 hAl
      have d0 : decide (((0 : Nat) : Int) < ((0 : Nat) : Int)) = false := rfl
      have d1 : decide ((0 : Int) < ((0 : Nat) : Int)) = false := rfl
      have d2 : decide (0 < ([] : List (List FV)).length) = false := rfl
      have d3 : decide ((1 : Int) < ((0 : Nat) : Int)) = false := rfl
      unfold frNodes frI at *
      repeat' (first
        | (simp -implicitDefEqProofs only [*, List.map_nil, List.length_nil, zr, Nat.reduceAdd, Nat.reduceSub, Nat.reduceMul, Nat.reduceLT, Nat.reduceLeDiff, Nat.reduceEqDiff, Nat.reduceBEq, reduceIte, reduceCtorEq, Int.reduceLE, Int.reduceLT, Int.reduceToNat, Int.reduceEq, Int.reduceNe])
        | ((first | apply condS_splitN | apply condS_split | apply guardS_splitTN | apply guardS_splitFN | apply guardD_splitTN | apply guardD_splitFN | apply guardS_splitT | apply guardS_splitF | apply guardD_splitT | apply guardD_splitF) <;> intro hc)
        | (refine callP0 rfl ?_)
        | (refine callD0 rfl ?_)
        | (refine cP (hL) ?_)
        | (refine cD (hL) ?_)
        | (refine cF (hL) ?_)
        | (refine cP (hH) ?_)
        | (refine cD (hH) ?_)
        | (refine cF (hH) ?_)
        | fail)
      refine ax_loopU (S := Nat) 161 [0, 3, 4, 6, 7] [] (fun s => [(8, .f (.int .i64 0)), (9, .f (.int .i64 0)), (10, .f (.int .i64 0))]) (fun s => []) (fun s => True) (fun s => 0) (0) [] ?_ ?_ fun s hs => ?_
      · exact trivial
      · refine ⟨rfl, (by first | exact small_0 | exact small_mk rfl | (repeat (first | exact small_0 | exact small_mk rfl | refine small_upd rfl ?_ | refine small_sw rfl rfl ?_))), rfl, rfl, (by rfl), ?_, ?_⟩ <;> simp only [List.map_nil, zw, swN, ElOk, HlOk, Nat.reduceEqDiff, Nat.reduceBEq, Nat.reduceLT, Nat.reduceLeDiff, reduceIte, reduceCtorEq, H0, AObj.cells.injEq]
      refine srun_sound 300 _ _ _ _ ?_
      repeat' (first
        | (simp -implicitDefEqProofs only [*, List.map_nil, List.length_nil, zr, Nat.reduceAdd, Nat.reduceSub, Nat.reduceMul, Nat.reduceLT, Nat.reduceLeDiff, Nat.reduceEqDiff, Nat.reduceBEq, reduceIte, reduceCtorEq, Int.reduceLE, Int.reduceLT, Int.reduceToNat, Int.reduceEq, Int.reduceNe])
        | ((first | apply condS_splitN | apply condS_split | apply guardS_splitTN | apply guardS_splitFN | apply guardD_splitTN | apply guardD_splitFN | apply guardS_splitT | apply guardS_splitF | apply guardD_splitT | apply guardD_splitF) <;> intro hc)
        | (refine callP0 rfl ?_)
        | (refine callD0 rfl ?_)
        | fail)
      refine ax_loopU (S := Nat) 161 [0, 3, 4, 7, 8, 9] [] (fun s => [(11, .f (.int .i64 0))]) (fun s => []) (fun s => True) (fun s => 0) (0) [] ?_ ?_ fun s hs => ?_
      · exact trivial
      · refine ⟨rfl, (by first | exact small_0 | exact small_mk rfl | (repeat (first | exact small_0 | exact small_mk rfl | refine small_upd rfl ?_ | refine small_sw rfl rfl ?_))), rfl, rfl, (by rfl), ?_, ?_⟩ <;> simp only [List.map_nil, zw, swN, ElOk, HlOk, Nat.reduceEqDiff, Nat.reduceBEq, Nat.reduceLT, Nat.reduceLeDiff, reduceIte, reduceCtorEq, H0, AObj.cells.injEq]
      refine srun_sound 300 _ _ _ _ ?_
      repeat' (first
        | (simp -implicitDefEqProofs only [*, List.map_nil, List.length_nil, zr, Nat.reduceAdd, Nat.reduceSub, Nat.reduceMul, Nat.reduceLT, Nat.reduceLeDiff, Nat.reduceEqDiff, Nat.reduceBEq, reduceIte, reduceCtorEq, Int.reduceLE, Int.reduceLT, Int.reduceToNat, Int.reduceEq, Int.reduceNe])
        | ((first | apply condS_splitN | apply condS_split | apply guardS_splitTN | apply guardS_splitFN | apply guardD_splitTN | apply guardD_splitFN | apply guardS_splitT | apply guardS_splitF | apply guardD_splitT | apply guardD_splitF) <;> intro hc)
        | (refine callP0 rfl ?_)
        | (refine callD0 rfl ?_)
        | fail)
      refine ax_loopU (S := Nat) 161 [0, 3, 4, 7, 8, 9] [] (fun s => [(14, .f (.int .i64 1))]) (fun s => []) (fun s => True) (fun s => 0) (0) [] ?_ ?_ fun s hs => ?_
      · exact trivial
      · refine ⟨rfl, (by first | exact small_0 | exact small_mk rfl | (repeat (first | exact small_0 | exact small_mk rfl | refine small_upd rfl ?_ | refine small_sw rfl rfl ?_))), rfl, rfl, (by rfl), ?_, ?_⟩ <;> simp only [List.map_nil, zw, swN, ElOk, HlOk, Nat.reduceEqDiff, Nat.reduceBEq, Nat.reduceLT, Nat.reduceLeDiff, reduceIte, reduceCtorEq, H0, AObj.cells.injEq]
      refine srun_sound 300 _ _ _ _ ?_
      repeat' (first
        | (simp -implicitDefEqProofs only [*, List.map_nil, List.length_nil, zr, Nat.reduceAdd, Nat.reduceSub, Nat.reduceMul, Nat.reduceLT, Nat.reduceLeDiff, Nat.reduceEqDiff, Nat.reduceBEq, reduceIte, reduceCtorEq, Int.reduceLE, Int.reduceLT, Int.reduceToNat, Int.reduceEq, Int.reduceNe])
        | ((first | apply condS_splitN | apply condS_split | apply guardS_splitTN | apply guardS_splitFN | apply guardD_splitTN | apply guardD_splitFN | apply guardS_splitT | apply guardS_splitF | apply guardD_splitT | apply guardD_splitF) <;> intro hc)
        | (refine callP0 rfl ?_)
        | (refine callD0 rfl ?_)
        | (refine cP (hA) ?_)
        | (refine cD (hA) ?_)
        | (refine cF (hA) ?_)
        | fail)
      exact ret_ve rfl
  · rw [if_neg (fun h => h0 h.1), if_neg (fun h => h0 h.1)] at hL
    rw [if_neg h0] at hH
    have hd := dec_f h0
    generalize treeErr g = e at *
    repeat' (first
      | (simp -implicitDefEqProofs only [*, zr, Nat.reduceAdd, Nat.reduceSub, Nat.reduceMul, Nat.reduceLT, Nat.reduceLeDiff, Nat.reduceEqDiff, Nat.reduceBEq, reduceIte, reduceCtorEq, Int.reduceLE, Int.reduceLT, Int.reduceToNat, Int.reduceEq, Int.reduceNe])
      | ((first | apply condS_splitN | apply condS_split | apply guardS_splitTN | apply guardS_splitFN | apply guardD_splitTN | apply guardD_splitFN | apply guardS_splitT | apply guardS_splitF | apply guardD_splitT | apply guardD_splitF) <;> intro hc)
      | (refine callP0 rfl ?_)
      | (refine callD0 rfl ?_)
      | (refine cP (hL) ?_)
      | (refine cD (hL) ?_)
      | (refine cF (hL) ?_)
      | (refine cP (hH) ?_)
      | (refine cD (hH) ?_)
      | (refine cF (hH) ?_)
      | (refine cP (hA) ?_)
      | (refine cD (hA) ?_)
      | (refine cF (hA) ?_)
      | fail)
    exact ret_ve rfl
end Go.Proofs.YtaiajaibcpkceaaDoor
