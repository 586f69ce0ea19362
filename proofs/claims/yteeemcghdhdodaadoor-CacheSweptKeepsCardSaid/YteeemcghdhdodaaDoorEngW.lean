/-
  The abstract machine: calls that are handed a pointer to an object of one's own, and change it. No statement of the seat is proved here; no conditions.
-/
import Derived.Test.YteeemcghdhdodaaDoorEngV
namespace Go.Proofs.YteeemcghdhdodaaDoor
open Go.RowKit
set_option linter.unusedVariables false
set_option linter.unusedSimpArgs false

/-- A function that is handed a pointer to an object (number 100001) with these cells, objects for good (ri), and values that hang on nothing of one's own (tl); behind it the object has other cells. -/
def FRetP (P : Program) (f : FuncId) (pcs : List RC) (ri : List RS) (tl : List AV) (pcs' : List RC) (rs : List RS) : Prop :=
  FCall P f (.ptr 100001 1 0 :: (putS 80000 (nextCs 0 pcs) ri ++ tl)) (upd (putHs 80000 (nextCs 0 pcs) ri (putHcs 80000 0 pcs H0)) 100001 (1, some (.cells (putCs 80000 0 pcs))))
    (fun r H' => ∃ l cs', r = oneOrTup l ∧ H' 100001 = (1, some (.cells cs')) ∧ RcsOk H' pcs' cs' ∧ RsOk H' rs l ∧ (idsC cs' ++ idsS l).Nodup ∧ 100001 ∉ idsC cs' ++ idsS l)

theorem putHcs_at {t i : Nat} : ∀ {rs : List RC} {k : Nat} {H H2 : Heap}, H i = H2 i → putHcs t k rs H i = putHcs t k rs H2 i
  | [], _, _, _, h => h
  | .v _ :: rs, k, H, H2, h => putHcs_at (rs := rs) h
  | .own sz n cs :: rs, k, H, H2, h => putHcs_at (rs := rs) (by
    show upd H _ _ i = upd H2 _ _ i
    unfold upd; split
    · rfl
    · exact h)
theorem putHs_at {t i : Nat} : ∀ {rs : List RS} {k : Nat} {H H2 : Heap}, H i = H2 i → putHs t k rs H i = putHs t k rs H2 i
  | [], _, _, _, h => h
  | .c r :: rs, k, H, H2, h => putHs_at (rs := rs) (putHcs_at (rs := [r]) h)
  | .agg l :: rs, k, H, H2, h => putHs_at (rs := rs) (putHcs_at (rs := l) h)
theorem St.recell {P : Program} {G : Ghost} {H : Heap} {Z : Nat → Prop} {w : World} (st : St P G H Z w) {id ver g o : Nat} (hG : G id = (ver, some (some (g, o)))) {arr : Array Value} {e : TypeId} (hh : w.heap[g]? = some (.cells arr e (0, 0))) {cs : List AV} (hc : CellsR (RepA G Z w) arr o cs) :
    St P G (upd H id (ver, some (.cells cs))) Z w := by
  refine ⟨fun i => ?_, fun i h => ?_, fun i ob h => ?_, st.inj, st.disj, st.zlt, st.glt, st.ones⟩
  · by_cases e' : i = id
    · subst e'; rw [upd_same, hG]
    · rw [upd_ne _ _ _ _ e']; exact st.ver i
  · by_cases e' : i = id
    · subst e'; rw [upd_same] at h; cases h
    · rw [upd_ne _ _ _ _ e'] at h; exact st.dead i h
  · by_cases e' : i = id
    · subst e'
      rw [upd_same] at h
      obtain rfl := Option.some.inj h
      exact ⟨some (g, o), by rw [hG], arr, e, hh, hc⟩
    · rw [upd_ne _ _ _ _ e'] at h; exact st.obj i ob h
/-- Cells, by values of their own. -/
theorem cells_agg {G G' : Ghost} {Z Z' : Nat → Prop} {w w' : World} {cs cs' : List AV} (hrep : ∀ v, RepA G Z w (.agg cs) v → RepA G' Z' w' (.agg cs') v) {arr : Array Value} {o : Nat} (h : CellsR (RepA G Z w) arr o cs) : CellsR (RepA G' Z' w') arr o cs' := by
  obtain ⟨us, hus⟩ : ∃ us : List Value, us.length = cs.length ∧ ∀ j a, cs[j]? = some a → ∃ v, us[j]? = some v ∧ arr[o + j]? = some v ∧ v.oneCell' = true ∧ RepA G Z w a v := by
    refine ⟨(List.range cs.length).map fun j => arr.getD (o + j) undef, by simp, fun j a ha => ?_⟩
    obtain ⟨v, h1, h2, h3⟩ := h j a ha
    have hj := (List.getElem?_eq_some_iff.1 ha).1
    refine ⟨v, ?_, h1, h2, h3⟩
    rw [List.getElem?_map, List.getElem?_range hj, Option.map_some, Array.getD_eq_getD_getElem?, h1]; rfl
  obtain ⟨hl, hu⟩ := hus
  have hone : ∀ (j : Nat) (u : Value), us[j]? = some u → ∃ a, cs[j]? = some a ∧ arr[o + j]? = some u ∧ u.oneCell' = true ∧ RepA G Z w a u := fun j u hju => by
    have hj := (List.getElem?_eq_some_iff.1 hju).1
    obtain ⟨v, g1, g2⟩ := hu j _ (List.getElem?_eq_getElem (by omega))
    rw [hju] at g1; obtain rfl := Option.some.inj g1
    exact ⟨_, List.getElem?_eq_getElem (by omega), g2⟩
  have h1 := hrep (.agg us.toArray) (.agg cs us.toArray (by simp [hl]) (fun j u hju => (hone j u (by simpa using hju)).elim fun _ h => h.2.2.1) (fun j a u ha hju => by
    obtain ⟨a', g1, _, _, g4⟩ := hone j u (by simpa using hju)
    rw [ha] at g1; obtain rfl := Option.some.inj g1
    exact g4))
  intro j a ha
  cases h1 with
  | agg _ _ k1 k2 k3 =>
    have hj := (List.getElem?_eq_some_iff.1 ha).1
    have hjs : us[j]? = some (us[j]'(by simp at k1; omega)) := List.getElem?_eq_getElem _
    obtain ⟨_, _, g2, g3, _⟩ := hone j _ hjs
    exact ⟨_, g2, g3, k3 j a _ ha (by simp)⟩

section
variable {P : Program} {t : Nat}
theorem call_pm {f : FuncId} {id ver : Nat} {cs l tl0 tl : List AV} {H : Heap} {pcs pcs' : List RC} {ri rs : List RS} (hF : FRetP P f pcs ri tl pcs' rs) (hc : cellsOf ver (H id) = some cs) (hpc : RcsOk H pcs cs) (hri : RsOk H ri l) (hnd : (idsC cs ++ idsS l).Nodup) (hni : id ∉ idsC cs ++ idsS l)
    (htl : LeL tl0 tl) (hp : tl.all AV.pure = true) (hfree : ∀ j, H (t + 1000 * j) = (0, none)) :
    ACall P f (.ptr id ver 0 :: (l ++ tl0)) H (fun r H' => r = oneOrTup (putS t (nextCs 0 pcs') rs) ∧ H' = upd (putHs t (nextCs 0 pcs') rs (putHcs t 0 pcs' (killL (idsC cs ++ idsS l) H))) id (ver, some (.cells (putCs t 0 pcs')))) := by
  refine ⟨hF.1, fun G Z w vs st hsz hrep => ?_⟩
  obtain ⟨loc, hG, hob, hH⟩ := st.cells hc
  have hidt : ∀ j, id ≠ t + 1000 * j := fun j e => by rw [e, hfree j] at hH; cases hH
  simp only [List.length_cons, List.length_append] at hsz
  have hv0 : vs[0]? = some (vs[0]'(by omega)) := Array.getElem?_eq_getElem _
  obtain ⟨g0, o0, rfl, hp0⟩ := (hrep 0 _ _ rfl hv0).ptr_ hG
  obtain ⟨arr0, e0, hh0, hcc0⟩ := hob
  generalize hids : idsC cs ++ idsS l = ids at *
  have bk0 : Back2 P G H Z Z w (fun _ => true) (fun _ => (0, none)) (fun _ => False) := ⟨st, fun _ h => h, fun _ _ _ h => h, fun b ⟨_, _, h⟩ => by cases h⟩
  have ow0 : Own2 P G (fun _ => (0, none)) Z w 80000 0 [] (fun _ => (0, none)) H0 :=
    ⟨⟨fun _ => rfl, fun _ _ => rfl, fun id o h => (by cases h), fun _ _ _ _ _ h => (by cases h), fun _ _ _ h => (by cases h), st.zlt, fun _ _ _ h => (by cases h), fun _ _ _ h => (by cases h)⟩, fun _ _ => rfl, fun b hb => .inl hb⟩
  obtain ⟨Gc1, used, ow, hus, _, hels, hl1, hl2, hrep'⟩ := own2_ss bk0 (.agg pcs :: ri) (.agg cs :: l) ow0 ⟨hpc, hri⟩ (all_true _) (by show (idsC cs ++ idsS l).Nodup; rw [hids]; exact hnd) (fun id _ => ⟨fun h => (by cases h), fun h => h⟩)
  replace hus : ∀ id ∈ used, id ∈ ids := fun id h => by rw [← hids]; exact (hus id h).resolve_right (fun h => by cases h)
  have lvc1 : ∀ b, LiveB Gc1 b → ∃ id ∈ ids, ∃ o, (G id).2 = some (some (b, o)) := fun b hb => by
    rcases ow.lv b hb with ⟨_, _, h⟩ | ⟨id, h1, h2⟩
    · cases h
    · exact ⟨id, hus id h1, h2⟩
  have hg1 : Gc1 100001 = (0, none) := hels 100001 (fun j => by omega)
  have hd1 : putHs 80000 0 (.agg pcs :: ri) H0 100001 = (0, none) := by
    have h1 := ow.st.ver 100001
    rw [hg1] at h1
    refine Prod.ext h1.symm ?_
    cases h2 : (putHs 80000 0 (.agg pcs :: ri) H0 100001).2 with
    | none => rfl
    | some o =>
      obtain ⟨loc, h3, _⟩ := ow.st.obj 100001 o h2
      rw [hg1] at h3; cases h3
  have hng0 : ¬ LiveB Gc1 g0 := fun h => by
    obtain ⟨id2, h1, o2, h2⟩ := lvc1 g0 h
    have := st.inj _ _ _ _ _ (by rw [hG] : (G id).2 = some (some (g0, o0))) h2
    subst this; exact hni h1
  obtain ⟨stc, kc⟩ := ow.st.adopt2 hd1 (cs := putCs 80000 0 pcs) (loc := some (g0, o0)) ⟨heap_lt hh0, st.disj id g0 o0 (by rw [hG]), hng0, arr0, e0, hh0, cells_agg (fun v hv => hrep' 0 _ _ v rfl rfl hv) hcc0, st.ones id g0 o0 (by rw [hG]) _ _ _ hh0⟩
  have lvc : ∀ b, LiveB (upd Gc1 100001 (1, some (some (g0, o0)))) b → b = g0 ∨ ∃ id ∈ ids, ∃ o, (G id).2 = some (some (b, o)) := fun b ⟨id', o, h⟩ => by
    by_cases e : id' = 100001
    · subst e; rw [upd_same] at h
      simp only [Option.some.injEq, Prod.mk.injEq] at h
      exact .inl h.1.symm
    · rw [upd_ne _ _ _ _ e] at h
      exact .inr (lvc1 b ⟨id', o, h⟩)
  have hlen : (putS 80000 (nextCs 0 pcs) ri).length = l.length := by
    have h1 : (putS 80000 (nextCs 0 pcs) ri).length + 1 = ri.length + 1 := hl2
    have h2 : l.length + 1 = ri.length + 1 := hl1
    omega
  obtain ⟨q1, q2⟩ := htl.rep (us := vs.extract (l.length + 1) vs.size) (G := G) (Z := Z) (w := w) (fun j a u ha hu => hrep (l.length + 1 + j) a u (by
      rw [show l.length + 1 + j = (l.length + j) + 1 by omega, List.getElem?_cons_succ, List.getElem?_append_right (by omega)]; simpa using ha) (by
    rw [Array.getElem?_extract] at hu
    split at hu
    · exact hu
    · cases hu))
  generalize hGc : upd Gc1 100001 (1, some (some (g0, o0))) = Gc at *
  have hGc1 : Gc 100001 = (1, some (some (g0, o0))) := by rw [← hGc, upd_same]
  refine (hF.2 Gc Z w vs stc (by simp only [List.length_cons, List.length_append, hlen, q1]; omega) fun j a v ha hv => ?_).mono fun e w1 ⟨v, r, H1, G1, Z1, e1, ⟨l1, cs1, hl, hp1, hrc, hrs, hnd1, hni1⟩, st1, hh, hr⟩ => ?_
  · cases j with
    | zero =>
      rw [hv0] at hv
      simp only [List.getElem?_cons_zero, Option.some.injEq] at ha hv
      subst ha hv
      rw [hp0]
      exact .ptrLive _ _ _ g0 o0 hGc1
    | succ j =>
      rw [List.getElem?_cons_succ] at ha
      rcases Nat.lt_or_ge j l.length with hj | hj
      · rw [List.getElem?_append_left (by omega)] at ha
        exact (hrep' (j + 1) _ a v (List.getElem?_eq_getElem (by simp; omega)) ha (hrep (j + 1) _ v (by rw [List.getElem?_cons_succ, List.getElem?_append_left hj]; exact List.getElem?_eq_getElem hj) hv)).keep kc
      · rw [List.getElem?_append_right (by omega), hlen] at ha
        refine (q2 (j - l.length) a v ha ?_).pure_ (fun b hb => ⟨hb, rfl⟩) (List.all_eq_true.1 hp a (List.mem_of_getElem? ha))
        have hjs := (Array.getElem?_eq_some_iff.1 hv).1
        rw [Array.getElem?_extract, if_pos (by omega), show l.length + 1 + (j - l.length) = j + 1 by omega]; exact hv
  have hG1 : G1 100001 = (1, some (some (g0, o0))) := by
    have h1 : (G1 100001).1 = 1 := by rw [st1.ver, hp1]
    obtain ⟨loc', h2, _⟩ := st1.obj 100001 _ (by rw [hp1])
    rcases hh.same 100001 (by omega) (by rw [h1, hGc1]) with h3 | h3
    · rw [h3] at h2; cases h2
    · exact Prod.ext h1 (by rw [h3, hGc1])
  obtain ⟨arr1, e2, hh1, hcc1⟩ : ∃ (arr : Array Value) (e : TypeId), w1.heap[g0]? = some (.cells arr e (0, 0)) ∧ CellsR (RepA G1 Z1 w1) arr o0 cs1 := by
    obtain ⟨loc', h2, h3⟩ := st1.obj 100001 _ (by rw [hp1])
    rw [hG1] at h2
    obtain rfl := Option.some.inj h2
    exact h3
  have hz1 : ∀ b, Z1 b → Z b ∨ LiveB Gc b ∨ w.heap.size ≤ b := hh.zout
  let G2 : Ghost := fun id => if id ∈ ids then ((G id).1, none) else G id
  have g2in : ∀ id, id ∈ ids → G2 id = ((G id).1, none) := fun id h => if_pos h
  have g2out : ∀ id, id ∉ ids → G2 id = G id := fun id h => if_neg h
  have g2l : ∀ id g o, (G2 id).2 = some (some (g, o)) → id ∉ ids ∧ (G id).2 = some (some (g, o)) := fun id g o h => by
    by_cases e : id ∈ ids
    · rw [g2in id e] at h; cases h
    · rw [g2out id e] at h; exact ⟨e, h⟩
  have nc : ∀ id' g o, id' ∉ ids → id' ≠ id → (G id').2 = some (some (g, o)) → ¬ LiveB Gc g := fun id' g o h1 hne h2 hl => by
    rcases lvc g hl with rfl | ⟨id2, h3, o2, h4⟩
    · exact hne (st.inj _ _ _ _ _ h2 (by rw [hG]))
    · have := st.inj _ _ _ _ _ h2 h4
      subst this; exact h1 h3
  have hz2 : ∀ b, Z1 b → ¬ LiveB G2 b := fun b hb ⟨id', o, hl⟩ => by
    obtain ⟨n1, n2⟩ := g2l _ _ _ hl
    by_cases e : id' = id
    · subst e
      rw [hG] at n2
      simp only [Option.some.injEq, Prod.mk.injEq] at n2
      obtain ⟨rfl, rfl⟩ := n2
      exact st1.disj 100001 g0 o0 (by rw [hG1]) hb
    · rcases hz1 b hb with h | h | h
      · exact st.disj _ _ _ n2 h
      · exact nc _ _ _ n1 e n2 h
      · have := st.glt _ _ _ n2; omega
  have old : ∀ b, b < w.heap.size → ¬ LiveB Gc b → w1.heap[b]? = w.heap[b]? := hh.old
  have hk : Keep G Z w G2 Z1 w1 := by
    refine ⟨hh.zin, fun id => ?_, fun id _ => ?_, fun b arr e fz hlb h => ?_⟩
    · by_cases e : id ∈ ids
      · rw [g2in id e]; exact Nat.le_refl _
      · rw [g2out id e]; exact Nat.le_refl _
    · by_cases e : id ∈ ids
      · rw [g2in id e]; exact .inl rfl
      · rw [g2out id e]; exact .inr rfl
    · by_cases hc : LiveB Gc b
      · exact hh.room b arr e fz hc h
      · exact ⟨arr, e, fz, by rw [old b (heap_lt h) hc]; exact h, rfl⟩
  have st2 : St P G2 (upd (killL ids H) id (ver, some (.cells []))) Z1 w1 := by
    refine ⟨fun i => ?_, fun i h => ?_, fun i o h => ?_, fun i1 i2 g o1 o2 h1 h2 => st.inj _ _ _ _ _ (g2l _ _ _ h1).2 (g2l _ _ _ h2).2, fun i g o h hz => hz2 g hz ⟨i, o, h⟩, st1.zlt, fun i g o h => Nat.lt_of_lt_of_le (st.glt _ _ _ (g2l _ _ _ h).2) hh.size, fun i g o h => ?_⟩
    · by_cases ei : i = id
      · subst ei; rw [upd_same, g2out _ hni, hG]
      · rw [upd_ne _ _ _ _ ei, kill_at]
        by_cases e : i ∈ ids
        · rw [g2in i e, if_pos e]; exact st.ver i
        · rw [g2out i e, if_neg e]; exact st.ver i
    · by_cases ei : i = id
      · subst ei; rw [upd_same] at h; cases h
      · rw [upd_ne _ _ _ _ ei, kill_at] at h
        by_cases e : i ∈ ids
        · rw [g2in i e]
        · rw [g2out i e]; rw [if_neg e] at h; exact st.dead i h
    · by_cases ei : i = id
      · subst ei
        rw [upd_same] at h
        obtain rfl := Option.some.inj h
        exact ⟨some (g0, o0), by rw [g2out _ hni, hG], arr1, e2, hh1, fun j a h => by simp at h⟩
      · rw [upd_ne _ _ _ _ ei, kill_at] at h
        by_cases e : i ∈ ids
        · rw [if_pos e] at h; cases h
        · rw [if_neg e] at h
          rw [g2out i e]
          obtain ⟨loc, k1, k2⟩ := st.obj i o h
          refine ⟨loc, k1, ?_⟩
          cases loc with
          | none => cases o <;> exact k2
          | some q =>
            obtain ⟨g, ob⟩ := q
            have hb := old g (st.glt _ _ _ k1) (nc _ _ _ e ei k1)
            cases o with
            | cells cs =>
              obtain ⟨arr, e, k3, k4⟩ := k2
              exact ⟨arr, e, hb.trans k3, k4.mono fun a v hr => hr.keep hk⟩
            | map m =>
              obtain ⟨k3, es, clock, k4, k5⟩ := k2
              exact ⟨k3, es, clock, hb.trans k4, k5⟩
    · obtain ⟨n1, n2⟩ := g2l _ _ _ h
      by_cases ei : i = id
      · subst ei
        rw [hG] at n2
        simp only [Option.some.injEq, Prod.mk.injEq] at n2
        obtain ⟨rfl, rfl⟩ := n2
        exact st1.ones 100001 g0 o0 (by rw [hG1])
      · exact (st.ones _ _ _ n2).same (old g (st.glt _ _ _ n2) (nc _ _ _ n1 ei n2))
  have lvg : ∀ b, LiveB Gc b → LiveB G b := fun b hb => by
    rcases lvc b hb with rfl | ⟨id, _, o, h2⟩
    · exact ⟨id, o0, by rw [hG]⟩
    · exact ⟨id, o, h2⟩
  have lv1 : ∀ b, LiveB G1 b → LiveB G b ∨ w.heap.size ≤ b := fun b hb => (hh.live b hb).imp (lvg b) (fun h => h)
  have lv2 : ∀ b, LiveB G2 b → LiveB G b := fun b ⟨id, o, h⟩ => ⟨id, o, (g2l _ _ _ h).2⟩
  have bk2 : Back2 P G1 H1 Z1 Z1 w1 (fun _ => true) G2 (fun i => i = 100001) := ⟨st1, fun _ h => h, fun _ _ _ h => h, fun b ⟨id', o, h⟩ i o' h' => by
    obtain ⟨n1, n2⟩ := g2l _ _ _ h
    by_cases ei : id' = id
    · subst ei
      rw [hG] at n2
      simp only [Option.some.injEq, Prod.mk.injEq] at n2
      obtain ⟨rfl, rfl⟩ := n2
      exact st1.inj _ _ _ _ _ h' (by rw [hG1])
    · rcases hh.live b ⟨i, o', h'⟩ with h3 | h3
      · exact absurd h3 (nc _ _ _ n1 ei n2)
      · have := st.glt _ _ _ n2; omega⟩
  have ow2 : Own2 P G1 G2 Z1 w1 t 0 [] G2 (upd (killL ids H) id (ver, some (.cells []))) := ⟨st2, fun j _ => by rw [upd_ne _ _ _ _ (Ne.symm (hidt j)), kill_at, hfree j]; split <;> rfl, fun b hb => .inl hb⟩
  obtain ⟨G', used', ow', hus', hk', hels', hl1', hl2', hrep2⟩ := own2_ss bk2 (.agg pcs' :: rs) (.agg cs1 :: l1) ow2 ⟨hrc, hrs⟩ (all_true _) hnd1 (fun i hi => ⟨fun h => (by cases h), fun h => hni1 (h ▸ hi)⟩)
  have hG' : G' id = (ver, some (some (g0, o0))) := by rw [hels' id hidt, g2out _ hni, hG]
  have st3 := ow'.st.recell hG' hh1 (cs := putCs t 0 pcs') (cells_agg (fun v hv => hrep2 0 _ _ v rfl rfl hv) hcc1)
  have hHeq : upd (putHs t 0 (.agg pcs' :: rs) (upd (killL ids H) id (ver, some (.cells [])))) id (ver, some (.cells (putCs t 0 pcs'))) = upd (putHs t (nextCs 0 pcs') rs (putHcs t 0 pcs' (killL ids H))) id (ver, some (.cells (putCs t 0 pcs'))) := by
    funext i
    by_cases ei : i = id
    · subst ei; rw [upd_same, upd_same]
    · rw [upd_ne _ _ _ _ ei, upd_ne _ _ _ _ ei]
      exact putHs_at (rs := .agg pcs' :: rs) (upd_ne _ _ _ _ ei)
  rw [hHeq] at st3
  refine ⟨v, _, _, G', _, e1, ⟨rfl, rfl⟩, st3, ?_, ?_⟩
  · refine ⟨⟨fun b hb => hh.zin b hb, fun id => Nat.le_trans (hk.ver id) (hk'.ver id), fun id e => ?_, fun b arr e fz hl h => hk.room b arr e fz hl h⟩, hh.os, hh.tape, hh.output, hh.size, fun b hb hn => old b hb fun hc => hn (lvg b hc), fun b hb => ?_, fun b hb => ?_⟩
    · have a1 := hk.ver id
      have a2 := hk'.ver id
      rcases hk'.same id (by omega) with h3 | h3
      · exact .inl h3
      · rcases hk.same id (by omega) with h4 | h4
        · exact .inl (h3.trans h4)
        · exact .inr (h3.trans h4)
    · rcases hz1 b hb with h | h | h
      · exact .inl h
      · exact .inr (.inl (lvg b h))
      · exact .inr (.inr h)
    · rcases ow'.lv b hb with h | ⟨id, _, o, h⟩
      · exact .inl (lv2 b h)
      · exact lv1 b ⟨id, o, h⟩
  · rw [hl] at hr
    have hne : ∀ {l : List AV}, l.length ≠ 1 → oneOrTup l = .tup l := by
      intro l h
      rcases l with _ | ⟨a, _ | ⟨b, l⟩⟩
      · rfl
      · exact absurd rfl h
      · rfl
    have hl3 : (putS t (nextCs 0 pcs') rs).length = rs.length := by
      have h1 : (putS t (nextCs 0 pcs') rs).length + 1 = rs.length + 1 := hl2'
      omega
    have hl4 : l1.length = rs.length := by
      have h1 : l1.length + 1 = rs.length + 1 := hl1'
      omega
    by_cases h1 : l1.length = 1
    · obtain ⟨a, rfl⟩ := List.length_eq_one_iff.1 h1
      obtain ⟨b, hb⟩ := List.length_eq_one_iff.1 (by rw [hl3, ← hl4, h1] : (putS t (nextCs 0 pcs') rs).length = 1)
      rw [hb]
      exact hrep2 1 a b v rfl (by show (putS t (nextCs 0 pcs') rs)[0]? = some b; rw [hb]; rfl) hr
    · rw [hne h1] at hr
      rw [hne (by rw [hl3, ← hl4]; exact h1)]
      obtain ⟨us, rfl, g1, g3⟩ := hr.tup_
      refine .tup _ us (by omega) fun j b u hb hu => ?_
      have hj := (List.getElem?_eq_some_iff.1 hb).1
      have hx' : l1[j]? = some l1[j] := List.getElem?_eq_getElem (by omega)
      exact hrep2 (j + 1) _ b u hx' hb (g3 j _ u hx' hu)
end
section
variable {P : Program} {R : Env → Heap → Prop} {Λ : Lams} {k : List It} {env : Env} {H : Heap} {d : Nat} {f : Operand} {args : List Operand} {g : Option (Nat × Bool)} {los : List LO} {fid : FuncId} {tl : List AV} {ri rs : List RS} {pcs pcs' : List RC}
theorem callPm (hg : gd g env = some true) (hF : FRetP P fid pcs ri tl pcs' rs) (hfn : evA env f = .f (.fn (.func fid))) (id ver : Nat) (cs l tl0 : List AV) (ha : args.map (evA env) = .ptr id ver 0 :: (l ++ tl0)) (hc : cellsOf ver (H id) = some cs) (hpc : RcsOk H pcs cs) (hri : RsOk H ri l) (hnd : (idsC cs ++ idsS l).Nodup) (hni : id ∉ idsC cs ++ idsS l) (htl : LeL tl0 tl) (hp : tl.all AV.pure = true) (hfree : Free d H)
    (h : srun P R 300 Λ (.ops los :: k) (putE env (some d) (oneOrTup (putS d (nextCs 0 pcs') rs))) (upd (putHs d (nextCs 0 pcs') rs (putHcs d 0 pcs' (killL (idsC cs ++ idsS l) H))) id (ver, some (.cells (putCs d 0 pcs'))))) : Ax P R Λ (.ops (⟨some d, .call f args, g⟩ :: los) :: k) env H :=
  ax_call (f := f) (args := args) rfl hg (Q := fun r H' => r = oneOrTup (putS d (nextCs 0 pcs') rs) ∧ H' = upd (putHs d (nextCs 0 pcs') rs (putHcs d 0 pcs' (killL (idsC cs ++ idsS l) H))) id (ver, some (.cells (putCs d 0 pcs')))) (by rw [hfn, ha]; exact call_pm (t := d) hF hc hpc hri hnd hni htl hp hfree) fun v H' hq => by obtain ⟨h1, h2⟩ := hq; subst h1 h2; exact srun_sound 300 _ _ _ _ h
end
end Go.Proofs.YteeemcghdhdodaaDoor
