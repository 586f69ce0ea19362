/-
  slices.SortFunc at spans, as a call of the machine. No statement of the seat is proved here; no conditions.
-/
import Derived.Test.YteoojplgchlhcaaRgB
import Derived.Test.YteoojplgchlhcaaSortSp
import Derived.Shelf.SlSortCmp.NoneTotal
namespace Go.Proofs.Yteoojplgchlhcaa
open Go.RowKit Go.Sort
set_option linter.unusedVariables false
set_option linter.unusedSimpArgs false

theorem fSp_enc (l : List Span) : ∀ (j : Nat) (x : FV), (flSp l)[j]? = some x → ∃ n, x = .int .i64 n ∧ (l.flatMap encS)[j]? = some (.int .i64 n) := by
  induction l with
  | nil => intro j x h; simp [flSp] at h
  | cons y r ih =>
    intro j x h
    simp only [flSp, List.flatMap_cons] at h ih ⊢
    rcases j with _ | _ | j
    · simp [fSp] at h; subst h; exact ⟨_, rfl, by simp [encS]⟩
    · simp [fSp] at h; subst h; exact ⟨_, rfl, by simp [encS]⟩
    · obtain ⟨n, h1, h2⟩ := ih j x (by simpa [fSp] using h)
      exact ⟨n, h1, by simpa [encS] using h2⟩
set_option maxHeartbeats 2000000 in
theorem sort_call {H : Heap} {id ver : Nat} (l : List Span) (hc : H id = (ver, some (.cells ((flSp l).map .f)))) (hB : ∀ x ∈ l, inB x) (hn : l.length ≤ 20000) :
    ACall Try.prog 34 [.sl id ver 2 0 l.length, .f (.fn (.func 35))] H (fun r H' => r = .tup [] ∧ ∃ l', l'.Perm l ∧ ByFrom l' ∧ H' = upd H id (ver, some (.cells ((flSp l').map .f)))) := by
  refine ⟨by kernel_rfl, fun G Z w vs st hsz hrep => ?_⟩
  have hcc : cellsOf ver (H id) = some ((flSp l).map .f) := by rw [hc]; simp [cellsOf]
  obtain ⟨loc, hG, hob, _⟩ := st.cells hcc
  obtain ⟨v0, hv0⟩ : ∃ v, vs[0]? = some v := ⟨_, Array.getElem?_eq_getElem (by rw [hsz]; simp)⟩
  obtain ⟨v1, hv1⟩ : ∃ v, vs[1]? = some v := ⟨_, Array.getElem?_eq_getElem (by rw [hsz]; simp)⟩
  have h0 := hrep 0 _ v0 rfl hv0
  have h1 := (hrep 1 _ v1 rfl hv1).fn_
  have hvs : vs = #[v0, v1] := by
    apply Array.ext_getElem?
    intro i
    rcases i with _ | _ | i
    · rw [hv0]; rfl
    · rw [hv1]; rfl
    · rw [Array.getElem?_eq_none (by rw [hsz]; simp), Array.getElem?_eq_none (by simp)]
  subst hvs h1
  rcases h0.sl_ hG with ⟨hl0, A, rfl⟩ | ⟨g, o, c, rfl, rfl, hc1, hc2, arr', e', fz', hh', hroom⟩
  · have e := List.eq_nil_of_length_eq_zero hl0
    subst e
    have hcon := AnyF.slices_SortFunc_none Try.sortSpan A 0 (.func (.func 35) #[] #[]) w
    change Calls Try.prog 34 _ _ _ at hcon
    refine hcon.mono ?_
    rintro e w' ⟨rfl, rfl⟩
    exact ⟨_, .tup [], H, G, Z, rfl, ⟨rfl, [], .refl _, fun i j x y _ hx => by simp at hx, (upd_self _ _ _ hc).symm⟩, st, Step.refl _ _ _, .tup _ _ rfl (fun j a u h => by simp at h)⟩
  · obtain ⟨arr, et, hh, hcr⟩ := hob
    have hg : g < w.heap.size := heap_lt hh
    obtain ⟨d, rfl⟩ := lift_B l hB
    have hlen : ((d.map (·.1)).flatMap encS).length = 2 * d.length := by rw [encS_len]; simp
    have hHold : HoldsK encB 2 w g (o + 0 * 2) d.toArray := by
      intro j hj
      have hj2 : j < d.length * 2 := by simpa using hj
      have hx : (flSp (d.map (·.1)))[j]? = some ((flSp (d.map (·.1)))[j]'(by rw [flSp_len]; simp; omega)) := List.getElem?_eq_getElem _
      obtain ⟨n, h2, h3⟩ := fSp_enc _ j _ hx
      obtain ⟨u, h4, h5, h6⟩ := hcr j _ (by rw [List.getElem?_map, hx]; rfl)
      rw [h2] at h6
      obtain rfl := h6.int_
      refine ⟨?_, by simp [World.frozen?, hh]⟩
      rw [cell_of_row w g _ arr et (0, 0) hh, show o + 0 * 2 + j = o + j by omega, h4]
      rw [flat_val, ← flatK_list (enc := encB) (k := 2) (fun _ => rfl), Array.getElem?_toList, Array.getElem?_eq_getElem hj] at h3
      rw [getElem!_pos _ j hj]
      exact h3.symm
    have eg : ∀ args w, (callFunc 35 args).run Try.prog w = .ok (.enter 35 args) w := enters_of Try.func35 (by kernel_rfl) rfl
    simp only [List.length_map] at hn ⊢
    have hcon := AnyQ.slices_SortFunc Try.sortSpan 2 Try.isAgg55 Try.sizeOf55 encB (fun _ => rfl) (fun x v hv => by simp [encB, encS] at hv; rcases hv with rfl | rfl <;> rfl) cfB swoB 35 #[] g (o + 0 * 2) c d.toArray w eg (cmpLaysB g (o + 0 * 2) d.toArray.size w) hHold hg (by simp; omega)
    change Calls Try.prog 34 _ _ _ at hcon
    refine hcon.mono ?_
    rintro e w' ⟨he, d', n, os, ⟨p1, p2, p3⟩, hs, rfl⟩
    have hsz : d'.size = d.length := by simpa using p1
    have hp : d'.toList.Perm d := by
      have h : (List.take d.length d'.toList).Perm d := by simpa using p3
      rwa [List.take_of_length_le (by rw [Array.length_toList, hsz]; exact Nat.le_refl _)] at h
    have hW : (Go.Proofs.sortWorldK encB 2 w g (o + 0 * 2) n d' os).heap[g]? = some (.cells (putCells _root_.id (o + 0 * 2) (flatK encB 2 d') arr) et (0, 0)) := by
      show (w.heap.modify g (onCells (putCells _root_.id (o + 0 * 2) (flatK encB 2 d'))) ++ os)[g]? = _
      rw [Array.getElem?_append_left (by simpa using hg), Array.getElem?_modify, if_pos rfl, hh]
      rfl
    have hO : Only g w (Go.Proofs.sortWorldK encB 2 w g (o + 0 * 2) n d' os) := by
      refine ⟨rfl, rfl, rfl, ?_, fun b hb hne => ?_, fun arr1 e1 fz1 h1 => ⟨_, _, _, hW, ?_⟩⟩
      · show w.heap.size ≤ (w.heap.modify g (onCells (putCells _root_.id (o + 0 * 2) (flatK encB 2 d'))) ++ os).size
        simp
      · show (w.heap.modify g (onCells (putCells _root_.id (o + 0 * 2) (flatK encB 2 d'))) ++ os)[b]? = _
        rw [Array.getElem?_append_left (by simpa using hb), Array.getElem?_modify, if_neg (fun e => hne (by rw [e]))]
      · rw [hh] at h1
        simp only [Option.some.injEq, Obj.cells.injEq] at h1
        rw [← h1.1]; simp [putCells]
    have hl' : (d'.toList.map (·.1)).length = d.length := by simp [hsz]
    obtain ⟨s1, s2⟩ := st.change id g hO (ver, some (some (g, o))) (ver, some (.cells ((flSp (d'.toList.map (·.1))).map .f))) (.inr ⟨o, by rw [hG]⟩) (.inl (Nat.lt_of_lt_of_le hg hO.size)) rfl (by rw [hc]; exact Nat.le_refl _) (fun _ => .inr (by rw [hG])) (.inr (.inr ⟨o, rfl⟩)) (fun h => by cases h) (fun o' ho' => by
      obtain rfl := Option.some.inj ho'
      refine ⟨_, rfl, fun _ => ⟨_, et, hW, fun j a hj => ?_⟩⟩
      rw [List.getElem?_map] at hj
      obtain ⟨x, hx, rfl⟩ := Option.map_eq_some_iff.1 hj
      have hjl := (List.getElem?_eq_some_iff.1 hx).1
      rw [flSp_len, hl'] at hjl
      obtain ⟨k, rfl, h3⟩ := fSp_enc _ j _ hx
      have hxo : ((flSp (d.map (·.1))).map AV.f)[j]? = some (((flSp (d.map (·.1))).map AV.f)[j]'(by rw [List.length_map, flSp_len]; simp; omega)) := List.getElem?_eq_getElem _
      obtain ⟨u, h4, _, _⟩ := hcr j _ hxo
      have hfs : (flatK encB 2 d').size = d.length * 2 := by simp [hsz]
      rw [flat_val, ← flatK_list (enc := encB) (k := 2) (fun _ => rfl), Array.toArray_toList, Array.getElem?_toList, Array.getElem?_eq_getElem (by omega)] at h3
      refine ⟨.int .i64 k, ?_, rfl, .f (.int _ _)⟩
      unfold putCells
      rw [Array.getElem?_mapIdx, h4, Option.map_some, if_pos ⟨by omega, by omega⟩, show o + j - (o + 0 * 2) = j by omega, getElem!_pos _ j (by omega)]
      exact h3)
    refine ⟨_, .tup [], _, _, Z, he, ⟨rfl, d'.toList.map (·.1), hp.map _, ?_, rfl⟩, s1, s2, .tup _ _ rfl (fun j a u h => by simp at h)⟩
    intro i j x y hij hx hy
    rw [List.getElem?_map] at hx hy
    obtain ⟨x', hx', rfl⟩ := Option.map_eq_some_iff.1 hx
    obtain ⟨y', hy', rfl⟩ := Option.map_eq_some_iff.1 hy
    obtain ⟨hi, hx''⟩ := List.getElem?_eq_some_iff.1 hx'
    obtain ⟨hj, hy''⟩ := List.getElem?_eq_some_iff.1 hy'
    have hj2 : j < d'.size := by simpa using hj
    have h := hs i j (Nat.zero_le _) hij (by simp; omega)
    rw [ltB, getElem!_pos d' i (by omega), getElem!_pos d' j hj2] at h
    simp only [decide_eq_false_iff_not] at h
    rw [Array.getElem_toList] at hx'' hy''
    subst hx''; subst hy''
    omega
end Go.Proofs.Yteoojplgchlhcaa
