/-
  The plain law of orders. No statement of the seat is proved here; no conditions.
-/
import Derived.Test.YtbnmclcoekehbaaDoorGrH
namespace Go.Proofs.YtbnmclcoekehbaaDoor
open Go.RowKit Go.Shelf
set_option linter.unusedVariables false
set_option linter.unusedSimpArgs false

theorem nd_bound : ∀ (n : Nat) (l : List Nat), l.Nodup → (∀ i ∈ l, i < n) → l.length ≤ n
  | 0, [], _, _ => Nat.le_refl _
  | 0, a :: l, _, h => absurd (h a (List.mem_cons_self ..)) (Nat.not_lt_zero _)
  | n + 1, l, hd, h => by
    by_cases hn : n ∈ l
    · have h1 : (l.erase n).length = l.length - 1 := List.length_erase_of_mem hn
      have h2 := nd_bound n (l.erase n) (hd.erase n) fun i hi => by
        have h3 := (hd.mem_erase_iff).1 hi
        have h4 := h i h3.2
        have h5 := h3.1
        omega
      omega
    · have := nd_bound n l hd fun i hi => by
        have h4 := h i hi
        have h5 : i ≠ n := fun e => hn (e ▸ hi)
        omega
      omega
theorem nd_all {n : Nat} {l : List Nat} (hd : l.Nodup) (h : ∀ i ∈ l, i < n) (hl : l.length = n) {i : Nat} (hi : i < n) : i ∈ l := Decidable.byContradiction fun hn => by
  have := nd_bound n (i :: l) (List.nodup_cons.2 ⟨hn, hd⟩) fun k hk => by
    rcases List.mem_cons.1 hk with rfl | hk
    · exact hi
    · exact h k hk
  rw [List.length_cons] at this; omega
theorem pushAt_getD {R : List (List Nat)} {k i u : Nat} (hu : u < R.length) : (pushAt R k i).getD u [] = if u = k then R.getD u [] ++ [i] else R.getD u [] := by
  unfold pushAt
  rw [List.getD_eq_getElem?_getD]
  split
  · rename_i e; subst e
    rw [List.getElem?_set_self hu]; rfl
  · rename_i e
    rw [List.getElem?_set_ne (fun h => e h.symm), List.getD_eq_getElem?_getD]
theorem pushRow_count {i u x : Nat} : ∀ (l : List Nat) {U : List (List Nat)}, u < U.length → ((pushRow U i l).getD u []).count x = (U.getD u []).count x + (if x = i then l.count u else 0)
  | [], U, hu => by simp [pushRow]
  | k :: l, U, hu => by
    rw [pushRow, List.foldl_cons, ← pushRow, pushRow_count l (by rw [pushAt_len]; exact hu), pushAt_getD hu]
    by_cases e : u = k
    · subst e
      rw [if_pos rfl, List.count_append, List.count_cons_self]
      by_cases e2 : x = i
      · subst e2; simp; omega
      · rw [if_neg e2, if_neg e2, List.count_singleton, if_neg (by simpa using fun h => e2 h.symm)]
    · rw [if_neg e, List.count_cons_of_ne (by simpa using fun h => e h.symm)]
theorem usTo_count {D : List (List Nat)} {n u x : Nat} (hu : u < n) : ∀ i, ((usTo D n i).getD u []).count x = if x < i then (D.getD x []).count u else 0
  | 0 => by
    rw [usTo, if_neg (Nat.not_lt_zero _), List.getD_eq_getElem?_getD, List.getElem?_replicate, if_pos hu]; rfl
  | i + 1 => by
    rw [usTo, pushRow_count _ (by rw [usTo_len]; exact hu), usTo_count hu i]
    by_cases e : x = i
    · subst e; rw [if_neg (Nat.lt_irrefl _), if_pos rfl, if_pos (by omega)]; omega
    · rw [if_neg e]
      by_cases e2 : x < i
      · rw [if_pos e2, if_pos (by omega)]; omega
      · rw [if_neg e2, if_neg (by omega)]
theorem decAt_getD {L : List Int} {k i : Nat} (hi : i < L.length) : (decAt L k).getD i 0 = L.getD i 0 - (if k = i then 1 else 0) := by
  unfold decAt
  rw [List.getD_eq_getElem?_getD]
  split
  · rename_i e; subst e
    rw [List.getElem?_set_self hi]; rfl
  · rename_i e
    rw [List.getElem?_set_ne e, List.getD_eq_getElem?_getD]; omega
theorem decs_getD {i : Nat} : ∀ (l : List Nat) {L : List Int}, i < L.length → (l.foldl decAt L).getD i 0 = L.getD i 0 - (l.count i : Int)
  | [], L, hi => by simp
  | k :: l, L, hi => by
    rw [List.foldl_cons, decs_getD l (by rw [decAt_len]; exact hi), decAt_getD hi, List.count_cons]
    by_cases e : k = i
    · subst e; simp; omega
    · rw [if_neg e, if_neg (by simpa using e)]; omega
theorem cnt_cons {u : Nat} {out : List Nat} (hu : u ∉ out) : ∀ d : List Nat, d.countP (fun x => decide (x ∈ u :: out)) = d.count u + d.countP (fun x => decide (x ∈ out))
  | [] => rfl
  | x :: d => by
    rw [List.countP_cons, List.countP_cons, List.count_cons, cnt_cons hu d]
    by_cases e : x = u
    · subst e; simp [hu]; omega
    · simp [e]; omega
theorem cntS : ∀ {out : List Nat}, out.Nodup → ∀ d : List Nat, (out.map fun u => d.count u).sum = d.countP (fun x => decide (x ∈ out))
  | [], _, d => by simp
  | u :: out, h, d => by
    rw [List.nodup_cons] at h
    rw [List.map_cons, List.sum_cons, cntS h.2 d, cnt_cons h.1 d]
theorem rdyIdx_spec : ∀ {L : List Int} {B : List Bool}, L.length = B.length → rdyIdx L B ≠ L.length → ∃ z, L[rdyIdx L B]? = some z ∧ B[rdyIdx L B]? = some false ∧ z ≤ 0
  | [], [], _, h => absurd rfl h
  | [], b :: B, h, _ => by cases h
  | z :: L, [], h, _ => by cases h
  | z :: L, b :: B, hl, h => by
    rw [rdyIdx] at h ⊢
    split
    · rename_i hc
      simp only [Bool.and_eq_true, Bool.not_eq_true', decide_eq_true_eq] at hc
      exact ⟨z, rfl, by rw [hc.1]; rfl, hc.2⟩
    · rename_i hc
      rw [if_neg hc] at h
      obtain ⟨z', h1, h2, h3⟩ := rdyIdx_spec (L := L) (B := B) (by simpa using hl) fun e => h (by rw [e]; rfl)
      exact ⟨z', by simpa using h1, by simpa using h2, h3⟩
structure OInv (n : Nat) (D : List (List Nat)) (s : OSt) : Prop where
  nd : s.out.Nodup
  dn : ∀ i, i < n → s.done[i]? = some (decide (i ∈ s.out))
  lf : ∀ i, i < n → s.left.getD i 0 = ((D.getD i []).length : Int) - ((s.out.map fun u => (D.getD i []).count u).sum : Nat)
  bf : ∀ (k : Nat) i, s.out[k]? = some i → ∀ d ∈ D.getD i [], d ∈ s.out.take k
theorem step_inv {n : Nat} {D U : List (List Nat)} {s : OSt} (hN : NetOk n D U) (hU : ∀ u x, u < n → x < n → (U.getD u []).count x = (D.getD x []).count u) (hO : OOk n s) (h : OInv n D s) (hne : rdyIdx s.left s.done ≠ s.left.length) : OInv n D (ordStep U s (rdyIdx s.left s.done)) := by
  have hll : s.left.length = s.done.length := by rw [hO.ll, hO.bl]
  obtain ⟨z, h1, h2, h3⟩ := rdyIdx_spec hll hne
  have hle := rdyIdx_le s.left s.done hll
  have hin : rdyIdx s.left s.done < n := by have := hO.ll; omega
  generalize rdyIdx s.left s.done = i at *
  have hni : i ∉ s.out := by
    have := h.dn i hin
    rw [h2] at this
    simpa using this
  have hall : ∀ d ∈ D.getD i [], d ∈ s.out := by
    have h4 := h.lf i hin
    rw [List.getD_eq_getElem?_getD, h1, cntS h.nd] at h4
    have h5 : (D.getD i []).countP (fun x => decide (x ∈ s.out)) = (D.getD i []).length := by
      have := List.countP_le_length (p := fun x => decide (x ∈ s.out)) (l := D.getD i [])
      simp only [Option.getD_some] at h4
      omega
    intro d hd
    simpa using List.countP_eq_length.1 h5 d hd
  refine ⟨?_, fun k hk => ?_, fun k hk => ?_, fun k j hj => ?_⟩
  · show (s.out ++ [i]).Nodup
    rw [List.nodup_append]
    exact ⟨h.nd, by simp, fun a ha b hb => by rw [List.mem_singleton.1 hb]; exact fun e => hni (e ▸ ha)⟩
  · show (s.done.set i true)[k]? = some (decide (k ∈ s.out ++ [i]))
    by_cases e : k = i
    · subst e
      rw [List.getElem?_set_self (by rw [hO.bl]; exact hk)]; simp
    · rw [List.getElem?_set_ne (fun x => e x.symm), h.dn k hk]; simp [e]
  · show ((U.getD i []).foldl decAt s.left).getD k 0 = _ - (((s.out ++ [i]).map fun u => (D.getD k []).count u).sum : Nat)
    rw [decs_getD _ (by rw [hO.ll]; exact hk), h.lf k hk, hU i k hin hk, List.map_append, List.sum_append]
    simp only [List.map_cons, List.map_nil, List.sum_cons, List.sum_nil]
    omega
  · show ∀ d ∈ D.getD j [], d ∈ (s.out ++ [i]).take k
    rcases Nat.lt_or_ge k s.out.length with hk | hk
    · have hj' : s.out[k]? = some j := by
        have : (s.out ++ [i])[k]? = some j := hj
        rwa [List.getElem?_append_left hk] at this
      intro d hd
      rw [List.take_append_of_le_length (by omega)]
      exact h.bf k j hj' d hd
    · have hj' : (s.out ++ [i])[k]? = some j := hj
      rw [List.getElem?_append_right hk] at hj'
      have hk0 : k - s.out.length = 0 := by
        have := (List.getElem?_eq_some_iff.1 hj').1
        simp at this; omega
      rw [hk0] at hj'
      obtain rfl := Option.some.inj hj'
      intro d hd
      rw [show k = s.out.length by omega, List.take_left]
      exact hall d hd
theorem ordGo_inv {n : Nat} {D U : List (List Nat)} (hN : NetOk n D U) (hU : ∀ u x, u < n → x < n → (U.getD u []).count x = (D.getD x []).count u) {l : List Nat} : ∀ m (s : OSt), OOk n s → OInv n D s → s.out.length + m = n → ordGo U m s = some l → l.Nodup ∧ ∀ (k : Nat) i, l[k]? = some i → ∀ d ∈ D.getD i [], d ∈ l.take k
  | 0, s, hO, hI, hm, h => by obtain rfl := Option.some.inj h; exact ⟨hI.nd, hI.bf⟩
  | m + 1, s, hO, hI, hm, h => by
    rw [ordGo] at h
    split at h
    · cases h
    · rename_i hne
      have h1 := rdyIdx_le s.left s.done (by rw [hO.ll, hO.bl])
      have h2 := hO.ll
      refine ordGo_inv hN hU m _ (ordStep_ok hN hO (by omega) (by omega)) (step_inv hN hU hO hI hne) ?_ h
      show (s.out ++ [_]).length + m = n
      rw [List.length_append]; simp only [List.length_cons, List.length_nil]; omega
theorem order_inv {g : Graph} (h : GOk g) {l : List Nat} (hl : orderOf g = some l) : l.Nodup ∧ ∀ (k : Nat) i, l[k]? = some i → ∀ d ∈ (allDeps g).getD i [], d ∈ l.take k := by
  have hN := net_ok h
  have hO := start_ok hN
  unfold orderOf orderV at hl
  rw [hN.dl] at hl hO
  refine ordGo_inv hN (fun u x hu hx => ?_) _ _ hO ⟨List.nodup_nil, fun i hi => ?_, fun i hi => ?_, fun k i hk => ?_⟩ (by simp) hl
  · rw [usersOf, usTo_count hu, if_pos hx]
  · rw [List.getElem?_replicate, if_pos hi]; simp
  · have : i < (allDeps g).length := by rw [hN.dl]; exact hi
    simp only [lens0, List.getD_eq_getElem?_getD, List.getElem?_map, List.getElem?_eq_getElem this]
    simp
  · simp at hk
end Go.Proofs.YtbnmclcoekehbaaDoor
