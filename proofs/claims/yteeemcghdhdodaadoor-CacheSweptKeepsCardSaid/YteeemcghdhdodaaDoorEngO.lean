/-
  The abstract machine: what may be forgotten, renamed and frozen; loops by a state. No statement of the seat is proved here; no conditions.
-/
import Derived.Test.YteeemcghdhdodaaDoorEngN
namespace Go.Proofs.YteeemcghdhdodaaDoor
open Go.RowKit
set_option linter.unusedVariables false
set_option linter.unusedSimpArgs false

mutual
/-- From a value at heap H to one at heap H' (nw: objects that are new there, empty ones): the same, or less said, or frozen. -/
def SlotOk (H H' : Heap) (nw : List Nat) : AV → AV → Prop
  | a, .any => True
  | .f x, b => (match b with
    | .f y => x = y ∨ (x = .nil ∧ ∃ sz, y = .fr sz [])
    | .sl id ver sz off n => x = .nil ∧ off = 0 ∧ n = 0 ∧ id ∈ nw ∧ ver = (H' id).1
    | _ => False)
  | .sl id ver sz off n, b => (match b with
    | .sl id' ver' sz' off' n' => id' = id ∧ sz' = sz ∧ off' = off ∧ n' = n ∧ ver = (H id).1 ∧ ver' = (H' id).1 ∧ id ∉ nw ∧ (H id).2.isSome = true ∧ (H' id).2.isSome = true
    | .f (.fr sz' l) => sz' = sz ∧ l.length = n ∧ (∀ x ∈ l, x.length = sz) ∧ (H' id).2 = none ∧ ∃ cs, cellsOf ver (H id) = some cs ∧ (off + n) * sz ≤ cs.length ∧ (cs.drop (off * sz)).take (n * sz) = l.flatten.map .f
    | _ => False)
  | .ptr id ver off, b => (match b with
    | .ptr id' ver' off' => id' = id ∧ off' = off ∧ ver = (H id).1 ∧ ver' = (H' id).1 ∧ id ∉ nw ∧ (H id).2.isSome = true ∧ (H' id).2.isSome = true
    | .f (.fp l) => (H' id).2 = none ∧ ∃ cs, cellsOf ver (H id) = some cs ∧ off + l.length ≤ cs.length ∧ (cs.drop off).take l.length = l.map .f
    | _ => False)
  | .map id ver, b => (match b with
    | .map id' ver' => id' = id ∧ ver = (H id).1 ∧ ver' = (H' id).1 ∧ id ∉ nw ∧ (H id).2.isSome = true ∧ (H' id).2.isSome = true
    | .f (.fm m) => (H' id).2 = none ∧ mapOfH ver (H id) = some m
    | _ => False)
  | .agg l, b => (match b with
    | .agg l' => SlotsOk H H' nw l l'
    | _ => False)
  | .tup l, b => (match b with
    | .tup l' => SlotsOk H H' nw l l'
    | _ => False)
  | .clo g l, b => (match b with
    | .clo g' l' => g' = g ∧ SlotsOk H H' nw l l'
    | _ => False)
  | .any, _ => False
def SlotsOk (H H' : Heap) (nw : List Nat) : List AV → List AV → Prop
  | [], l' => l' = []
  | a :: l, l' => (match l' with
    | b :: l' => SlotOk H H' nw a b ∧ SlotsOk H H' nw l l'
    | [] => False)
end

/-- The ghost behind it. -/
def wkG (G : Ghost) (H' : Heap) (nw : List Nat) : Ghost := fun id => ((H' id).1, if (H' id).2.isSome = true then (if id ∈ nw then some none else (G id).2) else none)
/-- .. and what is frozen: what was, and all that is no longer an object. -/
def wkZ (G : Ghost) (H' : Heap) (nw : List Nat) (Z : Nat → Prop) : Nat → Prop := fun b => Z b ∨ ∃ id o, (G id).2 = some (some (b, o)) ∧ ((H' id).2 = none ∨ id ∈ nw)
section
variable {P : Program} {G : Ghost} {H H' : Heap} {nw : List Nat} {Z : Nat → Prop} {w : World}
theorem wk_frozen (st : St P G H Z w) {id ver : Nat} {cs : List AV} (hc : cellsOf ver (H id) = some cs) (hd : (H' id).2 = none) {g o : Nat} (hG : (G id).2 = some (some (g, o))) {k : Nat} {l : List FV} (hl : (cs.drop k).take l.length = l.map .f) (hin : k + l.length ≤ cs.length) :
    wkZ G H' nw Z g ∧ ∀ j x, l[j]? = some x → ∃ u, w.cell? ⟨g, o + k + j, none⟩ = some u ∧ u.oneCell' = true ∧ RepF Z w x u := by
  obtain ⟨loc, hG2, hob, hH⟩ := st.cells hc
  rw [hG2] at hG
  simp only [Option.some.injEq] at hG
  subst hG
  obtain ⟨arr, e, hh, hcc⟩ := hob
  refine ⟨.inr ⟨id, o, by rw [hG2], .inl hd⟩, fun j x hx => ?_⟩
  have hj := (List.getElem?_eq_some_iff.1 hx).1
  have h1 : ((cs.drop k).take l.length)[j]? = some (.f x) := by rw [hl, List.getElem?_map, hx]; rfl
  rw [List.getElem?_take_of_lt hj, List.getElem?_drop] at h1
  obtain ⟨u, h2, h3, h4⟩ := hcc _ _ h1
  exact ⟨u, by rw [Nat.add_assoc, cell_of_row w g _ arr e (0, 0) hh]; exact h2, h3, h4.f_⟩
theorem RepF.wk {x : FV} {v : Value} (h : RepF Z w x v) : RepF (wkZ G H' nw Z) w x v := h.keep fun b hb => ⟨.inl hb, rfl⟩
theorem isSome_alive (st : St P G H Z w) {id : Nat} (h : (H id).2.isSome = true) : ∃ loc, (G id).2 = some loc := by
  obtain ⟨o, ho⟩ := Option.isSome_iff_exists.1 h
  obtain ⟨loc, hl, _⟩ := st.obj id o ho
  exact ⟨loc, hl⟩
theorem wkG_alive {id ver : Nat} {loc : Option (Nat × Nat)} (hn : id ∉ nw) (h1 : (H' id).2.isSome = true) (hv : ver = (H' id).1) (hl : (G id).2 = some loc) : wkG G H' nw id = (ver, some loc) := by
  simp [wkG, h1, hn, hl, hv]
mutual
theorem SlotOk.rep (st : St P G H Z w) : ∀ (a b : AV) (v : Value), SlotOk H H' nw a b → RepA G Z w a v → RepA (wkG G H' nw) (wkZ G H' nw Z) w b v
  | .any, b, v, h, hr => by
    cases b <;> simp only [SlotOk] at h
    exact .any v
  | .f x, b, v, h, hr => by
    cases b with
    | any => exact .any v
    | f y =>
      simp only [SlotOk] at h
      rcases h with rfl | ⟨rfl, sz, rfl⟩
      · exact .f hr.f_.wk
      · obtain ⟨A, rfl⟩ := hr.nil_
        exact .f (.frNil _ _ _ (by unfold maxLen; omega))
    | sl id ver sz off n =>
      simp only [SlotOk] at h
      obtain ⟨rfl, rfl, rfl, hn, rfl⟩ := h
      obtain ⟨A, rfl⟩ := hr.nil_
      by_cases hs : (H' id).2.isSome = true
      · exact .slCap _ _ _ _ _ none (by simp [wkG, hs, hn])
      · exact .slOld _ _ _ _ _ _ (Nat.le_refl _) (fun _ => by simp [wkG, hs]) rfl
    | _ => simp only [SlotOk] at h
  | .sl id ver sz off n, b, v, h, hr => by
    cases b with
    | any => exact .any v
    | sl id' ver' sz' off' n' =>
      simp only [SlotOk] at h
      obtain ⟨rfl, rfl, rfl, rfl, rfl, rfl, hn, h1, h2⟩ := h
      obtain ⟨loc, hl⟩ := isSome_alive st h1
      have hG : G id' = ((H id').1, some loc) := Prod.ext (st.ver id') hl
      have hG' := wkG_alive (G := G) (nw := nw) hn h2 rfl hl
      rcases hr.sl_ hG with ⟨rfl, A, rfl⟩ | ⟨g, o, c, rfl, rfl, h3, h4, h5⟩
      · exact .slCap _ _ _ _ _ loc hG'
      · exact .slLive _ _ _ _ _ g o c hG' h3 h4 h5
    | f y =>
      cases y <;> simp only [SlotOk] at h
      rename_i sz' l
      obtain ⟨rfl, rfl, hlen, hd, cs, hc, hin, hcs⟩ := h
      obtain ⟨loc, hG, hob, hH⟩ := st.cells hc
      have hfl := flatten_len l hlen
      rcases hr.sl_ hG with ⟨h0, A, rfl⟩ | ⟨g, o, c, rfl, rfl, h3, h4, h5⟩
      · have : l = [] := List.eq_nil_of_length_eq_zero h0
        subst this
        exact .f (.frNil _ _ _ (by unfold maxLen; omega))
      · rcases Nat.eq_zero_or_pos l.length with h0 | h0
        · have : l = [] := List.eq_nil_of_length_eq_zero h0
          subst this
          exact .f (.frNil _ _ _ h4)
        · obtain ⟨hz, hx⟩ := wk_frozen (nw := nw) st hc hd (g := g) (o := o) (by rw [hG]) (k := off * sz') (l := l.flatten) (by rw [hfl]; exact hcs) (by rw [hfl]; rw [Nat.add_mul] at hin; exact hin)
          obtain ⟨us, hus⟩ : ∃ us : Nat → Value, ∀ j x, l.flatten[j]? = some x → w.cell? ⟨g, o + off * sz' + j, none⟩ = some (us j) ∧ (us j).oneCell' = true ∧ RepF Z w x (us j) := by
            refine ⟨fun j => (w.cell? ⟨g, o + off * sz' + j, none⟩).getD undef, fun j x hj => ?_⟩
            obtain ⟨u, h6, h7, h8⟩ := hx j x hj
            simp only [h6, Option.getD_some]
            exact ⟨trivial, h7, h8⟩
          have hget : ∀ k j, k < l.length → j < sz' → ∃ x, l.flatten[k * sz' + j]? = some x := fun k j hk hj => by
            refine ⟨_, List.getElem?_eq_getElem ?_⟩
            rw [hfl]
            have : (k + 1) * sz' ≤ l.length * sz' := Nat.mul_le_mul_right _ hk
            rw [Nat.add_mul] at this; omega
          refine .f (.fr sz' l g (o + off * sz') c (fun k j => us (k * sz' + j)) h0 h3 h4 hz hlen (fun k j hk hj => ?_) fun k j x a hk hj => ?_)
          · obtain ⟨x, hx'⟩ := hget k j hk hj
            obtain ⟨h6, h7, _⟩ := hus _ x hx'
            exact ⟨by rw [Nat.add_assoc]; exact h6, h7⟩
          · have hjl : j < sz' := by
              rw [← hlen x (List.mem_of_getElem? hk)]; exact (List.getElem?_eq_some_iff.1 hj).1
            have hkl := (List.getElem?_eq_some_iff.1 hk).1
            have : l.flatten[k * sz' + j]? = some a := by
              obtain ⟨y, hy⟩ := hget k j hkl hjl
              obtain ⟨k', j', x', g1, g2, g3, g4⟩ := flatten_get l hlen _ y hy
              have hk' : k' = k := by
                have h1 : (k * sz' + j) / sz' = k := by rw [Nat.mul_comm, Nat.mul_add_div (by omega), Nat.div_eq_of_lt hjl, Nat.add_zero]
                have h2 : (k' * sz' + j') / sz' = k' := by rw [Nat.mul_comm, Nat.mul_add_div (by omega), Nat.div_eq_of_lt g4, Nat.add_zero]
                rw [← h1, ← h2, g3]
              subst hk'
              have hj' : j' = j := by omega
              subst hj'
              rw [hk] at g1; obtain rfl := Option.some.inj g1
              rw [hj] at g2; obtain rfl := Option.some.inj g2
              exact hy
            exact (hus _ a this).2.2.wk
    | _ => simp only [SlotOk] at h
  | .ptr id ver off, b, v, h, hr => by
    cases b with
    | any => exact .any v
    | ptr id' ver' off' =>
      simp only [SlotOk] at h
      obtain ⟨rfl, rfl, rfl, rfl, hn, h1, h2⟩ := h
      obtain ⟨loc, hl⟩ := isSome_alive st h1
      have hG : G id' = ((H id').1, some loc) := Prod.ext (st.ver id') hl
      have hG' := wkG_alive (G := G) (nw := nw) hn h2 rfl hl
      obtain ⟨g, o, rfl, rfl⟩ := hr.ptr_ hG
      exact .ptrLive _ _ _ g o hG'
    | f y =>
      cases y <;> simp only [SlotOk] at h
      rename_i l
      obtain ⟨hd, cs, hc, hin, hcs⟩ := h
      obtain ⟨loc, hG, hob, hH⟩ := st.cells hc
      obtain ⟨g, o, rfl, rfl⟩ := hr.ptr_ hG
      obtain ⟨hz, hx⟩ := wk_frozen (nw := nw) st hc hd (g := g) (o := o) (by rw [hG]) (k := off) (l := l) hcs hin
      refine .f (.fp l g (o + off) (fun j => (w.cell? ⟨g, o + off + j, none⟩).getD undef) hz (fun j hj => ?_) fun j a hj => ?_)
      · obtain ⟨u, h6, h7, _⟩ := hx j _ (List.getElem?_eq_getElem hj)
        simp only [h6, Option.getD_some]
        exact ⟨trivial, h7⟩
      · obtain ⟨u, h6, _, h7⟩ := hx j a hj
        simp only [h6, Option.getD_some]
        exact h7.wk
    | _ => simp only [SlotOk] at h
  | .map id ver, b, v, h, hr => by
    cases b with
    | any => exact .any v
    | map id' ver' =>
      simp only [SlotOk] at h
      obtain ⟨rfl, rfl, rfl, hn, h1, h2⟩ := h
      obtain ⟨loc, hl⟩ := isSome_alive st h1
      have hG : G id' = ((H id').1, some loc) := Prod.ext (st.ver id') hl
      have hG' := wkG_alive (G := G) (nw := nw) hn h2 rfl hl
      cases hr with
      | mapOld _ _ _ h3 h4 h5 => rw [hG] at h4; exact absurd (h4 rfl) (by simp)
      | mapLive _ _ g o h3 =>
        rw [hG] at h3
        simp only [Prod.mk.injEq, Option.some.injEq, true_and] at h3
        subst h3
        exact .mapLive _ _ g o hG'
    | f y =>
      cases y <;> simp only [SlotOk] at h
      rename_i m
      obtain ⟨hd, hm⟩ := h
      obtain ⟨g, hG, hH, hb⟩ := st.maps hm
      obtain ⟨g', o', hloc, rfl⟩ := hr.map_ hG
      simp only [Option.some.injEq, Prod.mk.injEq] at hloc
      obtain ⟨rfl, rfl⟩ := hloc
      exact .f (.fm m g (.inr ⟨id, 0, by rw [hG], .inl hd⟩) hb)
    | _ => simp only [SlotOk] at h
  | .agg l, b, v, h, hr => by
    cases b with
    | any => exact .any v
    | agg l' =>
      simp only [SlotOk] at h
      obtain ⟨us, rfl, h1, h2, h3⟩ := hr.agg_
      obtain ⟨g1, g2⟩ := SlotsOk.rep st l l' us.toList h (by rw [Array.length_toList]; omega) (fun j x u hx hu => h3 j x u hx (by simpa using hu))
      exact .agg _ us (by rw [g1]; exact h1) h2 (fun j x u hx hu => g2 j x u hx (by simpa using hu))
    | _ => simp only [SlotOk] at h
  | .tup l, b, v, h, hr => by
    cases b with
    | any => exact .any v
    | tup l' =>
      simp only [SlotOk] at h
      obtain ⟨us, rfl, h1, h3⟩ := hr.tup_
      obtain ⟨g1, g2⟩ := SlotsOk.rep st l l' us.toList h (by rw [Array.length_toList]; omega) (fun j x u hx hu => h3 j x u hx (by simpa using hu))
      exact .tup _ us (by rw [g1]; exact h1) (fun j x u hx hu => g2 j x u hx (by simpa using hu))
    | _ => simp only [SlotOk] at h
  | .clo f l, b, v, h, hr => by
    cases b with
    | any => exact .any v
    | clo f' l' =>
      simp only [SlotOk] at h
      obtain ⟨rfl, h⟩ := h
      obtain ⟨us, rfl, h1, h3⟩ := hr.clo_
      obtain ⟨g1, g2⟩ := SlotsOk.rep st l l' us.toList h (by rw [Array.length_toList]; omega) (fun j x u hx hu => h3 j x u hx (by simpa using hu))
      exact .clo _ _ us (by rw [g1]; exact h1) (fun j x u hx hu => g2 j x u hx (by simpa using hu))
    | _ => simp only [SlotOk] at h
theorem SlotsOk.rep (st : St P G H Z w) : ∀ (l l' : List AV) (us : List Value), SlotsOk H H' nw l l' → us.length = l.length → (∀ (j : Nat) (x : AV) (u : Value), l[j]? = some x → us[j]? = some u → RepA G Z w x u) →
    l'.length = l.length ∧ ∀ (j : Nat) (x : AV) (u : Value), l'[j]? = some x → us[j]? = some u → RepA (wkG G H' nw) (wkZ G H' nw Z) w x u
  | [], l', us, h, _, _ => by
    simp only [SlotsOk] at h
    subst h
    exact ⟨rfl, fun j x u h => by simp at h⟩
  | a :: l, l', us, h, hl, hr => by
    simp only [SlotsOk] at h
    cases l' with
    | nil => exact h.elim
    | cons b l' =>
      simp only at h
      cases us with
      | nil => simp at hl
      | cons u us =>
        obtain ⟨g1, g2⟩ := SlotsOk.rep st l l' us h.2 (by simpa using hl) (fun j x u hx hu => hr (j + 1) x u (by simpa using hx) (by simpa using hu))
        refine ⟨by simp [g1], fun j x u' hx hu => ?_⟩
        cases j with
        | zero =>
          simp only [List.getElem?_cons_zero, Option.some.injEq] at hx hu
          subst hx hu
          exact SlotOk.rep st a b u h.1 (hr 0 a u rfl rfl)
        | succ j => exact g2 j x u' (by simpa using hx) (by simpa using hu)
end
end
end Go.Proofs.YteeemcghdhdodaaDoor
