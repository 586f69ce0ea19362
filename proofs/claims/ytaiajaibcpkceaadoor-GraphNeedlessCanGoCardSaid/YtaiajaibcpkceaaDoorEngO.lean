/-
  The abstract machine: what may be forgotten, renamed and frozen; loops by a state. No statement of the seat is proved here; no conditions.
-/
import Derived.Test.YtaiajaibcpkceaaDoorEngM
namespace Go.Proofs.YtaiajaibcpkceaaDoor
open Go.RowKit
set_option linter.unusedVariables false
set_option linter.unusedSimpArgs false

mutual
/-- From a value at heap H to one at heap H' (nw: objects that are new there, empty ones): the same, or less said, or frozen. -/
def SlotOk (H H' : Heap) (nw : List Nat) : AV → AV → Prop
  | a, .any => True
  | .f x, b => (match b with
    | .f y => x = y ∨ (x = .nil ∧ ∃ sz, y = .fr sz [])
    | .sl id ver sz off n => x = .nil ∧ off = 0 ∧ n = 0 ∧ id ∈ nw ∧ ver = (H' id).1
    | _ => False)
  | .sl id ver sz off n, b => (match b with
    | .sl id' ver' sz' off' n' => id' = id ∧ sz' = sz ∧ off' = off ∧ n' = n ∧ ver = (H id).1 ∧ ver' = (H' id).1 ∧ id ∉ nw ∧ (H id).2.isSome = true ∧ (H' id).2.isSome = true
    | .f (.fr sz' l) => sz' = sz ∧ l.length = n ∧ (∀ x ∈ l, x.length = sz) ∧ (H' id).2 = none ∧ ∃ cs, cellsOf ver (H id) = some cs ∧ (off + n) * sz ≤ cs.length ∧ (cs.drop (off * sz)).take (n * sz) = l.flatten.map .f
    | _ => False)
  | .ptr id ver off, b => (match b with
    | .ptr id' ver' off' => id' = id ∧ off' = off ∧ ver = (H id).1 ∧ ver' = (H' id).1 ∧ id ∉ nw ∧ (H id).2.isSome = true ∧ (H' id).2.isSome = true
    | .f (.fp l) => (H' id).2 = none ∧ ∃ cs, cellsOf ver (H id) = some cs ∧ off + l.length ≤ cs.length ∧ (cs.drop off).take l.length = l.map .f
    | _ => False)
  | .map id ver, b => (match b with
    | .map id' ver' => id' = id ∧ ver = (H id).1 ∧ ver' = (H' id).1 ∧ id ∉ nw ∧ (H id).2.isSome = true ∧ (H' id).2.isSome = true
    | .f (.fm m) => (H' id).2 = none ∧ mapOfH ver (H id) = some m
    | _ => False)
  | .agg l, b => (match b with
    | .agg l' => SlotsOk H H' nw l l'
    | _ => False)
  | .tup l, b => (match b with
    | .tup l' => SlotsOk H H' nw l l'
    | _ => False)
  | .clo g l, b => (match b with
    | .clo g' l' => g' = g ∧ SlotsOk H H' nw l l'
    | _ => False)
  | .any, _ => False
def SlotsOk (H H' : Heap) (nw : List Nat) : List AV → List AV → Prop
  | [], l' => l' = []
  | a :: l, l' => (match l' with
    | b :: l' => SlotOk H H' nw a b ∧ SlotsOk H H' nw l l'
    | [] => False)
end

/-- The ghost behind it. -/
def wkG (G : Ghost) (H' : Heap) (nw : List Nat) : Ghost := fun id => ((H' id).1, if (H' id).2.isSome = true then (if id ∈ nw then some none else (G id).2) else none)
/-- .. and what is frozen: what was, and all that is no longer an object. -/
def wkZ (G : Ghost) (H' : Heap) (nw : List Nat) (Z : Nat → Prop) : Nat → Prop := fun b => Z b ∨ ∃ id o, (G id).2 = some (some (b, o)) ∧ ((H' id).2 = none ∨ id ∈ nw)
section
variable {P : Program} {G : Ghost} {H H' : Heap} {nw : List Nat} {Z : Nat → Prop} {w : World}
theorem wk_frozen (st : St P G H Z w) {id ver : Nat} {cs : List AV} (hc : cellsOf ver (H id) = some cs) (hd : (H' id).2 = none) {g o : Nat} (hG : (G id).2 = some (some (g, o))) {k : Nat} {l : List FV} (hl : (cs.drop k).take l.length = l.map .f) (hin : k + l.length ≤ cs.length) :
    wkZ G H' nw Z g ∧ ∀ j x, l[j]? = some x → ∃ u, w.cell? ⟨g, o + k + j, none⟩ = some u ∧ u.oneCell' = true ∧ RepF Z w x u := by
  obtain ⟨loc, hG2, hob, hH⟩ := st.cells hc
  rw [hG2] at hG
  simp only [Option.some.injEq] at hG
  subst hG
  obtain ⟨arr, e, hh, hcc⟩ := hob
  refine ⟨.inr ⟨id, o, by rw [hG2], .inl hd⟩, fun j x hx => ?_⟩
  have hj := (List.getElem?_eq_some_iff.1 hx).1
  have h1 : ((cs.drop k).take l.length)[j]? = some (.f x) := by rw [hl, List.getElem?_map, hx]; rfl
  rw [List.getElem?_take_of_lt hj, List.getElem?_drop] at h1
  obtain ⟨u, h2, h3, h4⟩ := hcc _ _ h1
  exact ⟨u, by rw [Nat.add_assoc, cell_of_row w g _ arr e (0, 0) hh]; exact h2, h3, h4.f_⟩
theorem RepF.wk {x : FV} {v : Value} (h : RepF Z w x v) : RepF (wkZ G H' nw Z) w x v := h.keep fun b hb => ⟨.inl hb, rfl⟩
theorem isSome_alive (st : St P G H Z w) {id : Nat} (h : (H id).2.isSome = true) : ∃ loc, (G id).2 = some loc := by
  obtain ⟨o, ho⟩ := Option.isSome_iff_exists.1 h
  obtain ⟨loc, hl, _⟩ := st.obj id o ho
  exact ⟨loc, hl⟩
theorem wkG_alive {id ver : Nat} {loc : Option (Nat × Nat)} (hn : id ∉ nw) (h1 : (H' id).2.isSome = true) (hv : ver = (H' id).1) (hl : (G id).2 = some loc) : wkG G H' nw id = (ver, some loc) := by
  simp [wkG, h1, hn, hl, hv]
mutual
theorem SlotOk.rep (st : St P G H Z w) : ∀ (a b : AV) (v : Value), SlotOk H H' nw a b → RepA G Z w a v → RepA (wkG G H' nw) (wkZ G H' nw Z) w b v
  | .any, b, v, h, hr => by
    cases b <;> simp only [SlotOk] at h
    exact .any v
  | .f x, b, v, h, hr => by
    cases b with
    | any => exact .any v
    | f y =>
      simp only [SlotOk] at h
      rcases h with rfl | ⟨rfl, sz, rfl⟩
      · exact .f hr.f_.wk
      · obtain ⟨A, rfl⟩ := hr.nil_
        exact .f (.frNil _ _ _ (by unfold maxLen; omega))
    | sl id ver sz off n =>
      simp only [SlotOk] at h
      obtain ⟨rfl, rfl, rfl, hn, rfl⟩ := h
      obtain ⟨A, rfl⟩ := hr.nil_
      by_cases hs : (H' id).2.isSome = true
      · exact .slCap _ _ _ _ _ none (by simp [wkG, hs, hn])
      · exact .slOld _ _ _ _ _ _ (Nat.le_refl _) (fun _ => by simp [wkG, hs]) rfl
    | _ => simp only [SlotOk] at h
  | .sl id ver sz off n, b, v, h, hr => by
    cases b with
    | any => exact .any v
    | sl id' ver' sz' off' n' =>
      simp only [SlotOk] at h
      obtain ⟨rfl, rfl, rfl, rfl, rfl, rfl, hn, h1, h2⟩ := h
      obtain ⟨loc, hl⟩ := isSome_alive st h1
      have hG : G id' = ((H id').1, some loc) := Prod.ext (st.ver id') hl
      have hG' := wkG_alive (G := G) (nw := nw) hn h2 rfl hl
      rcases hr.sl_ hG with ⟨rfl, A, rfl⟩ | ⟨g, o, c, rfl, rfl, h3, h4, h5⟩
      · exact .slCap _ _ _ _ _ loc hG'
      · exact .slLive _ _ _ _ _ g o c hG' h3 h4 h5
    | f y =>
      cases y <;> simp only [SlotOk] at h
      rename_i sz' l
      obtain ⟨rfl, rfl, hlen, hd, cs, hc, hin, hcs⟩ := h
      obtain ⟨loc, hG, hob, hH⟩ := st.cells hc
      have hfl := flatten_len l hlen
      rcases hr.sl_ hG with ⟨h0, A, rfl⟩ | ⟨g, o, c, rfl, rfl, h3, h4, h5⟩
      · have : l = [] := List.eq_nil_of_length_eq_zero h0
        subst this
        exact .f (.frNil _ _ _ (by unfold maxLen; omega))
      · rcases Nat.eq_zero_or_pos l.length with h0 | h0
        · have : l = [] := List.eq_nil_of_length_eq_zero h0
          subst this
          exact .f (.frNil _ _ _ h4)
        · obtain ⟨hz, hx⟩ := wk_frozen (nw := nw) st hc hd (g := g) (o := o) (by rw [hG]) (k := off * sz') (l := l.flatten) (by rw [hfl]; exact hcs) (by rw [hfl]; rw [Nat.add_mul] at hin; exact hin)
          obtain ⟨us, hus⟩ : ∃ us : Nat → Value, ∀ j x, l.flatten[j]? = some x → w.cell? ⟨g, o + off * sz' + j, none⟩ = some (us j) ∧ (us j).oneCell' = true ∧ RepF Z w x (us j) := by
            refine ⟨fun j => (w.cell? ⟨g, o + off * sz' + j, none⟩).getD undef, fun j x hj => ?_⟩
            obtain ⟨u, h6, h7, h8⟩ := hx j x hj
            simp only [h6, Option.getD_some]
            exact ⟨trivial, h7, h8⟩
          have hget : ∀ k j, k < l.length → j < sz' → ∃ x, l.flatten[k * sz' + j]? = some x := fun k j hk hj => by
            refine ⟨_, List.getElem?_eq_getElem ?_⟩
            rw [hfl]
            have : (k + 1) * sz' ≤ l.length * sz' := Nat.mul_le_mul_right _ hk
            rw [Nat.add_mul] at this; omega
          refine .f (.fr sz' l g (o + off * sz') c (fun k j => us (k * sz' + j)) h0 h3 h4 hz hlen (fun k j hk hj => ?_) fun k j x a hk hj => ?_)
          · obtain ⟨x, hx'⟩ := hget k j hk hj
            obtain ⟨h6, h7, _⟩ := hus _ x hx'
            exact ⟨by rw [Nat.add_assoc]; exact h6, h7⟩
          · have hjl : j < sz' := by
              rw [← hlen x (List.mem_of_getElem? hk)]; exact (List.getElem?_eq_some_iff.1 hj).1
            have hkl := (List.getElem?_eq_some_iff.1 hk).1
            have : l.flatten[k * sz' + j]? = some a := by
              obtain ⟨y, hy⟩ := hget k j hkl hjl
              obtain ⟨k', j', x', g1, g2, g3, g4⟩ := flatten_get l hlen _ y hy
              have hk' : k' = k := by
                have h1 : (k * sz' + j) / sz' = k := by rw [Nat.mul_comm, Nat.mul_add_div (by omega), Nat.div_eq_of_lt hjl, Nat.add_zero]
                have h2 : (k' * sz' + j') / sz' = k' := by rw [Nat.mul_comm, Nat.mul_add_div (by omega), Nat.div_eq_of_lt g4, Nat.add_zero]
                rw [← h1, ← h2, g3]
              subst hk'
              have hj' : j' = j := by omega
              subst hj'
              rw [hk] at g1; obtain rfl := Option.some.inj g1
              rw [hj] at g2; obtain rfl := Option.some.inj g2
              exact hy
            exact (hus _ a this).2.2.wk
    | _ => simp only [SlotOk] at h
  | .ptr id ver off, b, v, h, hr => by
    cases b with
    | any => exact .any v
    | ptr id' ver' off' =>
      simp only [SlotOk] at h
      obtain ⟨rfl, rfl, rfl, rfl, hn, h1, h2⟩ := h
      obtain ⟨loc, hl⟩ := isSome_alive st h1
      have hG : G id' = ((H id').1, some loc) := Prod.ext (st.ver id') hl
      have hG' := wkG_alive (G := G) (nw := nw) hn h2 rfl hl
      obtain ⟨g, o, rfl, rfl⟩ := hr.ptr_ hG
      exact .ptrLive _ _ _ g o hG'
    | f y =>
      cases y <;> simp only [SlotOk] at h
      rename_i l
      obtain ⟨hd, cs, hc, hin, hcs⟩ := h
      obtain ⟨loc, hG, hob, hH⟩ := st.cells hc
      obtain ⟨g, o, rfl, rfl⟩ := hr.ptr_ hG
      obtain ⟨hz, hx⟩ := wk_frozen (nw := nw) st hc hd (g := g) (o := o) (by rw [hG]) (k := off) (l := l) hcs hin
      refine .f (.fp l g (o + off) (fun j => (w.cell? ⟨g, o + off + j, none⟩).getD undef) hz (fun j hj => ?_) fun j a hj => ?_)
      · obtain ⟨u, h6, h7, _⟩ := hx j _ (List.getElem?_eq_getElem hj)
        simp only [h6, Option.getD_some]
        exact ⟨trivial, h7⟩
      · obtain ⟨u, h6, _, h7⟩ := hx j a hj
        simp only [h6, Option.getD_some]
        exact h7.wk
    | _ => simp only [SlotOk] at h
  | .map id ver, b, v, h, hr => by
    cases b with
    | any => exact .any v
    | map id' ver' =>
      simp only [SlotOk] at h
      obtain ⟨rfl, rfl, rfl, hn, h1, h2⟩ := h
      obtain ⟨loc, hl⟩ := isSome_alive st h1
      have hG : G id' = ((H id').1, some loc) := Prod.ext (st.ver id') hl
      have hG' := wkG_alive (G := G) (nw := nw) hn h2 rfl hl
      cases hr with
      | mapOld _ _ _ h3 h4 h5 => rw [hG] at h4; exact absurd (h4 rfl) (by simp)
      | mapLive _ _ g o h3 =>
        rw [hG] at h3
        simp only [Prod.mk.injEq, Option.some.injEq, true_and] at h3
        subst h3
        exact .mapLive _ _ g o hG'
    | f y =>
      cases y <;> simp only [SlotOk] at h
      rename_i m
      obtain ⟨hd, hm⟩ := h
      obtain ⟨g, hG, hH, hb⟩ := st.maps hm
      obtain ⟨g', o', hloc, rfl⟩ := hr.map_ hG
      simp only [Option.some.injEq, Prod.mk.injEq] at hloc
      obtain ⟨rfl, rfl⟩ := hloc
      exact .f (.fm m g (.inr ⟨id, 0, by rw [hG], .inl hd⟩) hb)
    | _ => simp only [SlotOk] at h
  | .agg l, b, v, h, hr => by
    cases b with
    | any => exact .any v
    | agg l' =>
      simp only [SlotOk] at h
      obtain ⟨us, rfl, h1, h2, h3⟩ := hr.agg_
      obtain ⟨g1, g2⟩ := SlotsOk.rep st l l' us.toList h (by rw [Array.length_toList]; omega) (fun j x u hx hu => h3 j x u hx (by simpa using hu))
      exact .agg _ us (by rw [g1]; exact h1) h2 (fun j x u hx hu => g2 j x u hx (by simpa using hu))
    | _ => simp only [SlotOk] at h
  | .tup l, b, v, h, hr => by
    cases b with
    | any => exact .any v
    | tup l' =>
      simp only [SlotOk] at h
      obtain ⟨us, rfl, h1, h3⟩ := hr.tup_
      obtain ⟨g1, g2⟩ := SlotsOk.rep st l l' us.toList h (by rw [Array.length_toList]; omega) (fun j x u hx hu => h3 j x u hx (by simpa using hu))
      exact .tup _ us (by rw [g1]; exact h1) (fun j x u hx hu => g2 j x u hx (by simpa using hu))
    | _ => simp only [SlotOk] at h
  | .clo f l, b, v, h, hr => by
    cases b with
    | any => exact .any v
    | clo f' l' =>
      simp only [SlotOk] at h
      obtain ⟨rfl, h⟩ := h
      obtain ⟨us, rfl, h1, h3⟩ := hr.clo_
      obtain ⟨g1, g2⟩ := SlotsOk.rep st l l' us.toList h (by rw [Array.length_toList]; omega) (fun j x u hx hu => h3 j x u hx (by simpa using hu))
      exact .clo _ _ us (by rw [g1]; exact h1) (fun j x u hx hu => g2 j x u hx (by simpa using hu))
    | _ => simp only [SlotOk] at h
theorem SlotsOk.rep (st : St P G H Z w) : ∀ (l l' : List AV) (us : List Value), SlotsOk H H' nw l l' → us.length = l.length → (∀ (j : Nat) (x : AV) (u : Value), l[j]? = some x → us[j]? = some u → RepA G Z w x u) →
    l'.length = l.length ∧ ∀ (j : Nat) (x : AV) (u : Value), l'[j]? = some x → us[j]? = some u → RepA (wkG G H' nw) (wkZ G H' nw Z) w x u
  | [], l', us, h, _, _ => by
    simp only [SlotsOk] at h
    subst h
    exact ⟨rfl, fun j x u h => by simp at h⟩
  | a :: l, l', us, h, hl, hr => by
    simp only [SlotsOk] at h
    cases l' with
    | nil => exact h.elim
    | cons b l' =>
      simp only at h
      cases us with
      | nil => simp at hl
      | cons u us =>
        obtain ⟨g1, g2⟩ := SlotsOk.rep st l l' us h.2 (by simpa using hl) (fun j x u hx hu => hr (j + 1) x u (by simpa using hx) (by simpa using hu))
        refine ⟨by simp [g1], fun j x u' hx hu => ?_⟩
        cases j with
        | zero =>
          simp only [List.getElem?_cons_zero, Option.some.injEq] at hx hu
          subst hx hu
          exact SlotOk.rep st a b u h.1 (hr 0 a u rfl rfl)
        | succ j => exact g2 j x u' (by simpa using hx) (by simpa using hu)
end
end

open Go.RowKit
set_option linter.unusedVariables false
set_option linter.unusedSimpArgs false

def ObjOk (H H' : Heap) (nw : List Nat) (o : Option AObj) : AObj → Prop
  | .cells cs' => ∃ cs, o = some (.cells cs) ∧ SlotsOk H H' nw cs cs'
  | .map m => o = some (.map m)
structure WkOk (H H' : Heap) (nw : List Nat) : Prop where
  obj : ∀ id o', (H' id).2 = some o' → (id ∈ nw ∧ o' = .cells []) ∨ (id ∉ nw ∧ ObjOk H H' nw (H id).2 o')
  ent : ∀ id, 100000 ≤ id → (H id).1 ≤ (H' id).1 ∧ ((H' id).1 = (H id).1 → id ∉ nw)
section
variable {P : Program} {G : Ghost} {H H' : Heap} {nw : List Nat} {Z : Nat → Prop} {w : World}
theorem St.weak (st : St P G H Z w) (hk : WkOk H H' nw) : St P (wkG G H' nw) H' (wkZ G H' nw Z) w ∧ Hist G Z w (wkG G H' nw) (wkZ G H' nw Z) w := by
  have loc_of : ∀ id g o, (wkG G H' nw id).2 = some (some (g, o)) → (H' id).2.isSome = true ∧ id ∉ nw ∧ (G id).2 = some (some (g, o)) := by
    intro id g o h
    simp only [wkG] at h
    split at h
    · rename_i h1
      split at h
      · cases h
      · rename_i h2; exact ⟨h1, h2, h⟩
    · cases h
  refine ⟨⟨fun id => rfl, fun id h => by simp [wkG, h], fun id o' h => ?_, fun i1 i2 g o1 o2 h1 h2 => st.inj _ _ _ _ _ (loc_of _ _ _ h1).2.2 (loc_of _ _ _ h2).2.2, fun id g o h hz => ?_, fun b hb => ?_, fun id g o h => st.glt _ _ _ (loc_of _ _ _ h).2.2, fun id g o h => st.ones _ _ _ (loc_of _ _ _ h).2.2⟩,
    ⟨rfl, rfl, rfl, Nat.le_refl _, fun _ _ _ => rfl, fun b hb => ⟨.inl hb, rfl⟩, fun b hb => ?_, fun b hl => ?_, fun b arr e fz _ h => ⟨arr, e, fz, h, rfl⟩, fun id hid => ?_, fun id hid e => ?_⟩⟩
  · rcases hk.obj id o' h with ⟨h1, rfl⟩ | ⟨h1, h2⟩
    · exact ⟨none, by simp [wkG, h, h1], rfl⟩
    · cases o' with
      | cells cs' =>
        obtain ⟨cs, hcs, hs⟩ := h2
        obtain ⟨loc, hl, hob⟩ := st.obj id _ hcs
        refine ⟨loc, by simp [wkG, h, h1, hl], ?_⟩
        cases loc with
        | none =>
          have : cs = [] := hob
          subst this
          simp only [SlotsOk] at hs
          exact hs
        | some p =>
          obtain ⟨g, o⟩ := p
          obtain ⟨arr, e, hh, hc⟩ := hob
          refine ⟨arr, e, hh, fun j b hj => ?_⟩
          obtain ⟨us, hul, hus⟩ := exists_list (R := fun i u => arr[o + i]? = some u ∧ u.oneCell' = true ∧ ∀ a, cs[i]? = some a → RepA G Z w a u) cs.length (fun i hi => by
            obtain ⟨u, h3, h4, h5⟩ := hc i _ (List.getElem?_eq_getElem hi)
            exact ⟨u, h3, h4, fun a ha => by rw [List.getElem?_eq_getElem hi] at ha; obtain rfl := Option.some.inj ha; exact h5⟩)
          obtain ⟨g1, g2⟩ := SlotsOk.rep st cs cs' us hs hul (fun j x u hx hu => by
            obtain ⟨u', h3, _, _, h5⟩ := hus j (List.getElem?_eq_some_iff.1 hx).1
            rw [hu] at h3; obtain rfl := Option.some.inj h3
            exact h5 x hx)
          have hlt := (List.getElem?_eq_some_iff.1 hj).1
          obtain ⟨u, h3, h4, h5, _⟩ := hus j (by omega)
          exact ⟨u, h4, h5, g2 j b u hj h3⟩
      | map m =>
        obtain ⟨loc, hl, hob⟩ := st.obj id _ h2
        refine ⟨loc, by simp [wkG, h, h1, hl], ?_⟩
        cases loc with
        | none => exact hob
        | some p =>
          obtain ⟨g, o⟩ := p
          exact hob
  · obtain ⟨h1, h2, h3⟩ := loc_of _ _ _ h
    rcases hz with hz | ⟨id2, o2, h4, h5⟩
    · exact st.disj _ _ _ h3 hz
    · have := st.inj _ _ _ _ _ h3 h4
      subst this
      rcases h5 with h5 | h5
      · rw [h5] at h1; cases h1
      · exact h2 h5
  · rcases hb with hb | ⟨id, o, h1, _⟩
    · exact st.zlt b hb
    · exact st.glt _ _ _ h1
  · rcases hb with hb | ⟨id, o, h1, _⟩
    · exact .inl hb
    · exact .inr (.inl ⟨id, o, h1⟩)
  · obtain ⟨id, o, h⟩ := hl
    exact .inl ⟨id, o, (loc_of _ _ _ h).2.2⟩
  · rw [st.ver]; exact (hk.ent id hid).1
  · rw [st.ver] at e
    have hn := (hk.ent id hid).2 e
    simp only [wkG, hn, if_false]
    split
    · exact .inr rfl
    · exact .inl rfl
end

/-! ### States written out -/
def look (t : Nat) : List (Nat × AV) → AV
  | [] => .any
  | (s, a) :: l => if t = s then a else look t l
def mkE (n : Nat) (l : List (Nat × AV)) : Env := ⟨n, fun t => look t l⟩
instance : Coe (List AV) AObj := ⟨AObj.cells⟩
def lookH (id : Nat) : List (Nat × Nat × AObj) → Nat × Option AObj
  | [] => (0, none)
  | (i, v, ob) :: l => if id = i then (v, some ob) else lookH id l
def mkH (l : List (Nat × Nat × AObj)) : Heap := fun id => lookH id l
theorem look_nil {t : Nat} : look t [] = .any := rfl
theorem look_cons {t s : Nat} {a : AV} {l : List (Nat × AV)} : look t ((s, a) :: l) = if t = s then a else look t l := rfl
theorem lookH_nil {t : Nat} : lookH t [] = (0, none) := rfl
theorem lookH_cons {t s v : Nat} {ob : AObj} {l : List (Nat × Nat × AObj)} : lookH t ((s, v, ob) :: l) = if t = s then (v, some ob) else lookH t l := rfl
theorem mkE_f {n t : Nat} {l : List (Nat × AV)} : (mkE n l).f t = look t l := rfl
theorem mkE_eq {n : Nat} {l : List (Nat × AV)} : mkE n l = ⟨n, fun t => look t l⟩ := rfl
theorem mkE_n {n : Nat} {l : List (Nat × AV)} : (mkE n l).n = n := rfl
theorem mkH_at {t : Nat} {l : List (Nat × Nat × AObj)} : mkH l t = lookH t l := rfl
theorem SlotsOk.fs {H H' : Heap} {nw : List Nat} : ∀ {l l' : List FV}, l = l' → SlotsOk H H' nw (l.map .f) (l'.map .f)
  | [], _, rfl => rfl
  | x :: l, _, rfl => ⟨.inl rfl, SlotsOk.fs rfl⟩
theorem SlotsOk.of_eq {H H' : Heap} {nw : List Nat} {cs0 : List AV} {l : List FV} (h : cs0 = l.map .f) : SlotsOk H H' nw cs0 (l.map .f) := by subst h; exact SlotsOk.fs rfl
section
variable {H H' : Heap} {nw : List Nat}
theorem so_ff {x y : FV} : SlotOk H H' nw (.f x) (.f y) = (x = y ∨ (x = .nil ∧ ∃ sz, y = .fr sz [])) := by rw [SlotOk]
theorem so_fs {x : FV} {id ver sz off n : Nat} : SlotOk H H' nw (.f x) (.sl id ver sz off n) = (x = .nil ∧ off = 0 ∧ n = 0 ∧ id ∈ nw ∧ ver = (H' id).1) := by rw [SlotOk]
theorem so_ss {id ver sz off n id' ver' sz' off' n' : Nat} : SlotOk H H' nw (.sl id ver sz off n) (.sl id' ver' sz' off' n') = (id' = id ∧ sz' = sz ∧ off' = off ∧ n' = n ∧ ver = (H id).1 ∧ ver' = (H' id).1 ∧ id ∉ nw ∧ (H id).2.isSome = true ∧ (H' id).2.isSome = true) := by rw [SlotOk]
theorem so_pp {id ver off id' ver' off' : Nat} : SlotOk H H' nw (.ptr id ver off) (.ptr id' ver' off') = (id' = id ∧ off' = off ∧ ver = (H id).1 ∧ ver' = (H' id).1 ∧ id ∉ nw ∧ (H id).2.isSome = true ∧ (H' id).2.isSome = true) := by rw [SlotOk]
theorem so_mm {id ver id' ver' : Nat} : SlotOk H H' nw (.map id ver) (.map id' ver') = (id' = id ∧ ver = (H id).1 ∧ ver' = (H' id).1 ∧ id ∉ nw ∧ (H id).2.isSome = true ∧ (H' id).2.isSome = true) := by rw [SlotOk]
theorem so_aa {l l' : List AV} : SlotOk H H' nw (.agg l) (.agg l') = SlotsOk H H' nw l l' := by rw [SlotOk]
end
/-- No entries of a caller's, but for one (the object that a function is handed a pointer to). -/
def Small (H : Heap) : Prop := ∀ id, 100000 ≤ id → id ≠ 100001 → H id = (0, none)
def okId (i : Nat) : Bool := decide (i < 100000) || decide (i = 100001)
theorem small_upd {H : Heap} {i : Nat} {x : Nat × Option AObj} (hi : okId i = true) (h : Small H) : Small (upd H i x) := fun id hid hne => by
  simp only [okId, Bool.or_eq_true, decide_eq_true_eq] at hi
  rw [upd_ne _ _ _ _ (by omega)]; exact h id hid hne
theorem small_mk : ∀ {l : List (Nat × Nat × AObj)}, l.all (fun p => okId p.1) = true → Small (mkH l)
  | [], _ => fun id _ _ => rfl
  | (i, v, cs) :: l, h => fun id hid hne => by
    simp only [List.all_cons, Bool.and_eq_true, okId, Bool.or_eq_true, decide_eq_true_eq] at h
    rw [mkH_at, lookH_cons, if_neg (by omega)]
    exact small_mk h.2 id hid hne
def ElOk (H H' : Heap) (nw : List Nat) (env : Env) (n : Nat) : List (Nat × AV) → Prop
  | [] => True
  | (t, a) :: l => t < n ∧ SlotOk H H' nw (env.f t) a ∧ ElOk H H' nw env n l
def HlOk (H H' : Heap) (nw : List Nat) : List (Nat × Nat × AObj) → Prop
  | [] => True
  | (i, _, .cells cs) :: l => (if nw.contains i = true then cs = [] else ∃ cs0, (H i).2 = some (.cells cs0) ∧ SlotsOk H H' nw cs0 cs) ∧ HlOk H H' nw l
  | (i, _, .map m) :: l => (nw.contains i = false ∧ (H i).2 = some (.map m)) ∧ HlOk H H' nw l
/-- From env, H to what is written out. -/
def Wk (env : Env) (H : Heap) (nw : List Nat) (n : Nat) (el : List (Nat × AV)) (hl : List (Nat × Nat × AObj)) : Prop :=
  env.n = n ∧ Small H ∧ (hl.all (fun p => okId p.1) = true) ∧ (nw.all (fun i => decide (i < 100000)) = true) ∧ (H 100001).1 = (mkH hl 100001).1 ∧ ElOk H (mkH hl) nw env n el ∧ HlOk H (mkH hl) nw hl
section
variable {P : Program} {env : Env} {H : Heap} {nw : List Nat} {n : Nat} {el : List (Nat × AV)} {hl : List (Nat × Nat × AObj)}
theorem hl_obj {H' : Heap} : ∀ {hl : List (Nat × Nat × AObj)}, HlOk H H' nw hl → ∀ id o', (lookH id hl).2 = some o' → (id ∈ nw ∧ o' = .cells []) ∨ (id ∉ nw ∧ ObjOk H H' nw (H id).2 o')
  | [], _, id, o', h => by cases h
  | (i, v, .map m) :: l, hk, id, o', h => by
    rw [lookH_cons] at h
    by_cases e : id = i
    · subst e
      rw [if_pos rfl] at h
      obtain rfl := Option.some.inj h
      exact .inr ⟨by simpa using hk.1.1, hk.1.2⟩
    · rw [if_neg e] at h
      exact hl_obj hk.2 id o' h
  | (i, v, .cells cs) :: l, hk, id, o', h => by
    rw [lookH_cons] at h
    by_cases e : id = i
    · subst e
      rw [if_pos rfl] at h
      obtain rfl := Option.some.inj h
      have hk1 := hk.1
      split at hk1
      · rename_i hc; subst hk1; exact .inl ⟨by simpa using hc, rfl⟩
      · rename_i hc; exact .inr ⟨by simpa using hc, hk1⟩
    · rw [if_neg e] at h
      exact hl_obj hk.2 id o' h
theorem el_ok {H' : Heap} : ∀ {el : List (Nat × AV)}, ElOk H H' nw env n el → ∀ t, SlotOk H H' nw (env.f t) (look t el) ∧ (n ≤ t → look t el = .any)
  | [], _, t => ⟨by rw [look_nil]; cases env.f t <;> simp [SlotOk], fun _ => rfl⟩
  | (s, a) :: l, hk, t => by
    rw [look_cons]
    by_cases e : t = s
    · subst e
      rw [if_pos rfl]
      exact ⟨hk.2.1, fun h => absurd hk.1 (by omega)⟩
    · rw [if_neg e]
      exact el_ok hk.2.2 t
theorem Wk.sim (h : Wk env H nw n el hl) {s : At0} {a : Act} {w : World} (hs : Sim P s env H a w) : Sim P s (mkE n el) (mkH hl) a w := by
  obtain ⟨hn, hsm, hal, hnw, hpt, he, hh⟩ := h
  obtain ⟨G, Z, st, hr, hd, hi⟩ := hs
  have hwk : WkOk H (mkH hl) nw := ⟨hl_obj hh, fun id hid => by
    have h1 : (H id).1 = (mkH hl id).1 := by
      by_cases e : id = 100001
      · subst e; exact hpt
      · rw [hsm id hid e, small_mk hal id hid e]
    refine ⟨Nat.le_of_eq h1, fun _ hm => ?_⟩
    have := List.all_eq_true.1 hnw id hm
    simp only [decide_eq_true_eq] at this
    omega⟩
  obtain ⟨s1, s2⟩ := st.weak hwk
  refine ⟨_, _, s1, ⟨by rw [hr.len, hn]; rfl, fun i hi => (el_ok he i).2 hi, fun i v hv => ?_⟩, hd, hi.trans s2⟩
  exact SlotOk.rep st _ _ v (el_ok he i).1 (hr.at_ i v hv)
theorem ax_weak {R : Env → Heap → Prop} {Λ : Lams} {c : LCode} {k : List It} (h : Wk env H nw n el hl) (hx : Ax P R Λ (.code c :: k) (mkE n el) (mkH hl)) : Ax P R Λ (.code c :: k) env H := fun s t hm a w hs => hx s t hm a w (h.sim hs)
/-- A loop, by a state of one's own. -/
theorem ax_loopS {S : Type} {R : Env → Heap → Prop} {Λ : Lams} {c : LCode} {k : List It} (n : Nat) (E : S → List (Nat × AV)) (HH : S → List (Nat × Nat × AObj)) (inv : S → Prop) (μ : S → Nat) (s0 : S) (nw : List Nat) (h0 : inv s0) (hw : Wk env H nw n (E s0) (HH s0))
    (hr : ∀ s, inv s → Ax P R ((fun env' H' => ∃ s', inv s' ∧ μ s' < μ s ∧ Wk env' H' [] n (E s') (HH s')) :: Λ) (.code c :: .again :: k) (mkE n (E s)) (mkH (HH s))) : Ax P R Λ (.code (.loop c) :: k) env H := fun s t hm a w hs => by
  cases hm with
  | code hc hm =>
    obtain ⟨c1, rfl, h1⟩ := low_inv hc
    rename_i t
    have key : ∀ m (x : S) a w, μ x = m → inv x → Sim P s (mkE n (E x)) (mkH (HH x)) a w → Goal P (Fin P R s) (.code c1 :: .inLoop c1 :: t) a w := by
      intro m
      induction m using Nat.strongRecOn with
      | _ m ih =>
        intro x a w hm' hI hs
        refine (hr x hI).go (.code h1 (.again (fun env' H' a' w' hL hs' => ?_) hm)) hs
        obtain ⟨x', hI', hlt, hwk⟩ := hL
        exact Goal.steps (fun b cs => .one step_inLoop) (ih (μ x') (hm' ▸ hlt) x' a' w' rfl hI' (hwk.sim hs'))
    exact Goal.steps (fun b cs => .one step_loop) (key _ s0 a w rfl h0 (hw.sim hs))
end

/-! ### Results -/
inductive RC where
  | v (x : FV)
  | own (sz n : Nat) (cs : List FV)
inductive RS where
  | c (x : RC)
  | agg (l : List RC)
/-- An own result, or a plain one, as the function has it. -/
def RcOk (H : Heap) : RC → AV → Prop
  | .v x, a => a = .f x
  | .own sz n cs, a => (a = .f .nil ∧ n = 0 ∧ cs = []) ∨ ∃ id ver, a = .sl id ver sz 0 n ∧ cellsOf ver (H id) = some (cs.map .f) ∧ n * sz ≤ cs.length
def RcsOk (H : Heap) : List RC → List AV → Prop
  | [], l => l = []
  | r :: rs, l => match l with
    | a :: l => RcOk H r a ∧ RcsOk H rs l
    | [] => False
def RsOk (H : Heap) : List RS → List AV → Prop
  | [], l => l = []
  | .c r :: rs, l => (match l with
    | a :: l => RcOk H r a ∧ RsOk H rs l
    | [] => False)
  | .agg rc :: rs, l => (match l with
    | .agg cs :: l => RcsOk H rc cs ∧ RsOk H rs l
    | _ => False)
def idsC : List AV → List Nat
  | [] => []
  | .sl id _ _ _ _ :: l => id :: idsC l
  | _ :: l => idsC l
def idsS : List AV → List Nat
  | [] => []
  | .sl id _ _ _ _ :: l => id :: idsS l
  | .agg cs :: l => idsC cs ++ idsS l
  | _ :: l => idsS l
/-- What a function hands back. -/
def Rets (rs : List RS) (r : AV) (H : Heap) : Prop := ∃ l, r = oneOrTup l ∧ RsOk H rs l ∧ (idsS l).Nodup
def H0 : Heap := fun _ => (0, none)
/-- Function f, handed what it only reads, hands back this. -/
def FRet (P : Program) (f : FuncId) (args : List AV) (rs : List RS) : Prop := FCall P f args H0 (Rets rs)
theorem H0_at {t : Nat} : H0 t = (0, none) := rfl
theorem small_0 : Small H0 := fun _ _ _ => rfl

/-! ### .. and as the caller has it: own ones are objects t, t + 1000, .. -/
def putC (t : Nat) : Nat → RC → AV
  | _, .v x => .f x
  | k, .own sz n _ => .sl (t + 1000 * k) 1 sz 0 n
def nextC : Nat → RC → Nat
  | k, .v _ => k
  | k, .own .. => k + 1
def putCs (t : Nat) : Nat → List RC → List AV
  | _, [] => []
  | k, r :: rs => putC t k r :: putCs t (nextC k r) rs
def nextCs : Nat → List RC → Nat
  | k, [] => k
  | k, r :: rs => nextCs (nextC k r) rs
def putS (t : Nat) : Nat → List RS → List AV
  | _, [] => []
  | k, .c r :: rs => putC t k r :: putS t (nextC k r) rs
  | k, .agg l :: rs => .agg (putCs t k l) :: putS t (nextCs k l) rs
def putHc (t : Nat) (k : Nat) (r : RC) (H : Heap) : Heap := match r with
  | .v _ => H
  | .own _ _ cs => upd H (t + 1000 * k) (1, some (.cells (cs.map .f)))
def putHcs (t : Nat) : Nat → List RC → Heap → Heap
  | _, [], H => H
  | k, r :: rs, H => putHcs t (nextC k r) rs (putHc t k r H)
def putHs (t : Nat) : Nat → List RS → Heap → Heap
  | _, [], H => H
  | k, .c r :: rs, H => putHs t (nextC k r) rs (putHc t k r H)
  | k, .agg l :: rs, H => putHs t (nextCs k l) rs (putHcs t k l H)
def FV.plain : FV → Bool
  | .fr .. => false
  | .fp .. => false
  | .fm .. => false
  | _ => true
def RC.all (p : FV → Bool) : RC → Bool
  | .v x => p x
  | .own _ _ cs => cs.all p
def RS.all (p : FV → Bool) : RS → Bool
  | .c r => r.all p
  | .agg l => l.all (RC.all p)
theorem RepF.plain {Z Z' : Nat → Prop} {w w' : World} {x : FV} {v : Value} (h : RepF Z w x v) (hp : x.plain = true) : RepF Z' w' x v := by
  cases h <;> first | (constructor; done) | cases hp
end Go.Proofs.YtaiajaibcpkceaaDoor
