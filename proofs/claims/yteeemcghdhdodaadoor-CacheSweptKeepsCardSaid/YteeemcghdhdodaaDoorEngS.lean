/-
  The abstract machine: values that hang on no object of one's own; objects that are handed to a function and come back (part 1). No statement of the seat is proved here; no conditions.
-/
import Derived.Test.YteeemcghdhdodaaDoorEngQ
namespace Go.Proofs.YteeemcghdhdodaaDoor
open Go.RowKit
set_option linter.unusedVariables false
set_option linter.unusedSimpArgs false

mutual
def AV.pure : AV → Bool
  | .any => true
  | .f _ => true
  | .sl .. => false
  | .ptr .. => false
  | .map .. => false
  | .agg l => AV.pureL l
  | .tup l => AV.pureL l
  | .clo _ l => AV.pureL l
def AV.pureL : List AV → Bool
  | [] => true
  | a :: l => a.pure && AV.pureL l
end
theorem AV.pureL_all : ∀ l : List AV, AV.pureL l = l.all AV.pure
  | [] => rfl
  | a :: l => by rw [AV.pureL, AV.pureL_all l]; rfl
theorem RepA.pure_ {G G' : Ghost} {Z Z' : Nat → Prop} {w w' : World} {a : AV} {v : Value} (hz : ∀ b, Z b → Z' b ∧ w'.heap[b]? = w.heap[b]?) (h : RepA G Z w a v) : a.pure = true → RepA G' Z' w' a v := by
  induction h with
  | any v => exact fun _ => .any v
  | f hf => exact fun _ => .f (hf.keep hz)
  | agg cells us h1 h2 _ ih =>
    intro hp
    rw [AV.pure, AV.pureL_all] at hp
    exact .agg cells us h1 h2 fun j a u ha hu => ih j a u ha hu (List.all_eq_true.1 hp a (List.mem_of_getElem? ha))
  | tup cells us h1 _ ih =>
    intro hp
    rw [AV.pure, AV.pureL_all] at hp
    exact .tup cells us h1 fun j a u ha hu => ih j a u ha hu (List.all_eq_true.1 hp a (List.mem_of_getElem? ha))
  | clo f cells us h1 _ ih =>
    intro hp
    rw [AV.pure, AV.pureL_all] at hp
    exact .clo f cells us h1 fun j a u ha hu => ih j a u ha hu (List.all_eq_true.1 hp a (List.mem_of_getElem? ha))
  | _ => intro hp; simp [AV.pure] at hp
/-! ### A nil slice is an empty one -/
mutual
inductive LeA : AV → AV → Prop
  | refl (a : AV) : LeA a a
  | nil (sz : Nat) : LeA (.f .nil) (.f (.fr sz []))
  | agg {l l' : List AV} : LeL l l' → LeA (.agg l) (.agg l')
inductive LeL : List AV → List AV → Prop
  | refl (l : List AV) : LeL l l
  | cons {a a' : AV} {l l' : List AV} : LeA a a' → LeL l l' → LeL (a :: l) (a' :: l')
end
mutual
theorem LeA.rep {G : Ghost} {Z : Nat → Prop} {w : World} : ∀ {a a' : AV} {v : Value}, LeA a a' → RepA G Z w a v → RepA G Z w a' v
  | _, _, v, .refl a, h => h
  | _, _, v, .nil sz, h => by
    obtain ⟨A, rfl⟩ := h.nil_
    exact .f (.frNil _ _ _ (by unfold maxLen; omega))
  | _, _, v, .agg hl, h => by
    obtain ⟨us, rfl, h1, h2, h3⟩ := h.agg_
    obtain ⟨g1, g2⟩ := LeL.rep (us := us) hl h3
    exact .agg _ us (by omega) h2 g2
theorem LeL.rep {G : Ghost} {Z : Nat → Prop} {w : World} : ∀ {l l' : List AV} {us : Array Value}, LeL l l' → (∀ (j : Nat) (a : AV) (u : Value), l[j]? = some a → us[j]? = some u → RepA G Z w a u) → l'.length = l.length ∧ ∀ (j : Nat) (a : AV) (u : Value), l'[j]? = some a → us[j]? = some u → RepA G Z w a u
  | _, _, us, .refl l, h => ⟨rfl, h⟩
  | _, _, us, .cons ha hl, h => by
    obtain ⟨g1, g2⟩ := LeL.rep (us := ⟨us.toList.drop 1⟩) hl (fun j a u hx hu => h (j + 1) a u (by simpa using hx) (by simpa [Nat.add_comm] using hu))
    refine ⟨by simp [g1], fun j a u hx hu => ?_⟩
    cases j with
    | zero =>
      simp only [List.getElem?_cons_zero, Option.some.injEq] at hx
      subst hx
      exact LeA.rep ha (h 0 _ u rfl hu)
    | succ j => exact g2 j a u (by simpa using hx) (by simpa [Nat.add_comm] using hu)
end
theorem LeL.one {l l' : List AV} (h : LeL l l') : LeA (oneOrTup l) (oneOrTup l') ∨ ∃ m m', l = m ∧ l' = m' ∧ oneOrTup l = .tup l ∧ oneOrTup l' = .tup l' := by
  rcases h with _ | ⟨ha, hl⟩
  · exact .inl (.refl _)
  · rcases hl with _ | ⟨hb, hl⟩
    · rename_i l0
      rcases l0 with _ | ⟨b, l⟩
      · exact .inl ha
      · exact .inr ⟨_, _, rfl, rfl, rfl, rfl⟩
    · exact .inr ⟨_, _, rfl, rfl, rfl, rfl⟩
/-- What a function hands back, nil or empty. -/
def RetsW (rs : List RS) (r : AV) (H : Heap) : Prop := ∃ l l', r = oneOrTup l ∧ LeL l l' ∧ RsOk H rs l' ∧ (idsS l').Nodup
theorem fret_w {P : Program} {f : FuncId} {args : List AV} {rs : List RS} (h : FCall P f args H0 (RetsW rs)) : FRet P f args rs :=
  ⟨h.1, fun G Z w vs h1 h2 h3 => (h.2 G Z w vs h1 h2 h3).mono fun e w' ⟨v, r, H', G', Z', e1, ⟨l, l', hr, hle, hrs, hnd⟩, st, hh, hrep⟩ => by
    refine ⟨v, oneOrTup l', H', G', Z', e1, ⟨l', rfl, hrs, hnd⟩, st, hh, ?_⟩
    subst hr
    rcases hle.one with h4 | ⟨_, _, _, _, h5, h6⟩
    · exact h4.rep hrep
    · rw [h5] at hrep
      rw [h6]
      obtain ⟨us, rfl, g1, g3⟩ := hrep.tup_
      obtain ⟨k1, k2⟩ := hle.rep g3
      exact .tup _ us (by omega) k2⟩
theorem ACall.le {P : Program} {f : FuncId} {args args' : List AV} {H : Heap} {Q : AV → Heap → Prop} (h : ACall P f args' H Q) (hl : LeL args args') : ACall P f args H Q :=
  ⟨h.1, fun G Z w vs st hsz hrep => by
    obtain ⟨g1, g2⟩ := hl.rep hrep
    exact h.2 G Z w vs st (by omega) g2⟩
theorem all_true : ∀ (rs : List RS), rs.all (RS.all fun _ => true) = true := fun rs => by
  have h1 : ∀ r : RC, r.all (fun _ => true) = true := fun r => by cases r <;> simp [RC.all]
  exact List.all_eq_true.2 fun r _ => by cases r with
    | c r => exact h1 r
    | agg l => exact List.all_eq_true.2 fun r _ => h1 r
/-- All arguments hang on nothing of one's own (structs and closures too). -/
theorem call_p {P : Program} {t : Nat} {f : FuncId} {args : List AV} {H : Heap} {rs : List RS} (hF : FRet P f args rs) (hp : args.all AV.pure = true) (hfree : ∀ j, j < nextSs 0 rs → H (t + 1000 * j) = (0, none)) : ACall P f args H (fun r H' => r = oneOrTup (putS t 0 rs) ∧ H' = putHs t 0 rs H) :=
  call_core hF (fun _ Z => Z) (fun _ => true) (all_true rs) hfree
    (fun G Z w vs st hsz hrep => ⟨hsz, fun j a v ha hv => (hrep j a v ha hv).pure_ (fun b hb => ⟨hb, rfl⟩) (List.all_eq_true.1 hp a (List.mem_of_getElem? ha))⟩) (fun G Z w st => ⟨fun b h => h, fun b h => .inl h⟩)
    (fun G Z Z1 w w1 x v st hz _ h => h.keep fun b hb => ⟨⟨hb, fun hl => by
      obtain ⟨id, o, hl⟩ := hl
      rcases hz b hb with h | h
      · exact st.disj _ _ _ hl h
      · have := st.glt _ _ _ hl; omega⟩, rfl⟩)

/-! ### An object goes from one state to another one -/
theorem St.adopt2 {P : Program} {G : Ghost} {H : Heap} {Z : Nat → Prop} {w1 : World} (st : St P G H Z w1) {i : Nat} (hd : H i = (0, none)) {cs : List AV} {loc : Option (Nat × Nat)}
    (hl : match loc with | none => cs = [] | some (g, o) => g < w1.heap.size ∧ ¬ Z g ∧ ¬ LiveB G g ∧ ∃ (arr : Array Value) (e : TypeId), w1.heap[g]? = some (.cells arr e (0, 0)) ∧ CellsR (RepA G Z w1) arr o cs ∧ OnesA arr) :
    St P (upd G i (1, some loc)) (upd H i (1, some (.cells cs))) Z w1 ∧ Keep G Z w1 (upd G i (1, some loc)) Z w1 := by
  have hgi : (G i).1 = 0 := by rw [st.ver, hd]
  have hgn : (G i).2 = none := st.dead i (by rw [hd])
  have hg : ∀ id', id' ≠ i → upd G i (1, some loc) id' = G id' := fun id' hne => upd_ne _ _ _ _ hne
  have hk : Keep G Z w1 (upd G i (1, some loc)) Z w1 := by
    refine ⟨fun b hb => ⟨hb, rfl⟩, fun id => ?_, fun id e => ?_, fun b arr e fz _ h => ⟨arr, e, fz, h, rfl⟩⟩
    · by_cases e : id = i
      · subst e; rw [upd_same, hgi]; exact Nat.zero_le _
      · rw [hg _ e]; exact Nat.le_refl _
    · by_cases e' : id = i
      · subst e'; rw [upd_same, hgi] at e; cases e
      · rw [hg _ e']; exact .inr rfl
  have hloc : ∀ id g o, (upd G i (1, some loc) id).2 = some (some (g, o)) → (id = i ∧ loc = some (g, o)) ∨ (id ≠ i ∧ (G id).2 = some (some (g, o))) := by
    intro id g o h
    by_cases e : id = i
    · subst e; rw [upd_same] at h; exact .inl ⟨rfl, Option.some.inj h⟩
    · rw [hg _ e] at h; exact .inr ⟨e, h⟩
  refine ⟨⟨fun id => ?_, fun id h => ?_, fun id o h => ?_, fun i1 i2 g o1 o2 h1 h2 => ?_, fun id g o h => ?_, st.zlt, fun id g o h => ?_, fun id g o h => ?_⟩, hk⟩
  · by_cases e : id = i
    · subst e; rw [upd_same, upd_same]
    · rw [hg _ e, upd_ne _ _ _ _ e]; exact st.ver id
  · by_cases e : id = i
    · subst e; rw [upd_same] at h; cases h
    · rw [hg _ e]; rw [upd_ne _ _ _ _ e] at h; exact st.dead id h
  · by_cases e : id = i
    · subst e
      rw [upd_same] at h ⊢
      obtain rfl := Option.some.inj h
      refine ⟨loc, rfl, ?_⟩
      cases loc with
      | none => exact hl
      | some p =>
        obtain ⟨g, o⟩ := p
        obtain ⟨_, _, _, arr, e, h1, h2, _⟩ := hl
        exact ⟨arr, e, h1, h2.mono fun a v hr => hr.keep hk⟩
    · rw [hg _ e]; rw [upd_ne _ _ _ _ e] at h
      obtain ⟨loc', h1, h2⟩ := st.obj id o h
      refine ⟨loc', h1, ?_⟩
      cases loc' with
      | none => cases o <;> exact h2
      | some p =>
        obtain ⟨g, ob⟩ := p
        cases o with
        | cells cs' =>
          obtain ⟨arr, e, h3, h4⟩ := h2
          exact ⟨arr, e, h3, h4.mono fun a v hr => hr.keep hk⟩
        | map m => exact h2
  · rcases hloc _ _ _ h1 with ⟨e1, g1⟩ | ⟨e1, g1⟩ <;> rcases hloc _ _ _ h2 with ⟨e2, g2⟩ | ⟨e2, g2⟩
    · rw [e1, e2]
    · subst g1; exact absurd ⟨i2, o2, g2⟩ hl.2.2.1
    · subst g2; exact absurd ⟨i1, o1, g1⟩ hl.2.2.1
    · exact st.inj _ _ _ _ _ g1 g2
  · rcases hloc _ _ _ h with ⟨e1, g1⟩ | ⟨e1, g1⟩
    · subst g1; exact hl.2.1
    · exact st.disj _ _ _ g1
  · rcases hloc _ _ _ h with ⟨e1, g1⟩ | ⟨e1, g1⟩
    · subst g1; exact hl.1
    · exact st.glt _ _ _ g1
  · rcases hloc _ _ _ h with ⟨e1, g1⟩ | ⟨e1, g1⟩
    · subst g1
      obtain ⟨_, _, _, arr, e, h1, _, h2⟩ := hl
      intro arr' e' fz' h3
      rw [h1] at h3
      simp only [Option.some.injEq, Obj.cells.injEq] at h3
      rw [← h3.1]; exact h2
    · exact st.ones _ _ _ g1

section
variable {P : Program} {GA Gr : Ghost} {HA : Heap} {ZA ZB : Nat → Prop} {w1 : World} {t : Nat} {p : FV → Bool} {Ex : Nat → Prop}
/-- From state A (its own numbers) to one that builds on Gr. -/
structure Back2 (P : Program) (GA : Ghost) (HA : Heap) (ZA ZB : Nat → Prop) (w1 : World) (p : FV → Bool) (Gr : Ghost) (Ex : Nat → Prop) : Prop where
  st1 : St P GA HA ZA w1
  z2 : ∀ b, ZB b → ZA b
  fv : ∀ x v, p x = true → RepF ZA w1 x v → RepF ZB w1 x v
  cur : ∀ b, LiveB Gr b → ∀ id o, (GA id).2 = some (some (b, o)) → Ex id
structure Own2 (P : Program) (GA Gr : Ghost) (ZB : Nat → Prop) (w1 : World) (t : Nat) (k : Nat) (used : List Nat) (G : Ghost) (H : Heap) : Prop where
  st : St P G H ZB w1
  free : ∀ j, k ≤ j → H (t + 1000 * j) = (0, none)
  lv : ∀ b, LiveB G b → LiveB Gr b ∨ ∃ id ∈ used, ∃ o, (GA id).2 = some (some (b, o))
def Els (t : Nat) (G G' : Ghost) : Prop := ∀ id, (∀ j, id ≠ t + 1000 * j) → G' id = G id
theorem Els.refl (G : Ghost) : Els t G G := fun _ _ => rfl
theorem Els.trans {G G' G'' : Ghost} (h : Els t G G') (h' : Els t G' G'') : Els t G G'' := fun id hid => (h' id hid).trans (h id hid)
theorem own2_c (bk : Back2 P GA HA ZA ZB w1 p Gr Ex) {k : Nat} {used : List Nat} {G : Ghost} {H : Heap} (ow : Own2 P GA Gr ZB w1 t k used G H) {r : RC} {a : AV} (hr : RcOk HA r a) (hp : r.all p = true) (hu : ∀ id ∈ idsC [a], id ∉ used ∧ ¬ Ex id) :
    ∃ G', Own2 P GA Gr ZB w1 t (nextC k r) (idsC [a] ++ used) G' (putHc t k r H) ∧ Keep G ZB w1 G' ZB w1 ∧ Els t G G' ∧ ∀ v, RepA GA ZA w1 a v → RepA G' ZB w1 (putC t k r) v := by
  cases r with
  | v x =>
    have : a = .f x := hr
    subst this
    exact ⟨G, ⟨ow.st, ow.free, fun b hb => ow.lv b hb⟩, Keep.refl _ _ _, Els.refl _, fun v hv => .f (bk.fv x v hp hv.f_)⟩
  | own sz n cs =>
    have hd := ow.free k (Nat.le_refl _)
    have free' : ∀ x : Nat × Option AObj, ∀ j, k + 1 ≤ j → upd H (t + 1000 * k) x (t + 1000 * j) = (0, none) := fun x j hj => by
      rw [upd_ne _ _ _ _ (by omega)]; exact ow.free j (by omega)
    have els' : ∀ x, Els t G (upd G (t + 1000 * k) x) := fun x id hid => upd_ne _ _ _ _ (hid k)
    rcases hr with ⟨rfl, rfl, rfl⟩ | ⟨id, ver, rfl, hc, hin⟩
    · obtain ⟨s1, s3⟩ := ow.st.adopt2 hd (cs := []) (loc := none) rfl
      refine ⟨_, ⟨s1, free' _, fun b hb => ?_⟩, s3, els' _, fun v hv => ?_⟩
      · obtain ⟨id', o, h⟩ := hb
        by_cases e : id' = t + 1000 * k
        · subst e; rw [upd_same] at h; cases h
        · rw [upd_ne _ _ _ _ e] at h
          exact ow.lv b ⟨id', o, h⟩
      · obtain ⟨A, rfl⟩ := hv.nil_
        exact .slCap _ _ _ _ _ none (by simp)
    · obtain ⟨loc, hG1, hob, hH1⟩ := bk.st1.cells hc
      obtain ⟨hnu, hnx⟩ := hu id (by simp [idsC])
      cases loc with
      | none =>
        have hcs : cs.map AV.f = [] := hob
        obtain ⟨s1, s3⟩ := ow.st.adopt2 hd (cs := cs.map .f) (loc := none) hcs
        refine ⟨_, ⟨s1, free' _, fun b hb => ?_⟩, s3, els' _, fun v hv => ?_⟩
        · obtain ⟨id', o, h⟩ := hb
          by_cases e : id' = t + 1000 * k
          · subst e; rw [upd_same] at h; cases h
          · rw [upd_ne _ _ _ _ e] at h
            exact (ow.lv b ⟨id', o, h⟩).imp (fun h => h) fun ⟨i2, h2, h3⟩ => ⟨i2, by simp [h2], h3⟩
        · rcases hv.sl_ hG1 with ⟨rfl, A, rfl⟩ | ⟨g, o, c, h, _⟩
          · exact .slCap _ _ _ _ _ none (by simp)
          · cases h
      | some q =>
        obtain ⟨g, o⟩ := q
        obtain ⟨arr, e, hh, hcc⟩ := hob
        have hnl : ¬ LiveB G g := fun hl => by
          rcases ow.lv g hl with h | ⟨i2, h2, o2, h3⟩
          · exact hnx (bk.cur g h id o (by rw [hG1]))
          · have := bk.st1.inj _ _ _ _ _ h3 (by rw [hG1] : (GA id).2 = some (some (g, o)))
            subst this; exact hnu h2
        obtain ⟨s1, s3⟩ := ow.st.adopt2 hd (cs := cs.map .f) (loc := some (g, o)) ⟨heap_lt hh, fun hz => bk.st1.disj id g o (by rw [hG1]) (bk.z2 g hz), hnl, arr, e, hh, fun j x hx => by
          obtain ⟨u, h2, h3, h4⟩ := hcc j x hx
          rw [List.getElem?_map] at hx
          obtain ⟨y, hy, rfl⟩ := Option.map_eq_some_iff.1 hx
          exact ⟨u, h2, h3, .f (bk.fv y u (List.all_eq_true.1 hp y (List.mem_of_getElem? hy)) h4.f_)⟩, bk.st1.ones id g o (by rw [hG1]) _ _ _ hh⟩
        refine ⟨_, ⟨s1, free' _, fun b hb => ?_⟩, s3, els' _, fun v hv => ?_⟩
        · obtain ⟨id', o', h⟩ := hb
          by_cases e : id' = t + 1000 * k
          · subst e; rw [upd_same] at h
            simp only [Option.some.injEq, Prod.mk.injEq] at h
            exact .inr ⟨id, by simp [idsC], o, by rw [hG1, h.1]⟩
          · rw [upd_ne _ _ _ _ e] at h
            exact (ow.lv b ⟨id', o', h⟩).imp (fun h => h) fun ⟨i2, h2, h3⟩ => ⟨i2, by simp [h2], h3⟩
        · rcases hv.sl_ hG1 with ⟨rfl, A, rfl⟩ | ⟨g', o', c, h, rfl, h3, h4, arr', e', fz', h5, h6⟩
          · exact .slCap _ _ _ _ _ (some (g, o)) (by simp)
          · simp only [Option.some.injEq, Prod.mk.injEq] at h
            obtain ⟨rfl, rfl⟩ := h
            have := RepA.slLive (G := upd G (t + 1000 * k) (1, some (some (g, o)))) (Z := ZB) (w := w1) (t + 1000 * k) 1 sz 0 n g o c (by simp) h3 h4 ⟨arr', e', fz', h5, h6⟩
            exact this
theorem own2_cs (bk : Back2 P GA HA ZA ZB w1 p Gr Ex) : ∀ (rs : List RC) (l : List AV) {k : Nat} {used : List Nat} {G : Ghost} {H : Heap}, Own2 P GA Gr ZB w1 t k used G H → RcsOk HA rs l → rs.all (RC.all p) = true → (idsC l).Nodup → (∀ id ∈ idsC l, id ∉ used ∧ ¬ Ex id) →
    ∃ G' used', Own2 P GA Gr ZB w1 t (nextCs k rs) used' G' (putHcs t k rs H) ∧ (∀ id ∈ used', id ∈ idsC l ∨ id ∈ used) ∧ Keep G ZB w1 G' ZB w1 ∧ Els t G G' ∧ l.length = rs.length ∧ (putCs t k rs).length = rs.length ∧ ∀ (j : Nat) (a b : AV) (v : Value), l[j]? = some a → (putCs t k rs)[j]? = some b → RepA GA ZA w1 a v → RepA G' ZB w1 b v
  | [], l, k, used, G, H, ow, hr, _, _, _ => by
    have : l = [] := hr
    subst this
    exact ⟨G, used, ow, fun id h => .inr h, Keep.refl _ _ _, Els.refl _, rfl, rfl, fun j a b v h => by simp at h⟩
  | r :: rs, l, k, used, G, H, ow, hr, hp, hnd, hu => by
    cases l with
    | nil => exact hr.elim
    | cons a l =>
      obtain ⟨hr1, hr2⟩ := hr
      simp only [List.all_cons, Bool.and_eq_true] at hp
      have hsplit : idsC (a :: l) = idsC [a] ++ idsC l := by cases a <;> rfl
      rw [hsplit] at hnd hu
      obtain ⟨n1, n2, n3⟩ := List.nodup_append.1 hnd
      obtain ⟨G', ow', hk, he, hrep⟩ := own2_c bk ow hr1 hp.1 (fun id hid => hu id (List.mem_append_left _ hid))
      obtain ⟨G'', used', ow'', hus, hk', he', hl1, hl2, hrep'⟩ := own2_cs bk rs l ow' hr2 hp.2 n2 (fun id hid => ⟨fun hmem => by
        rcases List.mem_append.1 hmem with h | h
        · exact n3 id h id hid rfl
        · exact (hu id (List.mem_append_right _ hid)).1 h, (hu id (List.mem_append_right _ hid)).2⟩)
      refine ⟨G'', used', ow'', fun id hid => ?_, hk.tr hk', he.trans he', by simp [hl1], by simp [putCs, hl2], fun j x b v hx hb hv => ?_⟩
      · rw [hsplit]
        rcases hus id hid with h | h
        · exact .inl (List.mem_append_right _ h)
        · rcases List.mem_append.1 h with h | h
          · exact .inl (List.mem_append_left _ h)
          · exact .inr h
      · cases j with
        | zero =>
          simp only [putCs, List.getElem?_cons_zero, Option.some.injEq] at hx hb
          subst hx hb
          exact (hrep v hv).keep hk'
        | succ j => exact hrep' j x b v (by simpa using hx) (by simpa [putCs] using hb) hv
/-- Results, with all ids that stand in them. -/
theorem own2_ss (bk : Back2 P GA HA ZA ZB w1 p Gr Ex) : ∀ (rs : List RS) (l : List AV) {k : Nat} {used : List Nat} {G : Ghost} {H : Heap}, Own2 P GA Gr ZB w1 t k used G H → RsOk HA rs l → rs.all (RS.all p) = true → (idsS l).Nodup → (∀ id ∈ idsS l, id ∉ used ∧ ¬ Ex id) →
    ∃ G' used', Own2 P GA Gr ZB w1 t (nextSs k rs) used' G' (putHs t k rs H) ∧ (∀ id ∈ used', id ∈ idsS l ∨ id ∈ used) ∧ Keep G ZB w1 G' ZB w1 ∧ Els t G G' ∧ l.length = rs.length ∧ (putS t k rs).length = rs.length ∧ ∀ (j : Nat) (a b : AV) (v : Value), l[j]? = some a → (putS t k rs)[j]? = some b → RepA GA ZA w1 a v → RepA G' ZB w1 b v
  | [], l, k, used, G, H, ow, hr, _, _, _ => by
    have : l = [] := hr
    subst this
    exact ⟨G, used, ow, fun id h => .inr h, Keep.refl _ _ _, Els.refl _, rfl, rfl, fun j a b v h => by simp at h⟩
  | .c r :: rs, l, k, used, G, H, ow, hr, hp, hnd, hu => by
    cases l with
    | nil => exact hr.elim
    | cons a l =>
      obtain ⟨hr1, hr2⟩ := hr
      simp only [List.all_cons, Bool.and_eq_true] at hp
      have hna : ∀ cs, a ≠ .agg cs := by
        rintro cs rfl
        cases r with
        | v x => cases hr1
        | own sz n cs => rcases hr1 with ⟨h, _⟩ | ⟨_, _, h, _⟩ <;> cases h
      have hsplit : idsS (a :: l) = idsC [a] ++ idsS l := by cases a <;> first | rfl | exact absurd rfl (hna _)
      rw [hsplit] at hnd hu
      obtain ⟨n1, n2, n3⟩ := List.nodup_append.1 hnd
      obtain ⟨G', ow', hk, he, hrep⟩ := own2_c bk ow hr1 hp.1 (fun id hid => hu id (List.mem_append_left _ hid))
      obtain ⟨G'', used', ow'', hus, hk', he', hl1, hl2, hrep'⟩ := own2_ss bk rs l ow' hr2 hp.2 n2 (fun id hid => ⟨fun hmem => by
        rcases List.mem_append.1 hmem with h | h
        · exact n3 id h id hid rfl
        · exact (hu id (List.mem_append_right _ hid)).1 h, (hu id (List.mem_append_right _ hid)).2⟩)
      refine ⟨G'', used', ow'', fun id hid => ?_, hk.tr hk', he.trans he', by simp [hl1], by simp [putS, hl2], fun j x b v hx hb hv => ?_⟩
      · rw [hsplit]
        rcases hus id hid with h | h
        · exact .inl (List.mem_append_right _ h)
        · rcases List.mem_append.1 h with h | h
          · exact .inl (List.mem_append_left _ h)
          · exact .inr h
      · cases j with
        | zero =>
          simp only [putS, List.getElem?_cons_zero, Option.some.injEq] at hx hb
          subst hx hb
          exact (hrep v hv).keep hk'
        | succ j => exact hrep' j x b v (by simpa using hx) (by simpa [putS] using hb) hv
  | .agg rc :: rs, l, k, used, G, H, ow, hr, hp, hnd, hu => by
    have ⟨cs, l', e, hr1, hr2⟩ : ∃ cs l', l = .agg cs :: l' ∧ RcsOk HA rc cs ∧ RsOk HA rs l' := by
      cases l with
      | nil => exact hr.elim
      | cons a l =>
        cases a <;> try exact hr.elim
        exact ⟨_, _, rfl, hr.1, hr.2⟩
    subst e
    simp only [List.all_cons, Bool.and_eq_true] at hp
    have hsplit : idsS (.agg cs :: l') = idsC cs ++ idsS l' := rfl
    rw [hsplit] at hnd hu
    obtain ⟨n1, n2, n3⟩ := List.nodup_append.1 hnd
    obtain ⟨G', used', ow', hus, hk, he, hc1, hc2, hrep⟩ := own2_cs bk rc cs ow hr1 hp.1 n1 (fun id hid => hu id (List.mem_append_left _ hid))
    obtain ⟨G'', used'', ow'', hus', hk', he', hl1, hl2, hrep'⟩ := own2_ss bk rs l' ow' hr2 hp.2 n2 (fun id hid => ⟨fun hmem => by
      rcases hus id hmem with h | h
      · exact n3 id h id hid rfl
      · exact (hu id (List.mem_append_right _ hid)).1 h, (hu id (List.mem_append_right _ hid)).2⟩)
    refine ⟨G'', used'', ow'', fun id hid => ?_, hk.tr hk', he.trans he', by simp [hl1], by simp [putS, hl2], fun j x b v hx hb hv => ?_⟩
    · rw [hsplit]
      rcases hus' id hid with h | h
      · exact .inl (List.mem_append_right _ h)
      · exact (hus id h).imp (fun h => List.mem_append_left _ h) (fun h => h)
    · cases j with
      | zero =>
        simp only [putS, List.getElem?_cons_zero, Option.some.injEq] at hx hb
        subst hx hb
        obtain ⟨us, rfl, g1, g2, g3⟩ := hv.agg_
        refine .agg _ us (by omega) g2 fun j a u ha hu' => ?_
        have hj := (List.getElem?_eq_some_iff.1 ha).1
        have hx' : cs[j]? = some cs[j] := List.getElem?_eq_getElem (by omega)
        exact (hrep j _ a u hx' ha (g3 j _ u hx' hu')).keep hk'
      | succ j => exact hrep' j x b v (by simpa using hx) (by simpa [putS] using hb) hv
end
end Go.Proofs.YteeemcghdhdodaaDoor
