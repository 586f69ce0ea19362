/-
  The abstract machine: maps with strings for keys. No statement of the seat is proved here; no conditions.
-/
import Derived.Test.YteeemcghdhdodaaDoorEngG2
namespace Go.Proofs.YteeemcghdhdodaaDoor
open Go.RowKit
set_option linter.unusedVariables false
set_option linter.unusedSimpArgs false

theorem mGet_mem {s : ByteArray} {v : Value} : ∀ {m : List (ByteArray × Value)}, mGet s m = some v → (s, v) ∈ m
  | [], h => by cases h
  | (k, x) :: r, h => by
    simp only [mGet] at h
    split at h
    · rename_i e; obtain rfl := Option.some.inj h; subst e; simp
    · exact List.mem_cons_of_mem _ (mGet_mem h)
theorem mGet_none {s : ByteArray} : ∀ {m : List (ByteArray × Value)}, (∀ p ∈ m, p.1 ≠ s) → mGet s m = none
  | [], _ => rfl
  | (k, x) :: r, h => by
    simp only [mGet]
    rw [if_neg (h (k, x) (by simp))]
    exact mGet_none fun p hp => h p (by simp [hp])
theorem mSet_none {s : ByteArray} {x : Value} : ∀ {m : List (ByteArray × Value)}, (∀ p ∈ m, p.1 ≠ s) → mSet s x m = m ++ [(s, x)]
  | [], _ => rfl
  | (k, y) :: r, h => by
    simp only [mSet]
    rw [if_neg (h (k, y) (by simp)), mSet_none fun p hp => h p (by simp [hp])]; rfl
/-- The place of a key. -/
theorem mAt {s : ByteArray} {v x : Value} : ∀ {m : List (ByteArray × Value)} {j : Nat}, (m.map (·.1)).Nodup → m[j]? = some (s, v) → mGet s m = some v ∧ mSet s x m = m.set j (s, x)
  | [], j, _, h => by simp at h
  | (k, y) :: r, 0, hn, h => by
    simp only [List.getElem?_cons_zero, Option.some.injEq, Prod.mk.injEq] at h
    obtain ⟨rfl, rfl⟩ := h
    simp [mGet, mSet]
  | (k, y) :: r, j + 1, hn, h => by
    simp only [List.map_cons, List.nodup_cons] at hn
    have h' : r[j]? = some (s, v) := by simpa using h
    have hne : k ≠ s := fun e => hn.1 (by rw [e]; exact List.mem_map.2 ⟨_, List.mem_of_getElem? h', rfl⟩)
    obtain ⟨h1, h2⟩ := mAt (x := x) hn.2 h'
    simp [mGet, mSet, hne, h1, h2]
theorem mSet_keys {s : ByteArray} {x : Value} : ∀ {m : List (ByteArray × Value)}, (m.map (·.1)).Nodup → ((mSet s x m).map (·.1)).Nodup ∧ ∀ k, k ∈ (mSet s x m).map (·.1) → k = s ∨ k ∈ m.map (·.1)
  | [], _ => by simp [mSet]
  | (k, y) :: r, h => by
    simp only [List.map_cons, List.nodup_cons] at h
    simp only [mSet]
    split
    · rename_i e
      subst e
      simp only [List.map_cons, List.nodup_cons]
      exact ⟨h, fun k' hk => .inr hk⟩
    · rename_i e
      obtain ⟨h1, h2⟩ := mSet_keys (s := s) (x := x) h.2
      simp only [List.map_cons, List.nodup_cons]
      refine ⟨⟨fun hm => ?_, h1⟩, fun k' hk => ?_⟩
      · rcases h2 k hm with h3 | h3
        · exact e h3
        · exact h.1 h3
      · rcases List.mem_cons.1 hk with rfl | hk
        · exact .inr (by simp)
        · exact (h2 k' hk).imp (fun h => h) (fun h => List.mem_cons_of_mem _ h)
section
variable {P : Program} {G : Ghost} {H : Heap} {Z : Nat → Prop} {w : World} {ρ : Operand → AV} {ρc : Operand → Value} {t : Nat} {o : Oper} {v : AV} {H' : Heap}
theorem mapR_key {es : Array MapEntry} {m : List (ByteArray × Value)} (h : MapR es m) : ∀ x ∈ es.toList, MapKept.IsKey .string x.key := fun x hx => by
  obtain ⟨j, hj⟩ := List.getElem?_of_mem hx
  rw [Array.getElem?_toList] at hj
  have hlt := (Array.getElem?_eq_some_iff.1 hj).1
  obtain ⟨e, h1, h2, _⟩ := h.2.2.2 j _ (List.getElem?_eq_getElem (by rw [← h.1]; exact hlt))
  rw [hj] at h1; obtain rfl := Option.some.inj h1
  rw [h2]; trivial
/-- What the search finds. -/
theorem mapR_find {es : Array MapEntry} {m : List (ByteArray × Value)} (h : MapR es m) (s : ByteArray) : (Instr.findNow .string (.string s) es.toList 0 = some none ∧ ∀ p ∈ m, p.1 ≠ s) ∨ ∃ j v, Instr.findNow .string (.string s) es.toList 0 = some (some (j, v)) ∧ m[j]? = some (s, v) := by
  rcases MapKept.findNow_spec (d := .string) (k := .string s) trivial es.toList 0 (mapR_key h) with ⟨h1, h2⟩ | ⟨j, e, h1, h2, h3⟩
  · refine .inl ⟨h1, fun p hp he => ?_⟩
    obtain ⟨j, hj⟩ := List.getElem?_of_mem hp
    obtain ⟨e, g1, g2, _⟩ := h.2.2.2 j p hj
    exact h2 e (Array.mem_toList_iff.2 (Array.mem_of_getElem? g1)) (by rw [g2, he])
  · rw [Array.getElem?_toList] at h2
    have hlt := (Array.getElem?_eq_some_iff.1 h2).1
    have hj : m[j]? = some (m[j]'(by rw [← h.1]; exact hlt)) := List.getElem?_eq_getElem _
    obtain ⟨e', g1, g2, g3⟩ := h.2.2.2 j _ hj
    rw [h2] at g1; obtain rfl := Option.some.inj g1
    rw [g2] at h3
    simp only [Value.string.injEq] at h3
    refine .inr ⟨j, e.val, by simpa using h1, ?_⟩
    rw [hj, g3, ← h3]
theorem mapR_set {es : Array MapEntry} {m : List (ByteArray × Value)} (h : MapR es m) {s : ByteArray} {x v : Value} {j : Nat} (hx : x.oneCell' = true) (hj : m[j]? = some (s, v)) : MapR (es.modify j fun e => { e with key := .string s, val := x }) (m.set j (s, x)) := by
  refine ⟨by simp [h.1], ?_, fun p hp => ?_, fun i p hp => ?_⟩
  · have : (m.set j (s, x)).map (·.1) = m.map (·.1) := by
      rw [List.map_set]
      refine List.ext_getElem? fun i => ?_
      by_cases e : j = i
      · subst e
        have hlt := (List.getElem?_eq_some_iff.1 hj).1
        rw [List.getElem?_set_self (by simpa using hlt), List.getElem?_map, hj]; rfl
      · rw [List.getElem?_set_ne e]
    rw [this]; exact h.2.1
  · rcases List.mem_or_eq_of_mem_set hp with h1 | rfl
    · exact h.2.2.1 p h1
    · exact hx
  · rw [Array.getElem?_modify]
    by_cases e : j = i
    · subst e
      have hlt := (List.getElem?_eq_some_iff.1 hj).1
      rw [List.getElem?_set_self hlt] at hp
      obtain rfl := Option.some.inj hp
      obtain ⟨e, g1, _⟩ := h.2.2.2 j _ hj
      exact ⟨_, by rw [if_pos rfl, g1]; rfl, rfl, rfl⟩
    · rw [List.getElem?_set_ne e] at hp
      obtain ⟨e', g1, g2⟩ := h.2.2.2 i p hp
      exact ⟨e', by rw [if_neg e]; exact g1, g2⟩
theorem mapR_push {es : Array MapEntry} {m : List (ByteArray × Value)} (h : MapR es m) {s : ByteArray} {x : Value} {b : Nat} (hx : x.oneCell' = true) (hn : ∀ p ∈ m, p.1 ≠ s) : MapR (es.push { key := .string s, val := x, born := b }) (m ++ [(s, x)]) := by
  refine ⟨by simp [h.1], ?_, fun p hp => ?_, fun i p hp => ?_⟩
  · rw [List.map_append, List.nodup_append]
    refine ⟨h.2.1, by simp, fun a ha b hb => ?_⟩
    obtain ⟨p, hp, rfl⟩ := List.mem_map.1 ha
    simp at hb; subst hb
    exact hn p hp
  · rcases List.mem_append.1 hp with h1 | h1
    · exact h.2.2.1 p h1
    · simp at h1; subst h1; exact hx
  · rw [Array.getElem?_push]
    rcases Nat.lt_or_ge i m.length with hi | hi
    · rw [List.getElem?_append_left hi] at hp
      obtain ⟨e, g1, g2⟩ := h.2.2.2 i p hp
      exact ⟨e, by rw [if_neg (by rw [h.1]; omega)]; exact g1, g2⟩
    · have : i = m.length := by
        have := (List.getElem?_eq_some_iff.1 hp).1; simp at this; omega
      subst this
      rw [List.getElem?_append_right (Nat.le_refl _)] at hp
      simp at hp; subst hp
      exact ⟨_, by rw [if_pos h.1.symm], rfl, rfl⟩
theorem mapElem_inv {ty kt et : TypeId} (h : mapOf? P ty = some (kt, et)) : P.underlying ty = some (.map kt et) ∧ P.underlying kt = some .string := by
  unfold mapOf? at h
  split at h
  · rename_i k e hu
    split at h
    · rename_i hk
      simp only [Option.some.injEq, Prod.mk.injEq] at h
      obtain ⟨rfl, rfl⟩ := h
      refine ⟨hu, ?_⟩
      unfold isStr at hk
      split at hk
      · assumption
      · cases hk
    · cases h
  · cases h
theorem RepA.fm_ {m : List (ByteArray × Value)} {u : Value} (h : RepA G Z w (.f (.fm m)) u) : ∃ g, u = .map (some g) ∧ ∃ es clock, w.heap[g]? = some (.map es clock) ∧ MapR es m := by
  cases h.f_ with
  | fm _ g hz hb => exact ⟨g, rfl, hb⟩
theorem RepA.map_ {id ver : Nat} {loc : Option (Nat × Nat)} {u : Value} (h : RepA G Z w (.map id ver) u) (e : G id = (ver, some loc)) : ∃ g o, loc = some (g, o) ∧ u = .map (some g) := by
  cases h with
  | mapOld _ _ _ h1 h2 h3 => rw [e] at h2; exact absurd (h2 rfl) (by simp)
  | mapLive _ _ g o h1 =>
    rw [e] at h1
    simp only [Prod.mk.injEq, Option.some.injEq, true_and] at h1
    exact ⟨g, o, h1, rfl⟩
theorem St.maps (st : St P G H Z w) {id ver : Nat} {m : List (ByteArray × Value)} (h : mapOfH ver (H id) = some m) : ∃ g, G id = (ver, some (some (g, 0))) ∧ H id = (ver, some (.map m)) ∧ ∃ es clock, w.heap[g]? = some (.map es clock) ∧ MapR es m := by
  unfold mapOfH at h
  have h1 := st.ver id
  split at h
  · rename_i v m' e
    split at h
    · rename_i hv
      obtain rfl := Option.some.inj h
      obtain ⟨loc, h2, h3⟩ := st.obj id _ (by rw [e])
      subst hv
      cases loc with
      | none => exact h3.elim
      | some p =>
        obtain ⟨g, ob⟩ := p
        obtain ⟨rfl, h4⟩ := h3
        rw [e] at h1
        exact ⟨g, Prod.ext h1 h2, e, h4⟩
    · cases h
  · cases h
theorem ok_mkMap (st : St P G H Z w) (ty : TypeId) (hx : (eff .mkMap ρ t).exec H = some (v, H')) (ho : o.op = .makeMap ty none) : OpOk P (execOp ρc o) G H Z w v H' := by
  simp only [eff] at hx
  obtain ⟨y, h1, rfl⟩ := exec_md hx
  split at h1
  case h_2 => cases h1
  rename_i ver hd
  simp only [Option.some.injEq, Prod.mk.injEq] at h1
  obtain ⟨rfl, rfl⟩ := h1
  have hO : Only w.heap.size w (w.alloc (.map #[] 0)) := Only.alloc w _
  obtain ⟨s1, s2⟩ := st.change t w.heap.size hO (ver + 1, some (some (w.heap.size, 0))) (ver + 1, some (.map [])) (.inl rfl) (.inl (by simp)) rfl (by rw [hd]; simp) (fun h => by rw [hd] at h; simp at h) (.inr (.inr ⟨0, rfl⟩))
    (fun _ arr e fz h => by rw [heap_alloc_new w _] at h; cases h) (fun h => by cases h) (fun ob hob => ⟨_, rfl, fun hk => by
      obtain rfl := Option.some.inj hob
      exact ⟨rfl, #[], 0, heap_alloc_new w _, rfl, List.nodup_nil, fun p hp => by simp at hp, fun i p hp => by simp at hp⟩⟩)
  refine ⟨_, Z, _, .map (some w.heap.size), .inl ?_, s1, s2, .mapLive _ _ _ 0 (by simp)⟩
  simp [execOp, ho, run_makeMap]
theorem plainVal_rep {a : AV} {x u : Value} (h : a.plainVal = some x) (hr : RepA G Z w a u) : u = x ∧ x.oneCell' = true := by
  unfold AV.plainVal at h
  split at h
  · obtain rfl := Option.some.inj h; exact ⟨hr.int_, rfl⟩
  · obtain rfl := Option.some.inj h; exact ⟨hr.bool_, rfl⟩
  · obtain rfl := Option.some.inj h; exact ⟨hr.str_, rfl⟩
  · cases h
theorem ok_mapUpd (st : St P G H Z w) (hρ : ∀ x, RepA G Z w (ρ x) (ρc x)) (ty kt et : TypeId) (m k x : Operand) (ht : mapOf? P ty = some (kt, et)) (hx : (eff (.mapUpd m k x) ρ t).exec H = some (v, H')) (ho : o.op = .mapUpdate ty m k x) : OpOk P (execOp ρc o) G H Z w v H' := by
  have hm := hρ m
  have hk := hρ k
  have hv := hρ x
  obtain ⟨hu, hkt⟩ := mapElem_inv ht
  simp only [eff] at hx
  split at hx
  case h_2 => cases hx
  rename_i id ver s xv e1 e2 e3
  rw [e1] at hm
  rw [e2] at hk
  obtain ⟨y, h1, rfl⟩ := exec_md hx
  split at h1
  case h_2 => cases h1
  rename_i mm hmm
  simp only [Option.some.injEq, Prod.mk.injEq] at h1
  obtain ⟨rfl, rfl⟩ := h1
  obtain ⟨g, hG, hH, es, clock, hb, hR⟩ := st.maps hmm
  obtain ⟨g', ob, hloc, hmv⟩ := hm.map_ hG
  simp only [Option.some.injEq, Prod.mk.injEq] at hloc
  obtain ⟨rfl, rfl⟩ := hloc
  have hks := hk.str_
  obtain ⟨hvx, hone⟩ := plainVal_rep e3 hv
  have hlt := heap_lt hb
  have hGs : upd G id (ver, some (some (g, 0))) = G := upd_self _ _ _ hG
  have fin : ∀ (es' : Array MapEntry) (clock' : Nat), MapR es' (mSet s xv mm) → (Instr.mapUpdate ty (ρc m) (ρc k) (ρc x)).run P w = .ok () { w with heap := w.heap.setIfInBounds g (.map es' clock') } → OpOk P (execOp ρc o) G H Z w .any (upd H id (ver, some (.map (mSet s xv mm)))) := by
    intro es' clock' hR' hrun
    obtain ⟨q1, q2⟩ := MapKept.heap_set (o' := .map es' clock') hb
    have hO : Only g w { w with heap := w.heap.setIfInBounds g (.map es' clock') } := ⟨rfl, rfl, rfl, by simp, fun b _ hne => q2 b hne, fun arr e fz h => by rw [hb] at h; cases h⟩
    obtain ⟨s1, s2⟩ := st.change id g hO (ver, some (some (g, 0))) (ver, some (.map (mSet s xv mm))) (.inr ⟨0, by rw [hG]⟩) (.inl (by simpa using hlt)) rfl (by rw [hH]; exact Nat.le_refl _) (fun _ => .inr (by rw [hG])) (.inr (.inr ⟨0, rfl⟩))
      (fun _ arr e fz h => by
        have h' : (w.heap.setIfInBounds g (.map es' clock'))[g]? = some (.cells arr e fz) := h
        rw [q1] at h'; cases h') (fun h => by cases h) (fun ob hob => ⟨_, rfl, fun hk => by
        obtain rfl := Option.some.inj hob
        exact ⟨rfl, es', clock', q1, hR'⟩⟩)
    rw [hGs] at s1 s2
    refine ⟨G, Z, _, undef, .inr ⟨?_, rfl⟩, s1, s2, .any _⟩
    simp [execOp, ho, hrun]
  have hkey := MapKept.run_checkKey (P := P) (w := w) (k := .string s) hkt trivial false 9999
  rcases mapR_find hR s with ⟨f1, f2⟩ | ⟨j, vv, f1, f2⟩
  · refine fin (es.push { key := .string s, val := xv, born := clock }) (clock + 1) (by rw [mSet_none f2]; exact mapR_push hR hone f2) ?_
    have hfind := MapKept.run_findKey (P := P) (w := w) hkt f1
    have hset := MapKept.run_setObj_map (P := P) (.map (es.push { key := .string s, val := xv, born := clock }) (clock + 1)) hb
    rw [hmv, hks, hvx]
    simp [Instr.mapUpdate, run_underlying hu, MapKept.run_getObj_map hb, hkey, hfind, hset]
  · obtain ⟨g1, g2⟩ := mAt (x := xv) hR.2.1 f2
    refine fin (es.modify j fun e => { e with key := .string s, val := xv }) clock (by rw [g2]; exact mapR_set hR hone f2) ?_
    have hfind := MapKept.run_findKey (P := P) (w := w) hkt f1
    have hset := MapKept.run_setObj_map (P := P) (.map (es.modify j fun e => { e with key := .string s, val := xv }) clock) hb
    obtain ⟨ee, k1, k2, _⟩ := hR.2.2.2 j _ f2
    have hstay : (Instr.keyThatStays (((es[j]?).map (·.key)).getD (.string s)) (.string s)).run P w = .ok (.string s) w := by
      rw [k1]
      simp only [Option.map_some, Option.getD_some, k2]
      unfold Instr.keyThatStays
      rw [if_pos (by simp [Instr.sameBits]; exact (MapKept.bytes_beq s s).2 rfl)]; rfl
    rw [hmv, hks, hvx]
    simp [Instr.mapUpdate, run_underlying hu, MapKept.run_getObj_map hb, hkey, hfind, hstay, hset]
theorem ok_lookup (st : St P G H Z w) (hρ : ∀ x, RepA G Z w (ρ x) (ρc x)) (ty kt et : TypeId) (i : TypeInfo) (z : Value) (ok : Bool) (m k : Operand) (ht : mapOf? P ty = some (kt, et)) (hi : P.info? et = some i) (hz : i.zero = some z) (hx : (eff (.lookup z ok m k) ρ t).exec H = some (v, H')) (ho : o.op = .lookup ty m k ok) : OpOk P (execOp ρc o) G H Z w v H' := by
  have hm := hρ m
  have hk := hρ k
  obtain ⟨hu, hkt⟩ := mapElem_inv ht
  have core : ∀ (g : Nat) (mm : List (ByteArray × Value)) (s : ByteArray), ρc m = .map (some g) → ρc k = .string s → (∃ es clock, w.heap[g]? = some (.map es clock) ∧ MapR es mm) → OpOk P (execOp ρc o) G H Z w (lookV z ok (mGet s mm)) H := by
    rintro g mm s hmv hks ⟨es, clock, hb, hR⟩
    have hkey := MapKept.run_checkKey (P := P) (w := w) (k := .string s) hkt trivial es.isEmpty 9999
    have hzr : (zeroValue et).run P w = .ok z w := by simp [zeroValue, typeInfo, hi, hz]
    rcases mapR_find hR s with ⟨f1, f2⟩ | ⟨j, vv, f1, f2⟩
    · have hfind := MapKept.run_findKey (P := P) (w := w) hkt f1
      rw [mGet_none f2]
      refine OpOk.pure st (u := if ok then .tuple #[z, .bool false] else z) ?_ ?_
      · cases ok <;> simp [execOp, ho, hmv, hks, Instr.lookup, run_underlying hu, MapKept.run_getObj_map hb, hkey, hfind, hzr]
      · cases ok
        · exact .f (RepF.ofValue Z w z)
        · refine .tup _ _ rfl fun j a u ha hu => ?_
          rcases j with _ | _ | j
          · obtain rfl := Option.some.inj ha; obtain rfl := Option.some.inj hu; exact .f (RepF.ofValue Z w z)
          · obtain rfl := Option.some.inj ha; obtain rfl := Option.some.inj hu; exact .f (.bool _)
          · simp [lookV] at ha
    · have hfind := MapKept.run_findKey (P := P) (w := w) hkt f1
      rw [(mAt (x := z) hR.2.1 f2).1]
      refine OpOk.pure st (u := if ok then .tuple #[vv, .bool true] else vv) ?_ ?_
      · cases ok <;> simp [execOp, ho, hmv, hks, Instr.lookup, run_underlying hu, MapKept.run_getObj_map hb, hkey, hfind]
      · cases ok
        · exact .f (RepF.ofValue Z w vv)
        · refine .tup _ _ rfl fun j a u ha hu => ?_
          rcases j with _ | _ | j
          · obtain rfl := Option.some.inj ha; obtain rfl := Option.some.inj hu; exact .f (RepF.ofValue Z w vv)
          · obtain rfl := Option.some.inj ha; obtain rfl := Option.some.inj hu; exact .f (.bool _)
          · simp [lookV] at ha
  simp only [eff] at hx
  split at hx
  · rename_i id ver s e1 e2
    rw [e1] at hm
    rw [e2] at hk
    obtain ⟨h1, rfl⟩ := exec_rd hx
    split at h1
    case h_2 => cases h1
    rename_i mm hmm
    obtain rfl := Option.some.inj h1
    obtain ⟨g, hG, hH, hb⟩ := st.maps hmm
    obtain ⟨g', ob, hloc, hmv⟩ := hm.map_ hG
    simp only [Option.some.injEq, Prod.mk.injEq] at hloc
    obtain ⟨rfl, rfl⟩ := hloc
    exact core g mm s hmv hk.str_ hb
  · rename_i mm s e1 e2
    rw [e1] at hm
    rw [e2] at hk
    obtain ⟨rfl, rfl⟩ := exec_pure hx
    obtain ⟨g, hmv, hb⟩ := hm.fm_
    exact core g mm s hmv hk.str_ hb
  · cases hx
end
end Go.Proofs.YteeemcghdhdodaaDoor
