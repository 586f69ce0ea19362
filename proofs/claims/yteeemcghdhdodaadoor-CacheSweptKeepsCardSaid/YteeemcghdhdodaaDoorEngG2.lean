/-
  The abstract machine: copy, clear, maps with strings for keys. No statement of the seat is proved here; no conditions.
-/
import Derived.Test.YteeemcghdhdodaaDoorEngG
import Derived.Laws.IdiomCopy
import Derived.MapKept
import Derived.Carry
namespace Go.Proofs.YteeemcghdhdodaaDoor
open Go.RowKit
set_option linter.unusedVariables false
set_option linter.unusedSimpArgs false

section
variable {P : Program} {G : Ghost} {H : Heap} {Z : Nat → Prop} {w : World} {ρ : Operand → AV} {ρc : Operand → Value} {t : Nat} {o : Oper} {v : AV} {H' : Heap}

/-- The first k elements of something, as cells. -/
def FstA (P : Program) (G : Ghost) (Z : Nat → Prop) (w : World) (sz k m : Nat) (xv : Value) (news : List AV) : Prop :=
  (Builtin.lenOf xv).run P w = .ok m w ∧ ∃ us : List Value, (Builtin.firstCells sz k xv).run P w = .ok us.toArray w ∧ us.length = news.length ∧ ∀ (i : Nat) (a : AV), news[i]? = some a → ∃ u, us[i]? = some u ∧ u.oneCell' = true ∧ RepA G Z w a u
theorem fst_sl (st : St P G H Z w) {id ver sz off n k : Nat} {cs : List AV} {xv : Value} (hr : RepA G Z w (.sl id ver sz off n) xv) (hc : cellsOf ver (H id) = some cs) (hin : (off + k) * sz ≤ cs.length) (hk : k ≤ n) : FstA P G Z w sz k n xv ((cs.drop (off * sz)).take (k * sz)) := by
  obtain ⟨loc, hG, hob, hH⟩ := st.cells hc
  rcases hr.sl_ hG with ⟨rfl, A, rfl⟩ | ⟨g, o', c, rfl, rfl, _⟩
  · obtain rfl : k = 0 := by omega
    refine ⟨rfl, [], ?_, by simp, fun i a h => by simp at h⟩
    cases A with
    | none => exact run_firstCells_none w sz 0 0 0
    | some a => exact run_firstCells_some w sz 0 a 0 0 [] (by simp) (fun j u h => by simp at h)
  · obtain ⟨arr, et, hh, hcc⟩ := hob
    have hw := ((Wnd.of_row hh hcc).drop (off * sz)).take (k * sz)
    obtain ⟨us, h3, h4, h5, h6⟩ := hw.list
    have hl : us.length = k * sz := by rw [h3, List.length_take, List.length_drop]; rw [Nat.add_mul] at hin; omega
    exact ⟨rfl, us, run_firstCells_some w sz k _ n c us hl (fun j u hu => by rw [Addr.add_mid]; exact h4 j u hu), h3, h6⟩
theorem fst_fr {sz k : Nat} {l : List (List FV)} {xv : Value} (hr : RepA G Z w (.f (.fr sz l)) xv) (hk : k ≤ l.length) : FstA P G Z w sz k l.length xv ((l.flatten.map .f).take (k * sz)) := by
  obtain ⟨A, c, rfl, h1, h2, hlen, hw⟩ := fr_wnd hr
  rcases Nat.eq_zero_or_pos l.length with h0 | h0
  · obtain rfl : k = 0 := by omega
    refine ⟨rfl, [], ?_, by simp, fun i a h => by simp at h⟩
    cases A with
    | none => exact run_firstCells_none w sz 0 _ c
    | some a => exact run_firstCells_some w sz 0 a _ c [] (by simp) (fun j u h => by simp at h)
  · obtain ⟨b, o', rfl, hb, hw⟩ := hw h0
    obtain ⟨us, h3, h4, h5, h6⟩ := (hw.take (k * sz)).list
    have hl : us.length = k * sz := by
      rw [h3, List.length_take, List.length_map, flatten_len l hlen]
      have : k * sz ≤ l.length * sz := Nat.mul_le_mul_right _ hk
      omega
    exact ⟨rfl, us, run_firstCells_some w sz k _ l.length c us hl (fun j u hu => by rw [Addr.add_mid]; exact h4 j u hu), h3, h6⟩
theorem fst_nil {sz : Nat} {xv : Value} (hr : RepA G Z w (.f .nil) xv) : FstA P G Z w sz 0 0 xv [] := by
  obtain ⟨A, rfl⟩ := hr.nil_
  refine ⟨rfl, [], ?_, rfl, fun i a h => by simp at h⟩
  cases A with
  | none => exact run_firstCells_none w sz 0 0 0
  | some a => exact run_firstCells_some w sz 0 a 0 0 [] (by simp) (fun j u h => by simp at h)
theorem splice_nil {cs : List AV} {k : Nat} : splice cs k [] = cs := by cases cs <;> rfl
/-- 'copy' into an object. -/
theorem copy_any (st : St P G H Z w) {dT sT e : TypeId} {i : TypeInfo} {tt : TypeId} {sz : Nat} (hu : P.underlying dT = some (.slice e)) (hi : P.info? e = some i) (hsz : i.size = sz)
    {id ver off n m : Nat} {cs : List AV} {dv xv : Value} (hr : RepA G Z w (.sl id ver sz off n) dv) (hc : cellsOf ver (H id) = some cs) {news : List AV} (hf : FstA P G Z w sz (min m n) m xv news) (hnl : news.length = min m n * sz) (hin : (off + min m n) * sz ≤ cs.length) :
    ∃ w', (Builtin.copy_ #[dT, sT] tt #[dv, xv]).run P w = .ok (.int .i64 (min m n : Nat)) w' ∧ St P G (upd H id (ver, some (.cells (splice cs (off * sz) news)))) Z w' ∧ Step G Z w G Z w' := by
  subst hsz
  obtain ⟨hl, us, hf, hul, hus⟩ := hf
  obtain ⟨loc, hG, hob, hH⟩ := st.cells hc
  rcases hr.sl_ hG with ⟨rfl, A, rfl⟩ | ⟨g, o', c, rfl, rfl, hnc, hcm, _⟩
  · have h0 : min m 0 = 0 := Nat.min_zero m
    rw [h0] at hf hnl
    have hn0 : news = [] := List.eq_nil_of_length_eq_zero (by simpa using hnl)
    have hu0 : us = [] := List.eq_nil_of_length_eq_zero (by rw [hul, hn0]; rfl)
    subst hn0 hu0
    refine ⟨w, ?_, ?_, Step.refl _ _ _⟩
    · cases A <;> simp [Builtin.copy_, run_underlying hu, sizeOf, typeInfo, hi, hl, hf, storeCells, goInt]
    · rw [splice_nil, upd_self _ _ _ hH]; exact st
  · obtain ⟨arr, et, hh, hcc⟩ := hob
    have hcell : ∀ j, j < us.length → (w.cell? ⟨g, o' + off * i.size + 0 + j, none⟩).isSome = true := fun j hj => by
      rw [Nat.add_zero, Nat.add_assoc, cell_of_row w g _ arr et (0, 0) hh]
      rw [Nat.add_mul] at hin
      obtain ⟨u, h1, _⟩ := hcc (off * i.size + j) _ (List.getElem?_eq_getElem (by omega))
      rw [h1]; rfl
    have hone : ∀ v ∈ us, v.oneCell' = true := fun v hv => by
      obtain ⟨j, hj⟩ := List.getElem?_of_mem hv
      have hjl := (List.getElem?_eq_some_iff.1 hj).1
      obtain ⟨u, h1, h2, _⟩ := hus j _ (List.getElem?_eq_getElem (by omega))
      rw [hj] at h1; obtain rfl := Option.some.inj h1; exact h2
    have hst := run_storeCells_cells (P := P) g (o' + off * i.size) us 0 w hcell (fun j hj => by simp [World.frozen?, hh]) hone
    rw [Nat.add_zero] at hst
    obtain ⟨s1, s2⟩ := st.write (off := off * i.size) hH hG (xs := news) (vs := us) hul (by rw [Nat.add_mul] at hin; omega) hus
    refine ⟨_, ?_, s1, s2⟩
    simp [Builtin.copy_, run_underlying hu, sizeOf, typeInfo, hi, hl, hf, hst, goInt]
theorem ok_copy (st : St P G H Z w) (hρ : ∀ x, RepA G Z w (ρ x) (ρc x)) (dT sT e : TypeId) (sz : Nat) (d s : Operand) (he : elemOf? P dT = some e) (hs : sizeOf? P e = some sz)
    (hx : (eff (.copy sz d s) ρ t).exec H = some (v, H')) (c : Call) (ho : o.op = .call c) (hc : c.callee = .builtin .copy) (hargs : c.args = #[d, s]) (hat : c.argTypes = #[dT, sT]) : OpOk P (execOp ρc o) G H Z w v H' := by
  have ha := hρ d
  have hb := hρ s
  have hu := elemOf_inv he
  obtain ⟨i, hi, hsz⟩ : ∃ i, P.info? e = some i ∧ i.size = sz := by
    unfold sizeOf? at hs
    cases hi : P.info? e with
    | none => rw [hi] at hs; cases hs
    | some i => rw [hi] at hs; exact ⟨i, rfl, by simpa using hs⟩
  have fin : ∀ {id ver off n m : Nat} {cs news : List AV}, RepA G Z w (.sl id ver sz off n) (ρc d) → cellsOf ver (H id) = some cs → FstA P G Z w sz (min m n) m (ρc s) news → news.length = min m n * sz → (off + min m n) * sz ≤ cs.length →
      v = .f (.int .i64 (min m n : Nat)) → H' = upd H id (ver, some (.cells (splice cs (off * sz) news))) → OpOk P (execOp ρc o) G H Z w v H' := by
    rintro id ver off n m cs news h1 h2 h3 h4 h5 rfl rfl
    obtain ⟨w', g1, g2, g3⟩ := copy_any (dT := dT) (sT := sT) (tt := o.type) st hu hi hsz h1 h2 h3 h4 h5
    exact ⟨G, Z, w', _, .inl (by simp [execOp, ho, resolve, hc, hargs, hat, invoke, builtin, g1]), g2, g3, .f (.int _ _)⟩
  simp only [eff] at hx
  split at hx
  · rename_i id ver sz1 off n id2 ver2 sz2 off2 n2 e1 e2
    split at hx
    case isFalse => cases hx
    rename_i hc2
    obtain ⟨rfl, rfl⟩ := hc2
    rw [e1] at ha
    rw [e2] at hb
    split at hx
    · rename_i hid
      subst hid
      obtain ⟨y, h1, rfl⟩ := exec_md hx
      unfold copyS at h1
      split at h1
      case h_2 => cases h1
      rename_i cs hcs
      split at h1
      case isFalse => cases h1
      rename_i hcond
      obtain ⟨rfl, hin, hin2⟩ := hcond
      simp only [Option.some.injEq, Prod.mk.injEq] at h1
      obtain ⟨rfl, rfl⟩ := h1
      exact fin ha hcs (fst_sl st hb hcs hin2 (Nat.min_le_left _ _)) (by rw [List.length_take, List.length_drop]; rw [Nat.add_mul] at hin2; omega) hin rfl rfl
    · obtain ⟨y, h1, rfl⟩ := exec_rm hx
      unfold copyR at h1
      split at h1
      case h_2 => cases h1
      rename_i cs2 cs hcs2 hcs
      split at h1
      case isFalse => cases h1
      rename_i hcond
      obtain ⟨hin, hin2⟩ := hcond
      simp only [Option.some.injEq, Prod.mk.injEq] at h1
      obtain ⟨rfl, rfl⟩ := h1
      exact fin ha hcs (fst_sl st hb hcs2 hin2 (Nat.min_le_left _ _)) (by rw [List.length_take, List.length_drop]; rw [Nat.add_mul] at hin2; omega) hin rfl rfl
  · rename_i id ver sz1 off n sz2 l e1 e2
    split at hx
    case isFalse => cases hx
    rename_i hc2
    obtain ⟨rfl, rfl⟩ := hc2
    rw [e1] at ha
    rw [e2] at hb
    obtain ⟨y, h1, rfl⟩ := exec_md hx
    unfold copyN at h1
    split at h1
    case h_2 => cases h1
    rename_i cs hcs
    split at h1
    case isFalse => cases h1
    rename_i hin
    simp only [Option.some.injEq, Prod.mk.injEq] at h1
    obtain ⟨rfl, rfl⟩ := h1
    have hlen : ∀ x ∈ l, x.length = sz2 := (fr_wnd hb).elim fun _ h => h.elim fun _ h => h.2.2.2.1
    refine fin ha hcs (fst_fr hb (Nat.min_le_left _ _)) ?_ hin rfl rfl
    rw [List.length_take, List.length_map, flatten_len l hlen]
    have : min l.length n * sz2 ≤ l.length * sz2 := Nat.mul_le_mul_right _ (Nat.min_le_left _ _)
    omega
  · rename_i id ver sz1 off n e1 e2
    split at hx
    case isFalse => cases hx
    rename_i hc2
    subst hc2
    rw [e1] at ha
    rw [e2] at hb
    obtain ⟨y, h1, rfl⟩ := exec_md hx
    unfold copyN at h1
    split at h1
    case h_2 => cases h1
    rename_i cs hcs
    split at h1
    case isFalse => cases h1
    rename_i hin
    simp only [Option.some.injEq, Prod.mk.injEq, List.take_nil] at h1
    obtain ⟨rfl, rfl⟩ := h1
    exact fin (m := 0) ha hcs (by rw [Nat.zero_min]; exact fst_nil hb) (by simp) hin rfl rfl
  · cases hx
/-- A whole array stands for a list. -/
def Arr (R : AV → Value → Prop) (arr : Array Value) (cs : List AV) : Prop := arr.size = cs.length ∧ CellsR R arr 0 cs
theorem arr_zero {zv : Value} (h : zv.cells.toList.all (·.oneCell') = true) : Arr (RepA G Z w) zv.cells ((zv.cells.toList.map FV.ofValue).map .f) :=
  ⟨by simp, cellsR_zero h⟩
theorem arr_zeros {zv : Value} {n sz : Nat} (hone : zv.cells.toList.all (·.oneCell') = true) (hzs : zv.cells.size = sz) : Arr (RepA G Z w) (madeCells zv.cells (n * sz)) (zeros n (zv.cells.toList.map FV.ofValue)) := by
  have hun : ∀ y ∈ List.replicate n (zv.cells.toList.map FV.ofValue), y.length = sz := fun y hy => by
    rw [List.eq_of_mem_replicate hy, List.length_map, Array.length_toList]; omega
  refine ⟨by rw [size_madeCells, zeros, List.length_map, flatten_len _ hun, List.length_replicate], fun j a ha => ?_⟩
  unfold zeros at ha
  rw [List.getElem?_map] at ha
  obtain ⟨x, hx, rfl⟩ := Option.map_eq_some_iff.1 ha
  obtain ⟨k, jj, y, h3, h4, rfl, h5⟩ := flatten_get _ hun j x hx
  have hk := (List.getElem?_eq_some_iff.1 h3).1
  rw [List.length_replicate] at hk
  have hy : y = zv.cells.toList.map FV.ofValue := List.eq_of_mem_replicate (List.mem_of_getElem? h3)
  subst hy
  rw [List.getElem?_map] at h4
  obtain ⟨u, hu, rfl⟩ := Option.map_eq_some_iff.1 h4
  rw [Array.getElem?_toList] at hu
  refine ⟨u, ?_, List.all_eq_true.1 hone u (Array.mem_toList_iff.2 (Array.mem_of_getElem? hu)), .f (RepF.ofValue Z w u)⟩
  rw [Nat.zero_add]
  have hlt : k * sz + jj < n * sz := by
    have : (k + 1) * sz ≤ n * sz := Nat.mul_le_mul_right _ (by omega)
    rw [Nat.add_mul] at this; omega
  unfold madeCells
  rw [Array.getElem?_map, Array.getElem?_eq_getElem (by simpa using hlt)]
  simp only [Array.getElem_range, Option.map_some, Option.some.injEq]
  have hmod : (k * sz + jj) % zv.cells.size = jj := by
    rw [hzs, Nat.mul_comm, Nat.mul_add_mod]; exact Nat.mod_eq_of_lt h5
  rw [hmod]
  obtain ⟨hlt2, he2⟩ := Array.getElem?_eq_some_iff.1 hu
  rw [getElem!_pos zv.cells jj hlt2]; exact he2
theorem zeros_nil {z : List FV} : zeros 0 z = [] := rfl
/-- 'clear' of a slice. -/
theorem ok_clear (st : St P G H Z w) (hρ : ∀ x, RepA G Z w (ρ x) (ρc x)) (ty e : TypeId) (sz : Nat) (z : List FV) (x : Operand) (he : elemOf? P ty = some e) (hs : sizeOf? P e = some sz) (hz : zeroCellsOf P e = some z)
    (hx : (eff (.clear sz z x) ρ t).exec H = some (v, H')) (c : Call) (ho : o.op = .call c) (hc : c.callee = .builtin .clear) (hargs : c.args = #[x]) (hat : c.argTypes = #[ty]) : OpOk P (execOp ρc o) G H Z w v H' := by
  have ha := hρ x
  have hu := elemOf_inv he
  obtain ⟨i, zv, hi, hzv, hone, hzs, rfl⟩ := zeroCells_inv hz
  have hsz : i.size = sz := by unfold sizeOf? at hs; rw [hi] at hs; simpa using hs
  simp only [eff] at hx
  split at hx
  case h_2 => cases hx
  rename_i id ver sz1 off n e1
  split at hx
  case isFalse => cases hx
  rename_i hs1
  subst hs1
  rw [e1] at ha
  obtain ⟨y, h1, rfl⟩ := exec_md hx
  split at h1
  case h_2 => cases h1
  rename_i cs hcs
  split at h1
  case isFalse => cases h1
  rename_i hin
  simp only [Option.some.injEq, Prod.mk.injEq] at h1
  obtain ⟨rfl, rfl⟩ := h1
  obtain ⟨loc, hG, hob, hH⟩ := st.cells hcs
  have hzl : (zeros n (zv.cells.toList.map FV.ofValue)).length = n * sz1 := by
    rw [zeros, List.length_map, flatten_len (sz := sz1) _ (fun y hy => by rw [List.eq_of_mem_replicate hy, List.length_map, Array.length_toList]; omega), List.length_replicate]
  rcases ha.sl_ hG with ⟨rfl, A, hv⟩ | ⟨g, o', c', rfl, hv, hnc, hcm, _⟩
  · refine ⟨G, Z, w, .tuple #[], .inl ?_, ?_, Step.refl _ _ _, .tup _ _ rfl fun j a u h => by simp at h⟩
    · cases A <;> simp [execOp, ho, resolve, hc, hargs, hat, invoke, builtin, Builtin.clear_, run_underlying hu, hv]
    · rw [zeros_nil, splice_nil, upd_self _ _ _ hH]; exact st
  · obtain ⟨arr, et, hh, hcc⟩ := hob
    rcases Nat.eq_zero_or_pos n with h0 | h0
    · subst h0
      refine ⟨G, Z, w, .tuple #[], .inl ?_, ?_, Step.refl _ _ _, .tup _ _ rfl fun j a u h => by simp at h⟩
      · simp [execOp, ho, resolve, hc, hargs, hat, invoke, builtin, Builtin.clear_, run_underlying hu, hv]
      · rw [zeros_nil, splice_nil, upd_self _ _ _ hH]; exact st
    have hzc : ∀ (j : Nat) (a : AV), (zeros n (zv.cells.toList.map FV.ofValue))[j]? = some a → ∃ u, (Builtin.zeroCells zv.cells n).toList[j]? = some u ∧ u.oneCell' = true ∧ RepA G Z w a u := by
      intro j a ha
      obtain ⟨u, h1, h2, h3⟩ := (arr_zeros (G := G) (Z := Z) (w := w) (n := n) (sz := sz1) hone (by omega)).2 j a ha
      have hzm : Builtin.zeroCells zv.cells n = madeCells zv.cells (n * sz1) := by
        unfold Builtin.zeroCells madeCells
        rw [show zv.cells.size = sz1 by omega]
      rw [Nat.zero_add] at h1
      exact ⟨u, by rw [Array.getElem?_toList, hzm]; exact h1, h2, h3⟩
    have hzlen : (Builtin.zeroCells zv.cells n).toList.length = n * sz1 := by rw [Array.length_toList, size_zeroCells, show zv.cells.size = sz1 by omega]
    have hcell : ∀ j, j < (Builtin.zeroCells zv.cells n).toList.length → (w.cell? ⟨g, o' + off * sz1 + 0 + j, none⟩).isSome = true := fun j hj => by
      rw [Nat.add_zero, Nat.add_assoc, cell_of_row w g _ arr et (0, 0) hh]
      rw [Nat.add_mul] at hin
      obtain ⟨u, h1, _⟩ := hcc (off * sz1 + j) _ (List.getElem?_eq_getElem (by omega))
      rw [h1]; rfl
    have hst := run_storeCells_cells (P := P) g (o' + off * sz1) (Builtin.zeroCells zv.cells n).toList 0 w hcell (fun j hj => by simp [World.frozen?, hh]) (fun u hu => by
      obtain ⟨j, hj⟩ := List.getElem?_of_mem hu
      rw [Array.getElem?_toList] at hj
      exact ones_zeros hone j u hj)
    rw [Nat.add_zero] at hst
    obtain ⟨s1, s2⟩ := st.write (off := off * sz1) hH hG (xs := zeros n (zv.cells.toList.map FV.ofValue)) (vs := (Builtin.zeroCells zv.cells n).toList) (by rw [hzlen, hzl]) (by rw [Nat.add_mul] at hin; omega) hzc
    refine ⟨G, Z, _, .tuple #[], .inl ?_, s1, s2, .tup _ _ rfl fun j a u h => by simp at h⟩
    obtain ⟨n', rfl⟩ : ∃ n', n = n' + 1 := ⟨n - 1, by omega⟩
    simp [execOp, ho, resolve, hc, hargs, hat, invoke, builtin, Builtin.clear_, run_underlying hu, hv, zeroValue, typeInfo, hi, hzv, hst]
end
end Go.Proofs.YteeemcghdhdodaaDoor
