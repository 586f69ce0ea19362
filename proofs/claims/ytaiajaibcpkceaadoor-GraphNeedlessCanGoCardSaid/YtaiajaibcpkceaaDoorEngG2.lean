/-
  The abstract machine: copy, clear, maps with strings for keys. No statement of the seat is proved here; no conditions.
-/
import Derived.Test.YtaiajaibcpkceaaDoorEngG
import Derived.Laws.IdiomCopy
import Derived.MapKept
import Derived.Carry
import Derived.Laws.BytesString
import Derived.Lib.ConvBytes
namespace Go.Proofs.YtaiajaibcpkceaaDoor
open Go.RowKit
set_option linter.unusedVariables false
set_option linter.unusedSimpArgs false

section
variable {P : Program} {G : Ghost} {H : Heap} {Z : Nat → Prop} {w : World} {ρ : Operand → AV} {ρc : Operand → Value} {t : Nat} {o : Oper} {v : AV} {H' : Heap}

/-- The first k elements of something, as cells. -/
def FstA (P : Program) (G : Ghost) (Z : Nat → Prop) (w : World) (sz k m : Nat) (xv : Value) (news : List AV) : Prop :=
  (Builtin.lenOf xv).run P w = .ok m w ∧ ∃ us : List Value, (Builtin.firstCells sz k xv).run P w = .ok us.toArray w ∧ us.length = news.length ∧ ∀ (i : Nat) (a : AV), news[i]? = some a → ∃ u, us[i]? = some u ∧ u.oneCell' = true ∧ RepA G Z w a u
theorem fst_sl (st : St P G H Z w) {id ver sz off n k : Nat} {cs : List AV} {xv : Value} (hr : RepA G Z w (.sl id ver sz off n) xv) (hc : cellsOf ver (H id) = some cs) (hin : (off + k) * sz ≤ cs.length) (hk : k ≤ n) : FstA P G Z w sz k n xv ((cs.drop (off * sz)).take (k * sz)) := by
  obtain ⟨loc, hG, hob, hH⟩ := st.cells hc
  rcases hr.sl_ hG with ⟨rfl, A, rfl⟩ | ⟨g, o', c, rfl, rfl, _⟩
  · obtain rfl : k = 0 := by omega
    refine ⟨rfl, [], ?_, by simp, fun i a h => by simp at h⟩
    cases A with
    | none => exact run_firstCells_none w sz 0 0 0
    | some a => exact run_firstCells_some w sz 0 a 0 0 [] (by simp) (fun j u h => by simp at h)
  · obtain ⟨arr, et, hh, hcc⟩ := hob
    have hw := ((Wnd.of_row hh hcc).drop (off * sz)).take (k * sz)
    obtain ⟨us, h3, h4, h5, h6⟩ := hw.list
    have hl : us.length = k * sz := by rw [h3, List.length_take, List.length_drop]; rw [Nat.add_mul] at hin; omega
    exact ⟨rfl, us, run_firstCells_some w sz k _ n c us hl (fun j u hu => by rw [Addr.add_mid]; exact h4 j u hu), h3, h6⟩
theorem fst_fr {sz k : Nat} {l : List (List FV)} {xv : Value} (hr : RepA G Z w (.f (.fr sz l)) xv) (hk : k ≤ l.length) : FstA P G Z w sz k l.length xv ((l.flatten.map .f).take (k * sz)) := by
  obtain ⟨A, c, rfl, h1, h2, hlen, hw⟩ := fr_wnd hr
  rcases Nat.eq_zero_or_pos l.length with h0 | h0
  · obtain rfl : k = 0 := by omega
    refine ⟨rfl, [], ?_, by simp, fun i a h => by simp at h⟩
    cases A with
    | none => exact run_firstCells_none w sz 0 _ c
    | some a => exact run_firstCells_some w sz 0 a _ c [] (by simp) (fun j u h => by simp at h)
  · obtain ⟨b, o', rfl, hb, hw⟩ := hw h0
    obtain ⟨us, h3, h4, h5, h6⟩ := (hw.take (k * sz)).list
    have hl : us.length = k * sz := by
      rw [h3, List.length_take, List.length_map, flatten_len l hlen]
      have : k * sz ≤ l.length * sz := Nat.mul_le_mul_right _ hk
      omega
    exact ⟨rfl, us, run_firstCells_some w sz k _ l.length c us hl (fun j u hu => by rw [Addr.add_mid]; exact h4 j u hu), h3, h6⟩
theorem fst_nil {sz : Nat} {xv : Value} (hr : RepA G Z w (.f .nil) xv) : FstA P G Z w sz 0 0 xv [] := by
  obtain ⟨A, rfl⟩ := hr.nil_
  refine ⟨rfl, [], ?_, rfl, fun i a h => by simp at h⟩
  cases A with
  | none => exact run_firstCells_none w sz 0 0 0
  | some a => exact run_firstCells_some w sz 0 a 0 0 [] (by simp) (fun j u h => by simp at h)
theorem splice_nil {cs : List AV} {k : Nat} : splice cs k [] = cs := by cases cs <;> rfl
/-- 'copy' into an object. -/
theorem copy_any (st : St P G H Z w) {dT sT e : TypeId} {i : TypeInfo} {tt : TypeId} {sz : Nat} (hu : P.underlying dT = some (.slice e)) (hi : P.info? e = some i) (hsz : i.size = sz)
    {id ver off n m : Nat} {cs : List AV} {dv xv : Value} (hr : RepA G Z w (.sl id ver sz off n) dv) (hc : cellsOf ver (H id) = some cs) {news : List AV} (hf : FstA P G Z w sz (min m n) m xv news) (hnl : news.length = min m n * sz) (hin : (off + min m n) * sz ≤ cs.length) :
    ∃ w', (Builtin.copy_ #[dT, sT] tt #[dv, xv]).run P w = .ok (.int .i64 (min m n : Nat)) w' ∧ St P G (upd H id (ver, some (.cells (splice cs (off * sz) news)))) Z w' ∧ Step G Z w G Z w' := by
  subst hsz
  obtain ⟨hl, us, hf, hul, hus⟩ := hf
  obtain ⟨loc, hG, hob, hH⟩ := st.cells hc
  rcases hr.sl_ hG with ⟨rfl, A, rfl⟩ | ⟨g, o', c, rfl, rfl, hnc, hcm, _⟩
  · have h0 : min m 0 = 0 := Nat.min_zero m
    rw [h0] at hf hnl
    have hn0 : news = [] := List.eq_nil_of_length_eq_zero (by simpa using hnl)
    have hu0 : us = [] := List.eq_nil_of_length_eq_zero (by rw [hul, hn0]; rfl)
    subst hn0 hu0
    refine ⟨w, ?_, ?_, Step.refl _ _ _⟩
    · cases A <;> simp [Builtin.copy_, run_underlying hu, sizeOf, typeInfo, hi, hl, hf, storeCells, goInt]
    · rw [splice_nil, upd_self _ _ _ hH]; exact st
  · obtain ⟨arr, et, hh, hcc⟩ := hob
    have hcell : ∀ j, j < us.length → (w.cell? ⟨g, o' + off * i.size + 0 + j, none⟩).isSome = true := fun j hj => by
      rw [Nat.add_zero, Nat.add_assoc, cell_of_row w g _ arr et (0, 0) hh]
      rw [Nat.add_mul] at hin
      obtain ⟨u, h1, _⟩ := hcc (off * i.size + j) _ (List.getElem?_eq_getElem (by omega))
      rw [h1]; rfl
    have hone : ∀ v ∈ us, v.oneCell' = true := fun v hv => by
      obtain ⟨j, hj⟩ := List.getElem?_of_mem hv
      have hjl := (List.getElem?_eq_some_iff.1 hj).1
      obtain ⟨u, h1, h2, _⟩ := hus j _ (List.getElem?_eq_getElem (by omega))
      rw [hj] at h1; obtain rfl := Option.some.inj h1; exact h2
    have hst := run_storeCells_cells (P := P) g (o' + off * i.size) us 0 w hcell (fun j hj => by simp [World.frozen?, hh]) hone
    rw [Nat.add_zero] at hst
    obtain ⟨s1, s2⟩ := st.write (off := off * i.size) hH hG (xs := news) (vs := us) hul (by rw [Nat.add_mul] at hin; omega) hus
    refine ⟨_, ?_, s1, s2⟩
    simp [Builtin.copy_, run_underlying hu, sizeOf, typeInfo, hi, hl, hf, hst, goInt]
theorem ok_copy (st : St P G H Z w) (hρ : ∀ x, RepA G Z w (ρ x) (ρc x)) (dT sT e : TypeId) (sz : Nat) (d s : Operand) (he : elemOf? P dT = some e) (hs : sizeOf? P e = some sz)
    (hx : (eff (.copy sz d s) ρ t).exec H = some (v, H')) (c : Call) (ho : o.op = .call c) (hc : c.callee = .builtin .copy) (hargs : c.args = #[d, s]) (hat : c.argTypes = #[dT, sT]) : OpOk P (execOp ρc o) G H Z w v H' := by
  have ha := hρ d
  have hb := hρ s
  have hu := elemOf_inv he
  obtain ⟨i, hi, hsz⟩ : ∃ i, P.info? e = some i ∧ i.size = sz := by
    unfold sizeOf? at hs
    cases hi : P.info? e with
    | none => rw [hi] at hs; cases hs
    | some i => rw [hi] at hs; exact ⟨i, rfl, by simpa using hs⟩
  have fin : ∀ {id ver off n m : Nat} {cs news : List AV}, RepA G Z w (.sl id ver sz off n) (ρc d) → cellsOf ver (H id) = some cs → FstA P G Z w sz (min m n) m (ρc s) news → news.length = min m n * sz → (off + min m n) * sz ≤ cs.length →
      v = .f (.int .i64 (min m n : Nat)) → H' = upd H id (ver, some (.cells (splice cs (off * sz) news))) → OpOk P (execOp ρc o) G H Z w v H' := by
    rintro id ver off n m cs news h1 h2 h3 h4 h5 rfl rfl
    obtain ⟨w', g1, g2, g3⟩ := copy_any (dT := dT) (sT := sT) (tt := o.type) st hu hi hsz h1 h2 h3 h4 h5
    exact ⟨G, Z, w', _, .inl (by simp [execOp, ho, resolve, hc, hargs, hat, invoke, builtin, g1]), g2, g3, .f (.int _ _)⟩
  simp only [eff] at hx
  split at hx
  · rename_i id ver sz1 off n id2 ver2 sz2 off2 n2 e1 e2
    split at hx
    case isFalse => cases hx
    rename_i hc2
    obtain ⟨rfl, rfl⟩ := hc2
    rw [e1] at ha
    rw [e2] at hb
    split at hx
    · rename_i hid
      subst hid
      obtain ⟨y, h1, rfl⟩ := exec_md hx
      unfold copyS at h1
      split at h1
      case h_2 => cases h1
      rename_i cs hcs
      split at h1
      case isFalse => cases h1
      rename_i hcond
      obtain ⟨rfl, hin, hin2⟩ := hcond
      simp only [Option.some.injEq, Prod.mk.injEq] at h1
      obtain ⟨rfl, rfl⟩ := h1
      exact fin ha hcs (fst_sl st hb hcs hin2 (Nat.min_le_left _ _)) (by rw [List.length_take, List.length_drop]; rw [Nat.add_mul] at hin2; omega) hin rfl rfl
    · obtain ⟨y, h1, rfl⟩ := exec_rm hx
      unfold copyR at h1
      split at h1
      case h_2 => cases h1
      rename_i cs2 cs hcs2 hcs
      split at h1
      case isFalse => cases h1
      rename_i hcond
      obtain ⟨hin, hin2⟩ := hcond
      simp only [Option.some.injEq, Prod.mk.injEq] at h1
      obtain ⟨rfl, rfl⟩ := h1
      exact fin ha hcs (fst_sl st hb hcs2 hin2 (Nat.min_le_left _ _)) (by rw [List.length_take, List.length_drop]; rw [Nat.add_mul] at hin2; omega) hin rfl rfl
  · rename_i id ver sz1 off n sz2 l e1 e2
    split at hx
    case isFalse => cases hx
    rename_i hc2
    obtain ⟨rfl, rfl⟩ := hc2
    rw [e1] at ha
    rw [e2] at hb
    obtain ⟨y, h1, rfl⟩ := exec_md hx
    unfold copyN at h1
    split at h1
    case h_2 => cases h1
    rename_i cs hcs
    split at h1
    case isFalse => cases h1
    rename_i hin
    simp only [Option.some.injEq, Prod.mk.injEq] at h1
    obtain ⟨rfl, rfl⟩ := h1
    have hlen : ∀ x ∈ l, x.length = sz2 := (fr_wnd hb).elim fun _ h => h.elim fun _ h => h.2.2.2.1
    refine fin ha hcs (fst_fr hb (Nat.min_le_left _ _)) ?_ hin rfl rfl
    rw [List.length_take, List.length_map, flatten_len l hlen]
    have : min l.length n * sz2 ≤ l.length * sz2 := Nat.mul_le_mul_right _ (Nat.min_le_left _ _)
    omega
  · rename_i id ver sz1 off n e1 e2
    split at hx
    case isFalse => cases hx
    rename_i hc2
    subst hc2
    rw [e1] at ha
    rw [e2] at hb
    obtain ⟨y, h1, rfl⟩ := exec_md hx
    unfold copyN at h1
    split at h1
    case h_2 => cases h1
    rename_i cs hcs
    split at h1
    case isFalse => cases h1
    rename_i hin
    simp only [Option.some.injEq, Prod.mk.injEq, List.take_nil] at h1
    obtain ⟨rfl, rfl⟩ := h1
    exact fin (m := 0) ha hcs (by rw [Nat.zero_min]; exact fst_nil hb) (by simp) hin rfl rfl
  · cases hx
/-- A whole array stands for a list. -/
def Arr (R : AV → Value → Prop) (arr : Array Value) (cs : List AV) : Prop := arr.size = cs.length ∧ CellsR R arr 0 cs
theorem arr_zero {zv : Value} (h : zv.cells.toList.all (·.oneCell') = true) : Arr (RepA G Z w) zv.cells ((zv.cells.toList.map FV.ofValue).map .f) :=
  ⟨by simp, cellsR_zero h⟩
theorem arr_zeros {zv : Value} {n sz : Nat} (hone : zv.cells.toList.all (·.oneCell') = true) (hzs : zv.cells.size = sz) : Arr (RepA G Z w) (madeCells zv.cells (n * sz)) (zeros n (zv.cells.toList.map FV.ofValue)) := by
  have hun : ∀ y ∈ List.replicate n (zv.cells.toList.map FV.ofValue), y.length = sz := fun y hy => by
    rw [List.eq_of_mem_replicate hy, List.length_map, Array.length_toList]; omega
  refine ⟨by rw [size_madeCells, zeros, List.length_map, flatten_len _ hun, List.length_replicate], fun j a ha => ?_⟩
  unfold zeros at ha
  rw [List.getElem?_map] at ha
  obtain ⟨x, hx, rfl⟩ := Option.map_eq_some_iff.1 ha
  obtain ⟨k, jj, y, h3, h4, rfl, h5⟩ := flatten_get _ hun j x hx
  have hk := (List.getElem?_eq_some_iff.1 h3).1
  rw [List.length_replicate] at hk
  have hy : y = zv.cells.toList.map FV.ofValue := List.eq_of_mem_replicate (List.mem_of_getElem? h3)
  subst hy
  rw [List.getElem?_map] at h4
  obtain ⟨u, hu, rfl⟩ := Option.map_eq_some_iff.1 h4
  rw [Array.getElem?_toList] at hu
  refine ⟨u, ?_, List.all_eq_true.1 hone u (Array.mem_toList_iff.2 (Array.mem_of_getElem? hu)), .f (RepF.ofValue Z w u)⟩
  rw [Nat.zero_add]
  have hlt : k * sz + jj < n * sz := by
    have : (k + 1) * sz ≤ n * sz := Nat.mul_le_mul_right _ (by omega)
    rw [Nat.add_mul] at this; omega
  unfold madeCells
  rw [Array.getElem?_map, Array.getElem?_eq_getElem (by simpa using hlt)]
  simp only [Array.getElem_range, Option.map_some, Option.some.injEq]
  have hmod : (k * sz + jj) % zv.cells.size = jj := by
    rw [hzs, Nat.mul_comm, Nat.mul_add_mod]; exact Nat.mod_eq_of_lt h5
  rw [hmod]
  obtain ⟨hlt2, he2⟩ := Array.getElem?_eq_some_iff.1 hu
  rw [getElem!_pos zv.cells jj hlt2]; exact he2
theorem zeros_nil {z : List FV} : zeros 0 z = [] := rfl
/-- 'clear' of a slice. -/
theorem ok_clear (st : St P G H Z w) (hρ : ∀ x, RepA G Z w (ρ x) (ρc x)) (ty e : TypeId) (sz : Nat) (z : List FV) (x : Operand) (he : elemOf? P ty = some e) (hs : sizeOf? P e = some sz) (hz : zeroCellsOf P e = some z)
    (hx : (eff (.clear sz z x) ρ t).exec H = some (v, H')) (c : Call) (ho : o.op = .call c) (hc : c.callee = .builtin .clear) (hargs : c.args = #[x]) (hat : c.argTypes = #[ty]) : OpOk P (execOp ρc o) G H Z w v H' := by
  have ha := hρ x
  have hu := elemOf_inv he
  obtain ⟨i, zv, hi, hzv, hone, hzs, rfl⟩ := zeroCells_inv hz
  have hsz : i.size = sz := by unfold sizeOf? at hs; rw [hi] at hs; simpa using hs
  simp only [eff] at hx
  split at hx
  case h_2 => cases hx
  rename_i id ver sz1 off n e1
  split at hx
  case isFalse => cases hx
  rename_i hs1
  subst hs1
  rw [e1] at ha
  obtain ⟨y, h1, rfl⟩ := exec_md hx
  split at h1
  case h_2 => cases h1
  rename_i cs hcs
  split at h1
  case isFalse => cases h1
  rename_i hin
  simp only [Option.some.injEq, Prod.mk.injEq] at h1
  obtain ⟨rfl, rfl⟩ := h1
  obtain ⟨loc, hG, hob, hH⟩ := st.cells hcs
  have hzl : (zeros n (zv.cells.toList.map FV.ofValue)).length = n * sz1 := by
    rw [zeros, List.length_map, flatten_len (sz := sz1) _ (fun y hy => by rw [List.eq_of_mem_replicate hy, List.length_map, Array.length_toList]; omega), List.length_replicate]
  rcases ha.sl_ hG with ⟨rfl, A, hv⟩ | ⟨g, o', c', rfl, hv, hnc, hcm, _⟩
  · refine ⟨G, Z, w, .tuple #[], .inl ?_, ?_, Step.refl _ _ _, .tup _ _ rfl fun j a u h => by simp at h⟩
    · cases A <;> simp [execOp, ho, resolve, hc, hargs, hat, invoke, builtin, Builtin.clear_, run_underlying hu, hv]
    · rw [zeros_nil, splice_nil, upd_self _ _ _ hH]; exact st
  · obtain ⟨arr, et, hh, hcc⟩ := hob
    rcases Nat.eq_zero_or_pos n with h0 | h0
    · subst h0
      refine ⟨G, Z, w, .tuple #[], .inl ?_, ?_, Step.refl _ _ _, .tup _ _ rfl fun j a u h => by simp at h⟩
      · simp [execOp, ho, resolve, hc, hargs, hat, invoke, builtin, Builtin.clear_, run_underlying hu, hv]
      · rw [zeros_nil, splice_nil, upd_self _ _ _ hH]; exact st
    have hzc : ∀ (j : Nat) (a : AV), (zeros n (zv.cells.toList.map FV.ofValue))[j]? = some a → ∃ u, (Builtin.zeroCells zv.cells n).toList[j]? = some u ∧ u.oneCell' = true ∧ RepA G Z w a u := by
      intro j a ha
      obtain ⟨u, h1, h2, h3⟩ := (arr_zeros (G := G) (Z := Z) (w := w) (n := n) (sz := sz1) hone (by omega)).2 j a ha
      have hzm : Builtin.zeroCells zv.cells n = madeCells zv.cells (n * sz1) := by
        unfold Builtin.zeroCells madeCells
        rw [show zv.cells.size = sz1 by omega]
      rw [Nat.zero_add] at h1
      exact ⟨u, by rw [Array.getElem?_toList, hzm]; exact h1, h2, h3⟩
    have hzlen : (Builtin.zeroCells zv.cells n).toList.length = n * sz1 := by rw [Array.length_toList, size_zeroCells, show zv.cells.size = sz1 by omega]
    have hcell : ∀ j, j < (Builtin.zeroCells zv.cells n).toList.length → (w.cell? ⟨g, o' + off * sz1 + 0 + j, none⟩).isSome = true := fun j hj => by
      rw [Nat.add_zero, Nat.add_assoc, cell_of_row w g _ arr et (0, 0) hh]
      rw [Nat.add_mul] at hin
      obtain ⟨u, h1, _⟩ := hcc (off * sz1 + j) _ (List.getElem?_eq_getElem (by omega))
      rw [h1]; rfl
    have hst := run_storeCells_cells (P := P) g (o' + off * sz1) (Builtin.zeroCells zv.cells n).toList 0 w hcell (fun j hj => by simp [World.frozen?, hh]) (fun u hu => by
      obtain ⟨j, hj⟩ := List.getElem?_of_mem hu
      rw [Array.getElem?_toList] at hj
      exact ones_zeros hone j u hj)
    rw [Nat.add_zero] at hst
    obtain ⟨s1, s2⟩ := st.write (off := off * sz1) hH hG (xs := zeros n (zv.cells.toList.map FV.ofValue)) (vs := (Builtin.zeroCells zv.cells n).toList) (by rw [hzlen, hzl]) (by rw [Nat.add_mul] at hin; omega) hzc
    refine ⟨G, Z, _, .tuple #[], .inl ?_, s1, s2, .tup _ _ rfl fun j a u h => by simp at h⟩
    obtain ⟨n', rfl⟩ : ∃ n', n = n' + 1 := ⟨n - 1, by omega⟩
    simp [execOp, ho, resolve, hc, hargs, hat, invoke, builtin, Builtin.clear_, run_underlying hu, hv, zeroValue, typeInfo, hi, hzv, hst]
end

open Go.RowKit
set_option linter.unusedVariables false
set_option linter.unusedSimpArgs false

theorem mGet_mem {s : ByteArray} {v : Value} : ∀ {m : List (ByteArray × Value)}, mGet s m = some v → (s, v) ∈ m
  | [], h => by cases h
  | (k, x) :: r, h => by
    simp only [mGet] at h
    split at h
    · rename_i e; obtain rfl := Option.some.inj h; subst e; simp
    · exact List.mem_cons_of_mem _ (mGet_mem h)
theorem mGet_none {s : ByteArray} : ∀ {m : List (ByteArray × Value)}, (∀ p ∈ m, p.1 ≠ s) → mGet s m = none
  | [], _ => rfl
  | (k, x) :: r, h => by
    simp only [mGet]
    rw [if_neg (h (k, x) (by simp))]
    exact mGet_none fun p hp => h p (by simp [hp])
theorem mSet_none {s : ByteArray} {x : Value} : ∀ {m : List (ByteArray × Value)}, (∀ p ∈ m, p.1 ≠ s) → mSet s x m = m ++ [(s, x)]
  | [], _ => rfl
  | (k, y) :: r, h => by
    simp only [mSet]
    rw [if_neg (h (k, y) (by simp)), mSet_none fun p hp => h p (by simp [hp])]; rfl
/-- The place of a key. -/
theorem mAt {s : ByteArray} {v x : Value} : ∀ {m : List (ByteArray × Value)} {j : Nat}, (m.map (·.1)).Nodup → m[j]? = some (s, v) → mGet s m = some v ∧ mSet s x m = m.set j (s, x)
  | [], j, _, h => by simp at h
  | (k, y) :: r, 0, hn, h => by
    simp only [List.getElem?_cons_zero, Option.some.injEq, Prod.mk.injEq] at h
    obtain ⟨rfl, rfl⟩ := h
    simp [mGet, mSet]
  | (k, y) :: r, j + 1, hn, h => by
    simp only [List.map_cons, List.nodup_cons] at hn
    have h' : r[j]? = some (s, v) := by simpa using h
    have hne : k ≠ s := fun e => hn.1 (by rw [e]; exact List.mem_map.2 ⟨_, List.mem_of_getElem? h', rfl⟩)
    obtain ⟨h1, h2⟩ := mAt (x := x) hn.2 h'
    simp [mGet, mSet, hne, h1, h2]
theorem mSet_keys {s : ByteArray} {x : Value} : ∀ {m : List (ByteArray × Value)}, (m.map (·.1)).Nodup → ((mSet s x m).map (·.1)).Nodup ∧ ∀ k, k ∈ (mSet s x m).map (·.1) → k = s ∨ k ∈ m.map (·.1)
  | [], _ => by simp [mSet]
  | (k, y) :: r, h => by
    simp only [List.map_cons, List.nodup_cons] at h
    simp only [mSet]
    split
    · rename_i e
      subst e
      simp only [List.map_cons, List.nodup_cons]
      exact ⟨h, fun k' hk => .inr hk⟩
    · rename_i e
      obtain ⟨h1, h2⟩ := mSet_keys (s := s) (x := x) h.2
      simp only [List.map_cons, List.nodup_cons]
      refine ⟨⟨fun hm => ?_, h1⟩, fun k' hk => ?_⟩
      · rcases h2 k hm with h3 | h3
        · exact e h3
        · exact h.1 h3
      · rcases List.mem_cons.1 hk with rfl | hk
        · exact .inr (by simp)
        · exact (h2 k' hk).imp (fun h => h) (fun h => List.mem_cons_of_mem _ h)
section
variable {P : Program} {G : Ghost} {H : Heap} {Z : Nat → Prop} {w : World} {ρ : Operand → AV} {ρc : Operand → Value} {t : Nat} {o : Oper} {v : AV} {H' : Heap}
theorem mapR_key {es : Array MapEntry} {m : List (ByteArray × Value)} (h : MapR es m) : ∀ x ∈ es.toList, MapKept.IsKey .string x.key := fun x hx => by
  obtain ⟨j, hj⟩ := List.getElem?_of_mem hx
  rw [Array.getElem?_toList] at hj
  have hlt := (Array.getElem?_eq_some_iff.1 hj).1
  obtain ⟨e, h1, h2, _⟩ := h.2.2.2 j _ (List.getElem?_eq_getElem (by rw [← h.1]; exact hlt))
  rw [hj] at h1; obtain rfl := Option.some.inj h1
  rw [h2]; trivial
/-- What the search finds. -/
theorem mapR_find {es : Array MapEntry} {m : List (ByteArray × Value)} (h : MapR es m) (s : ByteArray) : (Instr.findNow .string (.string s) es.toList 0 = some none ∧ ∀ p ∈ m, p.1 ≠ s) ∨ ∃ j v, Instr.findNow .string (.string s) es.toList 0 = some (some (j, v)) ∧ m[j]? = some (s, v) := by
  rcases MapKept.findNow_spec (d := .string) (k := .string s) trivial es.toList 0 (mapR_key h) with ⟨h1, h2⟩ | ⟨j, e, h1, h2, h3⟩
  · refine .inl ⟨h1, fun p hp he => ?_⟩
    obtain ⟨j, hj⟩ := List.getElem?_of_mem hp
    obtain ⟨e, g1, g2, _⟩ := h.2.2.2 j p hj
    exact h2 e (Array.mem_toList_iff.2 (Array.mem_of_getElem? g1)) (by rw [g2, he])
  · rw [Array.getElem?_toList] at h2
    have hlt := (Array.getElem?_eq_some_iff.1 h2).1
    have hj : m[j]? = some (m[j]'(by rw [← h.1]; exact hlt)) := List.getElem?_eq_getElem _
    obtain ⟨e', g1, g2, g3⟩ := h.2.2.2 j _ hj
    rw [h2] at g1; obtain rfl := Option.some.inj g1
    rw [g2] at h3
    simp only [Value.string.injEq] at h3
    refine .inr ⟨j, e.val, by simpa using h1, ?_⟩
    rw [hj, g3, ← h3]
theorem mapR_set {es : Array MapEntry} {m : List (ByteArray × Value)} (h : MapR es m) {s : ByteArray} {x v : Value} {j : Nat} (hx : x.oneCell' = true) (hj : m[j]? = some (s, v)) : MapR (es.modify j fun e => { e with key := .string s, val := x }) (m.set j (s, x)) := by
  refine ⟨by simp [h.1], ?_, fun p hp => ?_, fun i p hp => ?_⟩
  · have : (m.set j (s, x)).map (·.1) = m.map (·.1) := by
      rw [List.map_set]
      refine List.ext_getElem? fun i => ?_
      by_cases e : j = i
      · subst e
        have hlt := (List.getElem?_eq_some_iff.1 hj).1
        rw [List.getElem?_set_self (by simpa using hlt), List.getElem?_map, hj]; rfl
      · rw [List.getElem?_set_ne e]
    rw [this]; exact h.2.1
  · rcases List.mem_or_eq_of_mem_set hp with h1 | rfl
    · exact h.2.2.1 p h1
    · exact hx
  · rw [Array.getElem?_modify]
    by_cases e : j = i
    · subst e
      have hlt := (List.getElem?_eq_some_iff.1 hj).1
      rw [List.getElem?_set_self hlt] at hp
      obtain rfl := Option.some.inj hp
      obtain ⟨e, g1, _⟩ := h.2.2.2 j _ hj
      exact ⟨_, by rw [if_pos rfl, g1]; rfl, rfl, rfl⟩
    · rw [List.getElem?_set_ne e] at hp
      obtain ⟨e', g1, g2⟩ := h.2.2.2 i p hp
      exact ⟨e', by rw [if_neg e]; exact g1, g2⟩
theorem mapR_push {es : Array MapEntry} {m : List (ByteArray × Value)} (h : MapR es m) {s : ByteArray} {x : Value} {b : Nat} (hx : x.oneCell' = true) (hn : ∀ p ∈ m, p.1 ≠ s) : MapR (es.push { key := .string s, val := x, born := b }) (m ++ [(s, x)]) := by
  refine ⟨by simp [h.1], ?_, fun p hp => ?_, fun i p hp => ?_⟩
  · rw [List.map_append, List.nodup_append]
    refine ⟨h.2.1, by simp, fun a ha b hb => ?_⟩
    obtain ⟨p, hp, rfl⟩ := List.mem_map.1 ha
    simp at hb; subst hb
    exact hn p hp
  · rcases List.mem_append.1 hp with h1 | h1
    · exact h.2.2.1 p h1
    · simp at h1; subst h1; exact hx
  · rw [Array.getElem?_push]
    rcases Nat.lt_or_ge i m.length with hi | hi
    · rw [List.getElem?_append_left hi] at hp
      obtain ⟨e, g1, g2⟩ := h.2.2.2 i p hp
      exact ⟨e, by rw [if_neg (by rw [h.1]; omega)]; exact g1, g2⟩
    · have : i = m.length := by
        have := (List.getElem?_eq_some_iff.1 hp).1; simp at this; omega
      subst this
      rw [List.getElem?_append_right (Nat.le_refl _)] at hp
      simp at hp; subst hp
      exact ⟨_, by rw [if_pos h.1.symm], rfl, rfl⟩
theorem mapElem_inv {ty kt et : TypeId} (h : mapOf? P ty = some (kt, et)) : P.underlying ty = some (.map kt et) ∧ P.underlying kt = some .string := by
  unfold mapOf? at h
  split at h
  · rename_i k e hu
    split at h
    · rename_i hk
      simp only [Option.some.injEq, Prod.mk.injEq] at h
      obtain ⟨rfl, rfl⟩ := h
      refine ⟨hu, ?_⟩
      unfold isStr at hk
      split at hk
      · assumption
      · cases hk
    · cases h
  · cases h
theorem RepA.fm_ {m : List (ByteArray × Value)} {u : Value} (h : RepA G Z w (.f (.fm m)) u) : ∃ g, u = .map (some g) ∧ ∃ es clock, w.heap[g]? = some (.map es clock) ∧ MapR es m := by
  cases h.f_ with
  | fm _ g hz hb => exact ⟨g, rfl, hb⟩
theorem RepA.map_ {id ver : Nat} {loc : Option (Nat × Nat)} {u : Value} (h : RepA G Z w (.map id ver) u) (e : G id = (ver, some loc)) : ∃ g o, loc = some (g, o) ∧ u = .map (some g) := by
  cases h with
  | mapOld _ _ _ h1 h2 h3 => rw [e] at h2; exact absurd (h2 rfl) (by simp)
  | mapLive _ _ g o h1 =>
    rw [e] at h1
    simp only [Prod.mk.injEq, Option.some.injEq, true_and] at h1
    exact ⟨g, o, h1, rfl⟩
theorem St.maps (st : St P G H Z w) {id ver : Nat} {m : List (ByteArray × Value)} (h : mapOfH ver (H id) = some m) : ∃ g, G id = (ver, some (some (g, 0))) ∧ H id = (ver, some (.map m)) ∧ ∃ es clock, w.heap[g]? = some (.map es clock) ∧ MapR es m := by
  unfold mapOfH at h
  have h1 := st.ver id
  split at h
  · rename_i v m' e
    split at h
    · rename_i hv
      obtain rfl := Option.some.inj h
      obtain ⟨loc, h2, h3⟩ := st.obj id _ (by rw [e])
      subst hv
      cases loc with
      | none => exact h3.elim
      | some p =>
        obtain ⟨g, ob⟩ := p
        obtain ⟨rfl, h4⟩ := h3
        rw [e] at h1
        exact ⟨g, Prod.ext h1 h2, e, h4⟩
    · cases h
  · cases h
theorem ok_mkMap (st : St P G H Z w) (ty : TypeId) (hx : (eff .mkMap ρ t).exec H = some (v, H')) (ho : o.op = .makeMap ty none) : OpOk P (execOp ρc o) G H Z w v H' := by
  simp only [eff] at hx
  obtain ⟨y, h1, rfl⟩ := exec_md hx
  split at h1
  case h_2 => cases h1
  rename_i ver hd
  simp only [Option.some.injEq, Prod.mk.injEq] at h1
  obtain ⟨rfl, rfl⟩ := h1
  have hO : Only w.heap.size w (w.alloc (.map #[] 0)) := Only.alloc w _
  obtain ⟨s1, s2⟩ := st.change t w.heap.size hO (ver + 1, some (some (w.heap.size, 0))) (ver + 1, some (.map [])) (.inl rfl) (.inl (by simp)) rfl (by rw [hd]; simp) (fun h => by rw [hd] at h; simp at h) (.inr (.inr ⟨0, rfl⟩))
    (fun _ arr e fz h => by rw [heap_alloc_new w _] at h; cases h) (fun h => by cases h) (fun ob hob => ⟨_, rfl, fun hk => by
      obtain rfl := Option.some.inj hob
      exact ⟨rfl, #[], 0, heap_alloc_new w _, rfl, List.nodup_nil, fun p hp => by simp at hp, fun i p hp => by simp at hp⟩⟩)
  refine ⟨_, Z, _, .map (some w.heap.size), .inl ?_, s1, s2, .mapLive _ _ _ 0 (by simp)⟩
  simp [execOp, ho, run_makeMap]
theorem plainVal_rep {a : AV} {x u : Value} (h : a.plainVal = some x) (hr : RepA G Z w a u) : u = x ∧ x.oneCell' = true := by
  unfold AV.plainVal at h
  split at h
  · obtain rfl := Option.some.inj h; exact ⟨hr.int_, rfl⟩
  · obtain rfl := Option.some.inj h; exact ⟨hr.bool_, rfl⟩
  · obtain rfl := Option.some.inj h; exact ⟨hr.str_, rfl⟩
  · cases h
theorem ok_mapUpd (st : St P G H Z w) (hρ : ∀ x, RepA G Z w (ρ x) (ρc x)) (ty kt et : TypeId) (m k x : Operand) (ht : mapOf? P ty = some (kt, et)) (hx : (eff (.mapUpd m k x) ρ t).exec H = some (v, H')) (ho : o.op = .mapUpdate ty m k x) : OpOk P (execOp ρc o) G H Z w v H' := by
  have hm := hρ m
  have hk := hρ k
  have hv := hρ x
  obtain ⟨hu, hkt⟩ := mapElem_inv ht
  simp only [eff] at hx
  split at hx
  case h_2 => cases hx
  rename_i id ver s xv e1 e2 e3
  rw [e1] at hm
  rw [e2] at hk
  obtain ⟨y, h1, rfl⟩ := exec_md hx
  split at h1
  case h_2 => cases h1
  rename_i mm hmm
  simp only [Option.some.injEq, Prod.mk.injEq] at h1
  obtain ⟨rfl, rfl⟩ := h1
  obtain ⟨g, hG, hH, es, clock, hb, hR⟩ := st.maps hmm
  obtain ⟨g', ob, hloc, hmv⟩ := hm.map_ hG
  simp only [Option.some.injEq, Prod.mk.injEq] at hloc
  obtain ⟨rfl, rfl⟩ := hloc
  have hks := hk.str_
  obtain ⟨hvx, hone⟩ := plainVal_rep e3 hv
  have hlt := heap_lt hb
  have hGs : upd G id (ver, some (some (g, 0))) = G := upd_self _ _ _ hG
  have fin : ∀ (es' : Array MapEntry) (clock' : Nat), MapR es' (mSet s xv mm) → (Instr.mapUpdate ty (ρc m) (ρc k) (ρc x)).run P w = .ok () { w with heap := w.heap.setIfInBounds g (.map es' clock') } → OpOk P (execOp ρc o) G H Z w .any (upd H id (ver, some (.map (mSet s xv mm)))) := by
    intro es' clock' hR' hrun
    obtain ⟨q1, q2⟩ := MapKept.heap_set (o' := .map es' clock') hb
    have hO : Only g w { w with heap := w.heap.setIfInBounds g (.map es' clock') } := ⟨rfl, rfl, rfl, by simp, fun b _ hne => q2 b hne, fun arr e fz h => by rw [hb] at h; cases h⟩
    obtain ⟨s1, s2⟩ := st.change id g hO (ver, some (some (g, 0))) (ver, some (.map (mSet s xv mm))) (.inr ⟨0, by rw [hG]⟩) (.inl (by simpa using hlt)) rfl (by rw [hH]; exact Nat.le_refl _) (fun _ => .inr (by rw [hG])) (.inr (.inr ⟨0, rfl⟩))
      (fun _ arr e fz h => by
        have h' : (w.heap.setIfInBounds g (.map es' clock'))[g]? = some (.cells arr e fz) := h
        rw [q1] at h'; cases h') (fun h => by cases h) (fun ob hob => ⟨_, rfl, fun hk => by
        obtain rfl := Option.some.inj hob
        exact ⟨rfl, es', clock', q1, hR'⟩⟩)
    rw [hGs] at s1 s2
    refine ⟨G, Z, _, undef, .inr ⟨?_, rfl⟩, s1, s2, .any _⟩
    simp [execOp, ho, hrun]
  have hkey := MapKept.run_checkKey (P := P) (w := w) (k := .string s) hkt trivial false 9999
  rcases mapR_find hR s with ⟨f1, f2⟩ | ⟨j, vv, f1, f2⟩
  · refine fin (es.push { key := .string s, val := xv, born := clock }) (clock + 1) (by rw [mSet_none f2]; exact mapR_push hR hone f2) ?_
    have hfind := MapKept.run_findKey (P := P) (w := w) hkt f1
    have hset := MapKept.run_setObj_map (P := P) (.map (es.push { key := .string s, val := xv, born := clock }) (clock + 1)) hb
    rw [hmv, hks, hvx]
    simp [Instr.mapUpdate, run_underlying hu, MapKept.run_getObj_map hb, hkey, hfind, hset]
  · obtain ⟨g1, g2⟩ := mAt (x := xv) hR.2.1 f2
    refine fin (es.modify j fun e => { e with key := .string s, val := xv }) clock (by rw [g2]; exact mapR_set hR hone f2) ?_
    have hfind := MapKept.run_findKey (P := P) (w := w) hkt f1
    have hset := MapKept.run_setObj_map (P := P) (.map (es.modify j fun e => { e with key := .string s, val := xv }) clock) hb
    obtain ⟨ee, k1, k2, _⟩ := hR.2.2.2 j _ f2
    have hstay : (Instr.keyThatStays (((es[j]?).map (·.key)).getD (.string s)) (.string s)).run P w = .ok (.string s) w := by
      rw [k1]
      simp only [Option.map_some, Option.getD_some, k2]
      unfold Instr.keyThatStays
      rw [if_pos (by simp [Instr.sameBits]; exact (MapKept.bytes_beq s s).2 rfl)]; rfl
    rw [hmv, hks, hvx]
    simp [Instr.mapUpdate, run_underlying hu, MapKept.run_getObj_map hb, hkey, hfind, hstay, hset]
theorem ok_lookup (st : St P G H Z w) (hρ : ∀ x, RepA G Z w (ρ x) (ρc x)) (ty kt et : TypeId) (i : TypeInfo) (z : Value) (ok : Bool) (m k : Operand) (ht : mapOf? P ty = some (kt, et)) (hi : P.info? et = some i) (hz : i.zero = some z) (hx : (eff (.lookup z ok m k) ρ t).exec H = some (v, H')) (ho : o.op = .lookup ty m k ok) : OpOk P (execOp ρc o) G H Z w v H' := by
  have hm := hρ m
  have hk := hρ k
  obtain ⟨hu, hkt⟩ := mapElem_inv ht
  have core : ∀ (g : Nat) (mm : List (ByteArray × Value)) (s : ByteArray), ρc m = .map (some g) → ρc k = .string s → (∃ es clock, w.heap[g]? = some (.map es clock) ∧ MapR es mm) → OpOk P (execOp ρc o) G H Z w (lookV z ok (mGet s mm)) H := by
    rintro g mm s hmv hks ⟨es, clock, hb, hR⟩
    have hkey := MapKept.run_checkKey (P := P) (w := w) (k := .string s) hkt trivial es.isEmpty 9999
    have hzr : (zeroValue et).run P w = .ok z w := by simp [zeroValue, typeInfo, hi, hz]
    rcases mapR_find hR s with ⟨f1, f2⟩ | ⟨j, vv, f1, f2⟩
    · have hfind := MapKept.run_findKey (P := P) (w := w) hkt f1
      rw [mGet_none f2]
      refine OpOk.pure st (u := if ok then .tuple #[z, .bool false] else z) ?_ ?_
      · cases ok <;> simp [execOp, ho, hmv, hks, Instr.lookup, run_underlying hu, MapKept.run_getObj_map hb, hkey, hfind, hzr]
      · cases ok
        · exact .f (RepF.ofValue Z w z)
        · refine .tup _ _ rfl fun j a u ha hu => ?_
          rcases j with _ | _ | j
          · obtain rfl := Option.some.inj ha; obtain rfl := Option.some.inj hu; exact .f (RepF.ofValue Z w z)
          · obtain rfl := Option.some.inj ha; obtain rfl := Option.some.inj hu; exact .f (.bool _)
          · simp [lookV] at ha
    · have hfind := MapKept.run_findKey (P := P) (w := w) hkt f1
      rw [(mAt (x := z) hR.2.1 f2).1]
      refine OpOk.pure st (u := if ok then .tuple #[vv, .bool true] else vv) ?_ ?_
      · cases ok <;> simp [execOp, ho, hmv, hks, Instr.lookup, run_underlying hu, MapKept.run_getObj_map hb, hkey, hfind]
      · cases ok
        · exact .f (RepF.ofValue Z w vv)
        · refine .tup _ _ rfl fun j a u ha hu => ?_
          rcases j with _ | _ | j
          · obtain rfl := Option.some.inj ha; obtain rfl := Option.some.inj hu; exact .f (RepF.ofValue Z w vv)
          · obtain rfl := Option.some.inj ha; obtain rfl := Option.some.inj hu; exact .f (.bool _)
          · simp [lookV] at ha
  simp only [eff] at hx
  split at hx
  · rename_i id ver s e1 e2
    rw [e1] at hm
    rw [e2] at hk
    obtain ⟨h1, rfl⟩ := exec_rd hx
    split at h1
    case h_2 => cases h1
    rename_i mm hmm
    obtain rfl := Option.some.inj h1
    obtain ⟨g, hG, hH, hb⟩ := st.maps hmm
    obtain ⟨g', ob, hloc, hmv⟩ := hm.map_ hG
    simp only [Option.some.injEq, Prod.mk.injEq] at hloc
    obtain ⟨rfl, rfl⟩ := hloc
    exact core g mm s hmv hk.str_ hb
  · rename_i mm s e1 e2
    rw [e1] at hm
    rw [e2] at hk
    obtain ⟨rfl, rfl⟩ := exec_pure hx
    obtain ⟨g, hmv, hb⟩ := hm.fm_
    exact core g mm s hmv hk.str_ hb
  · cases hx
end

open Go.RowKit
set_option linter.unusedVariables false
set_option linter.unusedSimpArgs false

theorem u8_of (b : UInt8) : UInt8.ofNat ((b.toNat : Int)).toNat = b := by simp
theorem bytesV_enc (l : List UInt8) : bytesV (l.map encU).flatten = some l := by
  induction l with
  | nil => rfl
  | cons b l ih =>
    rw [List.map_cons, List.flatten_cons]
    show (match byteV (.int .u8 b.toNat), bytesV (l.map encU).flatten with
      | some b, some r => some (b :: r)
      | _, _ => none) = _
    rw [ih]
    simp [byteV]
theorem bytesFr_enc (l : List UInt8) : bytesFr (l.map encU) = some l := bytesV_enc l
theorem bytesA_f : ∀ l : List FV, bytesA (l.map .f) = bytesV l
  | [] => rfl
  | x :: l => by
    rw [List.map_cons, bytesA, bytesV, bytesA_f l]
theorem bytesA_enc (l : List UInt8) : bytesA ((l.map encU).flatten.map .f) = some l := by rw [bytesA_f, bytesV_enc]
section
variable {P : Program} {G : Ghost} {H : Heap} {Z : Nat → Prop} {w : World} {ρ : Operand → AV} {ρc : Operand → Value} {t : Nat} {o : Oper} {v : AV} {H' : Heap}
theorem isBytes_inv {ty : TypeId} (h : isBytes P ty = true) : ∃ e, P.underlying ty = some (.slice e) ∧ P.underlying e = some (.int .u8) := by
  unfold isBytes at h
  split at h
  · rename_i e he
    refine ⟨e, elemOf_inv he, ?_⟩
    have h1 : intKindOf? P e = some .u8 := by simpa using h
    unfold intKindOf? at h1
    split at h1
    · rename_i k hk; obtain rfl := Option.some.inj h1; exact hk
    · cases h1
  · cases h
theorem bytes_push : ∀ (l : List UInt8) (s : ByteArray), (l.map fun b => ((b.toNat : Nat) : Int)).foldl (fun r n => r.push (UInt8.ofNat n.toNat)) s = ⟨s.data ++ l.toArray⟩
  | [], s => by simp
  | b :: l, s => by
    rw [List.map_cons, List.foldl_cons, bytes_push l, u8_of]
    simp [ByteArray.push]
/-- What cells of bytes are. -/
theorem bytes_vals : ∀ (cs : List AV) (us : List Value) (l : List UInt8), bytesA cs = some l → us.length = cs.length → (∀ (i : Nat) (a : AV), cs[i]? = some a → ∃ u, us[i]? = some u ∧ RepA G Z w a u) → ∃ ns : List Int, us = ns.map (Value.int .u8) ∧ (ns.map fun n => UInt8.ofNat n.toNat) = l
  | [], us, l, h, hl, _ => by
    obtain rfl := Option.some.inj h
    have : us = [] := List.eq_nil_of_length_eq_zero hl
    exact ⟨[], by simp [this], rfl⟩
  | a :: cs, us, l, h, hl, hr => by
    cases us with
    | nil => simp at hl
    | cons u us =>
      cases a <;> try (simp [bytesA] at h; done)
      rename_i x
      rw [bytesA] at h
      split at h
      case h_2 => cases h
      rename_i b r h1 h2
      obtain rfl := Option.some.inj h
      obtain ⟨ns, g1, g2⟩ := bytes_vals cs us r h2 (by simpa using hl) (fun i a ha => hr (i + 1) a (by simpa using ha))
      unfold byteV at h1
      split at h1
      case h_2 => cases h1
      rename_i n
      obtain rfl := Option.some.inj h1
      obtain ⟨u', g3, g4⟩ := hr 0 _ rfl
      obtain rfl : u = u' := by simpa using g3
      exact ⟨n :: ns, by rw [List.map_cons, ← g1, g4.int_], by rw [List.map_cons, g2]⟩
theorem foldl_push : ∀ (ns : List Int) (s : ByteArray), ns.foldl (fun r n => r.push (UInt8.ofNat n.toNat)) s = ⟨s.data ++ (ns.map fun n => UInt8.ofNat n.toNat).toArray⟩
  | [], s => by simp
  | n :: ns, s => by
    rw [List.foldl_cons, foldl_push ns]
    simp [ByteArray.push]
theorem run_b2s_nil (A : Option Addr) (c : Nat) : (Conv.bytesToString (.slice A 0 c)).run P w = .ok (.string ⟨#[]⟩) w := by
  cases A with
  | none => simp [Conv.bytesToString, Sem.run_pure]; rfl
  | some a => exact run_bytesToString w a 0 c [] (run_loadCells_list w a [] (fun j v h => by simp at h))
theorem run_b2s (A : Option Addr) (c : Nat) {k : Nat} {cs : List AV} {l : List UInt8} (hk : k = cs.length) (hw : 0 < k → ∃ b o, A = some ⟨b, o, none⟩ ∧ Wnd (RepA G Z w) w b o cs) (hb : bytesA cs = some l) : (Conv.bytesToString (.slice A k c)).run P w = .ok (.string ⟨l.toArray⟩) w := by
  rcases Nat.eq_zero_or_pos k with h0 | h0
  · have : cs = [] := List.eq_nil_of_length_eq_zero (by omega)
    subst this
    obtain rfl := Option.some.inj hb
    rw [h0]
    exact run_b2s_nil A c
  · obtain ⟨b, o, rfl, hw2⟩ := hw h0
    obtain ⟨us, h3, h4, h5, h6⟩ := hw2.list
    obtain ⟨ns, g1, g2⟩ := bytes_vals (G := G) (Z := Z) (w := w) cs us l hb h3 (fun i a ha => by obtain ⟨u, e1, _, e2⟩ := h6 i a ha; exact ⟨u, e1, e2⟩)
    have h7 := run_bytesToString (P := P) w ⟨b, o, none⟩ us.length c ns (by
      rw [g1, List.length_map]
      have := run_loadCells_list (P := P) (w := w) ⟨b, o, none⟩ (ns.map (Value.int .u8)) (fun j v hj => by rw [← g1] at hj; rw [Addr.add_mid]; exact h4 j v hj)
      simpa using this)
    rw [h3, ← hk] at h7
    rw [h7, foldl_push, g2]
    simp
theorem ok_bytesStr (st : St P G H Z w) (hρ : ∀ x, RepA G Z w (ρ x) (ρc x)) (src dst e : TypeId) (x : Operand) (hs : P.underlying src = some (.slice e)) (he : P.underlying e = some (.int .u8)) (hd : P.underlying dst = some .string) (hx : (eff (.bytesStr x) ρ t).exec H = some (v, H')) (ho : o.op = .convert src dst x) : OpOk P (execOp ρc o) G H Z w v H' := by
  have ha := hρ x
  have fin : ∀ (A : Option Addr) (k c : Nat) (l : List UInt8), ρc x = .slice A k c → (Conv.bytesToString (.slice A k c)).run P w = .ok (.string ⟨l.toArray⟩) w → OpOk P (execOp ρc o) G H Z w (.f (.str ⟨l.toArray⟩)) H := fun A k c l h1 h2 => by
    refine OpOk.pure st (u := .string ⟨l.toArray⟩) ?_ (.f (.str _))
    have h3 := run_convert_bytes_string (P := P) w src dst e A k c hs he hd
    simp [execOp, ho, h1, h3, h2]
  simp only [eff] at hx
  split at hx
  · rename_i e1
    rw [e1] at ha
    obtain ⟨rfl, rfl⟩ := exec_pure hx
    obtain ⟨A, hv⟩ := ha.nil_
    exact fin A 0 0 [] hv (run_b2s_nil A 0)
  · rename_i sz l e1
    rw [e1] at ha
    split at hx
    case isFalse => cases hx
    rename_i hsz
    subst hsz
    split at hx
    case h_2 => cases hx
    rename_i s hs2
    obtain ⟨rfl, rfl⟩ := exec_pure hx
    obtain ⟨A, c, hv, h1, h2, hlen, hw⟩ := fr_wnd ha
    refine fin A l.length c s hv (run_b2s (G := G) (Z := Z) A c (cs := l.flatten.map .f) (by rw [List.length_map, flatten_len l hlen, Nat.mul_one]) (fun h0 => ?_) (by rw [bytesA_f]; exact hs2))
    obtain ⟨b, o', h3, _, h4⟩ := hw h0
    exact ⟨b, o', h3, h4⟩
  · rename_i id ver sz off n e1
    rw [e1] at ha
    split at hx
    case isFalse => cases hx
    rename_i hsz
    subst hsz
    obtain ⟨h1, rfl⟩ := exec_rd hx
    split at h1
    case h_2 => cases h1
    rename_i cs hcs
    split at h1
    case isFalse => cases h1
    rename_i hin
    split at h1
    case h_2 => cases h1
    rename_i s hs2
    obtain rfl := Option.some.inj h1
    obtain ⟨loc, hG, hob, hH⟩ := st.cells hcs
    rcases ha.sl_ hG with ⟨rfl, A, hv⟩ | ⟨g, o', c, rfl, hv, _⟩
    · rw [List.take_zero] at hs2
      obtain rfl := Option.some.inj hs2
      exact fin A 0 0 [] hv (run_b2s_nil A 0)
    · obtain ⟨arr, et, hh, hcc⟩ := hob
      have hw := ((Wnd.of_row hh hcc).drop off).take n
      refine fin _ n c s hv (run_b2s (G := G) (Z := Z) _ c (cs := (cs.drop off).take n) (by rw [List.length_take, List.length_drop]; omega) (fun h0 => ⟨g, o' + off * 1, rfl, by rw [Nat.mul_one]; exact hw⟩) hs2)
  · cases hx
/-- A new block that is frozen at once. -/
theorem St.newZ (st : St P G H Z w) {w' : World} (ho : Only w.heap.size w w') (hlt : w.heap.size < w'.heap.size) : St P G H (fun b => Z b ∨ b = w.heap.size) w' ∧ Step G Z w G (fun b => Z b ∨ b = w.heap.size) w' := by
  have hkeep : Keep G Z w G (fun b => Z b ∨ b = w.heap.size) w' := ⟨fun b hz => ⟨.inl hz, ho.same b (st.zlt b hz) (by have := st.zlt b hz; omega)⟩, fun _ => Nat.le_refl _, fun _ _ => .inr rfl, fun b arr e fz hl hh => ⟨arr, e, fz, by rw [ho.same b (heap_lt hh) (by have := heap_lt hh; omega)]; exact hh, rfl⟩⟩
  have hb : ∀ id b o, (G id).2 = some (some (b, o)) → w'.heap[b]? = w.heap[b]? := fun id b o h => ho.same b (st.glt _ _ _ h) (by have := st.glt _ _ _ h; omega)
  refine ⟨⟨st.ver, st.dead, fun id o h => ?_, st.inj, fun id g o h hz => ?_, fun b hz => ?_, fun id g o h => Nat.lt_of_lt_of_le (st.glt _ _ _ h) ho.size, fun id g o h => (st.ones _ _ _ h).same (hb _ _ _ h)⟩, ⟨hkeep, ho.os, ho.tape, ho.output, ho.size, fun b hb _ => ho.same b hb (by omega), fun b hz => ?_, fun b hl => .inl hl⟩⟩
  · obtain ⟨loc, h1, h2⟩ := st.obj id o h
    refine ⟨loc, h1, ?_⟩
    cases loc with
    | none => cases o <;> exact h2
    | some p =>
      obtain ⟨b, ob⟩ := p
      cases o with
      | cells cs =>
        obtain ⟨arr, e, h3, h4⟩ := h2
        exact ⟨arr, e, (hb _ _ _ h1).trans h3, h4.mono fun a v hr => hr.keep hkeep⟩
      | map m =>
        obtain ⟨h3, es, clock, h4, h5⟩ := h2
        exact ⟨h3, es, clock, (hb _ _ _ h1).trans h4, h5⟩
  · rcases hz with hz | hz
    · exact st.disj _ _ _ h hz
    · have := st.glt _ _ _ h; omega
  · rcases hz with hz | rfl
    · exact Nat.lt_of_lt_of_le (st.zlt b hz) ho.size
    · exact hlt
  · rcases hz with hz | rfl
    · exact .inl hz
    · exact .inr (.inr (Nat.le_refl _))
theorem ok_strBytes (st : St P G H Z w) (hρ : ∀ x, RepA G Z w (ρ x) (ρc x)) (src dst e : TypeId) (x : Operand) (hd : P.underlying dst = some (.slice e)) (he : P.underlying e = some (.int .u8)) (hs : P.underlying src = some .string) (hx : (eff (.strBytes x) ρ t).exec H = some (v, H')) (ho : o.op = .convert src dst x) : OpOk P (execOp ρc o) G H Z w v H' := by
  have ha := hρ x
  simp only [eff] at hx
  split at hx
  case h_2 => cases hx
  rename_i s e1
  rw [e1] at ha
  split at hx
  case isFalse => cases hx
  rename_i hsz
  obtain ⟨rfl, rfl⟩ := exec_pure hx
  have hv := ha.str_
  have hrun := Lib.run_convert_string_bytes (P := P) w src dst e s hs hd he
  have hO : Only w.heap.size w (Lib.bytesWorld w e s) := ⟨rfl, rfl, rfl, by rw [Lib.bytesWorld_size]; omega, fun b hb _ => Lib.bytesWorld_at_old w e s b hb, fun arr t' fz h => absurd (heap_lt h) (by omega)⟩
  obtain ⟨s1, s2⟩ := st.newZ hO (by rw [Lib.bytesWorld_size]; omega)
  refine ⟨G, _, _, .slice (some ⟨w.heap.size, 0, none⟩) s.size (grownCap w s.size 0 e), .inl (by simp [execOp, ho, hv, hrun]), s1, s2, .f ?_⟩
  have hlen : (s.data.toList.map encU).length = s.size := by simp
  rcases Nat.eq_zero_or_pos s.size with h0 | h0
  · have hl : s.data.toList = [] := List.eq_nil_of_length_eq_zero (by rw [Array.length_toList]; exact h0)
    rw [hl, h0]
    exact .frNil _ _ _ (grownCap_le_maxLen w 0 0 e (by unfold maxLen; omega))
  · have hfr := RepF.fr (Z := fun b => Z b ∨ b = w.heap.size) (w := Lib.bytesWorld w e s) 1 (s.data.toList.map encU) w.heap.size 0 (grownCap w s.size 0 e) (fun k _ => .int .u8 (s.data.toList.getD k 0).toNat)
      (by rw [hlen]; exact h0) (by rw [hlen]; exact grownCap_ge w s.size 0 e) (grownCap_le_maxLen w s.size 0 e (by unfold maxLen; omega)) (.inr rfl) (fun y hy => by
        obtain ⟨b, _, rfl⟩ := List.mem_map.1 hy; rfl)
      (fun k j hk hj => ⟨by
        rw [hlen] at hk
        have hj0 : j = 0 := by omega
        subst hj0
        have := Lib.bytesWorld_cell w e s k hk
        simpa using this, rfl⟩)
      (fun k j y a hk hj => by
        rw [List.getElem?_map] at hk
        obtain ⟨b, hb, rfl⟩ := Option.map_eq_some_iff.1 hk
        have hj0 : j = 0 := by
          have := (List.getElem?_eq_some_iff.1 hj).1
          simp [encU] at this; omega
        subst hj0
        obtain rfl := Option.some.inj hj
        rw [show s.data.toList.getD k 0 = b by rw [List.getD_eq_getElem?_getD, hb]; rfl]
        exact .int _ _)
    rw [hlen] at hfr
    exact hfr
theorem onesA_spec : ∀ {l : List AV} {r : List (List FV)}, onesA l = some r → l = r.flatten.map .f ∧ (∀ x ∈ r, x.length = 1) ∧ r.length = l.length
  | [], r, h => by obtain rfl := Option.some.inj h; exact ⟨rfl, by simp, rfl⟩
  | a :: l, r, h => by
    cases a <;> try (simp [onesA] at h; done)
    rename_i x
    rw [onesA] at h
    split at h
    case h_2 => cases h
    rename_i r' h1
    obtain rfl := Option.some.inj h
    obtain ⟨g1, g2, g3⟩ := onesA_spec h1
    refine ⟨by rw [List.flatten_cons, List.map_append, ← g1]; rfl, fun y hy => ?_, by simp [g3]⟩
    rcases List.mem_cons.1 hy with rfl | hy
    · rfl
    · exact g2 y hy
theorem ok_mark (st : St P G H Z w) (hρ : ∀ x, RepA G Z w (ρ x) (ρc x)) (src e : TypeId) (x : Operand) (hs : P.underlying src = some (.slice e)) (he : P.underlying e = some (.int .u8)) (hx : (eff (.mark x) ρ t).exec H = some (v, H')) (ho : o.op = .convert src src x) : OpOk P (execOp ρc o) G H Z w v H' := by
  have ha := hρ x
  simp only [eff] at hx
  split at hx
  case h_2 => cases hx
  rename_i id ver sz off n e1
  rw [e1] at ha
  split at hx
  case isFalse => cases hx
  rename_i hc
  obtain ⟨rfl, hn⟩ := hc
  obtain ⟨y, h1, rfl⟩ := exec_md hx
  split at h1
  case h_2 => cases h1
  rename_i cs hcs
  split at h1
  case isFalse => cases h1
  rename_i hin
  split at h1
  case h_2 => cases h1
  rename_i l hl
  simp only [Option.some.injEq, Prod.mk.injEq] at h1
  obtain ⟨rfl, rfl⟩ := h1
  obtain ⟨loc, hG, hob, hH⟩ := st.cells hcs
  rcases ha.sl_ hG with ⟨rfl, A, hv⟩ | ⟨g, o', c, rfl, hv, hnc, hcm, _⟩
  · exact absurd rfl hn
  obtain ⟨arr, et, hh, hcc⟩ := hob
  have hlt := heap_lt hh
  have hsh : w.shape? g = some (et, arr.size) := by simp [World.shape?, hh]
  have hO : Only g w (w.freeze ⟨g, arr.size, none⟩ 1) := by
    refine ⟨rfl, rfl, rfl, by simp [World.freeze], fun b _ hb => ?_, fun arr' e' fz' h => ?_⟩
    · simp [World.freeze, Array.getElem?_modify, Ne.symm hb]
    · rw [hh] at h
      simp only [Option.some.injEq, Obj.cells.injEq] at h
      obtain ⟨rfl, rfl, rfl⟩ := h
      exact ⟨arr, et, (arr.size, arr.size + 1), by simp [World.freeze, Array.getElem?_modify, hh], rfl⟩
  have hh' : (w.freeze ⟨g, arr.size, none⟩ 1).heap[g]? = some (.cells arr et (arr.size, arr.size + 1)) := by simp [World.freeze, Array.getElem?_modify, hh]
  have hGid : (G id).2 = some (some (g, o')) := by rw [hG]
  obtain ⟨s1, s2⟩ := st.change id g hO (ver, none) (ver, none) (.inr ⟨o', hGid⟩) (.inr fun _ h => by cases h) rfl (by rw [hH]; exact Nat.le_refl _) (fun _ => .inl rfl) (.inl rfl) (fun ⟨_, h⟩ => by cases h) (fun _ => rfl) (fun _ h => by cases h)
  have hdead : ∀ id' o2, (upd G id (ver, none) id').2 = some (some (g, o2)) → False := fun id' o2 h => by
    by_cases e : id' = id
    · subst e; rw [upd_same] at h; cases h
    · rw [upd_ne _ _ _ _ e] at h; exact e (st.inj _ _ _ _ _ h hGid)
  have hkz : ∀ {G1 : Ghost} {w1 : World} {G2 : Ghost} {w2 : World} {Z1 Z2 : Nat → Prop}, Keep G1 Z1 w1 G2 Z2 w2 → Keep G1 Z1 w1 G2 (fun b => Z2 b ∨ b = g) w2 := fun h => ⟨fun b hz => ⟨.inl (h.zin b hz).1, (h.zin b hz).2⟩, h.ver, h.same, h.room⟩
  have hkZ : Keep (upd G id (ver, none)) Z (w.freeze ⟨g, arr.size, none⟩ 1) (upd G id (ver, none)) (fun b => Z b ∨ b = g) (w.freeze ⟨g, arr.size, none⟩ 1) := hkz (Keep.refl _ _ _)
  have s1' : St P (upd G id (ver, none)) (upd H id (ver, none)) (fun b => Z b ∨ b = g) (w.freeze ⟨g, arr.size, none⟩ 1) := by
    refine ⟨s1.ver, s1.dead, fun id' ob h => ?_, s1.inj, fun id' b o2 h hz => ?_, fun b hz => ?_, s1.glt, s1.ones⟩
    · obtain ⟨loc, h1, h2⟩ := s1.obj id' ob h
      refine ⟨loc, h1, ?_⟩
      cases loc with
      | none => cases ob <;> exact h2
      | some p =>
        obtain ⟨b, o3⟩ := p
        cases ob with
        | cells cs =>
          obtain ⟨arr, e, h3, h4⟩ := h2
          exact ⟨arr, e, h3, h4.mono fun a v hr => hr.keep hkZ⟩
        | map m => exact h2
    · rcases hz with hz | rfl
      · exact s1.disj _ _ _ h hz
      · exact hdead _ _ h
    · rcases hz with hz | rfl
      · exact s1.zlt b hz
      · exact heap_lt hh'
  have s2' : Step G Z w (upd G id (ver, none)) (fun b => Z b ∨ b = g) (w.freeze ⟨g, arr.size, none⟩ 1) := ⟨hkz s2.toKeep, s2.os, s2.tape, s2.output, s2.size, s2.old, fun b hz => by
    rcases hz with hz | rfl
    · exact s2.zout b hz
    · exact .inr (.inl ⟨id, o', hGid⟩), s2.live⟩
  obtain ⟨g1, g2, g3⟩ := onesA_spec hl
  have hln : l.length = n := by rw [g3, List.length_take, List.length_drop]; omega
  have hrun : (convert src src (ρc x)).run P w = .ok (ρc x) (w.freeze ⟨g, arr.size, none⟩ 1) := by
    rw [hv]
    simp [convert, run_underlying hs, run_underlying he, markStringish, hsh, Result.andThen]
  refine ⟨_, _, _, ρc x, .inl (by simp [execOp, ho, hrun]), s1', s2', .f ?_⟩
  rw [hv]
  have hget : ∀ k, k < n → ∃ y u, l[k]? = some [y] ∧ arr[o' + (off + k)]? = some u ∧ u.oneCell' = true ∧ RepF Z w y u := fun k hk => by
    obtain ⟨z, hz⟩ : ∃ z, l[k]? = some z := ⟨_, List.getElem?_eq_getElem (by omega)⟩
    have hzl := g2 z (List.mem_of_getElem? hz)
    obtain ⟨y, rfl⟩ : ∃ y, z = [y] := by
      rcases z with _ | ⟨y, _ | ⟨y', z⟩⟩
      · simp at hzl
      · exact ⟨y, rfl⟩
      · simp at hzl
    have h2 : ∀ (l : List (List FV)) (k : Nat) (y : FV), (∀ x ∈ l, x.length = 1) → l[k]? = some [y] → l.flatten[k]? = some y := by
      intro l
      induction l with
      | nil => intro k y _ h; simp at h
      | cons z l ih =>
        intro k y hall h
        have hz1 := hall z (by simp)
        obtain ⟨q, rfl⟩ : ∃ q, z = [q] := by
          rcases z with _ | ⟨q, _ | ⟨q', z⟩⟩
          · simp at hz1
          · exact ⟨q, rfl⟩
          · simp at hz1
        cases k with
        | zero => simpa using h
        | succ k => simpa using ih k y (fun x hx => hall x (by simp [hx])) (by simpa using h)
    have h3 : ((cs.drop off).take n)[k]? = some (.f y) := by rw [g1, List.getElem?_map, h2 l k y g2 hz]; rfl
    rw [List.getElem?_take_of_lt hk, List.getElem?_drop] at h3
    obtain ⟨u, h4, h5, h6⟩ := hcc _ _ h3
    exact ⟨y, u, hz, h4, h5, h6.f_⟩
  have hkeepF : ∀ {y : FV} {u : Value}, RepF Z w y u → RepF (fun b => Z b ∨ b = g) (w.freeze ⟨g, arr.size, none⟩ 1) y u := fun h => h.keep s2'.zin
  have hfr := RepF.fr (Z := fun b => Z b ∨ b = g) (w := w.freeze ⟨g, arr.size, none⟩ 1) 1 l g (o' + off * 1) c (fun k _ => (arr[o' + (off + k)]?).getD undef)
    (by omega) (by omega) hcm (.inr rfl) g2
    (fun k j hk hj => by
      obtain ⟨y, u, h1, h2, h3, h4⟩ := hget k (by omega)
      have hj0 : j = 0 := by omega
      subst hj0
      rw [cell_of_row _ g _ arr et _ hh', show o' + off * 1 + k * 1 + 0 = o' + (off + k) by omega, h2]
      exact ⟨rfl, h3⟩)
    (fun k j z a hk hj => by
      obtain ⟨y, u, h1, h2, h3, h4⟩ := hget k (by have := (List.getElem?_eq_some_iff.1 hk).1; omega)
      rw [hk] at h1
      obtain rfl := Option.some.inj h1
      have hj0 : j = 0 := by have := (List.getElem?_eq_some_iff.1 hj).1; simp at this; omega
      subst hj0
      obtain rfl := Option.some.inj hj
      simp only [h2, Option.getD_some]
      exact hkeepF h4)
  rw [hln] at hfr
  exact hfr
end
end Go.Proofs.YtaiajaibcpkceaaDoor
