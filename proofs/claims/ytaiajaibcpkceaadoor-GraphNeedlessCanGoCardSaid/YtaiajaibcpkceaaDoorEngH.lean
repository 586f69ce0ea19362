/-
  The abstract machine: literals; all lowered operations together. No statement of the seat is proved here; no conditions.
-/
import Derived.Test.YtaiajaibcpkceaaDoorEngG2
namespace Go.Proofs.YtaiajaibcpkceaaDoor
open Go.RowKit
set_option linter.unusedVariables false
set_option linter.unusedSimpArgs false

theorem foldl_set (off : Nat) : ∀ (vs : List Value) (k : Nat) (arr : Array Value), off + k + vs.length ≤ arr.size →
    ((vs.zipIdx k).foldl (fun cs (p : Value × Nat) => cs.setIfInBounds (off + p.2) p.1) arr).size = arr.size ∧
    ∀ i, ((vs.zipIdx k).foldl (fun cs (p : Value × Nat) => cs.setIfInBounds (off + p.2) p.1) arr)[i]? = if off + k ≤ i ∧ i < off + k + vs.length then vs[i - (off + k)]? else arr[i]?
  | [], k, arr, _ => ⟨rfl, fun i => by rw [if_neg (by simp only [List.length_nil]; omega)]; rfl⟩
  | v :: vs, k, arr, h => by
    simp only [List.length_cons] at h
    obtain ⟨h1, h2⟩ := foldl_set off vs (k + 1) (arr.setIfInBounds (off + k) v) (by simp; omega)
    simp only [List.zipIdx_cons, List.foldl_cons]
    refine ⟨by rw [h1]; simp, fun i => ?_⟩
    rw [h2 i]
    simp only [List.length_cons]
    by_cases hi : off + (k + 1) ≤ i ∧ i < off + (k + 1) + vs.length
    · rw [if_pos hi, if_pos (by omega), show i - (off + k) = (i - (off + (k + 1))) + 1 by omega]; rfl
    · rw [if_neg hi]
      by_cases he : i = off + k
      · subst he
        rw [if_pos (by omega), Array.getElem?_setIfInBounds, if_pos rfl, if_pos (by omega), Nat.sub_self]; rfl
      · rw [if_neg (by omega), Array.getElem?_setIfInBounds_ne (by omega)]

section
variable {P : Program} {G : Ghost} {H : Heap} {Z : Nat → Prop} {w : World} {ρ : Operand → AV} {ρc : Operand → Value} {t : Nat} {o : Oper} {v : AV} {H' : Heap}

theorem splice_get : ∀ (xs : List AV) (off : Nat) (cs : List AV), off + xs.length ≤ cs.length → (splice cs off xs).length = cs.length ∧ ∀ i, (splice cs off xs)[i]? = if off ≤ i ∧ i < off + xs.length then xs[i - off]? else cs[i]?
  | [], off, cs, h => ⟨rfl, fun i => by rw [if_neg (by simp only [List.length_nil]; omega)]; rfl⟩
  | x :: xs, off, cs, h => by
    simp only [List.length_cons] at h
    obtain ⟨h1, h2⟩ := splice_get xs (off + 1) (cs.set off x) (by simp; omega)
    refine ⟨by rw [splice, h1]; simp, fun i => ?_⟩
    rw [splice, h2 i]
    simp only [List.length_cons]
    by_cases hi : off + 1 ≤ i ∧ i < off + 1 + xs.length
    · rw [if_pos hi, if_pos (by omega), show i - off = (i - (off + 1)) + 1 by omega]; rfl
    · rw [if_neg hi]
      by_cases he : i = off
      · subst he
        rw [if_pos (by omega), Nat.sub_self, List.getElem?_set_self (by omega)]; rfl
      · rw [if_neg (by omega), List.getElem?_set_ne (by omega)]

theorem fill_ok (hρ : ∀ x, RepA G Z w (ρ x) (ρc x)) (place : Nat → Option (Nat × Nat)) (off size : Nat → Nat) : ∀ (parts : List (Nat × Operand)), (∀ p ∈ parts, place p.1 = some (off p.1, size p.1)) → ∀ (cs cs' : List AV) (arr : Array Value), Arr (RepA G Z w) arr cs →
    fillA cs (parts.map fun p => (off p.1, size p.1, ρ p.2)) = some cs' → ∃ arr', Instr.fill place arr (parts.map fun p => (p.1, ρc p.2)) = some arr' ∧ Arr (RepA G Z w) arr' cs'
  | [], _, cs, cs', arr, ha, h => by
    simp only [List.map_nil, fillA, Option.some.injEq] at h
    subst h
    exact ⟨arr, rfl, ha⟩
  | p :: parts, hp, cs, cs', arr, ha, h => by
    simp only [List.map_cons, fillA] at h
    split at h
    case h_2 => cases h
    rename_i xs hxs
    split at h
    case isFalse => cases h
    rename_i hle
    obtain ⟨h1, h2, h3⟩ := (hρ p.2).cellsN_ hxs
    have hsz : arr.size = cs.length := ha.1
    have hf := foldl_set (off p.1) (ρc p.2).cells.toList 0 arr (by rw [Array.length_toList]; omega)
    simp only [List.map_cons, Instr.fill, hp p (by simp)]
    rw [if_neg (by simp; omega)]
    have e1 : (Array.foldl (fun cs x => cs.setIfInBounds (off p.1 + x.2) x.1) arr (ρc p.2).cells.zipIdx) = ((ρc p.2).cells.toList.zipIdx 0).foldl (fun cs (q : Value × Nat) => cs.setIfInBounds (off p.1 + q.2) q.1) arr := by
      rw [← Array.foldl_toList, Array.toList_zipIdx]
    rw [e1]
    obtain ⟨g1, g2⟩ := splice_get xs (off p.1) cs (by omega)
    refine fill_ok hρ place off size parts (fun q hq => hp q (by simp [hq])) _ cs' _ ⟨by rw [hf.1, hsz, g1], fun j a hj => ?_⟩ h
    rw [g2 j] at hj
    rw [Nat.zero_add, hf.2 j]
    simp only [Nat.add_zero, Array.length_toList]
    by_cases hi : off p.1 ≤ j ∧ j < off p.1 + xs.length
    · rw [if_pos hi] at hj
      rw [if_pos (by omega)]
      obtain ⟨u, h4, h5, h6⟩ := h3 _ a hj
      exact ⟨u, by rw [Array.getElem?_toList]; exact h4, h5, h6⟩
    · rw [if_neg hi] at hj
      rw [if_neg (by omega)]
      obtain ⟨u, h4, h5, h6⟩ := ha.2 j a hj
      exact ⟨u, by rw [Nat.zero_add] at h4; exact h4, h5, h6⟩

theorem partsOf_inv {fs : Array Field} : ∀ {parts : List (Nat × Operand)} {l : List (Nat × Nat × Operand)}, partsOf? P fs parts = some l →
    l = parts.map (fun p => (((fs[p.1]?).map (·.offset)).getD 0, ((fs[p.1]?).bind fun f => sizeOf? P f.type).getD 0, p.2)) ∧ ∀ p ∈ parts, ∃ f s, fs[p.1]? = some f ∧ sizeOf? P f.type = some s
  | [], l, h => by simp only [partsOf?, Option.some.injEq] at h; subst h; simp
  | (i, x) :: r, l, h => by
    simp only [partsOf?] at h
    split at h
    case h_2 => cases h
    rename_i f hf
    split at h
    case h_2 => cases h
    rename_i s l' hs hl
    obtain rfl := Option.some.inj h
    obtain ⟨h1, h2⟩ := partsOf_inv hl
    refine ⟨by rw [List.map_cons, ← h1]; simp [hf, hs], fun p hp => ?_⟩
    rcases List.mem_cons.1 hp with rfl | hp
    · exact ⟨f, s, hf, hs⟩
    · exact h2 p hp
theorem mapM_places (fs : List Field) (h : fs.all (fun f => (sizeOf? P f.type).isSome) = true) : fs.mapM (fun f => (P.info? f.type).map fun i => (f.offset, i.size)) = some (fs.map fun f => (f.offset, (sizeOf? P f.type).getD 0)) := by
  induction fs with
  | nil => rfl
  | cons f r ih =>
    simp only [List.all_cons, Bool.and_eq_true] at h
    obtain ⟨s, hs⟩ := Option.isSome_iff_exists.1 h.1
    unfold sizeOf? at hs
    cases hi : P.info? f.type with
    | none => rw [hi] at hs; cases hs
    | some i => simp [List.mapM_cons, hi, ih h.2, sizeOf?]
theorem ok_build (st : St P G H Z w) (hρ : ∀ x, RepA G Z w (ρ x) (ρc x)) (ty : TypeId) (fs : Array Field) (z : List FV) (parts : Array (Nat × Operand)) (l : List (Nat × Nat × Operand)) (hu : P.underlying ty = some (.struct fs)) (hz : zeroCellsOf P ty = some z) (hall : fs.toList.all (fun f => (sizeOf? P f.type).isSome) = true) (hl : partsOf? P fs parts.toList = some l)
    (hx : (eff (.build z l) ρ t).exec H = some (v, H')) (ho : o.op = .build ty parts) : OpOk P (execOp ρc o) G H Z w v H' := by
  obtain ⟨i, zv, hi, hzv, hone, hzs, rfl⟩ := zeroCells_inv hz
  obtain ⟨h1, h2⟩ := partsOf_inv hl
  simp only [eff] at hx
  split at hx
  case h_2 => cases hx
  rename_i cs hf
  obtain ⟨rfl, rfl⟩ := exec_pure hx
  rw [h1] at hf
  have hf' : fillA ((zv.cells.toList.map FV.ofValue).map .f) (parts.toList.map fun p => (((fs[p.1]?).map (·.offset)).getD 0, ((fs[p.1]?).bind fun f => sizeOf? P f.type).getD 0, ρ p.2)) = some cs := by
    rw [← hf, List.map_map (l := parts.toList)]; rfl
  let pl : Nat → Option (Nat × Nat) := fun k => (fs.toList.map fun f => (f.offset, (sizeOf? P f.type).getD 0)).toArray[k]?
  obtain ⟨arr, h3, h4⟩ := fill_ok hρ pl (fun k => ((fs[k]?).map (·.offset)).getD 0) (fun k => ((fs[k]?).bind fun f => sizeOf? P f.type).getD 0) parts.toList (fun p hp => by
    obtain ⟨f, s, h5, h6⟩ := h2 p hp
    simp [pl, h5, h6]) _ cs zv.cells (arr_zero hone) hf'
  have hb : P.built ty ((parts.map fun (i, x) => (i, ρc x))).toList = some arr := by
    unfold Program.built
    simp only [hi, hu, hzv]
    rw [mapM_places fs.toList hall]
    simp only [Array.toList_map]
    exact h3
  refine OpOk.pure st (u := .agg arr) ?_ (.agg _ _ h4.1 (fun j u hj => ?_) fun j a u ha hj => ?_)
  · simp [execOp, ho, run_build w ty _ arr hb]
  · have hlt := (Array.getElem?_eq_some_iff.1 hj).1
    obtain ⟨u', h5, h6, _⟩ := h4.2 j _ (List.getElem?_eq_getElem (by rw [← h4.1]; exact hlt))
    rw [Nat.zero_add, hj] at h5
    obtain rfl := Option.some.inj h5
    exact h6
  · obtain ⟨u', h5, _, h6⟩ := h4.2 j a ha
    rw [Nat.zero_add, hj] at h5
    obtain rfl := Option.some.inj h5
    exact h6

theorem run_buildSlice0 (ty e : TypeId) (pv : Array (Nat × Value)) (cells : Array Value) (i : TypeInfo) (hu : P.underlying ty = some (.slice e)) (hi : P.info? e = some i) (h : Instr.fill (fun k => some (k * i.size, i.size)) #[] pv.toList = some cells) :
    (Instr.buildSlice ty 0 pv).run P w = .ok (.slice (some ⟨w.heap.size, 0, none⟩) 0 0) (w.alloc (.cells cells e)) := by
  have e0 : (Array.map (fun _ => (default : Value)) (Array.range 0)) = #[] := by simp [Array.range]
  simp [Instr.buildSlice, run_underlying hu, sizeOf, typeInfo, hi, newRow, e0, h]
theorem ok_buildSlice (st : St P G H Z w) (hρ : ∀ x, RepA G Z w (ρ x) (ρc x)) (ty e : TypeId) (sz len : Nat) (z : List FV) (parts : Array (Nat × Operand)) (he : elemOf? P ty = some e) (hz : zeroCellsOf P e = some z) (hs : sizeOf? P e = some sz) (hpos : sz ≠ 0) (hsm : len * sz ≤ 16777216)
    (hx : (eff (.buildSlice e sz len z parts.toList) ρ t).exec H = some (v, H')) (ho : o.op = .buildSlice ty len parts) : OpOk P (execOp ρc o) G H Z w v H' := by
  obtain ⟨i, zv, hi, hzv, hone, hzs, rfl⟩ := zeroCells_inv hz
  have hsz : i.size = sz := by unfold sizeOf? at hs; rw [hi] at hs; simpa using hs
  simp only [eff] at hx
  split at hx
  case h_2 => cases hx
  rename_i cs hf
  obtain ⟨ver, hd, rfl, rfl⟩ := exec_newObj hx
  obtain ⟨arr, h3, h4⟩ := fill_ok hρ (fun k => some (k * sz, sz)) (fun k => k * sz) (fun _ => sz) parts.toList (fun p hp => rfl) _ cs _ (arr_zeros (n := len) (sz := sz) hone (by omega)) hf
  have hrun : (execOp ρc o).run P w = .ok (.value (.slice (some ⟨w.heap.size, 0, none⟩) len len)) (w.alloc (.cells arr e)) := by
    rcases Nat.eq_zero_or_pos (len * sz) with h0 | h0
    · have hl0 : len = 0 := by rcases Nat.mul_eq_zero.1 h0 with h | h <;> omega
      subst hl0
      have h3' : Instr.fill (fun k => some (k * sz, sz)) (madeCells zv.cells (0 * sz)) (parts.toList.map fun p => (p.1, ρc p.2)) = some arr := h3
      have e0 : madeCells zv.cells (0 * sz) = #[] := by simp [madeCells]
      rw [e0] at h3'
      have := run_buildSlice0 (P := P) (w := w) ty e (parts.map fun (i, x) => (i, ρc x)) arr i (elemOf_inv he) hi (by rw [hsz, Array.toList_map]; exact h3')
      simp [execOp, ho, this]
    · have := run_buildSlice (P := P) w ty e len (parts.map fun (i, x) => (i, ρc x)) arr i zv (elemOf_inv he) hi hzv (by rw [hsz]; omega) (by rw [hsz]; omega) (by
        rw [hsz, Array.toList_map]; exact h3)
      simp [execOp, ho, this]
  obtain ⟨s1, s2⟩ := st.new hd (e := e) h4.2 (fun i v hv => by
    have hlt := (Array.getElem?_eq_some_iff.1 hv).1
    obtain ⟨u, g1, g2, _⟩ := h4.2 i _ (List.getElem?_eq_getElem (by rw [← h4.1]; exact hlt))
    rw [Nat.zero_add, hv] at g1; obtain rfl := Option.some.inj g1; exact g2)
  refine ⟨_, Z, _, _, .inl hrun, s1, s2, ?_⟩
  have hcsl : cs.length = len * sz := by
    have : ∀ (l : List (Nat × Nat × AV)) (c c' : List AV), fillA c l = some c' → c'.length = c.length := by
      intro l
      induction l with
      | nil => intro c c' h; simp only [fillA, Option.some.injEq] at h; rw [h]
      | cons p r ih =>
        intro c c' h
        obtain ⟨off, size, a⟩ := p
        simp only [fillA] at h
        split at h
        case h_2 => cases h
        rename_i xs hxs
        split at h
        case isFalse => cases h
        rename_i hle
        rw [ih _ _ h]
        have hxl : xs.length = size := by
          unfold AV.cellsN at hxs
          split at hxs
          · split at hxs
            · obtain rfl := Option.some.inj hxs; assumption
            · cases hxs
          · split at hxs
            · rename_i hc; obtain rfl := Option.some.inj hxs; simp [hc.1]
            · cases hxs
        exact (splice_get xs off c (by omega)).1
    rw [this _ _ _ hf, zeros, List.length_map, flatten_len (sz := sz) _ (fun y hy => by rw [List.eq_of_mem_replicate hy, List.length_map, Array.length_toList]; omega), List.length_replicate]
  have := RepA.slLive (G := upd G t (ver + 1, some (some (w.heap.size, 0)))) (Z := Z) (w := w.alloc (.cells arr e)) t (ver + 1) sz 0 len w.heap.size 0 len (by simp) (Nat.le_refl _)
    (by unfold maxLen; have : len * 1 ≤ len * sz := Nat.mul_le_mul_left _ (by omega); omega) ⟨arr, e, (0, 0), heap_alloc_new w _, by rw [h4.1, hcsl]; simp⟩
  simpa using this

theorem run_min2 (k : IntKind) (x y : Int) (ts : Array TypeId) (ty : TypeId) (hk : k = k) : Sem.run P (Builtin.min_ ts ty #[.int k x, .int k y]) w = .ok (.int k (min x y)) w := by
  simp only [Builtin.min_, List.foldlM, Builtin.min2, Sem.run_pure, Sem.run_bind, Result.andThen_ok, pure_bind]
  congr 2
  simp only [Int.min_def]; split <;> split <;> omega
theorem ok_maxI (st : St P G H Z w) (hρ : ∀ x, RepA G Z w (ρ x) (ρc x)) (x y : Operand) (hx : (eff (.maxI x y) ρ t).exec H = some (v, H')) (c : Call) (ho : o.op = .call c) (hc : c.callee = .builtin .max) (hargs : c.args = #[x, y]) : OpOk P (execOp ρc o) G H Z w v H' := by
  have ha := hρ x
  have hb := hρ y
  simp only [eff] at hx
  split at hx
  case h_2 => cases hx
  rename_i k a k' b e1 e2
  split at hx
  case isFalse => cases hx
  rename_i hk
  subst hk
  obtain ⟨rfl, rfl⟩ := exec_pure hx
  rw [e1] at ha; rw [e2] at hb
  refine OpOk.pure st (u := .int k (max a b)) ?_ (.f (.int _ _))
  simp [execOp, ho, resolve, hc, hargs, invoke, builtin, ha.int_, hb.int_, run_max2]
theorem ok_minI (st : St P G H Z w) (hρ : ∀ x, RepA G Z w (ρ x) (ρc x)) (x y : Operand) (hx : (eff (.minI x y) ρ t).exec H = some (v, H')) (c : Call) (ho : o.op = .call c) (hc : c.callee = .builtin .min) (hargs : c.args = #[x, y]) : OpOk P (execOp ρc o) G H Z w v H' := by
  have ha := hρ x
  have hb := hρ y
  simp only [eff] at hx
  split at hx
  case h_2 => cases hx
  rename_i k a k' b e1 e2
  split at hx
  case isFalse => cases hx
  rename_i hk
  subst hk
  obtain ⟨rfl, rfl⟩ := exec_pure hx
  rw [e1] at ha; rw [e2] at hb
  refine OpOk.pure st (u := .int k (min a b)) ?_ (.f (.int _ _))
  simp [execOp, ho, resolve, hc, hargs, invoke, builtin, ha.int_, hb.int_, run_min2]

theorem intKind_inv {ty : TypeId} {k : IntKind} (h : intKindOf? P ty = some k) : P.underlying ty = some (.int k) := by
  unfold intKindOf? at h
  split at h
  · rename_i k2 h2
    obtain rfl := Option.some.inj h
    exact h2
  · cases h
theorem arr1 {α : Type} {a : Array α} {x : α} (h : a.toList = [x]) : a = #[x] := Array.toList_inj.1 h
theorem arr2 {α : Type} {a : Array α} {x y : α} (h : a.toList = [x, y]) : a = #[x, y] := Array.toList_inj.1 h

/-- **What a lowered operation (no call) does to an abstract state is what the operation does.** -/
theorem lower_sound (st : St P G H Z w) (hρ : ∀ x, RepA G Z w (ρ x) (ρc x)) (hk : ∀ u, ρc (.const u) = u) {lo : LOp} (hl : lowOp P o.op = some lo) (hx : (eff lo ρ t).exec H = some (v, H')) : OpOk P (execOp ρc o) G H Z w v H' := by
  cases ho : o.op <;> rw [ho] at hl <;> simp only [lowOp] at hl <;> try cases hl
  case move x => exact ok_move st hρ x hx (.inl ho)
  case assign x => exact ok_move st hρ x hx (.inr ho)
  case pick c a b => exact ok_pick st hρ c a b hx ho
  case alloc e =>
    obtain ⟨z, hz, rfl⟩ := Option.map_eq_some_iff.1 hl
    exact ok_alloc st e z hz hx ho
  case box e x => exact ok_box st hρ e x hx ho
  case build ty parts =>
    split at hl
    case h_2 => cases hl
    rename_i fs z hu hz
    split at hl
    case isFalse => cases hl
    rename_i hall
    obtain ⟨l, hp, rfl⟩ := Option.map_eq_some_iff.1 hl
    exact ok_build st hρ ty fs z parts l hu hz hall hp hx ho
  case buildSlice ty len parts =>
    split at hl
    case h_2 => cases hl
    rename_i e he
    split at hl
    case h_2 => cases hl
    rename_i z sz hz hs
    split at hl
    case isFalse => cases hl
    rename_i hc
    obtain rfl := Option.some.inj hl
    exact ok_buildSlice st hρ ty e sz len z parts he hz hs hc.1 hc.2 hx ho
  case load ty a =>
    obtain ⟨n, hn, rfl⟩ := Option.map_eq_some_iff.1 hl
    exact ok_load st hρ ty n a hn hx ho
  case store ty a x =>
    obtain ⟨n, hn, rfl⟩ := Option.map_eq_some_iff.1 hl
    exact ok_store st hρ ty n a x hn hx ho
  case nilCheck x => exact ok_nilChk st hρ x hx ho
  case binOp op ty x y ty2 =>
    split at hl
    · rename_i lo' hn
      obtain rfl := Option.some.inj hl
      exact ok_isNil st hρ hk op ty ty2 x y hn hx ho
    · split at hl
      · rename_i lo' hn
        obtain rfl := Option.some.inj hl
        exact ok_eqS st hρ op ty ty2 x y hn hx ho
      · obtain rfl := Option.some.inj hl
        exact ok_bin st hρ op ty ty2 x y hx ho
  case unOp op ty x => exact ok_un st hρ op ty x hx ho
  case convert src dst x =>
    split at hl
    · rename_i k hk
      split at hl
      case isFalse => cases hl
      rename_i hs
      obtain ⟨k2, hs⟩ := Option.isSome_iff_exists.1 hs
      obtain rfl := Option.some.inj hl
      exact ok_convInt st hρ src dst k k2 x (intKind_inv hk) (intKind_inv hs) hx ho
    · split at hl
      · rename_i hs
        simp only [Bool.and_eq_true] at hs
        obtain rfl := Option.some.inj hl
        exact ok_convStr st hρ src dst x (isStr_inv hs.2) (isStr_inv hs.1) hx ho
      · split at hl
        · rename_i hs
          simp only [Bool.and_eq_true] at hs
          obtain ⟨e, he1, he2⟩ := isBytes_inv hs.1
          obtain rfl := Option.some.inj hl
          exact ok_bytesStr st hρ src dst e x he1 he2 (isStr_inv hs.2) hx ho
        · split at hl
          · rename_i hs
            simp only [Bool.and_eq_true] at hs
            obtain ⟨e, he1, he2⟩ := isBytes_inv hs.2
            obtain rfl := Option.some.inj hl
            exact ok_strBytes st hρ src dst e x he1 he2 (isStr_inv hs.1) hx ho
          · split at hl
            case isFalse => cases hl
            rename_i hs
            simp only [Bool.and_eq_true, beq_iff_eq] at hs
            obtain ⟨h1, rfl⟩ := hs
            obtain ⟨e, he1, he2⟩ := isBytes_inv h1
            obtain rfl := Option.some.inj hl
            exact ok_mark st hρ src e x he1 he2 hx ho
  case makeFunc fn first caps =>
    split at hl
    case isFalse => cases hl
    rename_i hf
    obtain rfl := Option.some.inj hl
    exact ok_clo st hρ fn first caps hf hx ho
  case makeSlice ty l c =>
    split at hl
    case h_2 => cases hl
    rename_i e he
    split at hl
    case h_2 => cases hl
    rename_i z sz by_ hz hs hb
    split at hl
    case isFalse => cases hl
    rename_i hc
    obtain rfl := Option.some.inj hl
    exact ok_makeSlice st hρ ty e sz by_ z l c he hs hb hz hc hx ho
  case slice ty x lo hi mx =>
    split at hl
    · rename_i e he
      split at hl
      · rename_i sz hs
        obtain rfl := Option.some.inj hl
        exact ok_slice st hρ ty e _ x _ _ he hs hx ho
      · rename_i sz lo' hi' mx' hs
        obtain rfl := Option.some.inj hl
        exact ok_slice0 st hρ ty e sz x _ lo' hi' mx' (.inl rfl) he hs hx ho
      · rename_i sz hi' mx' hs
        obtain rfl := Option.some.inj hl
        exact ok_slice0 st hρ ty e sz x _ _ hi' mx' (.inr ⟨rfl, rfl⟩) he hs hx ho
      · cases hl
    · split at hl
      case isFalse => cases hl
      rename_i hs
      simp only [Bool.and_eq_true, Option.isNone_iff_eq_none] at hs
      obtain ⟨hs, rfl⟩ := hs
      obtain rfl := Option.some.inj hl
      exact ok_sliceS st hρ ty x lo hi hs hx ho
  case fieldAddr s x i =>
    split at hl
    case h_2 => cases hl
    rename_i f hf
    split at hl
    case h_2 => cases hl
    rename_i n hn
    split at hl
    case isFalse => cases hl
    rename_i h0
    obtain rfl := Option.some.inj hl
    exact ok_fieldAddr st hρ s f i n x hf hn h0 hx ho
  case field s x i =>
    split at hl
    case h_2 => cases hl
    rename_i f hf
    obtain ⟨n, hn, rfl⟩ := Option.map_eq_some_iff.1 hl
    exact ok_field st hρ s f i n x hf hn hx ho
  case indexAddr ty x ix =>
    split at hl
    case h_2 => cases hl
    rename_i e he
    obtain ⟨n, hn, rfl⟩ := Option.map_eq_some_iff.1 hl
    exact ok_indexAddr st hρ ty e n x ix (elemOf_inv he) hn hx ho
  case index ty x ix =>
    split at hl
    case isFalse => cases hl
    rename_i hs
    obtain rfl := Option.some.inj hl
    exact ok_indexS st hρ ty x ix (isStr_inv hs) hx ho
  case extract x i => exact ok_extract st hρ i x hx ho
  case call c =>
    split at hl
    · rename_i hc
      split at hl
      case h_2 => cases hl
      rename_i x ty ha hat
      split at hl
      · rename_i hs
        obtain rfl := Option.some.inj hl
        exact ok_len st hρ true x ty (by rw [if_pos rfl]; exact isStr_inv hs) hx c ho hc (arr1 ha) (arr1 hat)
      · split at hl
        case isFalse => cases hl
        rename_i hs
        obtain rfl := Option.some.inj hl
        exact ok_len st hρ false x ty (by rw [if_neg (by decide)]; exact elemOf_some hs) hx c ho hc (arr1 ha) (arr1 hat)
    · rename_i hc
      split at hl
      case h_2 => cases hl
      rename_i x y ha
      obtain rfl := Option.some.inj hl
      exact ok_maxI st hρ x y hx c ho hc (arr2 ha)
    · rename_i hc
      split at hl
      case h_2 => cases hl
      rename_i x y ha
      obtain rfl := Option.some.inj hl
      exact ok_minI st hρ x y hx c ho hc (arr2 ha)
    · rename_i hc
      split at hl
      case h_2 => cases hl
      rename_i s x ty tx ha hat
      split at hl
      case h_2 => cases hl
      rename_i e he
      split at hl
      case h_2 => cases hl
      rename_i sz by_ hs hb
      split at hl
      case isFalse => cases hl
      rename_i hcc
      split at hl
      · rename_i hst
        obtain rfl := Option.some.inj hl
        exact ok_append st hρ true ty tx e sz by_ s x he hs hb hcc.1 hcc.2.1 hcc.2.2 (by rw [if_pos rfl]; exact isStr_inv hst) hx c ho hc (arr2 ha) (arr2 hat)
      · split at hl
        case isFalse => cases hl
        rename_i hst
        obtain rfl := Option.some.inj hl
        exact ok_append st hρ false ty tx e sz by_ s x he hs hb hcc.1 hcc.2.1 hcc.2.2 (by rw [if_neg (by decide)]; exact elemOf_some hst) hx c ho hc (arr2 ha) (arr2 hat)
    · rename_i hc
      split at hl
      case h_2 => cases hl
      rename_i d s dT sT ha hat
      split at hl
      case h_2 => cases hl
      rename_i e he
      split at hl
      case h_2 => cases hl
      rename_i sz hs
      split at hl
      case isFalse => cases hl
      obtain rfl := Option.some.inj hl
      exact ok_copy st hρ dT sT e sz d s he hs hx c ho hc (arr2 ha) (arr2 hat)
    · rename_i hc
      split at hl
      case h_2 => cases hl
      rename_i x ty ha hat
      split at hl
      case h_2 => cases hl
      rename_i e he
      split at hl
      case h_2 => cases hl
      rename_i sz z hs hz
      obtain rfl := Option.some.inj hl
      exact ok_clear st hρ ty e sz z x he hs hz hx c ho hc (arr1 ha) (arr1 hat)
    · rename_i hc
      split at hl
      case h_2 => cases hl
      split at hl
      case isFalse => cases hl
      obtain rfl := Option.some.inj hl
      simp only [eff] at hx
      cases hx
    · obtain rfl := Option.some.inj hl
      simp only [eff] at hx
      cases hx
    · cases hl
  case makeMap ty r =>
    split at hl
    case h_2 => cases hl
    obtain rfl := Option.some.inj hl
    exact ok_mkMap st ty hx ho
  case mapUpdate ty m k x =>
    split at hl
    case h_2 => cases hl
    rename_i p hp
    obtain ⟨kt, et⟩ := p
    obtain rfl := Option.some.inj hl
    exact ok_mapUpd st hρ ty kt et m k x hp hx ho
  case lookup ty m k ok =>
    split at hl
    case h_2 => cases hl
    rename_i kt e hp
    split at hl
    case h_2 => cases hl
    rename_i i hi
    split at hl
    case h_2 => cases hl
    rename_i z hz
    obtain rfl := Option.some.inj hl
    exact ok_lookup st hρ ty kt e i z ok m k hp hi hz hx ho
end
end Go.Proofs.YtaiajaibcpkceaaDoor
