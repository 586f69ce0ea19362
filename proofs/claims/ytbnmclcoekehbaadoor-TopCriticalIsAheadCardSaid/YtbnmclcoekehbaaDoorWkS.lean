/-
  workers.critical on the machine. No statement of the seat is proved here; no conditions.
-/
import Derived.Test.YtbnmclcoekehbaaDoorRdR
import Derived.Test.YtbnmclcoekehbaaDoorWkQ
import Derived.Deep.OwnRows
namespace Go.Proofs.YtbnmclcoekehbaaDoor
open Go.RowKit Go.Shelf Go.Deep
set_option linter.unusedVariables false
set_option linter.unusedSimpArgs false
attribute [local go_sem] Oper.semAt_some

theorem ordered_z (l : List Work) (h : WOk l) : FRet Tryd.prog 16 [.f (frWorks l)] [.c (.v (frN (ordWV l))), .c (.v (.bool true))] := by
  have k := ordered_f l h.len h.rising h.aft fun x hx => by
    have h1 := aft_len h.rising (aft_words (ckWork_parts (h.works x hx)).2.2).2 (fun d hd => List.all_eq_true.1 (List.all_eq_true.1 h.aft x hx) d hd)
    have h2 := h.len
    omega
  have ho := h.ord
  rw [show decide (((ordWV l).length : Int) = (l.length : Int)) = true from decide_eq_true (by omega)] at k
  exact k.frz (ys := [frN (ordWV l), .bool true]) ⟨⟨(ordWV l).map fun n => [fN n], rfl, List.length_map _, fun r hr => by obtain ⟨y, _, rfl⟩ := List.mem_map.1 hr; rfl, by
      rw [Nat.mul_one, List.take_of_length_le (by rw [List.length_map]; exact Nat.le_refl _)]
      generalize ordWV l = o
      induction o with
      | nil => rfl
      | cons a o ih => rw [List.map_cons, List.map_cons, List.flatten_cons, ← ih]; rfl⟩, rfl, rfl⟩
theorem ordered_c (l : List Work) (h : WOk l) (w W : World) (v : Value) (hv : RepF (fun b => b < w.heap.size) w (frWorks l) v) (hb : Below w.heap.size w W) :
    Calls Tryd.prog 16 #[v] W fun e w' => ∃ A c, e = .returned (.tuple #[.slice A l.length c, .bool true]) ∧ RepF (fun b => b < w.heap.size ∨ (W.heap.size ≤ b ∧ b < w'.heap.size)) w' (frN (ordWV l)) (.slice A l.length c) ∧ Below W.heap.size W w' := by
  refine (calls2 (xs := [frWorks l]) (ordered_z l h) hb.size rfl fun j x u hx hu => ?_).mono fun e w' ⟨u1, u2, he, h1, h2, h3⟩ => ?_
  · rcases j with _ | j
    · obtain rfl := Option.some.inj hx; obtain rfl := Option.some.inj hu
      exact hv.keep fun b hb2 => ⟨hb2, hb.block b hb2⟩
    · simp at hx
  · cases h2
    obtain ⟨A, c, e⟩ : ∃ A c, u1 = .slice A (ordWV l).length c := by
      unfold frN at h1
      generalize hL : (ordWV l).map (fun n => [fN n]) = L at h1
      cases h1 with
      | frNil sz A c hc => exact ⟨A, c, by rw [show (ordWV l).length = 0 by simpa using hL]⟩
      | fr sz l2 b off c us h1 h2 h3 h4 h5 h6 h7 => subst hL; exact ⟨_, c, by rw [List.length_map]⟩
    rw [h.ord] at e
    subst e
    exact ⟨A, c, he, h1, h3⟩
theorem workAt_c (l : List Work) (h : WOk l) (t : ByteArray) (w W : World) (v : Value) (hv : RepF (fun b => b < w.heap.size) w (frWorks l) v) (hb : Below w.heap.size w W) :
    Calls Tryd.prog 15 #[v, .string t] W fun e w' => e = .returned (.tuple #[.int .i64 (wIdx l t), .bool (wHas l t)]) ∧ Below W.heap.size W w' := by
  refine (calls2 (n₀ := w.heap.size) (xs := [frWorks l, .str t]) (workAt_f l t (by have := h.len; omega) h.rising) hb.size rfl fun j x u hx hu => ?_).mono fun e w' ⟨u1, u2, he, h1, h2, h3⟩ => ?_
  · rcases j with _ | _ | j
    · obtain rfl := Option.some.inj hx; obtain rfl := Option.some.inj hu
      exact hv.keep fun b hb2 => ⟨hb2, hb.block b hb2⟩
    · obtain rfl := Option.some.inj hx; obtain rfl := Option.some.inj hu
      exact .str t
    · simp at hx
  · cases h2
    cases h1
    exact ⟨he, h3⟩
theorem ints_of {Z : Nat → Prop} {w : World} {o : List Nat} {u : Value} (h : RepF Z w (frN o) u) : (∃ A c, u = .slice A 0 c ∧ o.length = 0) ∨ ∃ b off cap, u = .slice (some ⟨b, off, none⟩) o.length cap ∧ Z b ∧ ∀ j, j < o.length → w.cell? ⟨b, off + j, none⟩ = some (.int .i64 ((o.getD j 0 : Nat) : Int)) := by
  unfold frN at h
  generalize hL : o.map (fun n => [fN n]) = L at h
  cases h with
  | frNil sz A c hc => exact .inl ⟨A, c, rfl, by simpa using hL⟩
  | fr sz l b off c us h1 h2 h3 h4 h5 h6 h7 =>
    subst hL
    refine .inr ⟨b, off, c, by rw [List.length_map], h4, fun j hj => ?_⟩
    have := h6 j 0 (by rw [List.length_map]; exact hj) (by omega)
    have h8 := h7 j 0 [fN o[j]] (fN o[j]) (by rw [List.getElem?_map, List.getElem?_eq_getElem hj]; rfl) rfl
    rw [Nat.mul_one, Nat.add_zero] at this
    rw [this.1]
    have e : us j 0 = .int .i64 (o[j] : Nat) := RepF.int_ h8
    rw [e]
    show _ = some (Value.int IntKind.i64 ((o.getD j 0 : Nat) : Int))
    rw [List.getD_eq_getElem?_getD, List.getElem?_eq_getElem hj]; rfl
theorem cell_new_w (W : World) (v : Value) (t : TypeId) : (W.alloc (.cells #[v] t)).cell? ⟨W.heap.size, 0, none⟩ = some v := by
  have h := World.alloc_heap_new W (.cells #[v] t)
  simp only [World.cell?, h]; rfl
theorem cell_old_w (W : World) (o : Obj) {p : Addr} (hp : p.block < W.heap.size) : (W.alloc o).cell? p = W.cell? p := World.cell?_of_block (w := W) (blk_alloc_lt _ _ _ hp)
theorem cFold_len (l : List Work) : ∀ pre : List (Nat × Nat), (pre.foldl (fun S x => cStep (aftE l) (wkW l) S (x.2 % l.length)) (List.replicate l.length 0)).length = l.length := by
  have key : ∀ (pre : List (Nat × Nat)) (S : List Int), (pre.foldl (fun S x => cStep (aftE l) (wkW l) S (x.2 % l.length)) S).length = S.length := fun pre => by
    induction pre with
    | nil => intro S; rfl
    | cons x pre ih => intro S; rw [List.foldl_cons, ih, cStep, cMax_len, List.length_set]
  intro pre
  rw [key, List.length_replicate]
/-- What comes, as the iterator hands it: a place, a number (below n). -/
def encP (n : Nat) (x : Nat × Nat) : Array Value := #[.int .i64 (x.1 : Int), .int .i64 ((x.2 % n : Nat) : Int)]
def cFold (l : List Work) (pre : List (Nat × Nat)) : List Int := pre.foldl (fun S x => cStep (aftE l) (wkW l) S (x.2 % l.length)) (List.replicate l.length 0)
theorem cFold_snoc (l : List Work) (pre : List (Nat × Nat)) (x : Nat × Nat) : cFold l (pre ++ [x]) = cStep (aftE l) (wkW l) (cFold l pre) (x.2 % l.length) := by unfold cFold; rw [List.foldl_append]; rfl
def mkP (o : List Nat) (m : Nat) : Nat × Nat := (m, o.getD m 0)
theorem cFold_end {l : List Work} (h : WOk l) : cFold l (uptoF (bwF (mkP (ordWV l)) l.length) l.length) = critV l := by
  have hI := WOk.invR (l := l)
  have e : (uptoF (bwF (mkP (ordWV l)) l.length) l.length).map (fun x => x.2 % l.length) = (ordWV l).reverse := by
    refine List.ext_getElem? fun i => ?_
    rw [List.getElem?_map, uptoF, List.getElem?_map]
    rcases Nat.lt_or_ge i l.length with hi | hi
    · rw [List.getElem?_range hi, List.getElem?_reverse (by rw [h.ord]; exact hi), h.ord]
      obtain ⟨x, hx⟩ := get_some (l := ordWV l) (i := l.length - 1 - i) (by rw [h.ord]; omega)
      have hxl := hI.lt x (List.mem_of_getElem? hx)
      simp only [Option.map_some, bwF, mkP]
      rw [hx, List.getD_eq_getElem?_getD, hx]
      simp only [Option.getD_some]
      rw [Nat.mod_eq_of_lt hxl]
    · rw [List.getElem?_eq_none (by simpa using hi), List.getElem?_eq_none (by rw [List.length_reverse, h.ord]; exact hi)]; rfl
  unfold cFold critV
  rw [← e, List.foldl_map]
structure OutAt (l : List Work) (b1 b2 b3 : Nat) (sv : Value) (S : List Int) (W : World) : Prop where
  row : W.rowIs b2 3 l.length (fun j => .int .i64 (S.getD j 0))
  box : W.cell? ⟨b3, 0, none⟩ = some (.slice (some ⟨b2, 0, none⟩) l.length l.length)
  arg : W.cell? ⟨b1, 0, none⟩ = some sv
theorem OutAt.kept {l : List Work} {b1 b2 b3 : Nat} {sv : Value} {S : List Int} {W W' : World} {row : Option Nat} (h : OutAt l b1 b2 b3 sv S W) (hg : W.grownBy W' row) (hr : ∀ r, row = some r → ∃ o : Obj, W.heap[r]? = some o ∧ o.isCells = false) : OutAt l b1 b2 b3 sv S W' := by
  refine ⟨?_, cell_kept h.box hg hr, cell_kept h.arg hg hr⟩
  obtain ⟨c, hb, hn, hc⟩ := h.row
  exact ⟨c, (grownBy_keeps_cells hg hr hb rfl).trans hb, hn, hc⟩
theorem putObj_other (W : World) (q : Nat) (o : Obj) (b : Nat) (h : b ≠ q) : (W.putObj q o).heap[b]? = W.heap[b]? := World.putObj_heap_other h
theorem rep_crit {l : List Work} (h : WOk l) {W : World} {b : Nat} (hr : W.rowIs b 3 l.length (fun j => .int .i64 ((critV l).getD j 0))) : RepF (fun x => x = b) W (frI (critV l)) (.slice (some ⟨b, 0, none⟩) l.length l.length) := by
  have hl : (critV l).length = l.length := by
    rw [← cFold_end h]; exact cFold_len l _
  rcases Nat.eq_zero_or_pos l.length with h0 | h0
  · have e : critV l = [] := List.eq_nil_of_length_eq_zero (by omega)
    rw [e, h0]
    exact .frNil 1 _ 0 (by unfold maxLen; omega)
  · have hln := h.len
    have hfr := RepF.fr (Z := fun x => x = b) (w := W) 1 ((critV l).map fun z => [fI z]) b 0 l.length (fun k _ => .int .i64 ((critV l).getD k 0)) (by rw [List.length_map]; omega) (by rw [List.length_map]; omega) (by unfold maxLen; omega) rfl (fun y hy => by obtain ⟨z, _, rfl⟩ := List.mem_map.1 hy; rfl)
      (fun k j hk hj => by
        obtain rfl : j = 0 := by omega
        rw [List.length_map, hl] at hk
        refine ⟨?_, rfl⟩
        have := hr.cell hk
        simpa using this)
      (fun k j y a hk hj => by
        rw [List.getElem?_map] at hk
        obtain ⟨z, hz, rfl⟩ := Option.map_eq_some_iff.1 hk
        obtain rfl : j = 0 := by have := (List.getElem?_eq_some_iff.1 hj).1; simp at this; omega
        obtain rfl := Option.some.inj hj
        rw [show (critV l).getD k 0 = z by rw [List.getD_eq_getElem?_getD, hz]; rfl]
        exact .int _ _)
    rw [List.length_map, hl] at hfr
    exact hfr
theorem strs_mem {n₀ : Nat} {w : World} {o : List ByteArray} {u : Value} (h : RepF (fun b => b < n₀) w (frStrs o) u) : (∃ A c, u = .slice A 0 c ∧ o.length = 0) ∨ ∃ b off cap, u = .slice (some ⟨b, off, none⟩) o.length cap ∧ b < n₀ ∧ ∀ j d, o[j]? = some d → w.cell? ⟨b, off + j, none⟩ = some (.string d) := by
  unfold frStrs at h
  generalize hL : o.map (fun n => [FV.str n]) = L at h
  cases h with
  | frNil sz A c hc => exact .inl ⟨A, c, rfl, by simpa using hL⟩
  | fr sz l b off c us h1 h2 h3 h4 h5 h6 h7 =>
    subst hL
    refine .inr ⟨b, off, c, by rw [List.length_map], h4, fun j d hj => ?_⟩
    have hjl := (List.getElem?_eq_some_iff.1 hj).1
    have := h6 j 0 (by rw [List.length_map]; exact hjl) (by omega)
    have h8 := h7 j 0 [FV.str d] (FV.str d) (by rw [List.getElem?_map, hj]; rfl) rfl
    rw [Nat.mul_one, Nat.add_zero] at this
    rw [this.1, RepF.str_ h8]
theorem works_mem {n₀ : Nat} {w : World} {l : List Work} {A : Option Addr} {n c : Nat} (h0 : 0 < l.length) (h : RepF (fun b => b < n₀) w (frWorks l) (.slice A n c)) : ∃ b off, A = some ⟨b, off, none⟩ ∧ b < n₀ ∧ ∀ k y, l[k]? = some y → w.cell? ⟨b, off + k * 4 + 2, none⟩ = some (.int .i64 y.2.2.1) ∧ ∃ va, w.cell? ⟨b, off + k * 4 + 3, none⟩ = some va ∧ RepF (fun b => b < n₀) w (frStrs y.2.2.2) va := by
  unfold frWorks at h
  generalize hL : l.map fWork = L at h
  cases h with
  | frNil sz A c hc => rw [List.map_eq_nil_iff] at hL; rw [hL] at h0; simp at h0
  | fr sz l2 b off c us h1 h2 h3 h4 h5 h6 h7 =>
    subst hL
    refine ⟨b, off, rfl, h4, fun k y hk => ?_⟩
    have hkl := (List.getElem?_eq_some_iff.1 hk).1
    have hm : (l.map fWork)[k]? = some (fWork y) := by rw [List.getElem?_map, hk]; rfl
    have k2 := h6 k 2 (by rw [List.length_map]; exact hkl) (by omega)
    have k3 := h6 k 3 (by rw [List.length_map]; exact hkl) (by omega)
    have r2 := h7 k 2 (fWork y) (.int .i64 y.2.2.1) hm rfl
    have r3 := h7 k 3 (fWork y) (frStrs y.2.2.2) hm rfl
    exact ⟨by rw [k2.1, RepF.int_ r2], _, k3.1, r3⟩
theorem set_or (S : List Int) (r : Nat) (v : Int) (k : Nat) : (S.set r v).getD k 0 = v ∨ (S.set r v).getD k 0 = S.getD k 0 := by
  rw [List.getD_eq_getElem?_getD, List.getD_eq_getElem?_getD, List.getElem?_set]
  split
  · split
    · exact .inl rfl
    · rename_i h1 h2
      subst h1
      rw [List.getElem?_eq_none (by omega)]
      exact .inr rfl
  · exact .inr rfl
theorem cMax_snoc {i k : Nat} {row : List Nat} {S : List Int} : cMax S i (row ++ [k]) = (cMax S i row).set k (max ((cMax S i row).getD k 0) ((cMax S i row).getD i 0)) := by
  unfold cMax
  rw [List.foldl_append]; rfl
/-- All of it lies between 0 and b. -/
def Bd (b : Int) (S : List Int) : Prop := ∀ k, 0 ≤ S.getD k 0 ∧ S.getD k 0 ≤ b
theorem cMax_bd {i : Nat} {b : Int} : ∀ {row : List Nat} {S : List Int}, Bd b S → Bd b (cMax S i row)
  | [], _, h => h
  | r :: row, S, h => by
    rw [cMax, List.foldl_cons, ← cMax]
    refine cMax_bd fun k => ?_
    have h1 := h k; have h2 := h r; have h3 := h i
    rcases set_or S r (max (S.getD r 0) (S.getD i 0)) k with e | e <;> rw [e] <;> omega
theorem cStep_bd {wk : Nat → Int} {i : Nat} {b : Int} {S : List Int} (h : Bd b S) (hw : 0 ≤ wk i ∧ wk i ≤ 1000000) : Bd (b + 1000000) (S.set i (S.getD i 0 + wk i)) := fun k => by
  have h1 := h k; have h2 := h i
  rcases set_or S i (S.getD i 0 + wk i) k with e | e <;> rw [e] <;> omega
theorem cFold_bd {l : List Work} (hw : ∀ i, 0 ≤ wkW l i ∧ wkW l i ≤ 1000000) (pre : List (Nat × Nat)) : Bd (1000000 * (pre.length : Int)) (cFold l pre) := by
  have key : ∀ (pre : List (Nat × Nat)) (S : List Int) (b : Int), Bd b S → Bd (b + 1000000 * (pre.length : Int)) (pre.foldl (fun S x => cStep (aftE l) (wkW l) S (x.2 % l.length)) S) := fun pre => by
    induction pre with
    | nil => intro S b h; simpa using h
    | cons x pre ih =>
      intro S b h
      rw [List.foldl_cons]
      have := ih (cStep (aftE l) (wkW l) S (x.2 % l.length)) (b + 1000000) (cMax_bd (cStep_bd h (hw _)))
      rw [List.length_cons]
      intro k
      have := this k
      push_cast
      omega
  have := key pre (List.replicate l.length 0) 0 (fun k => by
    rw [List.getD_eq_getElem?_getD, List.getElem?_replicate]
    split <;> simp)
  unfold cFold
  intro k
  have := this k
  omega
theorem WOk.wk {l : List Work} (h : WOk l) (i : Nat) : 0 ≤ wkW l i ∧ wkW l i ≤ 1000000 := by
  unfold wkW
  split
  · omega
  · rename_i x hx
    have := h.works x (List.mem_of_getElem? hx)
    have h1 : inRg x.2.2.1 1 1000000 = true := by
      unfold ckWork at this
      split at this
      · cases this
      split at this
      · rename_i h2; exact absurd this h2
      split at this
      · cases this
      rename_i h3
      simpa using h3
    have := rg_iff.1 h1
    omega
theorem WOk.row {l : List Work} (h : WOk l) {i : Nat} {y : Work} (hy : l[i]? = some y) : (aftE l).getD i [] = y.2.2.2.map (wIdx l) ∧ ∀ d ∈ y.2.2.2, wIdx l d < l.length := by
  refine ⟨?_, fun d hd => ?_⟩
  · unfold aftE
    rw [List.getD_eq_getElem?_getD, List.getElem?_map, hy]; rfl
  · have := List.all_eq_true.1 (List.all_eq_true.1 h.aft y (List.mem_of_getElem? hy)) d hd
    exact wIdx_lt h.rising this
theorem strs_val {n₀ : Nat} {w : World} {o : List ByteArray} {u : Value} (h : RepF (fun b => b < n₀) w (frStrs o) u) : ∃ A c, u = .slice A o.length c ∧ ∀ j d, o[j]? = some d → ∃ b off, A = some ⟨b, off, none⟩ ∧ b < n₀ ∧ w.cell? ⟨b, off + j, none⟩ = some (.string d) := by
  rcases strs_mem h with ⟨A, c, rfl, h0⟩ | ⟨b, off, cap, rfl, hb, hc⟩
  · exact ⟨A, c, by rw [h0], fun j d hj => by rw [List.eq_nil_of_length_eq_zero h0] at hj; cases hj⟩
  · exact ⟨_, cap, rfl, fun j d hj => ⟨b, off, rfl, hb, hc j d hj⟩⟩
theorem lt_of_cell {W : World} {p : Addr} {v : Value} (h : W.cell? p = some v) : p.block < W.heap.size := by
  rcases Nat.lt_or_ge p.block W.heap.size with h1 | h1
  · exact h1
  · unfold World.cell? at h
    rw [Array.getElem?_eq_none h1] at h
    cases h
theorem OutAt.below {l : List Work} {b1 b2 b3 : Nat} {sv : Value} {S : List Int} {W W' : World} (h : OutAt l b1 b2 b3 sv S W) (hb : Below W.heap.size W W') : OutAt l b1 b2 b3 sv S W' :=
  ⟨h.row.of_block (hb.block _ h.row.lt), (hb.cell (p := ⟨b3, 0, none⟩) (lt_of_cell h.box)).trans h.box, (hb.cell (p := ⟨b1, 0, none⟩) (lt_of_cell h.arg)).trans h.arg⟩
theorem OutAt.put {l : List Work} {b1 b2 b3 : Nat} {sv : Value} {S : List Int} {W : World} (h : OutAt l b1 b2 b3 sv S W) (h1 : b1 ≠ b2) (h3 : b3 ≠ b2) (n i : Nat) (z : Int) (hl : S.length = l.length) : OutAt l b1 b2 b3 sv (S.set i z) ((W.drewN n).setCell ⟨b2, i, none⟩ (.int .i64 z)) := by
  have hr : (W.drewN n).rowIs b2 3 l.length (fun j => .int .i64 (S.getD j 0)) := h.row.of_block rfl
  refine ⟨(hr.set i _).congr fun j hj => ?_, ?_, ?_⟩
  · rw [List.getD_eq_getElem?_getD, List.getD_eq_getElem?_getD, List.getElem?_set]
    by_cases e : j = i
    · subst e; rw [if_pos rfl, if_pos rfl, if_pos (by omega)]; rfl
    · rw [if_neg e, if_neg (fun e' => e e'.symm)]
  · rw [World.cell?_of_block (w := W.drewN n) (blk_setCell_other _ _ _ _ (fun e => h3 e))]; exact h.box
  · rw [World.cell?_of_block (w := W.drewN n) (blk_setCell_other _ _ _ _ (fun e => h1 e))]; exact h.arg
/-- What a step of the body keeps. -/
structure StepOk (n₀ k b2 : Nat) (w W W' : World) : Prop where
  bel : Below n₀ w W'
  oth : KeepsOthers W W'
  kp : ∀ p : Addr, p.block < k → p.block ≠ b2 → W'.cell? p = W.cell? p
theorem below_others {W W' : World} (h : Below W.heap.size W W') : KeepsOthers W W' := ⟨h.size, fun k o hk _ => (h.block k (Array.getElem?_eq_some_iff.1 hk).1).trans hk⟩
theorem StepOk.below {n₀ k b2 : Nat} {w W W1 W2 : World} (h : StepOk n₀ k b2 w W W1) (hb : Below W1.heap.size W1 W2) (hk : k ≤ W1.heap.size) (hn : n₀ ≤ W1.heap.size) : StepOk n₀ k b2 w W W2 :=
  ⟨h.bel.trans (hb.mono hn), h.oth.trans (below_others hb), fun p hp hq => (hb.cell (by omega)).trans (h.kp p hp hq)⟩
theorem StepOk.put {n₀ k b2 : Nat} {w W W1 : World} (h : StepOk n₀ k b2 w W W1) (hb : n₀ ≤ b2) (n i : Nat) (v : Value) : StepOk n₀ k b2 w W ((W1.drewN n).setCell ⟨b2, i, none⟩ v) :=
  ⟨(h.bel.trans (⟨rfl, rfl, rfl, Nat.le_refl _, fun _ _ => rfl⟩ : Below n₀ W1 (W1.drewN n))).setCell (p := ⟨b2, i, none⟩) hb v, h.oth.trans ((⟨Nat.le_refl _, fun _ _ h _ => h⟩ : KeepsOthers W1 (W1.drewN n)).trans (KeepsOthers.setCell _ _ _)), fun p hp hq => (World.cell?_of_block (w := W1.drewN n) (blk_setCell_other _ _ _ _ hq)).trans (h.kp p hp hq)⟩
set_option maxRecDepth 100000 in
set_option maxHeartbeats 8000000 in
theorem critical_c (l : List Work) (h : WOk l) (w : World) (v : Value) (hv : RepF (fun b => b < w.heap.size) w (frWorks l) v) : Calls Tryd.prog 9 #[v] w fun e w' => ∃ v' g, e = .returned v' ∧ w.heap.size ≤ g ∧ g < w'.heap.size ∧ RepF (fun b => b = g) w' (frI (critV l)) v' ∧ Below w.heap.size w w' := by
  obtain ⟨A, c, hvs⟩ : ∃ A c, v = .slice A l.length c := by
    unfold frWorks at hv
    generalize hL : l.map fWork = L at hv
    cases hv with
    | frNil sz A c hc => exact ⟨A, c, by rw [show l.length = 0 by simpa using hL]⟩
    | fr sz l2 b off c us h1 h2 h3 h4 h5 h6 h7 => subst hL; exact ⟨_, c, by rw [List.length_map]⟩
  subst hvs
  have hln := h.len
  refine (callsIn_wide (n := 3)).1 ?_
  refine callsIn_of_wp_marks Tryd.func9 rfl trivial ?_ rfl
  simp only [Tryd.ntmps9, List.size_toArray, List.length_cons, List.length_nil, Nat.reduceAdd, Nat.reduceSub, Array.replicate_succ, Array.replicate_zero, List.push_toArray, List.append_toArray, List.nil_append, List.cons_append]
  have hmk := run_make_row' (P := Tryd.prog) 23 3 (.int .i64 0) 8 (by kernel_rfl) (by kernel_rfl) rfl .i64 .i64 l.length (by omega) (by omega)
  gi_wp2_with (first
    | (refine ⟨trivial, ?_⟩; gi_at_call 16; refine (callsIn_wide.2 (ordered_c l h w _ _ hv ((((Below.refl _ w).alloc (Nat.le_refl _) _).alloc (by simp) _).alloc (by simp; omega) _))).mono ?_; rintro e w1 ⟨oA, oc, rfl, ho1, hb1⟩)
    | (refine ⟨trivial, ?_⟩; gi_at_call 17; refine (bw_in Fence.wide _ trivial rfl _ _ _ _).mono ?_; rintro e w2 ⟨rfl, rfl⟩))
  have hsz := hb1.size
  simp only [World.size_alloc] at hsz
  have hI0 := ints_of ho1
  rw [h.ord] at hI0
  have hcB : (w1.alloc (Obj.cells #[Value.slice oA l.length oc] 23)).cell? ⟨w1.heap.size, 0, none⟩ = some (.slice oA l.length oc) := cell_new_w w1 _ _
  have hb0 : Below w.heap.size w w1 := ((((Below.refl _ w).alloc (Nat.le_refl _) _).alloc (by simp) _).alloc (by simp; omega) _).trans (hb1.mono (by simp; omega))
  have hbW : Below w.heap.size w (w1.alloc (Obj.cells #[Value.slice oA l.length oc] 23)) := hb0.alloc hb0.size _
  have hA0 : ∀ p : Addr, p.block < w.heap.size + 1 + 1 + 1 → (w1.alloc (Obj.cells #[Value.slice oA l.length oc] 23)).cell? p = (((w.alloc (Obj.cells #[Value.slice A l.length c] 22)).alloc (Obj.cells (madeCells #[Value.int IntKind.i64 0] l.length) 3)).alloc (Obj.cells #[Value.slice (some ⟨w.heap.size + 1, 0, none⟩) l.length l.length] 23)).cell? p := fun p hp => (cell_old_w w1 _ (by omega)).trans (hb1.cell (p := p) (by simp; omega))
  have h00 : OutAt l w.heap.size (w.heap.size + 1) (w.heap.size + 1 + 1) (.slice A l.length c) (cFold l []) (w1.alloc (Obj.cells #[Value.slice oA l.length oc] 23)) := by
    refine ⟨?_, ?_, ?_⟩
    · have h1 := World.rowIs_made (w.alloc (Obj.cells #[Value.slice A l.length c] 22)) (.int .i64 0) l.length 3
      have h2 := (h1.alloc (Obj.cells #[Value.slice (some ⟨w.heap.size + 1, 0, none⟩) l.length l.length] 23))
      have h3 := (h2.of_block (hb1.block _ h2.lt)).alloc (Obj.cells #[Value.slice oA l.length oc] 23)
      rw [World.size_alloc] at h3
      refine h3.congr fun i hi => ?_
      unfold cFold
      rw [List.foldl_nil, List.getD_eq_getElem?_getD, List.getElem?_replicate, if_pos hi]; rfl
    · rw [hA0 _ (by show w.heap.size + 1 + 1 < _; omega)]
      have := cell_new_w ((w.alloc (Obj.cells #[Value.slice A l.length c] 22)).alloc (Obj.cells (madeCells #[Value.int IntKind.i64 0] l.length) 3)) (Value.slice (some ⟨w.heap.size + 1, 0, none⟩) l.length l.length) 23
      rwa [World.size_alloc, World.size_alloc] at this
    · rw [hA0 _ (by show w.heap.size < _; omega), cell_old_w _ _ (by simp; omega), cell_old_w _ _ (by simp)]
      exact cell_new_w w _ _
  have hI1 : IntsAt (fun b => b < w.heap.size ∨ (w.heap.size + 1 + 1 + 1 ≤ b ∧ b < w1.heap.size)) (w1.alloc (Obj.cells #[Value.slice oA l.length oc] 23)) (.slice oA l.length oc) l.length (fun j => ((ordWV l).getD j 0 : Nat)) := by
    rcases hI0 with h1 | ⟨b, off, cap, e, hb, hcs⟩
    · exact .inl h1
    · simp only [World.size_alloc] at hb
      have hbl : b < w1.heap.size := by rcases hb with h1 | h1 <;> omega
      exact .inr ⟨b, off, cap, e, hb, fun j hj => (cell_old_w w1 _ hbl).trans (hcs j hj)⟩
  have hov : ∀ m, m < l.length → (ordWV l).getD m 0 < l.length := fun m hm => by
    obtain ⟨x, hx⟩ := get_some (l := ordWV l) (i := m) (by rw [h.ord]; exact hm)
    rw [List.getD_eq_getElem?_getD, hx]
    exact (WOk.invR (l := l)).lt x (List.mem_of_getElem? hx)
  refine wpIn_rangeFunc_ownF (α := Nat × Nat) rfl (by omega) (gf := 28) (lb := #[.pointer (some ⟨w1.heap.size, 0, none⟩)]) rfl trivial (enters_of Tryd.func28 (by kernel_rfl) rfl)
    (bw_stops (encP l.length) (mkP (ordWV l)) Fence.wide _ trivial rfl (by omega) w1.heap.size _ l.length (fun j => ((ordWV l).getD j 0 : Nat)) (by omega) (w1.alloc (Obj.cells #[Value.slice oA l.length oc] 23)) (by simp)
      (fun b => b < w.heap.size ∨ (w.heap.size + 1 + 1 + 1 ≤ b ∧ b < w1.heap.size)) (fun b hb => by simp; rcases hb with h1 | h1 <;> omega) (fun A B => ∀ p : Addr, p.block < (w1.alloc (Obj.cells #[Value.slice oA l.length oc] 23)).heap.size → p.block ≠ w.heap.size + 1 → B.cell? p = A.cell? p) (fun _ _ _ _ => rfl) (fun A B C h1 h2 p hp hn => (h2 p hp hn).trans (h1 p hp hn)) (fun A B hk => ⟨hk ⟨w1.heap.size, 0, none⟩ (by simp) (by simp; omega), fun b hb o => hk ⟨b, o, none⟩ (by simp; rcases hb with h1 | h1 <;> omega) (by show b ≠ _; rcases hb with h1 | h1 <;> omega)⟩) (fun m hm => by unfold encP mkP; rw [Nat.mod_eq_of_lt (hov m hm)]) hcB hI1)
    (fun h1 h2 p hp hn => (h2 p hp hn).trans (h1 p hp hn)) (fun W q o o' hl ho hc hw p hp hn => World.cell?_of_block (w := W) (putObj_other W q o' p.block (by omega))) (Below.refl _ _) (fun _ => rfl)
    (fun pre W => OutAt l w.heap.size (w.heap.size + 1) (w.heap.size + 1 + 1) (.slice A l.length c) (cFold l pre) W ∧ Below w.heap.size w W ∧ (w1.alloc (Obj.cells #[Value.slice oA l.length oc] 23)).heap.size ≤ W.heap.size)
    (fun _ _ _ => False)
    (fun s A B row hs hg hr => ⟨hs.1.kept hg (fun r e => (hr r e).2), hs.2.1.grown hg hs.2.1.size (fun k e => Nat.le_trans hbW.size (hr k e).1), Nat.le_trans hs.2.2 hg.size⟩)
    (fun _ _ _ _ _ hs _ _ => hs)
    ⟨h00, hbW, Nat.le_refl _⟩
    (fun x => { tmps := #[.slice A l.length c, .pointer (some ⟨w.heap.size, 0, none⟩), .slice none 0 0, .pointer (some ⟨w.heap.size + 1 + 1, 0, none⟩), .slice oA l.length oc, .bool true, undef, .int .i64 ((x.2 % l.length : Nat) : Int), undef, undef, undef, undef, .slice A l.length c, .int .i64 l.length, .slice (some ⟨w.heap.size + 1, 0, none⟩) l.length l.length, .tuple #[.slice oA l.length oc, .bool true], .slice A l.length c, .tuple #[.slice oA l.length oc, .bool true], .slice oA l.length oc, .bool true, .slice oA l.length oc, .func (.func 28) #[] #[.pointer (some ⟨w1.heap.size, 0, none⟩)], .int .i64 (x.1 : Int), .int .i64 ((x.2 % l.length : Nat) : Int), undef, undef, undef, undef, undef, undef, undef, undef, undef, undef, undef, undef, undef, undef, undef, undef, undef, undef, undef, undef, undef, undef, undef, undef, undef, undef, undef, undef, undef, undef, undef, undef, undef, undef, undef, undef, undef, undef, undef, undef, undef], defers := [] }) ?assign ?body ?done ?stop
  case assign =>
    intro lr x W K hK
    dsimp only [encP]
    gi_wp2
    exact hK
  case body =>
    rintro lr pre x W ⟨hO, hB, hkW⟩ hpl
    obtain ⟨lb, lo, rfl, hlb, hmem⟩ := works_mem (by omega) hv
    have hi : x.2 % l.length < l.length := Nat.mod_lt _ (by omega)
    have hfs := cFold_snoc l pre x
    generalize hii : x.2 % l.length = i at *
    obtain ⟨y, hy⟩ := get_some hi
    obtain ⟨m2, va, m3, hva⟩ := hmem i y hy
    have c2 : W.cell? ⟨lb, lo + i * 4 + 2, none⟩ = some (.int .i64 y.2.2.1) := (hB.cell (p := ⟨lb, lo + i * 4 + 2, none⟩) hlb).trans m2
    have c3 : W.cell? ⟨lb, lo + i * 4 + 3, none⟩ = some va := (hB.cell (p := ⟨lb, lo + i * 4 + 3, none⟩) hlb).trans m3
    have hbx := hO.box
    have harg := hO.arg
    have hrc := hO.row.cell hi
    have hrf := hO.row.frozen i
    have hbd := cFold_bd h.wk pre
    have hbd1 : Bd (1000000 * (pre.length : Int) + 1000000) ((cFold l pre).set i ((cFold l pre).getD i 0 + wkW l i)) := cStep_bd hbd (h.wk i)
    have hwk : wkW l i = y.2.2.1 := by unfold wkW; rw [hy]
    rw [hwk] at hbd1
    have hcl : (cFold l pre).length = l.length := cFold_len l pre
    obtain ⟨hrow, hwx⟩ := h.row hy
    have hym : y ∈ l := List.mem_of_getElem? hy
    have hlv : y.2.2.2.length ≤ 9000000 := by
      have h1 := aft_len h.rising (aft_words (ckWork_parts (h.works y hym)).2.2).2 (fun d hd => List.all_eq_true.1 (List.all_eq_true.1 h.aft y hym) d hd)
      omega
    clear hym
    have hsi := hbd i
    have hwi := h.wk i
    rw [hwk] at hwi
    have hwrp : RowKit.wrap64 ((cFold l pre).getD i 0 + y.2.2.1) = (cFold l pre).getD i 0 + y.2.2.1 := by
      generalize (cFold l pre).getD i 0 = a at *
      generalize y.2.2.1 = b at *
      unfold RowKit.wrap64
      omega
    obtain ⟨sA, sc, rfl, hsm⟩ := strs_val hva
    have hmx : Tryd.prog.follows .mixedOrders = true := by kernel_rfl
    generalize hS1 : (cFold l pre).set i ((cFold l pre).getD i 0 + y.2.2.1) = S1 at hbd1
    generalize hsi' : (cFold l pre).getD i 0 = si at *
    have hO' := hide hO
    have hB' := hide hB
    have hv' := hide hv
    have hh' := hide h
    have hln' := hide hln
    have hbd' := hide hbd
    have hbd1' := hide hbd1
    have hrow' := hide hrow
    have hwx' := hide hwx
    have hsm' := hide hsm
    have hS1' := hide hS1
    have hsi'' := hide hsi'
    have hfs' := hide hfs
    have hwk' := hide hwk
    have hcl' := hide hcl
    clear hO hB hva hv h hln hbd hbd1 hrow hwx hsm hS1 hfs hcl hmk hcB hA0 hbW h00 hb0 hI0 hI1 hov hsz hb1 ho1 hmem m2 m3 hii hsi' hwk
    gi_wp2
    refine wpIn_region_lastL hmx (by simp) (by kernel_rfl) (by kernel_rfl) (by kernel_rfl) ?_
    dsimp only [initL, lastL]
    iterate 11 (gi_big_quiet_step (fail))
    refine wpQuietIn_nil ?_
    intro nq
    gi_wp2
    try rw [hwrp]
    generalize hkz : (w1.alloc (Obj.cells #[Value.slice oA l.length oc] 23)).heap.size = kz at *
    have hkz' := hkz
    clear hkz
    generalize hW1 : (W.drewN nq).setCell ⟨w.heap.size + 1, i, none⟩ (.int .i64 (si + y.2.2.1)) = W1
    gi_loopw [41] (fun ix wr => ∃ j : Nat, j ≤ y.2.2.2.length ∧ ix = .int .i64 (j : Int) ∧ OutAt l w.heap.size (w.heap.size + 1) (w.heap.size + 1 + 1) (.slice (some ⟨lb, lo, none⟩) l.length c) (cMax S1 i ((y.2.2.2.map (wIdx l)).take j)) wr ∧ StepOk w.heap.size kz (w.heap.size + 1) w W wr)
      (fun ix _ => ((y.2.2.2.length : Int) - intOf ix).toNat)
    case atStart =>
      subst hW1
      refine ⟨0, Nat.zero_le _, rfl, ?_, ?_⟩
      · have := hO'.out.put (by omega) (by omega) nq i (si + y.2.2.1) hcl'.out
        rw [hS1'.out] at this
        rw [List.take_zero]
        exact this
      · exact (⟨hB'.out, KeepsOthers.refl _, fun _ _ _ => rfl⟩ : StepOk w.heap.size kz (w.heap.size + 1) w W W).put (by omega) nq i _
    case round =>
      obtain ⟨j, hj, rfl, hO1, hst1⟩ := hrel
      clear hW1
      rcases Nat.lt_or_ge j y.2.2.2.length with hlt | hge
      · obtain ⟨d, hd⟩ := get_some hlt
        obtain ⟨sb, so, rfl, hsb, hsc⟩ := hsm'.out j d hd
        have hdl : wIdx l d < l.length := hwx'.out d (List.mem_of_getElem? hd)
        have hcd : wr.cell? ⟨sb, so + j, none⟩ = some (.string d) := (hst1.bel.cell (p := ⟨sb, so + j, none⟩) hsb).trans hsc
        have harg1 := hO1.arg
        have hO2 := hide hO1
        have hst2 := hide hst1
        have hj' := hide hj
        have hd' := hide hd
        clear hO1 hst1 hsc hsb hj hd hbx hrc hrf c2 c3 harg hlb
        gi_wp2_with (refine ⟨trivial, ?_⟩; gi_at_call 15; refine (CallsIn.inRound lr (callsIn_wide.2 (workAt_c l hh'.out d w _ _ hv'.out hst2.out.bel))).mono ?_; rintro e w2 ⟨rfl, hb2⟩)
        have hO3 := hO2.out.below hb2
        have hst3 := hst2.out.below hb2 (Nat.le_trans hkW hst2.out.oth.size) hst2.out.bel.size
        have hbx3 := hO3.box
        have hrk := hO3.row.cell hdl
        have hri := hO3.row.cell hi
        have hfz := hO3.row.frozen (wIdx l d)
        generalize hsk : (cMax S1 i ((y.2.2.2.map (wIdx l)).take j)).getD (wIdx l d) 0 = sk at hrk
        generalize hs2 : (cMax S1 i ((y.2.2.2.map (wIdx l)).take j)).getD i 0 = s2 at hri
        have hO4 := hide hO3
        have hst4 := hide hst3
        have hsk' := hide hsk
        have hs2' := hide hs2
        clear hO3 hst3 hO2 hst2 hb2 hsk hs2 harg1 hcd
        generalize hkd : wIdx l d = kd at *
        have hkd' := hide hkd
        clear hkd
        refine wpIn_region_lastL hmx (by simp) (by kernel_rfl) (by kernel_rfl) (by kernel_rfl) ?_
        dsimp only [initL, lastL]
        iterate 12 (gi_big_quiet_step (fail))
        refine wpQuietIn_nil ?_
        intro nq2
        gi_wp2
        refine ⟨?_, ?_⟩
        · refine ⟨j + 1, hlt, ?_, ?_, ?_⟩
          · simp
          · have e : (y.2.2.2.map (wIdx l)).take (j + 1) = (y.2.2.2.map (wIdx l)).take j ++ [kd] := by
              rw [List.take_add_one, List.getElem?_map, hd'.out, Option.map_some, hkd'.out]; rfl
            rw [e, cMax_snoc, hsk'.out, hs2'.out]
            exact hO4.out.put (by omega) (by omega) nq2 kd _ (by rw [cMax_len, ← hS1'.out, List.length_set]; exact hcl'.out)
          · exact hst4.out.put (by omega) nq2 kd _
        · simp [intOf]; omega
      · obtain rfl : j = y.2.2.2.length := by omega
        have hO2 := hide hO1
        have hst2 := hide hst1
        clear hO1 hst1
        gi_wp2
        refine ⟨hst2.out.oth, fun p hp hq => hst2.out.kp p (by rw [← hkz']; exact hp) hq, ?_, hst2.out.bel, ?_⟩
        · show OutAt _ _ _ _ _ (cFold l (pre ++ [x])) _
          rw [hfs'.out, cStep, hwk'.out, hrow'.out, hsi''.out, hS1'.out]
          have := hO2.out
          rwa [List.take_of_length_le (by simp)] at this
        · exact Nat.le_trans (by rw [hkz']; exact hkW) hst2.out.oth.size
  case done =>
    rintro D ys W hD rfl ⟨hO, hB, _⟩ hK
    have hbx := hO.box
    gi_wp2
    refine ⟨by simp, .inl ⟨_, _, rfl, run_takeDeferred hK, ?_⟩⟩
    rw [cFold_end h] at hO
    have hO2 := hO.kept (grownBy_putObj' W D (.deferred none)) (fun r e => by cases e; exact ⟨_, hK, rfl⟩)
    refine ⟨_, results_tmp rfl _ _ _, _, w.heap.size + 1, rfl, by omega, hO2.row.lt, ?_, hB.trans (belowK_b (w := w) (Nat.le_refl _) W D _ _ (by simp at hD; omega) hK rfl rfl)⟩
    exact rep_crit h hO2.row
  case stop =>
    rintro D c pre W _ _ h _
    exact h.elim
end Go.Proofs.YtbnmclcoekehbaaDoor
