/-
  Rows of elements of many cells, on the machine. No statement of the seat is proved here; no conditions.
-/
import Derived.Test.YteeemcghdhdodaaDoorEngX
namespace Go.Proofs.YteeemcghdhdodaaDoor
open Go.RowKit
set_option linter.unusedVariables false
set_option linter.unusedSimpArgs false

/-- A fact that no rewriting is to use. -/
structure Hide (p : Prop) : Prop where
  out : p
theorem hide {p : Prop} (h : p) : Hide p := ⟨h⟩
/-- Bytes that are only read. -/
def frB (l : List UInt8) : FV := .fr 1 (l.map encU)
theorem splice_app {a : List AV} : ∀ (xs r : List AV) (k : Nat), splice (a ++ r) (a.length + k) xs = a ++ splice r k xs
  | [], r, k => by rw [splice_nil, splice_nil]
  | x :: xs, r, k => by
    rw [splice, splice, List.set_append_right _ _ (by omega), Nat.add_sub_cancel_left, Nat.add_assoc]
    exact splice_app xs _ _
theorem splice_mid : ∀ (xs p a r : List AV), a.length = xs.length → splice (p ++ (a ++ r)) p.length xs = p ++ (xs ++ r)
  | [], p, a, r, h => by
    have : a = [] := List.eq_nil_of_length_eq_zero h
    subst this; rw [splice_nil]
  | x :: xs, p, a, r, h => by
    rcases a with _ | ⟨y, a⟩
    · simp at h
    · rw [splice, List.cons_append, List.set_append_right _ _ (Nat.le_refl _), Nat.sub_self, List.set_cons_zero]
      have := splice_mid xs (p ++ [x]) a r (by simpa using h)
      simpa using this
/-- The cells of a row. -/
def rowF {α : Type} (enc : α → List FV) (l : List α) : List FV := (l.map enc).flatten
section
variable {α : Type} {enc : α → List FV} {sz : Nat} {l : List α} {i k : Nat} {x : α}
theorem row_nil : rowF enc [] = [] := rfl
theorem row_cons : rowF enc (x :: l) = enc x ++ rowF enc l := rfl
theorem row_app {m : List α} : rowF enc (l ++ m) = rowF enc l ++ rowF enc m := by simp [rowF]
theorem row_len (hs : ∀ x, (enc x).length = sz) : (rowF enc l).length = l.length * sz := by
  rw [rowF, flatten_len (sz := sz) _ (fun y hy => by obtain ⟨z, _, rfl⟩ := List.mem_map.1 hy; exact hs z), List.length_map]
theorem row_split (hs : ∀ x, (enc x).length = sz) (h : l[i]? = some x) : rowF enc l = rowF enc (l.take i) ++ (enc x ++ rowF enc (l.drop (i + 1))) ∧ (rowF enc (l.take i)).length = i * sz := by
  have hi := (List.getElem?_eq_some_iff.1 h).1
  have e : l = l.take i ++ (x :: l.drop (i + 1)) := by
    rw [List.getElem?_eq_getElem hi] at h
    obtain rfl := Option.some.inj h
    rw [List.getElem_cons_drop, List.take_append_drop]
  refine ⟨?_, ?_⟩
  · conv => lhs; rw [e]
    rw [row_app, row_cons]
  · rw [row_len hs, List.length_take, Nat.min_eq_left (by omega)]
theorem row_get (hs : ∀ x, (enc x).length = sz) (h : l[i]? = some x) : (((rowF enc l).map AV.f).drop (i * sz)).take sz = (enc x).map AV.f := by
  obtain ⟨e, hl⟩ := row_split hs h
  rw [e, List.map_append, List.drop_append_of_le_length (by simp [hl]), List.drop_eq_nil_of_le (by simp [hl]), List.nil_append, List.map_append, List.take_append_of_le_length (by simp [hs]), List.take_of_length_le (by simp [hs])]
theorem row_in (hs : ∀ x, (enc x).length = sz) (h : i < l.length) : (i * sz + sz ≤ ((rowF enc l).map AV.f).length) = True := by
  rw [eq_iff_iff, iff_true, List.length_map, row_len hs]
  have : (i + 1) * sz ≤ l.length * sz := Nat.mul_le_mul_right _ h
  rwa [Nat.succ_mul] at this
theorem row_set (hs : ∀ x, (enc x).length = sz) (h : i < l.length) : splice ((rowF enc l).map AV.f) (i * sz) ((enc x).map AV.f) = (rowF enc (l.set i x)).map AV.f := by
  obtain ⟨e, hl⟩ := row_split (x := l[i]) hs (List.getElem?_eq_getElem h)
  have e2 : l.set i x = l.take i ++ (x :: l.drop (i + 1)) := by rw [List.set_eq_take_append_cons_drop, if_pos h]
  rw [e, e2, row_app, row_cons, List.map_append, List.map_append, List.map_append, List.map_append]
  have h2 : ((rowF enc (l.take i)).map AV.f).length = i * sz := by rw [List.length_map, hl]
  rw [← h2]
  exact splice_mid _ _ _ _ (by simp [hs])
theorem row_snoc {m : List α} : rowF enc (m ++ [x]) = rowF enc m ++ enc x := by rw [row_app, row_cons, row_nil, List.append_nil]
theorem row_tail (hs : ∀ x, (enc x).length = sz) {z : List FV} (hz : z.length = sz) (hk : k ≤ l.length) : splice ((rowF enc l).map AV.f) (k * sz) (zeros (l.length - k) z) = (rowF enc (l.take k) ++ (List.replicate (l.length - k) z).flatten).map AV.f := by
  have e : rowF enc l = rowF enc (l.take k) ++ (rowF enc (l.drop k) ++ []) := by rw [List.append_nil, ← row_app, List.take_append_drop]
  have hl : (rowF enc (l.take k)).length = k * sz := by rw [row_len hs, List.length_take, Nat.min_eq_left hk]
  rw [e, List.map_append, List.map_append, ← hl]
  have := splice_mid (zeros (l.length - k) z) ((rowF enc (l.take k)).map AV.f) ((rowF enc (l.drop k)).map AV.f) [] (by
    rw [List.length_map, row_len hs, List.length_drop, zeros, List.length_map, flatten_len (sz := sz) _ (fun y hy => by rw [List.eq_of_mem_replicate hy]; exact hz), List.length_replicate])
  rw [List.length_map] at this
  rw [List.map_nil, this, List.append_nil, List.map_append]; rfl
/-- A row is frozen. -/
theorem so_row (hs : ∀ x, (enc x).length = sz) {H H' : Heap} {nw : List Nat} {id ver n : Nat} {t : List FV} (hd : (H' id).2 = none) (hc : cellsOf ver (H id) = some ((rowF enc l ++ t).map .f)) (hn : n = l.length) : SlotOk H H' nw (.sl id ver sz 0 n) (.f (.fr sz (l.map enc))) := by
  subst hn
  simp only [SlotOk]
  refine ⟨trivial, by simp, fun x hx => ?_, hd, _, hc, ?_, ?_⟩
  · obtain ⟨z, _, rfl⟩ := List.mem_map.1 hx; exact hs z
  · simp [row_len hs]
  · rw [Nat.zero_mul, List.drop_zero, List.map_append, List.take_append_of_le_length (by simp [row_len hs]), List.take_of_length_le (by simp [row_len hs])]; rfl
theorem so_row0 (hs : ∀ x, (enc x).length = sz) {H H' : Heap} {nw : List Nat} {id ver n : Nat} (hd : (H' id).2 = none) (hc : cellsOf ver (H id) = some ((rowF enc l).map .f)) (hn : n = l.length) : SlotOk H H' nw (.sl id ver sz 0 n) (.f (.fr sz (l.map enc))) :=
  so_row (t := []) hs hd (by rw [List.append_nil]; exact hc) hn
end
theorem row_cell {α : Type} {enc : α → List FV} {sz : Nat} {l : List α} {i j : Nat} {x : α} {a : FV} (hs : ∀ x, (enc x).length = sz) (h : l[i]? = some x) (ha : (enc x)[j]? = some a) : ((rowF enc l).map AV.f)[i * sz + j]? = some (.f a) := by
  obtain ⟨e, hl⟩ := row_split hs h
  have hj := (List.getElem?_eq_some_iff.1 ha).1
  rw [List.getElem?_map, e, List.getElem?_append_right (by omega), hl, Nat.add_sub_cancel_left, List.getElem?_append_left hj, ha]; rfl
theorem addFp_wr {n x : Nat} {wr : List Nat} {acc : List Fp} : addFp n [] (x :: wr) acc = ⟨n, [], x :: wr⟩ :: acc := rfl
theorem so_mf {H H' : Heap} {nw : List Nat} {id ver : Nat} {m : List (ByteArray × Value)} : SlotOk H H' nw (.map id ver) (.f (.fm m)) = ((H' id).2 = none ∧ mapOfH ver (H id) = some m) := by rw [SlotOk]
theorem so_ptf {H H' : Heap} {nw : List Nat} {id ver off : Nat} {l : List FV} : SlotOk H H' nw (.ptr id ver off) (.f (.fp l)) = ((H' id).2 = none ∧ ∃ cs, cellsOf ver (H id) = some cs ∧ off + l.length ≤ cs.length ∧ (cs.drop off).take l.length = l.map .f) := by rw [SlotOk]
theorem so_cc {H H' : Heap} {nw : List Nat} {g g' : Fn} {l l' : List AV} : SlotOk H H' nw (.clo g l) (.clo g' l') = (g' = g ∧ SlotsOk H H' nw l l') := by rw [SlotOk]
theorem so_ff' {H H' : Heap} {nw : List Nat} {x : FV} : SlotOk H H' nw (.f x) (.f x) = True := by rw [SlotOk]; simp
theorem pure_cons {a : AV} {caps : List AV} (h : a.pure = true) (hc : caps.all AV.pure = true) : ([a] ++ caps).all AV.pure = true := by simp [h, hc]
mutual
theorem so_pure {H H' : Heap} {nw : List Nat} : ∀ a : AV, a.pure = true → SlotOk H H' nw a a
  | .any, h => by simp only [SlotOk]
  | .f x, h => by simp only [SlotOk]; exact .inl trivial
  | .sl .., h => by simp [AV.pure] at h
  | .ptr .., h => by simp [AV.pure] at h
  | .map .., h => by simp [AV.pure] at h
  | .agg l, h => by simp only [SlotOk]; exact so_pures l (by simpa only [AV.pure] using h)
  | .tup l, h => by simp only [SlotOk]; exact so_pures l (by simpa only [AV.pure] using h)
  | .clo g l, h => by simp only [SlotOk]; exact ⟨trivial, so_pures l (by simpa only [AV.pure] using h)⟩
theorem so_pures {H H' : Heap} {nw : List Nat} : ∀ l : List AV, AV.pureL l = true → SlotsOk H H' nw l l
  | [], h => by simp only [SlotsOk]
  | a :: l, h => by
    simp only [AV.pureL, Bool.and_eq_true] at h
    simp only [SlotsOk]
    exact ⟨so_pure a h.1, so_pures l h.2⟩
end
theorem so_clo {H H' : Heap} {nw : List Nat} {g : Fn} {caps : List AV} (h : caps.all AV.pure = true) : SlotOk H H' nw (.clo g caps) (.clo g caps) := so_pure _ (by rw [AV.pure, AV.pureL_all]; exact h)
theorem ret_oe {sz n n' id ver : Nat} {cs cs' : List FV} {H : Heap} (hn : n' = n) (h : cellsOf ver (H id) = some (cs'.map .f)) (hc : cs' = cs) (hl : n * sz ≤ cs.length) : Rets [.c (.own sz n cs)] (.sl id ver sz 0 n') H := by
  subst hn hc; exact ret_o h hl
end Go.Proofs.YteeemcghdhdodaaDoor
