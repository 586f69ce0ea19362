/-
  What the walks of this seat share: ints, bytes, sets of strings, blocks known whole. No statement of the seat is proved here; no conditions.
-/
import Derived.Test.YteoojplgchlhcaaOpen
import Derived.Test.YteoojplgchlhcaaOwn
import Derived.Maps.OwnSet
import Derived.Deep.RegionHeld3
namespace Go.Proofs.Yteoojplgchlhcaa
open Go.RowKit
set_option linter.unusedVariables false
set_option linter.unusedSimpArgs false

theorem drop_of {α : Type} {l : List α} {k : Nat} {x : α} (h : l[k]? = some x) : l.drop k = x :: l.drop (k + 1) := by
  obtain ⟨hk, rfl⟩ := List.getElem?_eq_some_iff.1 h
  exact List.drop_eq_getElem_cons hk

/-- What a call hands back that only draws. -/
def Qt (v : Value) (w : World) (e : Ending) (w' : World) : Prop := e = .returned v ∧ ∃ n, w' = w.drewN n

def rInts : Rep (List Int) := rSl 1 8 (rI .i64)
theorem rInts_at {w : World} {B n c k : Nat} {A : Option Addr} {l : List Int} (h : rInts w B l [.slice A n c]) (hk : k < n) :
    ∃ b o x, A = some ⟨b, o, none⟩ ∧ b < B ∧ l[k]? = some x ∧ w.cell? ⟨b, o + k, none⟩ = some (.int .i64 x) ∧ -9223372036854775808 ≤ x ∧ x ≤ 9223372036854775807 := by
  obtain ⟨b, o, x, vs, hA, hb, hl, hs, ⟨rfl, hw⟩, hc⟩ := rSl.at_ h hk
  have h1 := hc 0 _ rfl
  rw [Nat.mul_one, Nat.add_zero] at h1
  exact ⟨b, o, x, hA, hb, hl, h1, wf64 hw⟩

theorem eq_of_prefix {α : Type} {l1 l2 : List α} (hl : l1.length = l2.length) (h : ∀ i, i < l1.length → l1[i]? = l2[i]?) : l1 = l2 := by
  apply List.ext_getElem?
  intro i
  by_cases hi : i < l1.length
  · exact h i hi
  · rw [List.getElem?_eq_none (by omega), List.getElem?_eq_none (by omega)]

def PInts (l : List Int) (code : Int) (v : Value) (w' : World) : Prop :=
  ∃ A c, v = .tuple #[.slice A l.length c, .int .i64 code] ∧ rSl 1 8 (rI .i64) w' w'.heap.size l [.slice A l.length c]
theorem PInts.none_ {code : Int} {w' : World} : PInts [] code (.tuple #[.slice none 0 0, .int .i64 code]) w' := ⟨none, 0, rfl, rSl.nil_⟩

instance : Stable rInts := inferInstanceAs (Stable (rSl 1 8 (rI .i64)))
def rBytes : Rep (List UInt8) := rSl 1 1 rByte
instance : Stable rBytes := inferInstanceAs (Stable (rSl 1 1 rByte))
theorem rBytes_at {w : World} {B n c k : Nat} {A : Option Addr} {l : List UInt8} (h : rBytes w B l [.slice A n c]) (hk : k < n) :
    ∃ b o x, A = some ⟨b, o, none⟩ ∧ b < B ∧ l[k]? = some x ∧ w.cell? ⟨b, o + k, none⟩ = some (.int .u8 (x.toNat : Int)) ∧ (x.toNat : Int) ≤ 255 ∧ 0 ≤ (x.toNat : Int) := by
  obtain ⟨b, o, x, vs, hA, hb, hl, hs, rfl, hc⟩ := rSl.at_ h hk
  have h1 := hc 0 _ rfl
  rw [Nat.mul_one, Nat.add_zero] at h1
  have := x.toNat_lt
  exact ⟨b, o, x, hA, hb, hl, h1, by omega, by omega⟩

theorem u8_ne {x y : UInt8} (h : x ≠ y) : (x.toNat : Int) ≠ (y.toNat : Int) := by
  intro e
  exact h (UInt8.toNat_inj.1 (by omega))

instance : OneCells rBytes := inferInstanceAs (OneCells (rSl 1 1 rByte))

/-! ### string(b) -/
theorem run_convert_rBytes {P : Program} {src dst e : TypeId} (hs : P.underlying src = some (.slice e)) (he : P.underlying e = some (.int .u8)) (hd : P.underlying dst = some .string) {w : World} {B n c : Nat} {A : Option Addr} {l : List UInt8} (h : rBytes w B l [.slice A n c]) :
    (convert src dst (.slice A n c)).run P w = .ok (.string ⟨l.toArray⟩) w := by
  have hn := h.len
  rcases Nat.eq_zero_or_pos n with h0 | h0
  · subst h0
    obtain rfl : l = [] := List.eq_nil_of_length_eq_zero hn
    rcases A with _ | a
    · exact run_convert_bytes_nil w src e hs he 0 c dst hd
    · rw [run_convert_bytes_string w src dst e _ _ _ hs he hd]
      have hl : (loadCells a 0).run P w = .ok (([] : List Int).map (Value.int .u8)).toArray w := run_loadCells_list w a [] (fun j v hj => by simp at hj)
      rw [run_bytesToString w a 0 c [] hl]
      rfl
  · obtain ⟨b, o, _, rfl, _⟩ := rBytes_at h h0
    have hx := run_convert_bytes_arg (P := P) w src e hs he b o n c (l.map fun x => (x.toNat : Int)) (by simp [hn]) (fun i hi => by
      obtain ⟨b', o', x, hA, _, hx, hc, _⟩ := rBytes_at h hi
      simp only [Option.some.injEq, Addr.mk.injEq, and_true] at hA
      obtain ⟨rfl, rfl⟩ := hA
      rw [hc]
      simp [List.getD, hx]) dst hd
    rw [hx]
    congr 2
    unfold strOfNums
    simp only [List.map_map]
    congr 2
    have : ((fun n : Int => UInt8.ofNat n.toNat) ∘ fun x : UInt8 => (x.toNat : Int)) = id := by
      funext x
      simp
    rw [this, List.map_id]

/-! ### Sets of strings -/
structure SetOk (P : Program) (t k e : TypeId) : Prop where
  ht : P.underlying t = some (.map k e)
  hk : P.underlying k = some .string
  he : P.underlying e = some .bool
  hz : ∀ w, (zeroValue e).run P w = .ok (.bool false) w

/-- Block b is a map of at most n strings to bools: f. -/
def ownSet (P : Program) (k e : TypeId) (w : World) (b n : Nat) (f : List UInt8 → Bool) : Prop :=
  ∃ D : DataW Unit, w.ownsMap P k (plainElem P e) b n D ∧ ∀ s : List UInt8, D.atKey (.string s) (.lit (.bool false)) = .lit (.bool (f s))

section
variable {P : Program} {t k e : TypeId} {w : World} {b n : Nat} {f : List UInt8 → Bool}
theorem ownSet_made (w : World) : ownSet P k e (w.alloc (.map #[] 0)) w.heap.size 0 (fun _ => false) :=
  ⟨.map [], World.ownsMap_made _ _ _ _, fun _ => rfl⟩
theorem ownSet.kept {w' : World} {row : Option Nat} (h : ownSet P k e w b n f) (hg : w.grownBy w' row) (hne : some b ≠ row) : ownSet P k e w' b n f := by
  obtain ⟨D, h1, h2⟩ := h
  exact ⟨D, h1.kept hg hne, h2⟩
theorem ownSet.below {w' : World} {B : Nat} (h : ownSet P k e w b n f) (hb : Below B w w') (hB : b < B) : ownSet P k e w' b n f := by
  obtain ⟨D, ⟨es, clock, h1, h2⟩, h3⟩ := h
  exact ⟨D, ⟨es, clock, (hb.block b hB).trans h1, h2⟩, h3⟩
theorem ownSet.lt (h : ownSet P k e w b n f) : b < w.heap.size := by
  obtain ⟨D, h1, _⟩ := h
  exact h1.lt
theorem ownSet.mono {n' : Nat} (h : ownSet P k e w b n f) (hn : n ≤ n') : ownSet P k e w b n' f := by
  obtain ⟨D, h1, h2⟩ := h
  exact ⟨D, h1.mono hn, h2⟩
theorem plainElem_bool_inv {H : Type} (he : P.underlying e = some .bool) {v : Value} {z : DataW H × List MemPlace} (h : plainElem P e v = some z) : ∃ a, v = .bool a ∧ z = (.lit (.bool a), []) := by
  unfold plainElem at h
  rw [he] at h
  cases v <;> simp at h
  exact ⟨_, rfl, h.symm⟩

variable {ops : Array Oper} {rest : List Oper} {o : Oper} {a : Act} {Q : Exit → Act → World → Prop}
theorem wpList_set_has (ok : SetOk P t k e) (hg : o.guard = none) (m x : Operand) (hop : o.op = Op.lookup t m x false) (hm : a.eval m = .map (some b)) (hown : ownSet P k e w b n f) (s : ByteArray) (hx : a.eval x = .string s) (hs : s.size ≤ maxLen)
    (hK : wpList P ops Q rest (a.put o.dst (.bool (f s.data.toList))) w) : wpList P ops Q (o :: rest) a w := by
  obtain ⟨D, h1, h2⟩ := hown
  refine wpList_plain hg fun K' hK' => ?_
  obtain ⟨v, ps, hrun, hv⟩ := h1.lookup (Maps.string_keyed ok.hk) ok.ht (ok.hz w) (plainElem_bool ok.he false) (WideMaps.keyOf_string_mk ok.hk hs)
  obtain ⟨c, rfl, hc⟩ := plainElem_bool_inv ok.he hv
  simp only [Prod.mk.injEq, and_true] at hc
  have e1 := h2 s.data.toList
  rw [hc.1] at e1
  injection e1 with e1
  injection e1 with e1
  subst e1
  unfold Oper.wp
  simp [execOp, hop, hm, hx, hrun, Result.andThen]
  exact hK' _ _ hK

theorem wpList_set_put (ok : SetOk P t k e) (hg : o.guard = none) (m x v : Operand) (hop : o.op = Op.mapUpdate t m x v) (hm : a.eval m = .map (some b)) (hown : ownSet P k e w b n f) (hn : n < maxLen) (s : ByteArray) (hx : a.eval x = .string s) (hs : s.size ≤ maxLen)
    (c : Bool) (hv : a.eval v = .bool c) (hK : ∀ w', ownSet P k e w' b (n + 1) (fun u => if u = s.data.toList then c else f u) → w.grownBy w' (some b) → wpList P ops Q rest (a.put o.dst undef) w') : wpList P ops Q (o :: rest) a w := by
  obtain ⟨D, h1, h2⟩ := hown
  refine wpList_mapUpdate_own w hg m x v t hop k e (Maps.string_keyed ok.hk) ok.ht _ b n D hm h1 hn _ _ (.string s.data.toList) hx hv (WideMaps.keyOf_string_mk ok.hk hs) (.lit (.bool c)) [] (plainElem_bool ok.he c) ?_
  intro w' h3 h4
  refine hK w' ⟨_, h3, fun u => ?_⟩ h4
  show (D.put (Lit.string s.data.toList) (DataW.lit (Lit.bool c))).atKey (.string u) (.lit (.bool false)) = .lit (.bool (if u = s.data.toList then c else f u))
  by_cases hu : u = s.data.toList
  · subst hu
    rw [if_pos rfl, Maps.atKey_put_same h1.isMap (k := .string s.data.toList) (by exact True.intro)]
  · rw [if_neg hu, Maps.atKey_put_other (by intro h; injection h with h; exact hu h)]
    exact h2 u
end
theorem own_ne {w : World} {base : Nat} {e : TypeId} {size n b : Nat} {v : Value} {xs : List Value} (h : w.ownsRow base e size v n xs) (hb : b < base) : v.ownBlock = none ∨ v.ownBlock ≠ some b := by
  right
  intro he
  have := (h.lt b he).1
  omega

theorem rSl.take_ {α : Type} {R : Rep α} {w : World} {B sz bts n c k : Nat} {A : Option Addr} {l : List α} (h : rSl sz bts R w B l [.slice A n c]) (hk : k ≤ n) : rSl sz bts R w B (l.take k) [.slice A k c] := by
  have hn := h.len
  obtain ⟨A', c', e, h1, h2, h3, h4⟩ := h
  simp only [List.cons.injEq, Value.slice.injEq, and_true] at e
  obtain ⟨rfl, _, rfl⟩ := e
  have hkl : (l.take k).length = k := by rw [List.length_take]; omega
  have hm : k * bts ≤ n * bts := Nat.mul_le_mul_right _ hk
  refine ⟨A, c, by rw [hkl], by omega, h2, by rw [hkl]; rw [hn] at h3; omega, fun h0 => ?_⟩
  obtain ⟨b, o, hA, hb, hx⟩ := h4 (by omega)
  refine ⟨b, o, hA, hb, fun i x hi => hx i x ?_⟩
  rw [List.getElem?_take] at hi
  split at hi
  · exact hi
  · cases hi

theorem own_keep {w w' : World} {base B : Nat} {e : TypeId} {size n : Nat} {v : Value} {xs : List Value} (h : w.ownsRow base e size v n xs) (hb : Below B w w') (hB : w.heap.size ≤ B) : w'.ownsRow base e size v n xs := by
  obtain ⟨h1, h2⟩ := h
  refine ⟨h1, ?_⟩
  rcases h2 with h2 | ⟨g, cap, cur, hv, hg, hh, r⟩
  · exact .inl h2
  · refine .inr ⟨g, cap, cur, hv, hg, ?_, r⟩
    have hlt : g < w.heap.size := (Array.getElem?_eq_some_iff.1 hh).1
    rw [hb.block g (by omega)]; exact hh
theorem Qt.below {v : Value} {w w' : World} {e : Ending} (h : Qt v w e w') : e = .returned v ∧ Below w.heap.size w w' := by
  obtain ⟨h1, n, rfl⟩ := h
  exact ⟨h1, drewN_below (Below.refl _ _) n⟩

/-! ### Blocks known whole -/
def blk (w : World) (g : Nat) (t : TypeId) (cs : List Value) : Prop := w.heap[g]? = some (.cells cs.toArray t (0, 0))
section
variable {w w' : World} {g : Nat} {t : TypeId} {cs : List Value}
theorem blk.lt (h : blk w g t cs) : g < w.heap.size := (Array.getElem?_eq_some_iff.1 h).1
theorem blk.cell (h : blk w g t cs) (i : Nat) : w.cell? ⟨g, i, none⟩ = cs[i]? := by rw [cell_of_row w g i cs.toArray t (0, 0) h]; simp
theorem blk.free (h : blk w g t cs) (i : Nat) : w.frozen? ⟨g, i, none⟩ = false := by
  unfold blk at h
  simp [World.frozen?, h]
theorem blk.set_ (h : blk w g t cs) (i : Nat) (u : Value) : blk (w.setCell ⟨g, i, none⟩ u) g t (cs.set i u) := by
  unfold blk at h ⊢
  simp [World.setCell, Array.getElem?_modify, h]
theorem blk.far (h : blk w g t cs) {p : Addr} (hp : g ≠ p.block) (u : Value) : blk (w.setCell p u) g t cs := (Below.heap_setCell w p u g hp).trans h
theorem blk.below {B : Nat} (h : blk w g t cs) (hb : Below B w w') (hg : g < B) : blk w' g t cs := (hb.block g hg).trans h
theorem blk.alloc (h : blk w g t cs) (o : Obj) : blk (w.alloc o) g t cs := (Below.heap_alloc w o g h.lt).trans h
end

theorem madeCells_one (z : Value) (n : Nat) : madeCells #[z] n = (List.replicate n z).toArray := by
  unfold madeCells
  apply Array.ext
  · simp
  · intro i h1 h2
    simp [Nat.mod_one]
theorem all_take_succ {α : Type} {l : List α} {k : Nat} {x : α} {p : α → Bool} (h : l[k]? = some x) : (l.take (k + 1)).all p = ((l.take k).all p && p x) := by
  rw [List.take_add_one, h]; simp
theorem all_false {α : Type} {l : List α} {k : Nat} {x : α} {p : α → Bool} (h : l[k]? = some x) (hp : p x = false) : l.all p = false := by
  rw [List.all_eq_false]
  exact ⟨x, List.mem_of_getElem? h, by simp [hp]⟩

theorem blk_new {w : World} {t : TypeId} {z : Value} {m : Nat} {cs : List Value} (h : cs = List.replicate m z) : blk (w.alloc (.cells (madeCells #[z] m) t)) w.heap.size t cs := by
  subst h
  unfold blk
  rw [← madeCells_one]
  exact heap_alloc_new w _
theorem blk.drew {w : World} {g : Nat} {t : TypeId} {cs : List Value} (h : blk w g t cs) : blk w.drew g t cs := h

/-- A block as a slice. -/
theorem blk.toSl {α : Type} {R : Rep α} {w : World} {g : Nat} {t : TypeId} {cs : List Value} {l : List α} (h : blk w g t cs) (hl : l.length = cs.length) (hm : cs.length ≤ 140737488355328)
    (hx : ∀ (k : Nat) (x : α), l[k]? = some x → ∃ u, cs[k]? = some u ∧ R w w.heap.size x [u]) : rSl 1 1 R w w.heap.size l [.slice (some ⟨g, 0, none⟩) cs.length cs.length] := by
  refine ⟨some ⟨g, 0, none⟩, cs.length, by rw [hl], by omega, by unfold maxLen; omega, by omega, fun _ => ⟨g, 0, rfl, h.lt, fun k x hk => ?_⟩⟩
  obtain ⟨u, h1, h2⟩ := hx k x hk
  refine ⟨[u], rfl, h2, fun j v hj => ?_⟩
  have hj0 : j = 0 := by
    have := (List.getElem?_eq_some_iff.1 hj).1
    simp at this; exact this
  subst hj0
  simp at hj
  subst hj
  rw [h.cell]
  simpa using h1
theorem ownSl_lit0 {α : Type} {R : Rep α} {w : World} {e : TypeId} {sz base B : Nat} (hb : base ≤ w.heap.size) : ownSl e sz R (w.alloc (.cells #[] e)) base B [] (.slice (some ⟨w.heap.size, 0, none⟩) 0 0) :=
  ⟨[], ⟨by simp, .inr ⟨w.heap.size, 0, #[], rfl, hb, heap_alloc_new w _, by simp, by decide, by simp, by simp⟩⟩, fun k x h => by simp at h⟩

theorem ownSl.mono {α : Type} {R : Rep α} {w : World} {e : TypeId} {sz base base' B : Nat} {l : List α} {v : Value} (h : ownSl e sz R w base B l v) (hb : base' ≤ base) : ownSl e sz R w base' B l v := by
  obtain ⟨xs, ⟨h1, h2⟩, h3⟩ := h
  refine ⟨xs, ⟨h1, ?_⟩, h3⟩
  rcases h2 with h2 | ⟨g, cap, cur, hv, hg, r⟩
  · exact .inl h2
  · exact .inr ⟨g, cap, cur, hv, by omega, r⟩
theorem ownSl_lit1 {α : Type} {R : Rep α} {w : World} {e : TypeId} {sz base B : Nat} (hb : base ≤ w.heap.size) {x : α} {cs : Array Value} (hs : cs.size = sz) (hx : R (w.alloc (.cells cs e)) B x cs.toList) : ownSl e sz R (w.alloc (.cells cs e)) base B [x] (.slice (some ⟨w.heap.size, 0, none⟩) 1 1) := by
  refine ⟨cs.toList, ⟨by simp [hs], .inr ⟨w.heap.size, 1, cs, rfl, hb, heap_alloc_new w _, by simp, by decide, by simp [hs], ?_⟩⟩, fun k y h => ?_⟩
  · rw [List.take_of_length_le (by simp [hs])]
  · have hk : k = 0 := by
      have := (List.getElem?_eq_some_iff.1 h).1
      simp at this; exact this
    subst hk
    simp at h
    subst h
    exact ⟨cs.toList, by simp [hs], hx, fun j u hj => by simpa using hj⟩

end Go.Proofs.Yteoojplgchlhcaa
