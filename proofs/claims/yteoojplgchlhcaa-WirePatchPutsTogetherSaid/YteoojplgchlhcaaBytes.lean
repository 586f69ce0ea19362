/-
  Bytes: what a slice of bytes stands for, slices.Equal at bytes, string(b); sets of strings (map[string]bool).
-/
import Derived.Test.YteoojplgchlhcaaQuotaL
import Derived.Maps.OwnSet
namespace Go.Proofs.Yteoojplgchlhcaa
open Go.RowKit
set_option linter.unusedVariables false
set_option linter.unusedSimpArgs false

def rBytes : Rep (List UInt8) := rSl 1 1 rByte
instance : Stable rBytes := inferInstanceAs (Stable (rSl 1 1 rByte))
theorem rBytes_at {w : World} {B n c k : Nat} {A : Option Addr} {l : List UInt8} (h : rBytes w B l [.slice A n c]) (hk : k < n) :
    ∃ b o x, A = some ⟨b, o, none⟩ ∧ b < B ∧ l[k]? = some x ∧ w.cell? ⟨b, o + k, none⟩ = some (.int .u8 (x.toNat : Int)) ∧ (x.toNat : Int) ≤ 255 ∧ 0 ≤ (x.toNat : Int) := by
  obtain ⟨b, o, x, vs, hA, hb, hl, hs, rfl, hc⟩ := rSl.at_ h hk
  have h1 := hc 0 _ rfl
  rw [Nat.mul_one, Nat.add_zero] at h1
  have := x.toNat_lt
  exact ⟨b, o, x, hA, hb, hl, h1, by omega, by omega⟩

theorem u8_ne {x y : UInt8} (h : x ≠ y) : (x.toNat : Int) ≠ (y.toNat : Int) := by
  intro e
  exact h (UInt8.toNat_inj.1 (by omega))

theorem equalBytes_any (A1 A2 : Option Addr) (n1 c1 n2 c2 B : Nat) (l1 l2 : List UInt8) (w : World) (h1 : rBytes w B l1 [.slice A1 n1 c1]) (h2 : rBytes w B l2 [.slice A2 n2 c2]) :
    Calls Try.prog 22 #[.slice A1 n1 c1, .slice A2 n2 c2] w (Qt (.bool (decide (l1 = l2))) w) := by
  have hl1 := h1.len
  have hl2 := h2.len
  have hm1 := h1.le.2.1
  have hm1' := h1.le.1
  have H1 := Lib.hid h1
  have H2 := Lib.hid h2
  have L1 := Lib.hid hl1
  have L2 := Lib.hid hl2
  clear h1 h2 hl1 hl2
  by_cases hn : n1 = n2
  · subst hn
    have hne : ((n1 : Int) != (n1 : Int)) = false := bne_self_eq_false _
    go_enter Try.func22, Try.ntmps22
    go_wp2_with fail
    go_loopw [13] (fun i wr => ∃ k : Nat, k ≤ n1 ∧ i = .int .i64 k ∧ Hid (∃ n, wr = w.drewN n) ∧ Hid (∀ j, j < k → l1[j]? = l2[j]?)) (fun i _ => n1 - (intOf i).toNat)
    case atStart => exact ⟨0, by omega, rfl, ⟨0, rfl⟩, fun j hj => absurd hj (by omega)⟩
    case round =>
      obtain ⟨k, hk, rfl, HW, HE⟩ := hrel
      by_cases hlt : k < n1
      · obtain ⟨b1, o1, x1, rfl, hb1, hx1, hc1, _⟩ := rBytes_at H1.out hlt
        obtain ⟨b2, o2, x2, rfl, hb2, hx2, hc2, _⟩ := rBytes_at H2.out hlt
        obtain ⟨nd, hnd⟩ := HW.out
        have hc1' : wr.cell? ⟨b1, o1 + k, none⟩ = some (.int .u8 (x1.toNat : Int)) := by rw [hnd]; exact hc1
        have hc2' : wr.cell? ⟨b2, o2 + k, none⟩ = some (.int .u8 (x2.toNat : Int)) := by rw [hnd]; exact hc2
        have X1 := Lib.hid hx1
        have X2 := Lib.hid hx2
        have HN := Lib.hid hnd
        have e2 : ((k : Int)).toNat = k := by omega
        have e3 : (0 : Int) ≤ (k : Int) := by omega
        have e5 : (k : Int) < n1 := by omega
        clear hx1 hx2 hc1 hc2 hnd HW
        by_cases hx : x1 = x2
        · subst hx
          have hxe : ((x1.toNat : Int) != (x1.toNat : Int)) = false := bne_self_eq_false _
          go_wp2_with fail
          go_quiet (fail)
          clear e2 e3 e5
          go_wp2_with fail
          go_roundw
          case rel =>
            refine ⟨k + 1, by omega, by go_num, ⟨nd + nq, by rw [HN.out, World.drewN_drewN]⟩, fun j hj => ?_⟩
            by_cases hj2 : j = k
            · subst hj2; rw [X1.out, X2.out]
            · exact HE.out j (by omega)
          case measure => simp [intOf]; omega
        · have hxe : ((x1.toNat : Int) != (x2.toNat : Int)) = true := by simpa using u8_ne hx
          have hxe2 : ((x1.toNat : Int) == (x2.toNat : Int)) = false := by simpa using u8_ne hx
          have HX := Lib.hid hx
          clear hx
          go_wp2_with fail
          go_quiet (fail)
          clear e2 e3 e5
          go_wp2_with fail
          go_ret
          refine ⟨?_, ⟨nd + nq, by rw [HN.out, World.drewN_drewN]⟩⟩
          have : l1 ≠ l2 := by
            rintro rfl
            have a := X1.out
            rw [X2.out] at a
            exact HX.out (Option.some.inj a).symm
          simp [this]
      · obtain rfl : k = n1 := by omega
        go_wp2_with fail
        go_ret
        obtain ⟨nd, hnd⟩ := HW.out
        refine ⟨?_, nd, hnd⟩
        have e : l1 = l2 := eq_of_prefix (by rw [L1.out, L2.out]) (fun i hi => HE.out i (by rw [L1.out] at hi; exact hi))
        simp [e]
  · have hne : ((n1 : Int) != (n2 : Int)) = true := by simp; omega
    go_enter Try.func22, Try.ntmps22
    go_wp2_with fail
    go_ret
    refine ⟨?_, 0, rfl⟩
    have : l1 ≠ l2 := by
      rintro rfl
      have a := L1.out
      rw [L2.out] at a
      exact hn a.symm
    simp [this]

/-! ### string(b) -/
theorem run_convert_rBytes {P : Program} {src dst e : TypeId} (hs : P.underlying src = some (.slice e)) (he : P.underlying e = some (.int .u8)) (hd : P.underlying dst = some .string) {w : World} {B n c : Nat} {A : Option Addr} {l : List UInt8} (h : rBytes w B l [.slice A n c]) :
    (convert src dst (.slice A n c)).run P w = .ok (.string ⟨l.toArray⟩) w := by
  have hn := h.len
  rcases Nat.eq_zero_or_pos n with h0 | h0
  · subst h0
    obtain rfl : l = [] := List.eq_nil_of_length_eq_zero hn
    rcases A with _ | a
    · exact run_convert_bytes_nil w src e hs he 0 c dst hd
    · rw [run_convert_bytes_string w src dst e _ _ _ hs he hd]
      have hl : (loadCells a 0).run P w = .ok (([] : List Int).map (Value.int .u8)).toArray w := run_loadCells_list w a [] (fun j v hj => by simp at hj)
      rw [run_bytesToString w a 0 c [] hl]
      rfl
  · obtain ⟨b, o, _, rfl, _⟩ := rBytes_at h h0
    have hx := run_convert_bytes_arg (P := P) w src e hs he b o n c (l.map fun x => (x.toNat : Int)) (by simp [hn]) (fun i hi => by
      obtain ⟨b', o', x, hA, _, hx, hc, _⟩ := rBytes_at h hi
      simp only [Option.some.injEq, Addr.mk.injEq, and_true] at hA
      obtain ⟨rfl, rfl⟩ := hA
      rw [hc]
      simp [List.getD, hx]) dst hd
    rw [hx]
    congr 2
    unfold strOfNums
    simp only [List.map_map]
    congr 2
    have : ((fun n : Int => UInt8.ofNat n.toNat) ∘ fun x : UInt8 => (x.toNat : Int)) = id := by
      funext x
      simp
    rw [this, List.map_id]

/-! ### Sets of strings -/
structure SetOk (P : Program) (t k e : TypeId) : Prop where
  ht : P.underlying t = some (.map k e)
  hk : P.underlying k = some .string
  he : P.underlying e = some .bool
  hz : ∀ w, (zeroValue e).run P w = .ok (.bool false) w

/-- Block b is a map of at most n strings to bools: f. -/
def ownSet (P : Program) (k e : TypeId) (w : World) (b n : Nat) (f : List UInt8 → Bool) : Prop :=
  ∃ D : DataW Unit, w.ownsMap P k (plainElem P e) b n D ∧ ∀ s : List UInt8, D.atKey (.string s) (.lit (.bool false)) = .lit (.bool (f s))

section
variable {P : Program} {t k e : TypeId} {w : World} {b n : Nat} {f : List UInt8 → Bool}
theorem ownSet_made (w : World) : ownSet P k e (w.alloc (.map #[] 0)) w.heap.size 0 (fun _ => false) :=
  ⟨.map [], World.ownsMap_made _ _ _ _, fun _ => rfl⟩
theorem ownSet.kept {w' : World} {row : Option Nat} (h : ownSet P k e w b n f) (hg : w.grownBy w' row) (hne : some b ≠ row) : ownSet P k e w' b n f := by
  obtain ⟨D, h1, h2⟩ := h
  exact ⟨D, h1.kept hg hne, h2⟩
theorem ownSet.below {w' : World} {B : Nat} (h : ownSet P k e w b n f) (hb : Below B w w') (hB : b < B) : ownSet P k e w' b n f := by
  obtain ⟨D, ⟨es, clock, h1, h2⟩, h3⟩ := h
  exact ⟨D, ⟨es, clock, (hb.block b hB).trans h1, h2⟩, h3⟩
theorem ownSet.lt (h : ownSet P k e w b n f) : b < w.heap.size := by
  obtain ⟨D, h1, _⟩ := h
  exact h1.lt
theorem ownSet.mono {n' : Nat} (h : ownSet P k e w b n f) (hn : n ≤ n') : ownSet P k e w b n' f := by
  obtain ⟨D, h1, h2⟩ := h
  exact ⟨D, h1.mono hn, h2⟩
theorem plainElem_bool_inv {H : Type} (he : P.underlying e = some .bool) {v : Value} {z : DataW H × List MemPlace} (h : plainElem P e v = some z) : ∃ a, v = .bool a ∧ z = (.lit (.bool a), []) := by
  unfold plainElem at h
  rw [he] at h
  cases v <;> simp at h
  exact ⟨_, rfl, h.symm⟩

variable {ops : Array Oper} {rest : List Oper} {o : Oper} {a : Act} {Q : Exit → Act → World → Prop}
theorem wpList_set_has (ok : SetOk P t k e) (hg : o.guard = none) (m x : Operand) (hop : o.op = Op.lookup t m x false) (hm : a.eval m = .map (some b)) (hown : ownSet P k e w b n f) (s : ByteArray) (hx : a.eval x = .string s) (hs : s.size ≤ maxLen)
    (hK : wpList P ops Q rest (a.put o.dst (.bool (f s.data.toList))) w) : wpList P ops Q (o :: rest) a w := by
  obtain ⟨D, h1, h2⟩ := hown
  refine wpList_plain hg fun K' hK' => ?_
  obtain ⟨v, ps, hrun, hv⟩ := h1.lookup (Maps.string_keyed ok.hk) ok.ht (ok.hz w) (plainElem_bool ok.he false) (WideMaps.keyOf_string_mk ok.hk hs)
  obtain ⟨c, rfl, hc⟩ := plainElem_bool_inv ok.he hv
  simp only [Prod.mk.injEq, and_true] at hc
  have e1 := h2 s.data.toList
  rw [hc.1] at e1
  injection e1 with e1
  injection e1 with e1
  subst e1
  unfold Oper.wp
  simp [execOp, hop, hm, hx, hrun, Result.andThen]
  exact hK' _ _ hK

theorem wpList_set_put (ok : SetOk P t k e) (hg : o.guard = none) (m x v : Operand) (hop : o.op = Op.mapUpdate t m x v) (hm : a.eval m = .map (some b)) (hown : ownSet P k e w b n f) (hn : n < maxLen) (s : ByteArray) (hx : a.eval x = .string s) (hs : s.size ≤ maxLen)
    (c : Bool) (hv : a.eval v = .bool c) (hK : ∀ w', ownSet P k e w' b (n + 1) (fun u => if u = s.data.toList then c else f u) → w.grownBy w' (some b) → wpList P ops Q rest (a.put o.dst undef) w') : wpList P ops Q (o :: rest) a w := by
  obtain ⟨D, h1, h2⟩ := hown
  refine wpList_mapUpdate_own w hg m x v t hop k e (Maps.string_keyed ok.hk) ok.ht _ b n D hm h1 hn _ _ (.string s.data.toList) hx hv (WideMaps.keyOf_string_mk ok.hk hs) (.lit (.bool c)) [] (plainElem_bool ok.he c) ?_
  intro w' h3 h4
  refine hK w' ⟨_, h3, fun u => ?_⟩ h4
  show (D.put (Lit.string s.data.toList) (DataW.lit (Lit.bool c))).atKey (.string u) (.lit (.bool false)) = .lit (.bool (if u = s.data.toList then c else f u))
  by_cases hu : u = s.data.toList
  · subst hu
    rw [if_pos rfl, Maps.atKey_put_same h1.isMap (k := .string s.data.toList) (by exact True.intro)]
  · rw [if_neg hu, Maps.atKey_put_other (by intro h; injection h with h; exact hu h)]
    exact h2 u
end
end Go.Proofs.Yteoojplgchlhcaa
