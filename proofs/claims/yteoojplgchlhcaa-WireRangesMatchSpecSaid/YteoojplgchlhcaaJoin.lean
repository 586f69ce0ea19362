/-
  The walk of wire.joined.
-/
import Derived.Test.YteoojplgchlhcaaSpan
import Derived.Test.YteoojplgchlhcaaApp
import Derived.Test.YteoojplgchlhcaaAwake
import Derived.BigRegion
namespace Go.Proofs.Yteoojplgchlhcaa
open Go.RowKit
set_option linter.unusedVariables false
set_option linter.unusedSimpArgs false

abbrev rSpan : Rep Span := rPair (rI .i64) (rI .i64)
def rSpans : Rep (List Span) := rSl 2 16 rSpan
def encS (x : Span) : List Value := [.int .i64 x.1, .int .i64 x.2]
theorem rSpans_at {w : World} {B n c k : Nat} {A : Option Addr} {l : List Span} (h : rSpans w B l [.slice A n c]) (hk : k < n) :
    ∃ b o x, A = some ⟨b, o, none⟩ ∧ b < B ∧ l[k]? = some x ∧ w.cell? ⟨b, o + k * 2, none⟩ = some (.int .i64 x.1) ∧ w.cell? ⟨b, o + k * 2 + 1, none⟩ = some (.int .i64 x.2) ∧ (-9223372036854775808 ≤ x.1 ∧ x.1 ≤ 9223372036854775807) ∧ (-9223372036854775808 ≤ x.2 ∧ x.2 ≤ 9223372036854775807) := by
  obtain ⟨b, o, x, vs, hA, hb, hl, hs, ⟨c1, c2, rfl, ⟨rfl, h1⟩, ⟨rfl, h2⟩⟩, hc⟩ := rSl.at_ h hk
  exact ⟨b, o, x, hA, hb, hl, hc 0 _ rfl, hc 1 _ rfl, wf64 h1, wf64 h2⟩
theorem el_span : ElemOk Try.prog 51 55 2 16 := .mk' (z := .agg #[.int .i64 0, .int .i64 0]) Try.underlying51 (by kernel_rfl) rfl (by decide)
def wfS (x : Span) : Prop := (-9223372036854775808 ≤ x.1 ∧ x.1 ≤ 9223372036854775807) ∧ (-9223372036854775808 ≤ x.2 ∧ x.2 ≤ 9223372036854775807)
/-- The call owns spans. -/
def ownSp (w : World) (base : Nat) (l : List Span) (v : Value) : Prop := w.ownsRow base 55 2 v l.length (l.flatMap encS) ∧ ∀ x ∈ l, wfS x
section
variable {w w' : World} {base base' : Nat} {l : List Span} {v : Value}
theorem encS_len (l : List Span) : (l.flatMap encS).length = 2 * l.length := by
  induction l with
  | nil => rfl
  | cons x r ih => simp [encS] at ih ⊢; omega
theorem encS_get : ∀ (l : List Span) (k : Nat) (x : Span), l[k]? = some x → (l.flatMap encS)[k * 2]? = some (.int .i64 x.1) ∧ (l.flatMap encS)[k * 2 + 1]? = some (.int .i64 x.2) := by
  intro l
  induction l with
  | nil => intro k x h; simp at h
  | cons y r ih =>
    intro k x h
    cases k with
    | zero => simp at h; subst h; simp [encS]
    | succ k =>
      have := ih k x (by simpa using h)
      rw [show (k + 1) * 2 = k * 2 + 2 by omega]
      simpa [encS] using this
theorem encS_set (p : List Span) (y : Span) (z : Int) : ((p ++ [y]).flatMap encS).set (p.length * 2 + 1) (.int .i64 z) = (p ++ [(y.1, z)]).flatMap encS := by
  rw [List.flatMap_append, List.flatMap_append, List.set_append_right _ _ (by rw [encS_len]; omega), encS_len]
  rw [show p.length * 2 + 1 - 2 * p.length = 1 by omega]
  simp [encS]
theorem ownSp.nil_ : ownSp w base [] (.slice none 0 0) := ⟨World.ownsRow_nil _ _ _ _, by simp⟩
theorem ownSp.keep {B : Nat} (h : ownSp w base l v) (hb : Below B w w') (hB : w.heap.size ≤ B) : ownSp w' base l v := ⟨own_keep h.1 hb hB, h.2⟩
theorem ownSp.mono (h : ownSp w base l v) (hb : base' ≤ base) : ownSp w base' l v := by
  obtain ⟨⟨h1, h2⟩, h3⟩ := h
  refine ⟨⟨h1, ?_⟩, h3⟩
  rcases h2 with h2 | ⟨g, cap, cur, hv, hg, r⟩
  · exact .inl h2
  · exact .inr ⟨g, cap, cur, hv, by omega, r⟩
theorem ownSp.toS {T : Nat → Prop} (h : ownSp w base l v) : ownS 55 2 rSpan T w base l v := by
  refine ⟨_, h.1, fun k x hk => ⟨encS x, rfl, Held.of_pure (w := w) (B := 0) ⟨[.int .i64 x.1], [.int .i64 x.2], rfl, ⟨rfl, ?_⟩, ⟨rfl, ?_⟩⟩, fun j u hj => ?_⟩⟩
  · have := h.2 x (List.mem_of_getElem? hk); exact wf64_of this.1.1 this.1.2
  · have := h.2 x (List.mem_of_getElem? hk); exact wf64_of this.2.1 this.2.2
  · have hg := encS_get l k x hk
    match j, hj with
    | 0, hj => simp [encS] at hj; subst hj; simpa using hg.1
    | 1, hj => simp [encS] at hj; subst hj; exact hg.2
theorem ownSp.toSl (h : ownSp w base l v) (hl : l.length * 16 ≤ 140737488355328) : rSpans w w.heap.size l [v] := ownS.toSl (bts := 16) (T := fun _ => False) h.toS hl
theorem ownSp.of_S {T : Nat → Prop} (h : ownS 55 2 rSpan T w base l v) : ownSp w base l v := by
  obtain ⟨xs, h1, h2⟩ := h
  have key : ∀ (k : Nat) (x : Span), l[k]? = some x → wfS x ∧ xs[k * 2]? = some (.int .i64 x.1) ∧ xs[k * 2 + 1]? = some (.int .i64 x.2) := fun k x hk => by
    obtain ⟨vs, a1, a2, a3⟩ := h2 k x hk
    obtain ⟨c1, c2, rfl, ⟨rfl, b1⟩, ⟨rfl, b2⟩⟩ := a2.here
    exact ⟨⟨wf64 b1, wf64 b2⟩, a3 0 _ rfl, a3 1 _ rfl⟩
  have e : xs = l.flatMap encS := by
    apply List.ext_getElem?
    intro j
    by_cases hj : j < l.length * 2
    · have hk : j / 2 < l.length := by omega
      obtain ⟨_, k1, k2⟩ := key (j / 2) _ (List.getElem?_eq_getElem hk)
      obtain ⟨g1, g2⟩ := encS_get l (j / 2) _ (List.getElem?_eq_getElem hk)
      rcases Nat.mod_two_eq_zero_or_one j with h | h
      · rw [show j = j / 2 * 2 by omega, k1, g1]
      · rw [show j = j / 2 * 2 + 1 by omega, k2, g2]
    · rw [List.getElem?_eq_none (by rw [h1.1]; omega), List.getElem?_eq_none (by rw [encS_len]; omega)]
  subst e
  exact ⟨h1, fun x hx => by
    obtain ⟨k, hk, rfl⟩ := List.mem_iff_getElem.1 hx
    exact (key k _ (List.getElem?_eq_getElem hk)).1⟩
end

set_option maxHeartbeats 4000000 in
set_option maxRecDepth 100000 in
theorem joined_any (A : Option Addr) (n c : Nat) (l : List Span) (w : World) (hR : rSpans w w.heap.size l [.slice A n c]) (hn : n ≤ 100000) :
    Calls Try.prog 36 #[.slice A n c] w (Ret (fun v w' => ownSp w' w.heap.size (joined l) v ∧ (joined l).length ≤ n) w) := by
  have hln := hR.len
  have hcm := hR.le
  have HR := Lib.hid hR
  have HL := Lib.hid hln
  clear hR hln
  obtain ⟨hcm1, hcm2, _⟩ := hcm
  have hmx := @run_max_int Try.prog
  go_enter Try.func36, Try.ntmps36
  go_wp2_with fail
  go_loopw [3, 9] (fun v i wr => ∃ (k : Nat) (done : List Span), k ≤ n ∧ i = .int .i64 k ∧ done.length ≤ k ∧ Below w.heap.size w wr ∧ Hid (ownSp wr w.heap.size done v) ∧ Hid (joined l = (l.drop k).foldl joinStep done)) (fun _ i _ => n - (intOf i).toNat)
  case atStart => exact ⟨0, [], by omega, rfl, by simp, Below.refl _ _, ownSp.nil_, rfl⟩
  case round =>
    obtain ⟨k, done, hk, rfl, hdl, hbw, HO, HG⟩ := hrel
    have hzw := hbw.size
    by_cases hlt : k < n
    · obtain ⟨b, o, x, rfl, hb, hx, p0, p1, hx1, hx2⟩ := rSpans_at (rSl.keep HR.out hbw hzw) hlt
      have HX := Lib.hid (drop_of hx)
      clear hx
      obtain ⟨hx11, hx12⟩ := hx1
      obtain ⟨hx21, hx22⟩ := hx2
      rcases List.eq_nil_or_concat done with rfl | ⟨p, y, rfl⟩
      · obtain ⟨A1, c1, hv⟩ := own_slice HO.out.1
        simp only [List.length_nil] at hv
        subst hv
        have hbq0 := hbw.alloc hzw (.cells #[.int .i64 x.1, .int .i64 x.2] 55)
        have hxb : blk (wr.alloc (.cells #[.int .i64 x.1, .int .i64 x.2] 55)) wr.heap.size 55 [.int .i64 x.1, .int .i64 x.2] := blk_allocA rfl
        have HOq0 := Lib.hid (HO.out.keep ((Below.refl _ _).alloc (Nat.le_refl _) (.cells #[.int .i64 x.1, .int .i64 x.2] 55)) (Nat.le_refl _))
        go_wp2_with fail
        go_quiet (fail)
        have hbq := drewN_below hbq0 nq
        have hxbq : blk ((wr.alloc (.cells #[.int .i64 x.1, .int .i64 x.2] 55)).drewN nq) wr.heap.size 55 [.int .i64 x.1, .int .i64 x.2] := hxb
        have HOq := Lib.hid (HOq0.out.keep (drewN_below (Below.refl _ _) nq) (Nat.le_refl _))
        clear hxb HOq0 hbq0
        generalize (wr.alloc (.cells #[.int .i64 x.1, .int .i64 x.2] 55)).drewN nq = wq at hbq hxbq HOq ⊢
        have hxc : ∀ i, wq.cell? ⟨wr.heap.size, i, none⟩ = ([.int .i64 x.1, .int .i64 x.2] : List Value)[i]? := fun i => hxbq.cell i
        have hwx : wfS x := ⟨⟨hx11, hx12⟩, ⟨hx21, hx22⟩⟩
        have HA : Hid (∃ v' w', (Builtin.append_ #[51, 51] 51 #[.slice A1 0 c1, .slice (some ⟨wq.heap.size, 0, none⟩) 1 1]).run Try.prog (wq.alloc (.cells #[.int .i64 x.1, .int .i64 x.2] 55)) = .ok v' w' ∧ AppOut 55 2 rSpan (fun _ => False) (wq.alloc (.cells #[.int .i64 x.1, .int .i64 x.2] 55)) w.heap.size (([] : List Span) ++ [x]) (.slice A1 0 c1) v' w') :=
          run_app el_span (HOq.out.toS.keep ((Below.refl _ _).alloc (Nat.le_refl _) _)) (SrcS.block (c := 0) (heap_alloc_new wq _) rfl (by simp [Value.oneCell']) (Held.of_pure (w := w) (B := 0) ⟨[.int .i64 x.1], [.int .i64 x.2], rfl, ⟨rfl, wf64_of hx11 hx12⟩, ⟨rfl, wf64_of hx21 hx22⟩⟩)) (by unfold maxLen; simp <;> omega) (by simp <;> omega) (by have := hbq.size; simp; omega)
        have hbo : ∀ q, (.slice A1 0 c1 : Value).ownBlock = some q → w.heap.size ≤ q := fun q e => (HOq.out.1.lt q e).1
        have hbqa := hbq.alloc hbq.size (.cells #[.int .i64 x.1, .int .i64 x.2] 55)
        go_wp2_with (at_builtin; go_loud (refine wpList_app_ex rfl _ _ rfl rfl rfl HA.out ?_); rintro v3 w3 ⟨ho3, hg3, ha3⟩)
        have hb3 : Below w.heap.size w w3 := hbqa.grown hg3 hbqa.size hbo
        have HO3 := Lib.hid (ownSp.of_S ho3)
        clear ho3 hg3 ha3 HA
        go_roundw
        case rel => exact ⟨k + 1, ([] : List Span) ++ [x], by omega, by go_num, by simp <;> omega, hb3, HO3.out, by rw [HG.out, HX.out, List.foldl_cons, joinStep_nil]; rfl⟩
        case measure => simp [intOf]; omega
      · rw [List.concat_eq_append] at HO HG hdl
        obtain ⟨g, cap, hv, hg1, hg2⟩ := HO.out.1.form (by simp)
        simp only [List.length_append, List.length_cons, List.length_nil, Nat.zero_add] at hv
        subst hv
        have hpl : p.length + 1 ≤ k := by simpa using hdl
        have hown := HO.out.1
        rw [List.length_append] at hown
        have hcy : wr.cell? ⟨g, p.length * 2 + 1, none⟩ = some (.int .i64 y.2) := by
          rw [hown.cellAt (p.length * 2 + 1) (by first | omega | (simp; omega))]
          exact (encS_get (p ++ [y]) p.length y (by simp)).2
        have hfy := hown.frozenAt (p.length * 2 + 1)
        have hyw := HO.out.2 y (by simp)
        obtain ⟨⟨hy11, hy12⟩, ⟨hy21, hy22⟩⟩ := hyw
        have HOw := Lib.hid hown
        clear hown
        have hbq0 := hbw.alloc hzw (.cells #[.int .i64 x.1, .int .i64 x.2] 55)
        have hxb : blk (wr.alloc (.cells #[.int .i64 x.1, .int .i64 x.2] 55)) wr.heap.size 55 [.int .i64 x.1, .int .i64 x.2] := blk_allocA rfl
        have HOq0 := Lib.hid (HO.out.keep ((Below.refl _ _).alloc (Nat.le_refl _) (.cells #[.int .i64 x.1, .int .i64 x.2] 55)) (Nat.le_refl _))
        have hcy0 : (wr.alloc (.cells #[.int .i64 x.1, .int .i64 x.2] 55)).cell? ⟨g, p.length * 2 + 1, none⟩ = some (.int .i64 y.2) := by rw [World.cell?_alloc_some _ _ _ (by rw [hcy]; rfl)]; exact hcy
        have e1 : (0 : Int) ≤ (p.length : Int) := by omega
        have e2 : ((p.length : Int)).toNat = p.length := by omega
        have e3 : (p.length : Int) < (p.length : Int) + 1 := by omega
        by_cases hxy : x.1 ≤ y.2
        · have hxy' : decide (x.1 ≤ y.2) = true := by simpa using hxy
          go_wp2_with fail
          go_quiet (fail)
          have hbq := drewN_below hbq0 nq
          have hxbq : blk ((wr.alloc (.cells #[.int .i64 x.1, .int .i64 x.2] 55)).drewN nq) wr.heap.size 55 [.int .i64 x.1, .int .i64 x.2] := hxb
          have HOq := Lib.hid (HOq0.out.keep (drewN_below (Below.refl _ _) nq) (Nat.le_refl _))
          have hcyq : ((wr.alloc (.cells #[.int .i64 x.1, .int .i64 x.2] 55)).drewN nq).cell? ⟨g, p.length * 2 + 1, none⟩ = some (.int .i64 y.2) := hcy0
          clear hxb HOq0 hbq0 hcy0
          generalize (wr.alloc (.cells #[.int .i64 x.1, .int .i64 x.2] 55)).drewN nq = wq at hbq hxbq HOq hcyq ⊢
          have hxc : ∀ i, wq.cell? ⟨wr.heap.size, i, none⟩ = ([.int .i64 x.1, .int .i64 x.2] : List Value)[i]? := fun i => hxbq.cell i
          have hfyq : wq.frozen? ⟨g, p.length * 2 + 1, none⟩ = false := by
            have h := HOq.out.1
            rw [List.length_append] at h
            exact h.frozenAt _
          go_wp2_with fail
          go_region
          have hst : ownSp (wq.drew.setCell ⟨g, p.length * 2 + 1, none⟩ (.int .i64 (max y.2 x.2))) w.heap.size (p ++ [(y.1, max y.2 x.2)]) (.slice (some ⟨g, 0, none⟩) (p.length + 1) cap) := by
            have h : wq.drew.ownsRow w.heap.size 55 2 (.slice (some ⟨g, 0, none⟩) (p.length + 1) cap) (p.length + 1) ((p ++ [y]).flatMap encS) := by
              have h := HOq.out.1
              rw [List.length_append] at h
              exact h.drew
            obtain ⟨s1, s2⟩ := h.stored (p.length * 2 + 1) (.int .i64 (max y.2 x.2))
            rw [encS_set] at s1
            refine ⟨by rw [List.length_append]; exact s1, fun z hz => ?_⟩
            rcases List.mem_append.1 hz with hz | hz
            · exact HOq.out.2 z (by simp [hz])
            · simp at hz; subst hz; exact ⟨⟨hy11, hy12⟩, by simp only; omega⟩
          have hb3 : Below w.heap.size w (wq.drew.setCell ⟨g, p.length * 2 + 1, none⟩ (.int .i64 (max y.2 x.2))) := hbq.drew.setCell hg1 _
          have HO3 := Lib.hid hst
          clear hst
          go_wp2_with fail
          go_roundw
          case rel => exact ⟨k + 1, p ++ [(y.1, max y.2 x.2)], by omega, by go_num, by simp <;> omega, hb3, HO3.out, by rw [HG.out, HX.out, List.foldl_cons, joinStep_in hxy]; rfl⟩
          case measure => simp [intOf]; omega
        · have hxy' : decide (x.1 ≤ y.2) = false := by simpa using hxy
          go_wp2_with fail
          go_quiet (fail)
          have hbq := drewN_below hbq0 nq
          have hxbq : blk ((wr.alloc (.cells #[.int .i64 x.1, .int .i64 x.2] 55)).drewN nq) wr.heap.size 55 [.int .i64 x.1, .int .i64 x.2] := hxb
          have HOq := Lib.hid (HOq0.out.keep (drewN_below (Below.refl _ _) nq) (Nat.le_refl _))
          have hcyq : ((wr.alloc (.cells #[.int .i64 x.1, .int .i64 x.2] 55)).drewN nq).cell? ⟨g, p.length * 2 + 1, none⟩ = some (.int .i64 y.2) := hcy0
          clear hxb HOq0 hbq0 hcy0
          generalize (wr.alloc (.cells #[.int .i64 x.1, .int .i64 x.2] 55)).drewN nq = wq at hbq hxbq HOq hcyq ⊢
          have hxc : ∀ i, wq.cell? ⟨wr.heap.size, i, none⟩ = ([.int .i64 x.1, .int .i64 x.2] : List Value)[i]? := fun i => hxbq.cell i
          have hwx : wfS x := ⟨⟨hx11, hx12⟩, ⟨hx21, hx22⟩⟩
          have HA : Hid (∃ v' w', (Builtin.append_ #[51, 51] 51 #[.slice (some ⟨g, 0, none⟩) (p.length + 1) cap, .slice (some ⟨wq.heap.size, 0, none⟩) 1 1]).run Try.prog (wq.alloc (.cells #[.int .i64 x.1, .int .i64 x.2] 55)) = .ok v' w' ∧ AppOut 55 2 rSpan (fun _ => False) (wq.alloc (.cells #[.int .i64 x.1, .int .i64 x.2] 55)) w.heap.size ((p ++ [y]) ++ [x]) (.slice (some ⟨g, 0, none⟩) (p.length + 1) cap) v' w') :=
            run_app el_span (HOq.out.toS.keep ((Below.refl _ _).alloc (Nat.le_refl _) _)) (SrcS.block (c := 0) (heap_alloc_new wq _) rfl (by simp [Value.oneCell']) (Held.of_pure (w := w) (B := 0) ⟨[.int .i64 x.1], [.int .i64 x.2], rfl, ⟨rfl, wf64_of hx11 hx12⟩, ⟨rfl, wf64_of hx21 hx22⟩⟩)) (by unfold maxLen; simp <;> omega) (by simp <;> omega) (by have := hbq.size; simp; omega)
          have hbo : ∀ q, (.slice (some ⟨g, 0, none⟩) (p.length + 1) cap : Value).ownBlock = some q → w.heap.size ≤ q := fun q e => (HOq.out.1.lt q e).1
          have hbqa := hbq.alloc hbq.size (.cells #[.int .i64 x.1, .int .i64 x.2] 55)
          go_wp2_with (at_builtin; go_loud (refine wpList_app_ex rfl _ _ rfl rfl rfl HA.out ?_); rintro v3 w3 ⟨ho3, hg3, ha3⟩)
          have hb3 : Below w.heap.size w w3 := hbqa.grown hg3 hbqa.size hbo
          have HO3 := Lib.hid (ownSp.of_S ho3)
          clear ho3 hg3 ha3 HA
          go_roundw
          case rel => exact ⟨k + 1, (p ++ [y]) ++ [x], by omega, by go_num, by simp <;> omega, hb3, HO3.out, by rw [HG.out, HX.out, List.foldl_cons, joinStep_out (by omega)]; rfl⟩
          case measure => simp [intOf]; omega
    · obtain rfl : k = n := by omega
      have HE : Hid (joined l = done) := by rw [HG.out, List.drop_of_length_le (by rw [HL.out]; exact Nat.le_refl _)]; rfl
      go_wp2_with fail
      go_ret
      refine ⟨_, rfl, hbw, ?_, ?_⟩
      · rw [HE.out]; exact HO.out
      · rw [HE.out]; exact hdl
end Go.Proofs.Yteoojplgchlhcaa
