/-
  Frames that are cut anywhere: the plain law, and the walk of the law WireFeedInPieces.
-/
import Derived.Test.YteoojplgchlhcaaDoorFramesL
import Derived.Test.YteoojplgchlhcaaDoorApp
namespace Go.Proofs.YteoojplgchlhcaaDoor
open Go.RowKit
set_option linter.unusedVariables false
set_option linter.unusedSimpArgs false

/-- What is held behind a place a, when i messages have been handed out. -/
def PieceRel (l : List Msg) (a i : Nat) (held : List UInt8) : Prop :=
  i ≤ l.length ∧ flen (l.take i) ≤ a ∧ a ≤ flen l ∧ held = ((l.drop i).flatMap frameOf).take (a - flen (l.take i)) ∧ ∀ m r, l.drop i = m :: r → held.length < (frameOf m).length
theorem flen_split (l : List Msg) (i : Nat) : flen l = flen (l.take i) + flen (l.drop i) := by
  unfold flen
  rw [← List.length_append, ← List.flatMap_append, List.take_append_drop]
theorem frames_drop (l : List Msg) (i : Nat) : (l.flatMap frameOf).drop (flen (l.take i)) = (l.drop i).flatMap frameOf := by
  conv => lhs; rw [← List.take_append_drop i l, List.flatMap_append]
  unfold flen
  rw [List.take_append_drop, List.drop_left]
theorem piece_all {l : List Msg} {a i tz : Nat} {held : List UInt8} (h : PieceRel l a i held) (hat : a ≤ tz) : held ++ ((l.flatMap frameOf).drop a).take (tz - a) = ((l.drop i).flatMap frameOf).take (tz - flen (l.take i)) := by
  obtain ⟨_, h1, h2, rfl, _⟩ := h
  have e : (l.flatMap frameOf).drop a = ((l.drop i).flatMap frameOf).drop (a - flen (l.take i)) := by
    rw [← frames_drop, List.drop_drop]; congr 1; omega
  rw [e, show tz - flen (l.take i) = (a - flen (l.take i)) + (tz - a) by omega, List.take_add]
theorem piece_held {l : List Msg} (hv : framesGo l = 0) {a i : Nat} {held : List UInt8} (h : PieceRel l a i held) : held.length ≤ 65560 := by
  obtain ⟨h0, h1, h2, h3, h4⟩ := h
  cases hd : l.drop i with
  | nil => rw [h3, hd]; simp
  | cons m r =>
    have a1 := h4 m r hd
    have hm := framesGo_ok hv m (List.mem_of_mem_drop (by rw [hd]; simp))
    have a2 := frameOf_len hm
    obtain ⟨_, _, _, _, _, _, _, a3, _⟩ := msgCode_ok hm
    omega
theorem piece_step {l : List Msg} (hv : framesGo l = 0) (hl : l.length ≤ 20000) {a i tz : Nat} {held : List UInt8} (h : PieceRel l a i held) (hat : a ≤ tz) (hto : tz ≤ flen l) (hp : tz - a ≤ 2000000) :
    ∃ j held', feed held (((l.flatMap frameOf).drop a).take (tz - a)) = ((l.drop i).take j, held', 0, 0) ∧ PieceRel l tz (i + j) held' := by
  have hall := piece_all h hat
  obtain ⟨h0, h1, h2, h3, h4⟩ := h
  have hheld : held.length ≤ 65560 := by
    cases hd : l.drop i with
    | nil => rw [h3, hd]; simp
    | cons m r =>
      have a1 := h4 m r hd
      have hm := framesGo_ok hv m (List.mem_of_mem_drop (by rw [hd]; simp))
      have a2 := frameOf_len hm
      obtain ⟨_, _, _, _, _, _, _, a3, _⟩ := msgCode_ok hm
      omega
  have hpl : (((l.flatMap frameOf).drop a).take (tz - a)).length ≤ 2000000 := by rw [List.length_take]; omega
  unfold feed
  rw [if_neg (by omega), if_neg (by omega), hall]
  obtain ⟨j, j1, j2, j3, j4, j5⟩ := feedGo_stream (((l.drop i).flatMap frameOf).take (tz - flen (l.take i))) (l.drop i) (((l.drop i).flatMap frameOf).take (tz - flen (l.take i))).length 0 (tz - flen (l.take i)) [] (fun m hm => framesGo_ok hv m (List.mem_of_mem_drop hm)) (by simp) (by simp; omega) (by omega) (by omega) (fun h => h)
  have hfl : flen (l.take (i + j)) = flen (l.take i) + flen ((l.drop i).take j) := by
    unfold flen
    rw [List.take_add, List.flatMap_append, List.length_append]
  have hlen : (((l.drop i).flatMap frameOf).take (tz - flen (l.take i))).length = tz - flen (l.take i) := by
    rw [List.length_take]
    have := flen_split l i
    show min _ (flen (l.drop i)) = _
    omega
  rw [Nat.zero_add] at j2 j3 j4 j5
  rw [hlen] at j4
  refine ⟨j, _, by rw [j2]; rfl, by simp at j1; omega, by rw [hfl]; omega, hto, ?_, fun m r hr => ?_⟩
  · rw [j3, List.drop_drop, hfl, Nat.sub_sub]
  · rw [← List.drop_drop] at hr
    exact j5 m r hr
theorem piece_start (l : List Msg) (hv : framesGo l = 0) : PieceRel l 0 0 [] := by
  refine ⟨by omega, by simp [flen], by omega, by simp, fun m r hr => ?_⟩
  have hm := framesGo_ok hv m (List.mem_of_mem_drop (by rw [hr]; simp))
  rw [frameOf_len hm]; simp; omega
theorem piece_end {l : List Msg} {i : Nat} {held : List UInt8} (h : PieceRel l (flen l) i held) : held = [] ∧ i = l.length := by
  obtain ⟨h0, h1, h2, h3, h4⟩ := h
  have hs := flen_split l i
  rcases Nat.lt_or_ge i l.length with h | h
  · have hd := h4 l[i] (l.drop (i + 1)) (List.drop_eq_getElem_cons h)
    have hh : held.length = flen (l.drop i) := by
      rw [h3, List.length_take]
      show min _ (flen (l.drop i)) = _
      omega
    have : flen (l.drop i) = (frameOf l[i]).length + flen (l.drop (i + 1)) := by
      unfold flen
      rw [List.drop_eq_getElem_cons h, List.flatMap_cons, List.length_append]
    omega
  · refine ⟨?_, by omega⟩
    rw [h3, List.drop_of_length_le (by omega)]; simp
/-- The reference's Below: the remainder from 0 on. -/
theorem below_any (x n : Int) (w : World) (hx : -9223372036854775808 ≤ x ∧ x ≤ 9223372036854775807) (hn : 1 ≤ n ∧ n ≤ 9223372036854775807) :
    Calls Tryd.prog 27 #[.int .i64 x, .int .i64 n] w fun e w' => e = .returned (.int .i64 (x % n)) ∧ w = w' := by
  obtain ⟨hx1, hx2⟩ := hx
  obtain ⟨hn1, hn2⟩ := hn
  have hb : -n < x.tmod n ∧ x.tmod n < n ∧ (x.tmod n < 0 → x.tmod n + n = x % n) ∧ (0 ≤ x.tmod n → x.tmod n = x % n) := by
    have e1 := Int.emod_nonneg x (show n ≠ 0 by omega)
    have e2 := Int.emod_lt_of_pos x (show 0 < n by omega)
    have e3 := @Int.tmod_eq_emod x n
    have e4 : ((n.natAbs : Nat) : Int) = n := by omega
    by_cases h : 0 ≤ x ∨ n ∣ x
    · rw [if_pos h] at e3; omega
    · have h2 : x % n ≠ 0 := fun h3 => h (Or.inr (Int.dvd_of_emod_eq_zero h3))
      rw [if_neg h, e4] at e3
      omega
  obtain ⟨b1, b2, b3, b4⟩ := hb
  have B3 := Lib.hid b3
  have B4 := Lib.hid b4
  clear b3 b4
  go_enter Tryd.func27, Tryd.ntmps27
  go_wp2_with fail
  · go_ret
    have h : x.tmod n < 0 := by assumption
    exact ⟨by rw [← B3.out h]; rfl, rfl⟩
  · go_ret
    have h : 0 ≤ x.tmod n := by assumption
    exact ⟨by rw [← B4.out h]; rfl, rfl⟩


theorem cloneInts_any (A : Option Addr) (n c B : Nat) (l : List (Int)) (w : World) (hR : rSl 1 8 (rI .i64) w B l [.slice A n c]) (hB : B ≤ w.heap.size) :
    Calls Tryd.prog 26 #[.slice A n c] w (Ret (fun v w' => ownSl 3 1 (rI .i64) w' w.heap.size B l v) w) := by
  have HR := Lib.hid hR
  have hcm := hR.le
  have hln := hR.len
  have HL := Lib.hid hln
  clear hR hln
  obtain ⟨hcm1, hcm2, hcm3⟩ := hcm
  have hnil := fun (w : World) (A : Option Addr) (n c : Nat) => Lib.run_eql_slice_nil (P := Tryd.prog) w 50 3 A n c 0 0 Tryd.underlying50
  rcases A with _ | a
  · have hn0 : n = 0 := by
      obtain ⟨_, _, _, h4, _⟩ := HR.out.cellsOf (by decide)
      exact h4 rfl
    go_enter Tryd.func26, Tryd.ntmps26
    go_wp2_with fail
    go_ret
    have hl0 : l = [] := List.eq_nil_of_length_eq_zero (by rw [HL.out]; exact hn0)
    refine ⟨_, rfl, Below.refl _ _, ?_⟩
    rw [hl0]
    exact ownSl.nil_
  · go_enter Tryd.func26, Tryd.ntmps26
    have hb1 : Below w.heap.size w (w.alloc (.cells #[] 3)) := (Below.refl _ _).alloc (Nat.le_refl _) _
    have HS := Lib.hid (rSl.keep HR.out (hb1.mono hB) (Nat.le_refl _))
    have HO := Lib.hid (ownSl_lit0 (R := rI .i64) (w := w) (e := 3) (sz := 1) (B := B) (Nat.le_refl _))
    go_wp2_with (at_builtin; go_loud (refine wpList_append_sl el_int inferInstance inferInstance rfl _ _ rfl rfl HO.out rfl (rSl.src HS.out (by decide)) (by unfold maxLen; simp; omega) (by simp; omega) (by simp) hB ?_); intro v' w1 ho hbe _)
    go_ret
    exact ⟨_, rfl, hb1.trans hbe, by simpa using ho⟩


theorem ownS.srcS {α : Type} {R : Rep α} [OneCells R] {T T' : Nat → Prop} {w : World} {base sz m c : Nat} {e : TypeId} {A : Option Addr} {l2 : List α} {own : Option Nat} (h : ownS e sz R T' w base l2 (.slice A m c)) (hsz : 0 < sz) (hT : ∀ b, T' b → T b) (hown : ∀ g, own = some g → ¬ T' g) : SrcS sz R T w own A m l2 := by
  have hl := h.len
  obtain ⟨xs, o1, o2⟩ := h
  have hel : ∀ (k : Nat) (x : α), l2[k]? = some x → ∃ vs : List Value, vs.length = sz ∧ Held R (fun b => T b ∧ b < w.heap.size ∧ own ≠ some b) w w.heap.size x vs ∧ ∀ (j : Nat) (u : Value), vs[j]? = some u → xs[k * sz + j]? = some u := fun k x hk => by
    obtain ⟨vs, a1, a2, a3⟩ := o2 k x hk
    exact ⟨vs, a1, a2.mono fun b hb => ⟨hT b hb.1, hb.2.1, fun e => hown b e hb.1⟩, a3⟩
  refine ⟨hl, xs, by rw [o1.1, hl], fun b hb h0 j u hj => ?_, fun hA => ?_, oneCell_of (w := w) (R := R) (B := w.heap.size) inferInstance hl hsz (by rw [o1.1, hl]) (fun k x hk => ?_), hel⟩
  · subst hb
    obtain ⟨g, cap, hv, _, _⟩ := o1.form (by omega)
    injection hv with hv _ _
    cases hv
    exact o1.cells (g := g) rfl j u hj
  · subst hA
    rcases o1.2 with ⟨h1, h2⟩ | ⟨g, cap, cur, h1, _⟩
    · omega
    · injection h1 with h1; cases h1
  · obtain ⟨vs, a1, a2, a3⟩ := hel k x hk
    exact ⟨vs, a1, a2.here, a3⟩

theorem frames_bad {l : List Msg} (h : (frames l).2 ≠ 0) : (frames l).1 = [] := by
  unfold frames at h ⊢
  split
  · rfl
  · rename_i h1
    rw [if_neg h1] at h
    split
    · rfl
    · rename_i h2
      rw [if_neg h2] at h
      exact absurd rfl h

set_option maxHeartbeats 4000000 in
set_option maxRecDepth 100000 in
theorem feedPieces_any (A1 A2 : Option Addr) (n1 c1 n2 c2 : Nat) (l : List Msg) (cuts : List Int) (w : World) (h1 : rMsgs w w.heap.size l [.slice A1 n1 c1]) (h2 : rInts w w.heap.size cuts [.slice A2 n2 c2]) (hn2 : n2 * 8 ≤ 140737488351232) :
    Calls Tryd.prog 8 #[.slice A1 n1 c1, .slice A2 n2 c2] w fun e w' => e = .returned (.bool true) ∧ Below w.heap.size w w' := by
  have hl1 := h1.len
  have hl2 := h2.len
  have hm2 := h2.le
  have H1 := Lib.hid h1
  have H2 := Lib.hid h2
  have L1 := Lib.hid hl1
  have L2 := Lib.hid hl2
  clear h1 h2 hl1 hl2
  obtain ⟨hm21, hm22, hm23⟩ := hm2
  by_cases h0 : (frames l).2 = 0
  rotate_left
  · have h0' : ((frames l).2 != 0) = true := by simpa using h0
    have HB := Lib.hid (frames_bad h0)
    have hz : (frames l).1.length = 0 := by rw [HB.out]; rfl
    clear h0
    go_enter Tryd.func8, Tryd.ntmps8
    go_wp2_with fail
    refine (frames_any _ _ _ _ _ H1.out).mono ?_
    rintro e w1 ⟨v1, rfl, hb1, A3, c3, rfl, r1⟩
    clear r1
    rw [hz]
    generalize frames l = p at h0' ⊢
    go_wp2_with (go_at_call 10; refine (awake_any _).mono ?_; rintro e w7 ⟨rfl, hb7⟩)
    go_ret
    exact ⟨rfl, hb1.trans (hb7.mono hb1.size)⟩
  obtain ⟨k1, k2, k3⟩ := frames_ok h0
  obtain ⟨S, hS⟩ : ∃ S, l.flatMap frameOf = S := ⟨_, rfl⟩
  rw [hS] at k3
  have HV := Lib.hid k2
  have HF := Lib.hid k3
  have HFL : Hid (flen l = S.length) := by rw [← hS]; rfl
  have hSb : S.length ≤ 1311200000 := by
    rw [← hS]
    have : ∀ l : List Msg, (∀ m ∈ l, mCode m = 0) → (l.flatMap frameOf).length ≤ 65560 * l.length := by
      intro l
      induction l with
      | nil => intro _; simp
      | cons m r ih =>
        intro hv
        have hm := hv m (by simp)
        have a2 := frameOf_len hm
        obtain ⟨_, _, _, _, _, _, _, a3, _⟩ := msgCode_ok hm
        have := ih (fun x hx => hv x (by simp [hx]))
        rw [List.flatMap_cons, List.length_append, List.length_cons]
        omega
    have := this l (framesGo_ok k2)
    omega
  have HS := Lib.hid hS
  clear k2 k3 h0 hS
  go_enter Tryd.func8, Tryd.ntmps8
  go_wp2_with fail
  refine (frames_any _ _ _ _ _ H1.out).mono ?_
  rw [HF.out]
  rintro e w1 ⟨v1, rfl, hb1, Ab, cb, rfl, r1⟩
  simp only at r1 ⊢
  obtain ⟨nb, hnb⟩ : ∃ nb, S.length = nb := ⟨_, rfl⟩
  rw [hnb] at r1 hSb ⊢
  have hcb := r1.le
  obtain ⟨hcb1, hcb2, _⟩ := hcb
  have R1 := Lib.hid r1
  have HNB := Lib.hid hnb
  clear r1 hnb
  go_wp2_with fail
  refine (cloneInts_any _ _ _ _ _ _ (rSl.keep H2.out hb1 hb1.size) (Nat.le_refl _)).mono ?_
  rintro e w2 ⟨v2, rfl, hb2, ho2⟩
  have hb12 := hb1.trans (hb2.mono hb1.size)
  have HA : Hid (∃ v' w', (Builtin.append_ #[50, 50] 50 #[v2, .slice (some ⟨w2.heap.size, 0, none⟩) 1 1]).run Tryd.prog (w2.alloc (.cells #[.int .i64 (nb : Int)] 3)) = .ok v' w' ∧ AppOut 3 1 (rI .i64) (fun _ => False) (w2.alloc (.cells #[.int .i64 (nb : Int)] 3)) w1.heap.size (cuts ++ [(nb : Int)]) v2 v' w') :=
    run_app el_int (ownS.keep ho2.toP ((Below.refl _ _).alloc (Nat.le_refl _) _)) (SrcS.block (c := 0) (heap_alloc_new w2 _) rfl (by simp [Value.oneCell']) (Held.of_pure (w := w) (B := 0) ⟨rfl, wf64_of (by omega) (by omega)⟩)) (by unfold maxLen; have := L2.out; omega) (by have := L2.out; omega) (by have := hb2.size; simp; omega)
  have hbo : ∀ q, v2.ownBlock = some q → w1.heap.size ≤ q := fun q e => (ownS.block (T := fun _ => False) ho2.toP q e).1
  have hb2a := hb2.alloc hb2.size (.cells #[.int .i64 (nb : Int)] 3)
  have HV2 := Lib.hid (show ∃ A c, v2 = .slice A n2 c by obtain ⟨A, c, h⟩ := ho2.form; exact ⟨A, c, by rw [h, L2.out]⟩)
  clear ho2
  go_wp2_with (at_builtin; go_loud (refine wpList_app_ex rfl _ _ rfl rfl rfl HA.out ?_); rintro v3 w3 ⟨ho3, hg3, ha3⟩; obtain ⟨A3, c3, hv3⟩ := ho3.form; rw [List.length_append, L2.out] at hv3; subst hv3)
  have hb23 : Below w1.heap.size w1 w3 := hb2a.grown hg3 hb2a.size hbo
  have hb13 := hb1.trans (hb23.mono hb1.size)
  have HLs : Hid (rInts w3 w3.heap.size (cuts ++ [(nb : Int)]) [.slice A3 (n2 + 1) c3]) := ownS.toSl (bts := 8) ho3 (by have := L2.out; simp; omega)
  have hc3 := HLs.out.le
  obtain ⟨hc31, hc32, _⟩ := hc3
  have HR1 : Hid (rBytes w3 w1.heap.size S [.slice Ab nb cb]) := rSl.keep R1.out hb23 (Nat.le_refl _)
  have HP0 := Lib.hid (piece_start l HV.out)
  clear ho3 hg3 ha3 HA hb2 hb12 hbo hb2a hb1 R1 HV2
  have hz13 := hb23.size
  clear hb23
  go_wp2_with fail
  go_loopw [7, 8, 9, 37] (fun hv gv av i wr => ∃ (k mi a : Nat) (held : List UInt8), k ≤ n2 + 1 ∧ i = .int .i64 k ∧ av = .int .i64 a ∧ a ≤ nb ∧ Below w3.heap.size w3 wr ∧ Hid (∃ A n c, hv = .slice A n c ∧ n = held.length ∧ rBytes wr wr.heap.size held [.slice A n c]) ∧ Hid (ownS 64 5 rMsg (w3.heap.size ≤ ·) wr w3.heap.size (l.take mi) gv) ∧ Hid (PieceRel l a mi held) ∧ Hid (k = n2 + 1 → a = nb)) (fun _ _ _ i _ => n2 + 1 - (intOf i).toNat)
  case atStart => exact ⟨0, 0, 0, [], by omega, rfl, rfl, by omega, Below.refl _ _, ⟨none, 0, 0, rfl, rfl, rSl.nil_⟩, ownS.nil_, HP0.out, fun h => absurd h (by omega)⟩
  case round =>
    obtain ⟨k, mi, a, held, hk, rfl, rfl, ha, hbw, HHe, HO, HP, HE⟩ := hrel
    clear HP0
    obtain ⟨Ah, nh, ch, rfl, hnh, rh⟩ := HHe.out
    have RH := Lib.hid rh
    have HNH := Lib.hid hnh
    have hzw := hbw.size
    have hbww := hb13.trans (hbw.mono hb13.size)
    clear HHe rh hnh
    by_cases hlt : k < n2 + 1
    · obtain ⟨b', o', x, rfl, hb', hx, hx1, hx2, hx3⟩ := rInts_at (rSl.keep HLs.out hbw hzw) hlt
      have HLast : Hid (k = n2 → x = nb) := fun h => by
        have h1 : (cuts ++ [(nb : Int)])[k]? = some (nb : Int) := by rw [h, List.getElem?_append_right (by rw [L2.out]; omega), L2.out]; simp
        rw [hx] at h1
        exact Option.some.inj h1
      clear hx
      have g4 : 0 ≤ x % ((nb : Int) - a + 1) ∧ x % ((nb : Int) - a + 1) < (nb : Int) - a + 1 := ⟨Int.emod_nonneg _ (by omega), Int.emod_lt_of_pos _ (by omega)⟩
      obtain ⟨g41, g42⟩ := g4
      have hlt2 : (k : Int) < (n2 : Int) + 1 := by omega
      obtain ⟨T, hT⟩ : ∃ T : Nat, (if x = (nb : Int) then (nb : Int) else (a : Int) + x % ((nb : Int) - a + 1)) = T := ⟨(if x = (nb : Int) then (nb : Int) else (a : Int) + x % ((nb : Int) - a + 1)).toNat, by split <;> omega⟩
      have hTb : a ≤ T ∧ T ≤ nb := by split at hT <;> omega
      obtain ⟨hT1, hT2⟩ := hTb
      have HT := Lib.hid hT
      clear hT
      have hcut := rBytes.cut1 (rSl.keep HR1.out (hbw.mono hz13) (Nat.le_trans hz13 hzw)) hT1 hT2
      obtain ⟨A4, hA4⟩ : ∃ A4, (if cb = a then Ab else Ab.map (·.add a)) = A4 := ⟨_, rfl⟩
      rw [hA4] at hcut
      have HCut := Lib.hid hcut
      clear hcut
      have HLastT : Hid (k + 1 = n2 + 1 → T = nb) := fun h => by
        have h1 := HLast.out (by omega)
        have h2 := HT.out
        rw [if_pos h1] at h2
        omega
      have htn : ((T : Int)).toNat = T := by omega
      have hto : (a : Int) ≤ T := by omega
      have htn2 : (T : Int) ≤ nb := by omega
      have HWay : Hid (x = (nb : Int) → T = nb) := fun h => by have h2 := HT.out; rw [if_pos h] at h2; omega
      have HWay2 : Hid (¬ x = (nb : Int) → (a : Int) + x % ((nb : Int) - a + 1) = T) := fun h => by have h2 := HT.out; rwa [if_neg h] at h2
      by_cases hp : T - a ≤ 2000000
      · obtain ⟨j, held', hfd, hpr⟩ := piece_step HV.out k1 HP.out hT1 (by rw [HFL.out, HNB.out]; exact hT2) hp
        rw [HS.out] at hfd
        have HFD := Lib.hid hfd
        clear hfd
        by_cases hxe : x = (nb : Int)
        · obtain rfl : nb = T := (HWay.out hxe).symm
          subst hxe
          have hxe2 : ((nb : Int) == (nb : Int)) = true := beq_self_eq_true _
          go_upto_region 13 with (go_at_call 27; refine (below_any _ _ _ ⟨by omega, by omega⟩ ⟨by omega, by omega⟩).mono ?_; rintro e w' ⟨rfl, rfl⟩)
          clear g41 g42
          go_wp2_with fail
          refine (feed_any _ _ _ _ _ _ _ _ _ RH.out HCut.out).mono ?_
          rw [HFD.out]
          rintro e w4 ⟨v4, rfl, hb4, A5, c5, A6, c6, rfl, r5, r6, hn5, hn6⟩
          simp only at r5 r6 hn5 hn6 ⊢
          have hb3w4 := hbw.trans (hb4.mono hzw)
          have HM := Lib.hid r5
          have HRe := Lib.hid r6
          have HO4 := Lib.hid (HO.out.keep hb4)
          clear r5 r6
          obtain ⟨Ag, cg, hgv⟩ := HO.out.form
          have hgb : ∀ g, u8.ownBlock = some g → w3.heap.size ≤ g ∧ g < wr.heap.size := HO.out.block
          have HA2 : Hid (∃ v' w', (Builtin.append_ #[33, 33] 33 #[u8, .slice A5 ((l.drop mi).take j).length c5]).run Tryd.prog w4 = .ok v' w' ∧ AppOut 64 5 rMsg (w3.heap.size ≤ ·) w4 w3.heap.size (l.take mi ++ (l.drop mi).take j) u8 v' w') :=
            run_app (c := c5) el_msg HO4.out (ownS.srcS HM.out (by decide) (fun b hb => Nat.le_trans hzw hb) (fun g hg => by have := (hgb g hg).2; omega)) (by unfold maxLen; simp; omega) (by simp; omega) hb3w4.size
          rw [← List.take_add] at HA2
          generalize hlm : ((l.drop mi).take j).length = lm at HA2 hn5 ⊢
          generalize hlh : held'.length = lh at HRe hn6 ⊢
          have HLH := Lib.hid hlh
          clear hlm hlh hgv
          go_wp2_with (at_builtin; go_loud (refine wpList_app_ex rfl _ _ rfl rfl rfl HA2.out ?_); rintro v5 w5 ⟨ho5, hg5, ha5⟩)
          have hb35 : Below w3.heap.size w3 w5 := hb3w4.grown hg5 hb3w4.size (fun g hg => (hgb g hg).1)
          have HRe5 : Hid (rBytes w5 w5.heap.size held' [.slice A6 lh c6]) := ownS.toSl (bts := 1) (HRe.out.move (grown_zero hg5) (fun b hb hx => hg5.block b hb (fun e => by
            rcases hx with hx | hx
            · exact hx
            · have h1 := (HRe.out.block b hx).1
              have h2 := (hgb b e.symm).2
              omega))) (by rw [HLH.out]; omega)
          have HO5 := Lib.hid ho5
          clear ho5 hg5 ha5 HA2 HM HRe hgb
          go_roundw
          case rel => exact ⟨k + 1, mi + j, nb, held', by omega, by go_num, rfl, hT2, hb35, ⟨A6, lh, c6, rfl, HLH.out.symm, HRe5.out⟩, HO5.out, hpr, fun _ => rfl⟩
          case measure => simp [intOf]; omega
        · have hxe2 : (x == (nb : Int)) = false := by rw [beq_eq_false_iff_ne]; exact hxe
          have hT3 := HWay2.out hxe
          clear hxe
          go_upto_region 13 with (go_at_call 27; refine (below_any _ _ _ ⟨by omega, by omega⟩ ⟨by omega, by omega⟩).mono ?_; rintro e w' ⟨rfl, rfl⟩)
          clear hT3 g41 g42
          go_wp2_with fail
          refine (feed_any _ _ _ _ _ _ _ _ _ RH.out HCut.out).mono ?_
          rw [HFD.out]
          rintro e w4 ⟨v4, rfl, hb4, A5, c5, A6, c6, rfl, r5, r6, hn5, hn6⟩
          simp only at r5 r6 hn5 hn6 ⊢
          have hb3w4 := hbw.trans (hb4.mono hzw)
          have HM := Lib.hid r5
          have HRe := Lib.hid r6
          have HO4 := Lib.hid (HO.out.keep hb4)
          clear r5 r6
          obtain ⟨Ag, cg, hgv⟩ := HO.out.form
          have hgb : ∀ g, u8.ownBlock = some g → w3.heap.size ≤ g ∧ g < wr.heap.size := HO.out.block
          have HA2 : Hid (∃ v' w', (Builtin.append_ #[33, 33] 33 #[u8, .slice A5 ((l.drop mi).take j).length c5]).run Tryd.prog w4 = .ok v' w' ∧ AppOut 64 5 rMsg (w3.heap.size ≤ ·) w4 w3.heap.size (l.take mi ++ (l.drop mi).take j) u8 v' w') :=
            run_app (c := c5) el_msg HO4.out (ownS.srcS HM.out (by decide) (fun b hb => Nat.le_trans hzw hb) (fun g hg => by have := (hgb g hg).2; omega)) (by unfold maxLen; simp; omega) (by simp; omega) hb3w4.size
          rw [← List.take_add] at HA2
          generalize hlm : ((l.drop mi).take j).length = lm at HA2 hn5 ⊢
          generalize hlh : held'.length = lh at HRe hn6 ⊢
          have HLH := Lib.hid hlh
          clear hlm hlh hgv
          go_wp2_with (at_builtin; go_loud (refine wpList_app_ex rfl _ _ rfl rfl rfl HA2.out ?_); rintro v5 w5 ⟨ho5, hg5, ha5⟩)
          have hb35 : Below w3.heap.size w3 w5 := hb3w4.grown hg5 hb3w4.size (fun g hg => (hgb g hg).1)
          have HRe5 : Hid (rBytes w5 w5.heap.size held' [.slice A6 lh c6]) := ownS.toSl (bts := 1) (HRe.out.move (grown_zero hg5) (fun b hb hx => hg5.block b hb (fun e => by
            rcases hx with hx | hx
            · exact hx
            · have h1 := (HRe.out.block b hx).1
              have h2 := (hgb b e.symm).2
              omega))) (by rw [HLH.out]; omega)
          have HO5 := Lib.hid ho5
          clear ho5 hg5 ha5 HA2 HM HRe hgb
          go_roundw
          case rel => exact ⟨k + 1, mi + j, T, held', by omega, by go_num, rfl, hT2, hb35, ⟨A6, lh, c6, rfl, HLH.out.symm, HRe5.out⟩, HO5.out, hpr, HLastT.out⟩
          case measure => simp [intOf]; omega
      · have hfd : feed held ((S.drop a).take (T - a)) = ([], [], 0, 2) := by
          have h1 := piece_held HV.out HP.out
          unfold feed
          rw [if_neg (by omega), if_pos (by rw [List.length_take, List.length_drop, HNB.out]; omega)]
        have HFD := Lib.hid hfd
        clear hfd
        by_cases hxe : x = (nb : Int)
        · obtain rfl : nb = T := (HWay.out hxe).symm
          subst hxe
          have hxe2 : ((nb : Int) == (nb : Int)) = true := beq_self_eq_true _
          go_upto_region 13 with (go_at_call 27; refine (below_any _ _ _ ⟨by omega, by omega⟩ ⟨by omega, by omega⟩).mono ?_; rintro e w' ⟨rfl, rfl⟩)
          clear g41 g42
          go_wp2_with fail
          refine (feed_any _ _ _ _ _ _ _ _ _ RH.out HCut.out).mono ?_
          rw [HFD.out]
          rintro e w4 ⟨v4, rfl, hb4, A5, c5, A6, c6, rfl, r5, r6, hn5, hn6⟩
          simp only at r5 r6 hn5 hn6 ⊢
          have hb14 := hbww.trans (hb4.mono hbww.size)
          clear r5 r6
          have hnbig : decide ((nb : Int) > 2000000) = true := by simp; omega
          go_wp2_with (go_at_call 10; refine (awake_any _).mono ?_; rintro e w7 ⟨rfl, hb7⟩)
          go_ret
          exact ⟨rfl, hb14.trans (hb7.mono hb14.size)⟩
        · have hxe2 : (x == (nb : Int)) = false := by rw [beq_eq_false_iff_ne]; exact hxe
          have hT3 := HWay2.out hxe
          clear hxe
          go_upto_region 13 with (go_at_call 27; refine (below_any _ _ _ ⟨by omega, by omega⟩ ⟨by omega, by omega⟩).mono ?_; rintro e w' ⟨rfl, rfl⟩)
          clear hT3 g41 g42
          go_wp2_with fail
          refine (feed_any _ _ _ _ _ _ _ _ _ RH.out HCut.out).mono ?_
          rw [HFD.out]
          rintro e w4 ⟨v4, rfl, hb4, A5, c5, A6, c6, rfl, r5, r6, hn5, hn6⟩
          simp only at r5 r6 hn5 hn6 ⊢
          have hb14 := hbww.trans (hb4.mono hbww.size)
          clear r5 r6
          have hnbig : decide ((nb : Int) > 2000000) = true := by simp; omega
          go_wp2_with (go_at_call 10; refine (awake_any _).mono ?_; rintro e w7 ⟨rfl, hb7⟩)
          go_ret
          exact ⟨rfl, hb14.trans (hb7.mono hb14.size)⟩
    · obtain rfl : k = n2 + 1 := by omega
      have hab := HE.out rfl
      obtain ⟨he1, he2⟩ := piece_end (by have := HP.out; rw [hab, ← HNB.out, ← HFL.out] at this; exact this)
      have hn0 : nh = 0 := by rw [HNH.out, he1]; rfl
      have hgl : l.take mi = l := by rw [he2, List.take_length]
      rw [hgl] at HO
      obtain ⟨Ag, cg, hv⟩ := HO.out.form
      have HG : Hid (rMsgs wr wr.heap.size l [u8]) := ownS.toSl (bts := 64) HO.out (by omega)
      rw [L1.out] at hv
      subst hv
      clear he1 he2 hgl HO hab
      go_wp2_with fail
      refine (sameMessages_same _ _ _ _ _ _ _ (rSl.keep H1.out hbww hbww.size) HG.out).mono ?_
      rintro e w6 ⟨rfl, hb6⟩
      have hb16 := hbww.trans (hb6.mono hbww.size)
      go_wp2_with (go_at_call 10; refine (awake_any _).mono ?_; rintro e w7 ⟨rfl, hb7⟩)
      go_ret
      exact ⟨rfl, hb16.trans (hb7.mono hb16.size)⟩
end Go.Proofs.YteoojplgchlhcaaDoor
