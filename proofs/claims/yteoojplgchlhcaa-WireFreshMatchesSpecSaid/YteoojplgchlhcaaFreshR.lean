/-
  The walk of the reference's Fresh; the law WireFreshMatchesSpec.
-/
import Derived.Test.YteoojplgchlhcaaFresh
namespace Go.Proofs.Yteoojplgchlhcaa
open Go.RowKit
set_option linter.unusedVariables false
set_option linter.unusedSimpArgs false

theorem rSl.take_ {α : Type} {R : Rep α} {w : World} {B sz bts n c k : Nat} {A : Option Addr} {l : List α} (h : rSl sz bts R w B l [.slice A n c]) (hk : k ≤ n) : rSl sz bts R w B (l.take k) [.slice A k c] := by
  have hn := h.len
  obtain ⟨A', c', e, h1, h2, h3, h4⟩ := h
  simp only [List.cons.injEq, Value.slice.injEq, and_true] at e
  obtain ⟨rfl, _, rfl⟩ := e
  have hkl : (l.take k).length = k := by rw [List.length_take]; omega
  have hm : k * bts ≤ n * bts := Nat.mul_le_mul_right _ hk
  refine ⟨A, c, by rw [hkl], by omega, h2, by rw [hkl]; rw [hn] at h3; omega, fun h0 => ?_⟩
  obtain ⟨b, o, hA, hb, hx⟩ := h4 (by omega)
  refine ⟨b, o, hA, hb, fun i x hi => hx i x ?_⟩
  rw [List.getElem?_take] at hi
  split at hi
  · exact hi
  · cases hi

theorem own_keep {w w' : World} {base B : Nat} {e : TypeId} {size n : Nat} {v : Value} {xs : List Value} (h : w.ownsRow base e size v n xs) (hb : Below B w w') (hB : w.heap.size ≤ B) : w'.ownsRow base e size v n xs := by
  obtain ⟨h1, h2⟩ := h
  refine ⟨h1, ?_⟩
  rcases h2 with h2 | ⟨g, cap, cur, hv, hg, hh, r⟩
  · exact .inl h2
  · refine .inr ⟨g, cap, cur, hv, hg, ?_, r⟩
    have hlt : g < w.heap.size := (Array.getElem?_eq_some_iff.1 hh).1
    rw [hb.block g (by omega)]; exact hh
theorem Qt.below {v : Value} {w w' : World} {e : Ending} (h : Qt v w e w') : e = .returned v ∧ Below w.heap.size w w' := by
  obtain ⟨h1, n, rfl⟩ := h
  exact ⟨h1, drewN_below (Below.refl _ _) n⟩

set_option maxHeartbeats 1000000 in
set_option maxRecDepth 100000 in
theorem freshR_any (A1 A2 : Option Addr) (n1 c1 n2 c2 : Nat) (old now : List (List UInt8)) (w : World) (h1 : rPieces w w.heap.size old [.slice A1 n1 c1]) (h2 : rPieces w w.heap.size now [.slice A2 n2 c2]) :
    Calls Try.prog 18 #[.slice A1 n1 c1, .slice A2 n2 c2] w (Ret (PFresh (fresh old now)) w) := by
  have hl1 := h1.len
  have hl2 := h2.len
  have hm1 := h1.le
  have hm2 := h2.le
  have H1 := Lib.hid h1
  have H2 := Lib.hid h2
  have L1 := Lib.hid hl1
  have L2 := Lib.hid hl2
  clear h1 h2 hl1 hl2
  obtain ⟨hm11, hm12, _⟩ := hm1
  obtain ⟨hm21, hm22, _⟩ := hm2
  by_cases hp1 : piecesCode old = 0
  rotate_left
  · have hp1' : (piecesCode old != 0) = true := by simpa using hp1
    have HS : Hid (fresh old now = ([], 0, piecesCode old)) := by unfold fresh; rw [if_pos hp1]; rfl
    clear hp1
    go_enter Try.func18, Try.ntmps18
    go_wp2_with (go_at_call 31; refine (checkPiecesR_any _ _ _ _ _ H1.out).mono ?_; rintro e w' ⟨rfl, rfl⟩)
    go_ret3
    refine ⟨_, rfl, Below.refl _ _, ?_⟩
    rw [HS.out]
    exact PFresh.none_
  have hp1' : (piecesCode old != 0) = false := by simp [hp1]
  by_cases hp2 : piecesCode now = 0
  rotate_left
  · have hp2' : (piecesCode now != 0) = true := by simpa using hp2
    have HS : Hid (fresh old now = ([], 0, piecesCode now)) := by unfold fresh; rw [if_neg (by simp [hp1]), if_pos hp2]; rfl
    clear hp1 hp2
    go_enter Try.func18, Try.ntmps18
    go_wp2_with fail
    refine (checkPiecesR_any _ _ _ _ _ H1.out).mono ?_
    rintro e w' ⟨rfl, rfl⟩
    go_wp2_with fail
    refine (checkPiecesR_any _ _ _ _ _ H2.out).mono ?_
    rintro e w' ⟨rfl, rfl⟩
    go_wp2_with fail
    go_ret3
    refine ⟨_, rfl, Below.refl _ _, ?_⟩
    rw [HS.out]
    exact PFresh.none_
  have hp2' : (piecesCode now != 0) = false := by simp [hp2]
  have HS : Hid (fresh old now = ((freshGo old [] 0 now).1, (freshGo old [] 0 now).2, 0)) := by unfold fresh; rw [if_neg (by simp [hp1]), if_neg (by simp [hp2])]; rfl
  have hk2 := piecesCode_ok hp2
  have hn2 : n2 ≤ 20000 := by rw [← L2.out]; exact hk2.1
  have K2 := Lib.hid hk2.2
  clear hp1 hp2 hk2
  go_enter Try.func18, Try.ntmps18
  go_wp2_with fail
  refine (checkPiecesR_any _ _ _ _ _ H1.out).mono ?_
  rintro e w' ⟨rfl, rfl⟩
  go_wp2_with fail
  refine (checkPiecesR_any _ _ _ _ _ H2.out).mono ?_
  rintro e w' ⟨rfl, rfl⟩
  go_wp2_with fail
  go_loopw [9, 10, 25] (fun v s i wr => ∃ (j : Nat) (xs : List Int) (x : Int), j ≤ n2 ∧ i = .int .i64 j ∧ s = .int .i64 x ∧ 0 ≤ x ∧ x + sumLen (now.drop j) ≤ 2000000 ∧ Below w.heap.size w wr ∧ Hid (∃ (m : Nat), wr.ownsRow w.heap.size 3 1 v m (xs.map (Value.int .i64)) ∧ m ≤ j) ∧
    Hid ((∀ y ∈ xs, 0 ≤ y ∧ y ≤ 20000) ∧ freshGo old [] 0 now = (xs ++ (freshGo old (now.take j) j (now.drop j)).1, x + (freshGo old (now.take j) j (now.drop j)).2))) (fun _ _ i _ => n2 - (intOf i).toNat)
  case atStart => exact ⟨0, [], 0, by omega, rfl, rfl, by omega, by have := K2.out; simpa using this, Below.refl _ _, ⟨0, World.ownsRow_nil _ _ _ _, Nat.le_refl _⟩, ⟨fun _ h => (by cases h), by simp⟩⟩
  case round =>
    obtain ⟨j, xs, x, hj, rfl, rfl, hx0, hx1, hbs, HO, HG⟩ := hrel
    by_cases hlt2 : j < n2
    · obtain ⟨b, o, y, A', m', c', rfl, hb, hy, hc1, hy1⟩ := rPieces_at (rSl.keep H2.out hbs (Nat.le_refl _)) hlt2
      have hyn := hy1.len
      have HT : Hid (now.take j ++ [y] = now.take (j + 1)) := by rw [List.take_add_one, hy]; rfl
      have hsum : sumLen (now.drop j) = m' + sumLen (now.drop (j + 1)) := by rw [drop_of hy, sumLen_cons, hyn]
      have hsn := sumLen_nonneg (now.drop (j + 1))
      have HY := Lib.hid hy
      have hx2 : x + m' + sumLen (now.drop (j + 1)) ≤ 2000000 := by omega
      have hx3 : x + m' ≤ 2000000 := by omega
      have HY1 := Lib.hid hy1
      clear hy hy1 hsum hx1 hyn
      have hbz := hbs.size
      go_wp2_with fail
      refine (has_any _ _ _ _ _ _ _ _ _ _ (rSl.keep H1.out hbs (Nat.le_refl _)) HY1.out).mono ?_
      rintro e w1 hq
      obtain ⟨rfl, hb1⟩ := hq.below
      clear hq
      have hbs1 : Below w.heap.size w w1 := hbs.trans (hb1.mono hbz)
      have HO1 : Hid (∃ (m : Nat), w1.ownsRow w.heap.size 3 1 u9 m (xs.map (Value.int .i64)) ∧ m ≤ j) := by
        obtain ⟨m, h1, h2⟩ := HO.out
        exact ⟨m, own_keep h1 hb1 (Nat.le_refl _), h2⟩
      have hskip : (inOld old y || inOld (now.take j) y) = true → Hid ((∀ y ∈ xs, 0 ≤ y ∧ y ≤ 20000) ∧ freshGo old [] 0 now = (xs ++ (freshGo old (now.take (j + 1)) (j + 1) (now.drop (j + 1))).1, x + (freshGo old (now.take (j + 1)) (j + 1) (now.drop (j + 1))).2)) := by
        intro hin
        refine ⟨HG.out.1, ?_⟩
        rw [HG.out.2, drop_of HY.out, freshGo, if_pos (by unfold inOld at hin; exact hin), HT.out]
      have HSk := Lib.hid hskip
      clear hskip hbs HO hc1
      cases hin1 : inOld old y
      · go_wp2_with fail
        refine (has_any _ _ _ _ _ _ _ _ _ _ (rSl.take_ (rSl.keep H2.out hbs1 hbs1.size) (by omega)) (rSl.keep HY1.out (hb1.mono hbz) hbs1.size)).mono ?_
        rintro e w2 hq
        obtain ⟨rfl, hb2⟩ := hq.below
        clear hq
        have hbs2 : Below w.heap.size w w2 := hbs1.trans (hb2.mono hbs1.size)
        have HO2 : Hid (∃ (m : Nat), w2.ownsRow w.heap.size 3 1 u9 m (xs.map (Value.int .i64)) ∧ m ≤ j) := by
          obtain ⟨m, h1, h2⟩ := HO1.out
          exact ⟨m, own_keep h1 hb2 (Nat.le_refl _), h2⟩
        cases hin2 : inOld (now.take j) y
        · have HG2 : Hid ((∀ y ∈ xs ++ [(j : Int)], 0 ≤ y ∧ y ≤ 20000) ∧ freshGo old [] 0 now = ((xs ++ [(j : Int)]) ++ (freshGo old (now.take (j + 1)) (j + 1) (now.drop (j + 1))).1, (x + m') + (freshGo old (now.take (j + 1)) (j + 1) (now.drop (j + 1))).2)) := by
            have hyn := HY1.out.len
            refine ⟨fun z hz => ?_, ?_⟩
            · rcases List.mem_append.1 hz with hz | hz
              · exact HG.out.1 z hz
              · simp at hz; omega
            · rw [HG.out.2, drop_of HY.out, freshGo, if_neg (by unfold inOld at hin1 hin2; simp at hin1 hin2 ⊢; exact ⟨hin1, hin2⟩), HT.out, hyn]
              simp [Int.add_assoc]
          obtain ⟨m, hown, hmj⟩ := HO2.out
          have hbz2 := hbs2.size
          clear HO2 HO1 HG HSk hb1 hb2 hbs1 HY1
          go_wp2_with (at_builtin; go_loud (refine wpList_append1 el_int rfl _ _ rfl rfl hown rfl rfl rfl (by simp [Value.oneCell']) (by unfold maxLen; omega) (by omega) hbz2 ?_); intro v' w3 ho hbe hzz)
          go_roundw
          case rel => exact ⟨j + 1, xs ++ [(j : Int)], x + m', by omega, by go_num, rfl, by omega, by omega, hbs2.trans hbe, ⟨m + 1, by simpa using ho, by omega⟩, HG2.out⟩
          case measure => simp [intOf]; omega
        · have HG2 := Lib.hid (HSk.out (by simp [hin2]))
          clear HO1 HG HSk hb1 hb2 hbs1 HY1
          go_wp2_with fail
          go_roundw
          case rel =>
            obtain ⟨m, hown, hmj⟩ := HO2.out
            exact ⟨j + 1, xs, x, by omega, by go_num, rfl, by omega, by omega, hbs2, ⟨m, hown, by omega⟩, HG2.out.out⟩
          case measure => simp [intOf]; omega
      · have HG2 := Lib.hid (HSk.out (by simp [hin1]))
        clear HG HSk hb1 HY1
        go_wp2_with fail
        go_roundw
        case rel =>
          obtain ⟨m, hown, hmj⟩ := HO1.out
          exact ⟨j + 1, xs, x, by omega, by go_num, rfl, by omega, by omega, hbs1, ⟨m, hown, by omega⟩, HG2.out.out⟩
        case measure => simp [intOf]; omega
    · obtain rfl : j = n2 := by omega
      have hG : (∀ y ∈ xs, 0 ≤ y ∧ y ≤ 20000) ∧ freshGo old [] 0 now = (xs, x) := by
        refine ⟨HG.out.1, ?_⟩
        have hln := L2.out
        rw [HG.out.2, List.drop_of_length_le (by omega)]
        simp [freshGo]
      have HG2 := Lib.hid hG
      clear HG hG
      go_wp2_with fail
      go_ret3
      refine ⟨_, rfl, hbs, ?_⟩
      rw [HS.out, HG2.out.2]
      obtain ⟨m, hown, hmj⟩ := HO.out
      obtain ⟨A', c', rfl, hres⟩ := rSl.of_ints (bts := 8) hown (Nat.le_refl _) (fun y hy => wf64_of (by have := HG2.out.1 y hy; omega) (by have := HG2.out.1 y hy; omega)) (by omega)
      have hxl := hres.len
      subst hxl
      exact ⟨A', c', rfl, hres⟩

set_option maxHeartbeats 400000 in
theorem freshMatch_any (A1 A2 : Option Addr) (n1 c1 n2 c2 : Nat) (old now : List (List UInt8)) (w : World) (h1 : rPieces w w.heap.size old [.slice A1 n1 c1]) (h2 : rPieces w w.heap.size now [.slice A2 n2 c2]) :
    Calls Try.prog 5 #[.slice A1 n1 c1, .slice A2 n2 c2] w fun e w' => e = .returned (.bool true) ∧ Below w.heap.size w w' := by
  have H1 := Lib.hid h1
  have H2 := Lib.hid h2
  clear h1 h2
  go_enter Try.func5, Try.ntmps5
  go_wp2_with fail
  refine (fresh_any _ _ _ _ _ _ _ _ _ H1.out H2.out).mono ?_
  rintro e w1 ⟨v, rfl, hb1, A3, c3, rfl, hx⟩
  have HX := Lib.hid hx
  clear hx
  go_wp2_with fail
  refine (freshR_any _ _ _ _ _ _ _ _ _ (rSl.keep H1.out hb1 hb1.size) (rSl.keep H2.out hb1 hb1.size)).mono ?_
  rintro e w2 ⟨v, rfl, hb2, A4, c4, rfl, hy⟩
  have HX2 := Lib.hid (rSl.keep HX.out hb2 hb2.size)
  have HY := Lib.hid hy
  have hb : Below w.heap.size w w2 := hb1.trans (hb2.mono hb1.size)
  have e1 : ((fresh old now).2.1 == (fresh old now).2.1) = true := beq_self_eq_true _
  have e2 : ((fresh old now).2.2 == (fresh old now).2.2) = true := beq_self_eq_true _
  clear hy hb1 hb2 HX
  go_wp2_with fail
  refine (equalInts_any _ _ _ _ _ _ _ _ _ _ HX2.out HY.out).mono ?_
  rintro e w3 hq
  obtain ⟨rfl, hb3⟩ := hq.below
  clear hq
  have e3 : decide ((fresh old now).1 = (fresh old now).1) = true := by simp
  go_wp2_with (go_at_call 10; refine (awake_any _).mono ?_; rintro e w5 ⟨rfl, hb5⟩)
  go_ret
  have hbb := hb.trans (hb3.mono hb.size)
  exact ⟨rfl, hbb.trans (hb5.mono hbb.size)⟩
end Go.Proofs.Yteoojplgchlhcaa
