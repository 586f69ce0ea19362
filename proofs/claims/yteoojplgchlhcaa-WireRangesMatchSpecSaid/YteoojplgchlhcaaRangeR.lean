/-
  The walk of the reference's Ranges.
-/
import Derived.Test.YteoojplgchlhcaaJoin
namespace Go.Proofs.Yteoojplgchlhcaa
open Go.RowKit
set_option linter.unusedVariables false
set_option linter.unusedSimpArgs false

def spanOk (m : Int) (x : Span) : Bool := inR x.1 0 m && inR x.2 x.1 m
def had (l : List Span) (i : Nat) : Bool := l.any fun x => decide (x.1 ≤ i) && decide ((i : Int) < x.2)
def ranges (size : Int) (l : List Span) : List Span × Int :=
  if inR size 0 2000000 = false then ([], 1) else if l.length > 20000 then ([], 2) else if l.all (spanOk size) = false then ([], 1) else (runs (had l) size.toNat, 0)
def PSpans (p : List Span × Int) (v : Value) (w' : World) : Prop :=
  ∃ A c, v = .tuple #[.slice A p.1.length c, .int .i64 p.2] ∧ rSpans w' w'.heap.size p.1 [.slice A p.1.length c]
theorem PSpans.none_ {code : Int} {w' : World} : PSpans ([], code) (.tuple #[.slice none 0 0, .int .i64 code]) w' := ⟨none, 0, rfl, rSl.nil_⟩
theorem withinR_any (a l h : Int) (w : World) :
    Calls Try.prog 29 #[.int .i64 a, .int .i64 l, .int .i64 h] w fun e w' => e = .returned (.bool (inR a l h)) ∧ w = w' := by
  go_enter Try.func29, Try.ntmps29
  go_wp2
  all_goals go_ret
  all_goals exact ⟨by simp [inR, *] <;> omega, rfl⟩
/-- The cells of a row of bools. -/
def boolCells (m : Nat) (f : Nat → Bool) : List Value := (List.range m).map fun i => .bool (f i)
theorem boolCells_get {m k : Nat} {f : Nat → Bool} (hk : k < m) : (boolCells m f)[k]? = some (.bool (f k)) := by simp [boolCells, hk]
theorem boolCells_set {m k : Nat} {f g : Nat → Bool} (h : ∀ i, i < m → g i = if i = k then true else f i) : (boolCells m f).set k (.bool true) = boolCells m g := by
  apply List.ext_getElem?
  intro i
  rw [List.getElem?_set]
  by_cases hi : i < m
  · rw [boolCells_get hi, boolCells_get hi, h i hi]
    by_cases hik : k = i
    · subst hik; simp [boolCells, hi]
    · rw [if_neg hik, if_neg (fun e => hik e.symm)]
  · have e1 : (boolCells m f)[i]? = none := List.getElem?_eq_none (by simp [boolCells]; omega)
    have e2 : (boolCells m g)[i]? = none := List.getElem?_eq_none (by simp [boolCells]; omega)
    rw [e1, e2]
    split
    · rw [if_neg (by simp [boolCells]; omega)]
    · rfl
theorem boolCells_false (m : Nat) : boolCells m (fun _ => false) = List.replicate m (.bool false) := by
  apply List.ext_getElem?
  intro i
  by_cases hi : i < m
  · rw [boolCells_get hi]; simp [hi]
  · rw [List.getElem?_eq_none (by simp [boolCells]; omega), List.getElem?_eq_none (by simp; omega)]
theorem boolCells_congr {m : Nat} {f g : Nat → Bool} (h : ∀ i, i < m → f i = g i) : boolCells m f = boolCells m g := by
  unfold boolCells
  exact List.map_congr_left fun i hi => by rw [h i (List.mem_range.1 hi)]
theorem runs_len (f : Nat → Bool) (n : Nat) : (runs f n).length ≤ n := by
  induction n with
  | zero => simp [runs]
  | succ n ih =>
    rw [runs]
    split
    · omega
    · split
      · simp; omega
      · split
        · simp; omega
        · simp; omega
theorem runs_wf {f : Nat → Bool} {n : Nat} (hn : n ≤ 2000000) : ∀ x ∈ runs f n, 0 ≤ x.1 ∧ x.1 < x.2 ∧ x.2 ≤ 2000000 := by
  intro x hx
  obtain ⟨h1, h2, h3⟩ := runs_spec f n
  have a := h2 x hx
  have b : x.1 < x.2 := by
    have : ∀ (l : List Span), Norm l → ∀ x ∈ l, x.1 < x.2 := by
      intro l
      induction l with
      | nil => intro _ x hx; cases hx
      | cons s r ih =>
        intro hn x hx
        rcases List.mem_cons.1 hx with rfl | hx
        · exact hn.head
        · exact ih hn.tail x hx
    exact this _ h1 x hx
  obtain ⟨k, hk, _⟩ := (h3 x.1).1 ⟨x, hx, by omega, b⟩
  omega
theorem runs_congr {f g : Nat → Bool} : ∀ {n : Nat}, (∀ i, i < n → f i = g i) → runs f n = runs g n := by
  intro n
  induction n with
  | zero => intro _; rfl
  | succ n ih => intro h; rw [runs, runs, ih (fun i hi => h i (by omega)), h n (by omega)]
theorem take_snoc' {α : Type} {l : List α} {k : Nat} {x : α} (h : l[k]? = some x) : l.take (k + 1) = l.take k ++ [x] := by rw [List.take_add_one, h]; rfl
theorem had_snoc (l : List Span) (x : Span) (i : Nat) : had (l ++ [x]) i = (had l i || (decide (x.1 ≤ i) && decide ((i : Int) < x.2))) := by simp [had]

set_option maxHeartbeats 8000000 in
set_option maxRecDepth 100000 in
theorem rangesR_any (size : Int) (A : Option Addr) (n c : Nat) (l : List Span) (w : World) (hR : rSpans w w.heap.size l [.slice A n c]) :
    Calls Try.prog 25 #[.int .i64 size, .slice A n c] w (Ret (PSpans (ranges size l)) w) := by
  have hln := hR.len
  have hcm := hR.le
  have HR := Lib.hid hR
  have HL := Lib.hid hln
  clear hR hln
  obtain ⟨hcm1, hcm2, _⟩ := hcm
  cases hsz : inR size 0 2000000
  · have HF : Hid (ranges size l = ([], 1)) := by unfold ranges; rw [if_pos hsz]; rfl
    go_enter Try.func25, Try.ntmps25
    go_wp2_with (go_at_call 29; refine (withinR_any _ _ _ _).mono ?_; rintro e w' ⟨rfl, rfl⟩)
    go_ret2
    refine ⟨_, rfl, Below.refl _ _, ?_⟩
    rw [HF.out]
    exact PSpans.none_
  by_cases hg : n > 20000
  · have hg' : decide ((n : Int) > 20000) = true := by simp; omega
    have HF : Hid (ranges size l = ([], 2)) := by unfold ranges; rw [if_neg (by simp [hsz]), if_pos (by rw [HL.out]; exact hg)]; rfl
    go_enter Try.func25, Try.ntmps25
    go_wp2_with (go_at_call 29; refine (withinR_any _ _ _ _).mono ?_; rintro e w' ⟨rfl, rfl⟩)
    go_ret2
    refine ⟨_, rfl, Below.refl _ _, ?_⟩
    rw [HF.out]
    exact PSpans.none_
  have hg' : decide ((n : Int) > 20000) = false := by simp; omega
  have hsz2 : 0 ≤ size ∧ size ≤ 2000000 := by simpa [inR] using hsz
  obtain ⟨m, rfl⟩ := Int.eq_ofNat_of_zero_le hsz2.1
  have hm : m ≤ 2000000 := by omega
  have HF0 : Hid (ranges (m : Int) l = if l.all (spanOk m) = false then ([], 1) else (runs (had l) m, 0)) := by
    unfold ranges; rw [if_neg (by simp [hsz]), if_neg (by rw [HL.out]; exact hg), Int.toNat_natCast]; rfl
  clear hsz2
  have hmk1 : ∀ u : World, (Instr.makeSlice 64 (.int .i64 (m : Int)) (.int .i64 (m : Int))).run Try.prog u = .ok (.slice (some ⟨u.heap.size, 0, none⟩) m m) (u.alloc (.cells (madeCells #[.bool false] m) 4)) := fun u => by
    obtain ⟨i0, hi, h1, h2, h3⟩ := info_parts (P := Try.prog) (e := 4) (z := .bool false) (size := 1) (bytes := 1) (by kernel_rfl)
    have h := run_make (P := Try.prog) u 64 4 i0 (.bool false) Try.underlying64 hi h1 .i64 .i64 (m : Int) (m : Int) (by omega) (Int.le_refl _) (by rw [h3]; omega) (by omega)
    rw [h2, Int.toNat_natCast, Nat.mul_one] at h
    exact h
  go_enter Try.func25, Try.ntmps25
  go_wp2_with (go_at_call 29; refine (withinR_any _ _ _ _).mono ?_; rintro e w' ⟨rfl, rfl⟩)
  have HB0 : Hid (blk (w.alloc (.cells (madeCells #[.bool false] m) 4)) w.heap.size 4 (boolCells m fun _ => false)) := blk_new (boolCells_false m)
  clear hmk1
  go_loopw [25] (fun i wr => ∃ k : Nat, k ≤ n ∧ i = .int .i64 k ∧ Below w.heap.size w wr ∧ Hid (blk wr w.heap.size 4 (boolCells m fun _ => false)) ∧ Hid ((l.take k).all (spanOk m) = true)) (fun i _ => n - (intOf i).toNat)
  case atStart => exact ⟨0, by omega, rfl, (Below.refl _ _).alloc (Nat.le_refl _) _, HB0.out, rfl⟩
  case round =>
    obtain ⟨k, hk, rfl, hbw, HB, HG⟩ := hrel
    clear HB0
    have hzw := hbw.size
    by_cases hlt : k < n
    · obtain ⟨b, o, x, rfl, hb, hx, p0, p1, hx1, hx2⟩ := rSpans_at (rSl.keep HR.out hbw hzw) hlt
      have HX := Lib.hid hx
      clear hx
      cases h1 : spanOk m x
      · have HF : Hid (ranges (m : Int) l = ([], 1)) := by rw [HF0.out, if_pos (all_false HX.out h1)]; rfl
        unfold spanOk at h1
        go_wp2_with (go_at_call 29; refine (withinR_any _ _ _ _).mono ?_; rintro e w' ⟨rfl, rfl⟩)
        all_goals first
          | (go_ret2
             refine ⟨_, rfl, hbw.alloc hzw _, ?_⟩
             rw [HF.out]
             exact PSpans.none_)
          | (exfalso; simp_all; done)
      · have hok := h1
        unfold spanOk at h1
        rw [Bool.and_eq_true] at h1
        obtain ⟨h11, h12⟩ := h1
        go_wp2_with (go_at_call 29; refine (withinR_any _ _ _ _).mono ?_; rintro e w' ⟨rfl, rfl⟩)
        go_roundw
        case rel => exact ⟨k + 1, by omega, by go_num, hbw.alloc hzw _, HB.out.alloc _, by show _ = true; rw [all_take_succ HX.out, HG.out, hok]; rfl⟩
        case measure => simp [intOf]; omega
    · obtain rfl : k = n := by omega
      have HV : Hid (l.all (spanOk m) = true) := by have h := HG.out; rw [List.take_of_length_le (by rw [HL.out]; exact Nat.le_refl _)] at h; exact h
      have HF : Hid (ranges (m : Int) l = (runs (had l) m, 0)) := by rw [HF0.out, if_neg (by rw [HV.out]; simp)]; rfl
      clear HG HF0
      go_wp2_with fail
      obtain ⟨wo, rfl⟩ : ∃ wo : World, wo = wr := ⟨_, rfl⟩
      go_loopw [46] (fun i wr => ∃ j : Nat, j ≤ k ∧ i = .int .i64 j ∧ Below w.heap.size w wr ∧ Hid (blk wr w.heap.size 4 (boolCells m (had (l.take j))))) (fun i _ => k - (intOf i).toNat)
      case atStart => exact ⟨0, by omega, rfl, hbw, HB.out⟩
      case round =>
        obtain ⟨j, hj, rfl, hbw, HB⟩ := hrel
        have hzw := hbw.size
        have hzl := HB.out.lt
        by_cases hlt2 : j < k
        · obtain ⟨b, o, x, rfl, hb, hx, p0, p1, hx1, hx2⟩ := rSpans_at (rSl.keep HR.out hbw hzw) hlt2
          have hok := List.all_eq_true.1 HV.out x (List.mem_of_getElem? hx)
          have hxx : (0 ≤ x.1 ∧ x.1 ≤ m) ∧ x.1 ≤ x.2 ∧ x.2 ≤ m := by simpa [spanOk, inR] using hok
          have HX := Lib.hid (take_snoc' hx)
          obtain ⟨F, T⟩ := x
          simp only at hxx p0 p1 hx1 hx2
          obtain ⟨⟨x1, x2⟩, x3, x4⟩ := hxx
          obtain ⟨F, rfl⟩ := Int.eq_ofNat_of_zero_le x1
          obtain ⟨T, rfl⟩ := Int.eq_ofNat_of_zero_le (show 0 ≤ T by omega)
          have hFT : F ≤ T := by omega
          have hTm : T ≤ m := by omega
          clear hx hok x1 x2 x3 x4 hx1 hx2
          have HBx := Lib.hid (HB.out.alloc (.cells #[.int .i64 (F : Int), .int .i64 (T : Int)] 55))
          have hxb : Hid (blk (wr.alloc (.cells #[.int .i64 (F : Int), .int .i64 (T : Int)] 55)) wr.heap.size 55 [.int .i64 (F : Int), .int .i64 (T : Int)]) := blk_allocA rfl
          have hbx := hbw.alloc hzw (.cells #[.int .i64 (F : Int), .int .i64 (T : Int)] 55)
          have HB1 : Hid (blk (wr.alloc (.cells #[.int .i64 (F : Int), .int .i64 (T : Int)] 55)) w.heap.size 4 (boolCells m fun i => had (l.take j) i || (decide ((F : Int) ≤ i) && decide ((i : Int) < (F : Nat))))) := by
            rw [boolCells_congr (g := had (l.take j)) (fun i _ => by
              rw [show (decide ((F : Int) ≤ i) && decide ((i : Int) < (F : Nat))) = false by simp <;> omega, Bool.or_false])]
            exact HBx.out
          go_wp2_with fail
          obtain ⟨wm, rfl⟩ : ∃ wm : World, wm = wr := ⟨_, rfl⟩
          go_loopw [11] (fun iv wr => ∃ q : Nat, iv = .int .i64 q ∧ F ≤ q ∧ q ≤ T ∧ Below w.heap.size w wr ∧ Hid (blk wr wm.heap.size 55 [.int .i64 (F : Int), .int .i64 (T : Int)]) ∧ Hid (blk wr w.heap.size 4 (boolCells m fun i => had (l.take j) i || (decide ((F : Int) ≤ i) && decide ((i : Int) < (q : Nat)))))) (fun iv _ => T - (intOf iv).toNat)
          case atStart => exact ⟨F, rfl, Nat.le_refl _, hFT, hbx, hxb.out, HB1.out⟩
          case round =>
            obtain ⟨q, rfl, hq1, hq2, hbr, hxr, HBr⟩ := hrel
            clear HB1 hxb hbx HBx HB
            have hxc : ∀ i, wr.cell? ⟨wm.heap.size, i, none⟩ = ([.int .i64 (F : Int), .int .i64 (T : Int)] : List Value)[i]? := fun i => hxr.out.cell i
            by_cases hlt3 : q < T
            · have hcq : wr.cell? ⟨w.heap.size, q, none⟩ = some (.bool (had (l.take j) q || (decide ((F : Int) ≤ q) && decide ((q : Int) < (q : Nat))))) := by
                rw [HBr.out.cell, boolCells_get (by omega)]
              have hfq := HBr.out.free q
              have hne : w.heap.size ≠ wm.heap.size := by omega
              obtain ⟨bv, hbv⟩ : ∃ bv, (had (l.take j) q || (decide ((F : Int) ≤ q) && decide ((q : Int) < (q : Nat)))) = bv := ⟨_, rfl⟩
              rw [hbv] at hcq
              have HBS : Hid (blk (wr.setCell ⟨w.heap.size, q, none⟩ (.bool true)) w.heap.size 4 (boolCells m fun i => had (l.take j) i || (decide ((F : Int) ≤ i) && decide ((i : Int) < (q + 1 : Nat))))) := by
                have h := HBr.out.set_ q (.bool true)
                rw [boolCells_set (g := fun i => had (l.take j) i || (decide ((F : Int) ≤ i) && decide ((i : Int) < (q + 1 : Nat)))) (fun i hi => by
                  by_cases hik : i = q
                  · subst hik; rw [if_pos rfl, show decide ((F : Int) ≤ i) = true by simp; omega, show decide ((i : Int) < (i + 1 : Nat)) = true by simp; omega]; simp
                  · rw [if_neg hik, show decide ((i : Int) < (q + 1 : Nat)) = decide ((i : Int) < (q : Nat)) by rw [decide_eq_decide]; omega])] at h
                exact h
              have hxs := Lib.hid (hxr.out.far (p := ⟨w.heap.size, q, none⟩) (fun e => hne e.symm) (.bool true))
              have hbs := hbr.setCell (p := ⟨w.heap.size, q, none⟩) (Nat.le_refl _) (.bool true)
              clear hbv
              go_wp2_with fail
              go_roundw
              case rel => exact ⟨q + 1, by go_num, by omega, by omega, hbs, hxs.out, HBS.out⟩
              case measure => simp [intOf]; omega
            · obtain rfl : q = T := by omega
              have HBE : Hid (blk wr w.heap.size 4 (boolCells m (had (l.take (j + 1))))) := by
                rw [HX.out, boolCells_congr (fun i _ => had_snoc (l.take j) ((F : Int), (q : Int)) i)]
                exact HBr.out
              go_wp2_with fail
              go_roundw
              case rel => exact ⟨j + 1, by omega, by go_num, hbr, HBE.out⟩
              case measure => simp [intOf]; omega
        · obtain rfl : j = k := by omega
          have HBh : Hid (blk wr w.heap.size 4 (boolCells m (had l))) := by have h := HB.out; rw [List.take_of_length_le (by rw [HL.out]; exact Nat.le_refl _)] at h; exact h
          clear HB
          generalize had l = has at HBh HF
          go_wp2_with fail
          obtain ⟨wm, rfl⟩ : ∃ wm : World, wm = wr := ⟨_, rfl⟩
          go_loopw [12, 13] (fun v i wr => ∃ q : Nat, i = .int .i64 q ∧ q ≤ m ∧ Below w.heap.size w wr ∧ wm.heap.size ≤ wr.heap.size ∧ Hid (blk wr w.heap.size 4 (boolCells m has)) ∧ Hid (ownSp wr wm.heap.size (runs has q) v)) (fun _ i _ => m - (intOf i).toNat)
          case atStart => exact ⟨0, rfl, by omega, hbw, Nat.le_refl _, HBh.out, ownSp.nil_⟩
          case round =>
            obtain ⟨q, rfl, hq, hbr, hzr, HBr, HO⟩ := hrel
            clear HBh
            by_cases hlt3 : q < m
            · have hcq : wr.cell? ⟨w.heap.size, q, none⟩ = some (.bool (has q)) := by rw [HBr.out.cell, boolCells_get hlt3]
              cases hh : has q
              · rw [hh] at hcq
                have hrn := runs_len has q
                have hwf := runs_wf (f := has) (n := q) (by omega)
                have hrs : runs has (q + 1) = match (runs has q).getLast? with
                  | none => runs has q ++ [((q : Int), (q : Int) + 1)]
                  | some y => if y.2 = q then (runs has q).dropLast ++ [(y.1, (q : Int) + 1)] else runs has q ++ [((q : Int), (q : Int) + 1)] := by rw [runs, if_neg (by simp [hh])]; rfl
                have HRS := Lib.hid hrs
                clear hrs
                generalize hR0 : runs has q = rs at HO HRS hrn hwf
                have HR0 := Lib.hid hR0
                clear hR0
                rcases List.eq_nil_or_concat rs with rfl | ⟨p, y, rfl⟩
                · have HN : Hid (runs has (q + 1) = [] ++ [((q : Int), (q : Int) + 1)]) := by rw [HRS.out]; rfl
                  obtain ⟨A1, c1, hv⟩ := own_slice HO.out.1
                  simp only [List.length_nil] at hv
                  subst hv
                  have HA : Hid (∃ v' w', (Builtin.append_ #[51, 51] 51 #[.slice A1 0 c1, .slice (some ⟨wr.heap.size, 0, none⟩) 1 1]).run Try.prog (wr.alloc (.cells #[.int .i64 (q : Int), .int .i64 ((q : Int) + 1)] 55)) = .ok v' w' ∧ AppOut 55 2 rSpan (fun _ => False) (wr.alloc (.cells #[.int .i64 (q : Int), .int .i64 ((q : Int) + 1)] 55)) wm.heap.size (([] : List Span) ++ [((q : Int), (q : Int) + 1)]) (.slice A1 0 c1) v' w') :=
                    run_app el_span (HO.out.toS.keep ((Below.refl _ _).alloc (Nat.le_refl _) _)) (SrcS.block (c := 0) (heap_alloc_new wr _) rfl (by simp [Value.oneCell']) (Held.of_pure (w := w) (B := 0) ⟨[.int .i64 (q : Int)], [.int .i64 ((q : Int) + 1)], rfl, ⟨rfl, wf64_of (by omega) (by omega)⟩, ⟨rfl, wf64_of (by omega) (by omega)⟩⟩)) (by unfold maxLen; simp <;> omega) (by simp <;> omega) (by simp; omega)
                  have hbo : ∀ g, (.slice A1 0 c1 : Value).ownBlock = some g → wm.heap.size ≤ g := fun g e => (HO.out.1.lt g e).1
                  have hbra := hbr.alloc hbr.size (.cells #[.int .i64 (q : Int), .int .i64 ((q : Int) + 1)] 55)
                  have HBa := Lib.hid (HBr.out.alloc (.cells #[.int .i64 (q : Int), .int .i64 ((q : Int) + 1)] 55))
                  have hzl2 : w.heap.size < (wr.alloc (.cells #[.int .i64 (q : Int), .int .i64 ((q : Int) + 1)] 55)).heap.size := HBa.out.lt
                  go_wp2_with (at_builtin; go_loud (refine wpList_app_ex rfl _ _ rfl rfl rfl HA.out ?_); rintro v3 w3 ⟨ho3, hg3, ha3⟩)
                  have hb3 : Below w.heap.size w w3 := hbra.grown hg3 hbra.size (fun gg e => Nat.le_trans hzw (hbo gg e))
                  have HB3 : Hid (blk w3 w.heap.size 4 (boolCells m has)) := (hg3.block _ hzl2 (fun e => by have := hbo _ e.symm; omega)).trans HBa.out
                  have HO3 := Lib.hid (ownSp.of_S ho3)
                  have hz3 := hg3.size
                  simp only [World.size_alloc] at hz3
                  clear ho3 hg3 ha3 HA HBa
                  go_roundw
                  case rel => exact ⟨q + 1, by go_num, by omega, hb3, by omega, HB3.out, by rw [HN.out]; exact HO3.out⟩
                  case measure => simp [intOf]; omega
                · rw [List.concat_eq_append] at HO HRS hrn hwf
                  obtain ⟨g, cap, hv, hg1, hg2⟩ := HO.out.1.form (by simp)
                  simp only [List.length_append, List.length_cons, List.length_nil, Nat.zero_add] at hv
                  subst hv
                  have hpl : p.length + 1 ≤ q := by simpa using hrn
                  have hown := HO.out.1
                  rw [List.length_append] at hown
                  have hcy : wr.cell? ⟨g, p.length * 2 + 1, none⟩ = some (.int .i64 y.2) := by
                    rw [hown.cellAt (p.length * 2 + 1) (by first | omega | (simp; omega))]
                    exact (encS_get (p ++ [y]) p.length y (by simp)).2
                  have hfy := hown.frozenAt (p.length * 2 + 1)
                  have hyw := hwf y (by simp)
                  have HOw := Lib.hid hown
                  clear hown hwf hrn
                  have e1 : (0 : Int) ≤ (p.length : Int) := by omega
                  have e2 : ((p.length : Int)).toNat = p.length := by omega
                  have e3 : (p.length : Int) < (p.length : Int) + 1 := by omega
                  by_cases hy : y.2 = q
                  · have hy' : (y.2 == (q : Int)) = true := by simpa using hy
                    have HN : Hid (runs has (q + 1) = p ++ [(y.1, (q : Int) + 1)]) := by
                      rw [HRS.out]
                      simp [hy, Hid]
                    clear hy
                    have hst : ownSp (wr.setCell ⟨g, p.length * 2 + 1, none⟩ (.int .i64 ((q : Int) + 1))) wm.heap.size (p ++ [(y.1, (q : Int) + 1)]) (.slice (some ⟨g, 0, none⟩) (p.length + 1) cap) := by
                      obtain ⟨s1, s2⟩ := World.ownsRow.stored HOw.out (p.length * 2 + 1) (.int .i64 ((q : Int) + 1))
                      rw [encS_set] at s1
                      refine ⟨by rw [List.length_append]; exact s1, fun z hz => ?_⟩
                      rcases List.mem_append.1 hz with hz | hz
                      · exact HO.out.2 z (by simp [hz])
                      · simp at hz; subst hz; exact ⟨by simp only; omega, by simp only; omega⟩
                    have hb3 : Below w.heap.size w (wr.setCell ⟨g, p.length * 2 + 1, none⟩ (.int .i64 ((q : Int) + 1))) := hbr.setCell (Nat.le_trans hzw hg1) _
                    have hgl : w.heap.size ≠ g := by omega
                    have HB3 := Lib.hid (HBr.out.far (p := ⟨g, p.length * 2 + 1, none⟩) hgl (.int .i64 ((q : Int) + 1)))
                    have HO3 := Lib.hid hst
                    clear hst HOw
                    go_wp2_with fail
                    go_roundw
                    case rel => exact ⟨q + 1, by go_num, by omega, hb3, by simpa using hzr, HB3.out, by rw [HN.out]; exact HO3.out⟩
                    case measure => simp [intOf]; omega
                  · have hy' : (y.2 == (q : Int)) = false := by simpa using hy
                    have HN : Hid (runs has (q + 1) = (p ++ [y]) ++ [((q : Int), (q : Int) + 1)]) := by
                      rw [HRS.out]
                      simp [hy, Hid]
                    clear hy
                    have HA : Hid (∃ v' w', (Builtin.append_ #[51, 51] 51 #[.slice (some ⟨g, 0, none⟩) (p.length + 1) cap, .slice (some ⟨wr.heap.size, 0, none⟩) 1 1]).run Try.prog (wr.alloc (.cells #[.int .i64 (q : Int), .int .i64 ((q : Int) + 1)] 55)) = .ok v' w' ∧ AppOut 55 2 rSpan (fun _ => False) (wr.alloc (.cells #[.int .i64 (q : Int), .int .i64 ((q : Int) + 1)] 55)) wm.heap.size ((p ++ [y]) ++ [((q : Int), (q : Int) + 1)]) (.slice (some ⟨g, 0, none⟩) (p.length + 1) cap) v' w') :=
                      run_app el_span (HO.out.toS.keep ((Below.refl _ _).alloc (Nat.le_refl _) _)) (SrcS.block (c := 0) (heap_alloc_new wr _) rfl (by simp [Value.oneCell']) (Held.of_pure (w := w) (B := 0) ⟨[.int .i64 (q : Int)], [.int .i64 ((q : Int) + 1)], rfl, ⟨rfl, wf64_of (by omega) (by omega)⟩, ⟨rfl, wf64_of (by omega) (by omega)⟩⟩)) (by unfold maxLen; simp <;> omega) (by simp <;> omega) (by simp; omega)
                    have hbo : ∀ gg, (.slice (some ⟨g, 0, none⟩) (p.length + 1) cap : Value).ownBlock = some gg → wm.heap.size ≤ gg := fun gg e => (HO.out.1.lt gg e).1
                    have hbra := hbr.alloc hbr.size (.cells #[.int .i64 (q : Int), .int .i64 ((q : Int) + 1)] 55)
                    have HBa := Lib.hid (HBr.out.alloc (.cells #[.int .i64 (q : Int), .int .i64 ((q : Int) + 1)] 55))
                    have hzl2 : w.heap.size < (wr.alloc (.cells #[.int .i64 (q : Int), .int .i64 ((q : Int) + 1)] 55)).heap.size := HBa.out.lt
                    go_wp2_with (at_builtin; go_loud (refine wpList_app_ex rfl _ _ rfl rfl rfl HA.out ?_); rintro v3 w3 ⟨ho3, hg3, ha3⟩)
                    have hb3 : Below w.heap.size w w3 := hbra.grown hg3 hbra.size (fun gg e => Nat.le_trans hzw (hbo gg e))
                    have HB3 : Hid (blk w3 w.heap.size 4 (boolCells m has)) := (hg3.block _ hzl2 (fun e => by have := hbo _ e.symm; omega)).trans HBa.out
                    have HO3 := Lib.hid (ownSp.of_S ho3)
                    have hz3 := hg3.size
                    simp only [World.size_alloc] at hz3
                    clear ho3 hg3 ha3 HA HBa
                    go_roundw
                    case rel => exact ⟨q + 1, by go_num, by omega, hb3, by omega, HB3.out, by rw [HN.out]; exact HO3.out⟩
                    case measure => simp [intOf]; omega
              · rw [hh] at hcq
                have HN : Hid (runs has (q + 1) = runs has q) := by rw [runs, if_pos hh]; rfl
                go_wp2_with fail
                go_roundw
                case rel => exact ⟨q + 1, by go_num, by omega, hbr, hzr, HBr.out, by rw [HN.out]; exact HO.out⟩
                case measure => simp [intOf]; omega
            · obtain rfl : q = m := by omega
              obtain ⟨A3, c3, hv⟩ := own_slice HO.out.1
              have hrl := runs_len has q
              have HRes := Lib.hid (HO.out.toSl (by omega))
              subst hv
              generalize runs has q = rs at HRes hrl HF
              clear HO
              go_wp2_with fail
              go_ret2
              refine ⟨_, rfl, hbr, ?_⟩
              rw [HF.out]
              exact ⟨A3, c3, rfl, HRes.out⟩
end Go.Proofs.Yteoojplgchlhcaa
