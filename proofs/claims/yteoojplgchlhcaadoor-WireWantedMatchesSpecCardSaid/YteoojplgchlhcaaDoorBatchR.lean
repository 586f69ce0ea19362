/-
  The walk of the reference's Batches.
-/
import Derived.Test.YteoojplgchlhcaaDoorBatch
namespace Go.Proofs.YteoojplgchlhcaaDoor
open Go.RowKit
set_option linter.unusedVariables false
set_option linter.unusedSimpArgs false

theorem grown_of_alloc2 {w w' : World} {row : Option Nat} {o o2 : Obj} (h : ((w.alloc o).alloc o2).drew.grownBy w' row) : w.grownBy w' row :=
  ⟨h.os, h.tape, h.output, by have := h.size; simp at this; omega, fun k hk hne => (h.block k (by simp; omega) hne).trans ((heap_alloc_old (w.alloc o) o2 (by simp; omega)).trans (heap_alloc_old w o hk))⟩
theorem heap_alloc_new2 (w : World) (o o2 : Obj) : ((w.alloc o).alloc o2).heap[w.heap.size + 1]? = some o2 := by
  have := heap_alloc_new (w.alloc o) o2
  simpa using this
/-- A new row with one element, laid ahead of the outer append. -/
theorem allRows.fresh {w w' : World} {base g1 : Nat} {rows : List (List ByteArray)} {vals : List Value} {v v' : Value} {d : ByteArray} (h : allRows w base w.heap.size rows vals) (hv : w.ownsRow base 28 1 v rows.length vals) (hg : w.grownBy w' v.ownBlock)
    (hv' : w'.ownsRow base 28 1 v' (rows.length + 1) (vals ++ [.slice (some ⟨g1, 0, none⟩) 1 1])) (hb : base ≤ w.heap.size) (h1 : w'.heap[g1]? = some (.cells #[.string d] 9 (0, 0))) (h2 : w.heap.size ≤ g1) (hd : d.size ≤ 140737488355328) :
    rows2 w' base rows [d] v' vals (.slice (some ⟨g1, 0, none⟩) 1 1) w.heap.size := by
  refine ⟨hv', ?_, ?_, hb, hg.size, by simp [rowOk, hd], ⟩
  · have h1 := h.keptO hg hv (by decide)
    refine ⟨h1.1, fun i r hr => ?_⟩
    obtain ⟨ho, q, hq, hown, hb⟩ := h1.2 i r hr
    exact ⟨ho, q, hq, hown, hb⟩
  · exact ⟨rfl, .inr ⟨g1, 1, #[.string d], rfl, h2, h1, by simp, by decide, by simp, by simp [strs]⟩⟩

set_option maxHeartbeats 20000000 in
set_option maxRecDepth 100000 in
theorem batchesR_any (A : Option Addr) (n c : Nat) (l : List (ByteArray × Int)) (most many : Int) (w : World) (hR : rSized w w.heap.size l [.slice A n c]) :
    Calls Tryd.prog 19 #[.slice A n c, .int .i64 most, .int .i64 many] w (Ret (PRows (batches l most many)) w) := by
  have hln := hR.len
  have HR := Lib.hid hR
  have HL := Lib.hid hln
  have hcm := hR.le
  clear hR hln
  obtain ⟨hcm1, hcm2, _⟩ := hcm
  by_cases h0 : sizeCode l = 0
  rotate_left
  · have h0' : (sizeCode l != 0) = true := by simpa using h0
    have HS : Hid (batches l most many = ([], sizeCode l)) := by unfold batches; rw [if_pos h0]; rfl
    clear h0
    go_enter Tryd.func19, Tryd.ntmps19
    go_wp2_with (go_at_call 17; refine (checkSizesR_any _ _ _ _ _ HR.out).mono ?_; rintro e w1 ⟨rfl, hb1⟩)
    go_ret2
    refine ⟨_, rfl, hb1, ?_⟩
    rw [HS.out]
    exact PRows.none_
  have h0' : (sizeCode l != 0) = false := by simp [h0]
  cases hmo : inR most 1 2000000
  · have HS : Hid (batches l most many = ([], 1)) := by unfold batches; rw [if_neg (by simp [h0]), if_pos hmo]; rfl
    clear h0
    go_enter Tryd.func19, Tryd.ntmps19
    go_wp2_with fail
    refine (checkSizesR_any _ _ _ _ _ HR.out).mono ?_
    rintro e w1 ⟨rfl, hb1⟩
    go_wp2_with (go_at_call 33; refine (withinR_any _ _ _ _).mono ?_; rintro e w' ⟨rfl, rfl⟩)
    go_ret2
    refine ⟨_, rfl, hb1, ?_⟩
    rw [HS.out]
    exact PRows.none_
  cases hma : inR many 1 4000
  · have HS : Hid (batches l most many = ([], 1)) := by unfold batches; rw [if_neg (by simp [h0]), if_neg (by simp [hmo]), if_pos hma]; rfl
    clear h0
    go_enter Tryd.func19, Tryd.ntmps19
    go_wp2_with fail
    refine (checkSizesR_any _ _ _ _ _ HR.out).mono ?_
    rintro e w1 ⟨rfl, hb1⟩
    go_wp2_with (go_at_call 33; refine (withinR_any _ _ _ _).mono ?_; rintro e w' ⟨rfl, rfl⟩)
    go_ret2
    refine ⟨_, rfl, hb1, ?_⟩
    rw [HS.out]
    exact PRows.none_
  have HS : Hid (batches l most many = ((l.foldl (bStep most many) ([], 0)).1, 0)) := by unfold batches; rw [if_neg (by simp [h0]), if_neg (by simp [hmo]), if_neg (by simp [hma])]; rfl
  have HK := Lib.hid (sizeCode_ok h0)
  clear h0
  have hn4 : n ≤ 4000 := by rw [← HL.out]; exact HK.out.1
  have hmo' : 1 ≤ most ∧ most ≤ 2000000 := by simpa [inR] using hmo
  have hma' : 1 ≤ many ∧ many ≤ 4000 := by simpa [inR] using hma
  go_enter Tryd.func19, Tryd.ntmps19
  go_wp2_with fail
  refine (checkSizesR_any _ _ _ _ _ HR.out).mono ?_
  rintro e w1 ⟨rfl, hb1⟩
  go_wp2_with (go_at_call 33; refine (withinR_any _ _ _ _).mono ?_; rintro e w' ⟨rfl, rfl⟩)
  go_loopw [9, 10, 29] (fun ov sv i wr => ∃ (k : Nat) (rows : List (List ByteArray)) (s : Int), k ≤ n ∧ i = .int .i64 k ∧ sv = .int .i64 s ∧ Below w.heap.size w wr ∧ rows.length ≤ k ∧ 0 ≤ s ∧ s ≤ 2000000 ∧
      Hid (l.foldl (bStep most many) ([], 0) = (l.drop k).foldl (bStep most many) (rows, s)) ∧
      (rows = [] ∧ ov = .slice none 0 0 ∨ ∃ done cur vals u B0 g cap, rows = done ++ [cur] ∧ ov = .slice (some ⟨g, 0, none⟩) (done.length + 1) cap ∧ cur.length ≤ k ∧ Hid (rows2 wr w.heap.size done cur ov vals u B0))) (fun _ _ i _ => n - (intOf i).toNat)
  case atStart => exact ⟨0, [], 0, by omega, rfl, rfl, hb1, by simp, by omega, by omega, rfl, Or.inl ⟨rfl, rfl⟩⟩
  case round =>
    obtain ⟨k, rows, s, hk, rfl, rfl, hbw, hrk, hs0, hs1, HG, hrows⟩ := hrel
    have hzw := hbw.size
    clear hb1
    by_cases hlt : k < n
    · obtain ⟨bk, o, x, rfl, hbk, hx, hx1, hx2, hxs⟩ := rSized_at (rSl.keep HR.out hbw (Nat.le_refl _)) hlt
      obtain ⟨hxd, hx0, hxm⟩ := HK.out.2 x (List.mem_of_getElem? hx)
      have Hx := Lib.hid hx
      clear hx hxd
      have hbz : bk < wr.heap.size := by omega
      rcases hrows with ⟨rfl, rfl⟩ | ⟨done, cur, vals, u, B0, g0, cap0, rfl, rfl, hcl, HB⟩
      · have hwx : IntKind.i64.wrap x.2 = x.2 := IntWalk.i64_in _ (by omega)
        obtain ⟨i9, hi9, hz9, hz91, hz92⟩ := info_parts (P := Tryd.prog) (e := 9) (z := .string ⟨#[]⟩) (size := 1) (bytes := 16) (by kernel_rfl)
        obtain ⟨i28, hi28, hz28, hz281, hz282⟩ := info_parts (P := Tryd.prog) (e := 28) (z := .slice none 0 0) (size := 1) (bytes := 24) (by kernel_rfl)
        go_upto_region 13 with (fail)
        have hov : wr.ownsRow w.heap.size 28 1 (Value.slice none 0 0) ([] : List (List ByteArray)).length ([] : List Value) := World.ownsRow_nil _ _ _ _
        have hal : allRows wr w.heap.size wr.heap.size ([] : List (List ByteArray)) ([] : List Value) := ⟨rfl, by simp⟩
        have hbw2 : Below w.heap.size w (wr.alloc (.cells #[.string x.1, .int .i64 x.2] 30)) := hbw.alloc (by omega) _
        have q3 : (wr.alloc (.cells #[.string x.1, .int .i64 x.2] 30)).cell? ⟨wr.heap.size, 0, none⟩ = some (.string x.1) := by simp [go_sem]
        have q4 : (wr.alloc (.cells #[.string x.1, .int .i64 x.2] 30)).cell? ⟨wr.heap.size, 1, none⟩ = some (.int .i64 x.2) := by simp [go_sem]
        have HV2 := Lib.hid (hov.alloc (.cells #[.string x.1, .int .i64 x.2] 30))
        have HA2 : Hid (allRows (wr.alloc (.cells #[.string x.1, .int .i64 x.2] 30)) w.heap.size (wr.alloc (.cells #[.string x.1, .int .i64 x.2] 30)).heap.size ([] : List (List ByteArray)) ([] : List Value)) :=
          (hal.kept (World.grownBy_alloc wr (.cells #[.string x.1, .int .i64 x.2] 30) none) (fun b e => by cases e)).mono (by simp)
        have hu2 : some wr.heap.size ≠ (Value.slice none 0 0).ownBlock := fun e => by have := (hov.lt _ e.symm).2; omega
        have hz2 : w.heap.size ≤ (wr.alloc (.cells #[.string x.1, .int .i64 x.2] 30)).heap.size := hbw2.size
        have hr4 : ([] : List (List ByteArray)).length ≤ 4000 := by simp
        clear hov hal
        generalize wr.alloc (.cells #[.string x.1, .int .i64 x.2] 30) = w2 at q3 q4 HV2 HA2 hbw2 hz2 ⊢
        have q3a : ∀ o : Obj, (w2.alloc o).cell? ⟨wr.heap.size, 0, none⟩ = some (.string x.1) := fun o => by rw [World.cell?_alloc_some _ _ _ (by rw [q3]; rfl)]; exact q3
        have q4a : ∀ o : Obj, (w2.alloc o).cell? ⟨wr.heap.size, 1, none⟩ = some (.int .i64 x.2) := fun o => by rw [World.cell?_alloc_some _ _ _ (by rw [q4]; rfl)]; exact q4
        have q4b : ∀ o o2 : Obj, ((w2.alloc o).alloc o2).cell? ⟨wr.heap.size, 1, none⟩ = some (.int .i64 x.2) := fun o o2 => by rw [World.cell?_alloc_some _ _ _ (by rw [q4a]; rfl)]; exact q4a o
        go_region_law ((refine step_append_lies _ (by rfl) _ _ _ (by rfl) w.heap.size 28 i28 _ 1 24 Tryd.underlying23 hi28 hz28 hz281 hz282 rfl (by omega) (Value.slice none 0 0) 0 ([] : List Value) (by rfl) (by exact ((HV2.out.alloc _).alloc _).drew) ⟨w2.heap.size + 1, 0, none⟩ 1 1 [.slice (some ⟨w2.heap.size, 0, none⟩) 1 1] (by rfl) (by rfl) (World.news_of_block (cs := #[.slice (some ⟨w2.heap.size, 0, none⟩) 1 1]) (t := 28) (fr := (0, 0)) (by exact heap_alloc_new2 _ _ _)) (by simp [Value.oneCell']) (by omega) (by unfold maxLen; first | omega | (simp <;> omega)) (by first | omega | (simp <;> omega)) (by first | omega | (simp <;> omega)) (w2.heap.size + 2) (by simp) ?_; intro g3 cap3 w3 hown3 hgrow3 hat3 hlt3; have q4d : w3.cell? ⟨wr.heap.size, 1, none⟩ = some (.int .i64 x.2) := hgrow3.cell (q4b (.cells #[.string x.1] 9) (.cells #[.slice (some ⟨w2.heap.size, 0, none⟩) 1 1] 28)) hu2))
        all_goals (
          have hgr := grown_of_alloc2 hgrow3
          have hrow : w3.heap[w2.heap.size]? = some (.cells #[.string x.1] 9 (0, 0)) := by
            rw [hgrow3.block w2.heap.size (by simp; omega) (fun e => by have := (HV2.out.lt _ e.symm).2; omega)]
            exact (heap_alloc_old (w2.alloc (.cells #[.string x.1] 9)) _ (by simp)).trans (heap_alloc_new w2 _)
          have hnew := Lib.hid (HA2.out.fresh HV2.out hgr (by simpa using hown3) hz2 hrow (Nat.le_refl _) hxs)
          have hbw4 := hbw2.grown hgr hbw2.size (fun b e => (HV2.out.lt b e).1)
          clear q3 q4 q3a q4a q4b q4d hgrow3 hown3 hgr hrow
          go_wp2_with fail
          go_roundw
          case rel => exact ⟨k + 1, ([] : List (List ByteArray)) ++ [[x.1]], x.2, by omega, by go_num, by rfl, hbw4, by simp, by omega, by omega, by rw [HG.out, drop_of Hx.out]; rfl, Or.inr ⟨([] : List (List ByteArray)), [x.1], ([] : List Value), _, w2.heap.size, g3, cap3, rfl, by simp, by simp, by simpa using hnew⟩⟩
          case measure => (simp [intOf]; omega)
          )
      · obtain ⟨Au, cu, rfl⟩ := own_slice HB.out.2.2.1
        obtain ⟨i9, hi9, hz9, hz91, hz92⟩ := info_parts (P := Tryd.prog) (e := 9) (z := .string ⟨#[]⟩) (size := 1) (bytes := 16) (by kernel_rfl)
        obtain ⟨i28, hi28, hz28, hz281, hz282⟩ := info_parts (P := Tryd.prog) (e := 28) (z := .slice none 0 0) (size := 1) (bytes := 24) (by kernel_rfl)
        have hvl : vals.length = done.length := HB.out.2.1.1
        have hdk : done.length + 1 ≤ k := by simpa using hrk
        have hc1 : wr.cell? ⟨g0, done.length, none⟩ = some (.slice Au cur.length cu) := by rw [HB.out.1.cellAt done.length (by omega), List.getElem?_append_right (by omega), hvl]; simp
        have hg0z : g0 < wr.heap.size := World.block_lt_of_cell? wr _ hc1
        have hfr : wr.frozen? ⟨g0, done.length, none⟩ = false := HB.out.1.frozenAt _
        have hcz : cur.length ≤ 4000 := HB.out.2.2.2.2.2.1
        have e1 : IntKind.i64.wrap ((done.length : Int) + 1 - 1) = (done.length : Int) := (IntWalk.i64_in _ (by omega)).trans (by omega)
        have e2 : decide ((done.length : Int) < 0) = false := by simp
        have e3 : IntKind.i64.wrap ((done.length : Int) + 1) = (done.length : Int) + 1 := IntWalk.i64_in _ (by omega)
        have hwx : IntKind.i64.wrap x.2 = x.2 := IntWalk.i64_in _ (by omega)
        have hws : IntKind.i64.wrap (s + x.2) = s + x.2 := IntWalk.i64_in _ (by omega)
        have en0 : ((done.length : Int) + 1 == 0) = false := by rw [beq_eq_false_iff_ne]; omega
        by_cases h2 : s + x.2 > most
        · have hd2 : decide (s + x.2 > most) = true := by simpa using h2
          have hcase : many ≤ (cur.length : Int) ∨ s + x.2 > most := Or.inr h2
          go_upto_region 13 with (fail)
          have hov : wr.ownsRow w.heap.size 28 1 (Value.slice (some ⟨g0, 0, none⟩) (done.length + 1) cap0) (done ++ [cur]).length (vals ++ [.slice Au cur.length cu]) := by simpa using HB.out.1
          have hal : allRows wr w.heap.size wr.heap.size (done ++ [cur]) (vals ++ [.slice Au cur.length cu]) := HB.out.all
          have hbw2 : Below w.heap.size w (wr.alloc (.cells #[.string x.1, .int .i64 x.2] 30)) := hbw.alloc (by omega) _
          have q3 : (wr.alloc (.cells #[.string x.1, .int .i64 x.2] 30)).cell? ⟨wr.heap.size, 0, none⟩ = some (.string x.1) := by simp [go_sem]
          have q4 : (wr.alloc (.cells #[.string x.1, .int .i64 x.2] 30)).cell? ⟨wr.heap.size, 1, none⟩ = some (.int .i64 x.2) := by simp [go_sem]
          have HV2 := Lib.hid (hov.alloc (.cells #[.string x.1, .int .i64 x.2] 30))
          have HA2 : Hid (allRows (wr.alloc (.cells #[.string x.1, .int .i64 x.2] 30)) w.heap.size (wr.alloc (.cells #[.string x.1, .int .i64 x.2] 30)).heap.size (done ++ [cur]) (vals ++ [.slice Au cur.length cu])) :=
            (hal.kept (World.grownBy_alloc wr (.cells #[.string x.1, .int .i64 x.2] 30) none) (fun b e => by cases e)).mono (by simp)
          have hu2 : some wr.heap.size ≠ (Value.slice (some ⟨g0, 0, none⟩) (done.length + 1) cap0).ownBlock := fun e => by have := (hov.lt _ e.symm).2; omega
          have hz2 : w.heap.size ≤ (wr.alloc (.cells #[.string x.1, .int .i64 x.2] 30)).heap.size := hbw2.size
          have hr4 : (done ++ [cur]).length ≤ 4000 := by simp at hrk ⊢; omega
          clear hov hal
          generalize wr.alloc (.cells #[.string x.1, .int .i64 x.2] 30) = w2 at q3 q4 HV2 HA2 hbw2 hz2 ⊢
          have q3a : ∀ o : Obj, (w2.alloc o).cell? ⟨wr.heap.size, 0, none⟩ = some (.string x.1) := fun o => by rw [World.cell?_alloc_some _ _ _ (by rw [q3]; rfl)]; exact q3
          have q4a : ∀ o : Obj, (w2.alloc o).cell? ⟨wr.heap.size, 1, none⟩ = some (.int .i64 x.2) := fun o => by rw [World.cell?_alloc_some _ _ _ (by rw [q4]; rfl)]; exact q4
          have q4b : ∀ o o2 : Obj, ((w2.alloc o).alloc o2).cell? ⟨wr.heap.size, 1, none⟩ = some (.int .i64 x.2) := fun o o2 => by rw [World.cell?_alloc_some _ _ _ (by rw [q4a]; rfl)]; exact q4a o
          go_region_law ((refine step_append_lies _ (by rfl) _ _ _ (by rfl) w.heap.size 28 i28 _ 1 24 Tryd.underlying23 hi28 hz28 hz281 hz282 rfl (by omega) (Value.slice (some ⟨g0, 0, none⟩) (done.length + 1) cap0) (done.length + 1) (vals ++ [.slice Au cur.length cu]) (by rfl) (by exact (show World.ownsRow _ _ _ _ _ _ _ by simpa using ((HV2.out.alloc (.cells #[.string x.1] 9)).alloc (.cells #[.slice (some ⟨w2.heap.size, 0, none⟩) 1 1] 28)).drew)) ⟨w2.heap.size + 1, 0, none⟩ 1 1 [.slice (some ⟨w2.heap.size, 0, none⟩) 1 1] (by rfl) (by rfl) (World.news_of_block (cs := #[.slice (some ⟨w2.heap.size, 0, none⟩) 1 1]) (t := 28) (fr := (0, 0)) (by exact heap_alloc_new2 _ _ _)) (by simp [Value.oneCell']) (by omega) (by unfold maxLen; first | omega | (simp <;> omega)) (by first | omega | (simp <;> omega)) (by first | omega | (simp <;> omega)) (w2.heap.size + 2) (by simp) ?_; intro g3 cap3 w3 hown3 hgrow3 hat3 hlt3; have q4d : w3.cell? ⟨wr.heap.size, 1, none⟩ = some (.int .i64 x.2) := hgrow3.cell (q4b (.cells #[.string x.1] 9) (.cells #[.slice (some ⟨w2.heap.size, 0, none⟩) 1 1] 28)) hu2))
          all_goals (
            have hgr := grown_of_alloc2 hgrow3
            have hrow : w3.heap[w2.heap.size]? = some (.cells #[.string x.1] 9 (0, 0)) := by
              rw [hgrow3.block w2.heap.size (by simp; omega) (fun e => by have := (HV2.out.lt _ e.symm).2; omega)]
              exact (heap_alloc_old (w2.alloc (.cells #[.string x.1] 9)) _ (by simp)).trans (heap_alloc_new w2 _)
            have hnew := Lib.hid (HA2.out.fresh HV2.out hgr (by simpa using hown3) hz2 hrow (Nat.le_refl _) hxs)
            have hbw4 := hbw2.grown hgr hbw2.size (fun b e => (HV2.out.lt b e).1)
            clear q3 q4 q3a q4a q4b q4d hgrow3 hown3 hgr hrow
            go_wp2_with fail
            go_roundw
            case rel => exact ⟨k + 1, (done ++ [cur]) ++ [[x.1]], x.2, by omega, by go_num, by rfl, hbw4, by (simp; omega), by omega, by omega, by rw [HG.out, drop_of Hx.out, List.foldl_cons, bStep_new hcase]; rfl, Or.inr ⟨(done ++ [cur]), [x.1], (vals ++ [.slice Au cur.length cu]), _, w2.heap.size, g3, cap3, rfl, by simp, by simp, by simpa using hnew⟩⟩
            case measure => (simp [intOf]; omega)
            )
        have hd2 : decide (s + x.2 > most) = false := by simpa using h2
        by_cases h1 : many ≤ (cur.length : Int)
        · have hd1 : decide ((cur.length : Int) ≥ many) = true := by simpa using h1
          have hcase : many ≤ (cur.length : Int) ∨ s + x.2 > most := Or.inl h1
          go_upto_region 13 with (fail)
          have hov : wr.ownsRow w.heap.size 28 1 (Value.slice (some ⟨g0, 0, none⟩) (done.length + 1) cap0) (done ++ [cur]).length (vals ++ [.slice Au cur.length cu]) := by simpa using HB.out.1
          have hal : allRows wr w.heap.size wr.heap.size (done ++ [cur]) (vals ++ [.slice Au cur.length cu]) := HB.out.all
          have hbw2 : Below w.heap.size w (wr.alloc (.cells #[.string x.1, .int .i64 x.2] 30)) := hbw.alloc (by omega) _
          have q3 : (wr.alloc (.cells #[.string x.1, .int .i64 x.2] 30)).cell? ⟨wr.heap.size, 0, none⟩ = some (.string x.1) := by simp [go_sem]
          have q4 : (wr.alloc (.cells #[.string x.1, .int .i64 x.2] 30)).cell? ⟨wr.heap.size, 1, none⟩ = some (.int .i64 x.2) := by simp [go_sem]
          have HV2 := Lib.hid (hov.alloc (.cells #[.string x.1, .int .i64 x.2] 30))
          have HA2 : Hid (allRows (wr.alloc (.cells #[.string x.1, .int .i64 x.2] 30)) w.heap.size (wr.alloc (.cells #[.string x.1, .int .i64 x.2] 30)).heap.size (done ++ [cur]) (vals ++ [.slice Au cur.length cu])) :=
            (hal.kept (World.grownBy_alloc wr (.cells #[.string x.1, .int .i64 x.2] 30) none) (fun b e => by cases e)).mono (by simp)
          have hu2 : some wr.heap.size ≠ (Value.slice (some ⟨g0, 0, none⟩) (done.length + 1) cap0).ownBlock := fun e => by have := (hov.lt _ e.symm).2; omega
          have hz2 : w.heap.size ≤ (wr.alloc (.cells #[.string x.1, .int .i64 x.2] 30)).heap.size := hbw2.size
          have hr4 : (done ++ [cur]).length ≤ 4000 := by simp at hrk ⊢; omega
          clear hov hal
          generalize wr.alloc (.cells #[.string x.1, .int .i64 x.2] 30) = w2 at q3 q4 HV2 HA2 hbw2 hz2 ⊢
          have q3a : ∀ o : Obj, (w2.alloc o).cell? ⟨wr.heap.size, 0, none⟩ = some (.string x.1) := fun o => by rw [World.cell?_alloc_some _ _ _ (by rw [q3]; rfl)]; exact q3
          have q4a : ∀ o : Obj, (w2.alloc o).cell? ⟨wr.heap.size, 1, none⟩ = some (.int .i64 x.2) := fun o => by rw [World.cell?_alloc_some _ _ _ (by rw [q4]; rfl)]; exact q4
          have q4b : ∀ o o2 : Obj, ((w2.alloc o).alloc o2).cell? ⟨wr.heap.size, 1, none⟩ = some (.int .i64 x.2) := fun o o2 => by rw [World.cell?_alloc_some _ _ _ (by rw [q4a]; rfl)]; exact q4a o
          go_region_law ((refine step_append_lies _ (by rfl) _ _ _ (by rfl) w.heap.size 28 i28 _ 1 24 Tryd.underlying23 hi28 hz28 hz281 hz282 rfl (by omega) (Value.slice (some ⟨g0, 0, none⟩) (done.length + 1) cap0) (done.length + 1) (vals ++ [.slice Au cur.length cu]) (by rfl) (by exact (show World.ownsRow _ _ _ _ _ _ _ by simpa using ((HV2.out.alloc (.cells #[.string x.1] 9)).alloc (.cells #[.slice (some ⟨w2.heap.size, 0, none⟩) 1 1] 28)).drew)) ⟨w2.heap.size + 1, 0, none⟩ 1 1 [.slice (some ⟨w2.heap.size, 0, none⟩) 1 1] (by rfl) (by rfl) (World.news_of_block (cs := #[.slice (some ⟨w2.heap.size, 0, none⟩) 1 1]) (t := 28) (fr := (0, 0)) (by exact heap_alloc_new2 _ _ _)) (by simp [Value.oneCell']) (by omega) (by unfold maxLen; first | omega | (simp <;> omega)) (by first | omega | (simp <;> omega)) (by first | omega | (simp <;> omega)) (w2.heap.size + 2) (by simp) ?_; intro g3 cap3 w3 hown3 hgrow3 hat3 hlt3; have q4d : w3.cell? ⟨wr.heap.size, 1, none⟩ = some (.int .i64 x.2) := hgrow3.cell (q4b (.cells #[.string x.1] 9) (.cells #[.slice (some ⟨w2.heap.size, 0, none⟩) 1 1] 28)) hu2))
          all_goals (
            have hgr := grown_of_alloc2 hgrow3
            have hrow : w3.heap[w2.heap.size]? = some (.cells #[.string x.1] 9 (0, 0)) := by
              rw [hgrow3.block w2.heap.size (by simp; omega) (fun e => by have := (HV2.out.lt _ e.symm).2; omega)]
              exact (heap_alloc_old (w2.alloc (.cells #[.string x.1] 9)) _ (by simp)).trans (heap_alloc_new w2 _)
            have hnew := Lib.hid (HA2.out.fresh HV2.out hgr (by simpa using hown3) hz2 hrow (Nat.le_refl _) hxs)
            have hbw4 := hbw2.grown hgr hbw2.size (fun b e => (HV2.out.lt b e).1)
            clear q3 q4 q3a q4a q4b q4d hgrow3 hown3 hgr hrow
            go_wp2_with fail
            go_roundw
            case rel => exact ⟨k + 1, (done ++ [cur]) ++ [[x.1]], x.2, by omega, by go_num, by rfl, hbw4, by (simp; omega), by omega, by omega, by rw [HG.out, drop_of Hx.out, List.foldl_cons, bStep_new hcase]; rfl, Or.inr ⟨(done ++ [cur]), [x.1], (vals ++ [.slice Au cur.length cu]), _, w2.heap.size, g3, cap3, rfl, by simp, by simp, by simpa using hnew⟩⟩
            case measure => (simp [intOf]; omega)
            )
        · have hd1 : decide ((cur.length : Int) ≥ many) = false := by simpa using h1
          have e1n : IntKind.i64.wrap (done.length : Int) = (done.length : Int) := IntWalk.i64_in _ (by omega)
          have i0n : (0 : Int) ≤ (done.length : Int) := by omega
          have i2n : ((done.length : Int)).toNat = done.length := by omega
          go_upto_region 14 with (fail)
          have HB2a := HB.out.alloc (.cells #[.string x.1, .int .i64 x.2] 30)
          have q1' : (wr.alloc (.cells #[.string x.1, .int .i64 x.2] 30)).cell? ⟨g0, done.length, none⟩ = some (.slice Au cur.length cu) := by rw [World.cell?_alloc_some _ _ _ (by rw [hc1]; rfl)]; exact hc1
          have k14' : keep3 (wr.alloc (.cells #[.string x.1, .int .i64 x.2] 30)) g0 done.length wr.heap.size x := ⟨HB2a.1.frozenAt _, by simp [go_sem], by simp [go_sem]⟩
          have hbw2' : Below w.heap.size w (wr.alloc (.cells #[.string x.1, .int .i64 x.2] 30)) := hbw.alloc (by omega) _
          have hg2 : g0 ≠ wr.heap.size := by omega
          have hu1 : some g0 ≠ (Value.slice Au cur.length cu).ownBlock := fun e => by
            rcases own_types HB.out.2.2.1 HB.out.1 (by decide) with h | h
            · rw [h] at e; cases e
            · exact h e.symm
          have hu2 : some wr.heap.size ≠ (Value.slice Au cur.length cu).ownBlock := fun e => by
            have := (HB.out.2.2.1.lt _ e.symm).2
            omega
          have HB2 := Lib.hid HB2a
          clear HB2a
          generalize wr.alloc (.cells #[.string x.1, .int .i64 x.2] 30) = w2 at q1' k14' hbw2' HB2 ⊢
          have q1 := q1'
          have k14 := k14'
          have hbw2 := hbw2'
          have hmc : cur.length < 4000 := by omega
          clear q1' k14' hbw2'
          have i1 : (done.length : Int) < (done.length : Int) + 1 := by omega
          obtain ⟨q2, q3, q4⟩ := k14
          have hgz : g0 < w2.heap.size := World.block_lt_of_cell? w2 _ q1
          have q1a : ∀ o : Obj, (w2.alloc o).cell? ⟨g0, done.length, none⟩ = some (Value.slice Au cur.length cu) := fun o => by rw [World.cell?_alloc_some _ _ _ (by rw [q1]; rfl)]; exact q1
          have hbase2 : B0 ≤ w2.heap.size := HB2.out.2.2.2.2.1
          have q3a : ∀ o : Obj, (w2.alloc o).cell? ⟨wr.heap.size, 0, none⟩ = some (.string x.1) := fun o => by rw [World.cell?_alloc_some _ _ _ (by rw [q3]; rfl)]; exact q3
          have q4a : ∀ o : Obj, (w2.alloc o).cell? ⟨wr.heap.size, 1, none⟩ = some (.int .i64 x.2) := fun o => by rw [World.cell?_alloc_some _ _ _ (by rw [q4]; rfl)]; exact q4
          go_region_law ((refine step_append_lies _ (by rfl) _ _ _ (by rfl) B0 9 i9 _ 1 16 Tryd.underlying28 hi9 hz9 hz91 hz92 rfl (by omega) (Value.slice Au cur.length cu) cur.length (strs cur) (by rfl) ((HB2.out.2.2.1.alloc _).drew) ⟨w2.heap.size, 0, none⟩ 1 1 [.string x.1] (by rfl) (by rfl) (World.news_of_block (cs := #[.string x.1]) (t := 9) (fr := (0, 0)) (heap_alloc_new w2 _)) (by simp [Value.oneCell']) (by omega) (by unfold maxLen; first | omega | (simp <;> omega)) (by first | omega | (simp <;> omega)) (by first | omega | (simp <;> omega)) (w2.heap.size + 1) (by simp) ?_; intro g3 cap3 w3 hown3 hgrow3 hat3 hlt3; have q1b : w3.cell? ⟨g0, done.length, none⟩ = some (Value.slice Au cur.length cu) := hgrow3.cell (q1a (.cells #[.string x.1] 9)) hu1; have q2b := keep3.go (keep3.go ⟨q2, q3, q4⟩ (grown_alloc_drew w2 (.cells #[.string x.1] 9)) hgz (by simp) (by simp)) hgrow3 (by first | omega | (simp <;> omega)) hu1 hu2; obtain ⟨q2c, q3c, q4c⟩ := q2b; have q4d : ∀ u : Value, (w3.setCell ⟨g0, done.length, none⟩ u).cell? ⟨wr.heap.size, 1, none⟩ = some (.int .i64 x.2) := fun u => (keep3.set (v := u) ⟨q2c, q3c, q4c⟩ hg2).2.2))
          all_goals (
            have hgr := grown_of_alloc hgrow3
            have hpush0 := (HB2.out).push hown3 hgr (by first | omega | (simp <;> omega)) hxs
            have hpush := Lib.hid hpush0
            clear hpush0
            have hbw4 := (hbw2.grown hgr hbw2.size (by exact fun b e => Nat.le_trans HB2.out.2.2.2.1 (HB2.out.2.2.1.lt b e).1)).setCell (p := ⟨g0, done.length, none⟩) (show w.heap.size ≤ g0 from (HB2.out.1.lt g0 rfl).1) (.slice (some ⟨g3, 0, none⟩) (cur.length + 1) cap3)
            clear q1 q1a q1b q2 q3 q4 q3a q4a q2c q3c q4c q4d hgrow3 hown3 hgr
            go_wp2_with fail
            go_roundw
            case rel => exact ⟨k + 1, done ++ [cur ++ [x.1]], (s + x.2), by omega, by go_num, by rfl, hbw4, by (simp; omega), by omega, by omega, by rw [HG.out, drop_of Hx.out, List.foldl_cons, bStep_old (by omega) (by omega)]; rfl, Or.inr ⟨done, cur ++ [x.1], vals, _, B0, g0, cap0, rfl, rfl, by (simp; omega), hpush⟩⟩
            case measure => (simp [intOf]; omega)
            )
    · obtain rfl : k = n := by omega
      have HF : Hid (batches l most many = (rows, 0)) := by
        have e := HG.out
        have := HL.out
        rw [List.drop_of_length_le (by omega)] at e
        rw [HS.out, e]; rfl
      rcases hrows with ⟨rfl, rfl⟩ | ⟨done, cur, vals, u, B0, g, cap, rfl, rfl, hcl, HB⟩
      · go_wp2_with fail
        go_ret2
        refine ⟨_, rfl, hbw, ?_⟩
        rw [HF.out]
        exact PRows.none_
      · have hfin := (HB.out.all).toSl (v := .slice (some ⟨g, 0, none⟩) (done.length + 1) cap) (by simpa using HB.out.1) (by simp at hrk ⊢; omega)
        have HFin := Lib.hid hfin
        clear hfin
        go_wp2_with fail
        go_ret2
        refine ⟨_, rfl, hbw, ?_⟩
        rw [HF.out]
        exact ⟨some ⟨g, 0, none⟩, cap, by simp, by simpa using HFin.out⟩
end Go.Proofs.YteoojplgchlhcaaDoor
