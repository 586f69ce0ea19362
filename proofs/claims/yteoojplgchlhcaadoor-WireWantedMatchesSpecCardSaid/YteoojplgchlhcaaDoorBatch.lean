/-
  The walk of wire.Batches.
-/
import Derived.Test.YteoojplgchlhcaaDoorStrs
import Derived.Deep.AppendLies
import Derived.StillTailTactics
namespace Go.Proofs.YteoojplgchlhcaaDoor
open Go.RowKit
set_option linter.unusedVariables false
set_option linter.unusedSimpArgs false

def bStep (most many : Int) (st : List (List ByteArray) × Int) (x : ByteArray × Int) : List (List ByteArray) × Int :=
  match st.1.getLast? with
  | none => (st.1 ++ [[x.1]], x.2)
  | some cur => if many ≤ cur.length ∨ st.2 + x.2 > most then (st.1 ++ [[x.1]], x.2) else (st.1.dropLast ++ [cur ++ [x.1]], st.2 + x.2)
def batches (l : List (ByteArray × Int)) (most many : Int) : List (List ByteArray) × Int :=
  if sizeCode l ≠ 0 then ([], sizeCode l) else if inR most 1 2000000 = false then ([], 1) else if inR many 1 4000 = false then ([], 1) else ((l.foldl (bStep most many) ([], 0)).1, 0)

theorem sizesGo_ok {l : List (ByteArray × Int)} : ∀ {p : Option ByteArray}, sizesGo p l = 0 → ∀ x ∈ l, isDig x.1 = true ∧ inR x.2 0 2000000 = true := by
  induction l with
  | nil => intro p _ x hx; cases hx
  | cons y r ih =>
    intro p h x hx
    rw [sizesGo] at h
    by_cases h1 : isDig y.1 = false
    · rw [if_pos h1] at h; omega
    rw [if_neg h1] at h
    by_cases h2 : inR y.2 0 2000000 = false
    · rw [if_pos h2] at h; omega
    rw [if_neg h2] at h
    split at h
    · omega
    rcases List.mem_cons.1 hx with rfl | hx
    · exact ⟨by simpa using h1, by simpa using h2⟩
    · exact ih h x hx
theorem sizeCode_ok {l : List (ByteArray × Int)} (h : sizeCode l = 0) : l.length ≤ 4000 ∧ ∀ x ∈ l, isDig x.1 = true ∧ 0 ≤ x.2 ∧ x.2 ≤ 2000000 := by
  unfold sizeCode at h
  split at h
  · omega
  · refine ⟨by omega, fun x hx => ?_⟩
    have := sizesGo_ok h x hx
    simp [inR] at this
    exact this

/-- What a call that hands back rows of strings and an error gives. -/
def PRows (p : List (List ByteArray) × Int) (v : Value) (w' : World) : Prop :=
  ∃ A c, v = .tuple #[.slice A p.1.length c, .int .i64 p.2] ∧ rSl 1 24 (rSl 1 16 rStr) w' w'.heap.size p.1 [.slice A p.1.length c]
theorem PRows.none_ {code : Int} {w' : World} : PRows ([], code) (.tuple #[.slice none 0 0, .int .i64 code]) w' := ⟨none, 0, rfl, rSl.nil_⟩

section
variable {w w' : World} {g d bx : Nat} {u v : Value} {x : ByteArray × Int}
/-- The cells of the element, and that the outer row's cell can be written: what a round's last statement keeps. -/
abbrev keep3 (w : World) (g d bx : Nat) (x : ByteArray × Int) : Prop :=
  w.frozen? ⟨g, d, none⟩ = false ∧ w.cell? ⟨bx, 0, none⟩ = some (.string x.1) ∧ w.cell? ⟨bx, 1, none⟩ = some (.int .i64 x.2)
theorem keep3.go {row : Option Nat} (h : keep3 w g d bx x) (hg : w.grownBy w' row) (h0 : g < w.heap.size) (h1 : some g ≠ row) (h2 : some bx ≠ row) : keep3 w' g d bx x := by
  obtain ⟨b, c, e⟩ := h
  refine ⟨?_, hg.cell c h2, hg.cell e h2⟩
  rw [World.frozen?_of_block (hg.block g h0 h1)]; exact b
theorem keep3.set (h : keep3 w g d bx x) (hne : g ≠ bx) : keep3 (w.setCell ⟨g, d, none⟩ v) g d bx x := by
  obtain ⟨b, c, e⟩ := h
  refine ⟨by simpa using b, ?_, ?_⟩
  · rw [World.cell?_setCell_far _ _ _ _ hne]; exact c
  · rw [World.cell?_setCell_far _ _ _ _ hne]; exact e
theorem grown_of_alloc {row : Option Nat} {o : Obj} (h : (w.alloc o).drew.grownBy w' row) : w.grownBy w' row :=
  ⟨h.os, h.tape, h.output, by have := h.size; simp at this; omega, fun k hk hne => (h.block k (by simp; omega) hne).trans (heap_alloc_old w o hk)⟩
theorem grown_alloc_drew (w : World) (o : Obj) : w.grownBy (w.alloc o).drew none := ⟨rfl, rfl, rfl, by simp, fun _ hk _ => heap_alloc_old w o hk⟩
end

section
variable {w w' : World} {base B B' B0 : Nat} {rows done : List (List ByteArray)} {cur : List ByteArray} {vals : List Value} {u v v' : Value} {o1 o2 : Obj} {most many s : Int} {x : ByteArray × Int}
theorem allRows.mono (h : allRows w base B rows vals) (hB : B ≤ B') : allRows w base B' rows vals :=
  ⟨h.1, fun i r hr => by
    obtain ⟨ho, q, hq, hown, hb⟩ := h.2 i r hr
    exact ⟨ho, q, hq, hown, fun b e => Nat.lt_of_lt_of_le (hb b e) hB⟩⟩
theorem rows2.alloc (h : rows2 w base done cur v vals u B0) (o : Obj) : rows2 (w.alloc o) base done cur v vals u B0 := by
  obtain ⟨h1, h2, h3, h4, h5, h6⟩ := h
  exact ⟨h1.alloc o, h2.kept (World.grownBy_alloc w o none) (fun b e => by cases e), h3.alloc o, h4, by simp; omega, h6⟩
theorem rows2.begin (h : rows2 w base done cur v vals u B0) (hg : ((w.alloc o1).alloc o2).grownBy w' v.ownBlock) (hv : w'.ownsRow base 28 1 v' (done.length + 1 + 1) (vals ++ [u] ++ [.slice none 0 0])) :
    rows2 w' base (done ++ [cur]) [] v' (vals ++ [u]) (.slice none 0 0) w'.heap.size := by
  have h' := (h.alloc o1).alloc o2
  refine allRows.begin h'.all (v := v) (by simpa using h'.1) hg (by simpa using hv) ?_
  exact Nat.le_trans h'.2.2.2.1 h'.2.2.2.2.1
theorem bStep_new (h : many ≤ cur.length ∨ s + x.2 > most) : bStep most many (done ++ [cur], s) x = ((done ++ [cur]) ++ [[] ++ [x.1]], x.2) := by
  simp only [bStep, List.getLast?_append, List.getLast?_singleton, Option.some_or]
  rw [if_pos h]; rfl
theorem bStep_old (h1 : ¬ many ≤ cur.length) (h2 : ¬ s + x.2 > most) : bStep most many (done ++ [cur], s) x = (done ++ [cur ++ [x.1]], s + x.2) := by
  simp only [bStep, List.getLast?_append, List.getLast?_singleton, Option.some_or]
  rw [if_neg (by omega)]; simp
end

set_option maxHeartbeats 20000000 in
set_option maxRecDepth 100000 in
theorem batches_any (A : Option Addr) (n c : Nat) (l : List (ByteArray × Int)) (most many : Int) (w : World) (hR : rSized w w.heap.size l [.slice A n c]) :
    Calls Tryd.prog 9 #[.slice A n c, .int .i64 most, .int .i64 many] w (Ret (PRows (batches l most many)) w) := by
  have hln := hR.len
  have HR := Lib.hid hR
  have HL := Lib.hid hln
  have hcm := hR.le
  clear hR hln
  obtain ⟨hcm1, hcm2, _⟩ := hcm
  by_cases h0 : sizeCode l = 0
  rotate_left
  · have h0' : (sizeCode l != 0) = true := by simpa using h0
    have HS : Hid (batches l most many = ([], sizeCode l)) := by unfold batches; rw [if_pos h0]; rfl
    clear h0
    go_enter Tryd.func9, Tryd.ntmps9
    go_wp2_with (go_at_call 16; refine (checkSizes_any _ _ _ _ _ HR.out).mono ?_; rintro e w1 ⟨rfl, hb1⟩)
    go_ret2
    refine ⟨_, rfl, hb1, ?_⟩
    rw [HS.out]
    exact PRows.none_
  have h0' : (sizeCode l != 0) = false := by simp [h0]
  cases hmo : inR most 1 2000000
  · have HS : Hid (batches l most many = ([], 1)) := by unfold batches; rw [if_neg (by simp [h0]), if_pos hmo]; rfl
    clear h0
    go_enter Tryd.func9, Tryd.ntmps9
    go_wp2_with fail
    refine (checkSizes_any _ _ _ _ _ HR.out).mono ?_
    rintro e w1 ⟨rfl, hb1⟩
    go_wp2_with (go_at_call 28; refine (within_any _ _ _ _).mono ?_; rintro e w' ⟨rfl, rfl⟩)
    go_ret2
    refine ⟨_, rfl, hb1, ?_⟩
    rw [HS.out]
    exact PRows.none_
  cases hma : inR many 1 4000
  · have HS : Hid (batches l most many = ([], 1)) := by unfold batches; rw [if_neg (by simp [h0]), if_neg (by simp [hmo]), if_pos hma]; rfl
    clear h0
    go_enter Tryd.func9, Tryd.ntmps9
    go_wp2_with fail
    refine (checkSizes_any _ _ _ _ _ HR.out).mono ?_
    rintro e w1 ⟨rfl, hb1⟩
    go_wp2_with (go_at_call 28; refine (within_any _ _ _ _).mono ?_; rintro e w' ⟨rfl, rfl⟩)
    go_ret2
    refine ⟨_, rfl, hb1, ?_⟩
    rw [HS.out]
    exact PRows.none_
  have HS : Hid (batches l most many = ((l.foldl (bStep most many) ([], 0)).1, 0)) := by unfold batches; rw [if_neg (by simp [h0]), if_neg (by simp [hmo]), if_neg (by simp [hma])]; rfl
  have HK := Lib.hid (sizeCode_ok h0)
  clear h0
  have hn4 : n ≤ 4000 := by rw [← HL.out]; exact HK.out.1
  have hmo' : 1 ≤ most ∧ most ≤ 2000000 := by simpa [inR] using hmo
  have hma' : 1 ≤ many ∧ many ≤ 4000 := by simpa [inR] using hma
  go_enter Tryd.func9, Tryd.ntmps9
  go_wp2_with fail
  refine (checkSizes_any _ _ _ _ _ HR.out).mono ?_
  rintro e w1 ⟨rfl, hb1⟩
  go_wp2_with (go_at_call 28; refine (within_any _ _ _ _).mono ?_; rintro e w' ⟨rfl, rfl⟩)
  go_loopw [9, 10, 29] (fun ov sv i wr => ∃ (k : Nat) (rows : List (List ByteArray)) (s : Int), k ≤ n ∧ i = .int .i64 k ∧ sv = .int .i64 s ∧ Below w.heap.size w wr ∧ rows.length ≤ k ∧ 0 ≤ s ∧ s ≤ 2000000 ∧
      Hid (l.foldl (bStep most many) ([], 0) = (l.drop k).foldl (bStep most many) (rows, s)) ∧
      (rows = [] ∧ ov = .slice none 0 0 ∨ ∃ done cur vals u B0 g cap, rows = done ++ [cur] ∧ ov = .slice (some ⟨g, 0, none⟩) (done.length + 1) cap ∧ cur.length ≤ k ∧ Hid (rows2 wr w.heap.size done cur ov vals u B0))) (fun _ _ i _ => n - (intOf i).toNat)
  case atStart => exact ⟨0, [], 0, by omega, rfl, rfl, hb1, by simp, by omega, by omega, rfl, Or.inl ⟨rfl, rfl⟩⟩
  case round =>
    obtain ⟨k, rows, s, hk, rfl, rfl, hbw, hrk, hs0, hs1, HG, hrows⟩ := hrel
    have hzw := hbw.size
    clear hb1
    by_cases hlt : k < n
    · obtain ⟨bk, o, x, rfl, hbk, hx, hx1, hx2, hxs⟩ := rSized_at (rSl.keep HR.out hbw (Nat.le_refl _)) hlt
      obtain ⟨hxd, hx0, hxm⟩ := HK.out.2 x (List.mem_of_getElem? hx)
      have Hx := Lib.hid hx
      clear hx hxd
      have hbz : bk < wr.heap.size := by omega
      rcases hrows with ⟨rfl, rfl⟩ | ⟨done, cur, vals, u, B0, g0, cap0, rfl, rfl, hcl, HB⟩
      · have e0 : decide ((IntKind.i64.wrap (((0:Nat):Int) - 1)) < 0) = true := by decide
        obtain ⟨i9, hi9, hz9, hz91, hz92⟩ := info_parts (P := Tryd.prog) (e := 9) (z := .string ⟨#[]⟩) (size := 1) (bytes := 16) (by kernel_rfl)
        obtain ⟨i28, hi28, hz28, hz281, hz282⟩ := info_parts (P := Tryd.prog) (e := 28) (z := .slice none 0 0) (size := 1) (bytes := 24) (by kernel_rfl)
        have hwx : IntKind.i64.wrap x.2 = x.2 := IntWalk.i64_in _ (by omega)
        go_upto_region 13 with (fail)
        go_wp2_with (at_builtin; (refine wpList_append_lies _ rfl _ _ _ rfl w.heap.size 28 i28 _ 1 24 Tryd.underlying23 hi28 hz28 hz281 hz282 rfl (by omega) (.slice none 0 0) 0 [] rfl (World.ownsRow_nil _ _ _ _) ⟨wr.heap.size + 1, 0, none⟩ 1 1 [.slice none 0 0] rfl rfl (World.news_of_block (cs := #[.slice none 0 0]) (t := 28) (fr := (0, 0)) (by have := heap_alloc_new (wr.alloc (.cells #[.string x.1, .int .i64 x.2] 30)) (.cells #[.slice none 0 0] 28); simpa using this)) (by simp [Value.oneCell']) (by omega) (by unfold maxLen; omega) (by omega) (by simp; omega) (wr.heap.size + 2) (by simp) ?_; intro g cap w2 hown2 hgrow2 hat2 hlt2))
        have hg2 : g ≠ wr.heap.size := by
          rcases hat2 with h | h
          · simp [Value.ownBlock] at h
          · omega
        have k14 : keep3 w2 g 0 wr.heap.size x := ⟨hown2.frozenAt _, hgrow2.cell (by simp [go_sem]) (by simp [Value.ownBlock]), hgrow2.cell (by simp [go_sem]) (by simp [Value.ownBlock])⟩
        have q1 : w2.cell? ⟨g, 0, none⟩ = some (.slice none 0 0) := by rw [hown2.cellAt 0 (by simp)]; rfl
        have hb2 : rows2 w2 w.heap.size [] [] (.slice (some ⟨g, 0, none⟩) (0 + 1) cap) [] (.slice none 0 0) w2.heap.size := by
          exact ⟨by simpa using hown2, ⟨rfl, by simp⟩, World.ownsRow_nil _ _ _ _, by have := hgrow2.size; simp at this; omega, Nat.le_refl _, by simp [rowOk], by simp⟩
        have HB2 := Lib.hid hb2
        have hbw2 : Below w.heap.size w w2 := ((hbw.alloc (by omega) _).alloc (by simp; omega) _).grown hgrow2 (by simp; omega) (by simp [Value.ownBlock])
        have hu1 : some g ≠ (Value.slice none 0 0).ownBlock := by simp [Value.ownBlock]
        have hu2 : some wr.heap.size ≠ (Value.slice none 0 0).ownBlock := by simp [Value.ownBlock]
        clear hb2 hown2 hgrow2 hat2
        obtain ⟨q2, q3, q4⟩ := k14
        have hgz : g < w2.heap.size := World.block_lt_of_cell? w2 _ q1
        have q1a : ∀ o : Obj, (w2.alloc o).cell? ⟨g, 0, none⟩ = some (Value.slice none 0 0) := fun o => by rw [World.cell?_alloc_some _ _ _ (by rw [q1]; rfl)]; exact q1
        have hbase2 : w2.heap.size ≤ w2.heap.size := HB2.out.2.2.2.2.1
        have q3a : ∀ o : Obj, (w2.alloc o).cell? ⟨wr.heap.size, 0, none⟩ = some (.string x.1) := fun o => by rw [World.cell?_alloc_some _ _ _ (by rw [q3]; rfl)]; exact q3
        have q4a : ∀ o : Obj, (w2.alloc o).cell? ⟨wr.heap.size, 1, none⟩ = some (.int .i64 x.2) := fun o => by rw [World.cell?_alloc_some _ _ _ (by rw [q4]; rfl)]; exact q4
        go_region_law ((refine step_append_lies _ (by rfl) _ _ _ (by rfl) w2.heap.size 9 i9 _ 1 16 Tryd.underlying28 hi9 hz9 hz91 hz92 rfl (by omega) (Value.slice none 0 0) ([] : List ByteArray).length (strs ([] : List ByteArray)) (by rfl) ((HB2.out.2.2.1.alloc _).drew) ⟨w2.heap.size, 0, none⟩ 1 1 [.string x.1] (by rfl) (by rfl) (World.news_of_block (cs := #[.string x.1]) (t := 9) (fr := (0, 0)) (heap_alloc_new w2 _)) (by simp [Value.oneCell']) (by omega) (by unfold maxLen; first | omega | (simp <;> omega)) (by first | omega | (simp <;> omega)) (by first | omega | (simp <;> omega)) (w2.heap.size + 1) (by simp) ?_; intro g3 cap3 w3 hown3 hgrow3 hat3 hlt3; have q1b : w3.cell? ⟨g, 0, none⟩ = some (Value.slice none 0 0) := hgrow3.cell (q1a (.cells #[.string x.1] 9)) hu1; have q2b := keep3.go (keep3.go ⟨q2, q3, q4⟩ (grown_alloc_drew w2 (.cells #[.string x.1] 9)) hgz (by simp) (by simp)) hgrow3 (by first | omega | (simp <;> omega)) hu1 hu2; obtain ⟨q2c, q3c, q4c⟩ := q2b; have q4d : ∀ u : Value, (w3.setCell ⟨g, 0, none⟩ u).cell? ⟨wr.heap.size, 1, none⟩ = some (.int .i64 x.2) := fun u => (keep3.set (v := u) ⟨q2c, q3c, q4c⟩ hg2).2.2))
        all_goals (
          have hgr := grown_of_alloc hgrow3
          have hpush0 := (HB2.out).push hown3 hgr (by first | omega | (simp <;> omega)) hxs
          have hpush := Lib.hid hpush0
          clear hpush0
          have hbw4 := (hbw2.grown hgr hbw2.size (by simp [Value.ownBlock])).setCell (p := ⟨g, 0, none⟩) (show w.heap.size ≤ g from (HB2.out.1.lt g rfl).1) (.slice (some ⟨g3, 0, none⟩) (([] : List ByteArray).length + 1) cap3)
          clear q1 q1a q1b q2 q3 q4 q3a q4a q2c q3c q4c q4d hgrow3 hown3 hgr
          go_wp2_with fail
          go_roundw
          case rel => exact ⟨k + 1, [] ++ [([] : List ByteArray) ++ [x.1]], x.2, by omega, by go_num, by rfl, hbw4, by simp, by omega, by omega, by rw [HG.out, drop_of Hx.out]; rfl, Or.inr ⟨[], ([] : List ByteArray) ++ [x.1], [], _, w2.heap.size, g, cap, rfl, rfl, by simp, hpush⟩⟩
          case measure => (simp [intOf]; omega)
          )
      · obtain ⟨Au, cu, rfl⟩ := own_slice HB.out.2.2.1
        obtain ⟨i9, hi9, hz9, hz91, hz92⟩ := info_parts (P := Tryd.prog) (e := 9) (z := .string ⟨#[]⟩) (size := 1) (bytes := 16) (by kernel_rfl)
        obtain ⟨i28, hi28, hz28, hz281, hz282⟩ := info_parts (P := Tryd.prog) (e := 28) (z := .slice none 0 0) (size := 1) (bytes := 24) (by kernel_rfl)
        have hvl : vals.length = done.length := HB.out.2.1.1
        have hdk : done.length + 1 ≤ k := by simpa using hrk
        have hc1 : wr.cell? ⟨g0, done.length, none⟩ = some (.slice Au cur.length cu) := by rw [HB.out.1.cellAt done.length (by omega), List.getElem?_append_right (by omega), hvl]; simp
        have hg0z : g0 < wr.heap.size := World.block_lt_of_cell? wr _ hc1
        have hfr : wr.frozen? ⟨g0, done.length, none⟩ = false := HB.out.1.frozenAt _
        have hcz : cur.length ≤ 4000 := HB.out.2.2.2.2.2.1
        have e1 : IntKind.i64.wrap ((done.length : Int) + 1 - 1) = (done.length : Int) := (IntWalk.i64_in _ (by omega)).trans (by omega)
        have e2 : decide ((done.length : Int) < 0) = false := by simp
        have e3 : IntKind.i64.wrap ((done.length : Int) + 1) = (done.length : Int) + 1 := IntWalk.i64_in _ (by omega)
        have hwx : IntKind.i64.wrap x.2 = x.2 := IntWalk.i64_in _ (by omega)
        have hws : IntKind.i64.wrap (s + x.2) = s + x.2 := IntWalk.i64_in _ (by omega)
        by_cases h1 : many ≤ (cur.length : Int)
        · have hd1 : decide ((cur.length : Int) ≥ many) = true := by simpa using h1
          have hcase : many ≤ (cur.length : Int) ∨ s + x.2 > most := Or.inl h1
          go_upto_region 13 with (fail)
          go_wp2_with (at_builtin; (refine wpList_append_lies _ rfl _ _ _ rfl w.heap.size 28 i28 _ 1 24 Tryd.underlying23 hi28 hz28 hz281 hz282 rfl (by omega) (.slice (some ⟨g0, 0, none⟩) (done.length + 1) cap0) (done.length + 1) (vals ++ [.slice Au cur.length cu]) rfl ((HB.out.1.alloc _).alloc _) ⟨wr.heap.size + 1, 0, none⟩ 1 1 [.slice none 0 0] rfl rfl (World.news_of_block (cs := #[.slice none 0 0]) (t := 28) (fr := (0, 0)) (by have := heap_alloc_new (wr.alloc (.cells #[.string x.1, .int .i64 x.2] 30)) (.cells #[.slice none 0 0] 28); simpa using this)) (by simp [Value.oneCell']) (by omega) (by unfold maxLen; omega) (by omega) (by simp; omega) (wr.heap.size + 2) (by simp) ?_; intro g cap w2 hown2 hgrow2 hat2 hlt2))
          have hg2 : g ≠ wr.heap.size := by
            rcases hat2 with h | h
            · (have e : g0 = g := by simpa [Value.ownBlock] using h); omega
            · omega
          have k14 : keep3 w2 g (done.length + 1) wr.heap.size x := ⟨hown2.frozenAt _, hgrow2.cell (by simp [go_sem]) (by simp [Value.ownBlock]; omega), hgrow2.cell (by simp [go_sem]) (by simp [Value.ownBlock]; omega)⟩
          have q1 : w2.cell? ⟨g, (done.length + 1), none⟩ = some (.slice none 0 0) := by rw [hown2.cellAt (done.length + 1) (by simp)]; simp [hvl]
          have hb2 : rows2 w2 w.heap.size (done ++ [cur]) [] (.slice (some ⟨g, 0, none⟩) ((done.length + 1) + 1) cap) (vals ++ [.slice Au cur.length cu]) (.slice none 0 0) w2.heap.size := by
            have := HB.out.begin hgrow2 hown2; simpa using this
          have HB2 := Lib.hid hb2
          have hbw2 : Below w.heap.size w w2 := ((hbw.alloc (by omega) _).alloc (by simp; omega) _).grown hgrow2 (by simp; omega) (fun b e => (HB.out.1.lt b e).1)
          have hu1 : some g ≠ (Value.slice none 0 0).ownBlock := by simp [Value.ownBlock]
          have hu2 : some wr.heap.size ≠ (Value.slice none 0 0).ownBlock := by simp [Value.ownBlock]
          clear hb2 hown2 hgrow2 hat2
          have i1 : (0 : Int) ≤ (done.length : Int) + 1 := by omega
          have i2 : ((done.length : Int) + 1).toNat = done.length + 1 := by omega
          have i3 : (done.length : Int) + 1 < (done.length : Int) + 1 + 1 := by omega
          obtain ⟨q2, q3, q4⟩ := k14
          have hgz : g < w2.heap.size := World.block_lt_of_cell? w2 _ q1
          have q1a : ∀ o : Obj, (w2.alloc o).cell? ⟨g, (done.length + 1), none⟩ = some (Value.slice none 0 0) := fun o => by rw [World.cell?_alloc_some _ _ _ (by rw [q1]; rfl)]; exact q1
          have hbase2 : w2.heap.size ≤ w2.heap.size := HB2.out.2.2.2.2.1
          have q3a : ∀ o : Obj, (w2.alloc o).cell? ⟨wr.heap.size, 0, none⟩ = some (.string x.1) := fun o => by rw [World.cell?_alloc_some _ _ _ (by rw [q3]; rfl)]; exact q3
          have q4a : ∀ o : Obj, (w2.alloc o).cell? ⟨wr.heap.size, 1, none⟩ = some (.int .i64 x.2) := fun o => by rw [World.cell?_alloc_some _ _ _ (by rw [q4]; rfl)]; exact q4
          go_region_law ((refine step_append_lies _ (by rfl) _ _ _ (by rfl) w2.heap.size 9 i9 _ 1 16 Tryd.underlying28 hi9 hz9 hz91 hz92 rfl (by omega) (Value.slice none 0 0) ([] : List ByteArray).length (strs ([] : List ByteArray)) (by rfl) ((HB2.out.2.2.1.alloc _).drew) ⟨w2.heap.size, 0, none⟩ 1 1 [.string x.1] (by rfl) (by rfl) (World.news_of_block (cs := #[.string x.1]) (t := 9) (fr := (0, 0)) (heap_alloc_new w2 _)) (by simp [Value.oneCell']) (by omega) (by unfold maxLen; first | omega | (simp <;> omega)) (by first | omega | (simp <;> omega)) (by first | omega | (simp <;> omega)) (w2.heap.size + 1) (by simp) ?_; intro g3 cap3 w3 hown3 hgrow3 hat3 hlt3; have q1b : w3.cell? ⟨g, (done.length + 1), none⟩ = some (Value.slice none 0 0) := hgrow3.cell (q1a (.cells #[.string x.1] 9)) hu1; have q2b := keep3.go (keep3.go ⟨q2, q3, q4⟩ (grown_alloc_drew w2 (.cells #[.string x.1] 9)) hgz (by simp) (by simp)) hgrow3 (by first | omega | (simp <;> omega)) hu1 hu2; obtain ⟨q2c, q3c, q4c⟩ := q2b; have q4d : ∀ u : Value, (w3.setCell ⟨g, (done.length + 1), none⟩ u).cell? ⟨wr.heap.size, 1, none⟩ = some (.int .i64 x.2) := fun u => (keep3.set (v := u) ⟨q2c, q3c, q4c⟩ hg2).2.2))
          all_goals (
            have hgr := grown_of_alloc hgrow3
            have hpush0 := ((show rows2 w2 w.heap.size (done ++ [cur]) [] (.slice (some ⟨g, 0, none⟩) ((done ++ [cur]).length + 1) cap) (vals ++ [.slice Au cur.length cu]) (.slice none 0 0) w2.heap.size by rw [List.length_append]; exact HB2.out)).push hown3 hgr (by first | omega | (simp <;> omega)) hxs
            simp only [List.length_append, List.length_singleton] at hpush0
            have hpush := Lib.hid hpush0
            clear hpush0
            have hbw4 := (hbw2.grown hgr hbw2.size (by simp [Value.ownBlock])).setCell (p := ⟨g, (done.length + 1), none⟩) (show w.heap.size ≤ g from (HB2.out.1.lt g rfl).1) (.slice (some ⟨g3, 0, none⟩) (([] : List ByteArray).length + 1) cap3)
            clear q1 q1a q1b q2 q3 q4 q3a q4a q2c q3c q4c q4d hgrow3 hown3 hgr
            go_wp2_with fail
            go_roundw
            case rel => exact ⟨k + 1, (done ++ [cur]) ++ [([] : List ByteArray) ++ [x.1]], x.2, by omega, by go_num, by rfl, hbw4, by (simp; omega), by omega, by omega, by rw [HG.out, drop_of Hx.out, List.foldl_cons, bStep_new hcase]; rfl, Or.inr ⟨(done ++ [cur]), ([] : List ByteArray) ++ [x.1], (vals ++ [.slice Au cur.length cu]), _, w2.heap.size, g, cap, rfl, by simp, by simp, hpush⟩⟩
            case measure => (simp [intOf]; omega)
            )
        have hd1 : decide ((cur.length : Int) ≥ many) = false := by simpa using h1
        by_cases h2 : s + x.2 > most
        · have hd2 : decide (s + x.2 > most) = true := by simpa using h2
          have hcase : many ≤ (cur.length : Int) ∨ s + x.2 > most := Or.inr h2
          go_upto_region 13 with (fail)
          go_wp2_with (at_builtin; (refine wpList_append_lies _ rfl _ _ _ rfl w.heap.size 28 i28 _ 1 24 Tryd.underlying23 hi28 hz28 hz281 hz282 rfl (by omega) (.slice (some ⟨g0, 0, none⟩) (done.length + 1) cap0) (done.length + 1) (vals ++ [.slice Au cur.length cu]) rfl ((HB.out.1.alloc _).alloc _) ⟨wr.heap.size + 1, 0, none⟩ 1 1 [.slice none 0 0] rfl rfl (World.news_of_block (cs := #[.slice none 0 0]) (t := 28) (fr := (0, 0)) (by have := heap_alloc_new (wr.alloc (.cells #[.string x.1, .int .i64 x.2] 30)) (.cells #[.slice none 0 0] 28); simpa using this)) (by simp [Value.oneCell']) (by omega) (by unfold maxLen; omega) (by omega) (by simp; omega) (wr.heap.size + 2) (by simp) ?_; intro g cap w2 hown2 hgrow2 hat2 hlt2))
          have hg2 : g ≠ wr.heap.size := by
            rcases hat2 with h | h
            · (have e : g0 = g := by simpa [Value.ownBlock] using h); omega
            · omega
          have k14 : keep3 w2 g (done.length + 1) wr.heap.size x := ⟨hown2.frozenAt _, hgrow2.cell (by simp [go_sem]) (by simp [Value.ownBlock]; omega), hgrow2.cell (by simp [go_sem]) (by simp [Value.ownBlock]; omega)⟩
          have q1 : w2.cell? ⟨g, (done.length + 1), none⟩ = some (.slice none 0 0) := by rw [hown2.cellAt (done.length + 1) (by simp)]; simp [hvl]
          have hb2 : rows2 w2 w.heap.size (done ++ [cur]) [] (.slice (some ⟨g, 0, none⟩) ((done.length + 1) + 1) cap) (vals ++ [.slice Au cur.length cu]) (.slice none 0 0) w2.heap.size := by
            have := HB.out.begin hgrow2 hown2; simpa using this
          have HB2 := Lib.hid hb2
          have hbw2 : Below w.heap.size w w2 := ((hbw.alloc (by omega) _).alloc (by simp; omega) _).grown hgrow2 (by simp; omega) (fun b e => (HB.out.1.lt b e).1)
          have hu1 : some g ≠ (Value.slice none 0 0).ownBlock := by simp [Value.ownBlock]
          have hu2 : some wr.heap.size ≠ (Value.slice none 0 0).ownBlock := by simp [Value.ownBlock]
          clear hb2 hown2 hgrow2 hat2
          have i1 : (0 : Int) ≤ (done.length : Int) + 1 := by omega
          have i2 : ((done.length : Int) + 1).toNat = done.length + 1 := by omega
          have i3 : (done.length : Int) + 1 < (done.length : Int) + 1 + 1 := by omega
          obtain ⟨q2, q3, q4⟩ := k14
          have hgz : g < w2.heap.size := World.block_lt_of_cell? w2 _ q1
          have q1a : ∀ o : Obj, (w2.alloc o).cell? ⟨g, (done.length + 1), none⟩ = some (Value.slice none 0 0) := fun o => by rw [World.cell?_alloc_some _ _ _ (by rw [q1]; rfl)]; exact q1
          have hbase2 : w2.heap.size ≤ w2.heap.size := HB2.out.2.2.2.2.1
          have q3a : ∀ o : Obj, (w2.alloc o).cell? ⟨wr.heap.size, 0, none⟩ = some (.string x.1) := fun o => by rw [World.cell?_alloc_some _ _ _ (by rw [q3]; rfl)]; exact q3
          have q4a : ∀ o : Obj, (w2.alloc o).cell? ⟨wr.heap.size, 1, none⟩ = some (.int .i64 x.2) := fun o => by rw [World.cell?_alloc_some _ _ _ (by rw [q4]; rfl)]; exact q4
          go_region_law ((refine step_append_lies _ (by rfl) _ _ _ (by rfl) w2.heap.size 9 i9 _ 1 16 Tryd.underlying28 hi9 hz9 hz91 hz92 rfl (by omega) (Value.slice none 0 0) ([] : List ByteArray).length (strs ([] : List ByteArray)) (by rfl) ((HB2.out.2.2.1.alloc _).drew) ⟨w2.heap.size, 0, none⟩ 1 1 [.string x.1] (by rfl) (by rfl) (World.news_of_block (cs := #[.string x.1]) (t := 9) (fr := (0, 0)) (heap_alloc_new w2 _)) (by simp [Value.oneCell']) (by omega) (by unfold maxLen; first | omega | (simp <;> omega)) (by first | omega | (simp <;> omega)) (by first | omega | (simp <;> omega)) (w2.heap.size + 1) (by simp) ?_; intro g3 cap3 w3 hown3 hgrow3 hat3 hlt3; have q1b : w3.cell? ⟨g, (done.length + 1), none⟩ = some (Value.slice none 0 0) := hgrow3.cell (q1a (.cells #[.string x.1] 9)) hu1; have q2b := keep3.go (keep3.go ⟨q2, q3, q4⟩ (grown_alloc_drew w2 (.cells #[.string x.1] 9)) hgz (by simp) (by simp)) hgrow3 (by first | omega | (simp <;> omega)) hu1 hu2; obtain ⟨q2c, q3c, q4c⟩ := q2b; have q4d : ∀ u : Value, (w3.setCell ⟨g, (done.length + 1), none⟩ u).cell? ⟨wr.heap.size, 1, none⟩ = some (.int .i64 x.2) := fun u => (keep3.set (v := u) ⟨q2c, q3c, q4c⟩ hg2).2.2))
          all_goals (
            have hgr := grown_of_alloc hgrow3
            have hpush0 := ((show rows2 w2 w.heap.size (done ++ [cur]) [] (.slice (some ⟨g, 0, none⟩) ((done ++ [cur]).length + 1) cap) (vals ++ [.slice Au cur.length cu]) (.slice none 0 0) w2.heap.size by rw [List.length_append]; exact HB2.out)).push hown3 hgr (by first | omega | (simp <;> omega)) hxs
            simp only [List.length_append, List.length_singleton] at hpush0
            have hpush := Lib.hid hpush0
            clear hpush0
            have hbw4 := (hbw2.grown hgr hbw2.size (by simp [Value.ownBlock])).setCell (p := ⟨g, (done.length + 1), none⟩) (show w.heap.size ≤ g from (HB2.out.1.lt g rfl).1) (.slice (some ⟨g3, 0, none⟩) (([] : List ByteArray).length + 1) cap3)
            clear q1 q1a q1b q2 q3 q4 q3a q4a q2c q3c q4c q4d hgrow3 hown3 hgr
            go_wp2_with fail
            go_roundw
            case rel => exact ⟨k + 1, (done ++ [cur]) ++ [([] : List ByteArray) ++ [x.1]], x.2, by omega, by go_num, by rfl, hbw4, by (simp; omega), by omega, by omega, by rw [HG.out, drop_of Hx.out, List.foldl_cons, bStep_new hcase]; rfl, Or.inr ⟨(done ++ [cur]), ([] : List ByteArray) ++ [x.1], (vals ++ [.slice Au cur.length cu]), _, w2.heap.size, g, cap, rfl, by simp, by simp, hpush⟩⟩
            case measure => (simp [intOf]; omega)
            )
        · have hd2 : decide (s + x.2 > most) = false := by simpa using h2
          go_upto_region 14 with (fail)
          have HB2a := HB.out.alloc (.cells #[.string x.1, .int .i64 x.2] 30)
          have q1' : (wr.alloc (.cells #[.string x.1, .int .i64 x.2] 30)).cell? ⟨g0, done.length, none⟩ = some (.slice Au cur.length cu) := by rw [World.cell?_alloc_some _ _ _ (by rw [hc1]; rfl)]; exact hc1
          have k14' : keep3 (wr.alloc (.cells #[.string x.1, .int .i64 x.2] 30)) g0 done.length wr.heap.size x := ⟨HB2a.1.frozenAt _, by simp [go_sem], by simp [go_sem]⟩
          have hbw2' : Below w.heap.size w (wr.alloc (.cells #[.string x.1, .int .i64 x.2] 30)) := hbw.alloc (by omega) _
          have hg2 : g0 ≠ wr.heap.size := by omega
          have hu1 : some g0 ≠ (Value.slice Au cur.length cu).ownBlock := fun e => by
            rcases own_types HB.out.2.2.1 HB.out.1 (by decide) with h | h
            · rw [h] at e; cases e
            · exact h e.symm
          have hu2 : some wr.heap.size ≠ (Value.slice Au cur.length cu).ownBlock := fun e => by
            have := (HB.out.2.2.1.lt _ e.symm).2
            omega
          have HB2 := Lib.hid HB2a
          clear HB2a
          generalize wr.alloc (.cells #[.string x.1, .int .i64 x.2] 30) = w2 at q1' k14' hbw2' HB2 ⊢
          have q1 := q1'
          have k14 := k14'
          have hbw2 := hbw2'
          have hmc : cur.length < 4000 := by omega
          clear q1' k14' hbw2'
          have i1 : (done.length : Int) < (done.length : Int) + 1 := by omega
          obtain ⟨q2, q3, q4⟩ := k14
          have hgz : g0 < w2.heap.size := World.block_lt_of_cell? w2 _ q1
          have q1a : ∀ o : Obj, (w2.alloc o).cell? ⟨g0, done.length, none⟩ = some (Value.slice Au cur.length cu) := fun o => by rw [World.cell?_alloc_some _ _ _ (by rw [q1]; rfl)]; exact q1
          have hbase2 : B0 ≤ w2.heap.size := HB2.out.2.2.2.2.1
          have q3a : ∀ o : Obj, (w2.alloc o).cell? ⟨wr.heap.size, 0, none⟩ = some (.string x.1) := fun o => by rw [World.cell?_alloc_some _ _ _ (by rw [q3]; rfl)]; exact q3
          have q4a : ∀ o : Obj, (w2.alloc o).cell? ⟨wr.heap.size, 1, none⟩ = some (.int .i64 x.2) := fun o => by rw [World.cell?_alloc_some _ _ _ (by rw [q4]; rfl)]; exact q4
          go_region_law ((refine step_append_lies _ (by rfl) _ _ _ (by rfl) B0 9 i9 _ 1 16 Tryd.underlying28 hi9 hz9 hz91 hz92 rfl (by omega) (Value.slice Au cur.length cu) cur.length (strs cur) (by rfl) ((HB2.out.2.2.1.alloc _).drew) ⟨w2.heap.size, 0, none⟩ 1 1 [.string x.1] (by rfl) (by rfl) (World.news_of_block (cs := #[.string x.1]) (t := 9) (fr := (0, 0)) (heap_alloc_new w2 _)) (by simp [Value.oneCell']) (by omega) (by unfold maxLen; first | omega | (simp <;> omega)) (by first | omega | (simp <;> omega)) (by first | omega | (simp <;> omega)) (w2.heap.size + 1) (by simp) ?_; intro g3 cap3 w3 hown3 hgrow3 hat3 hlt3; have q1b : w3.cell? ⟨g0, done.length, none⟩ = some (Value.slice Au cur.length cu) := hgrow3.cell (q1a (.cells #[.string x.1] 9)) hu1; have q2b := keep3.go (keep3.go ⟨q2, q3, q4⟩ (grown_alloc_drew w2 (.cells #[.string x.1] 9)) hgz (by simp) (by simp)) hgrow3 (by first | omega | (simp <;> omega)) hu1 hu2; obtain ⟨q2c, q3c, q4c⟩ := q2b; have q4d : ∀ u : Value, (w3.setCell ⟨g0, done.length, none⟩ u).cell? ⟨wr.heap.size, 1, none⟩ = some (.int .i64 x.2) := fun u => (keep3.set (v := u) ⟨q2c, q3c, q4c⟩ hg2).2.2))
          all_goals (
            have hgr := grown_of_alloc hgrow3
            have hpush0 := (HB2.out).push hown3 hgr (by first | omega | (simp <;> omega)) hxs
            have hpush := Lib.hid hpush0
            clear hpush0
            have hbw4 := (hbw2.grown hgr hbw2.size (by exact fun b e => Nat.le_trans HB2.out.2.2.2.1 (HB2.out.2.2.1.lt b e).1)).setCell (p := ⟨g0, done.length, none⟩) (show w.heap.size ≤ g0 from (HB2.out.1.lt g0 rfl).1) (.slice (some ⟨g3, 0, none⟩) (cur.length + 1) cap3)
            clear q1 q1a q1b q2 q3 q4 q3a q4a q2c q3c q4c q4d hgrow3 hown3 hgr
            go_wp2_with fail
            go_roundw
            case rel => exact ⟨k + 1, done ++ [cur ++ [x.1]], (s + x.2), by omega, by go_num, by rfl, hbw4, by (simp; omega), by omega, by omega, by rw [HG.out, drop_of Hx.out, List.foldl_cons, bStep_old (by omega) (by omega)]; rfl, Or.inr ⟨done, cur ++ [x.1], vals, _, B0, g0, cap0, rfl, rfl, by (simp; omega), hpush⟩⟩
            case measure => (simp [intOf]; omega)
            )
    · obtain rfl : k = n := by omega
      have HF : Hid (batches l most many = (rows, 0)) := by
        have e := HG.out
        have := HL.out
        rw [List.drop_of_length_le (by omega)] at e
        rw [HS.out, e]; rfl
      rcases hrows with ⟨rfl, rfl⟩ | ⟨done, cur, vals, u, B0, g, cap, rfl, rfl, hcl, HB⟩
      · go_wp2_with fail
        go_ret2
        refine ⟨_, rfl, hbw, ?_⟩
        rw [HF.out]
        exact PRows.none_
      · have hfin := (HB.out.all).toSl (v := .slice (some ⟨g, 0, none⟩) (done.length + 1) cap) (by simpa using HB.out.1) (by simp at hrk ⊢; omega)
        have HFin := Lib.hid hfin
        clear hfin
        go_wp2_with fail
        go_ret2
        refine ⟨_, rfl, hbw, ?_⟩
        rw [HF.out]
        exact ⟨some ⟨g, 0, none⟩, cap, by simp, by simpa using HFin.out⟩
end Go.Proofs.YteoojplgchlhcaaDoor
