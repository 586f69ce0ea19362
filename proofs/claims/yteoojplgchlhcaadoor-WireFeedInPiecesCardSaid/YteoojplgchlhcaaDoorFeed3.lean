/-
  The walk of headOf.
-/
import Derived.Test.YteoojplgchlhcaaDoorFeed2
namespace Go.Proofs.YteoojplgchlhcaaDoor
open Go.RowKit
set_option linter.unusedVariables false
set_option linter.unusedSimpArgs false

theorem blk_alloc {w : World} {g : Nat} {t : TypeId} {cs : List Value} (h : w.heap.size = g) : blk (w.alloc (.cells cs.toArray t)) g t cs := by
  subst h; exact heap_alloc_new w _
def headCode (l : List UInt8) : Int := msgCode (headOfL l).1.1 (headOfL l).1.2.1 (headOfL l).1.2.2.1 (headOfL l).1.2.2.2.1 (headOfL l).2
set_option maxHeartbeats 4000000 in
set_option maxRecDepth 100000 in
theorem headOf_any (A : Option Addr) (n c B : Nat) (l : List UInt8) (w : World) (h : rBytes w B l [.slice A n c]) (hB : B ≤ w.heap.size) (hn : 24 ≤ n) :
    Calls Tryd.prog 42 #[.slice A n c] w fun e w' => e = .returned (.tuple #[.agg #[.int .i64 (headOfL l).1.1, .string (headOfL l).1.2.1, .int .i64 (headOfL l).1.2.2.1, .int .i64 (headOfL l).1.2.2.2.1, .slice none 0 0], .int .i64 (headOfL l).2, .int .i64 (headCode l)]) ∧ Below w.heap.size w w' := by
  have hln := h.len
  obtain ⟨hm1', hm1, _⟩ := h.le
  obtain ⟨b, o, x, rfl, hb, hx, hc, hx1, hx2⟩ := rBytes_at h (show 0 < n by omega)
  have H := Lib.hid h
  have HL := Lib.hid hln
  have HX := Lib.hid hx
  clear h hln hx
  go_enter Tryd.func42, Tryd.ntmps42
  go_wp2_with fail
  have hb0 : Below w.heap.size w (w.alloc (.cells #[.int .i64 0, .string ⟨#[]⟩, .int .i64 0, .int .i64 0, .slice none 0 0] 64)) := (Below.refl _ _).alloc (Nat.le_refl _) _
  have hz0 : w.heap.size < (w.alloc (.cells #[.int .i64 0, .string ⟨#[]⟩, .int .i64 0, .int .i64 0, .slice none 0 0] 64)).heap.size := by simp
  have hres : blk (w.alloc (.cells #[.int .i64 0, .string ⟨#[]⟩, .int .i64 0, .int .i64 0, .slice none 0 0] 64)) w.heap.size 64 [.int .i64 0, .string ⟨#[]⟩, .int .i64 0, .int .i64 0, .slice none 0 0] := heap_alloc_new w _
  generalize w.alloc (.cells #[.int .i64 0, .string ⟨#[]⟩, .int .i64 0, .int .i64 0, .slice none 0 0] 64) = W0 at hb0 hz0 hres ⊢
  have hc0 : W0.cell? ⟨b, o, none⟩ = some (.int .u8 x.toNat) := (hb0.cell (p := ⟨b, _, none⟩) (show b < _ by omega)).trans (by rw [Nat.add_zero] at hc; exact hc)
  have hc9 : ∀ ob, (W0.alloc ob).cell? ⟨b, o, none⟩ = some (.int .u8 x.toNat) := fun ob => by rw [World.cell?_alloc_some _ _ _ (by rw [hc0]; rfl)]; exact hc0
  have hk1 : ∀ W, Below w.heap.size w W → rBytes W B ((l.drop 1).take 16) [.slice (some ⟨b, o + 1, none⟩) 16 (c - 1)] := fun W hW => by
    have := rBytes.cut1 (rSl.keep H.out (hW.mono hB) (Nat.le_refl _)) (show 1 ≤ 17 by decide) (by omega)
    rw [if_neg (by omega), Option.map_some, Addr.add_lit] at this; exact this
  have hk2 : ∀ W, Below w.heap.size w W → rBytes W B ((l.drop 17).take 4) [.slice (some ⟨b, o + 17, none⟩) 4 (c - 17)] := fun W hW => by
    have := rBytes.cut1 (rSl.keep H.out (hW.mono hB) (Nat.le_refl _)) (show 17 ≤ 21 by decide) (by omega)
    rw [if_neg (by omega), Option.map_some, Addr.add_lit] at this; exact this
  have hk3 : ∀ W, Below w.heap.size w W → rBytes W B ((l.drop 21).take 3) [.slice (some ⟨b, o + 21, none⟩) 3 (c - 21)] := fun W hW => by
    have := rBytes.cut1 (rSl.keep H.out (hW.mono hB) (Nat.le_refl _)) (show 21 ≤ 24 by decide) (by omega)
    rw [if_neg (by omega), Option.map_some, Addr.add_lit] at this; exact this
  have hcv1 := convB (hk1 W0.drew hb0.drew)
  have hcv2 : ∀ ob, (convert 32 9 (.slice (some ⟨b, o + 1, none⟩) 16 (c - 1))).run Tryd.prog (W0.alloc ob).drew = .ok (.string ⟨((l.drop 1).take 16).toArray⟩) (W0.alloc ob).drew := fun ob => convB (hk1 _ (hb0.alloc (by omega) _).drew)
  have K2 := Lib.hid hk2
  have K3 := Lib.hid hk3
  clear hk1 hk2 hk3
  have i1 : (24 : Int) ≤ n := by omega
  have i3 : (0 : Int) < n := by omega
  have i4 : 0 < n := by omega
  have i2 : (n : Int) ≤ c := by omega
  have hdg : (headOfL l).1.2.1 = ⟨((l.drop 1).take 16).toArray⟩ := rfl
  have hkd : (headOfL l).1.1 = (x.toNat : Int) := by
    have h := HX.out
    unfold headOfL
    cases l with
    | nil => simp at h
    | cons y r => simp at h; simp [h]
  generalize hD : (⟨((l.drop 1).take 16).toArray⟩ : ByteArray) = dg at hcv1 hcv2 hdg
  have HD := Lib.hid hdg
  have HKD := Lib.hid hkd
  clear hD hdg hkd
  go_region
  have hb1 : Below w.heap.size w (W0.alloc (.cells #[.int .i64 x.toNat, .string dg, .int .i64 0, .int .i64 0, .slice none 0 0] 64)).drew := (hb0.alloc (by omega) _).drew
  have hm : blk (W0.alloc (.cells #[.int .i64 x.toNat, .string dg, .int .i64 0, .int .i64 0, .slice none 0 0] 64)).drew W0.heap.size 64 [.int .i64 x.toNat, .string dg, .int .i64 0, .int .i64 0, .slice none 0 0] := heap_alloc_new W0 _
  have hr := (hres.alloc (.cells #[.int .i64 x.toNat, .string dg, .int .i64 0, .int .i64 0, .slice none 0 0] 64)).drew
  generalize (W0.alloc (.cells #[.int .i64 x.toNat, .string dg, .int .i64 0, .int .i64 0, .slice none 0 0] 64)).drew = W1 at hb1 hm hr ⊢
  have hmc : ∀ i, W1.cell? ⟨W0.heap.size, i, none⟩ = ([.int .i64 x.toNat, .string dg, .int .i64 0, .int .i64 0, .slice none 0 0] : List Value)[i]? := fun i => hm.cell i
  have hmf : ∀ i, W1.frozen? ⟨W0.heap.size, i, none⟩ = false := fun i => hm.free i
  have hrc : ∀ i, W1.cell? ⟨w.heap.size, i, none⟩ = ([.int .i64 0, .string ⟨#[]⟩, .int .i64 0, .int .i64 0, .slice none 0 0] : List Value)[i]? := fun i => hr.cell i
  have hrf : ∀ i, W1.frozen? ⟨w.heap.size, i, none⟩ = false := fun i => hr.free i
  clear hc0 hc9 hcv1 hcv2 hres
  have hn3 : numOf ((l.drop 21).take 3) < 16777216 := by
    have := numOf_lt ((l.drop 21).take 3)
    have h2 : ((l.drop 21).take 3).length ≤ 3 := by rw [List.length_take]; omega
    exact Nat.lt_of_lt_of_le this (Nat.le_trans (Nat.pow_le_pow_right (by decide) h2) (by decide))
  have HQ2 : Hid (∀ q, rBytes (W1.drewN q) B ((l.drop 17).take 4) [.slice (some ⟨b, o + 17, none⟩) 4 (c - 17)]) := fun q => K2.out _ (drewN_below hb1 q)
  have HQ3 : Hid (∀ q, rBytes (W1.drewN q) B ((l.drop 21).take 3) [.slice (some ⟨b, o + 21, none⟩) 3 (c - 21)]) := fun q => K3.out _ (drewN_below hb1 q)
  have hmn := @run_min_int Tryd.prog
  obtain ⟨mm, hmm⟩ : ∃ m : Nat, min ((numOf ((l.drop 21).take 3) : Nat) : Int) 65537 = m := ⟨min (numOf ((l.drop 21).take 3)) 65537, by omega⟩
  have hmm2 : mm ≤ 65537 := by omega
  have hmk1 : ∀ u : World, (Instr.makeSlice 32 (.int .i64 (mm : Int)) (.int .i64 (mm : Int))).run Tryd.prog u = .ok (.slice (some ⟨u.heap.size, 0, none⟩) mm mm) (u.alloc (.cells (madeCells #[.int .u8 0] mm) 5)) := fun u => by
    obtain ⟨i0, hi, h1, h2, h3⟩ := info_parts (P := Tryd.prog) (e := 5) (z := .int .u8 0) (size := 1) (bytes := 1) (by kernel_rfl)
    have h := run_make (P := Tryd.prog) u 32 5 i0 (.int .u8 0) Tryd.underlying32 hi h1 .i64 .i64 (mm : Int) (mm : Int) (by omega) (Int.le_refl _) (by rw [h3]; omega) (by omega)
    rw [h2, Int.toNat_natCast, Nat.mul_one] at h
    exact h
  have HMM : Hid (∀ (k : Int) d f s, msgCode k d f s mm = msgCode k d f s (numOf ((l.drop 21).take 3) : Nat)) := by
    intro k d f s
    unfold msgCode
    have q1 : (((mm : Nat) : Int) > 65536) ↔ (((numOf ((l.drop 21).take 3) : Nat) : Int) > 65536) := by omega
    have q2 : ((0 : Int) < ((mm : Nat) : Int)) ↔ ((0 : Int) < ((numOf ((l.drop 21).take 3) : Nat) : Int)) := by omega
    simp only [q1, q2]
  have hds : dg.size ≤ 140737488355328 := by
    have h := HD.out
    rw [← h]
    show (((l.drop 1).take 16).toArray.size : Nat) ≤ _
    simp; omega
  by_cases h1 : x.toNat = 1
  · have e1 : ((x.toNat : Int) == 1) = true := by simp [h1]
    have HE : Hid (headOfL l = (((x.toNat : Int), dg, 0, ((numOf ((l.drop 17).take 4) : Nat) : Int), []), numOf ((l.drop 21).take 3))) := by
      have h2 := HKD.out
      have h3 := HD.out
      unfold headOfL at h2 h3 ⊢
      simp only at h2 h3 ⊢
      rw [h2, h3, if_pos (by rw [h1]; rfl), if_pos (by rw [h1]; rfl)]; rfl
    go_wp2_with fail
    go_quiet ((first
      | (go_at_call 50; with_reducible exact (valueOf_any _ _ _ _ _ _ (HQ2.out _) (by decide)).mono fun _ _ h => ⟨h.1, _, h.2.symm⟩)
      | (go_at_call 50; with_reducible exact (valueOf_any _ _ _ _ _ _ (HQ3.out _) (by decide)).mono fun _ _ h => ⟨h.1, _, h.2.symm⟩)))
    have hb2 := drewN_below hb1 nq
    have hm2 : blk (W1.drewN nq) W0.heap.size 64 [.int .i64 x.toNat, .string dg, .int .i64 0, .int .i64 0, .slice none 0 0] := hm
    have hr2 : blk (W1.drewN nq) w.heap.size 64 [.int .i64 0, .string ⟨#[]⟩, .int .i64 0, .int .i64 0, .slice none 0 0] := hr
    clear hm hr hb1
    generalize W1.drewN nq = W2 at hb2 hm2 hr2 ⊢
    have hmc : ∀ i, W2.cell? ⟨W0.heap.size, i, none⟩ = ([.int .i64 x.toNat, .string dg, .int .i64 0, .int .i64 0, .slice none 0 0] : List Value)[i]? := fun i => hm2.cell i
    have hmf : ∀ i, W2.frozen? ⟨W0.heap.size, i, none⟩ = false := fun i => hm2.free i
    have hrc : ∀ i, W2.cell? ⟨w.heap.size, i, none⟩ = ([.int .i64 0, .string ⟨#[]⟩, .int .i64 0, .int .i64 0, .slice none 0 0] : List Value)[i]? := fun i => hr2.cell i
    have hrf : ∀ i, W2.frozen? ⟨w.heap.size, i, none⟩ = false := fun i => hr2.free i
    go_wp2_with fail
    rw [show ((x.toNat : Nat) : Int) = 1 by omega] at hm2
    have hz2 := hb2.size
    have hzm : W0.heap.size < W2.heap.size := hm2.lt
    have hb3 : Below w.heap.size w (((W2.setCell ⟨W0.heap.size, 3, none⟩ (.int .i64 ((numOf ((l.drop 17).take 4) : Nat) : Int))).alloc (.cells #[.int .i64 1, .string dg, .int .i64 0, .int .i64 ((numOf ((l.drop 17).take 4) : Nat) : Int), .slice (some ⟨W2.heap.size + 1, 0, none⟩) mm mm] 64)).alloc (.cells (madeCells #[.int .u8 0] mm) 5)) := ((hb2.setCell (by simp; omega) _).alloc (by simp; omega) _).alloc (by simp; omega) _
    have hm3 : blk (((W2.setCell ⟨W0.heap.size, 3, none⟩ (.int .i64 ((numOf ((l.drop 17).take 4) : Nat) : Int))).alloc (.cells #[.int .i64 1, .string dg, .int .i64 0, .int .i64 ((numOf ((l.drop 17).take 4) : Nat) : Int), .slice (some ⟨W2.heap.size + 1, 0, none⟩) mm mm] 64)).alloc (.cells (madeCells #[.int .u8 0] mm) 5)) W0.heap.size 64 [.int .i64 1, .string dg, .int .i64 0, .int .i64 ((numOf ((l.drop 17).take 4) : Nat) : Int), .slice none 0 0] := ((hm2.set_ 3 _).alloc _).alloc _
    have hr3 : blk (((W2.setCell ⟨W0.heap.size, 3, none⟩ (.int .i64 ((numOf ((l.drop 17).take 4) : Nat) : Int))).alloc (.cells #[.int .i64 1, .string dg, .int .i64 0, .int .i64 ((numOf ((l.drop 17).take 4) : Nat) : Int), .slice (some ⟨W2.heap.size + 1, 0, none⟩) mm mm] 64)).alloc (.cells (madeCells #[.int .u8 0] mm) 5)) w.heap.size 64 [.int .i64 0, .string ⟨#[]⟩, .int .i64 0, .int .i64 0, .slice none 0 0] := ((hr2.far (by simp; omega) _).alloc _).alloc _
    have hx3 : blk (((W2.setCell ⟨W0.heap.size, 3, none⟩ (.int .i64 ((numOf ((l.drop 17).take 4) : Nat) : Int))).alloc (.cells #[.int .i64 1, .string dg, .int .i64 0, .int .i64 ((numOf ((l.drop 17).take 4) : Nat) : Int), .slice (some ⟨W2.heap.size + 1, 0, none⟩) mm mm] 64)).alloc (.cells (madeCells #[.int .u8 0] mm) 5)) W2.heap.size 64 [.int .i64 1, .string dg, .int .i64 0, .int .i64 ((numOf ((l.drop 17).take 4) : Nat) : Int), .slice (some ⟨W2.heap.size + 1, 0, none⟩) mm mm] := blk.alloc (blk_alloc (by simp)) _
    clear hmc hmf hrc hrf hm2 hr2
    generalize ((W2.setCell ⟨W0.heap.size, 3, none⟩ (.int .i64 ((numOf ((l.drop 17).take 4) : Nat) : Int))).alloc (.cells #[.int .i64 1, .string dg, .int .i64 0, .int .i64 ((numOf ((l.drop 17).take 4) : Nat) : Int), .slice (some ⟨W2.heap.size + 1, 0, none⟩) mm mm] 64)).alloc (.cells (madeCells #[.int .u8 0] mm) 5) = W3 at hb3 hm3 hr3 hx3 ⊢
    have hmc : ∀ i, W3.cell? ⟨W0.heap.size, i, none⟩ = ([.int .i64 1, .string dg, .int .i64 0, .int .i64 ((numOf ((l.drop 17).take 4) : Nat) : Int), .slice none 0 0] : List Value)[i]? := fun i => hm3.cell i
    have hrc : ∀ i, W3.cell? ⟨w.heap.size, i, none⟩ = ([.int .i64 0, .string ⟨#[]⟩, .int .i64 0, .int .i64 0, .slice none 0 0] : List Value)[i]? := fun i => hr3.cell i
    have hrf : ∀ i, W3.frozen? ⟨w.heap.size, i, none⟩ = false := fun i => hr3.free i
    have hxc : ∀ i, W3.cell? ⟨W2.heap.size, i, none⟩ = ([.int .i64 1, .string dg, .int .i64 0, .int .i64 ((numOf ((l.drop 17).take 4) : Nat) : Int), .slice (some ⟨W2.heap.size + 1, 0, none⟩) mm mm] : List Value)[i]? := fun i => hx3.cell i
    have hz3 : W2.heap.size < W3.heap.size := hx3.lt
    have hz4 : w.heap.size < W3.heap.size := hr3.lt
    have hz5 : W0.heap.size < W3.heap.size := hm3.lt
    clear hmk1 hmn hmm
    go_region_with (first | (go_at_call 43; refine (checkMessageR_any _ _ _ _ _ _ _ _ hds).mono ?_; rintro e w4 ⟨rfl, hb4⟩; have HB4 := Lib.hid hb4; have r4 : ∀ i, w4.cell? ⟨w.heap.size, i, none⟩ = ([.int .i64 0, .string ⟨#[]⟩, .int .i64 0, .int .i64 0, .slice none 0 0] : List Value)[i]? := fun i => (hb4.cell (p := ⟨w.heap.size, i, none⟩) hz4).trans (hrc i); have m4 : ∀ i, w4.cell? ⟨W0.heap.size, i, none⟩ = ([.int .i64 1, .string dg, .int .i64 0, .int .i64 ((numOf ((l.drop 17).take 4) : Nat) : Int), .slice none 0 0] : List Value)[i]? := fun i => (hb4.cell (p := ⟨W0.heap.size, i, none⟩) hz5).trans (hmc i); have f4 : ∀ i, w4.frozen? ⟨w.heap.size, i, none⟩ = false := fun i => (hb4.frozen (p := ⟨w.heap.size, i, none⟩) hz4).trans (hrf i); clear hb4))
    all_goals (
      go_wp2_with fail
      refine bodyPost_ret (v := .tuple #[.agg #[.int .i64 1, .string dg, .int .i64 0, .int .i64 ((numOf ((l.drop 17).take 4) : Nat) : Int), .slice none 0 0], .int .i64 (numOf ((l.drop 21).take 3) : Nat), .int .i64 (msgCode 1 dg 0 ((numOf ((l.drop 17).take 4) : Nat) : Int) mm)]) (by simp [results, Tryd.results42, go_sem, r4, f4]) rfl ?_
      refine ⟨?_, ?_⟩
      · rw [HMM.out, headCode, HE.out]; simp only [h1]; rfl
      · repeat (first | (with_reducible refine Below.drew ?_) | (with_reducible refine Below.setCell ?_ (by first | exact Nat.le_refl _ | (simp; omega)) _))
        exact hb3.drew.trans (HB4.out.mono (Nat.le_of_lt hz4))
      )
  · have e1 : ((x.toNat : Int) == 1) = false := by rw [beq_eq_false_iff_ne]; omega
    have HE : Hid (headOfL l = (((x.toNat : Int), dg, ((numOf ((l.drop 17).take 4) : Nat) : Int), 0, []), numOf ((l.drop 21).take 3))) := by
      have h2 := HKD.out
      have h3 := HD.out
      unfold headOfL at h2 h3 ⊢
      simp only at h2 h3 ⊢
      rw [h2, h3, if_neg (by omega), if_neg (by omega)]; rfl
    go_wp2_with fail
    go_quiet ((first
      | (go_at_call 50; with_reducible exact (valueOf_any _ _ _ _ _ _ (HQ2.out _) (by decide)).mono fun _ _ h => ⟨h.1, _, h.2.symm⟩)
      | (go_at_call 50; with_reducible exact (valueOf_any _ _ _ _ _ _ (HQ3.out _) (by decide)).mono fun _ _ h => ⟨h.1, _, h.2.symm⟩)))
    have hb2 := drewN_below hb1 nq
    have hm2 : blk (W1.drewN nq) W0.heap.size 64 [.int .i64 x.toNat, .string dg, .int .i64 0, .int .i64 0, .slice none 0 0] := hm
    have hr2 : blk (W1.drewN nq) w.heap.size 64 [.int .i64 0, .string ⟨#[]⟩, .int .i64 0, .int .i64 0, .slice none 0 0] := hr
    clear hm hr hb1
    generalize W1.drewN nq = W2 at hb2 hm2 hr2 ⊢
    have hmc : ∀ i, W2.cell? ⟨W0.heap.size, i, none⟩ = ([.int .i64 x.toNat, .string dg, .int .i64 0, .int .i64 0, .slice none 0 0] : List Value)[i]? := fun i => hm2.cell i
    have hmf : ∀ i, W2.frozen? ⟨W0.heap.size, i, none⟩ = false := fun i => hm2.free i
    have hrc : ∀ i, W2.cell? ⟨w.heap.size, i, none⟩ = ([.int .i64 0, .string ⟨#[]⟩, .int .i64 0, .int .i64 0, .slice none 0 0] : List Value)[i]? := fun i => hr2.cell i
    have hrf : ∀ i, W2.frozen? ⟨w.heap.size, i, none⟩ = false := fun i => hr2.free i
    go_wp2_with fail
    have hz2 := hb2.size
    have hzm : W0.heap.size < W2.heap.size := hm2.lt
    have hb3 : Below w.heap.size w (((W2.setCell ⟨W0.heap.size, 2, none⟩ (.int .i64 ((numOf ((l.drop 17).take 4) : Nat) : Int))).alloc (.cells #[.int .i64 x.toNat, .string dg, .int .i64 ((numOf ((l.drop 17).take 4) : Nat) : Int), .int .i64 0, .slice (some ⟨W2.heap.size + 1, 0, none⟩) mm mm] 64)).alloc (.cells (madeCells #[.int .u8 0] mm) 5)) := ((hb2.setCell (by simp; omega) _).alloc (by simp; omega) _).alloc (by simp; omega) _
    have hm3 : blk (((W2.setCell ⟨W0.heap.size, 2, none⟩ (.int .i64 ((numOf ((l.drop 17).take 4) : Nat) : Int))).alloc (.cells #[.int .i64 x.toNat, .string dg, .int .i64 ((numOf ((l.drop 17).take 4) : Nat) : Int), .int .i64 0, .slice (some ⟨W2.heap.size + 1, 0, none⟩) mm mm] 64)).alloc (.cells (madeCells #[.int .u8 0] mm) 5)) W0.heap.size 64 [.int .i64 x.toNat, .string dg, .int .i64 ((numOf ((l.drop 17).take 4) : Nat) : Int), .int .i64 0, .slice none 0 0] := ((hm2.set_ 2 _).alloc _).alloc _
    have hr3 : blk (((W2.setCell ⟨W0.heap.size, 2, none⟩ (.int .i64 ((numOf ((l.drop 17).take 4) : Nat) : Int))).alloc (.cells #[.int .i64 x.toNat, .string dg, .int .i64 ((numOf ((l.drop 17).take 4) : Nat) : Int), .int .i64 0, .slice (some ⟨W2.heap.size + 1, 0, none⟩) mm mm] 64)).alloc (.cells (madeCells #[.int .u8 0] mm) 5)) w.heap.size 64 [.int .i64 0, .string ⟨#[]⟩, .int .i64 0, .int .i64 0, .slice none 0 0] := ((hr2.far (by simp; omega) _).alloc _).alloc _
    have hx3 : blk (((W2.setCell ⟨W0.heap.size, 2, none⟩ (.int .i64 ((numOf ((l.drop 17).take 4) : Nat) : Int))).alloc (.cells #[.int .i64 x.toNat, .string dg, .int .i64 ((numOf ((l.drop 17).take 4) : Nat) : Int), .int .i64 0, .slice (some ⟨W2.heap.size + 1, 0, none⟩) mm mm] 64)).alloc (.cells (madeCells #[.int .u8 0] mm) 5)) W2.heap.size 64 [.int .i64 x.toNat, .string dg, .int .i64 ((numOf ((l.drop 17).take 4) : Nat) : Int), .int .i64 0, .slice (some ⟨W2.heap.size + 1, 0, none⟩) mm mm] := blk.alloc (blk_alloc (by simp)) _
    clear hmc hmf hrc hrf hm2 hr2
    generalize ((W2.setCell ⟨W0.heap.size, 2, none⟩ (.int .i64 ((numOf ((l.drop 17).take 4) : Nat) : Int))).alloc (.cells #[.int .i64 x.toNat, .string dg, .int .i64 ((numOf ((l.drop 17).take 4) : Nat) : Int), .int .i64 0, .slice (some ⟨W2.heap.size + 1, 0, none⟩) mm mm] 64)).alloc (.cells (madeCells #[.int .u8 0] mm) 5) = W3 at hb3 hm3 hr3 hx3 ⊢
    have hmc : ∀ i, W3.cell? ⟨W0.heap.size, i, none⟩ = ([.int .i64 x.toNat, .string dg, .int .i64 ((numOf ((l.drop 17).take 4) : Nat) : Int), .int .i64 0, .slice none 0 0] : List Value)[i]? := fun i => hm3.cell i
    have hrc : ∀ i, W3.cell? ⟨w.heap.size, i, none⟩ = ([.int .i64 0, .string ⟨#[]⟩, .int .i64 0, .int .i64 0, .slice none 0 0] : List Value)[i]? := fun i => hr3.cell i
    have hrf : ∀ i, W3.frozen? ⟨w.heap.size, i, none⟩ = false := fun i => hr3.free i
    have hxc : ∀ i, W3.cell? ⟨W2.heap.size, i, none⟩ = ([.int .i64 x.toNat, .string dg, .int .i64 ((numOf ((l.drop 17).take 4) : Nat) : Int), .int .i64 0, .slice (some ⟨W2.heap.size + 1, 0, none⟩) mm mm] : List Value)[i]? := fun i => hx3.cell i
    have hz3 : W2.heap.size < W3.heap.size := hx3.lt
    have hz4 : w.heap.size < W3.heap.size := hr3.lt
    have hz5 : W0.heap.size < W3.heap.size := hm3.lt
    clear hmk1 hmn hmm
    go_region_with (first | (go_at_call 43; refine (checkMessageR_any _ _ _ _ _ _ _ _ hds).mono ?_; rintro e w4 ⟨rfl, hb4⟩; have HB4 := Lib.hid hb4; have r4 : ∀ i, w4.cell? ⟨w.heap.size, i, none⟩ = ([.int .i64 0, .string ⟨#[]⟩, .int .i64 0, .int .i64 0, .slice none 0 0] : List Value)[i]? := fun i => (hb4.cell (p := ⟨w.heap.size, i, none⟩) hz4).trans (hrc i); have m4 : ∀ i, w4.cell? ⟨W0.heap.size, i, none⟩ = ([.int .i64 x.toNat, .string dg, .int .i64 ((numOf ((l.drop 17).take 4) : Nat) : Int), .int .i64 0, .slice none 0 0] : List Value)[i]? := fun i => (hb4.cell (p := ⟨W0.heap.size, i, none⟩) hz5).trans (hmc i); have f4 : ∀ i, w4.frozen? ⟨w.heap.size, i, none⟩ = false := fun i => (hb4.frozen (p := ⟨w.heap.size, i, none⟩) hz4).trans (hrf i); clear hb4))
    all_goals (
      go_wp2_with fail
      refine bodyPost_ret (v := .tuple #[.agg #[.int .i64 x.toNat, .string dg, .int .i64 ((numOf ((l.drop 17).take 4) : Nat) : Int), .int .i64 0, .slice none 0 0], .int .i64 (numOf ((l.drop 21).take 3) : Nat), .int .i64 (msgCode x.toNat dg ((numOf ((l.drop 17).take 4) : Nat) : Int) 0 mm)]) (by simp [results, Tryd.results42, go_sem, r4, f4]) rfl ?_
      refine ⟨?_, ?_⟩
      · rw [HMM.out, headCode, HE.out]
      · repeat (first | (with_reducible refine Below.drew ?_) | (with_reducible refine Below.setCell ?_ (by first | exact Nat.le_refl _ | (simp; omega)) _))
        exact hb3.drew.trans (HB4.out.mono (Nat.le_of_lt hz4))
      )
end Go.Proofs.YteoojplgchlhcaaDoor
