/-
  The walks of head and headOf.
-/
import Derived.Test.YteoojplgchlhcaaDoorFeed1
namespace Go.Proofs.YteoojplgchlhcaaDoor
open Go.RowKit
set_option linter.unusedVariables false
set_option linter.unusedSimpArgs false

set_option maxHeartbeats 1000000 in
theorem head_any (A : Option Addr) (n c B : Nat) (l : List UInt8) (w : World) (h : rBytes w B l [.slice A n c]) (hB : B ≤ w.heap.size) (hn : 24 ≤ n) :
    Calls Tryd.prog 39 #[.slice A n c] w fun e w' => e = .returned (.tuple #[.agg #[.int .i64 (headOfL l).1.1, .string (headOfL l).1.2.1, .int .i64 (headOfL l).1.2.2.1, .int .i64 (headOfL l).1.2.2.2.1, .slice none 0 0], .int .i64 (headOfL l).2]) ∧ Below w.heap.size w w' := by
  have hln := h.len
  obtain ⟨hm1', hm1, _⟩ := h.le
  obtain ⟨b, o, x, rfl, hb, hx, hc, hx1, hx2⟩ := rBytes_at h (show 0 < n by omega)
  have H := Lib.hid h
  have HL := Lib.hid hln
  have HX := Lib.hid hx
  clear h hln hx
  go_enter Tryd.func39, Tryd.ntmps39
  go_wp2_with fail
  have hb0 : Below w.heap.size w (w.alloc (.cells #[.int .i64 0, .string ⟨#[]⟩, .int .i64 0, .int .i64 0, .slice none 0 0] 64)) := (Below.refl _ _).alloc (Nat.le_refl _) _
  have hz0 : w.heap.size < (w.alloc (.cells #[.int .i64 0, .string ⟨#[]⟩, .int .i64 0, .int .i64 0, .slice none 0 0] 64)).heap.size := by simp
  have hres : blk (w.alloc (.cells #[.int .i64 0, .string ⟨#[]⟩, .int .i64 0, .int .i64 0, .slice none 0 0] 64)) w.heap.size 64 [.int .i64 0, .string ⟨#[]⟩, .int .i64 0, .int .i64 0, .slice none 0 0] := heap_alloc_new w _
  generalize w.alloc (.cells #[.int .i64 0, .string ⟨#[]⟩, .int .i64 0, .int .i64 0, .slice none 0 0] 64) = W0 at hb0 hz0 hres ⊢
  have hc0 : W0.cell? ⟨b, o, none⟩ = some (.int .u8 x.toNat) := (hb0.cell (p := ⟨b, _, none⟩) (show b < _ by omega)).trans (by rw [Nat.add_zero] at hc; exact hc)
  have hc9 : ∀ ob, (W0.alloc ob).cell? ⟨b, o, none⟩ = some (.int .u8 x.toNat) := fun ob => by rw [World.cell?_alloc_some _ _ _ (by rw [hc0]; rfl)]; exact hc0
  have hk1 : ∀ W, Below w.heap.size w W → rBytes W B ((l.drop 1).take 16) [.slice (some ⟨b, o + 1, none⟩) 16 (c - 1)] := fun W hW => by
    have := rBytes.cut1 (rSl.keep H.out (hW.mono hB) (Nat.le_refl _)) (show 1 ≤ 17 by decide) (by omega)
    rw [if_neg (by omega), Option.map_some, Addr.add_lit] at this; exact this
  have hk2 : ∀ W, Below w.heap.size w W → rBytes W B ((l.drop 17).take 4) [.slice (some ⟨b, o + 17, none⟩) 4 (c - 17)] := fun W hW => by
    have := rBytes.cut1 (rSl.keep H.out (hW.mono hB) (Nat.le_refl _)) (show 17 ≤ 21 by decide) (by omega)
    rw [if_neg (by omega), Option.map_some, Addr.add_lit] at this; exact this
  have hk3 : ∀ W, Below w.heap.size w W → rBytes W B ((l.drop 21).take 3) [.slice (some ⟨b, o + 21, none⟩) 3 (c - 21)] := fun W hW => by
    have := rBytes.cut1 (rSl.keep H.out (hW.mono hB) (Nat.le_refl _)) (show 21 ≤ 24 by decide) (by omega)
    rw [if_neg (by omega), Option.map_some, Addr.add_lit] at this; exact this
  have hcv1 := convB (hk1 W0.drew hb0.drew)
  have hcv2 : ∀ ob, (convert 32 9 (.slice (some ⟨b, o + 1, none⟩) 16 (c - 1))).run Tryd.prog (W0.alloc ob).drew = .ok (.string ⟨((l.drop 1).take 16).toArray⟩) (W0.alloc ob).drew := fun ob => convB (hk1 _ (hb0.alloc (by omega) _).drew)
  have K2 := Lib.hid hk2
  have K3 := Lib.hid hk3
  clear hk1 hk2 hk3
  have i1 : (24 : Int) ≤ n := by omega
  have i3 : (0 : Int) < n := by omega
  have i4 : 0 < n := by omega
  have i2 : (n : Int) ≤ c := by omega
  have hdg : (headOfL l).1.2.1 = ⟨((l.drop 1).take 16).toArray⟩ := rfl
  have hkd : (headOfL l).1.1 = (x.toNat : Int) := by
    have h := HX.out
    unfold headOfL
    cases l with
    | nil => simp at h
    | cons y r => simp at h; simp [h]
  generalize hD : (⟨((l.drop 1).take 16).toArray⟩ : ByteArray) = dg at hcv1 hcv2 hdg
  have HD := Lib.hid hdg
  have HKD := Lib.hid hkd
  clear hD hdg hkd
  go_region
  have hb1 : Below w.heap.size w (W0.alloc (.cells #[.int .i64 x.toNat, .string dg, .int .i64 0, .int .i64 0, .slice none 0 0] 64)).drew := (hb0.alloc (by omega) _).drew
  have hm : blk (W0.alloc (.cells #[.int .i64 x.toNat, .string dg, .int .i64 0, .int .i64 0, .slice none 0 0] 64)).drew W0.heap.size 64 [.int .i64 x.toNat, .string dg, .int .i64 0, .int .i64 0, .slice none 0 0] := heap_alloc_new W0 _
  have hr := (hres.alloc (.cells #[.int .i64 x.toNat, .string dg, .int .i64 0, .int .i64 0, .slice none 0 0] 64)).drew
  generalize (W0.alloc (.cells #[.int .i64 x.toNat, .string dg, .int .i64 0, .int .i64 0, .slice none 0 0] 64)).drew = W1 at hb1 hm hr ⊢
  have hmc : ∀ i, W1.cell? ⟨W0.heap.size, i, none⟩ = ([.int .i64 x.toNat, .string dg, .int .i64 0, .int .i64 0, .slice none 0 0] : List Value)[i]? := fun i => hm.cell i
  have hmf : ∀ i, W1.frozen? ⟨W0.heap.size, i, none⟩ = false := fun i => hm.free i
  have hrc : ∀ i, W1.cell? ⟨w.heap.size, i, none⟩ = ([.int .i64 0, .string ⟨#[]⟩, .int .i64 0, .int .i64 0, .slice none 0 0] : List Value)[i]? := fun i => hr.cell i
  have hrf : ∀ i, W1.frozen? ⟨w.heap.size, i, none⟩ = false := fun i => hr.free i
  clear hc0 hc9 hcv1 hcv2 hres
  go_wp2_with fail
  refine (number_any _ _ _ _ _ _ (K2.out _ hb1) (by decide)).mono ?_
  rintro e w' ⟨rfl, rfl⟩
  by_cases h1 : x.toNat = 1
  · have e1 : ((x.toNat : Int) == 1) = true := by simp [h1]
    have HE : Hid (headOfL l = (((x.toNat : Int), dg, 0, ((numOf ((l.drop 17).take 4) : Nat) : Int), []), numOf ((l.drop 21).take 3))) := by
      have h2 := HKD.out
      have h3 := HD.out
      unfold headOfL at h2 h3 ⊢
      simp only at h2 h3 ⊢
      rw [h2, h3, if_pos (by rw [h1]; rfl), if_pos (by rw [h1]; rfl)]; rfl
    go_wp2_with fail
    have HBB : Hid (∀ u, Below w.heap.size w (W1.setCell ⟨W0.heap.size, 3, none⟩ u)) := fun u => hb1.setCell (by simp; omega) _
    go_region_with (first | (go_at_call 49; refine (number_any _ _ _ _ _ _ (K3.out _ (by exact (HBB.out _).drew)) (by decide)).mono ?_; rintro e w' ⟨rfl, rfl⟩))
    all_goals (
      go_wp2_with fail
      refine bodyPost_ret (v := .tuple #[.agg #[.int .i64 x.toNat, .string dg, .int .i64 0, .int .i64 (numOf ((l.drop 17).take 4) : Nat), .slice none 0 0], .int .i64 (numOf ((l.drop 21).take 3) : Nat)]) (by simp [results, Tryd.results39, go_sem, hmc, hrc, h1]) rfl ?_
      refine ⟨?_, ?_⟩
      · rw [HE.out]
      · repeat (first | (with_reducible exact hb1) | (with_reducible refine Below.drew ?_) | (with_reducible refine Below.setCell ?_ (by first | exact Nat.le_refl _ | (simp; omega)) _))
      )
  · have e1 : ((x.toNat : Int) == 1) = false := by rw [beq_eq_false_iff_ne]; omega
    have HE : Hid (headOfL l = (((x.toNat : Int), dg, ((numOf ((l.drop 17).take 4) : Nat) : Int), 0, []), numOf ((l.drop 21).take 3))) := by
      have h2 := HKD.out
      have h3 := HD.out
      unfold headOfL at h2 h3 ⊢
      simp only at h2 h3 ⊢
      rw [h2, h3, if_neg (by omega), if_neg (by omega)]; rfl
    go_wp2_with fail
    have HBB : Hid (∀ u, Below w.heap.size w (W1.setCell ⟨W0.heap.size, 2, none⟩ u)) := fun u => hb1.setCell (by simp; omega) _
    go_region_with (first | (go_at_call 49; refine (number_any _ _ _ _ _ _ (K3.out _ (by exact (HBB.out _).drew)) (by decide)).mono ?_; rintro e w' ⟨rfl, rfl⟩))
    all_goals (
      go_wp2_with fail
      refine bodyPost_ret (v := .tuple #[.agg #[.int .i64 x.toNat, .string dg, .int .i64 (numOf ((l.drop 17).take 4) : Nat), .int .i64 0, .slice none 0 0], .int .i64 (numOf ((l.drop 21).take 3) : Nat)]) (by simp [results, Tryd.results39, go_sem, hmc, hrc, h1]) rfl ?_
      refine ⟨?_, ?_⟩
      · rw [HE.out]
      · repeat (first | (with_reducible exact hb1) | (with_reducible refine Below.drew ?_) | (with_reducible refine Below.setCell ?_ (by first | exact Nat.le_refl _ | (simp; omega)) _))
      )
end Go.Proofs.YteoojplgchlhcaaDoor
