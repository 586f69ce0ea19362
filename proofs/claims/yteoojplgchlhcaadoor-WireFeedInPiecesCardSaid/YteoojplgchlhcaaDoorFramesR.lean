/-
  The walks of the reference's number and Frames. Printed by genframesr.py.
-/
import Derived.Test.YteoojplgchlhcaaDoorFrames
namespace Go.Proofs.YteoojplgchlhcaaDoor
open Go.RowKit
set_option linter.unusedVariables false
set_option linter.unusedSimpArgs false

theorem be4_vals {n : Int} (h0 : 0 ≤ n) (h1 : n ≤ 4000000) : ([.int .u8 (n / 16777216), .int .u8 (n / 65536), .int .u8 (n / 256 % 256), .int .u8 (n % 256)] : List Value) = (be4 n.toNat).map fun y => .int .u8 (y.toNat : Int) := by
  simp only [be4, be3, List.map_cons, List.map_nil, UInt8.toNat_ofNat', List.cons.injEq, Value.int.injEq, true_and, and_true]
  refine ⟨?_, ?_, ?_, ?_⟩ <;> omega
set_option maxHeartbeats 2000000 in
theorem number4_any (n : Int) (w : World) (h0 : 0 ≤ n) (h1 : n ≤ 4000000) :
    Calls Tryd.prog 44 #[.int .i64 n, .int .i64 4] w (Ret (fun v w' => v = .slice (some ⟨w.heap.size, 0, none⟩) 4 4 ∧ blk w' w.heap.size 5 ((be4 n.toNat).map fun y => .int .u8 (y.toNat : Int))) w) := by
  have hmk : ∀ w, (Instr.makeSlice 32 (.int .i64 4) (.int .i64 4)).run Tryd.prog w = .ok (.slice (some ⟨w.heap.size, 0, none⟩) 4 4) (w.alloc (.cells #[.int .u8 0, .int .u8 0, .int .u8 0, .int .u8 0] 5)) := fun _ => by kernel_rfl
  have HV := Lib.hid (be4_vals h0 h1)
  go_enter Tryd.func44, Tryd.ntmps44
  go_wp2_with fail
  go_loopw [11] (fun i wr => Below w.heap.size w wr ∧ w.heap.size < wr.heap.size ∧ (i = .int .i64 0 ∧ blk wr w.heap.size 5 [.int .u8 0, .int .u8 0, .int .u8 0, .int .u8 0] ∨ i = .int .i64 1 ∧ blk wr w.heap.size 5 [.int .u8 0, .int .u8 0, .int .u8 0, .int .u8 (n % 256)] ∨ i = .int .i64 2 ∧ blk wr w.heap.size 5 [.int .u8 0, .int .u8 0, .int .u8 (n / 256 % 256), .int .u8 (n % 256)] ∨ i = .int .i64 3 ∧ blk wr w.heap.size 5 [.int .u8 0, .int .u8 (n / 65536), .int .u8 (n / 256 % 256), .int .u8 (n % 256)] ∨ i = .int .i64 4 ∧ blk wr w.heap.size 5 [.int .u8 (n / 16777216), .int .u8 (n / 65536), .int .u8 (n / 256 % 256), .int .u8 (n % 256)])) (fun i _ => 4 - (intOf i).toNat)
  case atStart => exact ⟨(Below.refl _ _).alloc (Nat.le_refl _) _, by simp, Or.inl ⟨rfl, blk_allocA rfl⟩⟩
  case round =>
    obtain ⟨hbw, hzw, hrel⟩ := hrel
    rcases hrel with ⟨rfl, hbl⟩ | ⟨rfl, hbl⟩ | ⟨rfl, hbl⟩ | ⟨rfl, hbl⟩ | ⟨rfl, hbl⟩
    · have hc : ∀ i, wr.cell? ⟨w.heap.size, i, none⟩ = ([.int .u8 0, .int .u8 0, .int .u8 0, .int .u8 0] : List Value)[i]? := fun i => hbl.cell i
      have hf : ∀ i, wr.frozen? ⟨w.heap.size, i, none⟩ = false := fun i => hbl.free i
      have HB := Lib.hid hbl
      clear hbl
      go_wp2_with fail
      go_roundw
      case rel => exact ⟨hbw.setCell (Nat.le_refl _) _, by simpa using hzw, Or.inr (Or.inl ⟨rfl, HB.out.set_ 3 _⟩)⟩
      case measure => simp [intOf]
    · have hc : ∀ i, wr.cell? ⟨w.heap.size, i, none⟩ = ([.int .u8 0, .int .u8 0, .int .u8 0, .int .u8 (n % 256)] : List Value)[i]? := fun i => hbl.cell i
      have hf : ∀ i, wr.frozen? ⟨w.heap.size, i, none⟩ = false := fun i => hbl.free i
      have HB := Lib.hid hbl
      clear hbl
      go_wp2_with fail
      go_roundw
      case rel => exact ⟨hbw.setCell (Nat.le_refl _) _, by simpa using hzw, Or.inr (Or.inr (Or.inl ⟨rfl, HB.out.set_ 2 _⟩))⟩
      case measure => simp [intOf]
    · have hc : ∀ i, wr.cell? ⟨w.heap.size, i, none⟩ = ([.int .u8 0, .int .u8 0, .int .u8 (n / 256 % 256), .int .u8 (n % 256)] : List Value)[i]? := fun i => hbl.cell i
      have hf : ∀ i, wr.frozen? ⟨w.heap.size, i, none⟩ = false := fun i => hbl.free i
      have HB := Lib.hid hbl
      clear hbl
      go_wp2_with fail
      go_roundw
      case rel => exact ⟨hbw.setCell (Nat.le_refl _) _, by simpa using hzw, Or.inr (Or.inr (Or.inr (Or.inl ⟨rfl, HB.out.set_ 1 _⟩)))⟩
      case measure => simp [intOf]
    · have hc : ∀ i, wr.cell? ⟨w.heap.size, i, none⟩ = ([.int .u8 0, .int .u8 (n / 65536), .int .u8 (n / 256 % 256), .int .u8 (n % 256)] : List Value)[i]? := fun i => hbl.cell i
      have hf : ∀ i, wr.frozen? ⟨w.heap.size, i, none⟩ = false := fun i => hbl.free i
      have HB := Lib.hid hbl
      clear hbl
      go_wp2_with fail
      go_roundw
      case rel => exact ⟨hbw.setCell (Nat.le_refl _) _, by simpa using hzw, Or.inr (Or.inr (Or.inr (Or.inr (⟨rfl, HB.out.set_ 0 _⟩))))⟩
      case measure => simp [intOf]
    · have hc : ∀ i, wr.cell? ⟨w.heap.size, i, none⟩ = ([.int .u8 (n / 16777216), .int .u8 (n / 65536), .int .u8 (n / 256 % 256), .int .u8 (n % 256)] : List Value)[i]? := fun i => hbl.cell i
      have hf : ∀ i, wr.frozen? ⟨w.heap.size, i, none⟩ = false := fun i => hbl.free i
      have HB := Lib.hid hbl
      clear hbl
      go_wp2_with fail
      go_ret
      refine ⟨_, rfl, hbw, rfl, ?_⟩
      rw [← HV.out]; exact HB.out
theorem be3_vals {n : Int} (h0 : 0 ≤ n) (h1 : n ≤ 65536) : ([.int .u8 (n / 65536), .int .u8 (n / 256 % 256), .int .u8 (n % 256)] : List Value) = (be3 n.toNat).map fun y => .int .u8 (y.toNat : Int) := by
  simp only [be4, be3, List.map_cons, List.map_nil, UInt8.toNat_ofNat', List.cons.injEq, Value.int.injEq, true_and, and_true]
  refine ⟨?_, ?_, ?_⟩ <;> omega
set_option maxHeartbeats 2000000 in
theorem number3_any (n : Int) (w : World) (h0 : 0 ≤ n) (h1 : n ≤ 65536) :
    Calls Tryd.prog 44 #[.int .i64 n, .int .i64 3] w (Ret (fun v w' => v = .slice (some ⟨w.heap.size, 0, none⟩) 3 3 ∧ blk w' w.heap.size 5 ((be3 n.toNat).map fun y => .int .u8 (y.toNat : Int))) w) := by
  have hmk : ∀ w, (Instr.makeSlice 32 (.int .i64 3) (.int .i64 3)).run Tryd.prog w = .ok (.slice (some ⟨w.heap.size, 0, none⟩) 3 3) (w.alloc (.cells #[.int .u8 0, .int .u8 0, .int .u8 0] 5)) := fun _ => by kernel_rfl
  have HV := Lib.hid (be3_vals h0 h1)
  go_enter Tryd.func44, Tryd.ntmps44
  go_wp2_with fail
  go_loopw [11] (fun i wr => Below w.heap.size w wr ∧ w.heap.size < wr.heap.size ∧ (i = .int .i64 0 ∧ blk wr w.heap.size 5 [.int .u8 0, .int .u8 0, .int .u8 0] ∨ i = .int .i64 1 ∧ blk wr w.heap.size 5 [.int .u8 0, .int .u8 0, .int .u8 (n % 256)] ∨ i = .int .i64 2 ∧ blk wr w.heap.size 5 [.int .u8 0, .int .u8 (n / 256 % 256), .int .u8 (n % 256)] ∨ i = .int .i64 3 ∧ blk wr w.heap.size 5 [.int .u8 (n / 65536), .int .u8 (n / 256 % 256), .int .u8 (n % 256)])) (fun i _ => 3 - (intOf i).toNat)
  case atStart => exact ⟨(Below.refl _ _).alloc (Nat.le_refl _) _, by simp, Or.inl ⟨rfl, blk_allocA rfl⟩⟩
  case round =>
    obtain ⟨hbw, hzw, hrel⟩ := hrel
    rcases hrel with ⟨rfl, hbl⟩ | ⟨rfl, hbl⟩ | ⟨rfl, hbl⟩ | ⟨rfl, hbl⟩
    · have hc : ∀ i, wr.cell? ⟨w.heap.size, i, none⟩ = ([.int .u8 0, .int .u8 0, .int .u8 0] : List Value)[i]? := fun i => hbl.cell i
      have hf : ∀ i, wr.frozen? ⟨w.heap.size, i, none⟩ = false := fun i => hbl.free i
      have HB := Lib.hid hbl
      clear hbl
      go_wp2_with fail
      go_roundw
      case rel => exact ⟨hbw.setCell (Nat.le_refl _) _, by simpa using hzw, Or.inr (Or.inl ⟨rfl, HB.out.set_ 2 _⟩)⟩
      case measure => simp [intOf]
    · have hc : ∀ i, wr.cell? ⟨w.heap.size, i, none⟩ = ([.int .u8 0, .int .u8 0, .int .u8 (n % 256)] : List Value)[i]? := fun i => hbl.cell i
      have hf : ∀ i, wr.frozen? ⟨w.heap.size, i, none⟩ = false := fun i => hbl.free i
      have HB := Lib.hid hbl
      clear hbl
      go_wp2_with fail
      go_roundw
      case rel => exact ⟨hbw.setCell (Nat.le_refl _) _, by simpa using hzw, Or.inr (Or.inr (Or.inl ⟨rfl, HB.out.set_ 1 _⟩))⟩
      case measure => simp [intOf]
    · have hc : ∀ i, wr.cell? ⟨w.heap.size, i, none⟩ = ([.int .u8 0, .int .u8 (n / 256 % 256), .int .u8 (n % 256)] : List Value)[i]? := fun i => hbl.cell i
      have hf : ∀ i, wr.frozen? ⟨w.heap.size, i, none⟩ = false := fun i => hbl.free i
      have HB := Lib.hid hbl
      clear hbl
      go_wp2_with fail
      go_roundw
      case rel => exact ⟨hbw.setCell (Nat.le_refl _) _, by simpa using hzw, Or.inr (Or.inr (Or.inr (⟨rfl, HB.out.set_ 0 _⟩)))⟩
      case measure => simp [intOf]
    · have hc : ∀ i, wr.cell? ⟨w.heap.size, i, none⟩ = ([.int .u8 (n / 65536), .int .u8 (n / 256 % 256), .int .u8 (n % 256)] : List Value)[i]? := fun i => hbl.cell i
      have hf : ∀ i, wr.frozen? ⟨w.heap.size, i, none⟩ = false := fun i => hbl.free i
      have HB := Lib.hid hbl
      clear hbl
      go_wp2_with fail
      go_ret
      refine ⟨_, rfl, hbw, rfl, ?_⟩
      rw [← HV.out]; exact HB.out
set_option maxHeartbeats 4000000 in
set_option maxRecDepth 100000 in
theorem framesR_any (A : Option Addr) (n c : Nat) (l : List Msg) (w : World) (hR : rMsgs w w.heap.size l [.slice A n c]) :
    Calls Tryd.prog 25 #[.slice A n c] w (Ret (PBytes (frames l)) w) := by
  have hln := hR.len
  have hcm := hR.le
  have HR := Lib.hid hR
  have HL := Lib.hid hln
  clear hR hln
  obtain ⟨hcm1, hcm2, _⟩ := hcm
  by_cases hg : n > 20000
  · have hg' : decide ((n : Int) > 20000) = true := by simp; omega
    have HF : Hid (frames l = ([], 2)) := by unfold frames; rw [if_pos (by rw [HL.out]; exact hg)]; rfl
    go_enter Tryd.func25, Tryd.ntmps25
    go_wp2_with fail
    go_ret2
    refine ⟨_, rfl, Below.refl _ _, ?_⟩
    rw [HF.out]
    exact PBytes.none_
  have hg' : decide ((n : Int) > 20000) = false := by simp; omega
  have HF : Hid (frames l = if framesGo l ≠ 0 then ([], framesGo l) else (l.flatMap frameOf, 0)) := by unfold frames; rw [if_neg (by rw [HL.out]; exact hg)]; rfl
  go_enter Tryd.func25, Tryd.ntmps25
  go_wp2_with fail
  go_loopw [15] (fun i wr => ∃ k : Nat, k ≤ n ∧ i = .int .i64 k ∧ Below w.heap.size w wr ∧ Hid (framesGo l = framesGo (l.drop k))) (fun i _ => n - (intOf i).toNat)
  case atStart => exact ⟨0, by omega, rfl, Below.refl _ _, rfl⟩
  case round =>
    obtain ⟨k, hk, rfl, hbw, HG⟩ := hrel
    have hzw := hbw.size
    by_cases hlt : k < n
    · obtain ⟨b, o, kd, d, f, s, bs, A', m, c', rfl, hb, hx, p0, p1, p2, p3, p4, pb, hd⟩ := rMsgs_at (rSl.keep HR.out hbw hzw) hlt
      have hlb := pb.len
      have HX := Lib.hid hx
      have HLB := Lib.hid hlb
      have hmc : mCode (kd, d, f, s, bs) = msgCode kd d f s m := by unfold mCode; rw [← hlb]
      have HMC := Lib.hid hmc
      clear hx hlb hmc pb
      by_cases h1 : msgCode kd d f s m = 0
      rotate_left
      · have h1' : (msgCode kd d f s m != 0) = true := by simpa using h1
        have HF2 : Hid (frames l = ([], msgCode kd d f s m)) := by
          have e : framesGo l = msgCode kd d f s m := by rw [HG.out, framesGo_bad HX.out (by rw [HMC.out]; exact h1), HMC.out]
          rw [HF.out, if_pos (by rw [e]; exact h1), e]; rfl
        clear h1
        go_wp2_with fail
        refine (checkMessageR_any kd f s d A' m c' _ hd).mono ?_
        rintro e w2 ⟨rfl, hb2⟩
        go_wp2_with fail
        go_ret2
        refine ⟨_, rfl, (hbw.alloc hzw _).trans (hb2.mono (by simp; omega)), ?_⟩
        rw [HF2.out]
        exact PBytes.none_
      · have h1' : (msgCode kd d f s m != 0) = false := by simp [h1]
        have HN : Hid (framesGo l = framesGo (l.drop (k + 1))) := by rw [HG.out, framesGo_next HX.out (by rw [HMC.out]; exact h1)]; rfl
        clear h1
        go_wp2_with fail
        refine (checkMessageR_any kd f s d A' m c' _ hd).mono ?_
        rintro e w2 ⟨rfl, hb2⟩
        go_wp2_with fail
        go_roundw
        case rel => exact ⟨k + 1, by omega, by go_num, (hbw.alloc hzw _).trans (hb2.mono (by simp; omega)), HN.out⟩
        case measure => simp [intOf]; omega
    · obtain rfl : k = n := by omega
      have H0 : Hid (framesGo l = 0) := by rw [HG.out, List.drop_of_length_le (by rw [HL.out]; exact Nat.le_refl _)]; rfl
      have HF2 : Hid (frames l = (l.flatMap frameOf, 0)) := by rw [HF.out, if_neg (by rw [H0.out]; simp)]; rfl
      clear HG HF
      go_wp2_with fail
      obtain ⟨wo, rfl⟩ : ∃ wo : World, wo = wr := ⟨_, rfl⟩
      go_loopw [7, 27] (fun v i wr => ∃ (j : Nat) (done : List UInt8), j ≤ k ∧ i = .int .i64 j ∧ done.length ≤ 65560 * j ∧ Below w.heap.size w wr ∧ Hid (ownS 5 1 rByte (fun _ => False) wr w.heap.size done v) ∧ Hid (l.flatMap frameOf = done ++ (l.drop j).flatMap frameOf)) (fun _ i _ => k - (intOf i).toNat)
      case atStart => exact ⟨0, [], by omega, rfl, by simp, hbw, ownS.nil_, by simp [Hid]⟩
      case round =>
        obtain ⟨j, done, hj, rfl, hdl, hbw, HO, HG⟩ := hrel
        have hzw := hbw.size
        by_cases hlt2 : j < k
        · obtain ⟨b, o, kd, d, f, s, bs, A', m, c', rfl, hb0, hx, p0, p1, p2, p3, p4, pb, hd⟩ := rMsgs_at HR.out hlt2
          have hb := Nat.lt_of_lt_of_le hb0 hzw
          have p0 := (hbw.cell (p := ⟨b, _, none⟩) hb0).trans p0
          have p1 := (hbw.cell (p := ⟨b, _, none⟩) hb0).trans p1
          have p2 := (hbw.cell (p := ⟨b, _, none⟩) hb0).trans p2
          have p3 := (hbw.cell (p := ⟨b, _, none⟩) hb0).trans p3
          have p4 := (hbw.cell (p := ⟨b, _, none⟩) hb0).trans p4
          have hlb := pb.len
          have hmc := framesGo_ok' H0.out hx
          have hfl := frameOf_len hmc
          obtain ⟨hk1, hk2, hdz, hf1, hf2, hs1, hs2, hm1, _⟩ := msgCode_ok hmc
          simp only at hk1 hk2 hdz hf1 hf2 hs1 hs2 hm1 hfl
          rw [hlb] at hm1 hfl
          have HX := Lib.hid (drop_of hx)
          have PB := Lib.hid pb
          have HLB := Lib.hid hlb
          have HFL := Lib.hid hfl
          clear hx hlb hmc pb hfl
          have hwf : IntKind.i64.wrap (f + s) = f + s := IntWalk.i64_in _ (by omega)
          have HBE := Lib.hid (be_vals (x := f + s) (m := m) (by omega) (by omega) (by omega))
          have hwk : IntKind.u8.wrap kd = kd := by rw [IntKind.wrap_u8]; omega
          have hmb : blk (wr.alloc (.cells #[.int .i64 kd, .string d, .int .i64 f, .int .i64 s, .slice A' m c'] 64)) wr.heap.size 64 [.int .i64 kd, .string d, .int .i64 f, .int .i64 s, .slice A' m c'] := blk_allocA rfl
          have HOm := Lib.hid (HO.out.keep ((Below.refl _ _).alloc (Nat.le_refl _) (.cells #[.int .i64 kd, .string d, .int .i64 f, .int .i64 s, .slice A' m c'] 64)))
          have hown : ∀ q, u7.ownBlock = some q → w.heap.size ≤ q ∧ q < wr.heap.size := HO.out.block
          have hbm := hbw.alloc hzw (.cells #[.int .i64 kd, .string d, .int .i64 f, .int .i64 s, .slice A' m c'] 64)
          go_upto_region 14 with (fail)
          generalize wr.alloc (.cells #[.int .i64 kd, .string d, .int .i64 f, .int .i64 s, .slice A' m c'] 64) = wm at hmb HOm hbm ⊢
          have hmc : ∀ i, wm.cell? ⟨wr.heap.size, i, none⟩ = ([.int .i64 kd, .string d, .int .i64 f, .int .i64 s, .slice A' m c'] : List Value)[i]? := fun i => hmb.cell i
          have hzm := hmb.lt
          have HA1 : Hid (∃ v' w', (Builtin.append_ #[32, 32] 32 #[u7, .slice (some ⟨wm.heap.size, 0, none⟩) 1 1]).run Tryd.prog (wm.alloc (.cells #[.int .u8 kd] 5)) = .ok v' w' ∧ AppOut 5 1 rByte (fun _ => False) (wm.alloc (.cells #[.int .u8 kd] 5)) w.heap.size (done ++ [UInt8.ofNat kd.toNat]) u7 v' w') :=
            run_app el_byte (HOm.out.keep ((Below.refl _ _).alloc (Nat.le_refl _) _)) (SrcS.block (c := 0) (heap_alloc_new wm _) rfl (by simp [Value.oneCell']) (Held.of_pure (w := w) (B := 0) (rByte_of (by omega) (by omega)))) (by unfold maxLen; omega) (by omega) (by have := hbm.size; simp; omega)
          have hmb2 := hmb.alloc (.cells #[.int .u8 kd] 5)
          have hbm2 := hbm.alloc hbm.size (.cells #[.int .u8 kd] 5)
          have hne : some wr.heap.size ≠ u7.ownBlock := fun e => by have := (hown _ e.symm).2; omega
          have hsz2 : (wm.alloc (.cells #[.int .u8 kd] 5)).heap.size = wm.heap.size + 1 := by simp
          have HSZ2 := Lib.hid hsz2
          clear hsz2
          go_upto_region 15 with (at_builtin; go_loud (refine wpList_app_ex rfl _ _ rfl rfl rfl HA1.out ?_); rintro v1 w3 ⟨ho1, hg1, ha1⟩)
          have hne1 : some wr.heap.size ≠ v1.ownBlock := fun e => by
            rcases ha1 with h | h
            · rw [h] at e; exact hne e
            · rw [h, HSZ2.out] at e; injection e with e; omega
          have hm3 : blk w3 wr.heap.size 64 [.int .i64 kd, .string d, .int .i64 f, .int .i64 s, .slice A' m c'] := (hg1.block _ hmb2.lt hne).trans hmb2
          have hb3 : Below w.heap.size w w3 := hbm2.grown hg1 hbm2.size (fun q e => (hown q e).1)
          have HO3 := Lib.hid ho1
          clear HA1 hmb hmb2 hmc hbm hbm2 HOm ho1 hg1 ha1 hne
          have hmc3 : ∀ i, w3.cell? ⟨wr.heap.size, i, none⟩ = ([.int .i64 kd, .string d, .int .i64 f, .int .i64 s, .slice A' m c'] : List Value)[i]? := fun i => hm3.cell i
          have hl2 : (done ++ [UInt8.ofNat kd.toNat]).length + d.size ≤ 140737488355328 := by simp; omega
          have HA2 := Lib.hid (run_app_str (ty := 32) el_byte el_byteZ Tryd.underlying9 HO3.out d hl2 hb3.size)
          clear hl2
          go_upto_region 16 with (at_builtin; go_loud (refine wpList_app_ex rfl _ _ rfl rfl rfl HA2.out ?_); rintro v2 w4 ⟨ho2, hg2, ha2⟩)
          have hz3 := hm3.lt
          have hne2 : some wr.heap.size ≠ v2.ownBlock := fun e => by
            rcases ha2 with h | h
            · rw [h] at e; exact hne1 e
            · rw [h] at e; injection e with e; omega
          have hm4 : blk w4 wr.heap.size 64 [.int .i64 kd, .string d, .int .i64 f, .int .i64 s, .slice A' m c'] := (hg2.block _ hm3.lt hne1).trans hm3
          have hb4 : Below w.heap.size w w4 := hb3.grown hg2 hb3.size (fun q e => (HO3.out.block q e).1)
          have HO4 := Lib.hid ho2
          clear HA2 hm3 hb3 hmc3 ho2 hg2 ha2 hne1 HO3
          have hmc4 : ∀ i, w4.cell? ⟨wr.heap.size, i, none⟩ = ([.int .i64 kd, .string d, .int .i64 f, .int .i64 s, .slice A' m c'] : List Value)[i]? := fun i => hm4.cell i
          have hz4 := hm4.lt
          go_wp2_with fail
          refine (number4_any (f + s) _ (by omega) (by omega)).mono ?_
          rintro e w5 ⟨v, rfl, hb5, rfl, hn5⟩
          have hm5 : blk w5 wr.heap.size 64 [.int .i64 kd, .string d, .int .i64 f, .int .i64 s, .slice A' m c'] := hm4.below hb5 hz4
          have HO5 := Lib.hid (HO4.out.keep hb5)
          have hbw5 := hb4.trans (hb5.mono hb4.size)
          have HA3 : Hid (∃ v' w', (Builtin.append_ #[32, 32] 32 #[v2, .slice (some ⟨w4.heap.size, 0, none⟩) 4 4]).run Tryd.prog w5 = .ok v' w' ∧ AppOut 5 1 rByte (fun _ => False) w5 w.heap.size (done ++ [UInt8.ofNat kd.toNat] ++ d.data.toList ++ be4 (f + s).toNat) v2 v' w') :=
            run_app el_byte HO5.out (SrcS.bytes hn5 (by simp [be4]) (by simp)) (by unfold maxLen; simp; omega) (by simp; omega) hbw5.size
          clear hmc4 hm4 hb5 hn5 hb4
          go_upto_region 17 with (at_builtin; go_loud (refine wpList_app_ex rfl _ _ rfl rfl rfl HA3.out ?_); rintro v3 w6 ⟨ho3, hg3, ha3⟩)
          have hz5 := hm5.lt
          have hne3 : some wr.heap.size ≠ v3.ownBlock := fun e => by
            rcases ha3 with h | h
            · rw [h] at e; exact hne2 e
            · rw [h] at e; injection e with e; omega
          have hm6 : blk w6 wr.heap.size 64 [.int .i64 kd, .string d, .int .i64 f, .int .i64 s, .slice A' m c'] := (hg3.block _ hm5.lt hne2).trans hm5
          have hb6 : Below w.heap.size w w6 := hbw5.grown hg3 hbw5.size (fun q e => (HO5.out.block q e).1)
          have HO6 := Lib.hid ho3
          clear HA3 hm5 hbw5 ho3 hg3 ha3 hne2 HO5 HO4
          have hmc6 : ∀ i, w6.cell? ⟨wr.heap.size, i, none⟩ = ([.int .i64 kd, .string d, .int .i64 f, .int .i64 s, .slice A' m c'] : List Value)[i]? := fun i => hm6.cell i
          have hz6 := hm6.lt
          go_wp2_with fail
          refine (number3_any (m : Int) _ (by omega) (by omega)).mono ?_
          rintro e w7 ⟨v, rfl, hb7, rfl, hn7⟩
          rw [Int.toNat_natCast] at hn7
          have hm7 : blk w7 wr.heap.size 64 [.int .i64 kd, .string d, .int .i64 f, .int .i64 s, .slice A' m c'] := hm6.below hb7 hz6
          have HO7 := Lib.hid (HO6.out.keep hb7)
          have hbw7 := hb6.trans (hb7.mono hb6.size)
          have HA4 : Hid (∃ v' w', (Builtin.append_ #[32, 32] 32 #[v3, .slice (some ⟨w6.heap.size, 0, none⟩) 3 3]).run Tryd.prog w7 = .ok v' w' ∧ AppOut 5 1 rByte (fun _ => False) w7 w.heap.size (done ++ [UInt8.ofNat kd.toNat] ++ d.data.toList ++ be4 (f + s).toNat ++ be3 m) v3 v' w') :=
            run_app el_byte HO7.out (SrcS.bytes hn7 (by simp [be3]) (by simp)) (by unfold maxLen; simp [be4]; omega) (by simp [be4]; omega) hbw7.size
          clear hmc6 hm6 hb7 hn7 hb6
          go_upto_region 18 with (at_builtin; go_loud (refine wpList_app_ex rfl _ _ rfl rfl rfl HA4.out ?_); rintro v4 w8 ⟨ho4, hg4, ha4⟩)
          have hm8 : blk w8 wr.heap.size 64 [.int .i64 kd, .string d, .int .i64 f, .int .i64 s, .slice A' m c'] := (hg4.block _ hm7.lt hne3).trans hm7
          have hb8 : Below w.heap.size w w8 := hbw7.grown hg4 hbw7.size (fun q e => (HO7.out.block q e).1)
          have hmc8 : ∀ i, w8.cell? ⟨wr.heap.size, i, none⟩ = ([.int .i64 kd, .string d, .int .i64 f, .int .i64 s, .slice A' m c'] : List Value)[i]? := fun i => hm8.cell i
          have HA5 : Hid (∃ v' w', (Builtin.append_ #[32, 32] 32 #[v4, .slice A' m c']).run Tryd.prog w8 = .ok v' w' ∧ AppOut 5 1 rByte (fun _ => False) w8 w.heap.size (done ++ [UInt8.ofNat kd.toNat] ++ d.data.toList ++ be4 (f + s).toNat ++ be3 m ++ bs) v4 v' w') :=
            run_app el_byte ho4 (rSl.srcP (rSl.keep PB.out hb8 (Nat.le_refl _)) (by decide)) (by unfold maxLen; simp [be4, be3]; omega) (by simp [be4, be3]; omega) hb8.size
          have hbo4 : ∀ q, v4.ownBlock = some q → w.heap.size ≤ q := fun q e => (ho4.block q e).1
          clear HA4 hm7 hbw7 ho4 hg4 ha4 HO7 HO6 hm8
          go_wp2_with (at_builtin; go_loud (refine wpList_app_ex rfl _ _ rfl rfl rfl HA5.out ?_); rintro v5 w9 ⟨ho5, hg5, ha5⟩)
          have hb9 : Below w.heap.size w w9 := hb8.grown hg5 hb8.size hbo4
          have heq : done ++ [UInt8.ofNat kd.toNat] ++ d.data.toList ++ be4 (f + s).toNat ++ be3 m ++ bs = done ++ frameOf (kd, d, f, s, bs) := by
            have := HLB.out
            simp [frameOf, this]
          rw [heq] at ho5
          have HO9 := Lib.hid ho5
          clear heq ho5 hg5 ha5 HA5
          go_roundw
          case rel => exact ⟨j + 1, _, by omega, by go_num, by have := HFL.out; rw [List.length_append]; omega, hb9, HO9.out, by rw [HG.out, HX.out]; simp [Hid]⟩
          case measure => (simp [intOf]; omega)
        · obtain rfl : j = k := by omega
          have HE : Hid (l.flatMap frameOf = done) := by rw [HG.out, List.drop_of_length_le (by rw [HL.out]; exact Nat.le_refl _)]; simp [Hid]
          obtain ⟨A3, c3, hv⟩ := HO.out.form
          have HRes : Hid (rBytes wr wr.heap.size done [u7]) := ownS.toSl (bts := 1) HO.out (by omega)
          subst hv
          clear HO
          go_wp2_with fail
          go_ret2
          refine ⟨_, rfl, hbw, ?_⟩
          rw [HF2.out, HE.out]
          exact ⟨A3, c3, rfl, HRes.out⟩
end Go.Proofs.YteoojplgchlhcaaDoor
