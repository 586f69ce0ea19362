/-
  slices.Grow and slices.Concat at bytes.
-/
import Derived.Test.YteoojplgchlhcaaDoorFeed1
import Derived.Lib.AppendZeros
namespace Go.Proofs.YteoojplgchlhcaaDoor
open Go.RowKit
set_option linter.unusedVariables false
set_option linter.unusedSimpArgs false

theorem wpList_append_run {P : Program} {w w' : World} {ops : Array Oper} {rest : List Oper} {o : Oper} {a : Act} {Q : Exit → Act → World → Prop} {t u : TypeId} (hgd : o.guard = none) (s x : Operand) (ho : o.op = .call { callee := .builtin .append, args := #[s, x], argTypes := #[t, u] })
    {vs vx v' : Value} (hs : a.eval s = vs) (hx : a.eval x = vx) (hr : (Builtin.append_ #[t, u] o.type #[vs, vx]).run P w = .ok v' w') (h : wpList P ops Q rest (a.put o.dst v') w') : wpList P ops Q (o :: rest) a w :=
  wpList_plain hgd fun K hK => by
    unfold Oper.wp execOp
    simp only [ho, resolve, invoke, builtin, Sem.run_bind, Sem.run_pure, Result.andThen_ok, List.map_toArray, List.map_cons, List.map_nil, hs, hx, hr]
    exact hK _ _ h

set_option maxHeartbeats 1000000 in
/-- slices.Grow(nil, n). -/
theorem growBytes_nil (n : Nat) (w : World) (hn : n * 1 ≤ 140737488355328) (hn2 : n ≤ 140737488355328) :
    Calls Tryd.prog 48 #[.slice none 0 0, .int .i64 n] w (Ret (fun v w' => ∃ A c, v = .slice A 0 c ∧ w'.ownsRow w.heap.size 5 1 v 0 []) w) := by
  have e0 : decide ((n : Int) < 0) = false := by simp
  have e1 : (n : Int) ≤ 140737488355328 := by omega
  by_cases h0 : n = 0
  · subst h0
    go_enter Tryd.func48, Tryd.ntmps48
    go_wp2_with fail
    go_ret
    exact ⟨_, rfl, Below.refl _ _, none, 0, rfl, World.ownsRow_nil _ _ _ _⟩
  · have e2 : 0 < n := by omega
    obtain ⟨i, hi, hz, hs, hb⟩ := info_parts (P := Tryd.prog) (e := 5) (z := .int .u8 0) (size := 1) (bytes := 1) (by kernel_rfl)
    have hap := fun (W : World) => Lib.run_append_nil_zeros (P := Tryd.prog) W 32 3 32 5 i (.int .u8 0) .i64 .i64 Tryd.underlying32 Tryd.underlying3 hi hz n (by omega) (by rw [hs]; decide) (by omega) (by rw [hb]; omega)
    have hc := grownCap_le_maxLen w n 0 5 (by unfold maxLen; omega)
    have hge := grownCap_ge w n 0 5
    have hcm : grownCap w n 0 5 ≤ 9223372036854775807 := by unfold maxLen at hc; omega
    have HC := Lib.hid hc
    clear hc
    have HN := Lib.hid hge
    clear h0
    generalize hG : grownCap w n 0 5 = G at HC hge hcm HN
    have HG := Lib.hid hG
    have hap1 := hap w
    rw [hG] at hap1
    have e : (.int .u8 0 : Value).cells.size = 1 := rfl
    have HCS : Hid ((Builtin.zeroCells (.int .u8 0 : Value).cells n ++ Builtin.zeroCells (.int .u8 0 : Value).cells (G - n)).size = G * 1) := by
      show _ = _
      rw [Array.size_append, size_zeroCells, size_zeroCells, e]
      omega
    generalize Builtin.zeroCells (.int .u8 0 : Value).cells n ++ Builtin.zeroCells (.int .u8 0 : Value).cells (G - n) = cs at hap1 HCS
    have hap2 : (Builtin.append_ #[32, 3] 32 #[.slice none 0 0, .int .i64 n]).run Tryd.prog w = .ok (.slice (some ⟨w.heap.size, 0, none⟩) n G) (w.alloc (.cells cs 5)).drew := hap1
    have HN1 := Lib.hid hn
    have HA := Lib.hid hap2
    clear hap hap1 hap2 e hG hi hz hs hb hn
    go_enter Tryd.func48, Tryd.ntmps48
    go_wp2_with (at_builtin; go_loud (refine wpList_append_run rfl _ _ rfl rfl rfl HA.out ?_))
    go_ret
    exact ⟨_, rfl, ((Below.refl _ _).alloc (Nat.le_refl _) _).drew, _, _, rfl, by simp, .inr ⟨w.heap.size, G, cs, rfl, Nat.le_refl _, heap_alloc_new w _, by omega, HC.out, HCS.out, by simp⟩⟩

set_option maxHeartbeats 2000000 in
theorem concatBytes_any (A : Option Addr) (n c B : Nat) (ls : List (List (UInt8))) (w : World) (hR : rSl 1 24 (rSl 1 1 (rByte)) w B ls [.slice A n c]) (hB : B ≤ w.heap.size) (hs : ls.flatten.length * 1 ≤ 140737488355328) (hs2 : ls.flatten.length ≤ 140737488355328) :
    Calls Tryd.prog 38 #[.slice A n c] w (Ret (fun v w' => ownSl 5 1 (rByte) w' w.heap.size B ls.flatten v) w) := by
  have hcm := hR.le
  have hln := hR.len
  have HR := Lib.hid hR
  have HL := Lib.hid hln
  clear hR hln
  obtain ⟨hcm1, hcm2, _⟩ := hcm
  have HF : Hid (∀ k, (ls.take k).flatten.length ≤ ls.flatten.length) := fun k => by
    have : ls.flatten = (ls.take k).flatten ++ (ls.drop k).flatten := by rw [← List.flatten_append, List.take_append_drop]
    rw [this]; simp
  go_enter Tryd.func38, Tryd.ntmps38
  go_wp2_with fail
  go_loopw [3, 11] (fun sv i wr => ∃ k : Nat, k ≤ n ∧ i = .int .i64 k ∧ sv = .int .i64 ((ls.take k).flatten.length : Nat) ∧ w = wr) (fun _ i _ => n - (intOf i).toNat)
  case atStart => exact ⟨0, by omega, rfl, by simp, rfl⟩
  case round =>
    obtain ⟨k, hk, rfl, rfl, rfl⟩ := hrel
    have hfk := HF.out k
    by_cases hlt : k < n
    · obtain ⟨b, o, x, vs, rfl, hb, hx, hvs, hxR, hcell⟩ := rSl.at_ HR.out hlt
      obtain ⟨A', c', rfl, hx1, hx2⟩ := rSl.form hxR
      have hc0 := hcell 0 _ rfl
      rw [Nat.mul_one, Nat.add_zero] at hc0
      unfold maxLen at hx2
      have hnx : (ls.take (k + 1)).flatten.length = (ls.take k).flatten.length + x.length := by rw [take_snoc' hx]; simp
      have hfk2 := HF.out (k + 1)
      have HNX := Lib.hid hnx
      have hle : (ls.take k).flatten.length + x.length ≤ 140737488355328 := by omega
      generalize (ls.take k).flatten.length = S at hle HNX ⊢
      have e1 : IntKind.i64.wrap ((S : Int) + (x.length : Int)) = ((S + x.length : Nat) : Int) := (IntWalk.i64_in _ (by omega)).trans (by push_cast; rfl)
      have e2 : decide (((S + x.length : Nat) : Int) < 0) = false := by simp; omega
      clear hnx hcell hx hvs hxR hfk hfk2
      go_wp2_with fail
      go_roundw
      case rel => exact ⟨k + 1, by omega, by go_num, by rw [HNX.out]; first | rfl | (push_cast; rfl), trivial⟩
      case measure => simp [intOf]; omega
    · obtain rfl : k = n := by omega
      have HT : Hid ((ls.take k).flatten = ls.flatten) := by rw [List.take_of_length_le (by rw [HL.out]; exact Nat.le_refl _)]; rfl
      rw [HT.out] at hfk ⊢
      generalize hS : ls.flatten.length = S at hs hs2 hfk HF ⊢
      have HS := Lib.hid hS
      clear hS
      go_wp2_with fail
      refine (growBytes_nil S _ hs hs2).mono ?_
      rintro e w1 ⟨v, rfl, hb1, A1, c1, rfl, hown⟩
      have HO : Hid (ownSl 5 1 (rByte) w1 w.heap.size B [] (.slice A1 0 c1)) := ⟨[], hown, fun k x h => by simp at h⟩
      clear hown
      go_wp2_with fail
      go_loopw [6, 27] (fun v i wr => ∃ j : Nat, j ≤ k ∧ i = .int .i64 j ∧ Below w.heap.size w wr ∧ Hid (ownSl 5 1 (rByte) wr w.heap.size B (ls.take j).flatten v)) (fun _ i _ => k - (intOf i).toNat)
      case atStart => exact ⟨0, by omega, rfl, hb1, HO.out⟩
      case round =>
        obtain ⟨j, hj, rfl, hbw, HO2⟩ := hrel
        clear HO
        have hzw := hbw.size
        by_cases hlt2 : j < k
        · obtain ⟨b, o, x, vs, rfl, hb, hx, hvs, hxR, hcell⟩ := rSl.at_ (rSl.keep HR.out (hbw.mono hB) (Nat.le_refl _)) hlt2
          obtain ⟨A', c', rfl, hx1, hx2⟩ := rSl.form hxR
          have hc0 := hcell 0 _ rfl
          rw [Nat.mul_one, Nat.add_zero] at hc0
          unfold maxLen at hx2
          have HNX := Lib.hid (show (ls.take (j + 1)).flatten = (ls.take j).flatten ++ x by rw [take_snoc' hx]; simp)
          have hfk2 := HF.out (j + 1)
          have hle : (ls.take j).flatten.length + x.length ≤ S := by rw [HNX.out] at hfk2; simpa using hfk2
          have HX := Lib.hid (rSl.src hxR (by decide))
          generalize hxl : x.length = m at hc0 hle HX hx1 hx2
          clear hcell hx hvs hxR hfk2
          go_wp2_with (at_builtin; go_loud (refine wpList_append_sl el_byte inferInstance inferInstance rfl _ _ rfl rfl HO2.out rfl HX.out (by unfold maxLen; omega) (by omega) hzw hB ?_); intro v' w2 ho hbe _)
          have HO3 := Lib.hid ho
          clear ho
          go_roundw
          case rel => exact ⟨j + 1, by omega, by go_num, hbw.trans hbe, by rw [HNX.out]; exact HO3.out⟩
          case measure => simp [intOf]; omega
        · obtain rfl : j = k := by omega
          rw [HT.out] at HO2
          go_wp2_with fail
          go_ret
          exact ⟨_, rfl, hbw, HO2.out⟩

end Go.Proofs.YteoojplgchlhcaaDoor
