/-
  strings.Builder: copyCheck, String on the machine. No statement of the seat is proved here; no conditions.
-/
import Derived.Test.YthniagdphhcnkaaGreatDoorHi6
import Derived.Test.YthniagdphhcnkaaGreatDoorLay
import Derived.Test.YthniagdphhcnkaaGreatDoorLowT
import Derived.Shelf.Strings.Builder1
namespace Go.Proofs.YthniagdphhcnkaaGreatDoor
open Go.RowKit Go.Shelf
set_option linter.unusedVariables false
set_option linter.unusedSimpArgs false
set_option maxRecDepth 100000

theorem bld_info : ∃ j,Tryz.prog.info? 38 = some j ∧ j.size = 2 := by
 have h : (Tryz.prog.info? 38).map (·.size) = some 2 := by kernel_rfl
 obtain ⟨j,h1,h2⟩ := Option.map_eq_some_iff.1 h
 exact ⟨j,h1,h2⟩
theorem bld_lies (n : Nat) (hn : 2 ≤ n) : liesAt Tryz.prog Tryz.prog.depth 38 (n / Tryz.prog.cellsOf 38) 0 38 1 = true := by
 have hc : Tryz.prog.cellsOf 38 = 2 := by kernel_rfl
 rw [hc]
 have h1 : 1 ≤ n / 2 := by omega
 have hd : Tryz.prog.depth = (2 * (Tryz.prog.types.size + Made.depth) + 1) + 1 := rfl
 rw [hd]
 simp only [liesAt,Bool.or_eq_true]
 left
 rw [hd]
 simp [rowAt,hc,h1,sameLayout]
theorem copyUsed_w (b o : Nat) (w : World) (h0 : w.cell? ⟨b,o,none⟩ = some (.pointer (some ⟨b,o,none⟩))) :
  Calls Tryz.prog 29 #[.pointer (some ⟨b,o,none⟩)] w fun e w' => e = .returned (.tuple #[]) ∧ w' = w := by
 obtain ⟨j,hj,_⟩ := bld_info
 go_enter Tryz.func29,Tryz.ntmps29
 go_wp2
 rw [Lib.run_neq_ptr_same w _ (by kernel_rfl) hj]
 go_wp2
 go_end0
 exact ⟨rfl,rfl⟩
theorem copyFresh_w (b sz : Nat) (hsz : 2 ≤ sz) (w : World) (h0 : w.cell? ⟨b,0,none⟩ = some (.pointer none)) (hsh : w.shape? b = some (38,sz)) (hfz : w.frozen? ⟨b,0,none⟩ = false) :
  Calls Tryz.prog 29 #[.pointer (some ⟨b,0,none⟩)] w fun e w' => e = .returned (.tuple #[]) ∧ w' = w.setCell ⟨b,0,none⟩ (.pointer (some ⟨b,0,none⟩)) := by
 obtain ⟨j,hj,hjs⟩ := bld_info
 have hl := bld_lies sz hsz
 have h1 : (Tryz.prog.underlying 35) = some (.pointer 38) := by kernel_rfl
 have h2 : (Tryz.prog.underlying 78) = some .unsafePointer := by kernel_rfl
 go_enter Tryz.func29,Tryz.ntmps29
 go_wp2
 rw [Lib.run_to_unsafe w ⟨b,0,none⟩ h1 h2 hj (by rw [hjs];decide) hsh (by show 0 < sz;omega)]
 simp only [Result.andThen]
 rw [Oper.upon_value]
 go_wp2
 rw [run_callFunc_extern Tryz.func43 (by kernel_rfl) (by kernel_rfl) (by kernel_rfl) (e := Extern.AbiNoEscape.same) (by kernel_rfl)]
 rw [Lib.run_noEscape]
 simp only [Result.andThen]
 rw [Oper.upon_value]
 go_wp2
 rw [Lib.run_from_unsafe w ⟨b,0,none⟩ h2 h1 hj hsh hl]
 simp only [Result.andThen]
 rw [Oper.upon_value]
 go_wp2
 go_end0
 exact ⟨rfl,rfl⟩
set_option maxHeartbeats 4000000 in
theorem string_w (b o g cap : Nat) (arr : Array Value) (l : List UInt8) (hl : l ≠ []) (w : World) (c1 : w.cell? ⟨b,o + 1,none⟩ = some (.slice (some ⟨g,0,none⟩) l.length cap)) (hg : w.heap[g]? = some (.cells arr 5 (0,0))) (hcap : l.length ≤ cap) (hcm : cap ≤ maxLen) (hsz : cap ≤ arr.size)
  (hb : ∀ (j : Nat) (x : UInt8),l[j]? = some x → w.cell? ⟨g,0 + j,none⟩ = some (.int .u8 x.toNat)) :
  Calls Tryz.prog 16 #[.pointer (some ⟨b,o,none⟩)] w fun e w' => e = .returned (.string ⟨l.toArray⟩) ∧ w' = w.drew.freeze ⟨g,0,none⟩ l.length := by
 have hn0 : l.length ≠ 0 := fun e => hl (List.eq_nil_of_length_eq_zero e)
 have c1' : w.drew.cell? ⟨b,o + 1,none⟩ = some (.slice (some ⟨g,0,none⟩) l.length cap) := c1
 have hSD : (Builtin.unsafeSliceData_ #[36] 67 #[.slice (some ⟨g,0,none⟩) l.length cap]).run Tryz.prog w.drew = .ok (.pointer (some ⟨g,0,none⟩)) w.drew := Lib.run_unsafeSliceData_row _ _ _ _ _ _ (by omega)
 have hUS : (Builtin.unsafeString_ #[67,3] 9 #[.pointer (some ⟨g,0,none⟩),.int .i64 l.length]).run Tryz.prog w.drew = .ok (.string ⟨l.toArray⟩) (w.drew.freeze ⟨g,0,none⟩ l.length) := by
  refine Lib.run_unsafeString_row w.drew 67 3 9 5 (by kernel_rfl) (by kernel_rfl) g arr.size (by have hg' : w.drew.heap[g]? = some (.cells arr 5 (0,0)) := hg;simp [World.shape?,hg']) l hl (by omega) (by unfold maxLen at hcm;omega) ?_
  intro j x hx
  rw [Addr.add_mid]
  exact hb j x hx
 have mixed : Tryz.prog.follows .mixedOrders = true := by kernel_rfl
 go_enter Tryz.func16,Tryz.ntmps16
 go_wp2
 go_region_o
 all_goals (go_wp2;go_ret;exact ⟨rfl,rfl⟩)
end Go.Proofs.YthniagdphhcnkaaGreatDoor
