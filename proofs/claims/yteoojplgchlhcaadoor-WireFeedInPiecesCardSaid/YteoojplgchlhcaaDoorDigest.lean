/-
  The walks of blob.IsDigest and the reference's isDigest.
-/
import Derived.Test.YteoojplgchlhcaaDoorLay
import Derived.Test.YteoojplgchlhcaaDoorCommon
namespace Go.Proofs.YteoojplgchlhcaaDoor
open Go.RowKit Go.Shelf
set_option linter.unusedVariables false
set_option linter.unusedSimpArgs false

def hexS : List UInt8 := [48, 49, 50, 51, 52, 53, 54, 55, 56, 57, 97, 98, 99, 100, 101, 102]
def isDig (s : ByteArray) : Bool := s.size == 16 && (Lib.trimS s.data.toList hexS).isEmpty
theorem isDig_size {s : ByteArray} (h : isDig s = true) : s.size = 16 := by
  simp [isDig] at h
  exact h.1
theorem isDig_eq {s r : ByteArray} (h : s.size = 16) (hr : r = ⟨(Lib.trimS s.data.toList hexS).toArray⟩) : isDig s = r.toList.isEmpty := by
  subst hr
  rw [ByteArray.toList_eq]
  simp [isDig, h]

theorem trim_any (s : ByteArray) (w : World) (hs : s.size ≤ 9223372036854775807) :
    Calls Tryd.prog 46 #[.string s, .string ⟨#[48, 49, 50, 51, 52, 53, 54, 55, 56, 57, 97, 98, 99, 100, 101, 102]⟩] w fun e w' => e = .returned (.string ⟨(Lib.trimS s.data.toList hexS).toArray⟩) ∧ Below w.heap.size w w' :=
  Any.strings_Trim_laid Tryd.lays160 (by kernel_rfl) s ⟨#[48, 49, 50, 51, 52, 53, 54, 55, 56, 57, 97, 98, 99, 100, 101, 102]⟩ w hs (by decide) (ascii_of_all (by decide))

set_option maxHeartbeats 1000000 in
theorem isDigest_any (s : ByteArray) (w : World) (hs : s.size ≤ 140737488355328) :
    Calls Tryd.prog 36 #[.string s] w fun e w' => e = .returned (.bool (isDig s)) ∧ Below w.heap.size w w' := by
  have hcon := trim_any s w (by omega)
  have hr := isDig_eq (s := s) (r := ⟨(Lib.trimS s.data.toList hexS).toArray⟩)
  generalize (⟨(Lib.trimS s.data.toList hexS).toArray⟩ : ByteArray) = r at hcon hr
  by_cases h16 : s.size = 16
  · have HR := Lib.hid (hr h16 rfl).symm
    clear hr
    go_enter Tryd.func36, Tryd.ntmps36
    go_wp2_with (go_at_call 46; refine hcon.mono ?_; rintro e w' ⟨rfl, hB⟩)
    go_ret
    exact ⟨by rw [← HR.out]; rfl, hB⟩
  · have HR : Hid (isDig s = false) := by unfold isDig; rw [show (s.size == 16) = false by simpa using h16]; rfl
    clear hr
    go_enter Tryd.func36, Tryd.ntmps36
    go_wp2_with (go_at_call 46; refine hcon.mono ?_; rintro e w' ⟨rfl, hB⟩)
    go_ret
    exact ⟨by rw [HR.out]; rfl, Below.refl _ _⟩
set_option maxHeartbeats 1000000 in
theorem isDigestR_any (s : ByteArray) (w : World) (hs : s.size ≤ 140737488355328) :
    Calls Tryd.prog 32 #[.string s] w fun e w' => e = .returned (.bool (isDig s)) ∧ Below w.heap.size w w' := by
  have hcon := trim_any s w (by omega)
  have hr := isDig_eq (s := s) (r := ⟨(Lib.trimS s.data.toList hexS).toArray⟩)
  generalize (⟨(Lib.trimS s.data.toList hexS).toArray⟩ : ByteArray) = r at hcon hr
  by_cases h16 : s.size = 16
  · have HR := Lib.hid (hr h16 rfl).symm
    clear hr
    go_enter Tryd.func32, Tryd.ntmps32
    go_wp2_with (go_at_call 46; refine hcon.mono ?_; rintro e w' ⟨rfl, hB⟩)
    go_ret
    exact ⟨by rw [← HR.out]; rfl, hB⟩
  · have HR : Hid (isDig s = false) := by unfold isDig; rw [show (s.size == 16) = false by simpa using h16]; rfl
    clear hr
    go_enter Tryd.func32, Tryd.ntmps32
    go_wp2_with (go_at_call 46; refine hcon.mono ?_; rintro e w' ⟨rfl, hB⟩)
    go_ret
    exact ⟨by rw [HR.out]; rfl, Below.refl _ _⟩
theorem withinR_any (a l h : Int) (w : World) :
    Calls Tryd.prog 33 #[.int .i64 a, .int .i64 l, .int .i64 h] w fun e w' => e = .returned (.bool (inR a l h)) ∧ w = w' := by
  go_enter Tryd.func33, Tryd.ntmps33
  go_wp2
  all_goals go_ret
  all_goals exact ⟨by simp [inR, *] <;> omega, rfl⟩
end Go.Proofs.YteoojplgchlhcaaDoor
