/-
  Lowered forms of functions of the program, printed by low.py. No statement of the seat is proved here; no conditions.
-/
import Derived.Test.YthniagdphhcnkaaGreatDoorEngO
import Derived.Test.YthniagdphhcnkaaGreatDoorRows
namespace Go.Proofs.YthniagdphhcnkaaGreatDoor
set_option maxRecDepth 100000

def l_internal_stringslite_Cut : LFunc := ⟨.seq (.reg [⟨some 4,.move (.const (.string ⟨#[]⟩)),none⟩,⟨some 5,.move (.const (.string ⟨#[]⟩)),none⟩,⟨some 6,.move (.const (.bool .false)),none⟩]) (.seq (.seq (.reg [⟨some 8,.move (.tmp 0),none⟩,⟨some 9,.move (.tmp 1),none⟩,⟨some 10,.call (.func 45) [.tmp 8,.tmp 9],none⟩,⟨some 7,.move (.tmp 10),none⟩]) (.seq (.reg [⟨some 11,.move (.tmp 7),none⟩,⟨some 12,.bin .geq .false (.tmp 11) (.const (.int .i64 0)),none⟩]) (.cond (.tmp 12) (.seq (.draw [⟨some 13,.move (.tmp 0),none,[]⟩,⟨some 14,.move (.tmp 7),none,[]⟩,⟨some 15,.sliceS (.tmp 13) none (some (.tmp 14)),none,[0,1]⟩,⟨some 16,.move (.tmp 0),none,[]⟩,⟨some 17,.move (.tmp 7),none,[]⟩,⟨some 18,.move (.tmp 1),none,[]⟩,⟨some 19,.len .true (.tmp 18),none,[5]⟩,⟨some 20,.bin .add .false (.tmp 17) (.tmp 19),none,[4,6,5]⟩,⟨some 21,.sliceS (.tmp 16) (some (.tmp 20)) none,none,[3,7,4,6,5]⟩,⟨some 4,.move (.tmp 15),none,[2,0,1]⟩,⟨some 5,.move (.tmp 21),none,[8,3,7,4,6,5,9,2,0,1]⟩,⟨some 6,.move (.const (.bool .true)),none,[10,8,3,7,4,6,5,9,2,0,1]⟩]) .ret) .skip))) (.seq (.reg [⟨some 22,.move (.tmp 0),none⟩,⟨some 4,.move (.tmp 22),none⟩,⟨some 5,.move (.const (.string ⟨#[]⟩)),none⟩,⟨some 6,.move (.const (.bool .false)),none⟩]) .ret)),23,[.tmp 4,.tmp 5,.tmp 6]⟩
theorem low_internal_stringslite_Cut : lowF Tryz.prog 35 = some l_internal_stringslite_Cut := by kernel_rfl
def l_strings_Cut : LFunc := ⟨.seq (.reg [⟨some 4,.move (.const (.string ⟨#[]⟩)),none⟩,⟨some 5,.move (.const (.string ⟨#[]⟩)),none⟩,⟨some 6,.move (.const (.bool .false)),none⟩]) (.seq (.reg [⟨some 7,.move (.tmp 0),none⟩,⟨some 8,.move (.tmp 1),none⟩,⟨some 9,.call (.func 35) [.tmp 7,.tmp 8],none⟩,⟨some 10,.extract (.tmp 9) 0,none⟩,⟨some 11,.extract (.tmp 9) 1,none⟩,⟨some 12,.extract (.tmp 9) 2,none⟩,⟨some 4,.move (.tmp 10),none⟩,⟨some 5,.move (.tmp 11),none⟩,⟨some 6,.move (.tmp 12),none⟩]) .ret),13,[.tmp 4,.tmp 5,.tmp 6]⟩
theorem low_strings_Cut : lowF Tryz.prog 18 = some l_strings_Cut := by kernel_rfl
def l_strings_Split : LFunc := ⟨.seq (.reg [⟨some 4,.move (.const (.slice none 0 0)),none⟩]) (.seq (.reg [⟨some 5,.move (.tmp 0),none⟩,⟨some 6,.move (.tmp 1),none⟩,⟨some 7,.call (.func 46) [.tmp 5,.tmp 6,.const (.int .i64 0),.const (.int .i64 (-1))],none⟩,⟨some 4,.move (.tmp 7),none⟩]) .ret),8,[.tmp 4]⟩
theorem low_strings_Split : lowF Tryz.prog 36 = some l_strings_Split := by kernel_rfl
end Go.Proofs.YthniagdphhcnkaaGreatDoor
