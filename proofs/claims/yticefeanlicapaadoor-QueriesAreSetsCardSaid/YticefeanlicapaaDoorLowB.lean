/-
  Lowered forms of functions of the program, printed by low.py. No statement of the seat is proved here; no conditions.
-/
import Derived.Test.YticefeanlicapaaDoorEngO
import Derived.Test.YticefeanlicapaaDoorRows
namespace Go.Proofs.YticefeanlicapaaDoor
set_option maxRecDepth 100000

def l_strings_HasPrefix : LFunc := ⟨.seq (.reg [⟨some 4,.move (.const (.bool .false)),none⟩]) (.seq (.reg [⟨some 5,.move (.tmp 0),none⟩,⟨some 6,.move (.tmp 1),none⟩,⟨some 7,.call (.func 66) [.tmp 5,.tmp 6],none⟩,⟨some 4,.move (.tmp 7),none⟩]) .ret),8,[.tmp 4]⟩
theorem low_strings_HasPrefix : lowF Tryd.prog 51 = some l_strings_HasPrefix := by kernel_rfl
def l_strings_CutSuffix : LFunc := ⟨.seq (.reg [⟨some 4,.move (.const (.string ⟨#[]⟩)),none⟩,⟨some 5,.move (.const (.bool .false)),none⟩]) (.seq (.reg [⟨some 6,.move (.tmp 0),none⟩,⟨some 7,.move (.tmp 1),none⟩,⟨some 8,.call (.func 50) [.tmp 6,.tmp 7],none⟩,⟨some 9,.extract (.tmp 8) 0,none⟩,⟨some 10,.extract (.tmp 8) 1,none⟩,⟨some 4,.move (.tmp 9),none⟩,⟨some 5,.move (.tmp 10),none⟩]) .ret),11,[.tmp 4,.tmp 5]⟩
theorem low_strings_CutSuffix : lowF Tryd.prog 40 = some l_strings_CutSuffix := by kernel_rfl
def l_internal_stringslite_CutSuffix : LFunc := ⟨.seq (.reg [⟨some 4,.move (.const (.string ⟨#[]⟩)),none⟩,⟨some 5,.move (.const (.bool .false)),none⟩]) (.seq (.seq (.reg [⟨some 6,.move (.tmp 0),none⟩,⟨some 7,.move (.tmp 1),none⟩,⟨some 8,.call (.func 65) [.tmp 6,.tmp 7],none⟩,⟨some 9,.un .not (.tmp 8),none⟩]) (.cond (.tmp 9) (.seq (.reg [⟨some 10,.move (.tmp 0),none⟩,⟨some 4,.move (.tmp 10),none⟩,⟨some 5,.move (.const (.bool .false)),none⟩]) .ret) .skip)) (.seq (.reg [⟨some 11,.move (.tmp 0),none⟩,⟨some 12,.move (.tmp 0),none⟩,⟨some 13,.len .true (.tmp 12),none⟩,⟨some 14,.move (.tmp 1),none⟩,⟨some 15,.len .true (.tmp 14),none⟩,⟨some 16,.bin .sub .false (.tmp 13) (.tmp 15),none⟩,⟨some 17,.sliceS (.tmp 11) none (some (.tmp 16)),none⟩,⟨some 4,.move (.tmp 17),none⟩,⟨some 5,.move (.const (.bool .true)),none⟩]) .ret)),18,[.tmp 4,.tmp 5]⟩
theorem low_internal_stringslite_CutSuffix : lowF Tryd.prog 50 = some l_internal_stringslite_CutSuffix := by kernel_rfl
def l_blob_Within : LFunc := ⟨.seq (.reg [⟨some 4,.move (.const (.bool .false)),none⟩]) (.seq (.reg [⟨some 5,.move (.tmp 0),none⟩,⟨some 6,.move (.tmp 1),none⟩,⟨some 7,.bin .add .false (.tmp 6) (.const (.string ⟨#[47]⟩)),none⟩,⟨some 8,.call (.func 51) [.tmp 5,.tmp 7],none⟩,⟨some 4,.move (.tmp 8),none⟩]) .ret),9,[.tmp 4]⟩
theorem low_blob_Within : lowF Tryd.prog 41 = some l_blob_Within := by kernel_rfl
end Go.Proofs.YticefeanlicapaaDoor
