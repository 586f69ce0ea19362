/-
  cache.touch. No statement of the seat is proved here; no conditions.
-/
import Derived.Test.YtalfepdfiehecaaDoorInD
namespace Go.Proofs.YtalfepdfiehecaaDoor
open Go.RowKit Go.Shelf
set_option linter.unusedVariables false
set_option linter.unusedSimpArgs false
set_option maxRecDepth 100000

theorem fz_ownc {H : Heap} {i1 v1 i2 v2 : Nat} {room lease : Int} {bl : List Blob} {en : List Entry} (h1 : cellsOf v1 (H i1) = some ((rowF fBlob bl).map .f)) (h2 : cellsOf v2 (H i2) = some ((rowF fEntry en).map .f)) : FzOk H (.agg [.f (.int .i64 room),.f (.int .i64 lease),.sl i1 v1 5 0 bl.length,.sl i2 v2 3 0 en.length]) (aCache (room,lease,bl,en)) := by
 refine fz_so ?_
 dsimp only [aCache]
 rw [so_aa,so_cons,so_cons,so_cons,so_cons,so_nil]
 exact ⟨so_f,so_f,so_row0 (enc := fBlob) (fun _ => rfl) rfl h1 rfl,so_row0 (enc := fEntry) (fun _ => rfl) rfl h2 rfl,trivial⟩
theorem hasB_at {bl : List Blob} {d : ByteArray} (hr : Rising (fun b : Blob => b.1) bl) (h : hasB bl d = true) : ∃ y,bl[bIdx bl d]? = some y ∧ y.1 = d := by
 rw [hasB,← bsHit_eq hr,bsHit] at h
 show ∃ y,bl[bsIdx (fun b : Blob => cmpB b.1 d) bl]? = some y ∧ y.1 = d
 split at h
 ·rename_i y hy
  exact ⟨y,hy,by rw [decide_eq_true_eq,cmpB_eq] at h;exact h⟩
 ·cases h
end Go.Proofs.YtalfepdfiehecaaDoor
