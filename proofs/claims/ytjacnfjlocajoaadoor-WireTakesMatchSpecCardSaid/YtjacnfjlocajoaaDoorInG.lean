/-
  Rows into which one is put, out of which some are taken: plain law. No statement of the seat is proved here; no conditions.
-/
import Derived.Test.YtjacnfjlocajoaaDoorCutP
namespace Go.Proofs.YtjacnfjlocajoaaDoor
open Go.RowKit
set_option linter.unusedVariables false
set_option linter.unusedSimpArgs false
set_option maxRecDepth 100000

theorem row_del {α : Type} {enc : α → List FV} {sz : Nat} (hs : ∀ x,(enc x).length = sz) (l : List α) {i j : Nat} (hij : i ≤ j) (hj : j ≤ l.length) :
  splice ((rowF enc l).map AV.f) (i * sz) ((((rowF enc l).map AV.f).drop (j * sz)).take ((l.length - j) * sz)) = (rowF enc (l.take i ++ l.drop j) ++ (rowF enc l).drop ((i + (l.length - j)) * sz)).map AV.f := by
 have h1 : (((rowF enc l).map AV.f).drop (j * sz)).take ((l.length - j) * sz) = (rowF enc (l.drop j)).map AV.f := by
  rw [← List.map_drop,row_drop hs,List.take_of_length_le (by rw [List.length_map,row_len hs,List.length_drop];exact Nat.le_refl _)]
 rw [h1,splice_at _ _ _ (by rw [List.length_map,List.length_map,row_len hs,row_len hs,List.length_drop,← Nat.add_mul];exact Nat.mul_le_mul_right _ (by omega)),← List.map_take,row_take hs,List.length_map,row_len hs,List.length_drop,← Nat.add_mul,← List.map_drop,← List.map_append,← List.map_append,row_app,List.append_assoc]
theorem row_clr {α : Type} {enc : α → List FV} {sz : Nat} (hs : ∀ x,(enc x).length = sz) (M : List α) (r z : List FV) (k : Nat) (hr : r.length = k * sz) (hz : z.length = sz) :
  splice ((rowF enc M ++ r).map AV.f) (M.length * sz) (zeros k z) = (rowF enc M ++ (List.replicate k z).flatten).map AV.f := by
 have hl : (zeros k z).length = k * sz := by rw [zeros,List.length_map,flatten_len (sz := sz) _ (fun y hy => by rw [List.eq_of_mem_replicate hy];exact hz),List.length_replicate]
 have h2 : ((rowF enc M).map AV.f).length = M.length * sz := by rw [List.length_map,row_len hs]
 have := splice_mid (zeros k z) ((rowF enc M).map AV.f) (r.map AV.f) [] (by rw [List.length_map,hr,hl])
 rw [List.append_nil,List.append_nil,h2] at this
 rw [List.map_append,this,List.map_append];rfl
theorem row_in1 {α : Type} {enc : α → List FV} {sz : Nat} (hs : ∀ x,(enc x).length = sz) (l : List α) (b : α) {i : Nat} (hi : i ≤ l.length) (Zs : List AV) (hz : sz ≤ Zs.length) :
  splice ((rowF enc (l.take i)).map AV.f ++ Zs) (i * sz) ((enc b).map AV.f) = (rowF enc (l.take i) ++ enc b).map AV.f ++ Zs.drop sz := by
 have hA : ((rowF enc (l.take i)).map AV.f).length = i * sz := by rw [List.length_map,row_len hs,List.length_take,Nat.min_eq_left hi]
 rw [splice_at _ _ _ (by rw [List.length_append,hA,List.length_map,hs];omega),List.length_map,hs,← hA,List.take_left,List.drop_length_add_append,List.map_append,List.append_assoc]
theorem row_in2 {α : Type} {enc : α → List FV} {sz : Nat} (hs : ∀ x,(enc x).length = sz) (l : List α) (b : α) {i : Nat} (hi : i ≤ l.length) (Zs : List AV) (hz : Zs.length = (l.length - i) * sz) :
  splice ((rowF enc (l.take i) ++ enc b).map AV.f ++ Zs) ((i + 1) * sz) ((((rowF enc l).map AV.f).drop (i * sz)).take ((l.length - i) * sz)) = (rowF enc (l.take i ++ b :: l.drop i)).map AV.f := by
 have hA : ((rowF enc (l.take i) ++ enc b).map AV.f).length = (i + 1) * sz := by rw [List.length_map,List.length_append,row_len hs,hs,List.length_take,Nat.min_eq_left hi,Nat.add_mul,Nat.one_mul]
 have hR : (((rowF enc l).map AV.f).drop (i * sz)).take ((l.length - i) * sz) = (rowF enc (l.drop i)).map AV.f := by
  rw [← List.map_drop,row_drop hs,List.take_of_length_le (by rw [List.length_map,row_len hs,List.length_drop];exact Nat.le_refl _)]
 have hl : ((rowF enc (l.drop i)).map AV.f).length = (l.length - i) * sz := by rw [List.length_map,row_len hs,List.length_drop]
 rw [hR]
 have := splice_mid ((rowF enc (l.drop i)).map AV.f) ((rowF enc (l.take i) ++ enc b).map AV.f) Zs [] (by rw [hz,hl])
 rw [List.append_nil,List.append_nil,hA] at this
 rw [this,← List.map_append,row_app,row_cons,List.append_assoc]
theorem row_up {α : Type} {enc : α → List FV} {sz : Nat} (hs : ∀ x,(enc x).length = sz) (l : List α) {i : Nat} (hi : i ≤ l.length) (Y : List AV) (hY : Y.length = sz) :
  splice ((rowF enc l).map AV.f ++ Y) ((i + 1) * sz) ((((rowF enc l).map AV.f ++ Y).drop (i * sz)).take ((l.length - i) * sz)) = (rowF enc (l.take i)).map AV.f ++ (((((rowF enc l).map AV.f ++ Y).drop (i * sz)).take sz) ++ (rowF enc (l.drop i)).map AV.f) := by
 have hL : ((rowF enc l).map AV.f).length = l.length * sz := by rw [List.length_map,row_len hs]
 have hle : i * sz ≤ l.length * sz := Nat.mul_le_mul_right _ hi
 have hle2 : (l.length - i) * sz = l.length * sz - i * sz := Nat.sub_mul _ _ _
 have hR : ((((rowF enc l).map AV.f ++ Y).drop (i * sz)).take ((l.length - i) * sz)) = (rowF enc (l.drop i)).map AV.f := by
  rw [List.drop_append_of_le_length (by omega),← List.map_drop,row_drop hs,List.take_append_of_le_length (by rw [List.length_map,row_len hs,List.length_drop];exact Nat.le_refl _),List.take_of_length_le (by rw [List.length_map,row_len hs,List.length_drop];exact Nat.le_refl _)]
 have hl : ((rowF enc (l.drop i)).map AV.f).length = (l.length - i) * sz := by rw [List.length_map,row_len hs,List.length_drop]
 have hT : ((rowF enc l).map AV.f ++ Y).take (i * sz) = (rowF enc (l.take i)).map AV.f := by
  rw [List.take_append_of_le_length (by omega),← List.map_take,row_take hs]
 have hT2 : ((rowF enc l).map AV.f ++ Y).take ((i + 1) * sz) = (rowF enc (l.take i)).map AV.f ++ (((rowF enc l).map AV.f ++ Y).drop (i * sz)).take sz := by
  rw [Nat.add_mul,Nat.one_mul,List.take_add,hT]
 have hD : ((rowF enc l).map AV.f ++ Y).drop ((i + 1) * sz + (l.length - i) * sz) = [] := List.drop_of_length_le (by rw [List.length_append,hL,hY,Nat.add_mul];omega)
 rw [hR,splice_at _ _ _ (by rw [hl,List.length_append,hL,hY,Nat.add_mul];omega),hT2,hl,hD,List.append_nil,List.append_assoc]
theorem row_in3 {α : Type} {enc : α → List FV} {sz : Nat} (hs : ∀ x,(enc x).length = sz) (l : List α) (b : α) {i : Nat} (hi : i ≤ l.length) (X : List AV) (hX : X.length = sz) :
  splice ((rowF enc (l.take i)).map AV.f ++ (X ++ (rowF enc (l.drop i)).map AV.f)) (i * sz) ((enc b).map AV.f) = (rowF enc (l.take i ++ b :: l.drop i)).map AV.f := by
 have hA : ((rowF enc (l.take i)).map AV.f).length = i * sz := by rw [List.length_map,row_len hs,List.length_take,Nat.min_eq_left hi]
 have := splice_mid ((enc b).map AV.f) ((rowF enc (l.take i)).map AV.f) X ((rowF enc (l.drop i)).map AV.f) (by rw [List.length_map,hs,hX])
 rw [hA] at this
 rw [this,← List.map_append,← List.map_append,row_app,row_cons]
theorem slOf_ifz {p : Prop} [Decidable p] {id ver sz off n c : Nat} (h : ¬ p → n = 0) : SlOf (if p then .slc id ver sz off n c else .sl id ver sz off 0) id ver sz off n := by
 split
 ·exact .inr ⟨_,rfl⟩
 ·rename_i hp;rw [h hp];exact .inl rfl
def OvOk (P : Program) (fid : FuncId) : Prop := ∃ fn tS tR e sz,P.funcs[fid]? = some fn ∧ (fn.name == "runtime.NumGoroutine") = false ∧ fn.body.isNone = true ∧ Extern.findNext fn = none ∧ Extern.find fn = some (Extern.SlicesOverlaps.overlaps #[tS,tS] #[tR]) ∧ P.underlying tS = some (.slice e) ∧ sizeOf? P e = some sz
end Go.Proofs.YtjacnfjlocajoaaDoor
