/-
  A receiver takes a message. No statement of the seat is proved here; no conditions.
-/
import Derived.Test.YtjacnfjlocajoaaDoorWr8
namespace Go.Proofs.YtjacnfjlocajoaaDoor
open Go.RowKit Go.Shelf
set_option linter.unusedVariables false
set_option linter.unusedSimpArgs false
set_option maxRecDepth 100000

theorem beg2_nil {D : List Ob} {P : List Pt} {t : ByteArray} {s : Int} : (beg2 D P t s).2.2.2.2.2.2 = [] := by
 unfold beg2 wholeV
 repeat' split
 all_goals rfl
theorem whole_nil {D : List Ob} {P : List Pt} {t : ByteArray} {b : List UInt8} : (wholeV D P t b).2.2.2.2.2.2 = [] := by
 unfold wholeV
 repeat' split
 all_goals rfl
theorem take_nil {D : List Ob} {P : List Pt} {m : Mg} : (takeV D P m).2.2.2.2.2.2 = [] := by
 unfold takeV
 split
 ·rfl
 split
 ·rfl
 split
 ·rfl
 split
 ·unfold beginV
  split
  ·exact beg2_nil
  ·split
   ·rfl
   ·exact beg2_nil
 split
 ·rfl
 split
 ·unfold dataV
  split
  ·rfl
  split
  ·split
   ·rfl
   split
   ·rfl
   ·exact whole_nil
  ·rfl
 ·rfl
def rRc (r : Rc) : RS := .agg [.own 2 r.1.length (rowF fOb r.1),.own 3 r.2.length (rowF fPt r.2)]
theorem own_hiq {D : List Ob} {P : List Pt} {t : ByteArray} (r : AV) (hl : List (Nat × Nat × AObj)) (h : r = .agg [.sl 100002 1 2 0 D.length,.sl 100101 1 3 0 P.length] ∧ hl = hiRc D P t 1 1 1) : r.hi = true ∧ hiObjs hl = true := by
 obtain ⟨rfl,rfl⟩ := h
 refine ⟨rfl,?_⟩
 unfold hiObjs hiRc
 simp only [List.all_cons,List.all_nil,Bool.and_true,Bool.and_eq_true]
 exact ⟨hi_fs _,hi_rowA (fun _ => rfl) P,hi_fs _⟩
theorem hl_c {H H' : Heap} {i v : Nat} {cs cs0 : List AV} {l : List (Nat × Nat × AObj)} (h : (H i).2 = some (.cells cs0)) (h2 : SlotsOk H H' [] cs0 cs) (h3 : HlOk H H' [] l) : HlOk H H' [] ((i,v,.cells cs) :: l) := ⟨by rw [if_neg (by simp)];exact ⟨cs0,h,h2⟩,h3⟩
theorem so_frYs {H H' : Heap} {nw : List Nat} {b : List UInt8} : SlotsOk H H' nw (frY b) (frY b) := so_fs2
theorem tl_frY {τ : Turn} {b : List UInt8} : AV.turnL τ (frY b) = frY b := tl_fs
end Go.Proofs.YtjacnfjlocajoaaDoor
