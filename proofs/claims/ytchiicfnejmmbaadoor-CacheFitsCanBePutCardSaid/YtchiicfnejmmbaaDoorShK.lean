/-
  What is shrunk: plain law; the law's walk. No statement of the seat is proved here; no conditions.
-/
import Derived.Test.YtchiicfnejmmbaaDoorShP
import Derived.Test.YtchiicfnejmmbaaDoorShr
import Derived.Test.YtchiicfnejmmbaaDoorCaX
import Derived.Test.YtchiicfnejmmbaaDoorFrz2
import Derived.Test.YtchiicfnejmmbaaDoorLvF
import Derived.Test.YtchiicfnejmmbaaDoorLowA
namespace Go.Proofs.YtchiicfnejmmbaaDoor
open Go.RowKit Go.Shelf
set_option linter.unusedVariables false
set_option linter.unusedSimpArgs false
set_option maxRecDepth 100000

theorem next_z (c : Cache) (at_ : Int) (hb : CBound c) (h : atE c at_ = 0) : FRet Tryd.prog 14 [aCache c,.f (.int .i64 at_)] [.c (.v (frStrs (digsB (leavV c.2.2.1 at_)))),.c (.v (.int .i64 0))] := by
 have hc := cok_of (atE_cache h)
 refine (next_ok c at_ hb (by have := hc.blen;omega) (riseB_of hc.rb) h).frz2 ⟨?_,rfl,trivial⟩
 have := rcF_row0 (enc := encS) (l := digsB (leavV c.2.2.1 at_)) (fun _ => rfl)
 have e1 : (digsB (leavV c.2.2.1 at_)).length = (leavV c.2.2.1 at_).length := by unfold digsB;exact List.length_map _
 have e2 : rowF encS (digsB (leavV c.2.2.1 at_)) = (digsB (leavV c.2.2.1 at_)).map .str := by
  unfold rowF encS
  generalize digsB (leavV c.2.2.1 at_) = l
  induction l with
  | nil => rfl
  | cons a l ih => simp only [List.map_cons,List.flatten_cons,ih];rfl
 rw [e1,e2] at this
 exact this
end Go.Proofs.YtchiicfnejmmbaaDoor
