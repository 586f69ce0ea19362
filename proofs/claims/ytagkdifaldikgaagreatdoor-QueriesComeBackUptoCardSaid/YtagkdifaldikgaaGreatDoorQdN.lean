/-
  The whole query, walked. No statement of the seat is proved here; no conditions.
-/
import Derived.Test.YtagkdifaldikgaaGreatDoorQdM
namespace Go.Proofs.YtagkdifaldikgaaGreatDoor
open Go.RowKit Go.Shelf
set_option linter.unusedVariables false
set_option linter.unusedSimpArgs false
set_option maxRecDepth 100000

section
variable {w : World} {b j : Nat} {arr : Array Value} {e : TypeId} {v : Value}
theorem bx_cell (h : w.heap[b]? = some (.cells arr e (0,0))) : w.cell? ⟨b,j,none⟩ = arr[j]? := by simp [World.cell?,h]
theorem bx_frz (h : w.heap[b]? = some (.cells arr e (0,0))) : w.frozen? ⟨b,j,none⟩ = false := by simp [World.frozen?,h]
theorem bx_set (h : w.heap[b]? = some (.cells arr e (0,0))) : (w.setCell ⟨b,j,none⟩ v).heap[b]? = some (.cells (arr.setIfInBounds j v) e (0,0)) := by simp [World.setCell,Array.getElem?_modify,h]
theorem bx_oth {b' : Nat} (h : b' ≠ b) : (w.setCell ⟨b,j,none⟩ v).heap[b']? = w.heap[b']? := by
 simp [World.setCell,Array.getElem?_modify,Ne.symm h]
theorem bx_boxy {B : Nat} (h : B ≤ b) (h' : b < B + 3) : Boxy B w (w.setCell ⟨b,j,none⟩ v) :=
 ⟨rfl,rfl,rfl,by simp,fun c hc hn => bx_oth (fun e => hn (by omega))⟩
end
def W3 (w : World) : World := ((w.alloc (.cells #[.int .i64 0,.string ⟨#[]⟩,.int .i64 0,.slice none 0 0] 24)).alloc (.cells #[.int .i64 0] 3)).alloc (.cells #[.bool false] 4)
theorem al_size (w : World) (o : Obj) : (w.alloc o).heap.size = w.heap.size + 1 := World.size_alloc w o
theorem al_old (w : World) (o : Obj) {b : Nat} (h : b < w.heap.size) : (w.alloc o).heap[b]? = w.heap[b]? := by
 show (w.heap.push _)[b]? = _
 rw [Array.getElem?_push,if_neg (Nat.ne_of_lt h)]
theorem al_new (w : World) (c : Array Value) (t : TypeId) {b : Nat} (h : b = w.heap.size) : (w.alloc (.cells c t)).heap[b]? = some (.cells c t (0,0)) := by
 subst h
 show (w.heap.push _)[w.heap.size]? = _
 rw [Array.getElem?_push,if_pos rfl]
theorem w3_size (w : World) : (W3 w).heap.size = w.heap.size + 3 := by unfold W3;rw [al_size,al_size,al_size]
theorem w3_old (w : World) {b : Nat} (h : b < w.heap.size) : (W3 w).heap[b]? = w.heap[b]? := by
 unfold W3;rw [al_old _ _ (by rw [al_size,al_size];omega),al_old _ _ (by rw [al_size];omega),al_old _ _ h]
theorem w3_0 (w : World) : (W3 w).heap[w.heap.size]? = some (.cells #[.int .i64 0,.string ⟨#[]⟩,.int .i64 0,.slice none 0 0] 24 (0,0)) := by
 unfold W3;rw [al_old _ _ (by rw [al_size,al_size];omega),al_old _ _ (by rw [al_size];omega)];exact al_new _ _ _ rfl
theorem w3_1 (w : World) : (W3 w).heap[w.heap.size + 1]? = some (.cells #[.int .i64 0] 3 (0,0)) := by
 unfold W3;rw [al_old _ _ (by rw [al_size,al_size];omega)];exact al_new _ _ _ (by rw [al_size])
theorem w3_2 (w : World) : (W3 w).heap[w.heap.size + 1 + 1]? = some (.cells #[.bool false] 4 (0,0)) := by
 unfold W3;exact al_new _ _ _ (by rw [al_size,al_size])
theorem w3_foreign {P : Program} {G : Ghost} {H : Heap} {Z : Nat → Prop} {w : World} (st : St P G H Z w) : Foreign G Z w (W3 w) :=
 ⟨rfl,rfl,rfl,by rw [w3_size];omega,fun b hb => w3_old w (hb.elim (st.zlt b) fun ⟨id,o,h⟩ => st.glt id b o h)⟩
theorem w3_trk {P : Program} {G : Ghost} {H : Heap} {Z : Nat → Prop} {w : World} (st : St P G H Z w) : Trk P G Z Z w (W3 w) :=
 ⟨rfl,rfl,rfl,by rw [w3_size];omega,fun b hb _ => w3_old w hb,fun b hb => ⟨hb,w3_old w (st.zlt b hb)⟩,fun b hb => .inl hb,fun b arr e fz ⟨id,o,hl⟩ hh => ⟨arr,e,fz,by rw [w3_old w (st.glt id b o hl)];exact hh,rfl⟩,(st.foreign (w3_foreign st)).zlt⟩
structure Bxs (B : Nat) (w : World) (a c d : Array Value) : Prop where
 q : w.heap[B]? = some (.cells a 24 (0,0))
 i : w.heap[B + 1]? = some (.cells c 3 (0,0))
 b : w.heap[B + 1 + 1]? = some (.cells d 4 (0,0))
theorem Bxs.keep {B : Nat} {w w' : World} {a c d : Array Value} (h : Bxs B w a c d) (hk : ∀ b,B ≤ b → b < B + 3 → w'.heap[b]? = w.heap[b]?) : Bxs B w' a c d :=
 ⟨by rw [hk _ (by omega) (by omega)];exact h.q,by rw [hk _ (by omega) (by omega)];exact h.i,by rw [hk _ (by omega) (by omega)];exact h.b⟩
def setQ (B : Nat) (w : World) (a b c d : Value) : World := (((w.setCell ⟨B,0,none⟩ a).setCell ⟨B,1,none⟩ b).setCell ⟨B,2,none⟩ c).setCell ⟨B,3,none⟩ d
theorem setQ_boxy {B : Nat} {w : World} {a b c d : Value} : Boxy B w (setQ B w a b c d) :=
 (((bx_boxy (Nat.le_refl _) (by omega)).trans (bx_boxy (Nat.le_refl _) (by omega))).trans (bx_boxy (Nat.le_refl _) (by omega))).trans (bx_boxy (Nat.le_refl _) (by omega))
theorem setQ_bxs {B : Nat} {w : World} {a b c d x0 x1 x2 x3 : Value} {r s : Array Value} (h : Bxs B w #[x0,x1,x2,x3] r s) : Bxs B (setQ B w a b c d) #[a,b,c,d] r s := by
 refine ⟨?_,?_,?_⟩
 ·exact bx_set (bx_set (bx_set (bx_set h.q)))
 ·unfold setQ
  rw [bx_oth (by omega),bx_oth (by omega),bx_oth (by omega),bx_oth (by omega)];exact h.i
 ·unfold setQ
  rw [bx_oth (by omega),bx_oth (by omega),bx_oth (by omega),bx_oth (by omega)];exact h.b
theorem set2_bxs {B : Nat} {w : World} {x y x0 y0 : Value} {a : Array Value} (h : Bxs B w a #[x0] #[y0]) : Bxs B ((w.setCell ⟨B + 1,0,none⟩ x).setCell ⟨B + 1 + 1,0,none⟩ y) a #[x] #[y] := by
 have e1 : B ≠ B + 1 := by omega
 have e2 : B ≠ B + 1 + 1 := by omega
 have e3 : B + 1 ≠ B + 1 + 1 := by omega
 refine ⟨?_,?_,?_⟩
 ·rw [bx_oth e2,bx_oth e1];exact h.q
 ·rw [bx_oth e3];exact bx_set h.i
 ·refine bx_set (arr := #[y0]) ?_
  rw [bx_oth (Ne.symm e3)];exact h.b
theorem set2_boxy {B : Nat} {w : World} {x y : Value} : Boxy B w ((w.setCell ⟨B + 1,0,none⟩ x).setCell ⟨B + 1 + 1,0,none⟩ y) :=
 (bx_boxy (by omega) (by omega)).trans (bx_boxy (by omega) (by omega))
theorem Boxy.foreign {P : Program} {G G1 : Ghost} {H H1 : Heap} {Z Zx : Nat → Prop} {w wx wy : World} (st : St P G H Z w) (h : Trk P G Z Zx w wx) (st1 : St P G1 H1 Zx wx) (hl1 : ∀ b,LiveB G1 b → LiveB G b ∨ w.heap.size + 3 ≤ b) (hb : Boxy w.heap.size wx wy) : Foreign G1 Zx wx wy :=
 ⟨hb.os,hb.tape,hb.output,hb.size,fun b hz => by
  rcases hz with hz | hz
  ·rcases h.zlow st hz with h2 | h2
   ·exact hb.same b (h.zlt b hz) (by omega)
   ·exact hb.same b (h.zlt b hz) (by omega)
  ·obtain ⟨id,o,h3⟩ := hz
   refine hb.same b (st1.glt id b o h3) fun hn => ?_
   rcases hl1 b ⟨id,o,h3⟩ with ⟨id',o',h4⟩ | h4
   ·have := st.glt id' b o' h4;omega
   ·omega⟩

set_option maxHeartbeats 4000000 in
theorem whole_ok (t : ByteArray) (ht : (t.size : Int) ≤ 140737488355328) {b : Nat} (hb : b ≤ t.size) {Q : QT} (hS : FRetP Tryz.prog 19 (RD t 0) [] [] (RD t b) [.agg (rcQ Q)]) (hn : nxW t b = ⟨#[]⟩) :
  FCall Tryz.prog 10 [.ptr 100001 1 0] (Hrd t 0) (fun r H' => r = .tup [.agg ((encQ Q).map .f),.f (.int .i64 0),.f (.bool true)] ∧ H' = upd H0 100001 (1,none)) := by
 refine ⟨by kernel_rfl,fun G Z w vs st hsz hrep => ?_⟩
 obtain ⟨v0,rfl⟩ : ∃ v0,vs = #[v0] := by
  obtain ⟨l⟩ := vs
  match l,hsz with
  | [v0],_ => exact ⟨v0,rfl⟩
 have h0 := hrep 0 _ v0 rfl rfl
 clear hrep hsz
 have hmf : ∀ (fn : Fn) (first cap : Array Value) (w : World),(Instr.makeFunc fn first cap).run Tryz.prog w = .ok (.func fn first cap) w := fun _ _ _ _ => rfl
 go_enter_defers Tryz.func10,Tryz.ntmps10
 go_wp2_with fail
 have fr3 := w3_foreign st
 have tk3 := w3_trk st
 have bx3 : Bxs w.heap.size (W3 w) _ _ _ := ⟨w3_0 w,w3_1 w,w3_2 w⟩
 refine (sum_w hS (st.foreign fr3) (h0.keep fr3.keep)).mono ?_
 rintro e w4 ⟨k,s,n,A,m,c,G1,Z1,rfl,hrq,st1,hh1,h1⟩
 obtain ⟨tk4,lv4,bb⟩ := tk3.step st st1 hh1
 have bx4 := bx3.keep bb
 clear bb
 have c0 := bx_cell (j := 0) bx4.q
 have c1 := bx_cell (j := 1) bx4.q
 have c2 := bx_cell (j := 2) bx4.q
 have c3 := bx_cell (j := 3) bx4.q
 have f0 := bx_frz (j := 0) bx4.q
 have f1 := bx_frz (j := 1) bx4.q
 have f2 := bx_frz (j := 2) bx4.q
 have f3 := bx_frz (j := 3) bx4.q
 simp only [List.getElem?_toArray,List.getElem?_cons_zero,List.getElem?_cons_succ] at c0 c1 c2 c3
 dsimp only
 go_wp2_with fail
 have by5 : Boxy w.heap.size w4 (setQ w.heap.size w4 (.int .i64 k) (.string s) (.int .i64 n) (.slice A m c)) := setQ_boxy
 have fo5 := by5.foreign st tk4 st1 lv4
 have tk5 := tk4.boxy st by5
 have bx5 := setQ_bxs (a := .int .i64 k) (b := .string s) (c := .int .i64 n) (d := .slice A m c) bx4
 refine (next_r hb ht (st1.foreign fo5) (h1.keep fo5.keep)).mono ?_
 rintro e w6 ⟨G2,Z2,rfl,st2,hh2,h2⟩
 obtain ⟨tk6,bb⟩ := tk5.wide st lv4 hh2.wide
 have bx6 := bx5.keep bb
 have hz6 : ∀ b,Z1 b → w6.heap[b]? = w4.heap[b]? := fun b hb => (hh2.zin b hb).2.trans (fo5.same b (.inl hb))
 clear bb c0 c1 c2 c3 f0 f1 f2 f3 by5 fo5 tk5 bx5 hh2 h2 st2 tk4 bx4 h1
 rw [hn]
 have c0 := bx_cell (j := 0) bx6.q
 have c1 := bx_cell (j := 1) bx6.q
 have c2 := bx_cell (j := 2) bx6.q
 have c3 := bx_cell (j := 3) bx6.q
 have c4 := bx_cell (j := 0) bx6.i
 have c5 := bx_cell (j := 0) bx6.b
 have f0 := bx_frz (j := 0) bx6.q
 have f1 := bx_frz (j := 1) bx6.q
 have f2 := bx_frz (j := 2) bx6.q
 have f3 := bx_frz (j := 3) bx6.q
 have f4 := bx_frz (j := 0) bx6.i
 have f5 := bx_frz (j := 0) bx6.b
 simp only [List.getElem?_toArray,List.getElem?_cons_zero,List.getElem?_cons_succ] at c0 c1 c2 c3 c4 c5
 dsimp only
 go_wp2_with fail
 have by7 : Boxy w.heap.size w6 (((setQ w.heap.size w6 (.int .i64 k) (.string s) (.int .i64 n) (.slice A m c)).setCell ⟨w.heap.size + 1,0,none⟩ (.int .i64 0)).setCell ⟨w.heap.size + 1 + 1,0,none⟩ (.bool true)) := setQ_boxy.trans set2_boxy
 have bx7 : Bxs w.heap.size (((setQ w.heap.size w6 (.int .i64 k) (.string s) (.int .i64 n) (.slice A m c)).setCell ⟨w.heap.size + 1,0,none⟩ (.int .i64 0)).setCell ⟨w.heap.size + 1 + 1,0,none⟩ (.bool true)) #[.int .i64 k,.string s,.int .i64 n,.slice A m c] #[.int .i64 0] #[.bool true] := set2_bxs (setQ_bxs bx6)
 have tk7 := tk6.boxy st by7
 have hz7 : ∀ b,Z1 b → (((setQ w.heap.size w6 (.int .i64 k) (.string s) (.int .i64 n) (.slice A m c)).setCell ⟨w.heap.size + 1,0,none⟩ (.int .i64 0)).setCell ⟨w.heap.size + 1 + 1,0,none⟩ (.bool true)).heap[b]? = w4.heap[b]? := fun b hb => by
  rw [← hz6 b hb]
  rcases tk6.zlow st hb with h | h
  ·exact by7.same b (tk6.zlt b hb) (by omega)
  ·exact by7.same b (tk6.zlt b hb) (by omega)
 unfold setQ at by7 bx7 tk7 hz7
 generalize ((((((w6.setCell _ _).setCell _ _).setCell _ _).setCell _ _).setCell _ _).setCell _ _) = w7 at *
 refine leaves_cons (f := 18) (args := #[.pointer (some ⟨w.heap.size,0,none⟩),.pointer (some ⟨w.heap.size + 1,0,none⟩),.pointer (some ⟨w.heap.size + 1 + 1,0,none⟩)]) (by simp) (by simp [go_sem]) ?_
 refine (catch_idle _ _ _ _).mono ?_
 rintro e u' w'' ⟨rfl,rfl,rfl⟩
 clear c0 c1 c2 c3 c4 c5 f0 f1 f2 f3 f4 f5
 have c0 := bx_cell (j := 0) bx7.q
 have c1 := bx_cell (j := 1) bx7.q
 have c2 := bx_cell (j := 2) bx7.q
 have c3 := bx_cell (j := 3) bx7.q
 have c4 := bx_cell (j := 0) bx7.i
 have c5 := bx_cell (j := 0) bx7.b
 simp only [List.getElem?_toArray,List.getElem?_cons_zero,List.getElem?_cons_succ] at c0 c1 c2 c3 c4 c5
 simp only [settle,Leaves]
 refine ⟨.tuple #[.agg #[.int .i64 k,.string s,.int .i64 n,.slice A m c],.int .i64 0,.bool true],?_,?_⟩
 ·simp [results,Tryz.results10,go_sem,c0,c1,c2,c3,c4,c5]
 ·have hG : ∀ i,i ≠ 100001 → G i = (0,none) := fun i hi => by
   have h1 : Hrd t 0 i = (0,none) := upd_ne _ _ _ _ hi
   refine Prod.ext ?_ (st.dead i (by rw [h1]))
   rw [st.ver i,h1]
  obtain ⟨g1,g2⟩ := tk7.gone hG (by rw [st.ver];rfl)
  refine ⟨_,_,_,_,Z1,rfl,⟨rfl,rfl⟩,g1,g2,.tup _ _ rfl fun j a u ha hu => ?_⟩
  rcases j with _ | _ | _ | j
  ·simp only [List.getElem?_cons_zero,Option.some.injEq] at ha
   obtain rfl := Option.some.inj hu
   subst ha
   exact hrq.pure_ (fun b hb => ⟨hb,hz7 b hb⟩) (by show AV.pureL _ = true;rw [AV.pureL_all];simp [AV.pure])
  ·obtain rfl := Option.some.inj ha;obtain rfl := Option.some.inj hu;exact .f (.int _ _)
  ·obtain rfl := Option.some.inj ha;obtain rfl := Option.some.inj hu;exact .f (.bool _)
  ·simp at ha
end Go.Proofs.YtagkdifaldikgaaGreatDoor
