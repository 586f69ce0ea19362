/-
  The whole query where it goes wrong. No statement of the seat is proved here; no conditions.
-/
import Derived.Test.YtagkdifaldikgaaGreatDoorQdN
import Derived.Test.YtagkdifaldikgaaGreatDoorQcR
import Derived.Test.YtagkdifaldikgaaGreatDoorLowQ
import Derived.Test.YtagkdifaldikgaaGreatDoorQdF
namespace Go.Proofs.YtagkdifaldikgaaGreatDoor
open Go.RowKit Go.Shelf
set_option linter.unusedVariables false
set_option linter.unusedSimpArgs false
set_option maxRecDepth 100000

def wrongR : AV := .tup [.agg [.f (.int .i64 0),.f (.str ⟨#[]⟩),.f (.int .i64 0),.f .nil],.any,.f (.bool false)]
theorem al_boxy {B : Nat} {w : World} {o : Obj} : Boxy B w (w.alloc o) := ⟨rfl,rfl,rfl,by rw [al_size];omega,fun b hb _ => al_old w o hb⟩
theorem dr_boxy {B : Nat} {w : World} {k : Nat} : Boxy B w (w.drewN k) := ⟨rfl,rfl,rfl,Nat.le_refl _,fun b hb _ => rfl⟩
theorem bxs_drew {B : Nat} {w : World} {a c d : Array Value} {k : Nat} (h : Bxs B w a c d) : Bxs B (w.drewN k) a c d := h.keep fun _ _ _ => rfl
theorem hrd_none {G : Ghost} {Z : Nat → Prop} {w : World} {t : ByteArray} {a : Nat} (st : St Tryz.prog G (Hrd t a) Z w) : ∀ i,i ≠ 100001 → G i = (0,none) := fun i hi => by
 have h1 : Hrd t a i = (0,none) := upd_ne _ _ _ _ hi
 refine Prod.ext ?_ (st.dead i (by rw [h1]))
 rw [st.ver i,h1]
set_option maxHeartbeats 1000000 in
theorem whole_end {G : Ghost} {Z Zx : Nat → Prop} {w wx : World} {t : ByteArray} {a : Nat} (st : St Tryz.prog G (Hrd t a) Z w) (tk : Trk Tryz.prog G Z Zx w wx) {x0 x1 x2 x3 y0 z0 : Value} (bx : Bxs w.heap.size wx #[x0,x1,x2,x3] #[y0] #[z0]) (n : Int) (tmps : Array Value)
  (t2 : tmps[2]? = some (.pointer (some ⟨w.heap.size,0,none⟩))) (t3 : tmps[3]? = some (.pointer (some ⟨w.heap.size + 1,0,none⟩))) (t4 : tmps[4]? = some (.pointer (some ⟨w.heap.size + 1 + 1,0,none⟩))) :
  Leaves Tryz.prog Tryz.f10 tmps (fun e w' => ∃ v r H' G' Z',e = .returned v ∧ (r = wrongR ∧ H' = upd H0 100001 (1,none)) ∧ St Tryz.prog G' H' Z' w' ∧ Hist G Z w G' Z' w' ∧ RepA G' Z' w' r v)
   [{ target := .fn (.func 18) #[.pointer (some ⟨w.heap.size,0,none⟩),.pointer (some ⟨w.heap.size + 1,0,none⟩),.pointer (some ⟨w.heap.size + 1 + 1,0,none⟩)],args := #[] }] (.panicking [{ v := .iface 51 (.agg #[.int .i64 n]),recovered := false }]) wx := by
 have hsz := tk.size
 have bxA : Bxs w.heap.size (wx.alloc (.cells #[.int .i64 n] 51)) _ _ _ := bx.keep fun b h1 h2 => al_old wx _ (by omega)
 refine leaves_cons (f := 18) (args := #[.pointer (some ⟨w.heap.size,0,none⟩),.pointer (some ⟨w.heap.size + 1,0,none⟩),.pointer (some ⟨w.heap.size + 1 + 1,0,none⟩)]) (by simp) (by simp [go_sem]) ?_
 refine (catch_pan w.heap.size n [] wx x0 x1 x2 x3 y0 z0 (by omega) (by omega) (by omega) (by omega) (by omega) (by omega) (bx_cell bxA.q) (bx_cell bxA.q) (bx_cell bxA.q) (bx_cell bxA.q) (bx_cell bxA.i) (bx_cell bxA.b) (bx_frz bxA.q) (bx_frz bxA.q) (bx_frz bxA.q) (bx_frz bxA.q) (bx_frz bxA.i) (bx_frz bxA.b)).mono ?_
 rintro e u' w7 ⟨rfl,rfl,kk,e7⟩
 have by7 : Boxy w.heap.size wx w7 := by
  rw [e7]
  have h := (((al_boxy (B := w.heap.size) (w := wx) (o := .cells #[.int .i64 n] 51)).trans (setQ_boxy (a := .int .i64 0) (b := .string ⟨#[]⟩) (c := .int .i64 0) (d := .slice none 0 0))).trans (set2_boxy (x := .int .i64 n) (y := .bool false))).trans (dr_boxy (k := kk))
  unfold setQ at h
  exact h
 have bx7 : Bxs w.heap.size w7 #[.int .i64 0,.string ⟨#[]⟩,.int .i64 0,.slice none 0 0] #[.int .i64 n] #[.bool false] := by
  rw [e7]
  have h := set2_bxs (x := .int .i64 n) (y := .bool false) (setQ_bxs (a := .int .i64 0) (b := .string ⟨#[]⟩) (c := .int .i64 0) (d := .slice none 0 0) bxA)
  have h := bxs_drew (k := kk) h
  unfold setQ at h
  exact h
 have tk7 := tk.boxy st by7
 clear e7 bxA by7
 have c0 := bx_cell (j := 0) bx7.q
 have c1 := bx_cell (j := 1) bx7.q
 have c2 := bx_cell (j := 2) bx7.q
 have c3 := bx_cell (j := 3) bx7.q
 have c4 := bx_cell (j := 0) bx7.i
 have c5 := bx_cell (j := 0) bx7.b
 simp only [List.getElem?_toArray,List.getElem?_cons_zero,List.getElem?_cons_succ] at c0 c1 c2 c3 c4 c5
 simp only [settle,Leaves,List.dropWhile_nil]
 refine ⟨.tuple #[.agg #[.int .i64 0,.string ⟨#[]⟩,.int .i64 0,.slice none 0 0],.int .i64 n,.bool false],?_,?_⟩
 ·simp [results,Tryz.results10,go_sem,c0,c1,c2,c3,c4,c5,t2,t3,t4]
 ·obtain ⟨g1,g2⟩ := tk7.gone (hrd_none st) (by rw [st.ver];rfl)
  refine ⟨_,_,_,_,Zx,rfl,⟨rfl,rfl⟩,g1,g2,.tup _ _ rfl fun j a u ha hu => ?_⟩
  rcases j with _ | _ | _ | j
  ·obtain rfl := Option.some.inj ha;obtain rfl := Option.some.inj hu
   refine .agg _ _ rfl (fun j u hu => ?_) fun j a u ha hu => ?_
   ·rcases j with _ | _ | _ | _ | j
    ·obtain rfl := Option.some.inj hu;rfl
    ·obtain rfl := Option.some.inj hu;rfl
    ·obtain rfl := Option.some.inj hu;rfl
    ·obtain rfl := Option.some.inj hu;rfl
    ·simp at hu
   ·rcases j with _ | _ | _ | _ | j
    ·obtain rfl := Option.some.inj ha;obtain rfl := Option.some.inj hu;exact .f (.int _ _)
    ·obtain rfl := Option.some.inj ha;obtain rfl := Option.some.inj hu;exact .f (.str _)
    ·obtain rfl := Option.some.inj ha;obtain rfl := Option.some.inj hu;exact .f (.int _ _)
    ·obtain rfl := Option.some.inj ha;obtain rfl := Option.some.inj hu;exact .f (.nil none)
    ·simp at ha
  ·obtain rfl := Option.some.inj ha;exact .any _
  ·obtain rfl := Option.some.inj ha;obtain rfl := Option.some.inj hu;exact .f (.bool _)
  ·simp at ha
set_option maxHeartbeats 1000000 in
theorem whole_no (t : ByteArray) (hS : FPanP Tryz.prog 19 (RD t 0) [] [] IsW) :
  FCall Tryz.prog 10 [.ptr 100001 1 0] (Hrd t 0) (fun r H' => r = wrongR ∧ H' = upd H0 100001 (1,none)) := by
 refine ⟨by kernel_rfl,fun G Z w vs st hsz hrep => ?_⟩
 obtain ⟨v0,rfl⟩ : ∃ v0,vs = #[v0] := by
  obtain ⟨l⟩ := vs
  match l,hsz with
  | [v0],_ => exact ⟨v0,rfl⟩
 have h0 := hrep 0 _ v0 rfl rfl
 clear hrep hsz
 have hmf : ∀ (fn : Fn) (first cap : Array Value) (w : World),(Instr.makeFunc fn first cap).run Tryz.prog w = .ok (.func fn first cap) w := fun _ _ _ _ => rfl
 go_enter_defers Tryz.func10,Tryz.ntmps10
 go_wp2_with fail
 have fr3 := w3_foreign st
 have tk3 := w3_trk st
 have bx3 : Bxs w.heap.size (W3 w) _ _ _ := ⟨w3_0 w,w3_1 w,w3_2 w⟩
 refine (pan_w hS (st.foreign fr3) (h0.keep fr3.keep)).mono ?_
 rintro e w4 ⟨n,rfl,hh⟩
 obtain ⟨tk4,bb⟩ := tk3.wide st (fun b hb => .inl hb) hh
 exact whole_end st tk4 (bx3.keep bb) n _ rfl rfl rfl
set_option maxHeartbeats 1000000 in
theorem whole_rest (t : ByteArray) (ht : (t.size : Int) ≤ 140737488355328) {b : Nat} (hb : b ≤ t.size) {Q : QT} (hS : FRetP Tryz.prog 19 (RD t 0) [] [] (RD t b) [.agg (rcQ Q)]) (hn : nxW t b ≠ ⟨#[]⟩) :
  FCall Tryz.prog 10 [.ptr 100001 1 0] (Hrd t 0) (fun r H' => r = wrongR ∧ H' = upd H0 100001 (1,none)) := by
 refine ⟨by kernel_rfl,fun G Z w vs st hsz hrep => ?_⟩
 obtain ⟨v0,rfl⟩ : ∃ v0,vs = #[v0] := by
  obtain ⟨l⟩ := vs
  match l,hsz with
  | [v0],_ => exact ⟨v0,rfl⟩
 have h0 := hrep 0 _ v0 rfl rfl
 clear hrep hsz
 have hmf : ∀ (fn : Fn) (first cap : Array Value) (w : World),(Instr.makeFunc fn first cap).run Tryz.prog w = .ok (.func fn first cap) w := fun _ _ _ _ => rfl
 go_enter_defers Tryz.func10,Tryz.ntmps10
 go_wp2_with fail
 have fr3 := w3_foreign st
 have tk3 := w3_trk st
 have bx3 : Bxs w.heap.size (W3 w) _ _ _ := ⟨w3_0 w,w3_1 w,w3_2 w⟩
 refine (sum_w hS (st.foreign fr3) (h0.keep fr3.keep)).mono ?_
 rintro e w4 ⟨k,s,n,A,m,c,G1,Z1,rfl,hrq,st1,hh1,h1⟩
 obtain ⟨tk4,lv4,bb⟩ := tk3.step st st1 hh1
 have bx4 := bx3.keep bb
 clear bb
 have c0 := bx_cell (j := 0) bx4.q
 have c1 := bx_cell (j := 1) bx4.q
 have c2 := bx_cell (j := 2) bx4.q
 have c3 := bx_cell (j := 3) bx4.q
 have f0 := bx_frz (j := 0) bx4.q
 have f1 := bx_frz (j := 1) bx4.q
 have f2 := bx_frz (j := 2) bx4.q
 have f3 := bx_frz (j := 3) bx4.q
 simp only [List.getElem?_toArray,List.getElem?_cons_zero,List.getElem?_cons_succ] at c0 c1 c2 c3
 dsimp only
 go_wp2_with fail
 have by5 : Boxy w.heap.size w4 (setQ w.heap.size w4 (.int .i64 k) (.string s) (.int .i64 n) (.slice A m c)) := setQ_boxy
 have fo5 := by5.foreign st tk4 st1 lv4
 have tk5 := tk4.boxy st by5
 have bx5 := setQ_bxs (a := .int .i64 k) (b := .string s) (c := .int .i64 n) (d := .slice A m c) bx4
 refine (next_r hb ht (st1.foreign fo5) (h1.keep fo5.keep)).mono ?_
 rintro e w6 ⟨G2,Z2,rfl,st2,hh2,h2⟩
 obtain ⟨tk6,bb⟩ := tk5.wide st lv4 hh2.wide
 have tk6' : Trk Tryz.prog G Z Z2 w w6 := ⟨tk6.os,tk6.tape,tk6.output,tk6.size,tk6.old,fun b hb => ⟨(hh2.zin b (tk5.zin b hb).1).1,(tk6.zin b hb).2⟩,fun b hb => by
  rcases hh2.zout b hb with h | h | h
  ·exact tk6.zout b h
  ·rcases lv4 b h with h | h
   ·exact .inr (.inl h)
   ·exact .inr (.inr h)
  ·exact .inr (.inr (Nat.le_trans tk5.size h)),tk6.room,st2.zlt⟩
 have lv6 : ∀ b,LiveB G2 b → LiveB G b ∨ w.heap.size + 3 ≤ b := fun b hb => by
  rcases hh2.live b hb with h | h
  ·exact lv4 b h
  ·exact .inr (Nat.le_trans tk5.size h)
 have bx6 := bx5.keep bb
 have hp := pan_w (fail_f t (spN t b) (spN_le t b hb) ht) st2 h2
 clear bb c0 c1 c2 c3 f0 f1 f2 f3 by5 fo5 tk5 bx5 hh2 st2 tk4 bx4 h1 tk6
 generalize nxW t b = W at *
 generalize spN t b = b2 at *
 have hne : W.toList.isEmpty = false := by
  rw [ByteArray.toList_eq]
  obtain ⟨⟨l⟩⟩ := W
  cases l with
  | nil => exact absurd rfl hn
  | cons a l => rfl
 dsimp only
 go_wp2_with fail
 refine hp.mono ?_
 rintro e w7 ⟨n7,rfl,hh7⟩
 obtain ⟨tk7,bb⟩ := tk6'.wide st lv6 hh7
 exact whole_end st tk7 (bx6.keep bb) n7 _ rfl rfl rfl
end Go.Proofs.YtagkdifaldikgaaGreatDoor
namespace Go.Proofs.YtagkdifaldikgaaGreatDoor
open Go.RowKit Go.Shelf
set_option linter.unusedVariables false
set_option linter.unusedSimpArgs false
set_option maxRecDepth 100000

def txB (q : QT) : ByteArray := toB (txQ q)
theorem isSum_f (k : Int) : FRet Tryz.prog 16 [.f (.int .i64 k)] [.c (.v (.bool (isSumK k)))] := by
 refine FCall.of_ax low_graph_isSum ?_
 dsimp only [l_graph_isSum]
 refine srun_sound 300 _ _ _ _ ?_
 unfold isSumK
 generalize hb1 : decide (k = 8) = b1
 generalize hb2 : decide (k = 9) = b2
 repeat' (first
  | (simp -implicitDefEqProofs only [*,zr,Nat.reduceAdd,Nat.reduceSub,Nat.reduceMul,Nat.reduceLT,Nat.reduceLeDiff,Nat.reduceEqDiff,Nat.reduceBEq,reduceIte,reduceCtorEq,Int.reduceLE,Int.reduceLT,Int.reduceToNat,Int.reduceEq,Int.reduceNe])
  | ((first|apply zk0|apply zk1|apply zk2|apply zk3|apply zk4|apply zk5|apply zk6|apply zk7|apply zk8|apply zk9) <;> intro hc)
  |(refine callP0 rfl ?_)
  |(refine callD0 rfl ?_)
  | fail)
 all_goals exact ret_ve (by simp [*])
theorem qone_f {k : Int} {t : ByteArray} {n : Int} {ps : List QT} {i : Nat} {p : QT} (hp : ps[i]? = some p) (hi : i ≤ 1) (hl : ps.length ≤ 2) (ih : FRet Tryz.prog 9 [aQ p] [.c (.v (.str (txB p)))]) :
  FRet Tryz.prog 14 [.f (.int .i64 i),.f (.fp [.int .i64 k,.str t,.int .i64 n,.fr 4 (encQs ps)])] [.c (.v (.str (txB p)))] := by
 have he := encQs_at hp
 have hel := encQs_len ps
 have hlt : i < ps.length := (List.getElem?_eq_some_iff.1 hp).1
 have h2 := lt_t hlt
 have h3 : decide (i < (encQs ps).length) = true := by rw [hel];exact h2
 rw [encQ_eq] at he
 unfold aQ at ih
 rw [encQ_eq] at ih
 dsimp only [List.map] at ih
 generalize encQs ps = E at *
 generalize txB p = T at *
 refine FCall.of_ax low_graph_queryText_c1 ?_
 dsimp only [l_graph_queryText_c1]
 refine srun_sound 300 _ _ _ _ ?_
 repeat' (first
  | (simp -implicitDefEqProofs only [*,zr,Nat.reduceAdd,Nat.reduceSub,Nat.reduceMul,Nat.reduceLT,Nat.reduceLeDiff,Nat.reduceEqDiff,Nat.reduceBEq,reduceIte,reduceCtorEq,Int.reduceLE,Int.reduceLT,Int.reduceToNat,Int.reduceEq,Int.reduceNe])
  | ((first|apply zk0|apply zk1|apply zk2|apply zk3|apply zk4|apply zk5|apply zk6|apply zk7|apply zk8|apply zk9) <;> intro hc)
  |(refine callP0 rfl ?_)
  |(refine callD0 rfl ?_)
  |(refine cP (ih) ?_)
  |(refine cD (ih) ?_)
  |(refine cF (ih) ?_)
  | fail)
 exact ret_v
def hdB (k kk : Int) (i : Nat) (T : ByteArray) : ByteArray := if brk k kk i = true then (⟨#[40]⟩ : ByteArray) ++ T ++ ⟨#[41]⟩ else T
set_option maxHeartbeats 2000000 in
theorem qheld_f {k : Int} {t : ByteArray} {n : Int} {ps : List QT} {i : Nat} {p : QT} (hp : ps[i]? = some p) (hi : i ≤ 1) (hl : ps.length ≤ 2) (hT : (txB p).size ≤ 4611686018427387904) (ih : FRet Tryz.prog 9 [aQ p] [.c (.v (.str (txB p)))]) :
  FRet Tryz.prog 15 [.f (.int .i64 i),.f (.fp [.int .i64 k,.str t,.int .i64 n,.fr 4 (encQs ps)]),.f (.fp [.fc (.func 14) [.fp [.int .i64 k,.str t,.int .i64 n,.fr 4 (encQs ps)]]])] [.c (.v (.str (hdB k (qK p) i (txB p))))] := by
 have kO := qone_f (k := k) (t := t) (n := n) hp hi hl ih
 have kS := isSum_f (qK p)
 have he := encQs_at hp
 have hel := encQs_len ps
 have hlt : i < ps.length := (List.getElem?_eq_some_iff.1 hp).1
 have h2 := lt_t hlt
 have h3 : decide (i < (encQs ps).length) = true := by rw [hel];exact h2
 rw [encQ_eq] at he
 have e1 : decide ((i : Int) = 1) = decide (i = 1) := by rw [decide_eq_decide];omega
 have z1 : (⟨#[40]⟩ : ByteArray).size = 1 := rfl
 have z2 : (⟨#[41]⟩ : ByteArray).size = 1 := rfl
 have l1 := le_tt (show (((⟨#[40]⟩ : ByteArray).size + (txB p).size : Nat) : Int) ≤ 9223372036854775807 by rw [z1];omega)
 have l2 := le_tt (show ((((⟨#[40]⟩ : ByteArray) ++ txB p).size + (⟨#[41]⟩ : ByteArray).size : Nat) : Int) ≤ 9223372036854775807 by rw [ByteArray.size_append,z1,z2];omega)
 have l3 := eq_true (show (⟨#[40]⟩ : ByteArray).size + (txB p).size ≤ 9223372036854775807 by rw [z1];omega)
 have l4 := eq_true (show ((⟨#[40]⟩ : ByteArray) ++ txB p).size + (⟨#[41]⟩ : ByteArray).size ≤ 9223372036854775807 by rw [ByteArray.size_append,z1,z2];omega)
 clear z1 z2 hT
 unfold hdB brk
 generalize encQs ps = E at *
 generalize txB p = T at *
 generalize isSumK (qK p) = bs at *
 generalize hb10 : decide (k = 10) = b10
 generalize hbk : decide (qK p = 10) = bk
 generalize hbi : decide (i = 1) = bi at *
 clear ih hp hel
 replace kO := hide kO
 replace kS := hide kS
 refine FCall.of_ax low_graph_queryText_c2 ?_
 dsimp only [l_graph_queryText_c2]
 refine srun_sound 300 _ _ _ _ ?_
 repeat' (first
  | (simp -implicitDefEqProofs only [*,zr,Nat.reduceAdd,Nat.reduceSub,Nat.reduceMul,Nat.reduceLT,Nat.reduceLeDiff,Nat.reduceEqDiff,Nat.reduceBEq,reduceIte,reduceCtorEq,Int.reduceLE,Int.reduceLT,Int.reduceToNat,Int.reduceEq,Int.reduceNe])
  | ((first|apply zk0|apply zk1|apply zk2|apply zk3|apply zk4|apply zk5|apply zk6|apply zk7|apply zk8|apply zk9) <;> intro hc)
  |(refine callP0 rfl ?_)
  |(refine callD0 rfl ?_)
  |(refine cP (kS.out) ?_)
  |(refine cD (kS.out) ?_)
  |(refine cF (kS.out) ?_)
  |(refine cC (kO.out) ?_)
  |(refine cX (kO.out) ?_)
  |(refine cY (kO.out) ?_)
  |(refine cZ (kO.out) ?_)
  | fail)
 all_goals first |(refine ret_ve ?_;simp_all;done) | trace_state
end Go.Proofs.YtagkdifaldikgaaGreatDoor
