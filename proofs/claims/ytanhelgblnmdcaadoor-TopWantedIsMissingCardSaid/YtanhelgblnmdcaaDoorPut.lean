/-
  cache.put. No statement of the seat is proved here; no conditions.
-/
import Derived.Test.YtanhelgblnmdcaaDoorPin
namespace Go.Proofs.YtanhelgblnmdcaaDoor
open Go.RowKit Go.Shelf
set_option linter.unusedVariables false
set_option linter.unusedSimpArgs false
set_option maxRecDepth 100000

section
variable {P : Program} {R : Env → Heap → Prop} {Λ : Lams} {k : List It} {env : Env} {H : Heap} {d j : Nat} {f : Operand} {args : List Operand} {g : Option (Nat × Bool)} {dos : List DO} {acc : List Fp} {od : List Nat} {fid : FuncId} {ri rs : List RS} {tl : List AV} {pcs pcs' : List RC}
theorem callDM (hg : gd g env = some true) (hF : FRetM P fid ri tl rs) (hfn : evA env f = .f (.fn (.func fid))) (l tl0 : List AV) (ha : args.map (evA env) = l ++ tl0) (hri : RsOk H ri l) (hnd : (idsS l).Nodup) (htl : LeL tl0 tl) (hp : tl.all AV.pure = true) (hfree : Free d H)
  (hk : noConf acc od [] (idsS l ++ wrL d (nextSs 0 rs)) = true)
  (h : srun P R 300 Λ (.dops dos (j + 1) (addFp j [] (idsS l ++ wrL d (nextSs 0 rs)) acc) :: k) (putE env (some d) (oneOrTup (putS d 0 rs))) (putHs d 0 rs (killL (idsS l) H))) : Ax P R Λ (.dops (⟨some d,.call f args,g,od⟩ :: dos) j acc :: k) env H := by
 generalize hwr : idsS l ++ wrL d (nextSs 0 rs) = wr at hk h
 have mids : ∀ i,i ∈ idsS l → i ∈ wr := fun i hi => by rw [← hwr];exact List.mem_append_left _ hi
 have mwr : ∀ j,j < nextSs 0 rs → d + 1000 * j ∈ wr := fun j hj => by rw [← hwr];exact List.mem_append_right _ (mem_wrL.2 ⟨j,hj,rfl⟩)
 have out : ∀ (H : Heap) i,i ∉ wr → putHs d 0 rs (killL (idsS l) H) i = H i := fun H i hi => by
  rw [putHs_out fun j h1 h2 e => hi (by rw [e];exact mwr j h2),kill_at,if_neg (fun h => hi (mids i h))]
 refine ax_dCall (f := f) (args := args) (rd := []) (wr := wr) rfl hg (out H) (fun H2 hr hw => ?_) hk (srun_sound 300 _ _ _ _ h)
 rw [hfn,ha]
 refine ACall.mono (call_m (t := d) hF (rsOk_at hri fun i hi => hw i (mids i hi)) hnd htl hp (fun j hj => by rw [hw _ (mwr j hj)];exact hfree j)) fun r H' ⟨h1,h2⟩ => ⟨h1,?_⟩
 rw [h2]
 funext i
 unfold mix
 split
 ·rename_i hi
  refine putHs_at ?_
  rw [kill_at,kill_at,hw i hi]
 ·rename_i hi;exact out H2 i hi
theorem gDM (hF : FRetM P fid ri tl rs) (l tl0 : List AV) (h : srun P R 300 Λ (.dops dos (j + 1) (addFp j [] (idsS l ++ wrL d (nextSs 0 rs)) acc) :: k) (putE env (some d) (oneOrTup (putS d 0 rs))) (putHs d 0 rs (killL (idsS l) H))) (hg : gd g env = some true := by rfl) (hfn : evA env f = .f (.fn (.func fid)) := by rfl) (ha : args.map (evA env) = l ++ tl0 := by rfl)
  (hri : RsOk H ri l := by (repeat (first|exact rfl | exact trivial | refine And.intro rfl ?_ | refine And.intro (Or.inr ⟨_,_,rfl,rfl,(by first | exact Nat.le_refl _ | exact row_le (fun _ => rfl) | exact row_le2 (fun _ => rfl))⟩) ?_));first | done | fail) (hnd : (idsS l).Nodup := by simp [idsC,idsS]) (htl : LeL tl0 tl := by first | exact LeL.refl _ | ((repeat (first|exact LeL.refl _ | exact LeA.refl _ | exact LeA.nil _ | refine LeL.cons ?_ ?_ | refine LeA.agg ?_));first | done | fail)) (hp : tl.all AV.pure = true := by rfl) (hfree : Free d H := by first | exact free_0 | exact free_mk rfl | (repeat (first|exact free_0 | exact free_mk rfl | exact free_mk (by first | (simp;done) | fail) | refine free_upd rfl ?_ | refine free_kill ?_));first | done | fail) (hk : noConf acc od [] (idsS l ++ wrL d (nextSs 0 rs)) = true := by rfl) : Ax P R Λ (.dops (⟨some d,.call f args,g,od⟩ :: dos) j acc :: k) env H :=
 callDM hg hF hfn l tl0 ha hri hnd htl hp hfree hk h
theorem gDP (hF : FRetP P fid pcs ri tl pcs' rs) (id ver : Nat) (cs l tl0 : List AV)
  (h : srun P R 300 Λ (.dops dos (j + 1) (addFp j [] (id :: ((idsC cs ++ idsS l) ++ wrL d (nextSs (nextCs 0 pcs') rs))) acc) :: k) (putE env (some d) (oneOrTup (putS d (nextCs 0 pcs') rs))) (upd (putHs d (nextCs 0 pcs') rs (putHcs d 0 pcs' (killL (idsC cs ++ idsS l) H))) id (ver,some (.cells (putCs d 0 pcs'))))) (hg : gd g env = some true := by rfl) (hfn : evA env f = .f (.fn (.func fid)) := by rfl) (ha : args.map (evA env) = .ptr id ver 0 :: (l ++ tl0) := by rfl) (hc : cellsOf ver (H id) = some cs := by rfl)
  (hpc : RcsOk H pcs cs := by (repeat (first|exact rfl | exact trivial | refine And.intro rfl ?_ | refine And.intro (Or.inr ⟨_,_,rfl,rfl,(by first | exact Nat.le_refl _ | exact row_le (fun _ => rfl) | exact row_le2 (fun _ => rfl))⟩) ?_));first | done | fail) (hri : RsOk H ri l := by (repeat (first|exact rfl | exact trivial | refine And.intro rfl ?_ | refine And.intro (Or.inr ⟨_,_,rfl,rfl,(by first | exact Nat.le_refl _ | exact row_le (fun _ => rfl) | exact row_le2 (fun _ => rfl))⟩) ?_));first | done | fail) (hnd : (idsC cs ++ idsS l).Nodup := by simp [idsC,idsS]) (hni : id ∉ idsC cs ++ idsS l := by simp [idsC,idsS]) (htl : LeL tl0 tl := by first | exact LeL.refl _ | ((repeat (first|exact LeL.refl _ | exact LeA.refl _ | exact LeA.nil _ | refine LeL.cons ?_ ?_ | refine LeA.agg ?_));first | done | fail)) (hp : tl.all AV.pure = true := by rfl) (hfree : Free d H := by first | exact free_0 | exact free_mk rfl | (repeat (first|exact free_0 | exact free_mk rfl | exact free_mk (by first | (simp;done) | fail) | refine free_upd rfl ?_ | refine free_kill ?_));first | done | fail) (hk : noConf acc od [] (id :: ((idsC cs ++ idsS l) ++ wrL d (nextSs (nextCs 0 pcs') rs))) = true := by rfl) : Ax P R Λ (.dops (⟨some d,.call f args,g,od⟩ :: dos) j acc :: k) env H :=
 callDPm hg hF hfn id ver cs l tl0 ha hc hpc hri hnd hni htl hp hfree hk h
end
theorem rising_keepB {bl : List Blob} {p : Blob → Bool} (h : Rising (fun b : Blob => b.1) bl) : Rising (fun b : Blob => b.1) (keepL p bl) := by
 have := List.pairwise_iff_getElem.1 (keepL_rise (p := p) (riseB_of h))
 intro i j x y hij hx hy
 obtain ⟨h1,rfl⟩ := List.getElem?_eq_some_iff.1 hx
 obtain ⟨h2,rfl⟩ := List.getElem?_eq_some_iff.1 hy
 exact this i j h1 h2 hij
def overV (room : Int) (bl : List Blob) (size : Int) : Int := IntKind.i64.wrap (wsum bl - IntKind.i64.wrap (room - size))
def keptV (bl : List Blob) (at_ over : Int) : List Blob := keepL (fun b : Blob => hasS b.1 (clrGone bl at_ over)) bl
def insV (bl : List Blob) (b : Blob) : List Blob := bl.take (bIdx bl b.1) ++ b :: bl.drop (bIdx bl b.1)
def newB (lease at_ : Int) (d : ByteArray) (size : Int) : Blob := (d,size,at_,IntKind.i64.wrap (at_ + lease),0)
def putV (room lease : Int) (bl : List Blob) (at_ : Int) (d : ByteArray) (size : Int) : List Blob × Bool × FV × Int :=
 if hasB bl d then (match bl[bIdx bl d]? with
  | some y => if y.2.1 = size then (touchL lease at_ true true bl [d],true,.nil,0) else (bl,false,.nil,12)
  | none => (bl,false,.nil,0))
 else if wsum (leavV bl at_) < overV room bl size then (bl,false,.nil,0)
 else if 3000 ≤ (keptV bl at_ (overV room bl size)).length then (keptV bl at_ (overV room bl size),false,.nil,16)
 else (insV (keptV bl at_ (overV room bl size)) (newB lease at_ d size),true,frStrs (clrGone bl at_ (overV room bl size)),0)
theorem bIdx_le {bl : List Blob} {d : ByteArray} : bIdx bl d ≤ bl.length := List.countP_le_length
theorem clearY_f (room lease : Int) (bl : List Blob) (en : List Entry) (most at_ over : Int) (hb : bl.length ≤ 1000000) (hr : RiseB bl) (hsz : ∀ b ∈ bl,0 ≤ b.2.1 ∧ b.2.1 ≤ 100000000) (ho : IntKind.i64.wrap (wsum bl - most) = over) (hov : over ≤ 1000000000000000) (hn : over ≤ wsum (leavV bl at_)) :
  FRetP Tryd.prog 44 [.v (.int .i64 room),.v (.int .i64 lease),.own 5 bl.length (rowF fBlob bl),.own 3 en.length (rowF fEntry en)] [] [.f (.int .i64 most),.f (.int .i64 at_)]
   [.v (.int .i64 room),.v (.int .i64 lease),.own 5 (keptV bl at_ over).length (rowF fBlob (keptV bl at_ over)),.own 3 en.length (rowF fEntry en)] [.c (.v (frStrs (clrGone bl at_ over))),.c (.v (.bool true))] :=
 (clear_yes room lease bl en most at_ over hb hr hsz ho hov hn).cut ⟨rcCut_v,rcCut_v,rcCut_t (lenB rfl),rcCut_0 (lenE rfl),rfl⟩
set_option maxHeartbeats 4000000 in
theorem put_f (room lease : Int) (bl : List Blob) (en : List Entry) (e : Ev) (hb : bl.length ≤ 1000000) (hr : Rising (fun b : Blob => b.1) bl) (hsz : ∀ b ∈ bl,0 ≤ b.2.1 ∧ b.2.1 ≤ 100000000) (hov : overV room bl e.2.2.2.2.2 ≤ 1000000000000000) :
  FRetP Tryd.prog 25 [.v (.int .i64 room),.v (.int .i64 lease),.own 5 bl.length (rowF fBlob bl),.own 3 en.length (rowF fEntry en)] [] [aEv e]
   [.v (.int .i64 room),.v (.int .i64 lease),.own 5 (putV room lease bl e.2.1 e.2.2.1 e.2.2.2.2.2).1.length (rowF fBlob (putV room lease bl e.2.1 e.2.2.1 e.2.2.2.2.2).1),.own 3 en.length (rowF fEntry en)] [rAns (putV room lease bl e.2.1 e.2.2.1 e.2.2.2.2.2).2.1 .nil (putV room lease bl e.2.1 e.2.2.1 e.2.2.2.2.2).2.2.1,.c (.v (.int .i64 (putV room lease bl e.2.1 e.2.2.1 e.2.2.2.2.2).2.2.2))] := by
 obtain ⟨kind,at_,dg,ds,key,size⟩ := e
 dsimp only at hov ⊢
 refine FCall.of_ax low_cache_put ?_
 dsimp only [l_cache_put,aEv,frStrs]
 have hF := find_f (room,lease,bl,en) dg hb hr
 have hR := hide hr
 have hS := hide hsz
 clear hr hsz
 refine srun_sound 300 _ _ _ _ ?_
 repeat' (first
  | (simp -implicitDefEqProofs only [*,addFp_wr,zr,Nat.reduceAdd,Nat.reduceSub,Nat.reduceMul,Nat.reduceLT,Nat.reduceLeDiff,Nat.reduceEqDiff,Nat.reduceBEq,reduceIte,reduceCtorEq,Int.reduceLE,Int.reduceLT,Int.reduceToNat,Int.reduceEq,Int.reduceNe])
  | ((first|apply zk0|apply zk1|apply zk2|apply zk3|apply zk4|apply zk5|apply zk6|apply zk7|apply zk8|apply zk9) <;> intro hc)
  |(refine callP0 rfl ?_)
  |(refine callD0 rfl ?_)
  | fail)
 refine gDC (tl := [.str dg]) hF rfl rfl ?_
 clear hF
 cases hh : hasB bl dg
 ·generalize hw : overV room bl size = over at *
  rcases Int.lt_or_le (wsum (leavV bl at_)) over with hlt | hge
  ·have e1 : putV room lease bl at_ dg size = (bl,false,.nil,0) := by
    unfold putV
    rw [hh,hw,if_neg (by simp),if_pos hlt]
   rw [e1]
   have hC := clear_no room lease bl en (IntKind.i64.wrap (room - size)) at_ over hb (riseB_of hR.out) hw hlt
   replace hw := hide hw
   clear e1
   repeat' (first
    | (simp -implicitDefEqProofs only [*,addFp_wr,zr,Nat.reduceAdd,Nat.reduceSub,Nat.reduceMul,Nat.reduceLT,Nat.reduceLeDiff,Nat.reduceEqDiff,Nat.reduceBEq,reduceIte,reduceCtorEq,Int.reduceLE,Int.reduceLT,Int.reduceToNat,Int.reduceEq,Int.reduceNe])
    | ((first|apply zk0|apply zk1|apply zk2|apply zk3|apply zk4|apply zk5|apply zk6|apply zk7|apply zk8|apply zk9) <;> intro hc)
    |(refine callP0 rfl ?_)
    |(refine callD0 rfl ?_)
    | fail)
   refine gDP hC 100001 1 [.f (.int .i64 room),.f (.int .i64 lease),.sl 80000 1 5 0 bl.length,.sl 81000 1 3 0 en.length] [] [.f (.int .i64 (IntKind.i64.wrap (room - size))),.f (.int .i64 at_)] ?_
   clear hC
   repeat' (first
    | (simp -implicitDefEqProofs only [*,addFp_wr,zr,Nat.reduceAdd,Nat.reduceSub,Nat.reduceMul,Nat.reduceLT,Nat.reduceLeDiff,Nat.reduceEqDiff,Nat.reduceBEq,reduceIte,reduceCtorEq,Int.reduceLE,Int.reduceLT,Int.reduceToNat,Int.reduceEq,Int.reduceNe])
    | ((first|apply zk0|apply zk1|apply zk2|apply zk3|apply zk4|apply zk5|apply zk6|apply zk7|apply zk8|apply zk9) <;> intro hc)
    |(refine callP0 rfl ?_)
    |(refine callD0 rfl ?_)
    | fail)
   exact end_a rfl rfl rfl (lenB rfl) (lenE rfl)
  ·have hC := clearY_f room lease bl en (IntKind.i64.wrap (room - size)) at_ over hb (riseB_of hR.out) hS.out hw hov hge
   have hRK : Rising (fun b : Blob => b.1) (keptV bl at_ over) := rising_keepB hR.out
   have hbK : (keptV bl at_ over).length ≤ bl.length := List.length_filter_le _ _
   have e0 : putV room lease bl at_ dg size = if 3000 ≤ (keptV bl at_ over).length then (keptV bl at_ over,false,.nil,16) else (insV (keptV bl at_ over) (newB lease at_ dg size),true,frStrs (clrGone bl at_ over),0) := by
    unfold putV
    rw [hh,hw,if_neg (by simp),if_neg (by omega)]
   rw [e0]
   generalize keptV bl at_ over = K at *
   generalize clrGone bl at_ over = L at *
   replace hw := hide hw
   replace hRK := hide hRK
   replace hbK := hide hbK
   clear e0
   repeat' (first
    | (simp -implicitDefEqProofs only [*,addFp_wr,zr,Nat.reduceAdd,Nat.reduceSub,Nat.reduceMul,Nat.reduceLT,Nat.reduceLeDiff,Nat.reduceEqDiff,Nat.reduceBEq,reduceIte,reduceCtorEq,Int.reduceLE,Int.reduceLT,Int.reduceToNat,Int.reduceEq,Int.reduceNe])
    | ((first|apply zk0|apply zk1|apply zk2|apply zk3|apply zk4|apply zk5|apply zk6|apply zk7|apply zk8|apply zk9) <;> intro hc)
    |(refine callP0 rfl ?_)
    |(refine callD0 rfl ?_)
    | fail)
   refine gDP hC 100001 1 [.f (.int .i64 room),.f (.int .i64 lease),.sl 80000 1 5 0 bl.length,.sl 81000 1 3 0 en.length] [] [.f (.int .i64 (IntKind.i64.wrap (room - size))),.f (.int .i64 at_)] ?_
   clear hC
   by_cases h3 : 3000 ≤ K.length
   ·rw [if_pos h3]
    have d3 : decide ((K.length : Int) ≥ 3000) = true := dcT (by omega)
    replace h3 := hide h3
    repeat' (first
     | (simp -implicitDefEqProofs only [*,addFp_wr,zr,Nat.reduceAdd,Nat.reduceSub,Nat.reduceMul,Nat.reduceLT,Nat.reduceLeDiff,Nat.reduceEqDiff,Nat.reduceBEq,reduceIte,reduceCtorEq,Int.reduceLE,Int.reduceLT,Int.reduceToNat,Int.reduceEq,Int.reduceNe])
     | ((first|apply zk0|apply zk1|apply zk2|apply zk3|apply zk4|apply zk5|apply zk6|apply zk7|apply zk8|apply zk9) <;> intro hc)
     |(refine callP0 rfl ?_)
     |(refine callD0 rfl ?_)
     | fail)
    exact end_a rfl rfl rfl (lenB rfl) (lenE rfl)
   ·rw [if_neg h3]
    have d3 : decide ((K.length : Int) ≥ 3000) = false := dcF (by omega)
    have hb2 : K.length ≤ 1000000 := Nat.le_trans hbK.out hb
    replace h3 := hide h3
    repeat' (first
     | (simp -implicitDefEqProofs only [*,addFp_wr,zr,Nat.reduceAdd,Nat.reduceSub,Nat.reduceMul,Nat.reduceLT,Nat.reduceLeDiff,Nat.reduceEqDiff,Nat.reduceBEq,reduceIte,reduceCtorEq,Int.reduceLE,Int.reduceLT,Int.reduceToNat,Int.reduceEq,Int.reduceNe])
     | ((first|apply zk0|apply zk1|apply zk2|apply zk3|apply zk4|apply zk5|apply zk6|apply zk7|apply zk8|apply zk9) <;> intro hc)
     |(refine callP0 rfl ?_)
     |(refine callD0 rfl ?_)
     | fail)
    refine gDC (tl := [.str dg]) (find_f (room,lease,K,en) dg hb2 hRK.out) rfl rfl ?_
    have hI := insertB_f K (bIdx K dg) (newB lease at_ dg size) bIdx_le hb2
    have eI : K.take (bIdx K dg) ++ newB lease at_ dg size :: K.drop (bIdx K dg) = insV K (newB lease at_ dg size) := rfl
    rw [eI] at hI
    have hIl : (insV K (newB lease at_ dg size)).length = K.length + 1 := by
     have := bIdx_le (bl := K) (d := dg)
     rw [← eI,List.length_append,List.length_take,List.length_cons,List.length_drop];omega
    rw [hIl]
    obtain ⟨i,hi⟩ : ∃ i,bIdx K dg = i := ⟨_,rfl⟩
    rw [hi] at hI ⊢
    generalize insV K (newB lease at_ dg size) = J at *
    clear eI
    replace hIl := hide hIl
    repeat' (first
     | (simp -implicitDefEqProofs only [*,addFp_wr,zr,Nat.reduceAdd,Nat.reduceSub,Nat.reduceMul,Nat.reduceLT,Nat.reduceLeDiff,Nat.reduceEqDiff,Nat.reduceBEq,reduceIte,reduceCtorEq,Int.reduceLE,Int.reduceLT,Int.reduceToNat,Int.reduceEq,Int.reduceNe])
     | ((first|apply zk0|apply zk1|apply zk2|apply zk3|apply zk4|apply zk5|apply zk6|apply zk7|apply zk8|apply zk9) <;> intro hc)
     |(refine callP0 rfl ?_)
     |(refine callD0 rfl ?_)
     | fail)
    refine gDM hI [.sl 51 1 5 0 K.length,.f (.int .i64 i),.sl 93 1 5 0 1] [] ?_
    clear hI
    repeat' (first
     | (simp -implicitDefEqProofs only [*,addFp_wr,zr,Nat.reduceAdd,Nat.reduceSub,Nat.reduceMul,Nat.reduceLT,Nat.reduceLeDiff,Nat.reduceEqDiff,Nat.reduceBEq,reduceIte,reduceCtorEq,Int.reduceLE,Int.reduceLT,Int.reduceToNat,Int.reduceEq,Int.reduceNe])
     | ((first|apply zk0|apply zk1|apply zk2|apply zk3|apply zk4|apply zk5|apply zk6|apply zk7|apply zk8|apply zk9) <;> intro hc)
     |(refine callP0 rfl ?_)
     |(refine callD0 rfl ?_)
     | fail)
    exact end_a rfl rfl rfl (lenB hIl.out) (lenE rfl)
 ·obtain ⟨y,hy,hyd⟩ := hasB_at hR.out hh
  replace hyd := hide hyd
  have hT := touch_f room lease bl en [dg] at_ true true hb hR.out (by simp)
  have e0 : putV room lease bl at_ dg size = if y.2.1 = size then (touchL lease at_ true true bl [dg],true,.nil,0) else (bl,false,.nil,12) := by
   unfold putV
   rw [if_pos hh,hy]
  obtain ⟨i,hi⟩ : ∃ i,bIdx bl dg = i := ⟨_,rfl⟩
  rw [hi] at hy ⊢
  have hlt2 := (List.getElem?_eq_some_iff.1 hy).1
  have hL := lt_t hlt2
  have c1 := row_cell (enc := fBlob) (sz := 5) (j := 1) (fun _ => rfl) hy rfl
  rw [e0]
  clear e0
  by_cases hz : y.2.1 = size
  ·have dz : decide (y.2.1 = size) = true := dcT hz
   rw [if_pos hz]
   replace hz := hide hz
   repeat' (first
    | (simp -implicitDefEqProofs only [*,addFp_wr,zr,Nat.reduceAdd,Nat.reduceSub,Nat.reduceMul,Nat.reduceLT,Nat.reduceLeDiff,Nat.reduceEqDiff,Nat.reduceBEq,reduceIte,reduceCtorEq,Int.reduceLE,Int.reduceLT,Int.reduceToNat,Int.reduceEq,Int.reduceNe])
    | ((first|apply zk0|apply zk1|apply zk2|apply zk3|apply zk4|apply zk5|apply zk6|apply zk7|apply zk8|apply zk9) <;> intro hc)
    |(refine callP0 rfl ?_)
    |(refine callD0 rfl ?_)
    | fail)
   refine ax_weakA [] (nw := []) (n := 99) (el := [(0,.ptr 100001 1 0),(3,.ptr 3 1 0),(4,.ptr 4 1 0),(5,.f (.int .i64 0)),(32,.ptr 100001 1 0),(35,.f (frStrs [dg])),(37,.f (.int .i64 at_))]) (hl := [(3,1,.cells [.f (.int .i64 kind),.f (.int .i64 at_),.f (.str dg),.f (.fr 1 (ds.map fun s => [FV.str s])),.f (.str key),.f (.int .i64 size)]),(4,1,.cells [.f (.bool false),.f .nil,.f .nil]),(80000,1,.cells ((rowF fBlob bl).map .f)),(81000,1,.cells ((rowF fEntry en).map .f)),(100001,1,.cells [.f (.int .i64 room),.f (.int .i64 lease),.sl 80000 1 5 0 bl.length,.sl 81000 1 3 0 en.length])]) rfl ?_ ?_
   ·refine wk_i ?_ ?_ <;> simp only [so_mf,mapOfH_some,so_ptf,so_cc,so_ff',cellsOf_some,List.drop_zero,List.take_succ_cons,List.take_zero,Nat.zero_add,Nat.le_refl,zw,Nat.reduceEqDiff,Nat.reduceBEq,Nat.reduceLT,Nat.reduceLeDiff,reduceIte,reduceCtorEq]
    exact so_row0 (enc := encS) (l := [dg]) (fun _ => rfl) rfl rfl rfl
   refine gP hT 100001 1 [.f (.int .i64 room),.f (.int .i64 lease),.sl 80000 1 5 0 bl.length,.sl 81000 1 3 0 en.length] [] [.f (frStrs [dg]),.f (.int .i64 at_),.f (.bool true),.f (.bool true)] ?_
   clear hT
   rw [touchL_len]
   repeat' (first
    | (simp -implicitDefEqProofs only [*,addFp_wr,zr,Nat.reduceAdd,Nat.reduceSub,Nat.reduceMul,Nat.reduceLT,Nat.reduceLeDiff,Nat.reduceEqDiff,Nat.reduceBEq,reduceIte,reduceCtorEq,Int.reduceLE,Int.reduceLT,Int.reduceToNat,Int.reduceEq,Int.reduceNe])
    | ((first|apply zk0|apply zk1|apply zk2|apply zk3|apply zk4|apply zk5|apply zk6|apply zk7|apply zk8|apply zk9) <;> intro hc)
    |(refine callP0 rfl ?_)
    |(refine callD0 rfl ?_)
    | fail)
   exact end_a rfl rfl rfl (lenB touchL_len) (lenE rfl)
  ·have dz : decide (y.2.1 = size) = false := dcF hz
   rw [if_neg hz]
   replace hz := hide hz
   repeat' (first
    | (simp -implicitDefEqProofs only [*,addFp_wr,zr,Nat.reduceAdd,Nat.reduceSub,Nat.reduceMul,Nat.reduceLT,Nat.reduceLeDiff,Nat.reduceEqDiff,Nat.reduceBEq,reduceIte,reduceCtorEq,Int.reduceLE,Int.reduceLT,Int.reduceToNat,Int.reduceEq,Int.reduceNe])
    | ((first|apply zk0|apply zk1|apply zk2|apply zk3|apply zk4|apply zk5|apply zk6|apply zk7|apply zk8|apply zk9) <;> intro hc)
    |(refine callP0 rfl ?_)
    |(refine callD0 rfl ?_)
    | fail)
   exact end_a rfl rfl rfl (lenB rfl) (lenE rfl)
end Go.Proofs.YtanhelgblnmdcaaDoor
