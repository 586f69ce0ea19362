/-
  The reference's do. No statement of the seat is proved here; no conditions.
-/
import Derived.Test.YtfajjcmagngfiaaGreatDoorRd5
import Derived.Test.YtfajjcmagngfiaaGreatDoorFlB
namespace Go.Proofs.YtfajjcmagngfiaaGreatDoor
open Go.RowKit Go.Shelf
set_option linter.unusedVariables false
set_option linter.unusedSimpArgs false
set_option maxRecDepth 100000

theorem fz_ev_ {H:Heap}{e:Ev} : FzOk H (aEv e) (aEv e):= .inl (by
 unfold aEv
 show SlotsOk _ _ _ [_,_,_,_,_,_] [_,_,_,_,_,_]
 rw[so_cons,so_cons,so_cons,so_cons,so_cons,so_cons,so_nil]
 exact⟨so_f,so_f,so_f,so_f,so_f,so_f,trivial⟩)
theorem ck_flt {c:Cache}{e:Ev}(h:CRight c) (hf:ckR c.2.2.1 c.2.2.2 e≠0):doR c e=(c.2.2.1,c.2.2.2,false,.v .nil,.v .nil,ckR c.2.2.1 c.2.2.2 e):=by
 unfold ckR at hf ⊢
 unfold doR doV
 by_cases h1:ckEv e=0
 ·rw[if_pos h1]at hf ⊢
  rw[if_pos h1]
  by_cases h2:e.2.1<newestV c.2.2.1 c.2.2.2
  ·rw[if_pos h2,if_pos h2]
  ·rw[if_neg h2]at hf ⊢
   rw[if_neg h2]
   unfold clashV at hf ⊢
   cases hy:c.2.2.1[bIdx c.2.2.1 e.2.2.1]? with
   | none=>rw[hy]at hf;exact absurd rfl hf
   | some y=>
    rw[hy]at hf
    dsimp only at hf ⊢
    by_cases hh:hasB c.2.2.1 e.2.2.1=true
    ·rw[if_pos hh]at hf ⊢
     by_cases k1:e.1=1
     ·rw[if_pos k1]at hf ⊢
      by_cases k2:y.2.1=e.2.2.2.2.2
      ·rw[if_pos k2]at hf;exact absurd rfl hf
      ·rw[if_neg k2]
       have hp:putV c.1 c.2.1 c.2.2.1 e.2.1 e.2.2.1 e.2.2.2.2.2=(c.2.2.1,false,.nil,12):=by
        unfold putV
        rw[if_pos hh,hy]
        show(if y.2.1=_ then _ else _)=_
        rw[if_neg k2]
       unfold actV
       rw[if_pos k1,hp]
     ·rw[if_neg k1]at hf ⊢
      by_cases k4:e.1=4
      ·rw[if_pos k4]at hf ⊢
       by_cases k5:y.2.2.2.2=3000
       ·rw[if_pos k5]
        have hp:pinV e.1 c.2.2.1 e.2.2.1=(c.2.2.1,false,16):=by
         unfold pinV
         rw[hy]
         show(if hasB c.2.2.1 e.2.2.1=true then _ else _)=_
         rw[if_pos hh,if_neg (by omega),if_pos (by omega)]
        unfold actV
        rw[if_neg k1,if_neg (by omega),if_neg (by omega),if_pos (.inl k4),hp]
       ·rw[if_neg k5]at hf;exact absurd rfl hf
      ·rw[if_neg k4]at hf;exact absurd rfl hf
    ·rw[if_neg hh]at hf;exact absurd rfl hf
 ·rw[if_neg h1,if_neg h1]
theorem ck_ok {c:Cache}{e:Ev}(hf:ckR c.2.2.1 c.2.2.2 e=0):EvOk e∧clashV c.2.2.1 e.1 e.2.2.1 e.2.2.2.2.2=0∧doR c e=actV c.1 c.2.1 c.2.2.1 c.2.2.2 e:=by
 unfold ckR at hf
 by_cases h1:ckEv e=0
 ·rw[if_pos h1]at hf
  by_cases h2:e.2.1<newestV c.2.2.1 c.2.2.2
  ·rw[if_pos h2]at hf;cases hf
  ·rw[if_neg h2]at hf
   refine⟨evOk_iff.1 h1,hf,?_⟩
   unfold doR doV
   rw[if_pos h1,if_neg h2]
 ·rw[if_neg h1]at hf;exact absurd hf h1
theorem clash_y {bl:List Blob}{kind:Int}{dg:ByteArray}{size:Int}{y:Blob}(hy:bl[bIdx bl dg]? = some y) (hh:hasB bl dg=true):clashV bl kind dg size=if kind=1 then(if y.2.1=size then 0 else 12)else if kind=4 then(if y.2.2.2.2=3000 then 16 else 0)else 0:=by
 unfold clashV
 rw[hy,hh];rfl
def StepF (f:FuncId) (c:Cache) (e:Ev) (rs:List RS):Prop:=
 FRetP Tryz.prog f [.v (.int .i64 c.1),.v (.int .i64 c.2.1),.own 5 c.2.2.1.length (rowF fBlob c.2.2.1),.own 3 c.2.2.2.length (rowF fEntry c.2.2.2)] [] [aEv e]
   [.v (.int .i64 c.1),.v (.int .i64 c.2.1),.own 5 (doC c e).2.2.1.length (rowF fBlob (doC c e).2.2.1),.own 3 (doC c e).2.2.2.length (rowF fEntry (doC c e).2.2.2)] rs
theorem rs_nn {b:Bool} : RsFz [rAnsM b (.v .nil) (.v .nil)] [rAns b .nil .nil]:=⟨⟨rfl,rfl,rfl,trivial⟩,trivial⟩
theorem rs_mn {b:Bool}{M:List ByteArray} : RsFz [rAnsM b (rcS M) (.v .nil)] [rAns b (frStrs M) .nil]:=⟨⟨rfl,rcFz_s M,rfl,trivial⟩,trivial⟩
theorem rs_ng {b:Bool}{M:List ByteArray} : RsFz [rAnsM b (.v .nil) (rcS M)] [rAns b .nil (frStrs M)]:=⟨⟨rfl,rfl,rcFz_s M,trivial⟩,trivial⟩
theorem rs_nn1 {b:Bool}{x:Int} : RsFz [rAnsM b (.v .nil) (.v .nil),.c (.v (.int .i64 x))] [rAns b .nil .nil,.c (.v (.int .i64 x))]:=⟨⟨rfl,rfl,rfl,trivial⟩,rfl,trivial⟩
theorem rs_ng1 {b:Bool}{M:List ByteArray}{x:Int} : RsFz [rAnsM b (.v .nil) (rcS M),.c (.v (.int .i64 x))] [rAns b .nil (frStrs M),.c (.v (.int .i64 x))]:=⟨⟨rfl,rfl,rcFz_s M,trivial⟩,rfl,trivial⟩
def ansRs (c:Cache) (e:Ev):RS:=rAns (ansOf c e).1 (ansOf c e).2.1 (ansOf c e).2.2
theorem step_of {f:FuncId}{c:Cache}{e:Ev}{B:List Blob}{E:List Entry}{b:Bool}{m g m' g':RC}{mf gf:FV}{ft:Int}(hd:doR c e=(B,E,b,m',g',ft)) (hm:frzC m'=mf) (hg:frzC g'=gf)
  (h:FRetP Tryz.prog f [.v (.int .i64 c.1),.v (.int .i64 c.2.1),.own 5 c.2.2.1.length (rowF fBlob c.2.2.1),.own 3 c.2.2.2.length (rowF fEntry c.2.2.2)] [] [aEv e]
    [.v (.int .i64 c.1),.v (.int .i64 c.2.1),.own 5 B.length (rowF fBlob B),.own 3 E.length (rowF fEntry E)] [rAnsM b m g]) (hf:RsFz [rAnsM b m g] [rAns b mf gf]):StepF f c e [ansRs c e]:=by
 unfold StepF ansRs ansOf doC
 rw[hd]
 dsimp only
 rw[hm,hg]
 exact FRetH.frz h hf
theorem step_of1 {f:FuncId}{c:Cache}{e:Ev}{B:List Blob}{E:List Entry}{b:Bool}{m g m' g':RC}{mf gf:FV}{ft:Int}(hd:doR c e=(B,E,b,m',g',ft)) (hm:frzC m'=mf) (hg:frzC g'=gf)
  (h:FRetP Tryz.prog f [.v (.int .i64 c.1),.v (.int .i64 c.2.1),.own 5 c.2.2.1.length (rowF fBlob c.2.2.1),.own 3 c.2.2.2.length (rowF fEntry c.2.2.2)] [] [aEv e]
    [.v (.int .i64 c.1),.v (.int .i64 c.2.1),.own 5 B.length (rowF fBlob B),.own 3 E.length (rowF fEntry E)] [rAnsM b m g,.c (.v (.int .i64 ft))]) (hf:RsFz [rAnsM b m g,.c (.v (.int .i64 ft))] [rAns b mf gf,.c (.v (.int .i64 ft))]):StepF f c e [ansRs c e,.c (.v (.int .i64 (fltOf c e)))]:=by
 unfold StepF ansRs ansOf doC fltOf
 rw[hd]
 dsimp only
 rw[hm,hg]
 exact FRetH.frz h hf
theorem put_step {c:Cache}{e:Ev}(h:CRight c) (hk:e.1=1) (hf:ckR c.2.2.1 c.2.2.2 e=0):StepF 54 c e [ansRs c e,.c (.v (.int .i64 (fltOf c e)))]:=by
 obtain⟨ho,hcl,hd⟩:=ck_ok hf
 have ha:actV c.1 c.2.1 c.2.2.1 c.2.2.2 e=((putV c.1 c.2.1 c.2.2.1 e.2.1 e.2.2.1 e.2.2.2.2.2).1,c.2.2.2,(putV c.1 c.2.1 c.2.2.1 e.2.1 e.2.2.1 e.2.2.2.2.2).2.1,.v .nil,.v (putV c.1 c.2.1 c.2.2.1 e.2.1 e.2.2.1 e.2.2.2.2.2).2.2.1,(putV c.1 c.2.1 c.2.2.1 e.2.1 e.2.2.1 e.2.2.2.2.2).2.2.2):=by
  unfold actV;rw[if_pos hk]
 rw[ha]at hd
 have hroom:=rg_iff.1 h.room
 obtain⟨o1,o2,o3,o4⟩:=over_eq (lease:=0) hroom h.b ho.size
 have hsz:=ho.size
 have hsum:=h.bsum
 have hbl:=h.blen
 have hl:=stay_leav (bl:=c.2.2.1) (at_:=e.2.1)
 have hwl:=wsum_leav (at_:=e.2.1) (bl:=c.2.2.1) (by omega) o4
 cases hh:hasB c.2.2.1 e.2.2.1
 ·have hst0:=(rise_take_sum o4 e.2.1 c.2.2.1.length (by omega)).1
  have ho2:sumSz c.2.2.1 - (c.1 - e.2.2.2.2.2)=overV c.1 c.2.2.1 e.2.2.2.2.2:=by omega
  have hw:IntKind.i64.wrap (c.1 - e.2.2.2.2.2)=c.1 - e.2.2.2.2.2:=by rw[wrap64]<;>omega
  have hP:putV c.1 c.2.1 c.2.2.1 e.2.1 e.2.2.1 e.2.2.2.2.2=if wsum (leavV c.2.2.1 e.2.1)<overV c.1 c.2.2.1 e.2.2.2.2.2 then(c.2.2.1,false,.nil,0)
    else if 3000≤(keptV c.2.2.1 e.2.1 (overV c.1 c.2.2.1 e.2.2.2.2.2)).length then(keptV c.2.2.1 e.2.1 (overV c.1 c.2.2.1 e.2.2.2.2.2),false,.nil,16)
    else(insV (keptV c.2.2.1 e.2.1 (overV c.1 c.2.2.1 e.2.2.2.2.2)) (newB c.2.1 e.2.1 e.2.2.1 e.2.2.2.2.2),true,frStrs (clrGone c.2.2.1 e.2.1 (overV c.1 c.2.2.1 e.2.2.2.2.2)),0):=by
   unfold putV
   rw[hh];rfl
  rw[hwl]at hP
  by_cases hbig:c.1<e.2.2.2.2.2
  ·rw[if_pos (by omega)]at hP
   rw[hP]at hd
   exact step_of1 hd rfl rfl (put_big _ _ _ _ _ (by omega) hh hbig) rs_nn1
  ·by_cases hno:c.1 - e.2.2.2.2.2<stayTo c.2.2.1 e.2.1 c.2.2.1.length
   ·rw[if_pos (by omega)]at hP
    rw[hP]at hd
    exact step_of1 hd rfl rfl (put_no _ _ _ _ _ (by omega) o4 hh (by omega) hw hno) rs_nn1
   ·rw[if_neg (by omega)]at hP
    by_cases hK:3000≤(keptV c.2.2.1 e.2.1 (overV c.1 c.2.2.1 e.2.2.2.2.2)).length
    ·rw[if_pos hK]at hP
     rw[hP]at hd
     have:=put_full c.1 c.2.1 c.2.2.1 c.2.2.2 e (by omega) o4 h.brise hh (by omega) hw (by omega) (by rw[ho2];exact hK)
     rw[ho2]at this
     exact step_of1 hd rfl rfl this rs_nn1
    ·rw[if_neg hK]at hP
     rw[hP]at hd
     have:=put_new c.1 c.2.1 c.2.2.1 c.2.2.2 e (by omega) o4 h.brise hh (by omega) hw (by omega) (by rw[ho2];omega)
     rw[ho2]at this
     exact step_of1 hd rfl rfl this rs_ng1
 ·obtain⟨y,hy,hyd⟩:=hasB_at h.brise hh
  rw[clash_y hy hh,if_pos hk]at hcl
  have hs:y.2.1=e.2.2.2.2.2:=by
   by_cases h:y.2.1=e.2.2.2.2.2
   ·exact h
   ·rw[if_neg h]at hcl;cases hcl
  have hP:putV c.1 c.2.1 c.2.2.1 e.2.1 e.2.2.1 e.2.2.2.2.2=(touch1 c.2.1 e.2.1 true true c.2.2.1 e.2.2.1,true,.nil,0):=by
   unfold putV
   rw[if_pos hh,hy]
   show(if y.2.1=_ then _ else _)=_
   rw[if_pos hs];rfl
  rw[hP]at hd
  exact step_of1 hd rfl rfl (put_has _ _ _ _ _ (by omega) h.brise hh) rs_nn1
theorem ask_step {c:Cache}{e:Ev}(h:CRight c) (hk:e.1=3) (hf:ckR c.2.2.1 c.2.2.2 e=0):StepF 55 c e [ansRs c e]∧fltOf c e=0:=by
 obtain⟨ho,hcl,hd⟩:=ck_ok hf
 have ha:actV c.1 c.2.1 c.2.2.1 c.2.2.2 e=(touchL c.2.1 e.2.1 false true c.2.2.1 e.2.2.2.1,c.2.2.2,decide ((missingOf c.2.2.1 e.2.2.2.1).length=0),rcS (missingOf c.2.2.1 e.2.2.2.1),.v .nil,0):=by
  unfold actV;rw[if_neg (by omega),if_neg (by omega),if_pos hk]
 rw[ha]at hd
 have hbl:=h.blen
 have:=ckDigs_len ho.digs
 refine⟨step_of hd (frz_s _) rfl ?_ rs_mn,by unfold fltOf;rw[hd]⟩
 have h1:=askR_f c.1 c.2.1 c.2.2.1 c.2.2.2 e (by omega) h.brise (by omega)
 rw[show c.2.2.1.length=(touchL c.2.1 e.2.1 false true c.2.2.1 e.2.2.2.1).length from touchL_len.symm]at h1
 rw[show(touchL c.2.1 e.2.1 false true c.2.2.1 e.2.2.2.1).length=c.2.2.1.length from touchL_len]at h1 ⊢
 exact h1
theorem store_step {c:Cache}{e:Ev}(h:CRight c) (hk:e.1=6) (hf:ckR c.2.2.1 c.2.2.2 e=0):StepF 56 c e [ansRs c e]∧fltOf c e=0:=by
 obtain⟨ho,hcl,hd⟩:=ck_ok hf
 have ha:actV c.1 c.2.1 c.2.2.1 c.2.2.2 e=((storeV c.2.1 c.2.2.1 c.2.2.2 e.2.1 e.2.2.2.2.1 e.2.2.2.1).1,(storeV c.2.1 c.2.2.1 c.2.2.2 e.2.1 e.2.2.2.2.1 e.2.2.2.1).2.1,(storeV c.2.1 c.2.2.1 c.2.2.2 e.2.1 e.2.2.2.2.1 e.2.2.2.1).2.2.1,(storeV c.2.1 c.2.2.1 c.2.2.2 e.2.1 e.2.2.2.2.1 e.2.2.2.1).2.2.2,.v .nil,0):=by
  unfold actV;rw[if_neg (by omega),if_neg (by omega),if_neg (by omega),if_neg (by omega),if_pos hk]
 rw[ha]at hd
 have hbl:=h.blen
 have hel:=h.elen
 have:=ckDigs_len ho.digs
 unfold storeV at hd
 by_cases hm:missingOf c.2.2.1 e.2.2.2.1 = []
 ·rw[if_pos hm]at hd
  exact⟨step_of hd rfl rfl (store_yes c.1 c.2.1 c.2.2.1 c.2.2.2 e (by omega) h.brise hel h.erise (by omega) hm) rs_nn,by unfold fltOf;rw[hd]⟩
 ·rw[if_neg hm]at hd
  exact⟨step_of hd (frz_s _) rfl (store_mis c.1 c.2.1 c.2.2.1 c.2.2.2 e (by omega) (by omega) hm) rs_mn,by unfold fltOf;rw[hd]⟩
theorem find_step {c:Cache}{e:Ev}(h:CRight c) (hk:e.1=7) (hf:ckR c.2.2.1 c.2.2.2 e=0):StepF 57 c e [ansRs c e]∧fltOf c e=0:=by
 obtain⟨ho,hcl,hd⟩:=ck_ok hf
 have ha:actV c.1 c.2.1 c.2.2.1 c.2.2.2 e=((searchV c.2.1 c.2.2.1 c.2.2.2 e.2.1 e.2.2.2.2.1).1,(searchV c.2.1 c.2.2.1 c.2.2.2 e.2.1 e.2.2.2.2.1).2.1,(searchV c.2.1 c.2.2.1 c.2.2.2 e.2.1 e.2.2.2.2.1).2.2.1,(searchV c.2.1 c.2.2.1 c.2.2.2 e.2.1 e.2.2.2.2.1).2.2.2,.v .nil,0):=by
  unfold actV;rw[if_neg (by omega),if_neg (by omega),if_neg (by omega),if_neg (by omega),if_neg (by omega),if_pos hk]
 rw[ha]at hd
 have hbl:=h.blen
 have hel:=h.elen
 have h1:=findR_f c.1 c.2.1 c.2.2.1 c.2.2.2 e (by omega) h.brise (by omega) h.erise (fun x hx=>by have:=ckDigs_len (entOk_iff.1 (h.eok x hx)).2.1;omega)
 refine⟨?_,by unfold fltOf;rw[hd]⟩
 rcases searchV_rc (lease:=c.2.1) (bl:=c.2.2.1) (en:=c.2.2.2) (at_:=e.2.1) (key:=e.2.2.2.2.1)with hc|⟨M,hc⟩
 ·rw[hc]at hd h1
  exact step_of hd rfl rfl h1 rs_nn
 ·rw[hc]at hd h1
  exact step_of hd (frz_s _) rfl h1 rs_mn
theorem one_step {c:Cache}{e:Ev}(h:CRight c) (hk:e.1≠1∧e.1≠3∧e.1≠6∧e.1≠7) (hf:ckR c.2.2.1 c.2.2.2 e=0):StepF 58 c e [ansRs c e]∧fltOf c e=0:=by
 obtain⟨ho,hcl,hd⟩:=ck_ok hf
 have hbl:=h.blen
 have hkk:=ho.kind
 have hcase:e.1=2∨(e.1=4∨e.1=5)∨e.1=8:=by omega
 cases hh:hasB c.2.2.1 e.2.2.1
 ·have h1:=one_no c.1 c.2.1 c.2.2.1 c.2.2.2 e (by omega) hh
  have hn:actV c.1 c.2.1 c.2.2.1 c.2.2.2 e=(c.2.2.1,c.2.2.2,false,.v .nil,.v .nil,0):=by
   unfold actV
   rcases hcase with k|k|k
   ·rw[if_neg (by omega),if_pos k,hh]
    show(touch1 _ _ _ _ _ _,_,_,_,_,_)=_
    rw[touch1_no hh]
   ·rw[if_neg (by omega),if_neg (by omega),if_neg (by omega),if_pos k]
    have hp:pinV e.1 c.2.2.1 e.2.2.1=(c.2.2.1,false,0):=by
     unfold pinV
     split
     ·rw[hh];rfl
     ·rfl
    rw[hp]
   ·rw[if_neg (by omega),if_neg (by omega),if_neg (by omega),if_neg (by omega),if_neg (by omega),if_neg (by omega)]
    unfold dropV
    split
    ·rw[hh];rfl
    ·rfl
  rw[hn]at hd
  exact⟨step_of hd rfl rfl h1 rs_nn,by unfold fltOf;rw[hd]⟩
 obtain⟨y,hy,hyd⟩:=hasB_at h.brise hh
 rw[clash_y hy hh,if_neg hk.1]at hcl
 rcases hcase with k|k|k
 ·have ha:actV c.1 c.2.1 c.2.2.1 c.2.2.2 e=(touch1 c.2.1 e.2.1 true true c.2.2.1 e.2.2.1,c.2.2.2,true,.v .nil,.v .nil,0):=by
   unfold actV
   rw[if_neg (by omega),if_pos k,hh];rfl
  rw[ha]at hd
  exact⟨step_of hd rfl rfl (one_get c.1 c.2.1 c.2.2.1 c.2.2.2 e (by omega) h.brise k hh) rs_nn,by unfold fltOf;rw[hd]⟩
 ·have ha:actV c.1 c.2.1 c.2.2.1 c.2.2.2 e=((pinV e.1 c.2.2.1 e.2.2.1).1,c.2.2.2,(pinV e.1 c.2.2.1 e.2.2.1).2.1,.v .nil,.v .nil,(pinV e.1 c.2.2.1 e.2.2.1).2.2):=by
   unfold actV
   rw[if_neg (by omega),if_neg (by omega),if_neg (by omega),if_pos k]
  have hp:pinV e.1 c.2.2.1 e.2.2.1=if e.1=5 then(if y.2.2.2.2=0 then(c.2.2.1,false,0)else(c.2.2.1.set (bIdx c.2.2.1 e.2.2.1) (pinB e.1 y),true,0))else if 3000≤y.2.2.2.2 then(c.2.2.1,false,16)else(c.2.2.1.set (bIdx c.2.2.1 e.2.2.1) (pinB e.1 y),true,0):=by
   unfold pinV
   rw[hy,hh];rfl
  have hpins:=(blobOk_iff.1 (h.bok y (List.mem_of_getElem? hy))).2.2.2.2
  have hq:(pinV e.1 c.2.2.1 e.2.2.1).2.2=0:=by
   rw[hp]
   by_cases k5:e.1=5
   ·rw[if_pos k5];split<;>rfl
   ·rw[if_neg k5]
    rw[if_pos (by omega)]at hcl
    by_cases k6:y.2.2.2.2=3000
    ·rw[if_pos k6]at hcl;cases hcl
    ·rw[if_neg (by omega)]
  have h1:=one_pin c.1 c.2.1 c.2.2.1 c.2.2.2 e (by omega) h.brise k hh hq
  rw[ha,hq]at hd
  exact⟨step_of hd rfl rfl h1 rs_nn,by unfold fltOf;rw[hd]⟩
 ·have ha:actV c.1 c.2.1 c.2.2.1 c.2.2.2 e=dropV c.2.2.1 c.2.2.2 e.2.1 e.2.2.1:=by
   unfold actV
   rw[if_neg (by omega),if_neg (by omega),if_neg (by omega),if_neg (by omega),if_neg (by omega),if_neg (by omega)]
  have h1:=one_drop c.1 c.2.1 c.2.2.1 c.2.2.2 e (by omega) h.brise k hh
  have hD:dropV c.2.2.1 c.2.2.2 e.2.1 e.2.2.1=if heldB y e.2.1=true then(c.2.2.1,c.2.2.2,false,.v .nil,.v .nil,0)else(keepL (fun b:Blob=>hasS b.1 [e.2.2.1]) c.2.2.1,c.2.2.2,true,.v .nil,rcS [e.2.2.1],0):=by
   unfold dropV
   rw[hy,hh]
   show(if (true&& !heldB y e.2.1)=true then _ else _)=_
   cases heldB y e.2.1<;>rfl
  rw[hD]at ha h1
  by_cases hl:heldB y e.2.1=true
  ·rw[if_pos hl]at ha h1
   rw[ha]at hd
   exact⟨step_of hd rfl rfl h1 rs_nn,by unfold fltOf;rw[hd]⟩
  ·rw[if_neg hl]at ha h1
   rw[ha]at hd
   exact⟨step_of hd rfl (frz_s _) h1 rs_ng,by unfold fltOf;rw[hd]⟩
end Go.Proofs.YtfajjcmagngfiaaGreatDoor
