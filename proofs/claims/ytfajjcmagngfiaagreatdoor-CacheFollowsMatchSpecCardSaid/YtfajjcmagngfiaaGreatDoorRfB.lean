/-
  What a call leaves behind a pointer, with the cells behind forgotten; single cells of rows that are set. No statement of the seat is proved here; no conditions.
-/
import Derived.Test.YtfajjcmagngfiaaGreatDoorCap
import Derived.Test.YtfajjcmagngfiaaGreatDoorRfA
import Derived.Test.YtfajjcmagngfiaaGreatDoorShK
namespace Go.Proofs.YtfajjcmagngfiaaGreatDoor
open Go.RowKit
set_option linter.unusedVariables false
set_option linter.unusedSimpArgs false

def RcCut:RC→RC→Prop
 | .v x,r=>r=.v x
 | .own sz n cs,r=>∃ ds t,r=.own sz n ds∧cs=ds++t∧n*sz≤ds.length
def RcsCut:List RC→List RC→Prop
 | [],l=>l = []
 | r::rs,[]=>False
 | r::rs,r'::l=>RcCut r r'∧RcsCut rs l
theorem St.cutAt {P:Program}{G:Ghost}{H:Heap}{Z:Nat→Prop}{w:World}(st:St P G H Z w){id v:Nat}{cs ds:List AV}(hH:H id=(v,some (.cells (cs++ds)))):St P G (upd H id (v,some (.cells cs))) Z w:=by
 refine⟨fun j=> ?_,fun j hj=> ?_,fun j o hj=> ?_,st.inj,st.disj,st.zlt,st.glt,st.ones⟩
 ·by_cases e:j=id
  ·subst e;rw[upd_same,st.ver j,hH]
  ·rw[upd_ne (H:=H) (h:=e)];exact st.ver j
 ·by_cases e:j=id
  ·subst e;rw[upd_same]at hj;cases hj
  ·rw[upd_ne (H:=H) (h:=e)]at hj;exact st.dead j hj
 ·by_cases e:j=id
  ·subst e
   rw[upd_same]at hj
   obtain⟨loc,h1,h2⟩:=st.obj j (.cells (cs++ds)) (by rw[hH])
   cases hj
   exact⟨loc,h1,h2.cut⟩
  ·rw[upd_ne (H:=H) (h:=e)]at hj;exact st.obj j o hj
theorem cut_st {P:Program}{G:Ghost}{Z:Nat→Prop}{w:World} : ∀ {pcs pcs2:List RC}{cs:List AV}{H:Heap},St P G H Z w→RcsOk H pcs cs→RcsCut pcs pcs2→(idsC cs).Nodup→∃ H2,St P G H2 Z w∧RcsOk H2 pcs2 cs∧∀ i,i∉idsC cs→H2 i=H i
 | [],pcs2,cs,H,st,h,hc,hnd=>by
  obtain rfl:pcs2 = []:=hc
  exact⟨H,st,h,fun _ _=>rfl⟩
 | r::rs,[],cs,H,st,h,hc,hnd=>hc.elim
 | r::rs,r'::l,[],H,st,h,hc,hnd=>h.elim
 | .v x::rs,r'::l,a::cs,H,st,h,hc,hnd=>by
  obtain⟨h1,h2⟩:=h
  obtain rfl:r'=.v x:=hc.1
  obtain rfl:a=.f x:=h1
  obtain⟨H2,s2,k1,k2⟩:=cut_st st h2 hc.2 (by simpa [idsC]using hnd)
  exact⟨H2,s2,⟨rfl,k1⟩,fun i hi=>k2 i (by simpa [idsC]using hi)⟩
 | .own sz n ds0::rs,r'::l,a::cs,H,st,h,hc,hnd=>by
  obtain⟨h1,h2⟩:=h
  obtain⟨⟨ds,t,rfl,rfl,hlen⟩,hc2⟩:=hc
  rcases h1 with⟨rfl,rfl,h3⟩|⟨id,ver,rfl,h3,h4⟩
  ·obtain⟨rfl,rfl⟩:=List.append_eq_nil_iff.1 h3
   obtain⟨H2,s2,k1,k2⟩:=cut_st st h2 hc2 (by simpa [idsC]using hnd)
   exact⟨H2,s2,⟨.inl ⟨rfl,rfl,rfl⟩,k1⟩,fun i hi=>k2 i (by simpa [idsC]using hi)⟩
  ·have hH:H id=(ver,some (.cells (ds.map .f++t.map .f))):=by rw[(st.cells h3).choose_spec.2.2,List.map_append]
   have hid:id∉idsC cs:=by simp only[idsC,List.nodup_cons]at hnd;exact hnd.1
   have hnd2:(idsC cs).Nodup:=by simp only[idsC,List.nodup_cons]at hnd;exact hnd.2
   obtain⟨H2,s2,k1,k2⟩:=cut_st (st.cutAt hH) (rcsOk_at h2 fun i hi=>upd_ne _ _ _ _ (fun e=>hid (by rw[← e];exact hi))) hc2 hnd2
   refine⟨H2,s2,⟨.inr ⟨id,ver,rfl,?_,hlen⟩,k1⟩,fun i hi=> ?_⟩
   ·rw[k2 id hid,upd_same];simp [cellsOf]
   ·simp only[idsC,List.mem_cons,not_or]at hi
    rw[k2 i hi.2];exact upd_ne _ _ _ _ hi.1
theorem FRetH.cut {P:Program}{f:FuncId}{a0:AV}{pcs pcs' pcs2:List RC}{ri rs:List RS}{tl:List AV}(h:FRetH P f a0 pcs ri tl pcs' rs) (hc:RcsCut pcs' pcs2):FRetH P f a0 pcs ri tl pcs2 rs:=
 ⟨h.1,fun G Z w vs h1 h2 h3=>(h.2 G Z w vs h1 h2 h3).mono fun e w' ⟨v,r,H',G',Z',e1,⟨l,cs',hr,hp,hpc,hrs,hnd,hni⟩,st,hh,hrep⟩=>by
  obtain⟨n1,n2,n3⟩:=List.nodup_append.1 hnd
  obtain⟨H2,s2,k1,k2⟩:=cut_st st hpc hc n1
  exact⟨v,r,H2,G',Z',e1,⟨l,cs',hr,by rw[k2 _ (fun h=>hni (List.mem_append_left _ h))];exact hp,k1,rsOk_at hrs fun i hi=>k2 i (fun h=>n3 i h i hi rfl),hnd,hni⟩,s2,hh,hrep⟩⟩
theorem rcCut_v {x:FV} : RcCut (.v x) (.v x):=rfl
theorem rcCut_t {sz n:Nat}{ds t:List FV}(h:n*sz≤ds.length):RcCut (.own sz n (ds++t)) (.own sz n ds):=⟨ds,t,rfl,rfl,h⟩
theorem rcCut_0 {sz n:Nat}{ds:List FV}(h:n*sz≤ds.length):RcCut (.own sz n ds) (.own sz n ds):=⟨ds,[],rfl,by rw[List.append_nil],h⟩
theorem splice_1:∀ (cs:List AV) (k:Nat) (a:AV),splice cs k [a]=cs.set k a:=fun cs k a=>rfl
theorem row_set1 {α : Type}{enc : α→List FV}{sz:Nat}{l:List α}{i j:Nat}{x y : α}{v:FV}(hs:∀ x,(enc x).length=sz) (h:l[i]? = some x) (hj:j<sz) (he:enc y=(enc x).set j v):splice ((rowF enc l).map AV.f) (i*sz+j) [.f v]=(rowF enc (l.set i y)).map .f:=by
 obtain⟨h1,h2⟩:=row_split hs h
 have hlt:=(List.getElem?_eq_some_iff.1 h).1
 obtain⟨h3,-⟩:=row_split (l:=l.set i y) (i:=i) (x:=y) hs (by rw[List.getElem?_set_self hlt])
 have e1:(l.set i y).take i=l.take i:=by rw[List.take_set_of_le (Nat.le_refl _)]
 have e2:(l.set i y).drop (i+1)=l.drop (i+1):=by rw[List.drop_set_of_lt (by omega)]
 rw[e1,e2]at h3
 rw[splice_1,h3,h1,he]
 have hx:j<(enc x).length:=by rw[hs];exact hj
 have:((rowF enc (l.take i)++(enc x++rowF enc (l.drop (i+1)))).map AV.f).set (i*sz+j) (.f v)=((rowF enc (l.take i)++(enc x++rowF enc (l.drop (i+1)))).set (i*sz+j) v).map AV.f:=by rw[List.map_set]
 rw[this,List.set_append_right _ _ (by omega),h2,Nat.add_sub_cancel_left,List.set_append_left _ _ hx]
theorem row_take {α : Type}{enc : α→List FV}{sz:Nat}(hs:∀ x,(enc x).length=sz):∀ (l:List α) (k:Nat),(rowF enc l).take (k*sz)=rowF enc (l.take k)
 | [],k=>by simp [rowF]
 | x::l,0=>by simp [rowF]
 | x::l,k+1=>by
  rw[List.take_succ_cons,row_cons,row_cons,Nat.add_mul,Nat.one_mul,Nat.add_comm,← hs x,List.take_length_add_append,hs x,row_take hs l k]
theorem row_drop {α : Type}{enc : α→List FV}{sz:Nat}(hs:∀ x,(enc x).length=sz):∀ (l:List α) (k:Nat),(rowF enc l).drop (k*sz)=rowF enc (l.drop k)
 | [],k=>by simp [rowF]
 | x::l,0=>by simp [rowF]
 | x::l,k+1=>by
  rw[List.drop_succ_cons,row_cons,Nat.add_mul,Nat.one_mul,Nat.add_comm,← hs x,List.drop_length_add_append,hs x,row_drop hs l k]
theorem splice_at (cs:List AV) (k:Nat) (xs:List AV) (h:k+xs.length≤cs.length):splice cs k xs=cs.take k++(xs++cs.drop (k+xs.length)):=by
 have e:cs=cs.take k++((cs.drop k).take xs.length++cs.drop (k+xs.length)):=by
  rw[← List.drop_drop,List.take_append_drop,List.take_append_drop]
 have h2:(cs.take k).length=k:=by rw[List.length_take];omega
 have:=splice_mid xs (cs.take k) ((cs.drop k).take xs.length) (cs.drop (k+xs.length)) (by rw[List.length_take,List.length_drop];omega)
 rw[← e,h2]at this
 exact this
end Go.Proofs.YtfajjcmagngfiaaGreatDoor
namespace Go.Proofs.YtfajjcmagngfiaaGreatDoor
open Go.RowKit Go.Shelf
set_option linter.unusedVariables false
set_option linter.unusedSimpArgs false
set_option maxRecDepth 100000

theorem fz_pc {H:Heap}{id ver v1 v2 i1 i2:Nat}{room lease:Int}{bl:List Blob}{en:List Entry}(hc:cellsOf ver (H id)=some [.f (.int .i64 room),.f (.int .i64 lease),.sl i1 v1 5 0 bl.length,.sl i2 v2 3 0 en.length]) (h1:cellsOf v1 (H i1)=some ((rowF fBlob bl).map .f)) (h2:cellsOf v2 (H i2)=some ((rowF fEntry en).map .f)):FzOk H (.ptr id ver 0) (.f (pCache (room,lease,bl,en))):=by
 refine fz_ptr0 hc rfl ?_
 show SlotsOk _ _ _ [_,_,_,_] [.f (.int .i64 room),.f (.int .i64 lease),.f (frBlobs bl),.f (frEntries en)]
 rw[so_cons,so_cons,so_cons,so_cons,so_nil]
 exact⟨so_f,so_f,so_row0 (enc:=fBlob) (fun _=>rfl) rfl h1 rfl,so_row0 (enc:=fEntry) (fun _=>rfl) rfl h2 rfl,trivial⟩
theorem dropR_f (room lease:Int) (bl:List Blob) (en:List Entry) (d:ByteArray) (k:Nat) (hb:bl.length≤1000000) (hk:k<bl.length) (hd:firstK (fun b:Blob=>b.1) bl d=(k:Int)) :
  FRetP Tryz.prog 79 [.v (.int .i64 room),.v (.int .i64 lease),.own 5 bl.length (rowF fBlob bl),.own 3 en.length (rowF fEntry en)] [] [.f (.str d)]
   [.v (.int .i64 room),.v (.int .i64 lease),.own 5 (bl.eraseIdx k).length (rowF fBlob (bl.eraseIdx k)),.own 3 en.length (rowF fEntry en)] []:=by
 have hB:=blobR_f (room,lease,bl,en) d (by show(bl.length:Int)≤_;omega)
 rw[show firstK (fun b:Blob=>b.1) (room,lease,bl,en).2.2.1 d=(k:Int)from hd]at hB
 refine FCall.of_ax low_ref7_drop ?_
 dsimp only[jm,ji,jf,jl,jL,jn,je,jx,jT,jC,jB,jq,jt,ju,jA,km,kf,kl,kn,kx,l_ref7_drop]
 refine zs ?_
 repeat'(first|(simp -implicitDefEqProofs only[*,zr,seval,reduceIte,reduceCtorEq])|(apply zk<;>intro hc)|(refine zp ?_)|(refine zd ?_)|fail)
 refine callG rfl hB rfl ?_ (by simp [RS.all,RC.all,FV.plain]) (by first|exact free_mk rfl|exact free_mk (by simp)|(repeat (first|exact free_0|exact free_mk rfl|exact free_mk (by simp)|refine free_upd rfl ?_|refine free_kill ?_))) ?_
 ·exact⟨fz_pc rfl rfl rfl,fz_f,trivial⟩
 have kl:(rowF fBlob bl).length=bl.length*5:=row_len (sz:=5) (fun _=>rfl)
 obtain⟨T1,hT1⟩:∃ T,List.take (k*5) ((rowF fBlob bl).map AV.f)=T:=⟨_,rfl⟩
 obtain⟨T2,hT2⟩:∃ T,List.take ((bl.length - (k+1))*5) (List.drop ((k+1)*5) ((rowF fBlob bl).map AV.f))=T:=⟨_,rfl⟩
 have k1:T1=(rowF fBlob (bl.take k)).map AV.f:=by rw[← hT1,← List.map_take,row_take (sz:=5) (fun _=>rfl)]
 have k2:T2=(rowF fBlob (bl.drop (k+1))).map AV.f:=by
  rw[← hT2,← List.map_drop,row_drop (sz:=5) (fun _=>rfl),List.take_of_length_le]
  rw[List.length_map,row_len (sz:=5) (fun _=>rfl),List.length_drop];exact Nat.le_refl _
 have k3:T1.length=k*5:=by rw[k1,List.length_map,row_len (sz:=5) (fun _=>rfl),List.length_take];omega
 have h1:((k:Int)≤(bl.length:Int))=True:=by rw[eq_iff_iff,iff_true];omega
 have h2:IntKind.i64.wrap ((k:Int)+1)=((k+1:Nat):Int):=by rw[wrap64]<;>omega
 have h3:(((k+1:Nat):Int)≤(bl.length:Int))=True:=by rw[eq_iff_iff,iff_true];omega
 have h4:((bl.length:Int)≤(bl.length:Int))=True:=by rw[eq_iff_iff,iff_true];omega
 have h5:(k*5≤bl.length*5)=True:=by rw[eq_iff_iff,iff_true];omega
 have h6:((k+1+(bl.length - (k+1)))*5≤bl.length*5)=True:=by rw[eq_iff_iff,iff_true];omega
 have h7:(k*48≤140737488355328)=True:=by rw[eq_iff_iff,iff_true];omega
 have h8:((bl.length - 1)*48≤140737488355328)=True:=by rw[eq_iff_iff,iff_true];omega
 have h9:k+(bl.length - (k+1))=bl.length - 1:=by omega
 replace k1:=hide k1
 replace k2:=hide k2
 clear hd hB
 repeat'(first|(simp -implicitDefEqProofs only[*,List.length_map,Nat.sub_zero,zr,seval,reduceIte,reduceCtorEq])|(apply zk<;>intro hc)|(refine zp ?_)|(refine zd ?_)|fail)
 have e1:(bl.eraseIdx k).length=bl.length - 1:=by rw[List.length_eraseIdx];simp [hk]
 have e2:rowF fBlob (bl.eraseIdx k)=rowF fBlob (bl.take k)++rowF fBlob (bl.drop (k+1)):=by rw[List.eraseIdx_eq_take_drop_succ,row_app]
 refine⟨[],[.f (.int .i64 room),.f (.int .i64 lease),.sl 16 2 5 0 (bl.length - 1),.sl 81000 1 3 0 en.length],rfl,rfl,⟨rfl,rfl,.inr ⟨16,2,by rw[e1],?_,by rw[row_len (sz:=5) (fun _=>rfl)];exact Nat.le_refl _⟩,.inr ⟨81000,1,rfl,rfl,by rw[row_len (sz:=3) (fun _=>rfl)];exact Nat.le_refl _⟩,rfl⟩,rfl,by simp [idsC,idsS],by simp [idsC,idsS]⟩
 rw[e2,List.map_append,← k1.out,← k2.out]
 rfl
def goneTo (bl L:List Blob) (s:Nat):List Blob:=keepL (fun b:Blob=>hasS b.1 (digsB (L.take s))) bl
theorem goneTo_0 {bl L:List Blob} : goneTo bl L 0=bl:=by
 unfold goneTo keepL
 rw[List.filter_eq_self]
 intro a _;rfl
theorem erase_keep {l:List Blob}(h:RiseB l){k:Nat}{x:Blob}(hx:l[k]? = some x):l.eraseIdx k=l.filter fun b=>decide (b.1≠x.1):=by
 obtain⟨hk,he⟩:=List.getElem?_eq_some_iff.1 hx
 have hsp:l=l.take k++x::l.drop (k+1):=by
  conv=>lhs;rw[← List.take_append_drop k l,List.drop_eq_getElem_cons hk,he]
 have h2:=h
 unfold RiseB at h2
 rw[hsp]at h2
 obtain⟨h3,h4,h5⟩:=List.pairwise_append.1 h2
 rw[List.eraseIdx_eq_take_drop_succ]
 conv=>rhs;rw[hsp]
 rw[List.filter_append,List.filter_cons_of_neg (by simp),List.filter_eq_self.2,List.filter_eq_self.2]
 ·intro a ha
  have:=(List.pairwise_cons.1 h4).1 a ha
  exact decide_eq_true fun e=>strLt_ne this e.symm
 ·intro a ha
  exact decide_eq_true (strLt_ne (h5 a ha x (List.mem_cons_self ..)))
theorem goneTo_s {bl L:List Blob}{s:Nat}{x:Blob}(hx:L[s]? = some x):goneTo bl L (s+1)=(goneTo bl L s).filter fun b=>decide (b.1≠x.1):=by
 unfold goneTo keepL
 rw[List.filter_filter]
 refine List.filter_congr fun b _=> ?_
 have e:digsB (L.take (s+1))=digsB (L.take s)++ [x.1]:=by unfold digsB;rw[List.take_add_one,hx,List.map_append];rfl
 have hap:hasS b.1 (digsB (L.take s)++ [x.1])=(hasS b.1 (digsB (L.take s))||decide (x.1=b.1)):=by simp [hasS]
 show(!hasS b.1 (digsB (L.take (s+1))))=(decide (b.1≠x.1)&& !hasS b.1 (digsB (L.take s)))
 rw[e,hap]
 by_cases h:b.1=x.1
 ·rw[decide_eq_true h.symm,decide_eq_false (fun h2=>h2 h)];simp
 ·rw[decide_eq_false (fun h2=>h h2.symm),decide_eq_true h];simp
theorem goneTo_rise {bl L:List Blob}{s:Nat}(h:RiseB bl):RiseB (goneTo bl L s):=keepL_rise h
theorem goneTo_len {bl L:List Blob}{s:Nat} : (goneTo bl L s).length≤bl.length:=List.length_filter_le _ _
theorem goneTo_at {bl:List Blob}{at_:Int}{s:Nat}{x:Blob}(h:RiseB bl) (hx:(leavV bl at_)[s]? = some x):x∈goneTo bl (leavV bl at_) s:=by
 unfold goneTo
 rw[mem_keepL]
 have hm:=List.mem_of_getElem? hx
 refine⟨(leav_mem.1 hm).1,?_⟩
 cases h1:hasS x.1 (digsB ((leavV bl at_).take s))
 ·rfl
 ·exfalso
  obtain⟨y,hy,he⟩:=List.mem_map.1 (hasS_iff.1 h1)
  have hyl:=List.mem_of_mem_take hy
  have hyx:y=x:=h.inj (leav_mem.1 hyl).1 (leav_mem.1 hm).1 he
  subst hyx
  obtain⟨i,hi⟩:=List.mem_iff_getElem?.1 hy
  rw[List.getElem?_take]at hi
  split at hi
  ·rename_i his
   have hnd:=leav_nodup (at_:=at_) h
   obtain⟨b1,b2⟩:=List.getElem?_eq_some_iff.1 hi
   obtain⟨c1,c2⟩:=List.getElem?_eq_some_iff.1 hx
   have:=(List.nodup_iff_pairwise_ne.1 hnd)
   exact(List.pairwise_iff_getElem.1 this i s b1 c1 his) (by rw[b2,c2])
  ·cases hi
theorem goneTo_sum {bl:List Blob}{at_:Int}{s:Nat}(h:RiseB bl):sumSz (goneTo bl (leavV bl at_) s)=sumSz bl - sumSz ((leavV bl at_).take s):=by
 have h1:=sum_split (fun b:Blob=>hasS b.1 (digsB ((leavV bl at_).take s))) bl
 have h2:=sum_perm (gone_perm h ((leav_nodup (at_:=at_) h).sublist (List.take_sublist s _)) fun b hb=>(leav_mem.1 (List.mem_of_mem_take hb)).1)
 unfold goneTo;omega
theorem goneTo_drop {bl:List Blob}{at_:Int}{s:Nat}{x:Blob}(h:RiseB bl) (hx:(leavV bl at_)[s]? = some x) :
  ∃ k,k<(goneTo bl (leavV bl at_) s).length∧firstK (fun b:Blob=>b.1) (goneTo bl (leavV bl at_) s) x.1=(k:Int)∧(goneTo bl (leavV bl at_) s).eraseIdx k=goneTo bl (leavV bl at_) (s+1):=by
 obtain⟨k,hk⟩:=List.mem_iff_getElem?.1 (goneTo_at h hx)
 have hr:=goneTo_rise (L:=leavV bl at_) (s:=s) h
 refine⟨k,(List.getElem?_eq_some_iff.1 hk).1,firstK_hit (fun m y hm hy=> ?_) hk rfl,?_⟩
 ·exact strLt_ne (hr.lt hm hy hk)
 ·rw[erase_keep hr hk,goneTo_s hx]
def stayTo (bl:List Blob) (at_:Int) (s:Nat):Int:=sumSz ((bl.take s).filter fun b=>heldB b at_)
theorem stay_s {bl:List Blob}{at_:Int}{s:Nat}{x:Blob}(hx:bl[s]? = some x):stayTo bl at_ (s+1)=stayTo bl at_ s+if heldB x at_=true then x.2.1 else 0:=by
 unfold stayTo
 rw[List.take_add_one,hx,List.filter_append,sum_append]
 cases h:heldB x at_<;>simp [h,sumSz]
theorem stay_leav {bl:List Blob}{at_:Int} : stayTo bl at_ bl.length+sumSz (leavV bl at_)=sumSz bl:=by
 have h1:=sum_split (fun b:Blob=>heldB b at_) bl
 have h2:=sum_perm (sortT_perm ltB (keepL (fun b:Blob=>heldB b at_) bl))
 unfold stayTo leavV
 rw[List.take_length,h2];omega
end Go.Proofs.YtfajjcmagngfiaaGreatDoor
