/-
  What a call leaves behind a pointer, with the cells behind forgotten; single cells of rows that are set. No statement of the seat is proved here; no conditions.
-/
import Derived.Test.YtjfchihkhpinmaaGreatDoorCap
import Derived.Test.YtjfchihkhpinmaaGreatDoorEngV
import Derived.Test.YtjfchihkhpinmaaGreatDoorRun
import Derived.Shelf.Small.Strs
namespace Go.Proofs.YtjfchihkhpinmaaGreatDoor
open Go.RowKit
set_option linter.unusedVariables false
set_option linter.unusedSimpArgs false

def RcCut:RC→RC→Prop
 | .v x,r=>r=.v x
 | .own sz n cs,r=>∃ ds t,r=.own sz n ds∧cs=ds++t∧n*sz≤ds.length
def RcsCut:List RC→List RC→Prop
 | [],l=>l = []
 | r::rs,[]=>False
 | r::rs,r'::l=>RcCut r r'∧RcsCut rs l
theorem St.cutAt {P:Program}{G:QM}{H:Heap}{Z:Nat→Prop}{w:World}(st:St P G H Z w){id v:Nat}{cs ds:List AV}(hH:H id=(v,some (.cells (cs++ds)))):St P G (upd H id (v,some (.cells cs))) Z w:=by
 refine⟨fun j=> ?_,fun j hj=> ?_,fun j o hj=> ?_,st.inj,st.disj,st.zlt,st.glt,st.ones⟩
 ·by_cases e:j=id
  ·subst e;rw[upd_same,st.ver j,hH]
  ·rw[QL (H:=H) (h:=e)];exact st.ver j
 ·by_cases e:j=id
  ·subst e;rw[upd_same]at hj;cases hj
  ·rw[QL (H:=H) (h:=e)]at hj;exact st.dead j hj
 ·by_cases e:j=id
  ·subst e
   rw[upd_same]at hj
   obtain⟨loc,h1,h2⟩:=st.obj j (.cells (cs++ds)) (by rw[hH])
   cases hj
   exact⟨loc,h1,h2.cut⟩
  ·rw[QL (H:=H) (h:=e)]at hj;exact st.obj j o hj
theorem QBW {P:Program}{G:QM}{Z:Nat→Prop}{w:World} : ∀ {pcs pcs2:List RC}{cs:List AV}{H:Heap},St P G H Z w→YD H pcs cs→RcsCut pcs pcs2→(idsC cs).Nodup→∃ H2,St P G H2 Z w∧YD H2 pcs2 cs∧∀ i,i∉idsC cs→H2 i=H i
 | [],pcs2,cs,H,st,h,hc,hnd=>by
  obtain rfl:pcs2 = []:=hc
  exact⟨H,st,h,fun _ _=>rfl⟩
 | r::rs,[],cs,H,st,h,hc,hnd=>hc.elim
 | r::rs,r'::l,[],H,st,h,hc,hnd=>h.elim
 | .v x::rs,r'::l,a::cs,H,st,h,hc,hnd=>by
  obtain⟨h1,h2⟩:=h
  obtain rfl:r'=.v x:=hc.1
  obtain rfl:a=.f x:=h1
  obtain⟨H2,s2,k1,k2⟩:=QBW st h2 hc.2 (by simpa [idsC]using hnd)
  exact⟨H2,s2,⟨rfl,k1⟩,fun i hi=>k2 i (by simpa [idsC]using hi)⟩
 | .own sz n ds0::rs,r'::l,a::cs,H,st,h,hc,hnd=>by
  obtain⟨h1,h2⟩:=h
  obtain⟨⟨ds,t,rfl,rfl,hlen⟩,hc2⟩:=hc
  rcases h1 with⟨rfl,rfl,h3⟩|⟨id,ver,rfl,h3,h4⟩
  ·obtain⟨rfl,rfl⟩:=List.append_eq_nil_iff.1 h3
   obtain⟨H2,s2,k1,k2⟩:=QBW st h2 hc2 (by simpa [idsC]using hnd)
   exact⟨H2,s2,⟨.inl ⟨rfl,rfl,rfl⟩,k1⟩,fun i hi=>k2 i (by simpa [idsC]using hi)⟩
  ·have hH:H id=(ver,some (.cells (ds.map .f++t.map .f))):=by rw[(st.cells h3).choose_spec.2.2,List.map_append]
   have hid:id∉idsC cs:=by simp only[idsC,List.nodup_cons]at hnd;exact hnd.1
   have hnd2:(idsC cs).Nodup:=by simp only[idsC,List.nodup_cons]at hnd;exact hnd.2
   obtain⟨H2,s2,k1,k2⟩:=QBW (st.cutAt hH) (ON h2 fun i hi=>QL _ _ _ _ (fun e=>hid (by rw[← e];exact hi))) hc2 hnd2
   refine⟨H2,s2,⟨.inr ⟨id,ver,rfl,?_,hlen⟩,k1⟩,fun i hi=> ?_⟩
   ·rw[k2 id hid,upd_same];simp [cellsOf]
   ·simp only[idsC,List.mem_cons,not_or]at hi
    rw[k2 i hi.2];exact QL _ _ _ _ hi.1
theorem FRetH.cut {P:Program}{f:FuncId}{a0:AV}{pcs pcs' pcs2:List RC}{ri rs:List RS}{tl:List AV}(h:FRetH P f a0 pcs ri tl pcs' rs) (hc:RcsCut pcs' pcs2):FRetH P f a0 pcs ri tl pcs2 rs:=
 ⟨h.1,fun G Z w vs h1 h2 h3=>(h.2 G Z w vs h1 h2 h3).mono fun e w' ⟨v,r,H',G',Z',e1,⟨l,cs',hr,hp,hpc,hrs,hnd,hni⟩,st,hh,hrep⟩=>by
  obtain⟨n1,n2,n3⟩:=List.nodup_append.1 hnd
  obtain⟨H2,s2,k1,k2⟩:=QBW st hpc hc n1
  exact⟨v,r,H2,G',Z',e1,⟨l,cs',hr,by rw[k2 _ (fun h=>hni (List.mem_append_left _ h))];exact hp,k1,OI hrs fun i hi=>k2 i (fun h=>n3 i h i hi rfl),hnd,hni⟩,s2,hh,hrep⟩⟩
theorem rcCut_t {sz n:Nat}{ds t:List FV}(h:n*sz≤ds.length):RcCut (.own sz n (ds++t)) (.own sz n ds):=⟨ds,t,rfl,rfl,h⟩
theorem QCW:∀ (cs:List AV) (k:Nat) (a:AV),splice cs k [a]=cs.set k a:=fun cs k a=>rfl
theorem row_set1 {α : Type}{enc : α→List FV}{sz:Nat}{l:List α}{i j:Nat}{x y : α}{v:FV}(hs:∀ x,(enc x).length=sz) (h:l[i]? = some x) (hj:j<sz) (he:enc y=(enc x).set j v):splice ((rowF enc l).map AV.f) (i*sz+j) [.f v]=(rowF enc (l.set i y)).map .f:=by
 obtain⟨h1,h2⟩:=Zz hs h
 have hlt:=(List.getElem?_eq_some_iff.1 h).1
 obtain⟨h3,-⟩:=Zz (l:=l.set i y) (i:=i) (x:=y) hs (by rw[List.getElem?_set_self hlt])
 have e1:(l.set i y).take i=l.take i:=by rw[List.take_set_of_le (Nat.le_refl _)]
 have e2:(l.set i y).drop (i+1)=l.drop (i+1):=by rw[List.drop_set_of_lt (by omega)]
 rw[e1,e2]at h3
 rw[QCW,h3,h1,he]
 have hx:j<(enc x).length:=by rw[hs];exact hj
 have:((rowF enc (l.take i)++(enc x++rowF enc (l.drop (i+1)))).map AV.f).set (i*sz+j) (.f v)=((rowF enc (l.take i)++(enc x++rowF enc (l.drop (i+1)))).set (i*sz+j) v).map AV.f:=by rw[List.map_set]
 rw[this,List.set_append_right _ _ (by omega),h2,Nat.add_sub_cancel_left,List.set_append_left _ _ hx]
theorem Jg {α : Type}{enc : α→List FV}{sz:Nat}(hs:∀ x,(enc x).length=sz):∀ (l:List α) (k:Nat),(rowF enc l).take (k*sz)=rowF enc (l.take k)
 | [],k=>by simp [rowF]
 | x::l,0=>by simp [rowF]
 | x::l,k+1=>by
  rw[List.take_succ_cons,Qr,Qr,Nat.add_mul,Nat.one_mul,Nat.add_comm,← hs x,List.take_length_add_append,hs x,Jg hs l k]
theorem Un {α : Type}{enc : α→List FV}{sz:Nat}(hs:∀ x,(enc x).length=sz):∀ (l:List α) (k:Nat),(rowF enc l).drop (k*sz)=rowF enc (l.drop k)
 | [],k=>by simp [rowF]
 | x::l,0=>by simp [rowF]
 | x::l,k+1=>by
  rw[List.drop_succ_cons,Qr,Nat.add_mul,Nat.one_mul,Nat.add_comm,← hs x,List.drop_length_add_append,hs x,Un hs l k]
theorem NE (cs:List AV) (k:Nat) (xs:List AV) (h:k+xs.length≤cs.length):splice cs k xs=cs.take k++(xs++cs.drop (k+xs.length)):=by
 have e:cs=cs.take k++((cs.drop k).take xs.length++cs.drop (k+xs.length)):=by
  rw[← List.drop_drop,List.take_append_drop,List.take_append_drop]
 have h2:(cs.take k).length=k:=by rw[List.length_take];omega
 have:=YZ xs (cs.take k) ((cs.drop k).take xs.length) (cs.drop (k+xs.length)) (by rw[List.length_take,List.length_drop];omega)
 rw[← e,h2]at this
 exact this
end Go.Proofs.YtjfchihkhpinmaaGreatDoor
namespace Go.Proofs.YtjfchihkhpinmaaGreatDoor
open Go.RowKit
set_option linter.unusedVariables false
set_option linter.unusedSimpArgs false
set_option maxRecDepth 100000

theorem row_del {α : Type}{enc : α→List FV}{sz:Nat}(hs:∀ x,(enc x).length=sz) (l:List α){i j:Nat}(hij:i≤j) (hj:j≤l.length) :
  splice ((rowF enc l).map AV.f) (i*sz) ((((rowF enc l).map AV.f).drop (j*sz)).take ((l.length - j)*sz))=(rowF enc (l.take i++l.drop j)++(rowF enc l).drop ((i+(l.length - j))*sz)).map AV.f:=by
 have h1:(((rowF enc l).map AV.f).drop (j*sz)).take ((l.length - j)*sz)=(rowF enc (l.drop j)).map AV.f:=by
  rw[← List.map_drop,Un hs,List.take_of_length_le (by rw[List.length_map,QD hs,List.length_drop];exact Nat.le_refl _)]
 rw[h1,NE _ _ _ (by rw[List.length_map,List.length_map,QD hs,QD hs,List.length_drop,← Nat.add_mul];exact Nat.mul_le_mul_right _ (by omega)),← List.map_take,Jg hs,List.length_map,QD hs,List.length_drop,← Nat.add_mul,← List.map_drop,← List.map_append,← List.map_append,Yb,List.append_assoc]
theorem row_clr {α : Type}{enc : α→List FV}{sz:Nat}(hs:∀ x,(enc x).length=sz) (M:List α) (r z:List FV) (k:Nat) (hr:r.length=k*sz) (hz:z.length=sz) :
  splice ((rowF enc M++r).map AV.f) (M.length*sz) (Qd k z)=(rowF enc M++(List.replicate k z).flatten).map AV.f:=by
 have hl:(Qd k z).length=k*sz:=by rw[Qd,List.length_map,Qn (sz:=sz) _ (fun y hy=>by rw[List.eq_of_mem_replicate hy];exact hz),List.length_replicate]
 have h2:((rowF enc M).map AV.f).length=M.length*sz:=by rw[List.length_map,QD hs]
 have:=YZ (Qd k z) ((rowF enc M).map AV.f) (r.map AV.f) [] (by rw[List.length_map,hr,hl])
 rw[List.append_nil,List.append_nil,h2]at this
 rw[List.map_append,this,List.map_append];rfl
theorem row_in1 {α : Type}{enc : α→List FV}{sz:Nat}(hs:∀ x,(enc x).length=sz) (l:List α) (b : α){i:Nat}(hi:i≤l.length) (Zs:List AV) (hz:sz≤Zs.length) :
  splice ((rowF enc (l.take i)).map AV.f++Zs) (i*sz) ((enc b).map AV.f)=(rowF enc (l.take i)++enc b).map AV.f++Zs.drop sz:=by
 have hA:((rowF enc (l.take i)).map AV.f).length=i*sz:=by rw[List.length_map,QD hs,List.length_take,Nat.min_eq_left hi]
 rw[NE _ _ _ (by rw[List.length_append,hA,List.length_map,hs];omega),List.length_map,hs,← hA,List.take_left,List.drop_length_add_append,List.map_append,List.append_assoc]
theorem row_in2 {α : Type}{enc : α→List FV}{sz:Nat}(hs:∀ x,(enc x).length=sz) (l:List α) (b : α){i:Nat}(hi:i≤l.length) (Zs:List AV) (hz:Zs.length=(l.length - i)*sz) :
  splice ((rowF enc (l.take i)++enc b).map AV.f++Zs) ((i+1)*sz) ((((rowF enc l).map AV.f).drop (i*sz)).take ((l.length - i)*sz))=(rowF enc (l.take i++b::l.drop i)).map AV.f:=by
 have hA:((rowF enc (l.take i)++enc b).map AV.f).length=(i+1)*sz:=by rw[List.length_map,List.length_append,QD hs,hs,List.length_take,Nat.min_eq_left hi,Nat.add_mul,Nat.one_mul]
 have hR:(((rowF enc l).map AV.f).drop (i*sz)).take ((l.length - i)*sz)=(rowF enc (l.drop i)).map AV.f:=by
  rw[← List.map_drop,Un hs,List.take_of_length_le (by rw[List.length_map,QD hs,List.length_drop];exact Nat.le_refl _)]
 have hl:((rowF enc (l.drop i)).map AV.f).length=(l.length - i)*sz:=by rw[List.length_map,QD hs,List.length_drop]
 rw[hR]
 have:=YZ ((rowF enc (l.drop i)).map AV.f) ((rowF enc (l.take i)++enc b).map AV.f) Zs [] (by rw[hz,hl])
 rw[List.append_nil,List.append_nil,hA]at this
 rw[this,← List.map_append,Yb,Qr,List.append_assoc]
theorem row_up {α : Type}{enc : α→List FV}{sz:Nat}(hs:∀ x,(enc x).length=sz) (l:List α){i:Nat}(hi:i≤l.length) (Y:List AV) (hY:Y.length=sz) :
  splice ((rowF enc l).map AV.f++Y) ((i+1)*sz) ((((rowF enc l).map AV.f++Y).drop (i*sz)).take ((l.length - i)*sz))=(rowF enc (l.take i)).map AV.f++(((((rowF enc l).map AV.f++Y).drop (i*sz)).take sz)++(rowF enc (l.drop i)).map AV.f):=by
 have hL:((rowF enc l).map AV.f).length=l.length*sz:=by rw[List.length_map,QD hs]
 have hle:i*sz≤l.length*sz:=Nat.mul_le_mul_right _ hi
 have hle2:(l.length - i)*sz=l.length*sz - i*sz:=Nat.sub_mul _ _ _
 have hR:((((rowF enc l).map AV.f++Y).drop (i*sz)).take ((l.length - i)*sz))=(rowF enc (l.drop i)).map AV.f:=by
  rw[List.drop_append_of_le_length (by omega),← List.map_drop,Un hs,List.take_append_of_le_length (by rw[List.length_map,QD hs,List.length_drop];exact Nat.le_refl _),List.take_of_length_le (by rw[List.length_map,QD hs,List.length_drop];exact Nat.le_refl _)]
 have hl:((rowF enc (l.drop i)).map AV.f).length=(l.length - i)*sz:=by rw[List.length_map,QD hs,List.length_drop]
 have hT:((rowF enc l).map AV.f++Y).take (i*sz)=(rowF enc (l.take i)).map AV.f:=by
  rw[List.take_append_of_le_length (by omega),← List.map_take,Jg hs]
 have hT2:((rowF enc l).map AV.f++Y).take ((i+1)*sz)=(rowF enc (l.take i)).map AV.f++(((rowF enc l).map AV.f++Y).drop (i*sz)).take sz:=by
  rw[Nat.add_mul,Nat.one_mul,List.take_add,hT]
 have hD:((rowF enc l).map AV.f++Y).drop ((i+1)*sz+(l.length - i)*sz) = []:=List.drop_of_length_le (by rw[List.length_append,hL,hY,Nat.add_mul];omega)
 rw[hR,NE _ _ _ (by rw[hl,List.length_append,hL,hY,Nat.add_mul];omega),hT2,hl,hD,List.append_nil,List.append_assoc]
theorem row_in3 {α : Type}{enc : α→List FV}{sz:Nat}(hs:∀ x,(enc x).length=sz) (l:List α) (b : α){i:Nat}(hi:i≤l.length) (X:List AV) (hX:X.length=sz) :
  splice ((rowF enc (l.take i)).map AV.f++(X++(rowF enc (l.drop i)).map AV.f)) (i*sz) ((enc b).map AV.f)=(rowF enc (l.take i++b::l.drop i)).map AV.f:=by
 have hA:((rowF enc (l.take i)).map AV.f).length=i*sz:=by rw[List.length_map,QD hs,List.length_take,Nat.min_eq_left hi]
 have:=YZ ((enc b).map AV.f) ((rowF enc (l.take i)).map AV.f) X ((rowF enc (l.drop i)).map AV.f) (by rw[List.length_map,hs,hX])
 rw[hA]at this
 rw[this,← List.map_append,← List.map_append,Yb,Qr]
theorem slOf_ifz {p:Prop} [Decidable p] {id ver sz off n c:Nat}(h : ¬ p→n=0):SlOf (if p then .slc id ver sz off n c else .sl id ver sz off 0) id ver sz off n:=by
 split
 ·exact .inr ⟨_,rfl⟩
 ·rename_i hp;rw[h hp];exact .inl rfl
def OvOk (P:Program) (fid:FuncId):Prop:=∃ fn tS tR e sz,P.funcs[fid]? = some fn∧(fn.name == "runtime.NumGoroutine")=false∧fn.body.isNone=true∧Extern.findNext fn=none∧Extern.find fn=some (Extern.SlicesOverlaps.overlaps #[tS,tS] #[tR])∧P.underlying tS=some (.slice e)∧sizeOf? P e=some sz
end Go.Proofs.YtjfchihkhpinmaaGreatDoor
namespace Go.Proofs.YtjfchihkhpinmaaGreatDoor
open Go.RowKit
open Go.RowKit Go.Shelf
set_option linter.unusedVariables false
set_option linter.unusedSimpArgs false

def hasS (s:ByteArray) (l:List ByteArray):Bool:=l.any fun d=>decide (d=s)
def setL (l:List ByteArray):List (ByteArray × Value):=l.foldl (fun m d=>mSet d (.bool true) m) []
theorem setL_snoc (l:List ByteArray) (d:ByteArray):mSet d (.bool true) (setL l)=setL (l++ [d]):=by rw[setL,setL,List.foldl_append];rfl
theorem QA5 (d:ByteArray) (x:Value) (s:ByteArray):∀ m:List (ByteArray × Value),mGet s (mSet d x m)=if d=s then some x else mGet s m
 | []=>by simp [mSet,mGet]
 | (k,v)::m=>by
  by_cases h:k=d
  ·subst h
   simp only[mSet,if_true,mGet]
   split<;>rename_i h<;>simp [h]
  ·simp only[mSet,if_neg h,mGet,QA5 d x s m]
   by_cases h1:k=s
   ·subst h1;rw[if_pos rfl,if_neg (Ne.symm h),if_pos rfl]
   ·rw[if_neg h1,if_neg h1]
theorem QA3 (s:ByteArray) (l:List ByteArray):mGet s (setL l)=if hasS s l=true then some (.bool true)else none:=by
 have key:∀ (l:List ByteArray) (m:List (ByteArray × Value)),mGet s (l.foldl (fun m d=>mSet d (.bool true) m) m)=if hasS s l=true then some (Value.bool true)else mGet s m:=by
  intro l
  induction l with
  | nil=>intro m;simp [hasS]
  | cons d l ih=>
   intro m
   rw[List.foldl_cons,ih,QA5]
   have e:hasS s (d::l)=(decide (d=s)||hasS s l):=rfl
   rw[e]
   cases h1:hasS s l<;>by_cases h2:d=s<;>simp [h2]
 rw[setL,key];rfl
theorem mGet_t {s:ByteArray}{l:List ByteArray}(h:hasS s l=true):mGet s (setL l)=some (.bool true):=by rw[QA3,h];rfl
theorem mGet_f {s:ByteArray}{l:List ByteArray}(h:hasS s l=false):mGet s (setL l)=none:=by rw[QA3,h];rfl
theorem hasS_iff {s:ByteArray}{l:List ByteArray} : hasS s l=true↔s∈l:=by
 unfold hasS
 rw[List.any_eq_true]
 constructor
 ·rintro⟨x,h1,h2⟩;exact of_decide_eq_true h2▸h1
 ·intro h;exact⟨s,h,by simp⟩
abbrev bs (l:List UInt8):ByteArray:=⟨l.toArray⟩
theorem KR {a b:List UInt8}(h:bs a=bs b):a=b:=by
 have:=congrArg (fun x:ByteArray=>x.data.toList) h
 simpa using this
section
variable {α : Type}{p : α→Bool}{l m:List α}{i j:Nat}{x : α}
def ixV (p : α→Bool):List α→Int
 | []=> -1
 | x::l=>if p x=true then 0 else if ixV p l = -1 then -1 else ixV p l+1
theorem ix_none:∀ {l:List α},(∀ k x,k<l.length→l[k]? = some x→p x=false)→ixV p l = -1
 | [],_=>rfl
 | x::l,h=>by
  have h1:=h 0 x (by simp) rfl
  have h2:=ix_none (l:=l) fun k y hk hy=>h (k+1) y (by simpa using hk) (by simpa using hy)
  simp [ixV,h1,h2]
theorem ix_hit:∀ {l:List α}{i:Nat}{x : α},(∀ k x,k<i→l[k]? = some x→p x=false)→l[i]? = some x→p x=true→ixV p l=i
 | [],i,x,_,h,_=>by simp at h
 | y::l,0,x,h,hx,hp=>by
  simp at hx;subst hx;simp [ixV,hp]
 | y::l,i+1,x,h,hx,hp=>by
  have h1:=h 0 y (by omega) rfl
  have h2:=ix_hit (l:=l) (i:=i) (fun k z hk hz=>h (k+1) z (by omega) (by simpa using hz)) (by simpa using hx) hp
  simp only[ixV,h1,h2]
  rw[if_neg (by simp),if_neg (by omega)];omega
theorem ix_ge (p : α→Bool):∀ l:List α,-1≤ixV p l
 | []=>by simp [ixV]
 | x::l=>by
  have:=ix_ge p l
  unfold ixV;split
  ·omega
  ·split<;>omega
theorem ix_any (p : α→Bool):∀ l:List α,decide (0≤ixV p l)=l.any p
 | []=>by simp [ixV]
 | x::l=>by
  have h1:=ix_any p l
  have h2:=ix_ge p l
  rw[List.any_cons,← h1]
  rw[ixV]
  cases hx:p x
  ·rw[if_neg (by decide)]
   split
   ·rename_i h3;rw[h3];rfl
   ·rename_i h3;simp only[Bool.false_or];rw[decide_eq_decide];omega
  ·rw[if_pos rfl];rfl
end
def leS (a b:ByteArray):Bool:=strLt a b||decide (a=b)
def cmpB (a b:ByteArray):Int:=Lib.compareBytes a.data.toList b.data.toList
def YJ {α : Type}(cf : α→Int) (l:List α):Nat:=l.countP fun x=>decide (cf x<0)
def Jz {α : Type}(cf : α→Int) (l:List α):Bool:=match l[YJ cf l]? with
 | some x=>decide (cf x=0)
 | none=>false
theorem WW {α : Type}{cf : α→Int}{l:List α}{i:Nat}(hi:i≤l.length) (h1:∀ (m:Nat) x,m<i→l[m]? = some x→cf x<0) (h2:∀ (m:Nat) x,i≤m→l[m]? = some x→¬ cf x<0):YJ cf l=i:=by
 unfold YJ
 have e:l=l.take i++l.drop i:=(List.take_append_drop i l).symm
 rw[e,List.countP_append,List.countP_eq_length.2,List.countP_eq_zero.2]
 ·rw[List.length_take];omega
 ·intro x hx
  obtain⟨m,hm⟩:=List.mem_iff_getElem?.1 hx
  rw[List.getElem?_drop]at hm
  simpa using h2 _ x (by omega) hm
 ·intro x hx
  obtain⟨m,hm⟩:=List.mem_iff_getElem?.1 hx
  have hlt:m<i:=by have:=(List.getElem?_eq_some_iff.1 hm).1;rw[List.length_take]at this;omega
  rw[List.getElem?_take_of_lt hlt]at hm
  simpa using h1 m x hlt hm
theorem Xk:∀ a:List UInt8,Op.bytesLess a a=false
 | []=>rfl
 | a::l=>by simp [Op.bytesLess,Xk l]
theorem Zi:∀ {a b c:List UInt8},Op.bytesLess a b=true→Op.bytesLess b c=true→Op.bytesLess a c=true
 | _,[],c,h,_=>by cases ‹List UInt8›<;>simp [Op.bytesLess]at h
 | _,_::_,[],_,h=>by simp [Op.bytesLess]at h
 | [],_::_,_::_,_,_=>rfl
 | a::x,b::y,c::z,h1,h2=>by
  simp only[Op.bytesLess,Bool.or_eq_true,decide_eq_true_eq,Bool.and_eq_true,beq_iff_eq]at h1 h2 ⊢
  rcases h1 with h1|⟨rfl,h1⟩<;>rcases h2 with h2|⟨rfl,h2⟩
  ·exact .inl (UInt8.lt_trans h1 h2)
  ·exact .inl h1
  ·exact .inl h2
  ·exact .inr ⟨rfl,Zi h1 h2⟩
theorem WX:∀ {a b:List UInt8},Op.bytesLess a b=false→a=b∨Op.bytesLess b a=true
 | [],[],_=> .inl rfl
 | [],_::_,h=>by simp [Op.bytesLess]at h
 | _::_,[],_=> .inr rfl
 | a::x,b::y,h=>by
  simp only[Op.bytesLess,Bool.or_eq_false_iff,decide_eq_false_iff_not,Bool.and_eq_false_iff,beq_eq_false_iff_ne]at h
  simp only[Op.bytesLess,Bool.or_eq_true,decide_eq_true_eq,Bool.and_eq_true,beq_iff_eq]
  by_cases e:a=b
  ·subst e
   rcases h.2 with h|h
   ·exact absurd rfl h
   ·rcases WX h with h|h
    ·exact .inl (by rw[h])
    ·exact .inr (.inr ⟨rfl,h⟩)
  ·refine .inr (.inl ?_)
   have h1:=h.1
   rw[UInt8.lt_iff_toNat_lt]at h1 ⊢
   have:a.toNat≠b.toNat:=fun h=>e (UInt8.toNat_inj.1 h)
   omega
theorem QCD:∀ a b:List UInt8,(Lib.compareBytes a b<0↔Op.bytesLess a b=true)∧(Lib.compareBytes a b=0↔a=b)
 | [],[]=>by simp [Lib.compareBytes,Op.bytesLess]
 | [],_::_=>by simp [Lib.compareBytes,Op.bytesLess]
 | _::_,[]=>by simp [Lib.compareBytes,Op.bytesLess]
 | a::x,b::y=>by
  obtain⟨h1,h2⟩:=QCD x y
  simp only[Lib.compareBytes,Op.bytesLess,Bool.or_eq_true,decide_eq_true_eq,Bool.and_eq_true,beq_iff_eq]
  by_cases e:a<b
  ·have hne:a≠b:=fun h=>by subst h;exact absurd e (UInt8.lt_irrefl _)
   simp [e,hne]
  ·by_cases e2:b<a
   ·have hne:a≠b:=fun h=>by subst h;exact absurd e2 (UInt8.lt_irrefl _)
    simp [e,e2,hne]
   ·have he:a=b:=by
     rw[UInt8.lt_iff_toNat_lt]at e e2
     exact UInt8.toNat_inj.1 (by omega)
    subst he
    simp [e,h1,h2]
theorem My {a b:ByteArray} : a.data.toList=b.data.toList↔a=b:=⟨fun h=>ByteArray.ext (Array.toList_inj.1 h),fun h=>by rw[h]⟩
theorem Vj (a b:ByteArray):strLt a b=Op.bytesLess a.data.toList b.data.toList:=by rw[strLt,ByteArray.toList_eq,ByteArray.toList_eq]
theorem Zg {a b:ByteArray} : cmpB a b<0↔strLt a b=true:=by rw[Vj];exact(QCD _ _).1
theorem QB8 {a b:ByteArray} : cmpB a b=0↔a=b:=by rw[← My];exact(QCD _ _).2
theorem XS {a b c:ByteArray}(h1:strLt a b=true) (h2:strLt b c=true):strLt a c=true:=by
 rw[Vj]at *;exact Zi h1 h2
theorem Qv (a:ByteArray):strLt a a=false:=by rw[Vj];exact Xk _
theorem ZN {a b:ByteArray}(h:strLt a b=false):a=b∨strLt b a=true:=by
 rw[Vj]at*
 exact(WX h).imp (fun h=>My.1 h) (fun h=>h)
theorem QBB {a b:ByteArray}(h:leS a b=false):strLt b a=true:=by
 simp only[leS,Bool.or_eq_false_iff,decide_eq_false_iff_not]at h
 exact(ZN h.1).resolve_left h.2
theorem QCS {a b:ByteArray}(h:strLt a b=true):a≠b:=fun e=>by subst e;rw[Qv]at h;cases h
theorem ND {a b:ByteArray}(h:strLt a b=true):strLt b a=false:=by
 cases h2:strLt b a
 ·rfl
 ·have:=XS h h2;rw[Qv]at this;cases this

def QZ {α : Type}(key : α→ByteArray) (l:List α):Prop:=∀ (i j:Nat) x y,i<j→l[i]? = some x→l[j]? = some y→strLt (key x) (key y)=true
theorem QAh {α : Type}{key : α→ByteArray}{l:List α}(h:∀ (i:Nat) x y,l[i]? = some x→l[i+1]? = some y→strLt (key x) (key y)=true):QZ key l:=by
 intro i j
 induction j with
 | zero=>intro x y h1;omega
 | succ j ih=>
  intro x y hij hx hy
  have hj:=(List.getElem?_eq_some_iff.1 hy).1
  rcases Nat.lt_succ_iff_lt_or_eq.1 hij with h1|rfl
  ·obtain⟨z,hz⟩:=QH (l:=l) (i:=j) (by omega)
   exact XS (ih x z h1 hx hz) (h j z y hz hy)
  ·exact h i x y hx hy
theorem MX {α : Type}{l:List α}{i:Nat}{x : α}{k:Int}{p : α→Bool}(hx:l[i]? = some x) (hk:k≠0) (h:Zt l (i+1) (fun e=>if p e=true then k else 0)=0):p x=false:=by
 rw[Zt,if_neg (by omega),Nat.add_sub_cancel,hx]at h
 cases hp:p x
 ·rfl
 ·simp only[hp,if_true]at h;exact absurd h hk
theorem UV {α : Type}{key : α→ByteArray}{l:List α}(h:QZ key l) (t:ByteArray) (i j:Nat) (x y : α) (hij:i≤j) (hx:l[i]? = some x) (hy:l[j]? = some y) (hc:cmpB (key y) t<0):cmpB (key x) t<0:=by
 rcases Nat.eq_or_lt_of_le hij with rfl|hlt
 ·rw[hx]at hy;obtain rfl:=Option.some.inj hy;exact hc
 ·rw[Zg]at*
  exact XS (h i j x y hlt hx hy) hc
def hasK {α : Type}(key : α→ByteArray) (l:List α) (t:ByteArray):Bool:=l.any fun x=>decide (key x=t)
theorem bs_lt {α : Type}{cf : α→Int}{l:List α}(hm:∀ (i j:Nat) x y,i≤j→l[i]? = some x→l[j]? = some y→cf y<0→cf x<0) :
  YJ cf l≤l.length∧(∀ (m:Nat) x,m<YJ cf l→l[m]? = some x→cf x<0)∧(∀ (m:Nat) x,YJ cf l≤m→l[m]? = some x→¬ cf x<0):=by
 suffices h:∃ i,i≤l.length∧(∀ (m:Nat) x,m<i→l[m]? = some x→cf x<0)∧(∀ (m:Nat) x,i≤m→l[m]? = some x→¬ cf x<0) by
  obtain⟨i,h1,h2,h3⟩:=h
  rw[WW h1 h2 h3];exact⟨h1,h2,h3⟩
 induction l with
 | nil=>exact⟨0,Nat.le_refl _,fun m x h=>absurd h (by omega),fun m x _ h=>by simp at h⟩
 | cons a l ih=>
  by_cases ha:cf a<0
  ·obtain⟨i,h1,h2,h3⟩:=ih fun i j x y hij hx hy=>hm (i+1) (j+1) x y (by omega) (by simpa using hx) (by simpa using hy)
   refine⟨i+1,by simpa using h1,fun m x hlt hx=> ?_,fun m x hge hx=> ?_⟩
   ·cases m with
    | zero=>simp at hx;subst hx;exact ha
    | succ m=>exact h2 m x (by omega) (by simpa using hx)
   ·cases m with
    | zero=>omega
    | succ m=>exact h3 m x (by omega) (by simpa using hx)
  ·exact⟨0,Nat.zero_le _,fun m x h=>absurd h (by omega),fun m x _ hx hc=>ha (hm 0 m a x (Nat.zero_le _) rfl hx hc)⟩
theorem Kw {α : Type}{key : α→ByteArray}{l:List α}(h:QZ key l) (t:ByteArray):Jz (fun x=>cmpB (key x) t) l=hasK key l t:=by
 obtain⟨h1,h2,h3⟩:=bs_lt (cf:=fun x=>cmpB (key x) t) (UV h t)
 rw[Jz]
 cases hx:l[YJ (fun x=>cmpB (key x) t) l]? with
 | none=>
  simp only
  symm
  rw[hasK,List.any_eq_false]
  intro y hy
  obtain⟨m,hm⟩:=List.mem_iff_getElem?.1 hy
  have hlt:=(List.getElem?_eq_some_iff.1 hm).1
  rw[List.getElem?_eq_none_iff]at hx
  have:=QCS (Zg.1 (h2 m y (by omega) hm))
  simpa using this
 | some x=>
  simp only
  by_cases he:key x=t
  ·rw[show decide (cmpB (key x) t=0)=true by rw[decide_eq_true_eq,QB8];exact he]
   symm;rw[hasK,List.any_eq_true]
   exact⟨x,List.mem_of_getElem? hx,by simpa using he⟩
  ·rw[show decide (cmpB (key x) t=0)=false by rw[decide_eq_false_iff_not,QB8];exact he]
   symm;rw[hasK,List.any_eq_false]
   intro y hy hk
   obtain⟨m,hm⟩:=List.mem_iff_getElem?.1 hy
   have hk:key y=t:=by simpa using hk
   rcases Nat.lt_trichotomy m (YJ (fun x=>cmpB (key x) t) l)with h4|h4|h4
   ·exact QCS (Zg.1 (h2 m y h4 hm)) hk
   ·rw[h4,hx]at hm;obtain rfl:=Option.some.inj hm;exact he hk
   ·have h5:=h _ _ _ _ h4 hx hm
    rw[hk]at h5
    exact h3 _ x (Nat.le_refl _) hx (Zg.2 h5)
end Go.Proofs.YtjfchihkhpinmaaGreatDoor
