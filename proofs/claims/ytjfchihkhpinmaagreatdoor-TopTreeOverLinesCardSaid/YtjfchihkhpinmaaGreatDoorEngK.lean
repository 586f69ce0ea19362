/-
  The abstract machine: code, by abstract states (Ax: from this state on, the function ends as asked). No statement of the seat is proved here; no conditions.
-/
import Derived.Test.YtjfchihkhpinmaaGreatDoorEngG2
import Derived.Deep.Quiet
namespace Go.Proofs.YtjfchihkhpinmaaGreatDoor
open Go.RowKit
set_option linter.unusedVariables false
set_option linter.unusedSimpArgs false

theorem QBJ (off:Nat):∀ (vs:List Value) (k:Nat) (arr:Array Value),off+k+vs.length≤arr.size→
  ((vs.zipIdx k).foldl (fun cs (p:Value × Nat)=>cs.setIfInBounds (off+p.2) p.1) arr).size=arr.size∧
  ∀ i,((vs.zipIdx k).foldl (fun cs (p:Value × Nat)=>cs.setIfInBounds (off+p.2) p.1) arr)[i]? = if off+k≤i∧i<off+k+vs.length then vs[i - (off+k)]? else arr[i]?
 | [],k,arr,_=>⟨rfl,fun i=>by rw[if_neg (by simp only[List.length_nil];omega)];rfl⟩
 | v::vs,k,arr,h=>by
  simp only[List.length_cons]at h
  obtain⟨h1,h2⟩:=QBJ off vs (k+1) (arr.setIfInBounds (off+k) v) (by simp;omega)
  simp only[List.zipIdx_cons,List.foldl_cons]
  refine⟨by rw[h1];simp,fun i=> ?_⟩
  rw[h2 i]
  simp only[List.length_cons]
  by_cases hi:off+(k+1)≤i∧i<off+(k+1)+vs.length
  ·rw[if_pos hi,if_pos (by omega),show i - (off+k)=(i - (off+(k+1)))+1 by omega];rfl
  ·rw[if_neg hi]
   by_cases he:i=off+k
   ·subst he
    rw[if_pos (by omega),Array.getElem?_setIfInBounds,if_pos rfl,if_pos (by omega),Nat.sub_self];rfl
   ·rw[if_neg (by omega),Array.getElem?_setIfInBounds_ne (by omega)]

section
variable {P:Program}{G:QM}{H:Heap}{Z:Nat→Prop}{w:World}{ρ : Operand→AV}{ρc:Operand→Value}{t:Nat}{o:Oper}{v:AV}{H':Heap}

theorem Wc:∀ (xs:List AV) (off:Nat) (cs:List AV),off+xs.length≤cs.length→(splice cs off xs).length=cs.length∧∀ i,(splice cs off xs)[i]? = if off≤i∧i<off+xs.length then xs[i - off]? else cs[i]?
 | [],off,cs,h=>⟨rfl,fun i=>by rw[if_neg (by simp only[List.length_nil];omega)];rfl⟩
 | x::xs,off,cs,h=>by
  simp only[List.length_cons]at h
  obtain⟨h1,h2⟩:=Wc xs (off+1) (cs.set off x) (by simp;omega)
  refine⟨by rw[splice,h1];simp,fun i=> ?_⟩
  rw[splice,h2 i]
  simp only[List.length_cons]
  by_cases hi:off+1≤i∧i<off+1+xs.length
  ·rw[if_pos hi,if_pos (by omega),show i - off=(i - (off+1))+1 by omega];rfl
  ·rw[if_neg hi]
   by_cases he:i=off
   ·subst he
    rw[if_pos (by omega),Nat.sub_self,List.getElem?_set_self (by omega)];rfl
   ·rw[if_neg (by omega),List.getElem?_set_ne (by omega)]

theorem QB4 (hρ : ∀ x,RepA G Z w (ρ x) (ρc x)) (place:Nat→Option (Nat × Nat)) (off size:Nat→Nat):∀ (parts:List (Nat × Operand)),(∀ p∈parts,place p.1=some (off p.1,size p.1))→∀ (cs cs':List AV) (arr:Array Value),Arr (RepA G Z w) arr cs→
  fillA cs (parts.map fun p=>(off p.1,size p.1,ρ p.2))=some cs'→∃ arr',Instr.fill place arr (parts.map fun p=>(p.1,ρc p.2))=some arr'∧Arr (RepA G Z w) arr' cs'
 | [],_,cs,cs',arr,ha,h=>by
  simp only[List.map_nil,fillA,Option.some.injEq]at h
  subst h
  exact⟨arr,rfl,ha⟩
 | p::parts,hp,cs,cs',arr,ha,h=>by
  simp only[List.map_cons,fillA]at h
  split at h
  case h_2=>cases h
  rename_i xs hxs
  split at h
  case isFalse=>cases h
  rename_i hle
  obtain⟨h1,h2,h3⟩:=(hρ p.2).cellsN_ hxs
  have hsz:arr.size=cs.length:=ha.1
  have hf:=QBJ (off p.1) (ρc p.2).cells.toList 0 arr (by rw[Array.length_toList];omega)
  simp only[List.map_cons,Instr.fill,hp p (by simp)]
  rw[if_neg (by simp;omega)]
  have e1:(Array.foldl (fun cs x=>cs.setIfInBounds (off p.1+x.2) x.1) arr (ρc p.2).cells.zipIdx)=((ρc p.2).cells.toList.zipIdx 0).foldl (fun cs (q:Value × Nat)=>cs.setIfInBounds (off p.1+q.2) q.1) arr:=by
   rw[← Array.foldl_toList,Array.toList_zipIdx]
  rw[e1]
  obtain⟨g1,g2⟩:=Wc xs (off p.1) cs (by omega)
  refine QB4 hρ place off size parts (fun q hq=>hp q (by simp [hq])) _ cs' _ ⟨by rw[hf.1,hsz,g1],fun j a hj=> ?_⟩ h
  rw[g2 j]at hj
  rw[Nat.zero_add,hf.2 j]
  simp only[Nat.add_zero,Array.length_toList]
  by_cases hi:off p.1≤j∧j<off p.1+xs.length
  ·rw[if_pos hi]at hj
   rw[if_pos (by omega)]
   obtain⟨u,h4,h5,h6⟩:=h3 _ a hj
   exact⟨u,by rw[Array.getElem?_toList];exact h4,h5,h6⟩
  ·rw[if_neg hi]at hj
   rw[if_neg (by omega)]
   obtain⟨u,h4,h5,h6⟩:=ha.2 j a hj
   exact⟨u,by rw[Nat.zero_add]at h4;exact h4,h5,h6⟩

theorem UR {fs:Array Field} : ∀ {parts:List (Nat × Operand)}{l:List (Nat × Nat × Operand)},partsOf? P fs parts=some l→
  l=parts.map (fun p=>(((fs[p.1]?).map (·.offset)).getD 0,((fs[p.1]?).bind fun f=>sizeOf? P f.type).getD 0,p.2))∧∀ p∈parts,∃ f s,fs[p.1]? = some f∧sizeOf? P f.type=some s
 | [],l,h=>by simp only[partsOf?,Option.some.injEq]at h;subst h;simp
 | (i,x)::r,l,h=>by
  simp only[partsOf?]at h
  split at h
  case h_2=>cases h
  rename_i f hf
  split at h
  case h_2=>cases h
  rename_i s l' hs hl
  obtain rfl:=Option.some.inj h
  obtain⟨h1,h2⟩:=UR hl
  refine⟨by rw[List.map_cons,← h1];simp [hf,hs],fun p hp=> ?_⟩
  rcases List.mem_cons.1 hp with rfl|hp
  ·exact⟨f,s,hf,hs⟩
  ·exact h2 p hp
theorem QBz (fs:List Field) (h:fs.all (fun f=>(sizeOf? P f.type).isSome)=true):fs.mapM (fun f=>(P.info? f.type).map fun i=>(f.offset,i.size))=some (fs.map fun f=>(f.offset,(sizeOf? P f.type).getD 0)):=by
 induction fs with
 | nil=>rfl
 | cons f r ih=>
  simp only[List.all_cons,Bool.and_eq_true]at h
  obtain⟨s,hs⟩:=Option.isSome_iff_exists.1 h.1
  unfold sizeOf? at hs
  cases hi:P.info? f.type with
  | none=>rw[hi]at hs;cases hs
  | some i=>simp [List.mapM_cons,hi,ih h.2,sizeOf?]
theorem ok_build (st:St P G H Z w) (hρ : ∀ x,RepA G Z w (ρ x) (ρc x)) (ty:TypeId) (fs:Array Field) (z:List FV) (parts:Array (Nat × Operand)) (l:List (Nat × Nat × Operand)) (hu:P.underlying ty=some (.struct fs)) (hz:Ql P ty=some z) (hall:fs.toList.all (fun f=>(sizeOf? P f.type).isSome)=true) (hl:partsOf? P fs parts.toList=some l)
  (hx:(eff (.build z l) ρ t).exec H=some (v,H')) (ho:o.op=.build ty parts):OpOk P (execOp ρc o) G H Z w v H':=by
 obtain⟨i,zv,hi,hzv,hone,hzs,rfl⟩:=Ve hz
 obtain⟨h1,h2⟩:=UR hl
 simp only[eff]at hx
 split at hx
 case h_2=>cases hx
 rename_i cs hf
 obtain⟨rfl,rfl⟩:=QN hx
 rw[h1]at hf
 have hf':fillA ((zv.cells.toList.map FV.ofValue).map .f) (parts.toList.map fun p=>(((fs[p.1]?).map (·.offset)).getD 0,((fs[p.1]?).bind fun f=>sizeOf? P f.type).getD 0,ρ p.2))=some cs:=by
  rw[← hf,List.map_map (l:=parts.toList)];rfl
 let pl:Nat→Option (Nat × Nat):=fun k=>(fs.toList.map fun f=>(f.offset,(sizeOf? P f.type).getD 0)).toArray[k]?
 obtain⟨arr,h3,h4⟩:=QB4 hρ pl (fun k=>((fs[k]?).map (·.offset)).getD 0) (fun k=>((fs[k]?).bind fun f=>sizeOf? P f.type).getD 0) parts.toList (fun p hp=>by
  obtain⟨f,s,h5,h6⟩:=h2 p hp
  simp [pl,h5,h6]) _ cs zv.cells (arr_zero hone) hf'
 have hb:P.built ty ((parts.map fun (i,x)=>(i,ρc x))).toList=some arr:=by
  unfold Program.built
  simp only[hi,hu,hzv]
  rw[QBz fs.toList hall]
  simp only[Array.toList_map]
  exact h3
 refine OpOk.pure st (u:= .agg arr) ?_ (.agg _ _ h4.1 (fun j u hj=> ?_) fun j a u ha hj=> ?_)
 ·simp [execOp,ho,run_build w ty _ arr hb]
 ·have hlt:=(Array.getElem?_eq_some_iff.1 hj).1
  obtain⟨u',h5,h6,_⟩:=h4.2 j _ (List.getElem?_eq_getElem (by rw[← h4.1];exact hlt))
  rw[Nat.zero_add,hj]at h5
  obtain rfl:=Option.some.inj h5
  exact h6
 ·obtain⟨u',h5,_,h6⟩:=h4.2 j a ha
  rw[Nat.zero_add,hj]at h5
  obtain rfl:=Option.some.inj h5
  exact h6

theorem NH (ty e:TypeId) (pv:Array (Nat × Value)) (cells:Array Value) (i:TypeInfo) (hu:P.underlying ty=some (.slice e)) (hi:P.info? e=some i) (h:Instr.fill (fun k=>some (k*i.size,i.size)) #[] pv.toList=some cells) :
  (Instr.buildSlice ty 0 pv).run P w=.ok (.slice (some ⟨w.heap.size,0,none⟩) 0 0) (w.alloc (.cells cells e)):=by
 have e0:(Array.map (fun _=>(default:Value)) (Array.range 0)) = #[]:=by simp [Array.range]
 simp [Instr.buildSlice,run_underlying hu,sizeOf,typeInfo,hi,newRow,e0,h]
theorem OW (st:St P G H Z w) (hρ : ∀ x,RepA G Z w (ρ x) (ρc x)) (ty e:TypeId) (sz len:Nat) (z:List FV) (parts:Array (Nat × Operand)) (he:elemOf? P ty=some e) (hz:Ql P e=some z) (hs:sizeOf? P e=some sz) (hpos:sz≠0) (hsm:len*sz≤16777216)
  (hx:(eff (.buildSlice e sz len z parts.toList) ρ t).exec H=some (v,H')) (ho:o.op=.buildSlice ty len parts):OpOk P (execOp ρc o) G H Z w v H':=by
 obtain⟨i,zv,hi,hzv,hone,hzs,rfl⟩:=Ve hz
 have hsz:i.size=sz:=by unfold sizeOf? at hs;rw[hi]at hs;simpa using hs
 simp only[eff]at hx
 split at hx
 case h_2=>cases hx
 rename_i cs hf
 obtain⟨ver,hd,rfl,rfl⟩:=Zb hx
 obtain⟨arr,h3,h4⟩:=QB4 hρ (fun k=>some (k*sz,sz)) (fun k=>k*sz) (fun _=>sz) parts.toList (fun p hp=>rfl) _ cs _ (ME (n:=len) (sz:=sz) hone (by omega)) hf
 have hrun:(execOp ρc o).run P w=.ok (.value (.slice (some ⟨w.heap.size,0,none⟩) len len)) (w.alloc (.cells arr e)):=by
  rcases Nat.eq_zero_or_pos (len*sz)with h0|h0
  ·have hl0:len=0:=by rcases Nat.mul_eq_zero.1 h0 with h|h<;>omega
   subst hl0
   have h3':Instr.fill (fun k=>some (k*sz,sz)) (madeCells zv.cells (0*sz)) (parts.toList.map fun p=>(p.1,ρc p.2))=some arr:=h3
   have e0:madeCells zv.cells (0*sz) = #[]:=by simp [madeCells]
   rw[e0]at h3'
   have:=NH (P:=P) (w:=w) ty e (parts.map fun (i,x)=>(i,ρc x)) arr i (Qy he) hi (by rw[hsz,Array.toList_map];exact h3')
   simp [execOp,ho,this]
  ·have:=run_buildSlice (P:=P) w ty e len (parts.map fun (i,x)=>(i,ρc x)) arr i zv (Qy he) hi hzv (by rw[hsz];omega) (by rw[hsz];omega) (by
    rw[hsz,Array.toList_map];exact h3)
   simp [execOp,ho,this]
 obtain⟨s1,s2⟩:=st.new hd (e:=e) h4.2 (fun i v hv=>by
  have hlt:=(Array.getElem?_eq_some_iff.1 hv).1
  obtain⟨u,g1,g2,_⟩:=h4.2 i _ (List.getElem?_eq_getElem (by rw[← h4.1];exact hlt))
  rw[Nat.zero_add,hv]at g1;obtain rfl:=Option.some.inj g1;exact g2)
 refine⟨_,Z,_,_,.inl hrun,s1,s2,?_⟩
 have hcsl:cs.length=len*sz:=by
  have:∀ (l:List (Nat × Nat × AV)) (c c':List AV),fillA c l=some c'→c'.length=c.length:=by
   intro l
   induction l with
   | nil=>intro c c' h;simp only[fillA,Option.some.injEq]at h;rw[h]
   | cons p r ih=>
    intro c c' h
    obtain⟨off,size,a⟩:=p
    simp only[fillA]at h
    split at h
    case h_2=>cases h
    rename_i xs hxs
    split at h
    case isFalse=>cases h
    rename_i hle
    rw[ih _ _ h]
    have hxl:xs.length=size:=by
     unfold AV.cellsN at hxs
     split at hxs
     ·split at hxs
      ·obtain rfl:=Option.some.inj hxs;assumption
      ·cases hxs
     ·split at hxs
      ·rename_i hc;obtain rfl:=Option.some.inj hxs;simp [hc.1]
      ·cases hxs
    exact(Wc xs off c (by omega)).1
  rw[this _ _ _ hf,Qd,List.length_map,Qn (sz:=sz) _ (fun y hy=>by rw[List.eq_of_mem_replicate hy,List.length_map,Array.length_toList];omega),List.length_replicate]
 have:=RepA.slLive (G:=upd G t (ver+1,some (some (w.heap.size,0)))) (Z:=Z) (w:=w.alloc (.cells arr e)) t (ver+1) sz 0 len w.heap.size 0 len (by simp) (Nat.le_refl _)
  (by unfold maxLen;have:len*1≤len*sz:=Nat.mul_le_mul_left _ (by omega);omega) ⟨arr,e,(0,0),heap_alloc_new w _,by rw[h4.1,hcsl];simp⟩
 simpa using this

theorem run_min2 (k:IntKind) (x y:Int) (ts:Array TypeId) (ty:TypeId) (hk:k=k):Sem.run P (Builtin.min_ ts ty #[.int k x,.int k y]) w=.ok (.int k (min x y)) w:=by
 simp only[Builtin.min_,List.foldlM,Builtin.min2,Sem.run_pure,Sem.run_bind,Result.andThen_ok,pure_bind]
 congr 2
 simp only[Int.min_def];split<;>split<;>omega
theorem ok_maxI (st:St P G H Z w) (hρ : ∀ x,RepA G Z w (ρ x) (ρc x)) (x y:Operand) (hx:(eff (.maxI x y) ρ t).exec H=some (v,H')) (c:Call) (ho:o.op=.call c) (hc:c.callee=.builtin .max) (hargs:c.args = #[x,y]):OpOk P (execOp ρc o) G H Z w v H':=by
 have ha:=hρ x
 have hb:=hρ y
 simp only[eff]at hx
 split at hx
 case h_2=>cases hx
 rename_i k a k' b e1 e2
 split at hx
 case isFalse=>cases hx
 rename_i hk
 subst hk
 obtain⟨rfl,rfl⟩:=QN hx
 rw[e1]at ha;rw[e2]at hb
 refine OpOk.pure st (u:= .int k (max a b)) ?_ (.f (.int _ _))
 simp [execOp,ho,resolve,hc,hargs,invoke,builtin,ha.int_,hb.int_,run_max2]
theorem ok_minI (st:St P G H Z w) (hρ : ∀ x,RepA G Z w (ρ x) (ρc x)) (x y:Operand) (hx:(eff (.minI x y) ρ t).exec H=some (v,H')) (c:Call) (ho:o.op=.call c) (hc:c.callee=.builtin .min) (hargs:c.args = #[x,y]):OpOk P (execOp ρc o) G H Z w v H':=by
 have ha:=hρ x
 have hb:=hρ y
 simp only[eff]at hx
 split at hx
 case h_2=>cases hx
 rename_i k a k' b e1 e2
 split at hx
 case isFalse=>cases hx
 rename_i hk
 subst hk
 obtain⟨rfl,rfl⟩:=QN hx
 rw[e1]at ha;rw[e2]at hb
 refine OpOk.pure st (u:= .int k (min a b)) ?_ (.f (.int _ _))
 simp [execOp,ho,resolve,hc,hargs,invoke,builtin,ha.int_,hb.int_,run_min2]

theorem Uc {ty:TypeId}{k:IntKind}(h:intKindOf? P ty=some k):P.underlying ty=some (.int k):=by
 unfold intKindOf? at h
 split at h
 ·rename_i k2 h2
  obtain rfl:=Option.some.inj h
  exact h2
 ·cases h
theorem arr1 {α : Type}{a:Array α}{x : α}(h:a.toList = [x]):a = #[x]:=Array.toList_inj.1 h
theorem arr2 {α : Type}{a:Array α}{x y : α}(h:a.toList = [x,y]):a = #[x,y]:=Array.toList_inj.1 h

theorem NQ (st:St P G H Z w) (hρ : ∀ x,RepA G Z w (ρ x) (ρc x)) (hk:∀ u,ρc (.const u)=u){lo:LOp}(hl:Xe P o.op=some lo) (hx:(eff lo ρ t).exec H=some (v,H')):OpOk P (execOp ρc o) G H Z w v H':=by
 cases ho:o.op<;>rw[ho]at hl<;>simp only[Xe]at hl<;>try cases hl
 case move x=>exact ok_move st hρ x hx (.inl ho)
 case assign x=>exact ok_move st hρ x hx (.inr ho)
 case pick c a b=>exact ok_pick st hρ c a b hx ho
 case alloc e=>
  obtain⟨z,hz,rfl⟩:=Option.map_eq_some_iff.1 hl
  exact ok_alloc st e z hz hx ho
 case box e x=>exact ok_box st hρ e x hx ho
 case build ty parts=>
  split at hl
  case h_2=>cases hl
  rename_i fs z hu hz
  split at hl
  case isFalse=>cases hl
  rename_i hall
  obtain⟨l,hp,rfl⟩:=Option.map_eq_some_iff.1 hl
  exact ok_build st hρ ty fs z parts l hu hz hall hp hx ho
 case buildSlice ty len parts=>
  split at hl
  case h_2=>cases hl
  rename_i e he
  split at hl
  case h_2=>cases hl
  rename_i z sz hz hs
  split at hl
  case isFalse=>cases hl
  rename_i hc
  obtain rfl:=Option.some.inj hl
  exact OW st hρ ty e sz len z parts he hz hs hc.1 hc.2 hx ho
 case load ty a=>
  obtain⟨n,hn,rfl⟩:=Option.map_eq_some_iff.1 hl
  exact ok_load st hρ ty n a hn hx ho
 case store ty a x=>
  obtain⟨n,hn,rfl⟩:=Option.map_eq_some_iff.1 hl
  exact ok_store st hρ ty n a x hn hx ho
 case nilCheck x=>exact ok_nilChk st hρ x hx ho
 case binOp op ty x y ty2=>
  split at hl
  ·rename_i lo' hn
   obtain rfl:=Option.some.inj hl
   exact ok_isNil st hρ hk op ty ty2 x y hn hx ho
  ·split at hl
   ·rename_i lo' hn
    obtain rfl:=Option.some.inj hl
    exact ok_eqS st hρ op ty ty2 x y hn hx ho
   ·obtain rfl:=Option.some.inj hl
    exact ok_bin st hρ op ty ty2 x y hx ho
 case unOp op ty x=>exact ok_un st hρ op ty x hx ho
 case convert src dst x=>
  split at hl
  ·rename_i k hk
   split at hl
   case isFalse=>cases hl
   rename_i hs
   obtain⟨k2,hs⟩:=Option.isSome_iff_exists.1 hs
   obtain rfl:=Option.some.inj hl
   exact QDY st hρ src dst k k2 x (Uc hk) (Uc hs) hx ho
  ·split at hl
   ·rename_i hs
    simp only[Bool.and_eq_true]at hs
    obtain rfl:=Option.some.inj hl
    exact QDX st hρ src dst x (YG hs.2) (YG hs.1) hx ho
   ·split at hl
    ·rename_i hs
     simp only[Bool.and_eq_true]at hs
     obtain⟨e,he1,he2⟩:=Ub hs.1
     obtain rfl:=Option.some.inj hl
     exact QBw st hρ src dst e x he1 he2 (YG hs.2) hx ho
    ·split at hl
     ·rename_i hs
      simp only[Bool.and_eq_true]at hs
      obtain⟨e,he1,he2⟩:=Ub hs.2
      obtain rfl:=Option.some.inj hl
      exact QBv st hρ src dst e x he1 he2 (YG hs.1) hx ho
     ·split at hl
      case isFalse=>cases hl
      rename_i hs
      simp only[Bool.and_eq_true,beq_iff_eq]at hs
      obtain⟨h1,rfl⟩:=hs
      obtain⟨e,he1,he2⟩:=Ub h1
      obtain rfl:=Option.some.inj hl
      exact ok_mark st hρ src e x he1 he2 hx ho
 case makeInterface ty x=>exact absurd hx (by simp [eff,Eff.exec])
 case panic x=>exact absurd hx (by simp [eff,Eff.exec])
 case makeFunc fn first caps=>
  split at hl
  case isFalse=>cases hl
  rename_i hf
  obtain rfl:=Option.some.inj hl
  exact ok_clo st hρ fn first caps hf hx ho
 case makeSlice ty l c=>
  split at hl
  case h_2=>cases hl
  rename_i e he
  split at hl
  case h_2=>cases hl
  rename_i z sz by_ hz hs hb
  split at hl
  case isFalse=>cases hl
  rename_i hc
  obtain rfl:=Option.some.inj hl
  exact QAt st hρ ty e sz by_ z l c he hs hb hz hc hx ho
 case slice ty x lo hi mx=>
  split at hl
  ·rename_i e he
   split at hl
   ·rename_i sz hs
    obtain rfl:=Option.some.inj hl
    exact ok_slice st hρ ty e _ x _ _ he hs hx ho
   ·rename_i sz lo' hi' mx' hs
    obtain rfl:=Option.some.inj hl
    exact QAs st hρ ty e sz x _ lo' hi' mx' (.inl rfl) he hs hx ho
   ·rename_i sz hi' mx' hs
    obtain rfl:=Option.some.inj hl
    exact QAs st hρ ty e sz x _ _ hi' mx' (.inr ⟨rfl,rfl⟩) he hs hx ho
   ·cases hl
  ·split at hl
   case isFalse=>cases hl
   rename_i hs
   simp only[Bool.and_eq_true,Option.isNone_iff_eq_none]at hs
   obtain⟨hs,rfl⟩:=hs
   obtain rfl:=Option.some.inj hl
   exact ok_sliceS st hρ ty x lo hi hs hx ho
 case fieldAddr s x i=>
  split at hl
  case h_2=>cases hl
  rename_i f hf
  split at hl
  case h_2=>cases hl
  rename_i n hn
  split at hl
  case isFalse=>cases hl
  rename_i h0
  obtain rfl:=Option.some.inj hl
  exact QAv st hρ s f i n x hf hn h0 hx ho
 case field s x i=>
  split at hl
  case h_2=>cases hl
  rename_i f hf
  obtain⟨n,hn,rfl⟩:=Option.map_eq_some_iff.1 hl
  exact ok_field st hρ s f i n x hf hn hx ho
 case indexAddr ty x ix=>
  split at hl
  case h_2=>cases hl
  rename_i e he
  obtain⟨n,hn,rfl⟩:=Option.map_eq_some_iff.1 hl
  exact QAu st hρ ty e n x ix (Qy he) hn hx ho
 case index ty x ix=>
  split at hl
  case isFalse=>cases hl
  rename_i hs
  obtain rfl:=Option.some.inj hl
  exact ok_indexS st hρ ty x ix (YG hs) hx ho
 case range t y=>
  split at hl
  ·obtain rfl:=Option.some.inj hl
   simp only[eff,Eff.exec]at hx;cases hx
  ·cases hl
 case next y b=>
  split at hl
  ·obtain rfl:=Option.some.inj hl
   simp only[eff,Eff.exec]at hx;cases hx
  ·cases hl
 case entry y=>simp only[eff,Eff.exec]at hx;cases hx
 case extract x i=>exact QDW st hρ i x hx ho
 case call c=>
  split at hl
  ·rename_i hc
   split at hl
   case h_2=>cases hl
   rename_i x ty ha hat
   split at hl
   ·rename_i hs
    obtain rfl:=Option.some.inj hl
    exact ok_len st hρ true x ty (by rw[if_pos rfl];exact YG hs) hx c ho hc (arr1 ha) (arr1 hat)
   ·split at hl
    case isFalse=>
     split at hl
     ·obtain rfl:=Option.some.inj hl
      simp only[eff,Eff.exec]at hx;cases hx
     ·cases hl
    rename_i hs
    obtain rfl:=Option.some.inj hl
    exact ok_len st hρ false x ty (by rw[if_neg (by decide)];exact Zd hs) hx c ho hc (arr1 ha) (arr1 hat)
  ·rename_i hc
   split at hl
   case h_2=>cases hl
   rename_i x y ha
   obtain rfl:=Option.some.inj hl
   exact ok_maxI st hρ x y hx c ho hc (arr2 ha)
  ·rename_i hc
   split at hl
   case h_2=>cases hl
   rename_i x y ha
   obtain rfl:=Option.some.inj hl
   exact ok_minI st hρ x y hx c ho hc (arr2 ha)
  ·rename_i hc
   split at hl
   case h_2=>cases hl
   rename_i s x ty tx ha hat
   split at hl
   case h_2=>cases hl
   rename_i e he
   split at hl
   case h_2=>cases hl
   rename_i sz by_ hs hb
   split at hl
   case isFalse=>cases hl
   rename_i hcc
   split at hl
   ·rename_i hst
    obtain rfl:=Option.some.inj hl
    exact QAw st hρ true ty tx e sz by_ s x he hs hb hcc.1 hcc.2.1 hcc.2.2 (by rw[if_pos rfl];exact YG hst) hx c ho hc (arr2 ha) (arr2 hat)
   ·split at hl
    ·rename_i hst
     obtain rfl:=Option.some.inj hl
     exact QAw st hρ false ty tx e sz by_ s x he hs hb hcc.1 hcc.2.1 hcc.2.2 (by rw[if_neg (by decide)];exact Zd hst) hx c ho hc (arr2 ha) (arr2 hat)
    ·split at hl
     case isFalse=>cases hl
     obtain rfl:=Option.some.inj hl
     cases hx
  ·rename_i hc
   split at hl
   case h_2=>cases hl
   rename_i d s dT sT ha hat
   split at hl
   case h_2=>cases hl
   rename_i e he
   split at hl
   case h_2=>cases hl
   rename_i sz hs
   split at hl
   case isFalse=>cases hl
   obtain rfl:=Option.some.inj hl
   exact ok_copy st hρ dT sT e sz d s he hs hx c ho hc (arr2 ha) (arr2 hat)
  ·rename_i hc
   split at hl
   case h_2=>cases hl
   rename_i x ty ha hat
   split at hl
   case h_2=>cases hl
   rename_i e he
   split at hl
   case h_2=>cases hl
   rename_i sz z hs hz
   obtain rfl:=Option.some.inj hl
   exact ok_clear st hρ ty e sz z x he hs hz hx c ho hc (arr1 ha) (arr1 hat)
  ·rename_i hc
   split at hl
   case h_2=>cases hl
   split at hl
   case isFalse=>cases hl
   obtain rfl:=Option.some.inj hl
   simp only[eff]at hx
   cases hx
  ·obtain rfl:=Option.some.inj hl
   simp only[eff]at hx
   cases hx
  ·cases hl
 case makeMap ty r=>
  split at hl
  case h_2=>cases hl
  obtain rfl:=Option.some.inj hl
  exact ok_mkMap st ty hx ho
 case mapUpdate ty m k x=>
  split at hl
  case h_2=>cases hl
  rename_i p hp
  obtain⟨kt,et⟩:=p
  obtain rfl:=Option.some.inj hl
  exact ok_mapUpd st hρ ty kt et m k x hp hx ho
 case lookup ty m k ok=>
  split at hl
  case h_2=>cases hl
  rename_i kt e hp
  split at hl
  case h_2=>cases hl
  rename_i i hi
  split at hl
  case h_2=>cases hl
  rename_i z hz
  obtain rfl:=Option.some.inj hl
  exact ok_lookup st hρ ty kt e i z ok m k hp hi hz hx ho
end
structure LO where
 dst:Option Nat
 op:LOp
 guard:Option (Nat × Bool)
structure DO where
 dst:Option Nat
 op:LOp
 guard:Option (Nat × Bool)
 ord:List Nat
inductive Yl where
 | skip
 | reg (ops:List LO)
 | draw (ops:List DO)
 | seq (a b:Yl)
 | cond (c:Operand) (thn els:Yl)
 | block (id:Nat) (body:Yl)
 | loop (body:Yl)
 | exit (id:Nat)
 | ret

def WA (ops:Array Oper):Option (Nat × Bool)→Option (Option (Nat × Bool))
 | none=>some none
 | some (j,want)=>((ops[j]?).bind (·.dst)).map fun s=>some (s,want)
def Na (P:Program) (ops:Array Oper) (o:Oper):Option LO:=
 match Xe P o.op,WA ops o.guard with
 | some lo,some g=>some ⟨o.dst,lo,g⟩
 | _,_=>none
def YU (P:Program) (ops:Array Oper):List Oper→Option (List LO)
 | []=>some []
 | o::l=>match Na P ops o,YU P ops l with
  | some a,some r=>some (a::r)
  | _,_=>none
def OU (o:Oper) (acc:List (List Nat)):List Nat:=
 ((o.after.toList.filter fun e=>Region.binds .any e).flatMap fun e=>e.on::acc.getD e.on []).eraseDups
def Xf (P:Program) (ops:Array Oper):List Oper→List (List Nat)→Option (List DO)
 | [],_=>some []
 | o::l,acc=>match Na P ops o,Xf P ops l (acc++ [OU o acc])with
  | some a,some r=>some (⟨a.dst,a.op,a.guard,OU o acc⟩::r)
  | _,_=>none
def lowC (P:Program):Code→Option Yl
 | .skip=>some .skip
 | .region id ops false=>(YU P ops ops.toList).map .reg
 | .region id ops true=>if P.follows .mixedOrders&&Region.lexB .any ops then(Xf P ops ops.toList []).map .draw else none
 | .seq a b=>match lowC P a,lowC P b with
  | some x,some y=>some (.seq x y)
  | _,_=>none
 | .cond c a b=>match lowC P a,lowC P b with
  | some x,some y=>some (.cond c x y)
  | _,_=>none
 | .block id c=>(lowC P c).map (.block id)
 | .loop c=>(lowC P c).map .loop
 | .exit id=>some (.exit id)
 | .ret=>some .ret
 | _=>none

def Jt (P:Program) (f:FuncId):Bool:=match P.funcs[f]? with
 | some fn=> !(fn.name == "runtime.NumGoroutine")&&fn.body.isSome
 | none=>false
def ACall (P:Program) (f:FuncId) (args:List AV) (H:Heap) (Q:AV→Heap→Prop):Prop:=
 Jt P f=true∧∀ (G:QM) (Z:Nat→Prop) (w:World) (vs:Array Value),St P G H Z w→vs.size=args.length→(∀ (j:Nat) (a:AV) (v:Value),args[j]? = some a→vs[j]? = some v→RepA G Z w a v)→
  Calls P f vs w fun e w'=>∃ v r H' G' Z',e=.returned v∧Q r H'∧St P G' H' Z' w'∧Step G Z w G' Z' w'∧RepA G' Z' w' r v
def ACallV (P:Program) (fv:AV) (args:List AV) (H:Heap) (Q:AV→Heap→Prop):Prop:=match fv with
 | .f (.fn (.func f))=>ACall P f args H Q
 | .clo (.func f) caps=>ACall P f (args++caps) H Q
 | .f (.fc (.func f) caps)=>ACall P f (args++caps.map .f) H Q
 | _=>False
theorem ACall.mono {P:Program}{f:FuncId}{args:List AV}{H:Heap}{Q Q':AV→Heap→Prop}(h:ACall P f args H Q) (hq:∀ r H',Q r H'→Q' r H'):ACall P f args H Q':=
 ⟨h.1,fun G Z w vs h1 h2 h3=>(h.2 G Z w vs h1 h2 h3).mono fun e w' ⟨v,r,H',G',Z',e1,e2,e3⟩=>⟨v,r,H',G',Z',e1,hq _ _ e2,e3⟩⟩
theorem ACallV.mono {P:Program}{fv:AV}{args:List AV}{H:Heap}{Q Q':AV→Heap→Prop}(h:ACallV P fv args H Q) (hq:∀ r H',Q r H'→Q' r H'):ACallV P fv args H Q':=by
 unfold ACallV at*
 split
 ·exact ACall.mono h hq
 ·exact ACall.mono h hq
 ·exact ACall.mono h hq
 ·rename_i h1 h2 h3
  split at h
  ·rename_i f;exact absurd rfl (h1 f)
  ·rename_i f caps;exact absurd rfl (h2 f caps)
  ·rename_i f caps;exact absurd rfl (h3 f caps)
  ·exact h
def LOp.isCall:LOp→Bool
 | .call ..=>true
 | .cap ..=>true
 | .ext ..=>true
 | _=>false

section
variable {P:Program}{G:QM}{H:Heap}{Z:Nat→Prop}{w:World}{o:Oper}{a:Act}
def OpTo (P:Program) (o:Oper) (G:QM) (H:Heap) (Z:Nat→Prop) (w:World) (a:Act) (Q:AV→Heap→Prop):Prop:=
 ∀ (K:Act→World→Prop) (X:Exit→Act→World→Prop),(∀ u v H' G' Z' w',Q v H'→St P G' H' Z' w'→Step G Z w G' Z' w'→RepA G' Z' w' v u→K (a.put o.dst u) w')→o.wp P a w K X
theorem OpOk.to {v:AV}{H':Heap}(h:OpOk P (execOp a.eval o) G H Z w v H'):OpTo P o G H Z w a (fun v' H''=>v'=v∧H''=H'):=by
 intro K X hK
 obtain⟨G',Z',w',u,hr,h1,h2,h3⟩:=h
 unfold Oper.wp
 rcases hr with hr|⟨hr,rfl⟩
 ·rw[hr,Oper.upon_value];exact hK u v H' G' Z' w' ⟨rfl,rfl⟩ h1 h2 h3
 ·rw[hr,Oper.upon_skip];exact hK _ v H' G' Z' w' ⟨rfl,rfl⟩ h1 h2 h3
theorem call_to {env:Env}(st:St P G H Z w) (he:EnvR G Z w env a.tmps){c:Call}{f:Operand}(ho:o.op=.call c) (hc:c.callee=.value f){Q:AV→Heap→Prop}(h:ACallV P (evA env f) (c.args.toList.map (evA env)) H Q):OpTo P o G H Z w a Q:=by
 intro K X hK
 have hf:=he.eval f
 have hargs:∀ (j:Nat) (x:AV) (v:Value),(c.args.toList.map (evA env))[j]? = some x→(c.args.map a.eval)[j]? = some v→RepA G Z w x v:=fun j x v hx hv=>by
  rw[List.getElem?_map]at hx
  rw[Array.getElem?_map]at hv
  obtain⟨y,hy,rfl⟩:=Option.map_eq_some_iff.1 hx
  rw[Array.getElem?_toList]at hy
  rw[hy]at hv
  obtain rfl:=Option.some.inj hv
  exact he.eval y
 have fin:∀ (fid:FuncId) (args:List AV) (vs:Array Value),ACall P fid args H Q→vs.size=args.length→(∀ (j:Nat) (x:AV) (v:Value),args[j]? = some x→vs[j]? = some v→RepA G Z w x v)→(execOp a.eval o).run P w=(callFunc fid vs).run P w→o.wp P a w K X:=by
  intro fid args vs hA hsz hrep hrun
  obtain⟨hcal,hA⟩:=hA
  have:(callFunc fid vs).run P w=.ok (.enter fid vs) w:=by
   unfold Jt at hcal
   split at hcal
   ·rename_i fn hfn
    simp only[Bool.and_eq_true,Bool.not_eq_true',Option.isSome_iff_ne_none]at hcal
    obtain⟨h1,h2⟩:=hcal
    have h4 : ¬ fn.name = "runtime.NumGoroutine":=by simpa using h1
    cases hb:fn.body with
    | none=>exact absurd hb h2
    | some c=>simp [callFunc,hfn,h4,hb]
   ·cases hcal
  unfold Oper.wp
  rw[hrun,this,Oper.upon_enter]
  refine(hA G Z w vs st hsz hrep).mono fun e w' ⟨v,r,H',G',Z',he1,hq,h1,h2,h3⟩=> ?_
  subst he1
  exact hK v r H' G' Z' w' hq h1 h2 h3
 unfold ACallV at h
 split at h
 ·rename_i fid e
  rw[e]at hf
  refine fin fid _ (c.args.map a.eval) h (by simp) hargs ?_
  simp [execOp,ho,resolve,hc,hf.fn_,Deferred.ofValue,invoke]
 ·rename_i fid caps e
  rw[e]at hf
  obtain⟨us,hv,hul,hus⟩:=hf.clo_
  refine fin fid _ (c.args.map a.eval++us) h (by simp [hul]) (fun j x v hx hv=> ?_) ?_
  ·rcases Nat.lt_or_ge j c.args.size with hj|hj
   ·rw[List.getElem?_append_left (by simpa using hj)]at hx
    rw[Array.getElem?_append_left (by simpa using hj)]at hv
    exact hargs j x v hx hv
   ·rw[List.getElem?_append_right (by simpa using hj)]at hx
    rw[Array.getElem?_append_right (by simpa using hj)]at hv
    simp only[List.length_map,Array.length_toList,Array.size_map]at hx hv
    exact hus _ x v hx hv
  ·simp [execOp,ho,resolve,hc,hv,Deferred.ofValue,invoke]
 ·rename_i fid caps e
  rw[e]at hf
  obtain⟨us,hv,hul,hus⟩:=hf.fc_
  refine fin fid _ (c.args.map a.eval++us) h (by simp [hul]) (fun j x v hx hv=> ?_) ?_
  ·rcases Nat.lt_or_ge j c.args.size with hj|hj
   ·rw[List.getElem?_append_left (by simpa using hj)]at hx
    rw[Array.getElem?_append_left (by simpa using hj)]at hv
    exact hargs j x v hx hv
   ·rw[List.getElem?_append_right (by simpa using hj)]at hx
    rw[Array.getElem?_append_right (by simpa using hj)]at hv
    simp only[List.length_map,Array.length_toList,Array.size_map]at hx hv
    exact hus _ x v hx hv
  ·simp [execOp,ho,resolve,hc,hv,Deferred.ofValue,invoke]
 ·exact h.elim
end
def LOp.opnds:LOp→List Operand
 | .move x=>[x]
 | .nilChk x=>[x]
 | .pick c a b=>[c,a,b]
 | .alloc _ _=>[]
 | .box _ x=>[x]
 | .build _ ps=>ps.map fun p=>p.2.2
 | .buildSlice _ _ _ _ ps=>ps.map fun p=>p.2
 | .load _ x=>[x]
 | .store _ a v=>[a,v]
 | .bin _ _ x y=>[x,y]
 | .isNil _ _ x=>[x]
 | .eqS _ _ x y=>[x,y]
 | .un _ x=>[x]
 | .convInt _ x=>[x]
 | .convStr x=>[x]
 | .bytesStr x=>[x]
 | .strBytes x=>[x]
 | .mark x=>[x]
 | .clo _ caps=>caps
 | .makeSlice _ _ _ _ l c=>[l,c]
 | .slice _ x lo hi=>x::(lo.toList++hi.toList)
 | .slice0 x lo hi mx=>[x,lo,hi,mx]
 | .sliceS x lo hi=>x::(lo.toList++hi.toList)
 | .fieldAddr _ x=>[x]
 | .field _ _ x=>[x]
 | .indexAddr _ x ix=>[x,ix]
 | .indexS x ix=>[x,ix]
 | .extract x _=>[x]
 | .len _ x=>[x]
 | .maxI x y=>[x,y]
 | .minI x y=>[x,y]
 | .append _ _ _ _ s x=>[s,x]
 | .copy _ d s=>[d,s]
 | .clear _ _ x=>[x]
 | .cap x=>[x]
 | .ext _ x=>[x]
 | .appendN _ _ _ _ s n=>[s,n]
 | .never=>[]
 | .mkMap=>[]
 | .mapUpd m k v=>[m,k,v]
 | .lookup _ _ m k=>[m,k]
 | .call f args=>f::args
theorem KS {ρ ρ':Operand→AV}{n:Nat}{lo hi:Option Operand}(h:∀ x∈lo.toList++hi.toList,ρ x = ρ' x):YK n ρ lo hi=YK n ρ' lo hi:=by
 unfold YK
 cases lo<;>cases hi<;>simp_all
theorem eff_congr {ρ ρ':Operand→AV}{t:Nat}(lo:LOp) (h:∀ x∈lo.opnds,ρ x = ρ' x):eff lo ρ t=eff lo ρ' t:=by
 cases lo<;>simp only[LOp.opnds]at h
 case build z ps=>
  have:(ps.map fun (p:Nat × Nat × Operand)=>(p.1,p.2.1,ρ p.2.2))=ps.map fun p=>(p.1,p.2.1,ρ' p.2.2):=List.map_congr_left fun p hp=>by rw[h p.2.2 (List.mem_map.2 ⟨p,hp,rfl⟩)]
  simp only[eff]
  rw[this]
 case buildSlice e sz len z ps=>
  have:(ps.map fun (p:Nat × Operand)=>(p.1*sz,sz,ρ p.2))=ps.map fun p=>(p.1*sz,sz,ρ' p.2):=List.map_congr_left fun p hp=>by rw[h p.2 (List.mem_map.2 ⟨p,hp,rfl⟩)]
  simp only[eff]
  rw[this]
 case clo f caps=>
  have:caps.map ρ = caps.map ρ':=List.map_congr_left h
  simp only[eff]
  rw[this]
 case isNil p neg x=>
  have h1 : ρ x = ρ' x:=h x (by simp)
  cases p<;>simp [eff,h1]
 case slice sz x lo hi=>
  have h1 : ρ x = ρ' x:=h x (by simp)
  have h2:∀ n,YK n ρ lo hi=YK n ρ' lo hi:=fun n=>KS fun y hy=>h y (List.mem_cons_of_mem _ hy)
  simp only[eff,h1,h2]
 case sliceS x lo hi=>
  have h1 : ρ x = ρ' x:=h x (by simp)
  have h2:∀ n,YK n ρ lo hi=YK n ρ' lo hi:=fun n=>KS fun y hy=>h y (List.mem_cons_of_mem _ hy)
  simp only[eff,h1,h2]
 all_goals (simp only[List.mem_cons,List.not_mem_nil,or_false,forall_eq_or_imp,forall_eq]at h;simp [eff,h])
theorem ZW {P:Program}{op:Op}{lo:LOp}(h:Xe P op=some lo):∀ t,.tmp t∈lo.opnds→ .tmp t∈op.operands:=by
 intro t ht
 cases op<;>simp only[Xe]at h<;>try cases h
 case move=>simpa [LOp.opnds,Op.operands]using ht
 case makeInterface=>simp [LOp.opnds]at ht
 case range=>
  split at h
  ·obtain rfl:=Option.some.inj h
   simpa [LOp.opnds,Op.operands]using ht
  ·cases h
 case next=>
  split at h
  ·obtain rfl:=Option.some.inj h
   simpa [LOp.opnds,Op.operands]using ht
  ·cases h
 case entry=>simpa [LOp.opnds,Op.operands]using ht
 case panic=>simp [LOp.opnds]at ht
 case assign=>simpa [LOp.opnds,Op.operands]using ht
 case nilCheck=>simpa [LOp.opnds,Op.operands]using ht
 case pick=>simpa [LOp.opnds,Op.operands]using ht
 case alloc=>obtain⟨_,_,rfl⟩:=Option.map_eq_some_iff.1 h;simp [LOp.opnds]at ht
 case box=>simpa [LOp.opnds,Op.operands]using ht
 case build ty parts=>
  split at h
  case h_2=>cases h
  split at h
  case isFalse=>cases h
  obtain⟨l,hl,rfl⟩:=Option.map_eq_some_iff.1 h
  obtain⟨h1,_⟩:=UR hl
  rw[h1]at ht
  simp only[LOp.opnds,List.map_map,Op.operands,List.mem_map,Array.mem_toList_iff,List.mem_toArray]at ht ⊢
  obtain⟨p,hp,e⟩:=ht
  exact⟨p,hp,e⟩
 case buildSlice ty len parts=>
  split at h
  case h_2=>cases h
  split at h
  case h_2=>cases h
  split at h
  case isFalse=>cases h
  obtain rfl:=Option.some.inj h
  simp only[LOp.opnds,Op.operands,List.mem_map,Array.mem_toList_iff,List.mem_toArray]at ht ⊢
  exact ht
 case load=>obtain⟨_,_,rfl⟩:=Option.map_eq_some_iff.1 h;simpa [LOp.opnds,Op.operands]using ht
 case store=>obtain⟨_,_,rfl⟩:=Option.map_eq_some_iff.1 h;simpa [LOp.opnds,Op.operands]using ht
 case binOp=>
  split at h
  ·rename_i hn
   obtain rfl:=Option.some.inj h
   obtain⟨neg,_,⟨rfl,_⟩|⟨rfl,_⟩⟩:=Xb hn<;>(simp [LOp.opnds,Op.operands]at ht ⊢;exact .inl ht)
  ·split at h
   ·rename_i hn
    obtain rfl:=Option.some.inj h
    obtain⟨_,_,neg,rfl,_⟩:=YW hn
    simpa [LOp.opnds,Op.operands]using ht
   ·obtain rfl:=Option.some.inj h
    simpa [LOp.opnds,Op.operands]using ht
 case unOp=>simpa [LOp.opnds,Op.operands]using ht
 case convert=>
  split at h
  ·split at h
   ·obtain rfl:=Option.some.inj h;simpa [LOp.opnds,Op.operands]using ht
   ·cases h
  ·split at h
   ·obtain rfl:=Option.some.inj h;simpa [LOp.opnds,Op.operands]using ht
   ·split at h
    ·obtain rfl:=Option.some.inj h;simpa [LOp.opnds,Op.operands]using ht
    ·split at h
     ·obtain rfl:=Option.some.inj h;simpa [LOp.opnds,Op.operands]using ht
     ·split at h
      ·obtain rfl:=Option.some.inj h;simpa [LOp.opnds,Op.operands]using ht
      ·cases h
 case makeFunc=>
  split at h
  case isFalse=>cases h
  obtain rfl:=Option.some.inj h
  simp only[LOp.opnds,Op.operands,Array.mem_append]at ht ⊢
  exact .inr (by simpa using ht)
 case makeSlice=>
  split at h
  case h_2=>cases h
  split at h
  case h_2=>cases h
  split at h
  case isFalse=>cases h
  obtain rfl:=Option.some.inj h
  simpa [LOp.opnds,Op.operands]using ht
 case slice ty x lo hi mx=>
  split at h
  ·split at h
   ·obtain rfl:=Option.some.inj h
    simp only[LOp.opnds,Op.operands,List.mem_cons,List.mem_append,Array.mem_append,Option.mem_toList,Option.mem_toArray,List.mem_toArray,List.not_mem_nil,or_false]at ht ⊢
    rcases ht with ht|ht|ht
    ·exact .inl (.inl (.inl ht))
    ·exact .inl (.inl (.inr ht))
    ·exact .inl (.inr ht)
   ·obtain rfl:=Option.some.inj h
    simpa [LOp.opnds,Op.operands]using ht
   ·obtain rfl:=Option.some.inj h
    simpa [LOp.opnds,Op.operands]using ht
   ·cases h
  ·split at h
   case isFalse=>cases h
   obtain rfl:=Option.some.inj h
   simp only[LOp.opnds,Op.operands,List.mem_cons,List.mem_append,Array.mem_append,Option.mem_toList,Option.mem_toArray,List.mem_toArray,List.not_mem_nil,or_false]at ht ⊢
   rcases ht with ht|ht|ht
   ·exact .inl (.inl (.inl ht))
   ·exact .inl (.inl (.inr ht))
   ·exact .inl (.inr ht)
 case fieldAddr=>
  split at h
  case h_2=>cases h
  split at h
  case h_2=>cases h
  split at h
  case isFalse=>cases h
  obtain rfl:=Option.some.inj h
  simpa [LOp.opnds,Op.operands]using ht
 case field=>
  split at h
  case h_2=>cases h
  obtain⟨_,_,rfl⟩:=Option.map_eq_some_iff.1 h
  simpa [LOp.opnds,Op.operands]using ht
 case indexAddr=>
  split at h
  case h_2=>cases h
  obtain⟨_,_,rfl⟩:=Option.map_eq_some_iff.1 h
  simpa [LOp.opnds,Op.operands]using ht
 case index=>
  split at h
  case isFalse=>cases h
  obtain rfl:=Option.some.inj h
  simpa [LOp.opnds,Op.operands]using ht
 case extract=>simpa [LOp.opnds,Op.operands]using ht
 case makeMap=>
  split at h
  case h_2=>cases h
  obtain rfl:=Option.some.inj h
  simp [LOp.opnds]at ht
 case mapUpdate=>
  split at h
  case h_2=>cases h
  obtain rfl:=Option.some.inj h
  simpa [LOp.opnds,Op.operands]using ht
 case lookup=>
  split at h
  case h_2=>cases h
  split at h
  case h_2=>cases h
  split at h
  case h_2=>cases h
  obtain rfl:=Option.some.inj h
  simpa [LOp.opnds,Op.operands]using ht
 case call c=>
  have hmem:∀ x,x∈c.args.toList→x∈c.operands:=fun x hx=>by
   simp only[Call.operands,Array.mem_append];exact .inr (by simpa using hx)
  simp only[Op.operands]
  split at h
  ·split at h
   case h_2=>cases h
   rename_i ha _
   split at h
   ·obtain rfl:=Option.some.inj h
    exact hmem _ (by rw[ha];simpa [LOp.opnds]using ht)
   ·split at h
    case isFalse=>
     split at h
     ·obtain rfl:=Option.some.inj h
      exact hmem _ (by rw[ha];simpa [LOp.opnds]using ht)
     ·cases h
    obtain rfl:=Option.some.inj h
    exact hmem _ (by rw[ha];simpa [LOp.opnds]using ht)
  ·split at h
   case h_2=>cases h
   rename_i ha
   obtain rfl:=Option.some.inj h
   exact hmem _ (by rw[ha];simpa [LOp.opnds]using ht)
  ·split at h
   case h_2=>cases h
   rename_i ha
   obtain rfl:=Option.some.inj h
   exact hmem _ (by rw[ha];simpa [LOp.opnds]using ht)
  ·split at h
   case h_2=>cases h
   rename_i ha _
   split at h
   case h_2=>cases h
   split at h
   case h_2=>cases h
   split at h
   case isFalse=>cases h
   split at h
   ·obtain rfl:=Option.some.inj h
    exact hmem _ (by rw[ha];simpa [LOp.opnds]using ht)
   ·split at h
    ·obtain rfl:=Option.some.inj h
     exact hmem _ (by rw[ha];simpa [LOp.opnds]using ht)
    ·split at h
     case isFalse=>cases h
     obtain rfl:=Option.some.inj h
     exact hmem _ (by rw[ha];simpa [LOp.opnds]using ht)
  ·split at h
   case h_2=>cases h
   rename_i ha _
   split at h
   case h_2=>cases h
   split at h
   case h_2=>cases h
   split at h
   case isFalse=>cases h
   obtain rfl:=Option.some.inj h
   exact hmem _ (by rw[ha];simpa [LOp.opnds]using ht)
  ·split at h
   case h_2=>cases h
   rename_i ha _
   split at h
   case h_2=>cases h
   split at h
   case h_2=>cases h
   obtain rfl:=Option.some.inj h
   exact hmem _ (by rw[ha];simpa [LOp.opnds]using ht)
  ·split at h
   case h_2=>cases h
   rename_i ha _
   split at h
   case isFalse=>cases h
   obtain rfl:=Option.some.inj h
   exact hmem _ (by rw[ha];simpa [LOp.opnds]using ht)
  ·rename_i f hc
   obtain rfl:=Option.some.inj h
   simp only[LOp.opnds,List.mem_cons]at ht
   rcases ht with ht|ht
   ·simp [Call.operands,hc,ht]
   ·exact hmem _ ht
  ·cases h

def Eff.rds:Eff→List Nat
 | .rd id _=>[id]
 | .md id _=>[id]
 | .rm s id _=>[s,id]
 | _=>[]
def Eff.wrs:Eff→List Nat
 | .md id _=>[id]
 | .rm _ id _=>[id]
 | _=>[]
def mix (wr:List Nat) (H' H:Heap):Heap:=fun id=>if id∈wr then H' id else H id

structure Cert (P:Program) (o:Oper) (env:Env) (H:Heap) (rd wr:List Nat) (v:AV) (H':Heap):Prop where
 frame:∀ id,id∉wr→H' id=H id
 run:∀ (env2:Env) (H2:Heap),(∀ t,.tmp t∈o.op.operands→evA env2 (.tmp t)=evA env (.tmp t))→(∀ id∈rd,H2 id=H id)→(∀ id∈wr,H2 id=H id)→
  ∀ G Z w (a:Act),St P G H2 Z w→EnvR G Z w env2 a.tmps→OpTo P o G H2 Z w a (fun v' H''=>v'=v∧H''=mix wr H' H2)
theorem Cert.move {P:Program}{o:Oper}{env env2:Env}{H H2 H':Heap}{rd wr:List Nat}{v:AV}(c:Cert P o env H rd wr v H') (h1:∀ t,.tmp t∈o.op.operands→evA env2 (.tmp t)=evA env (.tmp t)) (h2:∀ id∈rd,H2 id=H id) (h3:∀ id∈wr,H2 id=H id) :
  Cert P o env2 H2 rd wr v (mix wr H' H2):=by
 refine⟨fun id h=>by simp [mix,h],fun env3 H3 g1 g2 g3 G Z w a st he=> ?_⟩
 have:=c.run env3 H3 (fun t ht=>(g1 t ht).trans (h1 t ht)) (fun id h=>(g2 id h).trans (h2 id h)) (fun id h=>(g3 id h).trans (h3 id h)) G Z w a st he
 have e:mix wr (mix wr H' H2) H3=mix wr H' H3:=by
  funext id;simp only[mix];split<;>rfl
 rw[e];exact this
theorem KO {e:Eff}{H H2 H':Heap}{v:AV}(h:e.exec H=some (v,H')) (h2:∀ id∈e.rds,H2 id=H id):e.exec H2=some (v,mix e.wrs H' H2)∧∀ id,id∉e.wrs→H' id=H id:=by
 cases e with
 | no=>cases h
 | pure u=>
  simp only[Eff.exec,Option.some.injEq,Prod.mk.injEq]at h ⊢
  obtain⟨rfl,rfl⟩:=h
  exact⟨⟨rfl,by funext id;simp [mix,Eff.wrs]⟩,fun _ _=>rfl⟩
 | rd i k=>
  have hi:=h2 i (by simp [Eff.rds])
  obtain⟨h3,rfl⟩:=YN h
  refine⟨?_,fun _ _=>rfl⟩
  simp only[Eff.exec,hi,h3,Eff.wrs,Option.some.injEq,Prod.mk.injEq,true_and]
  funext id;simp [mix]
 | md i k=>
  have hi:=h2 i (by simp [Eff.rds])
  obtain⟨x,h3,rfl⟩:=YC h
  refine⟨?_,fun id hn=>QL _ _ _ _ (by simpa [Eff.wrs]using hn)⟩
  simp only[Eff.exec,hi,h3,Eff.wrs,Option.some.injEq,Prod.mk.injEq,true_and]
  funext id
  simp only[mix,List.mem_singleton]
  by_cases e:id=i
  ·subst e;simp
  ·rw[if_neg e,QL _ _ _ _ e]
 | rm s i k=>
  have hi:=h2 i (by simp [Eff.rds])
  have hs:=h2 s (by simp [Eff.rds])
  obtain⟨x,h3,rfl⟩:=QAD h
  refine⟨?_,fun id hn=>QL _ _ _ _ (by simpa [Eff.wrs]using hn)⟩
  simp only[Eff.exec,hi,hs,h3,Eff.wrs,Option.some.injEq,Prod.mk.injEq,true_and]
  funext id
  simp only[mix,List.mem_singleton]
  by_cases e:id=i
  ·subst e;simp
  ·rw[if_neg e,QL _ _ _ _ e]
theorem WP {env env2:Env}{l:List Operand}(h:∀ t,.tmp t∈l→evA env2 (.tmp t)=evA env (.tmp t)):∀ x∈l,evA env2 x=evA env x:=by
 intro x hx
 cases x with
 | tmp t=>exact h t hx
 | _=>rfl
theorem cert_eff {P:Program}{o:Oper}{lo:LOp}(hl:Xe P o.op=some lo){env:Env}{H H':Heap}{t:Nat}{v:AV}(hx:(eff lo (evA env) t).exec H=some (v,H')) :
  Cert P o env H (eff lo (evA env) t).rds (eff lo (evA env) t).wrs v H':=by
 refine⟨(KO hx fun _ _=>rfl).2,fun env2 H2 h1 h2 _ G Z w a st he=> ?_⟩
 have e:eff lo (evA env2) t=eff lo (evA env) t:=eff_congr lo (WP fun u hu=>h1 u (ZW hl u hu))
 exact(NQ st (fun x=>he.eval x) (fun _=>rfl) hl (t:=t) (by rw[e];exact(KO hx h2).1)).to

def disj (a b:List Nat):Bool:=a.all fun x=> !b.contains x
structure Fp where
 i:Nat
 rd:List Nat
 wr:List Nat
def Fp.ok (f:Fp) (rd wr:List Nat):Bool:=disj f.wr (rd++wr)&&disj wr f.rd
def VQ (acc:List Fp) (ord:List Nat) (rd wr:List Nat):Bool:=acc.all fun f=>ord.contains f.i||f.ok rd wr

section
variable {P:Program}{ops:Array Oper}{md:Region.Mode}
def Um (ops:Array Oper) (env:Env) (o:Oper):Option Bool:=match o.guard with
 | none=>some true
 | some (j,want)=>match ((ops[j]?).bind (·.dst))with
  | some s=>match env.f s with
   | .f (.bool b)=>some (b == want)
   | .tup []=>some false
   | _=>none
  | none=>none
inductive Bef (md:Region.Mode) (ops:Array Oper):Nat→Nat→Prop
 | one {j:Nat}{o:Oper}{e:Edge} : ops[j]? = some o→e∈o.after→Region.binds md e=true→Bef md ops j e.on
 | more {j i:Nat}{o:Oper}{e:Edge} : ops[j]? = some o→e∈o.after→Region.binds md e=true→Bef md ops e.on i→Bef md ops j i
def Closed (md:Region.Mode) (ops:Array Oper) (listed:Array Bool):Prop:=∀ j o,ops[j]? = some o→listed.getD j false=true→∀ e∈o.after,Region.binds md e=true→listed.getD e.on false=true
theorem Closed.bef {listed:Array Bool}(hc:Closed md ops listed){j i:Nat}(h:Bef md ops j i):listed.getD j false=true→listed.getD i false=true:=by
 induction h with
 | one h1 h2 h3=>exact fun hj=>hc _ _ h1 hj _ h2 h3
 | more h1 h2 h3 _ ih=>exact fun hj=>ih (hc _ _ h1 hj _ h2 h3)
theorem Closed.ready {listed:Array Bool}(hc:Closed md ops listed){j i:Nat}(hj:j∈Region.ready md ops listed) (h:Bef md ops j i):listed.getD i false=true:=by
 obtain⟨_,o,ho,hall⟩:=mem_ready.1 hj
 cases h with
 | one h1 h2 h3=>rw[ho]at h1;obtain rfl:=Option.some.inj h1;exact hall _ h2 h3
 | more h1 h2 h3 h4=>rw[ho]at h1;obtain rfl:=Option.some.inj h1;exact hc.bef h4 (hall _ h2 h3)
theorem Closed.set {listed:Array Bool}(hc:Closed md ops listed){j:Nat}(hj:j∈Region.ready md ops listed):Closed md ops (listed.setIfInBounds j true):=by
 obtain⟨_,o,ho,hall⟩:=mem_ready.1 hj
 have mono:∀ k,listed.getD k false=true→(listed.setIfInBounds j true).getD k false=true:=by
  intro k hk
  rw[Array.getD_eq_getD_getElem?]at hk ⊢
  rw[Array.getElem?_setIfInBounds]
  split
  ·split
   ·rfl
   ·rename_i h1 h2;subst h1;rw[Array.getElem?_eq_none (by omega)]at hk;cases hk
  ·exact hk
 intro k ok hok hk e he hb
 by_cases hkj:k=j
 ·subst hkj
  rw[ho]at hok;obtain rfl:=Option.some.inj hok
  exact mono _ (hall e he hb)
 ·have:listed.getD k false=true:=by
   rw[Array.getD_eq_getD_getElem?,Array.getElem?_setIfInBounds_ne (Ne.symm hkj)]at hk
   rw[Array.getD_eq_getD_getElem?];exact hk
  exact mono _ (hc k ok hok this e he hb)
def anyA (P:Program) (md:Region.Mode) (ops:Array Oper) (K:Env→Heap→Prop):Nat→Array Bool→List Fp→Env→Heap→Prop
 | 0,listed,_,env,H=>Region.ready md ops listed = []∧K env H
 | fuel+1,listed,acc,env,H=>(Region.ready md ops listed = []→K env H)∧∀ i∈Region.ready md ops listed,∃ o,ops[i]? = some o∧
   ((Um ops env o=some false∧anyA P md ops K fuel (listed.setIfInBounds i true) acc (putE env o.dst (.tup [])) H)∨
    (Um ops env o=some true∧∃ rd wr v H',Cert P o env H rd wr v H'∧(∀ f∈acc,¬ Bef md ops i f.i→f.ok rd wr=true)∧anyA P md ops K fuel (listed.setIfInBounds i true) acc (putE env o.dst v) H'))
theorem QAO {K:Env→Heap→Prop} : ∀ (fuel:Nat) (listed:Array Bool) (acc acc':List Fp) (env:Env) (H:Heap),(∀ f∈acc',f∈acc)→anyA P md ops K fuel listed acc env H→anyA P md ops K fuel listed acc' env H
 | 0,_,_,_,_,_,_,h=>h
 | fuel+1,listed,acc,acc',env,H,hs,h=>⟨h.1,fun i hi=>by
  obtain⟨o,ho,h1⟩:=h.2 i hi
  refine⟨o,ho,?_⟩
  rcases h1 with⟨h1,h2⟩|⟨h1,rd,wr,v,H',h2,h3,h4⟩
  ·exact .inl ⟨h1,QAO fuel _ acc acc' _ _ hs h2⟩
  ·exact .inr ⟨h1,rd,wr,v,H',h2,fun f hf=>h3 f (hs f hf),QAO fuel _ acc acc' _ _ hs h4⟩⟩

theorem QAE {env:Env}{dst:Option Nat}{v:AV}{t:Nat}(h:∀ d,dst=some d→t≠d):evA (putE env dst v) (.tmp t)=evA env (.tmp t):=by
 cases dst with
 | none=>rfl
 | some d=>
  simp only[evA,putE]
  split
  ·exact QL _ _ _ _ (h d rfl)
  ·rfl
theorem QAm (env:Env){x y:Option Nat}(u v:AV) (h:∀ d,x=some d→y≠some d):putE (putE env x u) y v=putE (putE env y v) x u:=by
 cases x with
 | none=>rfl
 | some d=>
  cases y with
  | none=>rfl
  | some e=>
   have hne:d≠e:=fun he=>h d rfl (he▸rfl)
   simp only[putE]
   by_cases h1:d<env.n<;>by_cases h2:e<env.n<;>simp only[h1,h2,if_true,if_false]
   congr 1
   funext k
   simp only[upd]
   split<;>split<;>first|rfl|omega
theorem Zy {env:Env}{o:Oper}{dst:Option Nat}{v:AV}(h:∀ d,dst=some d→d∉o.looksAt ops):Um ops (putE env dst v) o=Um ops env o:=by
 unfold Um
 cases hg:o.guard with
 | none=>rfl
 | some p=>
  obtain⟨j,want⟩:=p
  simp only
  cases hs:(ops[j]?).bind (·.dst)with
  | none=>rfl
  | some s=>
   have:evA (putE env dst v) (.tmp s)=evA env (.tmp s):=QAE fun d hd e=>h d hd (by subst e;simp [Oper.looksAt,hg,hs])
   simp only[evA]at this
   simp only[this]
theorem NO {o:Oper}{t:Nat}(h : .tmp t∈o.op.operands):t∈o.looksAt ops:=by
 unfold Oper.looksAt
 exact List.mem_append_left _ (List.mem_filterMap.2 ⟨.tmp t,by simpa using h,rfl⟩)

def YA (P:Program) (ops:Array Oper) (o:Oper) (env:Env) (H:Heap) (rd wr:List Nat) (v:AV) (H':Heap):Prop:=
 (Um ops env o=some false∧rd = []∧wr = []∧v=.tup []∧H'=H)∨(Um ops env o=some true∧Cert P o env H rd wr v H')
theorem QBN {a b:List Nat}(h:disj a b=true):∀ x∈a,x∉b:=fun x hx hb=>by
 have:=List.all_eq_true.1 h x hx
 simp at this;exact this hb

theorem QDu {K:Env→Heap→Prop}{i:Nat}{oi:Oper}{rd wr:List Nat}{v:AV}(hi:ops[i]? = some oi):∀ (fuel:Nat) (listed:Array Bool) (acc:List Fp) (env:Env) (H H':Heap),
  Closed md ops listed→(∀ j oj,ops[j]? = some oj→j≠i→listed.getD j true=false→(∀ e∈oj.after,Region.binds md e=true→e.on≠i)→oi.apart ops oj=true)→
  i∈Region.ready md ops listed→YA P ops oi env H rd wr v H'→(∀ f∈acc,¬ Bef md ops i f.i→f.ok rd wr=true)→
  anyA P md ops K fuel (listed.setIfInBounds i true) (⟨i,rd,wr⟩::acc) (putE env oi.dst v) H'→anyA P md ops K (fuel+1) listed acc env H:=by
 have here:∀ (fuel:Nat) (listed:Array Bool) (acc:List Fp) (env:Env) (H H':Heap),YA P ops oi env H rd wr v H'→(∀ f∈acc,¬ Bef md ops i f.i→f.ok rd wr=true)→
   anyA P md ops K fuel (listed.setIfInBounds i true) (⟨i,rd,wr⟩::acc) (putE env oi.dst v) H'→∃ o,ops[i]? = some o∧
   ((Um ops env o=some false∧anyA P md ops K fuel (listed.setIfInBounds i true) acc (putE env o.dst (.tup [])) H)∨
    (Um ops env o=some true∧∃ rd wr v H',Cert P o env H rd wr v H'∧(∀ f∈acc,¬ Bef md ops i f.i→f.ok rd wr=true)∧anyA P md ops K fuel (listed.setIfInBounds i true) acc (putE env o.dst v) H')):=by
  intro fuel listed acc env H H' hy hacc h
  have h':=QAO fuel _ _ acc _ _ (fun f hf=>List.mem_cons_of_mem _ hf) h
  refine⟨oi,hi,?_⟩
  rcases hy with⟨h1,rfl,rfl,rfl,rfl⟩|⟨h1,h2⟩
  ·exact .inl ⟨h1,h'⟩
  ·exact .inr ⟨h1,rd,wr,v,H',h2,hacc,h'⟩
 intro fuel
 induction fuel with
 | zero=>
  intro listed acc env H H' hcl hfree hr hy hacc h
  refine⟨fun h0=>(by rw[h0]at hr;cases hr),fun j hj=> ?_⟩
  by_cases hji:j=i
  ·subst hji;exact here 0 listed acc env H H' hy hacc h
  ·have:=ready_mono hj hji
   rw[h.1]at this;cases this
 | succ fuel ih=>
  intro listed acc env H H' hcl hfree hr hy hacc h
  refine⟨fun h0=>(by rw[h0]at hr;cases hr),fun j hj=> ?_⟩
  by_cases hji:j=i
  ·subst hji;exact here (fuel+1) listed acc env H H' hy hacc h
  ·obtain⟨hjun,oj0,hoj0,hall⟩:=mem_ready.1 hj
   have hiun:listed.getD i true=false:=(mem_ready.1 hr).1
   have hiun':listed.getD i false≠true:=by
    intro h1
    rw[Array.getD_eq_getD_getElem?]at h1 hiun
    cases hq:listed[i]? with
    | none=>rw[hq]at h1;cases h1
    | some b=>rw[hq]at h1 hiun;simp at h1 hiun;rw[h1]at hiun;cases hiun
   obtain⟨oj,hoj,h1⟩:=h.2 j (ready_mono hj hji)
   have hnot:∀ e∈oj.after,Region.binds md e=true→e.on≠i:=fun e he hb heq=>by
    rw[hoj]at hoj0;obtain rfl:=Option.some.inj hoj0
    have:=hall e he hb
    rw[heq]at this;exact hiun' this
   have hbef : ¬ Bef md ops j i:=fun hb=>hiun' (hcl.ready hj hb)
   obtain⟨g1,g2,g3⟩:=Oper.apart_spec (hfree j oj hoj hji hjun hnot)
   have hfree':∀ k ok,ops[k]? = some ok→k≠i→(listed.setIfInBounds j true).getD k true=false→(∀ e∈ok.after,Region.binds md e=true→e.on≠i)→oi.apart ops ok=true:=fun k ok hk hki hun hno=>by
    refine hfree k ok hk hki ?_ hno
    by_cases hjk:j=k
    ·subst hjk;exact hjun
    ·rw[getD_set_ne true hjk]at hun;exact hun
   have comm:(listed.setIfInBounds i true).setIfInBounds j true=(listed.setIfInBounds j true).setIfInBounds i true:=Array.setIfInBounds_comm _ _ (Ne.symm hji)
   rw[Zy g1]at h1
   refine⟨oj,hoj,?_⟩
   rcases h1 with⟨h1,h2⟩|⟨h1,rdj,wrj,vj,Hj,hcj,haccj,h2⟩
   ·refine .inl ⟨h1,ih (listed.setIfInBounds j true) acc (putE env oj.dst (.tup [])) H H' (hcl.set hj) hfree' (ready_mono hr (Ne.symm hji)) ?_ hacc ?_⟩
    ·rcases hy with⟨k1,k2⟩|⟨k1,k2⟩
     ·exact .inl ⟨by rw[Zy g3];exact k1,k2⟩
     ·refine .inr ⟨by rw[Zy g3];exact k1,?_⟩
      have:=k2.move (env2:=putE env oj.dst (.tup [])) (H2:=H) (fun t ht=>QAE fun d hd e=>g3 d hd (by subst e;exact NO ht)) (fun _ _=>rfl) (fun _ _=>rfl)
      have e:mix wr H' H=H':=by
       funext id;simp only[mix];split
       ·rfl
       ·rename_i hn;exact(k2.frame id hn).symm
      rw[e]at this;exact this
    ·rw[← QAm env v (.tup []) g2,← comm];exact h2
   ·have hok:=haccj ⟨i,rd,wr⟩ (by simp) hbef
    simp only[Fp.ok,Bool.and_eq_true]at hok
    have d1:=QBN hok.1
    have d2:=QBN hok.2
    have hH:∀ id,id∉wr→H' id=H id:=by
     rcases hy with⟨_,_,_,_,rfl⟩|⟨_,k2⟩
     ·exact fun _ _=>rfl
     ·exact k2.frame
    have hcj':=hcj.move (env2:=env) (H2:=H) (fun t ht=>(QAE fun d hd e=>g1 d hd (by subst e;exact NO ht)).symm)
     (fun id hid=>(hH id (fun hw=>d1 id hw (List.mem_append_left _ hid))).symm) (fun id hid=>(hH id (fun hw=>d1 id hw (List.mem_append_right _ hid))).symm)
    refine .inr ⟨h1,rdj,wrj,vj,_,hcj',fun f hf hb=>haccj f (List.mem_cons_of_mem _ hf) hb,ih (listed.setIfInBounds j true) acc (putE env oj.dst vj) _ (mix wr H' (mix wrj Hj H)) (hcl.set hj) hfree' (ready_mono hr (Ne.symm hji)) ?_ hacc ?_⟩
    ·rcases hy with⟨k1,rfl,rfl,rfl,rfl⟩|⟨k1,k2⟩
     ·exact .inl ⟨by rw[Zy g3];exact k1,rfl,rfl,rfl,by funext id;simp [mix]⟩
     ·refine .inr ⟨by rw[Zy g3];exact k1,?_⟩
      exact k2.move (env2:=putE env oj.dst vj) (H2:=mix wrj Hj H) (fun t ht=>QAE fun d hd e=>g3 d hd (by subst e;exact NO ht))
       (fun id hid=>by simp only[mix];rw[if_neg (fun hw=>d2 id hw hid)]) (fun id hid=>by simp only[mix];rw[if_neg (fun hw=>d1 id hid (List.mem_append_right _ hw))])
    ·have e:mix wr H' (mix wrj Hj H)=Hj:=by
      funext id
      simp only[mix]
      split
      ·rename_i hw
       exact(hcj.frame id (fun hj=>d1 id hw (List.mem_append_right _ hj))).symm
      ·rename_i hw
       split
       ·rfl
       ·rename_i hwj
        rw[hcj.frame id hwj,hH id hw]
     rw[e,← QAm env v vj g2,← comm];exact h2

def lexA (P:Program) (md:Region.Mode) (ops:Array Oper) (K:Env→Heap→Prop):List Oper→Nat→List Fp→Env→Heap→Prop
 | [],_,_,env,H=>K env H
 | o::l,k,acc,env,H=>∃ rd wr v H',YA P ops o env H rd wr v H'∧(∀ f∈acc,¬ Bef md ops k f.i→f.ok rd wr=true)∧lexA P md ops K l (k+1) (⟨k,rd,wr⟩::acc) (putE env o.dst v) H'
theorem QDF {K:Env→Heap→Prop}(hs:Region.noSelect ops=true):∀ (l:List Oper) (k:Nat) (listed:Array Bool) (acc:List Fp) (env:Env) (H:Heap),(∀ j,l[j]? = ops[k+j]?)→
  Closed md ops listed→Region.lexFrom md ops l.length k listed=true→lexA P md ops K l k acc env H→anyA P md ops K l.length listed acc env H
 | [],_,_,_,_,_,_,_,hB,h=>⟨by simpa [Region.lexFrom]using hB,h⟩
 | o::l,k,listed,acc,env,H,hl,hcl,hB,h=>by
  have h0:ops[k]? = some o:=by simpa using (hl 0).symm
  simp only[List.length_cons,Region.lexFrom,Bool.and_eq_true]at hB
  obtain⟨⟨hr,hf⟩,hB'⟩:=hB
  obtain⟨rd,wr,v,H',hy,hacc,hK⟩:=h
  have hr':k∈Region.ready md ops listed:=by simpa using hr
  exact QDu h0 l.length listed acc env H H' hcl (Region.free_spec h0 hf) hr' hy hacc
   (QDF hs l (k+1) _ _ _ _ (fun j=>by have:=hl (j+1);simpa [Nat.add_assoc,Nat.add_comm 1 j]using this) (hcl.set hr') hB' hK)

theorem Yp {env:Env}{o:Oper}{a:Act}{G:QM}{Z:Nat→Prop}{w:World}{b:Bool}(he:EnvR G Z w env a.tmps) (h:Um ops env o=some b):Region.wanted o (yielded ops a.tmps)=b:=by
 unfold Um at h
 unfold Region.wanted
 cases hg:o.guard with
 | none=>rw[hg]at h;simpa using h
 | some p=>
  obtain⟨j,want⟩:=p
  rw[hg]at h
  simp only at h ⊢
  unfold yielded
  split at h
  ·rename_i s hs
   split at h
   ·rename_i c hc
    obtain rfl:=Option.some.inj h
    have hr:=he.eval (.tmp s)
    simp only[evA,Act.eval]at hr
    rw[hc]at hr
    have hv:=hr.bool_
    rw[Array.getD_eq_getD_getElem?]at hv
    cases hq:a.tmps[s]? with
    | none=>rw[hq]at hv;simp [undef]at hv
    | some u=>
     rw[hq]at hv
     simp only[Option.getD_some]at hv
     subst hv
     simp only[hs,Option.bind_some,hq]
     cases c<;>cases want<;>rfl
   ·rename_i hc
    obtain rfl:=Option.some.inj h
    have hr:=he.eval (.tmp s)
    simp only[evA,Act.eval]at hr
    rw[hc]at hr
    obtain⟨us,hv,hu,_⟩:=hr.tup_
    rw[Array.getD_eq_getD_getElem?]at hv
    cases hq:a.tmps[s]? with
    | none=>simp only[hs,Option.bind_some,hq];rfl
    | some u=>
     rw[hq]at hv
     simp only[Option.getD_some]at hv
     subst hv
     simp only[hs,Option.bind_some,hq];rfl
   ·cases h
  ·cases h
end
structure Hist (G:QM) (Z:Nat→Prop) (w:World) (G':QM) (Z':Nat→Prop) (w':World):Prop where
 os:w'.os=w.os
 tape:w'.tape=w.tape
 output:w'.output=w.output
 size:w.heap.size≤w'.heap.size
 old:∀ b,b<w.heap.size→¬ Qb G b→w'.heap[b]? = w.heap[b]?
 zin:∀ b,Z b→Z' b∧w'.heap[b]? = w.heap[b]?
 zout:∀ b,Z' b→Z b∨Qb G b∨w.heap.size≤b
 live:∀ b,Qb G' b→Qb G b∨w.heap.size≤b
 room:∀ b (arr:Array Value) e fz,Qb G b→w.heap[b]? = some (.cells arr e fz)→∃ arr' e' fz',w'.heap[b]? = some (.cells arr' e' fz')∧arr'.size=arr.size
 ver:∀ id,100000≤id→(G id).1≤(G' id).1
 same:∀ id,100000≤id→(G' id).1=(G id).1→(G' id).2=none∨(G' id).2=(G id).2
theorem Step.hist {G G':QM}{Z Z':Nat→Prop}{w w':World}(h:Step G Z w G' Z' w'):Hist G Z w G' Z' w':=
 ⟨h.os,h.tape,h.output,h.size,h.old,h.zin,h.zout,h.live,h.room,fun id _=>h.ver id,fun id _=>h.same id⟩
theorem Hist.refl (G:QM) (Z:Nat→Prop) (w:World):Hist G Z w G Z w:=(Step.refl G Z w).hist
theorem Hist.trans {G G1 G2:QM}{Z Z1 Z2:Nat→Prop}{w w1 w2:World}(h1:Hist G Z w G1 Z1 w1) (h2:Hist G1 Z1 w1 G2 Z2 w2):Hist G Z w G2 Z2 w2:=by
 have hold:∀ b,b<w.heap.size→¬ Qb G b→w2.heap[b]? = w.heap[b]?:=fun b hb hn=>by
  rw[h2.old b (Nat.lt_of_lt_of_le hb h1.size) (fun hl=>(h1.live b hl).elim hn (by omega)),h1.old b hb hn]
 refine⟨h2.os.trans h1.os,h2.tape.trans h1.tape,h2.output.trans h1.output,Nat.le_trans h1.size h2.size,hold,fun b hz=>⟨(h2.zin b (h1.zin b hz).1).1,by rw[(h2.zin b (h1.zin b hz).1).2,(h1.zin b hz).2]⟩,fun b hz=> ?_,fun b hl=> ?_,fun b arr e fz hl hh=> ?_,
  fun id hid=>Nat.le_trans (h1.ver id hid) (h2.ver id hid),fun id hid e=> ?_⟩
 ·rcases h2.zout b hz with h3|h3|h3
  ·exact h1.zout b h3
  ·rcases h1.live b h3 with h4|h4
   ·exact .inr (.inl h4)
   ·exact .inr (.inr h4)
  ·exact .inr (.inr (Nat.le_trans h1.size h3))
 ·rcases h2.live b hl with h3|h3
  ·exact h1.live b h3
  ·exact .inr (Nat.le_trans h1.size h3)
 ·obtain⟨arr1,e1,fz1,hh1,hs1⟩:=h1.room b arr e fz hl hh
  by_cases hl1:Qb G1 b
  ·obtain⟨arr2,e2,fz2,hh2,hs2⟩:=h2.room b arr1 e1 fz1 hl1 hh1
   exact⟨arr2,e2,fz2,hh2,by omega⟩
  ·exact⟨arr1,e1,fz1,by rw[h2.old b (VK hh1) hl1];exact hh1,hs1⟩
 ·have a1:=h1.ver id hid
  have a2:=h2.ver id hid
  rcases h2.same id hid (by omega)with h3|h3
  ·exact .inl h3
  ·rcases h1.same id hid (by omega)with h4|h4
   ·exact .inl (h3.trans h4)
   ·exact .inr (h3.trans h4)

structure At0 where
 G:QM
 Z:Nat→Prop
 w:World
def Sim (P:Program) (s:At0) (env:Env) (H:Heap) (a:Act) (w:World):Prop:=
 ∃ G Z,St P G H Z w∧EnvR G Z w env a.tmps∧a.defers = []∧Hist s.G s.Z s.w G Z w
structure HistW (G:QM) (Z:Nat→Prop) (w w':World):Prop where
 os:w'.os=w.os
 tape:w'.tape=w.tape
 output:w'.output=w.output
 size:w.heap.size≤w'.heap.size
 old:∀ b,b<w.heap.size→¬ Qb G b→w'.heap[b]? = w.heap[b]?
 zin:∀ b,Z b→w'.heap[b]? = w.heap[b]?
 room:∀ b (arr:Array Value) e fz,Qb G b→w.heap[b]? = some (.cells arr e fz)→∃ arr' e' fz',w'.heap[b]? = some (.cells arr' e' fz')∧arr'.size=arr.size
def endM:Option Value→FrameMode
 | none=> .returning
 | some v=> .panicking [{ v:=v,recovered:=false }]
def panN:Nat:=4000000000
def panE (v:Value):Env:=⟨panN,fun _=> .f (.lit v)⟩
def Fin (P:Program) (R:Env→Heap→Prop) (s:At0) (m:Option Value) (a:Act) (w:World):Prop:=match m with
 | none=>∃ env H,R env H∧Sim P s env H a w
 | some v=>(∀ env H,R env H→env.n=panN)∧R (panE v) (fun _=>(0,none))∧a.defers = []∧HistW s.G s.Z s.w w
def Goal (P:Program) (F:Option Value→Act→World→Prop) (t:List Item) (a:Act) (w:World):Prop:=
 ∀ (b:Frame) (cs:List Frame),∃ m a' w' t',Steps P (lone (b.at a t) cs w) (lone { b.at a' t' with mode:=endM m } cs w')∧F m a' w'
def Post (P:Program) (F:Option Value→Act→World→Prop) (t:List Item) (e:Exit) (a:Act) (w:World):Prop:=
 (e=.normal∧Goal P F t a w)∨∃ v,e=.panic [{ v:=v,recovered:=false }]∧F (some v) a w
section
variable {P:Program}
theorem Goal.steps {F:Option Value→Act→World→Prop}{t t':List Item}{a a':Act}{w w':World}(h:∀ (b:Frame) cs,Steps P (lone (b.at a t) cs w) (lone (b.at a' t') cs w')) (g:Goal P F t' a' w'):Goal P F t a w:=fun b cs=>by
 obtain⟨m,a2,w2,t2,h1,h2⟩:=g b cs
 exact⟨m,a2,w2,t2,(h b cs).trans h1,h2⟩
theorem Goal.wp {F:Option Value→Act→World→Prop}{c:Code}{t:List Item}{a:Act}{w:World}(h:c.wp P (Post P F t) a w):Goal P F (.code c::t) a w:=fun b cs=>by
 obtain⟨e,a1,w1,h1,h2⟩:=h b t cs
 rcases h1 with⟨rfl,h1⟩|⟨v,rfl,h1⟩
 ·obtain⟨m,a2,w2,t2,h3,h4⟩:=h1 b cs
  exact⟨m,a2,w2,t2,Steps.trans h2 h3,h4⟩
 ·obtain⟨t2,h3⟩:=h2
  exact⟨some v,a1,w1,t2,h3,h1⟩

inductive It where
 | code (c:Yl)
 | ops (l:List LO)
 | dops (l:List DO) (k:Nat) (acc:List Fp)
 | blk (id:Nat)
 | again
abbrev Lams:=List (Env→Heap→Prop)
inductive Mt (P:Program) (R:Env→Heap→Prop) (s:At0):Lams→List It→List Item→Prop
 | nil:Mt P R s [] [] []
 | code {Λ : Lams}{c:Code}{lc:Yl}{k:List It}{t:List Item} : lowC P c=some lc→Mt P R s Λ k t→Mt P R s Λ (.code lc::k) (.code c::t)
 | blk {Λ : Lams}{id:Nat}{k:List It}{t:List Item} : Mt P R s Λ k t→Mt P R s Λ (.blk id::k) (.inBlock id::t)
 | again {Λ : Lams}{L:Env→Heap→Prop}{c:Code}{k:List It}{t:List Item} : (∀ env H a w,L env H→Sim P s env H a w→Goal P (Fin P R s) (.inLoop c::t) a w)→Mt P R s Λ k t→Mt P R s (L::Λ) (.again::k) (.inLoop c::t)

def Ax (P:Program) (R:Env→Heap→Prop) (Λ : Lams) (k:List It) (env:Env) (H:Heap):Prop:=match k with
 | .ops los::k=>∀ (s:At0) (ops:Array Oper) (l:List Oper) (t:List Item),YU P ops l=some los→Mt P R s Λ k t→∀ a w,Sim P s env H a w→wpList P ops (Post P (Fin P R s) t) l a w
 | .dops los n acc::k=>∀ (s:At0) (ops:Array Oper) (l:List Oper) (t:List Item) (ords:List (List Nat)) (accF:List Fp),Xf P ops l ords=some los→(∀ j,l[j]? = ops[n+j]?)→ords.length=n→
   (∀ (j:Nat) (r:List Nat),ords[j]? = some r→∀ i∈r,Bef .any ops j i)→(∀ f∈accF,f∈acc∨(f.rd = []∧f.wr = []))→Mt P R s Λ k t→
   lexA P .any ops (fun env H=>∀ a w,Sim P s env H a w→Goal P (Fin P R s) t a w) l n accF env H
 | k=>∀ (s:At0) (t:List Item),Mt P R s Λ k t→∀ a w,Sim P s env H a w→Goal P (Fin P R s) t a w

variable {R:Env→Heap→Prop}{Λ : Lams}{k:List It}{env:Env}{H:Heap}
theorem ax_nil (h:R env H):Ax P R Λ [] env H:=fun s t hm a w hs=>by
 cases hm
 exact fun b cs=>⟨none,a,w,[],.one step_end,env,H,h,hs⟩
theorem Yc {c:Code}{lc:Yl}(h:lowC P c=some lc):match lc with
  | .skip=>c=.skip
  | .ret=>c=.ret
  | .exit id=>c=.exit id
  | .seq x y=>∃ a b,c=.seq a b∧lowC P a=some x∧lowC P b=some y
  | .cond o x y=>∃ a b,c=.cond o a b∧lowC P a=some x∧lowC P b=some y
  | .block id x=>∃ a,c=.block id a∧lowC P a=some x
  | .loop x=>∃ a,c=.loop a∧lowC P a=some x
  | .reg los=>∃ id ops,c=.region id ops false∧YU P ops ops.toList=some los
  | .draw los=>∃ id ops,c=.region id ops true∧P.follows .mixedOrders=true∧Region.lexB .any ops=true∧Xf P ops ops.toList []=some los:=by
 cases c with
 | skip=>simp only[lowC,Option.some.injEq]at h;subst h;rfl
 | ret=>simp only[lowC,Option.some.injEq]at h;subst h;rfl
 | exit id=>simp only[lowC,Option.some.injEq]at h;subst h;rfl
 | seq a b=>
  simp only[lowC]at h
  split at h
  ·rename_i x y hx hy
   obtain rfl:=Option.some.inj h
   exact⟨a,b,rfl,hx,hy⟩
  ·cases h
 | cond o a b=>
  simp only[lowC]at h
  split at h
  ·rename_i x y hx hy
   obtain rfl:=Option.some.inj h
   exact⟨a,b,rfl,hx,hy⟩
  ·cases h
 | block id a=>
  simp only[lowC]at h
  obtain⟨x,hx,rfl⟩:=Option.map_eq_some_iff.1 h
  exact⟨a,rfl,hx⟩
 | loop a=>
  simp only[lowC]at h
  obtain⟨x,hx,rfl⟩:=Option.map_eq_some_iff.1 h
  exact⟨a,rfl,hx⟩
 | region id ops d=>
  cases d with
  | false=>
   simp only[lowC]at h
   obtain⟨x,hx,rfl⟩:=Option.map_eq_some_iff.1 h
   exact⟨id,ops,rfl,hx⟩
  | true=>
   simp only[lowC]at h
   split at h
   ·rename_i hb
    simp only[Bool.and_eq_true]at hb
    obtain⟨x,hx,rfl⟩:=Option.map_eq_some_iff.1 h
    exact⟨id,ops,rfl,hb.1,hb.2,hx⟩
   ·cases h
 | _=>simp only[lowC]at h;cases h
theorem Ax.go (h:Ax P R Λ k env H){s:At0}{t:List Item}(hm:Mt P R s Λ k t){a:Act}{w:World}(hs:Sim P s env H a w):Goal P (Fin P R s) t a w:=by
 have hm':=hm
 cases hm<;>exact h s _ hm' a w hs
theorem ax_ret (h:R env H):Ax P R Λ (.code .ret::k) env H:=fun s t hm a w hs=>by
 cases hm with
 | @code _ c _ _ t hc hm=>
  have e:c=.ret:=Yc hc
  subst e
  exact fun b cs=>⟨none,a,w,_,.one step_ret,env,H,h,hs⟩
theorem ax_skip (h:Ax P R Λ k env H):Ax P R Λ (.code .skip::k) env H:=fun s t hm a w hs=>by
 cases hm with
 | @code _ c _ _ t hc hm=>
  have e:c=.skip:=Yc hc
  subst e
  exact Goal.steps (fun b cs=> .one step_skip) (h.go hm hs)
theorem ax_seq {x y:Yl}(h:Ax P R Λ (.code x:: .code y::k) env H):Ax P R Λ (.code (.seq x y)::k) env H:=fun s t hm a w hs=>by
 cases hm with
 | code hc hm=>
  obtain⟨c1,c2,rfl,h1,h2⟩:=Yc hc
  exact Goal.steps (fun b cs=> .one step_seq) (h.go (.code h1 (.code h2 hm)) hs)
theorem ax_block {id:Nat}{x:Yl}(h:Ax P R Λ (.code x:: .blk id::k) env H):Ax P R Λ (.code (.block id x)::k) env H:=fun s t hm a w hs=>by
 cases hm with
 | code hc hm=>
  obtain⟨c1,rfl,h1⟩:=Yc hc
  exact Goal.steps (fun b cs=> .one step_block) (h.go (.code h1 (.blk hm)) hs)
theorem ax_blk {id:Nat}(h:Ax P R Λ k env H):Ax P R Λ (.blk id::k) env H:=fun s t hm a w hs=>by
 cases hm with
 | blk hm=>exact Goal.steps (fun b cs=> .one step_inBlock) (h.go hm hs)
theorem ax_cond {c:Operand}{x y:Yl}{b:Bool}(hc:evA env c=.f (.bool b)) (h1:b=true→Ax P R Λ (.code x::k) env H) (h2:b=false→Ax P R Λ (.code y::k) env H):Ax P R Λ (.code (.cond c x y)::k) env H:=fun s t hm a w hs=>by
 cases hm with
 | code hl hm=>
  obtain⟨c1,c2,rfl,g1,g2⟩:=Yc hl
  obtain⟨G,Z,st,he,hd,hh⟩:=id hs
  have hr:=he.eval c
  rw[hc]at hr
  cases b with
  | true=>exact Goal.steps (fun b cs=> .one (step_cond hr.bool_)) ((h1 rfl).go (.code g1 hm) hs)
  | false=>exact Goal.steps (fun b cs=> .one (step_cond hr.bool_)) ((h2 rfl).go (.code g2 hm) hs)
theorem QDt {c:Operand}{x y:Yl}(hc:evA env c=.f .bit) (h1:Ax P R Λ (.code x::k) env H) (h2:Ax P R Λ (.code y::k) env H):Ax P R Λ (.code (.cond c x y)::k) env H:=fun s t hm a w hs=>by
 cases hm with
 | code hl hm=>
  obtain⟨c1,c2,rfl,g1,g2⟩:=Yc hl
  obtain⟨G,Z,st,he,hd,hh⟩:=id hs
  have hr:=he.eval c
  rw[hc]at hr
  obtain⟨b,hb⟩:=hr.bit_
  cases b with
  | true=>exact Goal.steps (fun b cs=> .one (step_cond hb)) (h1.go (.code g1 hm) hs)
  | false=>exact Goal.steps (fun b cs=> .one (step_cond hb)) (h2.go (.code g2 hm) hs)
def JB (id:Nat):Lams→List It→Option (Lams × List It)
 | _,[]=>none
 | Λ,.blk id'::k=>if id'=id then some (Λ,k)else JB id Λ k
 | _::Λ,.again::k=>JB id Λ k
 | [],.again::k=>none
 | Λ,_::k=>JB id Λ k
theorem Mt.pop {s:At0}{id:Nat} : ∀ {Λ : Lams}{k:List It}{t:List Item}{Λ':Lams}{k':List It},Mt P R s Λ k t→JB id Λ k=some (Λ',k')→∃ t',exitTo id t=some t'∧Mt P R s Λ' k' t':=by
 intro Λ k t Λ' k' hm
 induction hm with
 | nil=>intro h;simp [JB]at h
 | code hc hm ih=>
  intro h
  simp only[JB]at h
  obtain⟨t',h1,h2⟩:=ih h
  exact⟨t',by simp only[exitTo];exact h1,h2⟩
 | @blk Λ id' k t hm ih=>
  intro h
  simp only[JB]at h
  by_cases e:id'=id
  ·subst e
   rw[if_pos rfl]at h
   simp only[Option.some.injEq,Prod.mk.injEq]at h
   obtain⟨rfl,rfl⟩:=h
   exact⟨t,by simp [exitTo],hm⟩
  ·rw[if_neg e]at h
   obtain⟨t',h1,h2⟩:=ih h
   have e2:(id' == id)=false:=by simpa using e
   exact⟨t',by simp only[exitTo,e2];simpa using h1,h2⟩
 | again hL hm ih=>
  intro h
  simp only[JB]at h
  obtain⟨t',h1,h2⟩:=ih h
  exact⟨t',by simp only[exitTo];exact h1,h2⟩
theorem ax_exit {id:Nat}{Λ':Lams}{k':List It}(hp:JB id Λ k=some (Λ',k')) (h:Ax P R Λ' k' env H):Ax P R Λ (.code (.exit id)::k) env H:=fun s t hm a w hs=>by
 cases hm with
 | @code _ c _ _ t hc hm=>
  have e:c=.exit id:=Yc hc
  subst e
  obtain⟨t',h1,h2⟩:=hm.pop hp
  exact Goal.steps (fun b cs=> .one (step_exit h1)) (h.go h2 hs)
theorem ax_again {L:Env→Heap→Prop}(h:L env H):Ax P R (L::Λ) (.again::k) env H:=fun s t hm a w hs=>by
 cases hm with
 | again hL hm=>exact hL env H a w h hs
theorem ax_reg {los:List LO}(h:Ax P R Λ (.ops los::k) env H):Ax P R Λ (.code (.reg los)::k) env H:=fun s t hm a w hs=>by
 cases hm with
 | code hc hm=>
  obtain⟨id,ops,rfl,h1⟩:=Yc hc
  exact Goal.wp (wp_region_list (h s ops _ _ h1 hm a w hs))
theorem ax_opsNil (h:Ax P R Λ k env H):Ax P R Λ (.ops []::k) env H:=fun s ops l t hl hm a w hs=>by
 have:l = []:=by
  cases l with
  | nil=>rfl
  | cons o l=>simp only[YU]at hl;split at hl<;>cases hl
 subst this
 exact .inl ⟨rfl,h.go hm hs⟩
theorem Uy {ops:Array Oper}{l:List Oper}{o:LO}{los:List LO}(h:YU P ops l=some (o::los)):∃ c r,l=c::r∧Na P ops c=some o∧YU P ops r=some los:=by
 cases l with
 | nil=>simp [YU]at h
 | cons c r=>
  simp only[YU]at h
  split at h
  ·rename_i a b ha hb
   simp only[Option.some.injEq,List.cons.injEq]at h
   exact⟨c,r,rfl,by rw[ha,h.1],by rw[hb,h.2]⟩
  ·cases h
theorem Ua {ops:Array Oper}{c:Oper}{o:LO}(h:Na P ops c=some o):Xe P c.op=some o.op∧o.dst=c.dst∧WA ops c.guard=some o.guard:=by
 unfold Na at h
 split at h
 ·rename_i a b ha hb
  obtain rfl:=Option.some.inj h
  exact⟨ha,rfl,hb⟩
 ·cases h
def gd (g:Option (Nat × Bool)) (env:Env):Option Bool:=match g with
 | none=>some true
 | some (s,want)=>match env.f s with
  | .f (.bool b)=>some (b == want)
  | .tup []=>some false
  | _=>none
theorem Kq {ops:Array Oper}{c:Oper}{g:Option (Nat × Bool)}(h:WA ops c.guard=some g):Um ops env c=gd g env:=by
 cases e:c.guard with
 | none=>
  rw[e]at h
  obtain rfl:g=none:=(Option.some.inj h).symm
  simp only[Um,gd,e]
 | some p=>
  obtain⟨j,want⟩:=p
  rw[e]at h
  simp only[WA]at h
  obtain⟨s,hs,rfl⟩:=Option.map_eq_some_iff.1 h
  simp only[Um,gd,e,hs]
theorem Sim.next {s:At0}{a:Act}{w w':World}{G G':QM}{Z Z':Nat→Prop}{H':Heap}{v:AV}{u:Value}{dst:Option Nat}(he:EnvR G Z w env a.tmps) (hd:a.defers = []) (hh:Hist s.G s.Z s.w G Z w) (st:St P G' H' Z' w') (h2:Step G Z w G' Z' w') (h3:RepA G' Z' w' v u) :
  Sim P s (putE env dst v) H' (a.put dst u) w':=
 ⟨G',Z',st,(he.keep h2.toKeep).put dst h3,by cases dst<;>exact hd,hh.trans h2.hist⟩
theorem Xl {o:LO}{los:List LO}{Q:AV→Heap→Prop}(hg:gd o.guard env=some true) (hop:∀ (c:Oper),Xe P c.op=some o.op→∀ G Z w (a:Act),St P G H Z w→EnvR G Z w env a.tmps→OpTo P c G H Z w a Q)
  (h:∀ v H',Q v H'→Ax P R Λ (.ops los::k) (putE env o.dst v) H'):Ax P R Λ (.ops (o::los)::k) env H:=fun s ops l t hl hm a w hs=>by
 obtain⟨c,r,rfl,h1,h2⟩:=Uy hl
 obtain⟨g1,g2,g3⟩:=Ua h1
 obtain⟨G,Z,st,he,hd,hh⟩:=hs
 have hw:=Yp he ((Kq (env:=env) g3).trans hg)
 refine wpList_step fun K hK=> ?_
 rw[if_pos hw]
 refine hop c g1 G Z w a st he K _ fun u v H' G' Z' w' hq k1 k2 k3=>hK _ _ ?_
 rw[g2]at h
 exact h v H' hq s ops r t h2 hm _ _ (Sim.next he hd hh k1 k2 k3)
theorem MC {o:LO}{los:List LO}(hg:gd o.guard env=some false) (h:Ax P R Λ (.ops los::k) (putE env o.dst (.tup [])) H):Ax P R Λ (.ops (o::los)::k) env H:=fun s ops l t hl hm a w hs=>by
 obtain⟨c,r,rfl,h1,h2⟩:=Uy hl
 obtain⟨g1,g2,g3⟩:=Ua h1
 obtain⟨G,Z,st,he,hd,hh⟩:=hs
 have hw:=Yp he ((Kq (env:=env) g3).trans hg)
 refine wpList_step fun K hK=> ?_
 rw[if_neg (by rw[hw];decide)]
 rw[g2]at h
 exact hK _ _ (h s ops r t h2 hm _ _ (Sim.next he hd hh st (Step.refl _ _ _) (.tup _ _ rfl fun j x u h=>by simp at h)))
theorem ax_op {o:LO}{los:List LO}{v:AV}{H':Heap}(hg:gd o.guard env=some true) (hx:(eff o.op (evA env) (o.dst.getD 0)).exec H=some (v,H')) (h:Ax P R Λ (.ops los::k) (putE env o.dst v) H'):Ax P R Λ (.ops (o::los)::k) env H:=
 Xl hg (fun c hl G Z w a st he=>(NQ st (fun x=>he.eval x) (fun _=>rfl) hl hx).to) fun v' H'' ⟨h1,h2⟩=>by rw[h1,h2];exact h
theorem Wx {c:Oper}{f:Operand}{args:List Operand}(h:Xe P c.op=some (.call f args)):∃ cl,c.op=.call cl∧cl.callee=.value f∧cl.args.toList=args:=by
 cases ho:c.op<;>rw[ho]at h<;>simp only[Xe]at h<;>try (cases h;done)
 case binOp=>
  split at h
  ·rename_i hn
   obtain rfl:=Option.some.inj h
   obtain⟨_,_,⟨h1,_⟩|⟨h1,_⟩⟩:=Xb hn<;>cases h1
  ·split at h
   ·rename_i hn
    obtain rfl:=Option.some.inj h
    obtain⟨_,_,neg,h1,_⟩:=YW hn
    cases h1
   ·cases h
 case call cl=>
  refine⟨cl,rfl,?_⟩
  split at h
  ·split at h
   ·split at h
    ·cases h
    ·split at h
     ·cases h
     ·split at h<;>cases h
   ·cases h
  ·split at h<;>cases h
  ·split at h<;>cases h
  ·split at h
   ·split at h
    ·split at h
     ·split at h
      ·split at h
       ·cases h
       ·repeat' (first|cases h;done|split at h)
      ·cases h
     ·cases h
    ·cases h
   ·cases h
  ·repeat' (first|cases h;done|split at h)
  ·repeat' (first|cases h;done|split at h)
  ·repeat' (first|cases h;done|split at h)
  ·rename_i f' hc
   simp only[Option.some.injEq,LOp.call.injEq]at h
   exact⟨by rw[hc,h.1],h.2⟩
  ·cases h
 case alloc=>obtain⟨_,_,h⟩:=Option.map_eq_some_iff.1 h;cases h
 case load=>obtain⟨_,_,h⟩:=Option.map_eq_some_iff.1 h;cases h
 case store=>obtain⟨_,_,h⟩:=Option.map_eq_some_iff.1 h;cases h
 case build=>
  split at h
  ·split at h
   ·obtain⟨_,_,h⟩:=Option.map_eq_some_iff.1 h;cases h
   ·cases h
  ·cases h
 case field=>
  split at h
  ·obtain⟨_,_,h⟩:=Option.map_eq_some_iff.1 h;cases h
  ·cases h
 case indexAddr=>
  split at h
  ·obtain⟨_,_,h⟩:=Option.map_eq_some_iff.1 h;cases h
  ·cases h
 all_goals
  repeat' (first|cases h|split at h)
theorem Ys {o:LO}{los:List LO}{f:Operand}{args:List Operand}{Q:AV→Heap→Prop}(ho:o.op=.call f args) (hg:gd o.guard env=some true) (hc:ACallV P (evA env f) (args.map (evA env)) H Q) (h:∀ v H',Q v H'→Ax P R Λ (.ops los::k) (putE env o.dst v) H'):Ax P R Λ (.ops (o::los)::k) env H:=
 Xl hg (fun c hl G Z w a st he=>by
  rw[ho]at hl
  obtain⟨cl,h1,h2,rfl⟩:=Wx hl
  exact call_to st he h1 h2 hc) h
theorem lowOp_cap {c:Oper}{x:Operand}(h:Xe P c.op=some (.cap x)):∃ cl t e,c.op=.call cl∧cl.callee=.builtin .cap∧cl.args = #[x]∧cl.argTypes = #[t]∧P.underlying t=some (.slice e):=by
 cases ho:c.op<;>rw[ho]at h<;>simp only[Xe]at h<;>try (cases h;done)
 case call cl=>
  split at h
  case h_7=>
   rename_i hc
   split at h
   case h_2=>cases h
   rename_i y t ha hat
   split at h
   case isFalse=>cases h
   rename_i he
   obtain⟨e,he⟩:=Zd he
   simp only[Option.some.injEq,LOp.cap.injEq]at h
   subst h
   exact⟨cl,t,e,rfl,hc,arr1 ha,arr1 hat,he⟩
  all_goals repeat' (first|cases h;done|split at h)
 case binOp=>
  split at h
  ·rename_i hn
   obtain rfl:=Option.some.inj h
   obtain⟨_,_,⟨h1,_⟩|⟨h1,_⟩⟩:=Xb hn<;>cases h1
  ·split at h
   ·rename_i hn
    obtain rfl:=Option.some.inj h
    obtain⟨_,_,neg,h1,_⟩:=YW hn
    cases h1
   ·cases h
 case alloc=>obtain⟨_,_,h⟩:=Option.map_eq_some_iff.1 h;cases h
 case load=>obtain⟨_,_,h⟩:=Option.map_eq_some_iff.1 h;cases h
 case store=>obtain⟨_,_,h⟩:=Option.map_eq_some_iff.1 h;cases h
 case build=>
  split at h
  ·split at h
   ·obtain⟨_,_,h⟩:=Option.map_eq_some_iff.1 h;cases h
   ·cases h
  ·cases h
 case field=>
  split at h
  ·obtain⟨_,_,h⟩:=Option.map_eq_some_iff.1 h;cases h
  ·cases h
 case indexAddr=>
  split at h
  ·obtain⟨_,_,h⟩:=Option.map_eq_some_iff.1 h;cases h
  ·cases h
 all_goals
  repeat' (first|cases h;done|split at h)
theorem St.wide {G0:QM}{Z0:Nat→Prop}{w0:World}(st:St P G0 H Z0 w0){id ver g o:Nat}{cs:List AV}(hG:G0 id=(ver,some (some (g,o)))) (hH:H id=(ver,some (.cells cs))){m:Nat}(hm:∀ (arr:Array Value) e fz,w0.heap[g]? = some (.cells arr e fz)→o+m≤arr.size) :
  St P G0 (upd H id (ver,some (.cells (cs++List.replicate (m - cs.length) .any)))) Z0 w0:=by
 have hg:∀ i,(upd H id (ver,some (.cells (cs++List.replicate (m - cs.length) .any))) i).1=(H i).1:=fun i=>by
  by_cases e:i=id
  ·subst e;rw[upd_same,hH]
  ·rw[QL _ _ _ _ e]
 refine⟨fun i=>by rw[hg];exact st.ver i,fun i h=> ?_,fun i ob h=> ?_,st.inj,st.disj,st.zlt,st.glt,st.ones⟩
 ·by_cases e:i=id
  ·subst e;rw[upd_same]at h;cases h
  ·rw[QL _ _ _ _ e]at h;exact st.dead i h
 ·by_cases e:i=id
  ·subst e
   rw[upd_same]at h
   obtain rfl:=Option.some.inj h
   obtain⟨loc,h1,h2⟩:=st.obj i (.cells cs) (by rw[hH])
   rw[hG]at h1
   obtain rfl:=Option.some.inj h1
   refine⟨_,by rw[hG],?_⟩
   obtain⟨arr,et,hh,hc⟩:=h2
   have hsz:=hm arr et (0,0) hh
   have hon:=st.ones i g o (by rw[hG]) arr et (0,0) hh
   refine⟨arr,et,hh,fun j a ha=> ?_⟩
   rcases Nat.lt_or_ge j cs.length with hj|hj
   ·rw[List.getElem?_append_left hj]at ha;exact hc j a ha
   ·rw[List.getElem?_append_right hj]at ha
    have hjl:=(List.getElem?_eq_some_iff.1 ha).1
    rw[List.length_replicate]at hjl
    have ha':a=.any:=List.eq_of_mem_replicate (List.mem_of_getElem? ha)
    subst ha'
    have hlt:o+j<arr.size:=by omega
    exact⟨arr[o+j],Array.getElem?_eq_getElem hlt,hon _ _ (Array.getElem?_eq_getElem hlt),.any _⟩
  ·rw[QL _ _ _ _ e]at h;exact st.obj i ob h
end
end Go.Proofs.YtjfchihkhpinmaaGreatDoor
