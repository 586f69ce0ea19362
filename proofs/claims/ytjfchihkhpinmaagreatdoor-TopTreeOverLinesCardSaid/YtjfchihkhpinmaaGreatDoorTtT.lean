/-
  slices.SortFunc at files and at objects, as the world has it. No statement of the seat is proved here; no conditions.
-/
import Derived.Test.YtjfchihkhpinmaaGreatDoorLaySort
import Derived.Shelf.SlSortCmp.WholeK
import Derived.Shelf.SlSortCmp.NoneTotal
namespace Go.Proofs.YtjfchihkhpinmaaGreatDoor
open Go.RowKit Go.Shelf Go.Sort
set_option linter.unusedVariables false
set_option linter.unusedSimpArgs false
set_option maxRecDepth 100000

section
variable {α : Type}{enc : α→List Value}{k:Nat}
theorem flat_get (hk:∀ x,(enc x).length=k):∀ (l:List α) (i j:Nat) (x : α),l[i]? = some x→j<k→(l.flatMap enc)[i*k+j]? = (enc x)[j]?:=by
 intro l
 induction l with
 | nil=>intro i j x h;simp at h
 | cons y r ih=>
  intro i j x h hj
  cases i with
  | zero=>
   simp at h;subst h
   rw[List.flatMap_cons,Nat.zero_mul,Nat.zero_add,List.getElem?_append_left (by rw[hk];exact hj)]
  | succ i=>
   rw[List.flatMap_cons,List.getElem?_append_right (by rw[hk,Nat.succ_mul];omega),hk,show(i+1)*k+j - k=i*k+j by rw[Nat.succ_mul];omega]
   exact ih i j x (by simpa using h) hj
theorem QAA (hk:∀ x,(enc x).length=k) (l:List α):(l.flatMap enc).length=l.length*k:=by
 induction l with
 | nil=>simp
 | cons y r ih=>rw[List.flatMap_cons,List.length_append,ih,hk,List.length_cons,Nat.succ_mul];omega
variable [Inhabited α]
theorem Jq (hk:∀ x,(enc x).length=k) (l:List α):(flatK enc k l.toArray).toList=l.flatMap enc:=by
 apply List.ext_getElem?
 intro t
 by_cases ht:t<l.length*k
 ·have k0:0<k:=by
   rcases Nat.eq_zero_or_pos k with h|h
   ·subst h;simp at ht
   ·exact h
  have hi:t / k<l.length:=(Nat.div_lt_iff_lt_mul k0).2 ht
  have hj:t % k<k:=Nat.mod_lt _ k0
  have e:t / k*k+t % k=t:=by rw[Nat.mul_comm];exact Nat.div_add_mod t k
  have h1:=flat_get hk l (t / k) (t % k) _ (List.getElem?_eq_getElem hi) hj
  rw[e]at h1
  rw[h1]
  have h2:=get_flatK enc k l.toArray t (by simpa using ht)
  rw[getElem!_pos _ t (by simpa using ht)]at h2
  rw[Array.getElem?_toList,Array.getElem?_eq_getElem (by simpa using ht),h2]
  rw[getElem!_pos l.toArray (t / k) (by simpa using hi)]
  rw[getElem!_pos _ (t % k) (by simpa [hk]using hj),List.getElem?_eq_getElem (by rw[hk];exact hj)]
  simp
 ·rw[List.getElem?_eq_none (by simp;omega),List.getElem?_eq_none (by rw[QAA hk];omega)]
end
abbrev VR (m:Nat):=ByteArray × {r:List Value // r.length=m∧∀ v∈r,v.oneCell'=true}
instance (m:Nat):Inhabited (VR m):=⟨(⟨#[]⟩,⟨List.replicate m (.bool false),List.length_replicate,fun v hv=>by rw[(List.mem_replicate.1 hv).2];rfl⟩)⟩
def encV {m:Nat}(x:VR m):List Value:= .string x.1::x.2.1
def encP {m:Nat}{T:Type}(x:T × VR m):List Value:=encV x.2
theorem Vp {m:Nat}{T:Type}(x:T × VR m):(encP x).length=m+1:=by show(x.2.2.1.length+1)=_;rw[x.2.2.2.1]
theorem Jr {m:Nat}{T:Type}(x:T × VR m):∀ v∈encP x,v.oneCell'=true:=fun v hv=>by
 rcases List.mem_cons.1 hv with rfl|hv
 ·rfl
 ·exact x.2.2.2.2 v hv
def cfP {m:Nat}{T:Type}(x y:T × VR m):Int:=cmpB x.2.1 y.2.1
theorem ltP {m:Nat}{T:Type}(x y:T × VR m):Go.Proofs.ltOf cfP x y=strLt x.2.1 y.2.1:=by
 unfold Go.Proofs.ltOf cfP
 rw[Bool.eq_iff_iff,decide_eq_true_eq];exact Zg
theorem swoP {m:Nat}{T:Type} : SWO (Go.Proofs.ltOf (cfP (m:=m) (T:=T))) where
 irrefl x:=by rw[ltP];exact Qv _
 trans x y z h1 h2:=by rw[ltP]at *;exact XS h1 h2
 ntrans x y z h1 h2:=by
  rw[ltP]at*
  cases h3:strLt x.2.1 z.2.1 with
  | false=>rfl
  | true=>
   rcases ZN h1 with e|h4
   ·rw[e]at h3;rw[h3]at h2;cases h2
   ·have:=XS h4 h3
    rw[this]at h2;cases h2
def SrtP {m:Nat}{T:Type}(d:List (T × VR m)):Prop:=d.Pairwise fun x y=>strLt y.2.1 x.2.1=false

theorem lessF (s t:ByteArray) (a b c d:Value) (W:World):Calls Tryz.prog 30 #[.agg #[.string s,a,b],.agg #[.string t,c,d]] W fun e w'=>e=.returned (.int .i64 (cmpB s t))∧∃ q os',w'=grow (W.drewN q) os':=by
 have hC:=fun w=>Any.strings_Compare Tryz.lays106 s t w
 go_enter Tryz.func30,Tryz.ntmps30
 go_wp2_with (go_at_call 14;refine(hC _).mono ?_;rintro e w' ⟨rfl,rfl⟩)
 go_ret
 exact⟨rfl,0,_,by rw[alloc_eq_grow,alloc_eq_grow,grow_grow];rfl⟩
theorem cmpF {T:Type} [Inhabited T] (blk off size:Nat) (w:World):CmpLays Tryz.prog 30 #[] (encP (m:=2) (T:=T)) (2+1) cfP blk off size w:=fun _ _ _ _ x y=>by
 obtain⟨x0,s,r,h1,h2⟩:=x
 obtain⟨y0,t,r',h3,h4⟩:=y
 obtain⟨a,b,rfl⟩:∃ a b,r = [a,b]:=by
  match r,h1 with
  | [a,b],_=>exact⟨a,b,rfl⟩
 obtain⟨c,d,rfl⟩:∃ c d,r' = [c,d]:=by
  match r',h3 with
  | [a,b],_=>exact⟨a,b,rfl⟩
 exact lessF s t a b c d _
set_option maxHeartbeats 2000000 in
theorem sortF_w {T:Type} [Inhabited T] (d:List (T × VR 2)) (g o c:Nat) (w:World){arr:Array Value}{et:TypeId}{fz:Nat × Nat}(hh:w.heap[g]? = some (.cells arr et (0,0))) (hcr:∀ j,j<d.length*(2+1)→arr[o+j]? = (d.flatMap encP)[j]?) (hn:d.length≤1000000) :
  Calls Tryz.prog 29 #[.slice (some ⟨g,o,none⟩) d.length c,.func (.func 30) #[] #[]] w fun e w'=>e=.returned (.tuple #[])∧∃ d':List (T × VR 2),d'.Perm d∧SrtP d'∧Only g w w'∧∃ arr',w'.heap[g]? = some (.cells arr' et (0,0))∧arr'.size=arr.size∧∀ j,arr'[j]? = if o≤j∧j<o+d.length*(2+1)then(d'.flatMap encP)[j - o]? else arr[j]?:=by
 have hg:g<w.heap.size:=VK hh
 have hHold:HoldsK encP (2+1) w g o d.toArray:=by
  intro j hj
  have hj2:j<d.length*(2+1):=by simpa using hj
  refine⟨?_,by simp [World.frozen?,hh]⟩
  rw[cell_of_row w g _ arr et (0,0) hh,hcr j hj2,← Jq Vp,Array.getElem?_toList,Array.getElem?_eq_getElem hj,getElem!_pos _ j hj];rfl
 have eg:∀ args w,(callFunc 30 args).run Tryz.prog w=.ok (.enter 30 args) w:=enters_of Tryz.func30 (by kernel_rfl) rfl
 have hcon:=AnyQ.slices_SortFunc Tryz.sortFile (2+1) Tryz.isAgg76 Tryz.sizeOf76 (encP (m:=2) (T:=T)) Vp Jr cfP swoP 30 #[] g o c d.toArray w eg (cmpF g o d.toArray.size w) hHold hg (by simp;omega)
 change Calls Tryz.prog 29 _ _ _ at hcon
 refine hcon.mono ?_
 rintro e w' ⟨he,d',n,os,⟨p1,p2,p3⟩,hs,rfl⟩
 have hsz:d'.size=d.length:=by simpa using p1
 have hp:d'.toList.Perm d:=by
  have h:(List.take d.length d'.toList).Perm d:=by simpa using p3
  rwa [List.take_of_length_le (by rw[Array.length_toList,hsz];exact Nat.le_refl _)]at h
 have hW:(Go.Proofs.sortWorldK encP (2+1) w g o n d' os).heap[g]? = some (.cells (putCells _root_.id o (flatK encP (2+1) d') arr) et (0,0)):=by
  show(w.heap.modify g (onCells (putCells _root_.id o (flatK encP (2+1) d')))++os)[g]? = _
  rw[Array.getElem?_append_left (by simpa using hg),Array.getElem?_modify,if_pos rfl,hh]
  rfl
 refine⟨he,d'.toList,hp,?_,⟨rfl,rfl,rfl,?_,fun b hb hne=> ?_,fun arr1 e1 fz1 h1=>⟨_,_,_,hW,?_⟩⟩,_,hW,by simp [putCells],fun j=> ?_⟩
 ·unfold SrtP
  rw[List.pairwise_iff_getElem]
  intro i j hi hj hij
  have hj2:j<d'.size:=by simpa using hj
  have h:=hs i j (Nat.zero_le _) hij (by simp;omega)
  rw[ltP,getElem!_pos d' i (by omega),getElem!_pos d' j hj2]at h
  rw[Array.getElem_toList,Array.getElem_toList]
  exact h
 ·show w.heap.size≤(w.heap.modify g (onCells (putCells _root_.id o (flatK encP (2+1) d')))++os).size
  simp
 ·show(w.heap.modify g (onCells (putCells _root_.id o (flatK encP (2+1) d')))++os)[b]? = _
  rw[Array.getElem?_append_left (by simpa using hb),Array.getElem?_modify,if_neg (fun e=>hne (by rw[e]))]
 ·rw[hh]at h1
  simp only[Option.some.injEq,Obj.cells.injEq]at h1
  rw[← h1.1];simp [putCells]
 ·have hfs:(flatK encP (2+1) d').size=d.length*(2+1):=by simp [hsz]
  unfold putCells
  rw[Array.getElem?_mapIdx]
  by_cases hj:o≤j∧j<o+d.length*(2+1)
  ·rw[if_pos hj]
   have ha:arr[j]? = some (arr[j]'(by
    have h0:=hcr (j - o) (by omega)
    rw[show o+(j - o)=j by omega]at h0
    have h1:(d.flatMap encP)[j - o]? = some ((d.flatMap encP)[j - o]'(by rw[QAA Vp];omega)):=List.getElem?_eq_getElem _
    rw[h1]at h0
    exact(Array.getElem?_eq_some_iff.1 h0).1)):=Array.getElem?_eq_getElem _
   rw[ha,Option.map_some,if_pos (by rw[hfs];exact hj),getElem!_pos _ (j - o) (by rw[hfs];omega)]
   rw[← Jq Vp,Array.toArray_toList,Array.getElem?_toList,Array.getElem?_eq_getElem (by rw[hfs];omega)]
   rfl
  ·rw[if_neg hj]
   cases arr[j]? with
   | none=>rfl
   | some v=>rw[Option.map_some,if_neg (by rw[hfs];exact hj)]

theorem lessO (s t:ByteArray) (a c:Value) (W:World):Calls Tryz.prog 13 #[.agg #[.string s,a],.agg #[.string t,c]] W fun e w'=>e=.returned (.int .i64 (cmpB s t))∧∃ q os',w'=grow (W.drewN q) os':=by
 have hC:=fun w=>Any.strings_Compare Tryz.lays106 s t w
 go_enter Tryz.func13,Tryz.ntmps13
 go_wp2_with (go_at_call 14;refine(hC _).mono ?_;rintro e w' ⟨rfl,rfl⟩)
 go_ret
 exact⟨rfl,0,_,by rw[alloc_eq_grow,alloc_eq_grow,grow_grow];rfl⟩
theorem cmpO {T:Type} [Inhabited T] (blk off size:Nat) (w:World):CmpLays Tryz.prog 13 #[] (encP (m:=1) (T:=T)) (1+1) cfP blk off size w:=fun _ _ _ _ x y=>by
 obtain⟨x0,s,r,h1,h2⟩:=x
 obtain⟨y0,t,r',h3,h4⟩:=y
 obtain⟨a,rfl⟩:∃ a,r = [a]:=by
  match r,h1 with
  | [a],_=>exact⟨a,rfl⟩
 obtain⟨c,rfl⟩:∃ c,r' = [c]:=by
  match r',h3 with
  | [a],_=>exact⟨a,rfl⟩
 exact lessO s t a c _
set_option maxHeartbeats 2000000 in
theorem sortO_w {T:Type} [Inhabited T] (d:List (T × VR 1)) (g o c:Nat) (w:World){arr:Array Value}{et:TypeId}{fz:Nat × Nat}(hh:w.heap[g]? = some (.cells arr et (0,0))) (hcr:∀ j,j<d.length*(1+1)→arr[o+j]? = (d.flatMap encP)[j]?) (hn:d.length≤1000000) :
  Calls Tryz.prog 12 #[.slice (some ⟨g,o,none⟩) d.length c,.func (.func 13) #[] #[]] w fun e w'=>e=.returned (.tuple #[])∧∃ d':List (T × VR 1),d'.Perm d∧SrtP d'∧Only g w w'∧∃ arr',w'.heap[g]? = some (.cells arr' et (0,0))∧arr'.size=arr.size∧∀ j,arr'[j]? = if o≤j∧j<o+d.length*(1+1)then(d'.flatMap encP)[j - o]? else arr[j]?:=by
 have hg:g<w.heap.size:=VK hh
 have hHold:HoldsK encP (1+1) w g o d.toArray:=by
  intro j hj
  have hj2:j<d.length*(1+1):=by simpa using hj
  refine⟨?_,by simp [World.frozen?,hh]⟩
  rw[cell_of_row w g _ arr et (0,0) hh,hcr j hj2,← Jq Vp,Array.getElem?_toList,Array.getElem?_eq_getElem hj,getElem!_pos _ j hj];rfl
 have eg:∀ args w,(callFunc 13 args).run Tryz.prog w=.ok (.enter 13 args) w:=enters_of Tryz.func13 (by kernel_rfl) rfl
 have hcon:=AnyQ.slices_SortFunc Tryz.sortOb (1+1) Tryz.isAgg37 Tryz.sizeOf37 (encP (m:=1) (T:=T)) Vp Jr cfP swoP 13 #[] g o c d.toArray w eg (cmpO g o d.toArray.size w) hHold hg (by simp;omega)
 change Calls Tryz.prog 12 _ _ _ at hcon
 refine hcon.mono ?_
 rintro e w' ⟨he,d',n,os,⟨p1,p2,p3⟩,hs,rfl⟩
 have hsz:d'.size=d.length:=by simpa using p1
 have hp:d'.toList.Perm d:=by
  have h:(List.take d.length d'.toList).Perm d:=by simpa using p3
  rwa [List.take_of_length_le (by rw[Array.length_toList,hsz];exact Nat.le_refl _)]at h
 have hW:(Go.Proofs.sortWorldK encP (1+1) w g o n d' os).heap[g]? = some (.cells (putCells _root_.id o (flatK encP (1+1) d') arr) et (0,0)):=by
  show(w.heap.modify g (onCells (putCells _root_.id o (flatK encP (1+1) d')))++os)[g]? = _
  rw[Array.getElem?_append_left (by simpa using hg),Array.getElem?_modify,if_pos rfl,hh]
  rfl
 refine⟨he,d'.toList,hp,?_,⟨rfl,rfl,rfl,?_,fun b hb hne=> ?_,fun arr1 e1 fz1 h1=>⟨_,_,_,hW,?_⟩⟩,_,hW,by simp [putCells],fun j=> ?_⟩
 ·unfold SrtP
  rw[List.pairwise_iff_getElem]
  intro i j hi hj hij
  have hj2:j<d'.size:=by simpa using hj
  have h:=hs i j (Nat.zero_le _) hij (by simp;omega)
  rw[ltP,getElem!_pos d' i (by omega),getElem!_pos d' j hj2]at h
  rw[Array.getElem_toList,Array.getElem_toList]
  exact h
 ·show w.heap.size≤(w.heap.modify g (onCells (putCells _root_.id o (flatK encP (1+1) d')))++os).size
  simp
 ·show(w.heap.modify g (onCells (putCells _root_.id o (flatK encP (1+1) d')))++os)[b]? = _
  rw[Array.getElem?_append_left (by simpa using hb),Array.getElem?_modify,if_neg (fun e=>hne (by rw[e]))]
 ·rw[hh]at h1
  simp only[Option.some.injEq,Obj.cells.injEq]at h1
  rw[← h1.1];simp [putCells]
 ·have hfs:(flatK encP (1+1) d').size=d.length*(1+1):=by simp [hsz]
  unfold putCells
  rw[Array.getElem?_mapIdx]
  by_cases hj:o≤j∧j<o+d.length*(1+1)
  ·rw[if_pos hj]
   have ha:arr[j]? = some (arr[j]'(by
    have h0:=hcr (j - o) (by omega)
    rw[show o+(j - o)=j by omega]at h0
    have h1:(d.flatMap encP)[j - o]? = some ((d.flatMap encP)[j - o]'(by rw[QAA Vp];omega)):=List.getElem?_eq_getElem _
    rw[h1]at h0
    exact(Array.getElem?_eq_some_iff.1 h0).1)):=Array.getElem?_eq_getElem _
   rw[ha,Option.map_some,if_pos (by rw[hfs];exact hj),getElem!_pos _ (j - o) (by rw[hfs];omega)]
   rw[← Jq Vp,Array.toArray_toList,Array.getElem?_toList,Array.getElem?_eq_getElem (by rw[hfs];omega)]
   rfl
  ·rw[if_neg hj]
   cases arr[j]? with
   | none=>rfl
   | some v=>rw[Option.map_some,if_neg (by rw[hfs];exact hj)]
end Go.Proofs.YtjfchihkhpinmaaGreatDoor
