/-
  The reading of structs of any number of fields. No statement of the seat is proved here; no conditions.
-/
import Derived.Test.YtjfchihkhpinmaaGreatDoorRows
import Derived.WalkKit
import Derived.WalkSpells
import Derived.WalkLawsBesides
import Derived.BigQuiet
import Derived.Deep.QuietTactic
import Derived.Lib.Hide
import Derived.Deep.LoopGhost
import Derived.Deep.DeepCutAuto
import Derived.ProofKit
import Derived.SizedLaws
import Derived.Deep.Slices
import Derived.Deep.CondSized
import Derived.Deep.AppendLies
import Derived.JoinedCond
namespace Go.Proofs.YtjfchihkhpinmaaGreatDoor
open Go.RowKit
open Go.RowKit Go.ChangeShapes Go.WideShapes Go.ChangeAt
set_option linter.unusedVariables false
set_option linter.unusedSimpArgs false

abbrev Rep (α : Type):=World→Nat→α→List Value→Prop

class Stable {α : Type}(R:Rep α):Prop where
 keep:∀ (w w':World) (B B':Nat) (x : α) (cs:List Value),Below B w w'→B≤B'→R w B x cs→R w' B' x cs

def rI (k:IntKind):Rep Int:=fun _ _ x cs=>cs = [.int k x]∧(Lit.int k x).wf=true
def rByte:Rep UInt8:=fun _ _ x cs=>cs = [.int .u8 (x.toNat:Int)]
def rBool:Rep Bool:=fun _ _ x cs=>cs = [.bool x]
def rStr:Rep ByteArray:=fun _ _ x cs=>cs = [.string x]∧x.size≤140737488355328
def rPair {α β : Type}(R:Rep α) (S:Rep β):Rep (α × β):=fun w B x cs=>∃ c1 c2,cs=c1++c2∧R w B x.1 c1∧S w B x.2 c2
def rSl {α : Type}(sz bts:Nat) (R:Rep α):Rep (List α):=fun w B l cs=>
 ∃ (A:Option Addr) (c:Nat),cs = [.slice A l.length c]∧l.length≤c∧c≤maxLen∧l.length*bts≤140737488355328∧
  (0<l.length→∃ b o,A=some ⟨b,o,none⟩∧b<B∧∀ (k:Nat) (x : α),l[k]? = some x→∃ vs:List Value,vs.length=sz∧R w B x vs∧∀ (j:Nat) (u:Value),vs[j]? = some u→w.cell? ⟨b,o+k*sz+j,none⟩=some u)

instance {k:IntKind} : Stable (rI k):=⟨fun _ _ _ _ _ _ _ _ h=>h⟩
instance:Stable rByte:=⟨fun _ _ _ _ _ _ _ _ h=>h⟩
instance:Stable rBool:=⟨fun _ _ _ _ _ _ _ _ h=>h⟩
instance:Stable rStr:=⟨fun _ _ _ _ _ _ _ _ h=>h⟩
instance {α β : Type}{R:Rep α}{S:Rep β} [Stable R] [Stable S]:Stable (rPair R S):=
 ⟨fun w w' B B' _ _ hb hB ⟨c1,c2,e,h1,h2⟩=>⟨c1,c2,e,Stable.keep w w' B B' _ _ hb hB h1,Stable.keep w w' B B' _ _ hb hB h2⟩⟩
instance {α : Type}{sz bts:Nat}{R:Rep α} [Stable R]:Stable (rSl sz bts R):=
 ⟨fun w w' B B' _ _ hb hB ⟨A,c,e,h1,h2,h3,h4⟩=>⟨A,c,e,h1,h2,h3,fun h0=>by
  obtain⟨b,o,hA,hlt,hx⟩:=h4 h0
  refine⟨b,o,hA,by omega,fun k x hk=> ?_⟩
  obtain⟨vs,hl,hR,hc⟩:=hx k x hk
  exact⟨vs,hl,Stable.keep w w' B B' _ _ hb hB hR,fun j u hj=>(hb.cell (p:=⟨b,_,none⟩) hlt).trans (hc j u hj)⟩⟩⟩

section
variable {α : Type}{R:Rep α}{w:World}{B sz bts n c:Nat}{A:Option Addr}{l:List α}
theorem rSl.nil_:rSl sz bts R w B [] [.slice none 0 0]:=⟨none,0,rfl,by simp,by simp,by simp,fun h=>absurd h (by simp)⟩
theorem rSl.len (h:rSl sz bts R w B l [.slice A n c]):l.length=n:=by
 obtain⟨A',c',e,_⟩:=h
 simp only[List.cons.injEq,Value.slice.injEq,and_true]at e
 exact e.2.1.symm
theorem rSl.le (h:rSl sz bts R w B l [.slice A n c]):n≤c∧c≤9223372036854775807∧n*bts≤140737488355328:=by
 obtain⟨A',c',e,h1,h2,h3,_⟩:=h
 simp only[List.cons.injEq,Value.slice.injEq,and_true]at e
 obtain⟨rfl,rfl,rfl⟩:=e
 unfold maxLen at h2
 exact⟨h1,h2,h3⟩
theorem rSl.at_ {k:Nat}(h:rSl sz bts R w B l [.slice A n c]) (hk:k<n) :
  ∃ b o x vs,A=some ⟨b,o,none⟩∧b<B∧l[k]? = some x∧vs.length=sz∧R w B x vs∧∀ (j:Nat) (u:Value),vs[j]? = some u→w.cell? ⟨b,o+k*sz+j,none⟩=some u:=by
 have hn:=h.len
 obtain⟨A',c',e,_,_,_,h4⟩:=h
 simp only[List.cons.injEq,Value.slice.injEq,and_true]at e
 obtain⟨rfl,_,rfl⟩:=e
 obtain⟨b,o,hA,hb,hx⟩:=h4 (by omega)
 have hl:l[k]? = some (l[k]'(by omega)):=List.getElem?_eq_getElem (by omega)
 obtain⟨vs,h1,h2,h3⟩:=hx k _ hl
 exact⟨b,o,_,vs,hA,hb,hl,h1,h2,h3⟩
theorem rSl.keep [Stable R] {w':World}{B':Nat}{cs:List Value}(h:rSl sz bts R w B l cs) (hb:Below B w w') (hB:B≤B'):rSl sz bts R w' B' l cs:=
 Stable.keep (R:=rSl sz bts R) w w' B B' _ _ hb hB h
end

theorem run_max_int {P:Program}(ts:Array TypeId) (t:TypeId) (k:IntKind) (x y:Int) (w:World):Sem.run P (Builtin.max_ ts t #[.int k x,.int k y]) w=.ok (.int k (max x y)) w:=by
 simp only[Builtin.max_,List.foldlM,Builtin.max2,Sem.run_pure,Sem.run_bind,Result.andThen_ok,pure_bind]
 congr 2
 simp only[Int.max_def];split<;>split<;>omega
structure ElemOk (P:Program) (t e:TypeId) (size bytes:Nat):Prop where
 under:P.underlying t=some (.slice e)
 info:∃ i z,P.info? e=some i∧i.zero=some z∧i.size=size∧i.bytes=bytes∧z.cells.size=size
 pos:0<size
section
variable {P:Program}{w0:World}{ops:Array Oper}{rest:List Oper}{o:Oper}{a:Act}{Q:Exit→Act→World→Prop}
end
def MG {α : Type}(P:Program) (H:Type) (enc:TypeId × Value→H) (W:World) (t:TypeId) (sz:Nat) (R:Rep α) (μ : α→Nat):Prop:=
 ∀ (B fuel:Nat) (cs:List Value) (x:DataW H × List MemPlace),DataW.trod enc P W 0 (fun _=>true) true fuel t cs=some x→(∀ q∈x.2,q.block<B)→(∀ n∈x.1.weights P t,n≤reachBytes)→cs.length=sz→
  ∃ a,R W B a cs∧μ a≤Rows.uptoBulk x.1

def mSl {α : Type}(μ : α→Nat) (l:List α):Nat:=(l.map μ).sum+1

section
variable {P:Program}{H:Type}{enc:TypeId × Value→H}{W:World}{t e:TypeId}

theorem opens_int {k:IntKind}(ht:P.underlying t=some (.int k)):MG P H enc W t 1 (rI k) (fun _=>1):=by
 intro B fuel cs x h _ _ _
 obtain⟨n,rfl,rfl,hw⟩:=DataW.trod_int ht h
 exact⟨n,⟨rfl,hw⟩,by simp [Rows.uptoBulk]⟩
theorem QDU (ht:P.underlying t=some (.int .u8)):MG P H enc W t 1 rByte (fun _=>1):=by
 intro B fuel cs x h _ _ _
 obtain⟨n,rfl,rfl,hw⟩:=DataW.trod_int ht h
 have hb:0≤n∧n≤255:=by simpa [Lit.wf,IntKind.min,IntKind.max,IntKind.signed,IntKind.bits]using hw
 refine⟨UInt8.ofNat n.toNat,?_,by simp [Rows.uptoBulk]⟩
 have:((UInt8.ofNat n.toNat).toNat:Int)=n:=by
  rw[UInt8.toNat_ofNat']
  omega
 show [Value.int .u8 n] = [.int .u8 ((UInt8.ofNat n.toNat).toNat:Int)]
 rw[this]
theorem QDV (ht:P.underlying t=some .bool):MG P H enc W t 1 rBool (fun _=>1):=by
 intro B fuel cs x h _ _ _
 obtain⟨b,rfl,rfl⟩:=DataW.trod_bool ht h
 exact⟨b,rfl,by simp [Rows.uptoBulk]⟩
theorem opens_str (ht:P.underlying t=some .string):MG P H enc W t 1 rStr (fun s=>s.size+1):=by
 intro B fuel cs x h _ hw _
 obtain⟨s,rfl,rfl,_⟩:=DataW.trod_string ht h
 have e:s.data.toList.length=s.size:=by rw[Array.length_toList];rfl
 have:=hw s.data.toList.length (by simp [DataW.weights])
 refine⟨s,⟨rfl,by unfold reachBytes at this;omega⟩,by simp [Rows.uptoBulk,e]⟩

theorem QCF {β : Type}(f : β→DataW H):∀ l:List β,Rows.uptoBulkAll (l.map f)=(l.map fun x=>Rows.uptoBulk (f x)).sum:=by
 intro l
 induction l with
 | nil=>rfl
 | cons x r ih=>simp [Rows.uptoBulkAll,ih]
theorem MI {d:DataW H} : ∀ {l:List (DataW H)},d∈l→∀ n∈d.weights P e,n∈DataW.weightsAll P e l:=by
 intro l
 induction l with
 | nil=>intro h;cases h
 | cons x r ih=>
  intro h n hn
  simp only[DataW.weightsAll,List.mem_append]
  rcases List.mem_cons.1 h with rfl|h
  ·exact .inl hn
  ·exact .inr (ih h n hn)

theorem UT {α : Type}{sz bts:Nat}{R:Rep α}{μ : α→Nat}(ht:P.underlying t=some (.slice e)) (hc:P.cellsOf e=sz) (hby:P.bytesOf e=bts) (hpos:0<sz) (he:MG P H enc W e sz R μ) :
  MG P H enc W t 1 (rSl sz bts R) (mSl μ):=by
 intro B fuel cs x h hlt hw _
 rcases Go.Deep.open_slice ht h with⟨rfl,rfl⟩|⟨a,len,cap,m,n,D,Pl,rfl,_,hl,hm,hmm,rfl,hx⟩
 ·exact⟨[],rSl.nil_,by simp [mSl,Rows.uptoBulk]⟩
 ·simp only[if_true]at hmm
  subst hmm
  rw[hc]at hx hlt
  have hw0:=hw ((((List.range len).map D).length+((List.range (m - len)).map fun j=>D (len+j)).length)*P.bytesOf e) (by simp [DataW.weights,ht])
  simp only[List.length_map,List.length_range,hby]at hw0
  have hwi:∀ i,i<len→∀ n∈(D i).weights P e,n≤reachBytes:=by
   intro i hi n hn
   refine hw n ?_
   simp only[DataW.weights,ht,List.mem_cons,List.mem_append]
   exact .inr (.inl (MI (List.mem_map.2 ⟨i,List.mem_range.2 hi,rfl⟩) n hn))
  have hel:∀ i,i<len→∃ y : α × List Value,y.2.length=sz∧R W B y.1 y.2∧μ y.1≤Rows.uptoBulk (D i)∧∀ (j:Nat) (u:Value),y.2[j]? = some u→W.cell? (a.add (i*sz+j))=some u:=by
   intro i hi
   obtain⟨cs',h1,h2⟩:=hx i (by omega)
   obtain⟨_,hcl,hat⟩:=World.cells?_some h1
   obtain⟨y,hy,hμ⟩:=he B n cs' _ h2 (fun q hq=>hlt q (List.mem_append_right _ (List.mem_flatMap.2 ⟨i,List.mem_range.2 (by omega),hq⟩))) (hwi i hi) hcl
   refine⟨(y,cs'),hcl,hy,hμ,fun j u hj=> ?_⟩
   have hjl:j<sz:=by have:=(List.getElem?_eq_some_iff.1 hj).1;rwa [hcl]at this
   have:=hat j hjl
   rw[Go.Deep.add_add]at this
   rw[this];exact hj
  have hch:∃ f:Nat→Option (α × List Value),∀ i,i<len→∃ y,f i=some y∧y.2.length=sz∧R W B y.1 y.2∧μ y.1≤Rows.uptoBulk (D i)∧∀ (j:Nat) (u:Value),y.2[j]? = some u→W.cell? (a.add (i*sz+j))=some u:=by
   obtain⟨f,hf⟩:=Go.Deep.choose_lt (α:=Option (α × List Value)) (p:=fun i o=>∃ y,o=some y∧y.2.length=sz∧R W B y.1 y.2∧μ y.1≤Rows.uptoBulk (D i)∧∀ (j:Nat) (u:Value),y.2[j]? = some u→W.cell? (a.add (i*sz+j))=some u)
    (fun i hi=>let ⟨y,hy⟩:=hel i hi;⟨some y,y,rfl,hy⟩)
   exact⟨f,hf⟩
  obtain⟨f,hf⟩:=hch
  have hlist:∃ ys:List (α × List Value),ys.length=len∧∀ i y,ys[i]? = some y→f i=some y:=by
   have:∀ k,k≤len→∃ ys:List (α × List Value),ys.length=k∧∀ i y,ys[i]? = some y→f i=some y:=by
    intro k
    induction k with
    | zero=>intro _;exact⟨[],rfl,fun i y h=>by simp at h⟩
    | succ k ih=>
     intro hk
     obtain⟨ys,h1,h2⟩:=ih (by omega)
     obtain⟨y,hy,_⟩:=hf k (by omega)
     refine⟨ys++ [y],by simp [h1],fun i z hz=> ?_⟩
     by_cases hi:i<k
     ·rw[List.getElem?_append_left (by omega)]at hz;exact h2 i z hz
     ·have hi2:i<k+1:=by have:=(List.getElem?_eq_some_iff.1 hz).1;simpa [h1]using this
      obtain rfl:i=k:=by omega
      rw[List.getElem?_append_right (by omega),h1]at hz
      simp at hz
      rw[hy,hz]
   exact this len (Nat.le_refl _)
  obtain⟨ys,hyl,hyf⟩:=hlist
  have hyp:∀ i y,ys[i]? = some y→y.2.length=sz∧R W B y.1 y.2∧μ y.1≤Rows.uptoBulk (D i)∧∀ (j:Nat) (u:Value),y.2[j]? = some u→W.cell? (a.add (i*sz+j))=some u:=by
   intro i y hy
   have hi:i<len:=by rw[← hyl];exact(List.getElem?_eq_some_iff.1 hy).1
   obtain⟨z,hz,r⟩:=hf i hi
   rw[hyf i y hy]at hz
   cases hz
   exact r
  refine⟨ys.map (·.1),⟨some a,m,by simp [hyl],by simpa [hyl]using hl,hm,?_,fun h0=> ?_⟩,?_⟩
  ·have:len*bts≤(len+(m - len))*bts:=Nat.mul_le_mul_right _ (by omega)
   simp only[List.length_map,hyl]
   unfold reachBytes at hw0
   omega
  ·simp only[List.length_map,hyl]at h0
   obtain⟨y0,hy0⟩:∃ y,ys[0]? = some y:=⟨_,List.getElem?_eq_getElem (by omega)⟩
   obtain⟨hl0,_,_,hc0⟩:=hyp 0 y0 hy0
   obtain⟨b,off,spot⟩:=a
   have hspot:spot=none:=by
    have hu:∃ u,y0.2[0]? = some u:=⟨_,List.getElem?_eq_getElem (by omega)⟩
    obtain⟨u,hu⟩:=hu
    have:=hc0 0 u hu
    simpa [Addr.add]using World.cell?_spot this
   subst hspot
   refine⟨b,off,rfl,hlt (.cell b off) (List.mem_append_left _ (MemPlace.mem_row.2 ⟨0,Nat.mul_pos (by omega) hpos,by simp⟩)),fun k x hk=> ?_⟩
   rw[List.getElem?_map,Option.map_eq_some_iff]at hk
   obtain⟨y,hy,rfl⟩:=hk
   obtain⟨h1,h2,_,h4⟩:=hyp k y hy
   refine⟨y.2,h1,h2,fun j u hj=> ?_⟩
   have:=h4 j u hj
   rw[Addr.add_lit]at this
   rw[Nat.add_assoc];exact this
  ·simp only[mSl,Rows.uptoBulk,QCF,List.map_map]
   have:∀ (k:Nat) (ys:List (α × List Value)),(∀ i y,ys[i]? = some y→μ y.1≤Rows.uptoBulk (D (k+i)))→(ys.map (μ ∘ fun x=>x.1)).sum≤((List.range' k ys.length).map fun i=>Rows.uptoBulk (D i)).sum:=by
    intro k ys
    induction ys generalizing k with
    | nil=>intro _;simp
    | cons y r ih=>
     intro h
     have h0:=h 0 y rfl
     have h1:=ih (k+1) (fun i z hz=>by have:=h (i+1) z (by simpa using hz);rwa [show k+(i+1)=k+1+i by omega]at this)
     simp only[List.map_cons,List.sum_cons,List.length_cons,List.range'_succ,Function.comp_apply]
     simp only[Nat.add_zero]at h0
     omega
   have h:=this 0 ys (fun i y hy=>by rw[Nat.zero_add];exact(hyp i y hy).2.2.1)
   rw[hyl,← List.range_eq_range']at h
   omega

theorem QBi {α : Type}{sz bts:Nat}{R:Rep α}{μ : List α→Nat}{v:Value}{d:DataW H}{p:List MemPlace}{r:Reach}{b0 B:Nat}(ht:P.underlying t=some (.slice e)) (ho:MG P H enc W t 1 (rSl sz bts R) μ)
  (hv:Value.okWide P W r b0 t v) (h:DataW.Trod enc P W 0 (fun _=>true) true t v d p) (hlt:∀ q∈p,q.block<B) (hw:∀ n∈d.weights P t,n≤reachBytes) :
  ∃ A n c l,v=.slice A n c∧rSl sz bts R W B l [.slice A n c]∧μ l≤Rows.uptoBulk d:=by
 obtain⟨A,n,c,rfl⟩:=okWide_slice ht hv
 obtain⟨fuel,hf⟩:=h
 obtain⟨l,hl,hm⟩:=ho B fuel _ _ hf hlt hw (by simp [Value.cells])
 exact⟨A,n,c,l,rfl,hl,hm⟩
theorem arg_int {k:IntKind}{v:Value}{d:DataW H}{p:List MemPlace}{r:Reach}{b0:Nat}(ht:P.underlying t=some (.int k))
  (hv:Value.okWide P W r b0 t v) (h:DataW.Trod enc P W 0 (fun _=>true) true t v d p):∃ n,v=.int k n∧(Lit.int k n).wf=true:=by
 obtain⟨n,rfl,_,_,hw⟩:=open_int ht hv h
 exact⟨n,rfl,hw⟩
theorem Mx (hl:laidOutB P=true){W':World}(hb:Below W.heap.size W W'):∀ {ts:List TypeId}{vs:List Value}{ds:List (DataW H)}{ps:List MemPlace},
  (∀ t∈ts,P.readableRec t=true∧t<P.types.size)→DataW.TrodAll enc P W 0 (fun _=>true) true ts vs ds ps→(∀ x∈ps,x.block<W.heap.size)→DataW.TrodAll enc P W' 0 (fun b=>decide (b<W.heap.size)) true ts vs ds ps:=by
 intro ts
 induction ts with
 | nil=>
  intro vs ds ps _ h _
  match vs,ds,h with
  | [],[],h=>exact h
 | cons t ts ih=>
  intro vs ds ps hr h hlt
  match vs,ds,h with
  | v::vs,d::ds,⟨p,q,h1,h2,e⟩=>
   subst e
   exact⟨p,q,Below.trod hl (hr t (by simp)).1 (hr t (by simp)).2 h1 hb (fun x hx=>hlt x (by simp [hx])),ih (fun t ht=>hr t (by simp [ht])) h2 (fun x hx=>hlt x (by simp [hx])),rfl⟩

theorem law_post {f:Func}{s:ChangeSpec}{W':World}{args:Array Value}{ds:List (DataW H)}{before:List MemPlace}{tb:TypeId}(hl:laidOutB P=true) (hr:(f.params.toList.all fun t=>P.readableRec t&&decide (t<P.types.size))=true)
  (hres:f.resultTypes = #[tb]) (htb:P.underlying tb=some .bool) (hvars:s.vars = [])
  (hW:DataW.Whole enc P f.params.toList s.vars false W args.toList ds [] before)
  (hs1:(s.fn H (ds++ [])).results = [.lit (.bool true)]) (hs2:(s.fn H (ds++ [])).args=ds) (hs3:(s.fn H (ds++ [])).vars = [])
  (hb:Below W.heap.size W W'):s.post enc P f false true false false W args (.bool true) W':=by
 have hW':=hW
 have hlt:∀ x∈before,x.block<W.heap.size:=fun x hx=>by simpa using hW'.lt x hx
 obtain⟨p,q,hA,hV,e,_⟩:=hW
 rw[hvars]at hV
 obtain⟨rfl⟩:q = []:=by simpa [DataW.TrodVars]using hV
 simp only[List.append_nil]at e
 subst e
 refine⟨ds,[],before,[],before,[],hW',?_,?_,?_,hb.frame _,fun h=>by cases h⟩
 ·rw[hs1,hres]
  show DataW.TrodAll enc P W' W.heap.size (fun _=>false) false [tb] [.bool true] [.lit (.bool true)] []
  exact trodAll_mk1 (shut_bool htb true)
 ·rw[hs2]
  refine Mx hl hb (fun t ht=> ?_) hA hlt
  have:=List.all_eq_true.1 hr t ht
  simpa using this
 ·rw[hs3,hvars];rfl

theorem NA {ts:List TypeId}{ds:List (DataW H)}(h:(DataW.weightsEach P ts ds).all (·≤reachBytes)=true){j:Nat}{d:DataW H}(ht:ts[j]? = some t) (hd:ds[j]? = some d):∀ n∈d.weights P t,n≤reachBytes:=
 fun n hn=>by simpa using List.all_eq_true.1 h n (DataW.weights_mem_each ht hd n hn)
end
section
variable {P:Program}{H:Type}{enc:TypeId × Value→H}{W:World}{t e:TypeId}
def QDJ {α : Type}(P:Program) (H:Type) (enc:TypeId × Value→H) (W:World) (fs:List Field) (off sz:Nat) (R:Rep α) (μ : α→Nat):Prop:=
 ∀ (B fuel:Nat) (cs:List Value) (xs:List (DataW H × List MemPlace)),xs.length=fs.length→(∀ (i:Nat) (f:Field),fs[i]? = some f→DataW.trod enc P W 0 (fun _=>true) true fuel f.type ((cs.drop f.offset).take (P.cellsOf f.type))=xs[i]?)→
  (∀ x∈xs,∀ q∈x.2,q.block<B)→(∀ (i:Nat) (f:Field) (x:DataW H × List MemPlace),fs[i]? = some f→xs[i]? = some x→∀ n∈x.1.weights P f.type,n≤reachBytes)→off+sz≤cs.length→
  ∃ a,R W B a ((cs.drop off).take sz)∧μ a≤Rows.uptoBulkAll (xs.map (·.1))
theorem KW {α : Type}{f:Field}{off sz:Nat}{R:Rep α}{μ : α→Nat}(ho:f.offset=off) (hc:P.cellsOf f.type=sz) (h:MG P H enc W f.type sz R μ):QDJ P H enc W [f] off sz R μ:=by
 intro B fuel cs xs hl hx hp hw hcs
 match xs,hl with
 | [y],_=>
  have g:=hx 0 f rfl
  rw[ho,hc]at g
  obtain⟨a,ha,hm⟩:=h B fuel _ _ g (fun q hq=>hp y (by simp) q hq) (fun n hn=>hw 0 f y rfl rfl n hn) (by simp;omega)
  exact⟨a,ha,by simpa [Rows.uptoBulkAll]using hm⟩
theorem Yz {α β : Type}{f:Field}{fs:List Field}{off s0 s1:Nat}{R:Rep α}{S:Rep β}{μ : α→Nat}{ν : β→Nat}(ho:f.offset=off) (hc:P.cellsOf f.type=s0) (h:MG P H enc W f.type s0 R μ)
  (hr:QDJ P H enc W fs (off+s0) s1 S ν):QDJ P H enc W (f::fs) off (s0+s1) (rPair R S) (fun x=>μ x.1+ν x.2):=by
 intro B fuel cs xs hl hx hp hw hcs
 match xs,hl with
 | y::ys,hl=>
  have g:=hx 0 f rfl
  rw[ho,hc]at g
  obtain⟨a,ha,hm⟩:=h B fuel _ _ g (fun q hq=>hp y (by simp) q hq) (fun n hn=>hw 0 f y rfl rfl n hn) (by simp;omega)
  obtain⟨b,hb,hn⟩:=hr B fuel cs ys (by simpa using hl) (fun i f' hf=>by have:=hx (i+1) f' (by simpa using hf);simpa using this) (fun x hx q hq=>hp x (by simp [hx]) q hq)
   (fun i f' x hf hxi n hn=>hw (i+1) f' x (by simpa using hf) (by simpa using hxi) n hn) (by omega)
  refine⟨(a,b),⟨(cs.drop off).take s0,(cs.drop (off+s0)).take s1,?_,ha,hb⟩,?_⟩
  ·rw[List.take_add,List.drop_drop]
  ·simp [Rows.uptoBulkAll];omega
theorem NB {n:Nat} : ∀ {ts:List TypeId}{ds:List (DataW H)}{i:Nat}{t:TypeId}{d:DataW H},ts[i]? = some t→ds[i]? = some d→n∈d.weights P t→n∈DataW.weightsEach P ts ds:=
 fun ht hd hn=>DataW.weights_mem_each ht hd n hn
theorem QAq {α : Type}{fs:List Field}{sz:Nat}{R:Rep α}{μ : α→Nat}(ht:P.underlying t=some (.struct fs.toArray)) (hc:P.cellsOf t=sz) (h:QDJ P H enc W fs 0 sz R μ):MG P H enc W t sz R (fun x=>μ x+1):=by
 intro B fuel cs x hx hlt hw hcs
 obtain⟨xs,n,_,rfl,hlen,hxl,hg⟩:=DataW.trod_struct ht hx
 obtain⟨a,ha,hm⟩:=h B n cs xs (by simpa using hxl) (fun i f hf=>by have:=hg i f (by simpa using hf);exact this) (fun y hy q hq=>hlt q (List.mem_flatMap.2 ⟨y,hy,hq⟩))
  (fun i f y hf hy m hm=>hw m (by
    simp only[DataW.weights,ht]
    refine NB (i:=i) (t:=f.type) (d:=y.1) ?_ ?_ hm
    ·simp [hf]
    ·simp [hy])) (by omega)
 refine⟨a,?_,?_⟩
 ·rw[List.drop_zero,List.take_of_length_le (by omega)]at ha
  exact ha
 ·simp [Rows.uptoBulk];omega
end
end Go.Proofs.YtjfchihkhpinmaaGreatDoor
