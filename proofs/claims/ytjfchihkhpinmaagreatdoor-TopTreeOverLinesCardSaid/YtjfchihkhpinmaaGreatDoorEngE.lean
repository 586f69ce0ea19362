/-
  The abstract machine: what a lowered operation does to an abstract state is what the operation does. No statement of the seat is proved here; no conditions.
-/
import Derived.WalkKit
import Derived.SizedLaws
import Derived.Deep.MidRow
import Derived.Deep.AppendSrc
import Derived.Maps.OwnSet
import Derived.Deep.Draws
import Derived.Great.BuildSlice
import Derived.Lib.LaidTab
import Derived.Lib.ItoaNum
namespace Go.Proofs.YtjfchihkhpinmaaGreatDoor
open Go.RowKit
set_option linter.unusedVariables false
set_option linter.unusedSimpArgs false

inductive FV where
 | int (k:IntKind) (n:Int)
 | bool (b:Bool)
 | str (s:ByteArray)
 | lit (v:Value)
 | nil
 | fr (sz:Nat) (l:List (List FV))
 | fp (cells:List FV)
 | fn (f:Fn)
 | bit
 | fm (m:List (ByteArray × Value))
 | fc (f:Fn) (caps:List FV)

def MapR (es:Array MapEntry) (m:List (ByteArray × Value)):Prop:=es.size=m.length∧(m.map (·.1)).Nodup∧(∀ p∈m,p.2.oneCell'=true)∧∀ (i:Nat) (p:ByteArray × Value),m[i]? = some p→∃ e,es[i]? = some e∧e.key=.string p.1∧e.val=p.2
inductive AV where
 | any
 | f (x:FV)
 | sl (id ver sz off n:Nat)
 | ptr (id ver off:Nat)
 | map (id ver:Nat)
 | agg (cells:List AV)
 | tup (vs:List AV)
 | clo (f:Fn) (caps:List AV)
 | slc (id ver sz off n c:Nat)
instance:Inhabited AV:=⟨.any⟩

inductive AObj where
 | cells (cs:List AV)
 | map (m:List (ByteArray × Value))
 | ty (cs:List AV) (t:TypeId)

abbrev Heap:=Nat→Nat × Option AObj
abbrev QM:=Nat→Nat × Option (Option (Nat × Nat))

inductive RepF (Z:Nat→Prop) (w:World):FV→Value→Prop
 | int (k:IntKind) (n:Int):RepF Z w (.int k n) (.int k n)
 | bool (b:Bool):RepF Z w (.bool b) (.bool b)
 | str (s:ByteArray):RepF Z w (.str s) (.string s)
 | lit (v:Value):RepF Z w (.lit v) v
 | nil (A:Option Addr):RepF Z w .nil (.slice A 0 0)
 | frNil (sz:Nat) (A:Option Addr) (c:Nat):c≤maxLen→RepF Z w (.fr sz []) (.slice A 0 c)
 | fr (sz:Nat) (l:List (List FV)) (b o c:Nat) (us:Nat→Nat→Value):0<l.length→l.length≤c→c≤maxLen→Z b→(∀ x∈l,x.length=sz)→
   (∀ k j,k<l.length→j<sz→w.cell? ⟨b,o+k*sz+j,none⟩=some (us k j)∧(us k j).oneCell'=true)→
   (∀ k j x a,l[k]? = some x→x[j]? = some a→RepF Z w a (us k j))→RepF Z w (.fr sz l) (.slice (some ⟨b,o,none⟩) l.length c)
 | fp (cells:List FV) (b o:Nat) (us:Nat→Value):Z b→(∀ j,j<cells.length→w.cell? ⟨b,o+j,none⟩=some (us j)∧(us j).oneCell'=true)→
   (∀ j a,cells[j]? = some a→RepF Z w a (us j))→RepF Z w (.fp cells) (.pointer (some ⟨b,o,none⟩))
 | fn (f:Fn):RepF Z w (.fn f) (.func f #[] #[])
 | bit (b:Bool):RepF Z w .bit (.bool b)
 | fm (m:List (ByteArray × Value)) (g:Nat):Z g→(∃ es clock,w.heap[g]? = some (.map es clock)∧MapR es m)→RepF Z w (.fm m) (.map (some g))
 | fc (f:Fn) (caps:List FV) (us:Array Value):us.size=caps.length→(∀ (j:Nat) (a:FV) (u:Value),caps[j]? = some a→us[j]? = some u→RepF Z w a u)→RepF Z w (.fc f caps) (.func f #[] us)

theorem QBa {w w':World}{b o:Nat}(h:w'.heap[b]? = w.heap[b]?):w'.cell? ⟨b,o,none⟩=w.cell? ⟨b,o,none⟩:=World.cell?_of_block (w:=w) h
theorem RepF.keep {Z Z':Nat→Prop}{w w':World}(hz:∀ b,Z b→Z' b∧w'.heap[b]? = w.heap[b]?){a:FV}{v:Value}(h:RepF Z w a v):RepF Z' w' a v:=by
 induction h with
 | int k n=>exact .int k n
 | bool b=>exact .bool b
 | str s=>exact .str s
 | lit v=>exact .lit v
 | nil A=>exact .nil A
 | frNil sz A c hc=>exact .frNil sz A c hc
 | fr sz l b o c us h0 h1 h2 hb hl hc _ ih=>exact .fr sz l b o c us h0 h1 h2 (hz b hb).1 hl (fun k j hk hj=>by rw[QBa (hz b hb).2];exact hc k j hk hj) ih
 | fp cells b o us hb hc _ ih=>exact .fp cells b o us (hz b hb).1 (fun j hj=>by rw[QBa (hz b hb).2];exact hc j hj) ih
 | fn f=>exact .fn f
 | bit b=>exact .bit b
 | fm m g h1 h2=>obtain⟨es,clock,h3,h4⟩:=h2;exact .fm m g (hz g h1).1 ⟨es,clock,by rw[(hz g h1).2];exact h3,h4⟩
 | fc f caps us h1 _ ih=>exact .fc f caps us h1 ih

def CellsR (R:AV→Value→Prop) (arr:Array Value) (o:Nat) (cs:List AV):Prop:=∀ j a,cs[j]? = some a→∃ v,arr[o+j]? = some v∧v.oneCell'=true∧R a v

inductive RepA (G:QM) (Z:Nat→Prop) (w:World):AV→Value→Prop
 | any (v:Value):RepA G Z w .any v
 | f {x:FV}{v:Value} : RepF Z w x v→RepA G Z w (.f x) v
 | slOld (id ver sz off n:Nat) (v:Value):ver≤(G id).1→(ver=(G id).1→(G id).2=none)→v.oneCell'=true→RepA G Z w (.sl id ver sz off n) v
 | slCap (id ver sz off:Nat) (A:Option Addr) (loc:Option (Nat × Nat)):G id=(ver,some loc)→RepA G Z w (.sl id ver sz off 0) (.slice A 0 0)
 | slLive (id ver sz off n g o c:Nat):G id=(ver,some (some (g,o)))→n≤c→c≤maxLen→(∃ arr e fz,w.heap[g]? = some (.cells arr e fz)∧o+(off+c)*sz=arr.size)→
   RepA G Z w (.sl id ver sz off n) (.slice (some ⟨g,o+off*sz,none⟩) n c)
 | ptrOld (id ver off:Nat) (v:Value):ver≤(G id).1→(ver=(G id).1→(G id).2=none)→v.oneCell'=true→RepA G Z w (.ptr id ver off) v
 | ptrLive (id ver off g o:Nat):G id=(ver,some (some (g,o)))→RepA G Z w (.ptr id ver off) (.pointer (some ⟨g,o+off,none⟩))
 | mapOld (id ver:Nat) (v:Value):ver≤(G id).1→(ver=(G id).1→(G id).2=none)→v.oneCell'=true→RepA G Z w (.map id ver) v
 | mapLive (id ver g o:Nat):G id=(ver,some (some (g,o)))→RepA G Z w (.map id ver) (.map (some g))
 | agg (cells:List AV) (us:Array Value):us.size=cells.length→(∀ (j:Nat) (u:Value),us[j]? = some u→u.oneCell'=true)→(∀ (j:Nat) (a:AV) (u:Value),cells[j]? = some a→us[j]? = some u→RepA G Z w a u)→RepA G Z w (.agg cells) (.agg us)
 | tup (vs:List AV) (us:Array Value):us.size=vs.length→(∀ (j:Nat) (a:AV) (u:Value),vs[j]? = some a→us[j]? = some u→RepA G Z w a u)→RepA G Z w (.tup vs) (.tuple us)
 | clo (f:Fn) (caps:List AV) (us:Array Value):us.size=caps.length→(∀ (j:Nat) (a:AV) (u:Value),caps[j]? = some a→us[j]? = some u→RepA G Z w a u)→RepA G Z w (.clo f caps) (.func f #[] us)
 | slcOld (id ver sz off n c:Nat) (v:Value):ver≤(G id).1→(ver=(G id).1→(G id).2=none)→v.oneCell'=true→RepA G Z w (.slc id ver sz off n c) v
 | slcLive (id ver sz off n c g o:Nat):G id=(ver,some (some (g,o)))→n≤c→c≤maxLen→(∃ arr e fz,w.heap[g]? = some (.cells arr e fz)∧o+(off+c)*sz=arr.size)→
   RepA G Z w (.slc id ver sz off n c) (.slice (some ⟨g,o+off*sz,none⟩) n c)

def Qb (G:QM) (b:Nat):Prop:=∃ id o,(G id).2=some (some (b,o))

structure Keep (G:QM) (Z:Nat→Prop) (w:World) (G':QM) (Z':Nat→Prop) (w':World):Prop where
 zin:∀ b,Z b→Z' b∧w'.heap[b]? = w.heap[b]?
 ver:∀ id,(G id).1≤(G' id).1
 same:∀ id,(G' id).1=(G id).1→(G' id).2=none∨(G' id).2=(G id).2
 room:∀ b (arr:Array Value) e fz,Qb G b→w.heap[b]? = some (.cells arr e fz)→∃ arr' e' fz',w'.heap[b]? = some (.cells arr' e' fz')∧arr'.size=arr.size

structure Turn where
 sl:Nat→Nat→Nat→Nat→Nat→AV
 ptr:Nat→Nat→Nat→AV
 map:Nat→Nat→AV
 slc:Nat→Nat→Nat→Nat→Nat→Nat→AV
mutual
def AV.turn (τ : Turn):AV→AV
 | .any=> .any
 | .f x=> .f x
 | .sl id ver sz off n=>τ.sl id ver sz off n
 | .ptr id ver off=>τ.ptr id ver off
 | .map id ver=>τ.map id ver
 | .agg cells=> .agg (AV.turnL τ cells)
 | .tup vs=> .tup (AV.turnL τ vs)
 | .clo g caps=> .clo g (AV.turnL τ caps)
 | .slc id ver sz off n c=>τ.slc id ver sz off n c
def AV.turnL (τ : Turn):List AV→List AV
 | []=>[]
 | a::l=>a.turn τ::AV.turnL τ l
end
theorem AV.turnL_eq (τ : Turn):∀ l:List AV,AV.turnL τ l=l.map (AV.turn τ)
 | []=>rfl
 | a::l=>by rw[AV.turnL,AV.turnL_eq τ l];rfl
structure QDH (G:QM) (Z:Nat→Prop) (w:World) (G':QM) (Z':Nat→Prop) (w':World) (τ : Turn):Prop where
 zin:∀ b,Z b→Z' b∧w'.heap[b]? = w.heap[b]?
 sl:∀ id ver sz off n v,RepA G Z w (.sl id ver sz off n) v→RepA G' Z' w' (τ.sl id ver sz off n) v
 ptr:∀ id ver off v,RepA G Z w (.ptr id ver off) v→RepA G' Z' w' (τ.ptr id ver off) v
 map:∀ id ver v,RepA G Z w (.map id ver) v→RepA G' Z' w' (τ.map id ver) v
 slc:∀ id ver sz off n c v,RepA G Z w (.slc id ver sz off n c) v→RepA G' Z' w' (τ.slc id ver sz off n c) v
theorem RepA.turn {G G':QM}{Z Z':Nat→Prop}{w w':World}{τ : Turn}(h:QDH G Z w G' Z' w' τ){a:AV}{v:Value}(hr:RepA G Z w a v):RepA G' Z' w' (a.turn τ) v:=by
 induction hr with
 | any v=>rw[AV.turn];exact .any v
 | f hf=>rw[AV.turn];exact .f (hf.keep h.zin)
 | slOld id ver sz off n v h1 h2 h3=>rw[AV.turn];exact h.sl _ _ _ _ _ _ (.slOld id ver sz off n v h1 h2 h3)
 | slCap id ver sz off A loc h1=>rw[AV.turn];exact h.sl _ _ _ _ _ _ (.slCap id ver sz off A loc h1)
 | slLive id ver sz off n g o c h1 h2 h3 h4=>rw[AV.turn];exact h.sl _ _ _ _ _ _ (.slLive id ver sz off n g o c h1 h2 h3 h4)
 | ptrOld id ver off v h1 h2 h3=>rw[AV.turn];exact h.ptr _ _ _ _ (.ptrOld id ver off v h1 h2 h3)
 | ptrLive id ver off g o h1=>rw[AV.turn];exact h.ptr _ _ _ _ (.ptrLive id ver off g o h1)
 | mapOld id ver v h1 h2 h3=>rw[AV.turn];exact h.map _ _ _ (.mapOld id ver v h1 h2 h3)
 | mapLive id ver g o h1=>rw[AV.turn];exact h.map _ _ _ (.mapLive id ver g o h1)
 | slcOld id ver sz off n c v h1 h2 h3=>rw[AV.turn];exact h.slc _ _ _ _ _ _ _ (.slcOld id ver sz off n c v h1 h2 h3)
 | slcLive id ver sz off n c g o h1 h2 h3 h4=>rw[AV.turn];exact h.slc _ _ _ _ _ _ _ (.slcLive id ver sz off n c g o h1 h2 h3 h4)
 | agg cells us h1 h2 _ ih=>
  rw[AV.turn,AV.turnL_eq]
  refine .agg _ us (by simp [h1]) h2 fun j a u ha hu=> ?_
  rw[List.getElem?_map]at ha
  obtain⟨a',ha',rfl⟩:=Option.map_eq_some_iff.1 ha
  exact ih j a' u ha' hu
 | tup vs us h1 _ ih=>
  rw[AV.turn,AV.turnL_eq]
  refine .tup _ us (by simp [h1]) fun j a u ha hu=> ?_
  rw[List.getElem?_map]at ha
  obtain⟨a',ha',rfl⟩:=Option.map_eq_some_iff.1 ha
  exact ih j a' u ha' hu
 | clo f caps us h1 _ ih=>
  rw[AV.turn,AV.turnL_eq]
  refine .clo f _ us (by simp [h1]) fun j a u ha hu=> ?_
  rw[List.getElem?_map]at ha
  obtain⟨a',ha',rfl⟩:=Option.map_eq_some_iff.1 ha
  exact ih j a' u ha' hu

def Turn.id_:Turn:=⟨.sl,.ptr,.map,.slc⟩
mutual
theorem AV.turn_id:∀ a:AV,a.turn Turn.id_=a
 | .any|.f _|.sl .. | .ptr .. | .map .. | .slc ..=>by simp [AV.turn,Turn.id_]
 | .agg cells=>by rw[AV.turn,AV.turnL_id cells]
 | .tup cells=>by rw[AV.turn,AV.turnL_id cells]
 | .clo g cells=>by rw[AV.turn,AV.turnL_id cells]
theorem AV.turnL_id:∀ l:List AV,AV.turnL Turn.id_ l=l
 | []=>rfl
 | a::l=>by rw[AV.turnL,AV.turn_id a,AV.turnL_id l]
end

theorem RepA.keep {G G':QM}{Z Z':Nat→Prop}{w w':World}(h:Keep G Z w G' Z' w'){a:AV}{v:Value}(hr:RepA G Z w a v):RepA G' Z' w' a v:=by
 have t:QDH G Z w G' Z' w' Turn.id_:=by
  have old:∀ id ver,ver≤(G id).1→(ver=(G id).1→(G id).2=none)→ver≤(G' id).1∧(ver=(G' id).1→(G' id).2=none):=by
   intro id ver h1 h2
   have hv:=h.ver id
   refine⟨by omega,fun e=> ?_⟩
   have e2:(G' id).1=(G id).1:=by omega
   rcases h.same id e2 with h3|h3
   ·exact h3
   ·rw[h3];exact h2 (by omega)
  have live:∀ id ver loc,G id=(ver,some loc)→G' id=(ver,some loc)∨(ver≤(G' id).1∧(ver=(G' id).1→(G' id).2=none)):=by
   intro id ver loc e
   have hv:=h.ver id
   have hs:=h.same id
   rw[e]at hv hs
   simp only at hv hs
   by_cases e2:(G' id).1=ver
   ·rcases hs e2 with h3|h3
    ·exact .inr ⟨by omega,fun _=>h3⟩
    ·exact .inl (by rw[← e2,← h3])
   ·exact .inr ⟨by omega,fun e3=>absurd e3.symm e2⟩
  refine⟨h.zin,fun id ver sz off n v hr=> ?_,fun id ver off v hr=> ?_,fun id ver v hr=> ?_,fun id ver sz off n c v hr=> ?_⟩
  ·cases hr with
   | slOld _ _ _ _ _ _ h1 h2 h3=>exact .slOld _ _ _ _ _ _ (old _ _ h1 h2).1 (old _ _ h1 h2).2 h3
   | slCap _ _ _ _ A loc h1=>
    rcases live _ _ _ h1 with h3|h3
    ·exact .slCap _ _ _ _ A loc h3
    ·exact .slOld _ _ _ _ _ _ h3.1 h3.2 rfl
   | slLive _ _ _ _ _ g o c h1 h2 h3 h4=>
    rcases live _ _ _ h1 with h5|h5
    ·obtain⟨arr,e,fz,h6,h7⟩:=h4
     obtain⟨arr',e',fz',h8,h9⟩:=h.room g arr e fz ⟨id,o,by rw[h1]⟩ h6
     exact .slLive _ _ _ _ _ g o c h5 h2 h3 ⟨arr',e',fz',h8,by omega⟩
    ·exact .slOld _ _ _ _ _ _ h5.1 h5.2 rfl
  ·cases hr with
   | ptrOld _ _ _ _ h1 h2 h3=>exact .ptrOld _ _ _ _ (old _ _ h1 h2).1 (old _ _ h1 h2).2 h3
   | ptrLive _ _ _ g o h1=>
    rcases live _ _ _ h1 with h5|h5
    ·exact .ptrLive _ _ _ g o h5
    ·exact .ptrOld _ _ _ _ h5.1 h5.2 rfl
  ·cases hr with
   | mapOld _ _ _ h1 h2 h3=>exact .mapOld _ _ _ (old _ _ h1 h2).1 (old _ _ h1 h2).2 h3
   | mapLive _ _ g o h1=>
    rcases live _ _ _ h1 with h5|h5
    ·exact .mapLive _ _ g o h5
    ·exact .mapOld _ _ _ h5.1 h5.2 rfl
  ·cases hr with
   | slcOld _ _ _ _ _ _ _ h1 h2 h3=>exact .slcOld _ _ _ _ _ _ _ (old _ _ h1 h2).1 (old _ _ h1 h2).2 h3
   | slcLive _ _ _ _ _ _ g o h1 h2 h3 h4=>
    rcases live _ _ _ h1 with h5|h5
    ·obtain⟨arr,e,fz,h6,h7⟩:=h4
     obtain⟨arr',e',fz',h8,h9⟩:=h.room g arr e fz ⟨id,o,by rw[h1]⟩ h6
     exact .slcLive _ _ _ _ _ _ g o h5 h2 h3 ⟨arr',e',fz',h8,by omega⟩
    ·exact .slcOld _ _ _ _ _ _ _ h5.1 h5.2 rfl
 have:=RepA.turn t hr
 rwa [AV.turn_id]at this

open Go.RowKit
set_option linter.unusedVariables false
set_option linter.unusedSimpArgs false

def upd {α : Type}(H:Nat→α) (i:Nat) (x : α):Nat→α:=fun j=>if j=i then x else H j
section
variable {α : Type}(H:Nat→α) (i j:Nat) (x y : α)
@[simp] theorem upd_same:upd H i x i=x:=by simp [upd]
theorem QL (h:j≠i):upd H i x j=H j:=by simp [upd,h]
@[simp] theorem upd_upd:upd (upd H i x) i y=upd H i y:=by
 funext k;simp only[upd];split<;>rfl
theorem upd_comm (h:j<i):upd (upd H i x) j y=upd (upd H j y) i x:=by
 funext k;simp only[upd];split<;>split<;>first|rfl|omega
theorem YQ (h:H i=x):upd H i x=H:=by
 funext k;simp only[upd];split
 ·rename_i e;rw[e,h]
 ·rfl
end

def ZD:TypeId:=4294967295
def Wp (m:List (ByteArray × Value)):Array Value:=(m.flatMap fun p=>[.string p.1,p.2]).toArray
def MapK (es:Array MapEntry) (clock:Nat) (m:List (ByteArray × Value)):Prop:=MapR es m∧clock=es.size∧∀ (i:Nat) (e:MapEntry),es[i]? = some e→e.born=i
def itTy:TypeId:=4294967294
def Xs (bm since:Nat) (seen:Array Nat):Array Value:=(.map (some bm):: .int .i64 since::seen.toList.map fun (s:Nat)=>Value.int .i64 s).toArray
def TyO (b:Option Obj) (t:TypeId) (n:Nat) (arr:Array Value):Prop:=if t=ZD then ∃ es clock m,b=some (.map es clock)∧MapK es clock m∧arr=Wp m∧n=arr.size else if t=itTy then ∃ bm since seen,b=some (.mapIter (some bm) since seen since)∧arr=Xs bm since seen∧n=arr.size else b=some (.cells arr t (0,0))
def ObjR (P:Program) (G:QM) (Z:Nat→Prop) (w:World):Option (Nat × Nat)→AObj→Prop
 | none,.cells cs=>cs = []
 | some (g,o),.cells cs=>∃ (arr:Array Value) (e:TypeId),w.heap[g]? = some (.cells arr e (0,0))∧CellsR (RepA G Z w) arr o cs
 | some (g,o),.map m=>o=0∧∃ es clock,w.heap[g]? = some (.map es clock)∧MapK es clock m
 | some (g,o),.ty cs t=>o=0∧∃ (arr:Array Value),TyO (w.heap[g]?) t cs.length arr∧CellsR (RepA G Z w) arr o cs
 | none,.map ..=>False
 | none,.ty ..=>False

def QAP (arr:Array Value):Prop:=∀ (i:Nat) (v:Value),arr[i]? = some v→v.oneCell'=true
def Ones (w:World) (g:Nat):Prop:=∀ (arr:Array Value) e fz,w.heap[g]? = some (.cells arr e fz)→QAP arr
theorem Ones.same {w w':World}{g:Nat}(h:Ones w g) (e:w'.heap[g]? = w.heap[g]?):Ones w' g:=fun arr t fz ha=>h arr t fz (by rw[← e];exact ha)
def Kn (P:Program) (Z:Nat→Prop) (w:World):Prop:=∀ g,P.globalNamed "internal/strconv.uint64pow10" = some g→Z g∧Lib.TabIs P w "internal/strconv.uint64pow10" .u64 Lib.pow10Tab
theorem Kn.mono {P:Program}{Z Z':Nat→Prop}{w w':World}(h:Kn P Z w) (hz:∀ b,Z b→Z' b∧w'.heap[b]? = w.heap[b]?):Kn P Z' w':=fun g hg=>by
 obtain⟨h1,h2⟩:=h g hg
 obtain⟨h3,h4⟩:=hz g h1
 refine⟨h3,?_⟩
 unfold Lib.TabIs at h2 ⊢
 rw[← h2]
 unfold World.var?
 rw[hg,Option.bind_some,Option.bind_some,h4]
theorem kn_none {P:Program}{Z:Nat→Prop}{w:World}(h:P.globalNamed "internal/strconv.uint64pow10" = none):Kn P Z w:=fun g hg=>by rw[h]at hg;cases hg
structure ZOk (P:Program) (Z:Nat→Prop) (w:World):Prop where
 lt:∀ b,Z b→b<w.heap.size
 kn:Kn P Z w
instance {P:Program}{Z:Nat→Prop}{w:World} : CoeFun (ZOk P Z w) (fun _=>∀ b,Z b→b<w.heap.size):=⟨ZOk.lt⟩
structure St (P:Program) (G:QM) (H:Heap) (Z:Nat→Prop) (w:World):Prop where
 ver:∀ id,(G id).1=(H id).1
 dead:∀ id,(H id).2=none→(G id).2=none
 obj:∀ id o,(H id).2=some o→∃ loc,(G id).2=some loc∧ObjR P G Z w loc o
 inj:∀ id id' g o o',(G id).2=some (some (g,o))→(G id').2=some (some (g,o'))→id=id'
 disj:∀ id g o,(G id).2=some (some (g,o))→¬ Z g
 zlt:ZOk P Z w
 glt:∀ id g o,(G id).2=some (some (g,o))→g<w.heap.size
 ones:∀ id g o,(G id).2=some (some (g,o))→Ones w g

structure Step (G:QM) (Z:Nat→Prop) (w:World) (G':QM) (Z':Nat→Prop) (w':World):Prop extends Keep G Z w G' Z' w' where
 os:w'.os=w.os
 tape:w'.tape=w.tape
 output:w'.output=w.output
 size:w.heap.size≤w'.heap.size
 old:∀ b,b<w.heap.size→¬ Qb G b→w'.heap[b]? = w.heap[b]?
 zout:∀ b,Z' b→Z b∨Qb G b∨w.heap.size≤b
 live:∀ b,Qb G' b→Qb G b∨w.heap.size≤b

theorem Keep.refl (G:QM) (Z:Nat→Prop) (w:World):Keep G Z w G Z w:=⟨fun b h=>⟨h,rfl⟩,fun _=>Nat.le_refl _,fun _ _=> .inr rfl,fun b arr e fz _ h=>⟨arr,e,fz,h,rfl⟩⟩
theorem Step.refl (G:QM) (Z:Nat→Prop) (w:World):Step G Z w G Z w:=⟨Keep.refl G Z w,rfl,rfl,rfl,Nat.le_refl _,fun _ _ _=>rfl,fun _ h=> .inl h,fun _ h=> .inl h⟩
theorem VK {w:World}{b:Nat}{o:Obj}(h:w.heap[b]? = some o):b<w.heap.size:=(Array.getElem?_eq_some_iff.1 h).1

theorem Step.trans {G G1 G2:QM}{Z Z1 Z2:Nat→Prop}{w w1 w2:World}(h1:Step G Z w G1 Z1 w1) (h2:Step G1 Z1 w1 G2 Z2 w2):Step G Z w G2 Z2 w2:=by
 have hold:∀ b,b<w.heap.size→¬ Qb G b→w2.heap[b]? = w.heap[b]?:=fun b hb hn=>by
  rw[h2.old b (Nat.lt_of_lt_of_le hb h1.size) (fun hl=>(h1.live b hl).elim hn (by omega)),h1.old b hb hn]
 refine⟨⟨fun b hz=>⟨(h2.zin b (h1.zin b hz).1).1,by rw[(h2.zin b (h1.zin b hz).1).2,(h1.zin b hz).2]⟩,fun id=>Nat.le_trans (h1.ver id) (h2.ver id),fun id e=> ?_,fun b arr e fz hl hh=> ?_⟩,
  h2.os.trans h1.os,h2.tape.trans h1.tape,h2.output.trans h1.output,Nat.le_trans h1.size h2.size,hold,fun b hz=> ?_,fun b hl=> ?_⟩
 ·have a1:=h1.ver id
  have a2:=h2.ver id
  rcases h2.same id (by omega)with h3|h3
  ·exact .inl h3
  ·rcases h1.same id (by omega)with h4|h4
   ·exact .inl (h3.trans h4)
   ·exact .inr (h3.trans h4)
 ·obtain⟨arr1,e1,fz1,hh1,hs1⟩:=h1.room b arr e fz hl hh
  by_cases hl1:Qb G1 b
  ·obtain⟨arr2,e2,fz2,hh2,hs2⟩:=h2.room b arr1 e1 fz1 hl1 hh1
   exact⟨arr2,e2,fz2,hh2,by omega⟩
  ·exact⟨arr1,e1,fz1,by rw[h2.old b (VK hh1) hl1];exact hh1,hs1⟩
 ·rcases h2.zout b hz with h3|h3|h3
  ·exact h1.zout b h3
  ·rcases h1.live b h3 with h4|h4
   ·exact .inr (.inl h4)
   ·exact .inr (.inr h4)
  ·exact .inr (.inr (Nat.le_trans h1.size h3))
 ·rcases h2.live b hl with h3|h3
  ·exact h1.live b h3
  ·exact .inr (Nat.le_trans h1.size h3)

structure Only (t:Nat) (w w':World):Prop where
 os:w'.os=w.os
 tape:w'.tape=w.tape
 output:w'.output=w.output
 size:w.heap.size≤w'.heap.size
 same:∀ b,b<w.heap.size→b≠t→w'.heap[b]? = w.heap[b]?
 room:∀ (arr:Array Value) e fz,w.heap[t]? = some (.cells arr e fz)→∃ arr' e' fz',w'.heap[t]? = some (.cells arr' e' fz')∧arr'.size=arr.size

theorem CellsR.mono {R R':AV→Value→Prop}{arr:Array Value}{o:Nat}{cs:List AV}(h:CellsR R arr o cs) (hr:∀ a v,R a v→R' a v):CellsR R' arr o cs:=
 fun j a ha=>let ⟨v,h1,h2,h3⟩:=h j a ha;⟨v,h1,h2,hr _ _ h3⟩

theorem St.change {P:Program}{G:QM}{H:Heap}{Z:Nat→Prop}{w w':World}(st:St P G H Z w) (id t:Nat) (ho:Only t w w') (g:Nat × Option (Option (Nat × Nat))) (h:Nat × Option AObj)
  (ht:t=w.heap.size∨∃ o,(G id).2=some (some (t,o))) (htl:t<w'.heap.size∨∀ o,g.2≠some (some (t,o)))
  (hv:g.1=h.1) (hle:(H id).1≤g.1) (hsame:g.1=(H id).1→g.2=none∨g.2=(G id).2)
  (hloc:g.2=none∨g.2=some none∨∃ o,g.2=some (some (t,o))) (hon:(∃ o,g.2=some (some (t,o)))→Ones w' t) (hdead:h.2=none→g.2=none)
  (hobj:∀ o,h.2=some o→∃ loc,g.2=some loc∧(Keep G Z w (upd G id g) Z w'→ObjR P (upd G id g) Z w' loc o)) :
  St P (upd G id g) (upd H id h) Z w'∧Step G Z w (upd G id g) Z w':=by
 have hnz : ¬ Z t:=by
  rcases ht with rfl|⟨o,h1⟩
  ·exact fun hz=>absurd (st.zlt _ hz) (by omega)
  ·exact st.disj _ _ _ h1
 have hg:∀ id',id'≠id→upd G id g id'=G id':=fun id' hne=>QL _ _ _ _ hne
 have hother:∀ id' b o,id'≠id→(G id').2=some (some (b,o))→b≠t:=by
  intro id' b o hne h1 hbt
  subst hbt
  rcases ht with h2|⟨o',h2⟩
  ·exact absurd (st.glt _ _ _ h1) (by omega)
  ·exact hne (st.inj _ _ _ _ _ h1 h2)
 have hkeep:Keep G Z w (upd G id g) Z w':=by
  refine⟨fun b hz=>⟨hz,ho.same b (st.zlt b hz) (fun e=>hnz (e▸hz))⟩,fun id'=> ?_,fun id' e=> ?_,fun b arr e fz hl hh=> ?_⟩
  ·by_cases e:id'=id
   ·subst e;rw[upd_same,st.ver];exact hle
   ·rw[hg _ e];exact Nat.le_refl _
  ·by_cases e':id'=id
   ·subst e';rw[upd_same]at e ⊢;exact hsame (by rw[e,st.ver])
   ·rw[hg _ e'];exact .inr rfl
  ·by_cases hbt:b=t
   ·subst hbt;exact ho.room arr e fz hh
   ·exact⟨arr,e,fz,by rw[ho.same b (VK hh) hbt];exact hh,rfl⟩
 have hlive:∀ b,Qb (upd G id g) b→Qb G b∨b=t:=by
  rintro b ⟨id',o,h1⟩
  by_cases e:id'=id
  ·subst e
   rw[upd_same]at h1
   rcases hloc with h2|h2|⟨o',h2⟩<;>rw[h2]at h1<;>simp at h1
   exact .inr h1.1.symm
  ·rw[hg _ e]at h1;exact .inl ⟨id',o,h1⟩
 have htlive:t=w.heap.size∨Qb G t:=ht.imp (fun h=>h) fun ⟨o,h1⟩=>⟨id,o,h1⟩
 refine⟨⟨fun id'=> ?_,fun id' e=> ?_,fun id' o e=> ?_,fun i1 i2 b o1 o2 h1 h2=> ?_,fun id' b o h1=> ?_,⟨fun b hz=>Nat.lt_of_lt_of_le (st.zlt b hz) ho.size,st.zlt.kn.mono hkeep.zin⟩,fun id' b o h1=> ?_,fun id' b o h1=> ?_⟩,
  ⟨hkeep,ho.os,ho.tape,ho.output,ho.size,fun b hb hn=>ho.same b hb (fun e=> ?_),fun b hz=> .inl hz,fun b hl=> ?_⟩⟩
 ·by_cases e:id'=id
  ·subst e;rw[upd_same,upd_same];exact hv
  ·rw[hg _ e,QL _ _ _ _ e];exact st.ver id'
 ·by_cases e':id'=id
  ·subst e';rw[upd_same]at e ⊢;exact hdead e
  ·rw[hg _ e'];rw[QL _ _ _ _ e']at e;exact st.dead id' e
 ·by_cases e':id'=id
  ·subst e';rw[upd_same]at e ⊢
   obtain⟨loc,h1,h2⟩:=hobj o e
   exact⟨loc,h1,h2 hkeep⟩
  ·rw[hg _ e'];rw[QL _ _ _ _ e']at e
   obtain⟨loc,h1,h2⟩:=st.obj id' o e
   refine⟨loc,h1,?_⟩
   cases loc with
   | none=>cases o<;>exact h2
   | some p=>
    obtain⟨b,ob⟩:=p
    have hb:w'.heap[b]? = w.heap[b]?:=ho.same b (st.glt _ _ _ h1) (hother _ _ _ e' h1)
    cases o with
    | cells cs=>
     obtain⟨arr,e,h3,h4⟩:=h2
     exact⟨arr,e,hb.trans h3,h4.mono fun a v hr=>hr.keep hkeep⟩
    | ty cs tt=>
     obtain⟨h00,arr,h3,h4⟩:=h2
     exact⟨h00,arr,(by rw[hb];exact h3),h4.mono fun a v hr=>hr.keep hkeep⟩
    | _=>
     obtain⟨h3,es,clock,h4,h5⟩:=h2
     exact⟨h3,es,clock,hb.trans h4,h5⟩
 ·by_cases e1:i1=id<;>by_cases e2:i2=id
  ·rw[e1,e2]
  ·subst e1
   rw[upd_same]at h1;rw[hg _ e2]at h2
   rcases hloc with h3|h3|⟨o',h3⟩<;>rw[h3]at h1<;>simp at h1
   exact absurd h1.1.symm (hother _ _ _ e2 h2)
  ·subst e2
   rw[upd_same]at h2;rw[hg _ e1]at h1
   rcases hloc with h3|h3|⟨o',h3⟩<;>rw[h3]at h2<;>simp at h2
   exact absurd h2.1.symm (hother _ _ _ e1 h1)
  ·rw[hg _ e1]at h1;rw[hg _ e2]at h2
   exact st.inj _ _ _ _ _ h1 h2
 ·by_cases e:id'=id
  ·subst e
   rw[upd_same]at h1
   rcases hloc with h2|h2|⟨o',h2⟩<;>rw[h2]at h1<;>simp at h1
   rw[← h1.1];exact hnz
  ·rw[hg _ e]at h1;exact st.disj _ _ _ h1
 ·by_cases e:id'=id
  ·subst e
   rw[upd_same]at h1
   rcases hloc with h2|h2|⟨o',h2⟩<;>rw[h2]at h1<;>simp at h1
   rcases htl with h3|h3
   ·rw[← h1.1];exact h3
   ·exact absurd h2 (h3 o')
  ·rw[hg _ e]at h1;exact Nat.lt_of_lt_of_le (st.glt _ _ _ h1) ho.size
 ·by_cases e:id'=id
  ·subst e
   rw[upd_same]at h1
   have h0:=h1
   rcases hloc with h2|h2|⟨o',h2⟩<;>rw[h2]at h1<;>simp at h1
   rw[← h1.1];exact hon ⟨o',h2⟩
  ·rw[hg _ e]at h1
   exact(st.ones _ _ _ h1).same (ho.same b (st.glt _ _ _ h1) (hother _ _ _ e h1))
 ·subst e
  rcases htlive with h1|h1
  ·omega
  ·exact hn h1
 ·rcases hlive b hl with h1|h1
  ·exact .inl h1
  ·subst h1;exact htlive.symm.imp (fun h=>h) (fun h=>by omega)

theorem Only.alloc (w:World) (o:Obj):Only w.heap.size w (w.alloc o):=
 ⟨rfl,rfl,rfl,by simp,fun b hb _=>Below.heap_alloc w o b hb,fun arr e fz h=>absurd (VK h) (by omega)⟩
theorem Only.drew (t:Nat) (w:World):Only t w w.drew:=⟨rfl,rfl,rfl,Nat.le_refl _,fun _ _ _=>rfl,fun arr e fz h=>⟨arr,e,fz,h,rfl⟩⟩
theorem Only.refl (t:Nat) (w:World):Only t w w:=⟨rfl,rfl,rfl,Nat.le_refl _,fun _ _ _=>rfl,fun arr e fz h=>⟨arr,e,fz,h,rfl⟩⟩
theorem Only.trans {t:Nat}{a b c:World}(h:Only t a b) (k:Only t b c):Only t a c:=
 ⟨k.os.trans h.os,k.tape.trans h.tape,k.output.trans h.output,Nat.le_trans h.size k.size,fun i hi ht=>(k.same i (Nat.lt_of_lt_of_le hi h.size) ht).trans (h.same i hi ht),fun arr e fz hh=>by
  obtain⟨a1,e1,f1,h1,s1⟩:=h.room arr e fz hh
  obtain⟨a2,e2,f2,h2,s2⟩:=k.room a1 e1 f1 h1
  exact⟨a2,e2,f2,h2,by omega⟩⟩

theorem Xa (g:Nat) (t:TypeId) (fz:Nat × Nat):∀ (vs:List Value) (o:Nat) (w:World) (arr:Array Value),w.heap[g]? = some (.cells arr t fz)→
  ∃ arr':Array Value,(w.setCells g o vs).heap[g]? = some (.cells arr' t fz)∧arr'.size=arr.size∧
   (∀ i,(i<o∨o+vs.length≤i)→arr'[i]? = arr[i]?)∧(∀ j v,vs[j]? = some v→o+j<arr.size→arr'[o+j]? = some v)
 | [],o,w,arr,h=>⟨arr,h,rfl,fun _ _=>rfl,fun j v h=>by simp at h⟩
 | v::vs,o,w,arr,h=>by
  have h1:(w.setCell ⟨g,o,none⟩ v).heap[g]? = some (.cells (arr.setIfInBounds o v) t fz):=by
   simp [World.setCell,Array.getElem?_modify,h]
  obtain⟨arr',h2,h3,h4,h5⟩:=Xa g t fz vs (o+1) _ _ h1
  refine⟨arr',h2,by simp [h3],fun i hi=> ?_,fun j u hj hlt=> ?_⟩
  ·simp only[List.length_cons]at hi
   rw[h4 i (by omega),Array.getElem?_setIfInBounds_ne (by omega)]
  ·cases j with
   | zero=>
    simp only[List.getElem?_cons_zero,Option.some.injEq]at hj
    subst hj
    rw[Nat.add_zero,h4 o (by omega)]
    simp at hlt
    simp [Array.getElem?_setIfInBounds,hlt]
   | succ j=>
    simp only[List.getElem?_cons_succ]at hj
    have:=h5 j u hj (by simp;omega)
    rw[show o+(j+1)=o+1+j by omega];exact this
theorem KF (g:Nat) (t:TypeId) (fz:Nat × Nat) (vs:List Value) (o:Nat) (w:World) (h:Ones w g) (hv:∀ v∈vs,v.oneCell'=true):Ones (w.setCells g o vs) g:=by
 induction vs generalizing o w with
 | nil=>exact h
 | cons v vs ih=>
  rw[World.setCells]
  refine ih (o+1) _ (fun arr e fz ha i x hx=> ?_) (fun x hx=>hv x (by simp [hx]))
  simp only[World.setCell,Array.getElem?_modify]at ha
  split at ha
  ·cases hq:w.heap[g]? with
   | none=>rw[hq]at ha;cases ha
   | some ob=>
    rw[hq]at ha
    simp only[Option.map_some,Option.some.injEq]at ha
    cases ob with
    | cells arr0 e0 fz0=>
     simp only[Obj.cells.injEq]at ha
     obtain⟨rfl,_⟩:=ha
     rw[if_neg (by decide),Array.getElem?_setIfInBounds]at hx
     split at hx
     ·split at hx
      ·obtain rfl:=Option.some.inj hx;exact hv _ (by simp)
      ·cases hx
     ·exact h _ _ _ hq i x hx
    | _=>cases ha
  ·rename_i hn;exact absurd trivial hn
theorem UA (g:Nat):∀ (vs:List Value) (o:Nat) (w:World) (b:Nat),b≠g→(w.setCells g o vs).heap[b]? = w.heap[b]?
 | [],_,_,_,_=>rfl
 | v::vs,o,w,b,h=>by
  rw[World.setCells,UA g vs (o+1) _ b h]
  exact Below.heap_setCell w _ v b h
theorem ZR (g:Nat):∀ (vs:List Value) (o:Nat) (w:World),(w.setCells g o vs).os=w.os∧(w.setCells g o vs).tape=w.tape∧(w.setCells g o vs).output=w.output∧(w.setCells g o vs).heap.size=w.heap.size
 | [],_,_=>⟨rfl,rfl,rfl,rfl⟩
 | v::vs,o,w=>by
  rw[World.setCells]
  obtain⟨h1,h2,h3,h4⟩:=ZR g vs (o+1) (w.setCell ⟨g,o,none⟩ v)
  exact⟨h1,h2,h3,by rw[h4];simp [World.setCell]⟩
theorem Only.setCells (g o:Nat) (vs:List Value) (w:World):Only g w (w.setCells g o vs):=by
 obtain⟨h1,h2,h3,h4⟩:=ZR g vs o w
 refine⟨h1,h2,h3,by omega,fun b _ hb=>UA g vs o w b hb,fun arr e fz h=> ?_⟩
 obtain⟨arr',h5,h6,_⟩:=Xa g e fz vs o w arr h
 exact⟨arr',e,fz,h5,by omega⟩
def FV.ofValue:Value→FV
 | .int k n=> .int k n
 | .bool b=> .bool b
 | .string s=> .str s
 | .slice none 0 0=> .nil
 | .func g fs cs=>match fs.toList,cs.toList with
  | [],[]=> .fn g
  | _,_=> .lit (.func g fs cs)
 | v=> .lit v
def AV.ofValue:Value→AV
 | .agg cs=>if cs.toList.all (·.oneCell')then .agg (cs.toList.map fun c=> .f (FV.ofValue c))else .f (.lit (.agg cs))
 | v=> .f (FV.ofValue v)
theorem RepF.ofValue (Z:Nat→Prop) (w:World) (v:Value):RepF Z w (FV.ofValue v) v:=by
 unfold FV.ofValue
 split
 ·exact .int _ _
 ·exact .bool _
 ·exact .str _
 ·exact .nil _
 ·split
  ·rename_i g fs cs _ _ h1 h2
   have e1:fs = #[]:=Array.toList_inj.1 h1
   have e2:cs = #[]:=Array.toList_inj.1 h2
   subst e1 e2
   exact .fn _
  ·exact .lit _
 ·exact .lit _
theorem RepA.ofValue (G:QM) (Z:Nat→Prop) (w:World) (v:Value):RepA G Z w (AV.ofValue v) v:=by
 unfold AV.ofValue
 split
 ·rename_i cs
  split
  ·rename_i h
   refine .agg _ cs (by simp) (fun j u hu=> ?_) fun j a u ha hu=> ?_
   ·exact List.all_eq_true.1 h u (Array.mem_toList_iff.2 (Array.mem_of_getElem? hu))
   ·rw[List.getElem?_map]at ha
    obtain⟨c,hc,rfl⟩:=Option.map_eq_some_iff.1 ha
    rw[Array.getElem?_toList]at hc
    rw[hu]at hc
    obtain rfl:=Option.some.inj hc
    exact .f (RepF.ofValue Z w u)
  ·exact .f (.lit _)
 ·exact .f (RepF.ofValue Z w _)

structure Env where
 n:Nat
 f:Nat→AV
def evA (env:Env):Operand→AV
 | .tmp t=>env.f t
 | .const v=>AV.ofValue v
 | .global g=> .f (.lit (.pointer (some ⟨g,0,none⟩)))
 | .func f=> .f (.fn (.func f))
structure EnvR (G:QM) (Z:Nat→Prop) (w:World) (env:Env) (tmps:Array Value):Prop where
 len:tmps.size=env.n
 out:∀ i,env.n≤i→env.f i=.any
 at_:∀ (i:Nat) (v:Value),tmps[i]? = some v→RepA G Z w (env.f i) v
theorem EnvR.eval {G:QM}{Z:Nat→Prop}{w:World}{env:Env}{a:Act}(h:EnvR G Z w env a.tmps) (x:Operand):RepA G Z w (evA env x) (a.eval x):=by
 cases x with
 | tmp t=>
  show RepA G Z w (env.f t) (a.tmps.getD t undef)
  rcases Nat.lt_or_ge t env.n with hlt|hge
  ·have hlt':t<a.tmps.size:=by rw[h.len];exact hlt
   have h2:a.tmps[t]? = some (a.tmps[t]'hlt'):=Array.getElem?_eq_getElem hlt'
   rw[Array.getD_eq_getD_getElem?,h2]
   exact h.at_ t _ h2
  ·rw[h.out t hge]
   exact .any _
 | const v=>exact RepA.ofValue G Z w v
 | global g=>exact .f (.lit _)
 | func f=>exact .f (.fn _)
def putE (env:Env) (dst:Option Nat) (v:AV):Env:=match dst with
 | some d=>if d<env.n then⟨env.n,upd env.f d v⟩else env
 | none=>env
theorem EnvR.put {G:QM}{Z:Nat→Prop}{w:World}{env:Env}{a:Act}(h:EnvR G Z w env a.tmps) (dst:Option Nat){x:AV}{v:Value}(hv:RepA G Z w x v):EnvR G Z w (putE env dst x) (a.put dst v).tmps:=by
 cases dst with
 | none=>exact h
 | some d=>
  simp only[putE,Act.put]
  split
  ·rename_i hd
   refine⟨by simp [h.len],fun i hi=> ?_,fun i u hu=> ?_⟩
   ·simp only at hi ⊢
    rw[QL _ _ _ _ (by omega)];exact h.out i hi
   ·simp only
    rw[Array.getElem?_setIfInBounds]at hu
    by_cases e:d=i
    ·subst e
     simp only[if_true]at hu
     split at hu
     ·obtain rfl:=Option.some.inj hu
      rw[upd_same];exact hv
     ·cases hu
    ·simp only[e,if_false]at hu
     rw[QL _ _ _ _ (Ne.symm e)];exact h.at_ i u hu
  ·rename_i hd
   have:a.tmps.setIfInBounds d v=a.tmps:=Array.setIfInBounds_eq_of_size_le (by rw[h.len];omega)
   rw[this];exact h
theorem EnvR.keep {G G':QM}{Z Z':Nat→Prop}{w w':World}{env:Env}{t:Array Value}(h:EnvR G Z w env t) (hk:Keep G Z w G' Z' w'):EnvR G' Z' w' env t:=
 ⟨h.len,h.out,fun i v h2=>(h.at_ i v h2).keep hk⟩

inductive LOp where
 | move (x:Operand)
 | nilChk (x:Operand)
 | pick (c a b:Operand)
 | alloc (e:TypeId) (zero:List FV)
 | box (e:TypeId) (x:Operand)
 | build (zero:List FV) (parts:List (Nat × Nat × Operand))
 | buildSlice (e:TypeId) (sz len:Nat) (zero:List FV) (parts:List (Nat × Operand))
 | load (n:Option Nat) (x:Operand)
 | store (n:Nat) (a v:Operand)
 | bin (op:BinOp) (tb:Bool) (x y:Operand)
 | un (op:UnOp) (x:Operand)
 | isNil (ptr neg:Bool) (x:Operand)
 | eqS (ks:List Nat) (neg:Bool) (x y:Operand)
 | convInt (k:IntKind) (x:Operand)
 | convStr (x:Operand)
 | bytesStr (x:Operand)
 | strBytes (x:Operand)
 | mark (x:Operand)
 | clo (f:Fn) (caps:List Operand)
 | makeSlice (e sz bytes:Nat) (zero:List FV) (len cap:Operand)
 | slice (sz:Nat) (x:Operand) (lo hi:Option Operand)
 | slice0 (x lo hi mx:Operand)
 | sliceS (x:Operand) (lo hi:Option Operand)
 | fieldAddr (off:Nat) (x:Operand)
 | field (off:Nat) (n:Option Nat) (x:Operand)
 | indexAddr (sz:Nat) (x ix:Operand)
 | indexS (x ix:Operand)
 | extract (x:Operand) (i:Nat)
 | len (str:Bool) (x:Operand)
 | maxI (x y:Operand)
 | minI (x y:Operand)
 | append (str:Bool) (e sz bytes:Nat) (s x:Operand)
 | copy (sz:Nat) (d s:Operand)
 | clear (sz:Nat) (z:List FV) (x:Operand)
 | cap (x:Operand)
 | ext (k:Nat) (x:Operand)
 | appendN (e sz bytes:Nat) (z:List FV) (s n:Operand)
 | never
 | mkMap
 | mapUpd (m k v:Operand)
 | lookup (z:Value) (ok:Bool) (m k:Operand)
 | call (f:Operand) (args:List Operand)

inductive Eff where
 | no
 | pure (v:AV)
 | rd (id:Nat) (k:Nat × Option AObj→Option AV)
 | md (id:Nat) (k:Nat × Option AObj→Option (AV × (Nat × Option AObj)))
 | rm (src id:Nat) (k:Nat × Option AObj→Nat × Option AObj→Option (AV × (Nat × Option AObj)))
def Eff.exec (H:Heap):Eff→Option (AV × Heap)
 | .no=>none
 | .pure v=>some (v,H)
 | .rd id k=>match k (H id)with
  | some v=>some (v,H)
  | none=>none
 | .md id k=>match k (H id)with
  | some (v,x)=>some (v,upd H id x)
  | none=>none
 | .rm src id k=>match k (H src) (H id)with
  | some (v,x)=>some (v,upd H id x)
  | none=>none

def strLt (x y:ByteArray):Bool:=Op.bytesLess x.toList y.toList
def binF (op:BinOp) (tb:Bool):FV→FV→Option FV
 | .int k a,.int k' b=>match op with
  | .shl=>if 0≤b then some (.int k (k.wrap (a*2 ^ (min b.toNat k.bits))))else none
  | .shr=>if 0≤b then some (.int k (a.fdiv (2 ^ (min b.toNat k.bits))))else none
  | .add=>if k=k' then some (.int k (k.wrap (a+b)))else none
  | .sub=>if k=k' then some (.int k (k.wrap (a - b)))else none
  | .mul=>if k=k' then some (.int k (k.wrap (a*b)))else none
  | .quo=>if k=k'∧b≠0 then some (.int k (k.wrap (a.tdiv b)))else none
  | .rem=>if k=k'∧b≠0 then some (.int k (a.tmod b))else none
  | .and=>if k=k' then some (.int k (k.wrap (BitVec.ofInt k.bits a &&&BitVec.ofInt k.bits b).toNat))else none
  | .or=>if k=k' then some (.int k (k.wrap (BitVec.ofInt k.bits a |||BitVec.ofInt k.bits b).toNat))else none
  | .xor=>if k=k' then some (.int k (k.wrap (BitVec.ofInt k.bits a ^^^ BitVec.ofInt k.bits b).toNat))else none
  | .andNot=>none
  | .eql=>if k=k' then some (.bool (decide (a=b)))else none
  | .neq=>if k=k' then some (.bool (!decide (a=b)))else none
  | .lss=>if k=k' then some (.bool (decide (a<b)))else none
  | .leq=>if k=k' then some (.bool (decide (a≤b)))else none
  | .gtr=>if k=k' then some (.bool (decide (b<a)))else none
  | .geq=>if k=k' then some (.bool (decide (b≤a)))else none
 | .str a,.str b=>match op with
  | .add=>if a.size+b.size≤9223372036854775807 then some (.str (a++b))else none
  | .eql=>some (.bool (decide (a=b)))
  | .neq=>some (.bool (!decide (a=b)))
  | .lss=>some (.bool (strLt a b))
  | .leq=>some (.bool (strLt a b||decide (a=b)))
  | .gtr=>some (.bool (!(strLt a b||decide (a=b))))
  | .geq=>some (.bool (!strLt a b))
  | _=>none
 | .bool a,.bool b=>match op with
  | .eql=>if tb then some (.bool (a == b))else none
  | .neq=>if tb then some (.bool (!(a == b)))else none
  | _=>none
 | _,_=>none
def eqV:Nat→FV→FV→Option Bool
 | 0,.int k a,.int k' b=>if k=k' then some (decide (a=b))else none
 | 1,.bool a,.bool b=>some (a == b)
 | 2,.str a,.str b=>some (decide (a=b))
 | _,_,_=>none
def eqL:List Nat→List AV→List AV→Option Bool
 | [],[],[]=>some true
 | k::ks,.f x::xs,.f y::ys=>match eqV k x y,eqL ks xs ys with
  | some a,some b=>some (a&&b)
  | _,_=>none
 | _,_,_=>none
def unF (op:UnOp):FV→Option FV
 | .int k a=>match op with
  | .neg=>some (.int k (k.wrap (0 - a)))
  | _=>none
 | .bool a=>match op with
  | .not=>some (.bool (!a))
  | _=>none
 | .bit=>match op with
  | .not=>some .bit
  | _=>none
 | _=>none
def QAp (c:Bool):AV→AV→AV
 | .f (.bool x),.f (.bool y)=> .f (.bool (if c then x else y))
 | a,b=>if c then a else b
def FV.isOne:FV→Bool
 | .lit v=>v.oneCell'
 | _=>true
def AV.isOne:AV→Bool
 | .f x=>x.isOne
 | .sl .. | .ptr .. | .map .. | .clo ..=>true
 | _=>false
def AV.cellsN (n:Nat):AV→Option (List AV)
 | .agg cs=>if cs.length=n then some cs else none
 | a=>if n=1∧a.isOne then some [a]else none
def splice (cs:List AV) (o:Nat):List AV→List AV
 | []=>cs
 | x::r=>splice (cs.set o x) (o+1) r
def fillA (cs:List AV):List (Nat × Nat × AV)→Option (List AV)
 | []=>some cs
 | (off,size,a)::r=>match a.cellsN size with
  | some xs=>if off+size≤cs.length then fillA (splice cs off xs) r else none
  | none=>none
def FV.toI:FV→Option Int
 | .int _ n=>some n
 | _=>none
def AV.toI:AV→Option Int
 | .f x=>x.toI
 | _=>none
def YK (n:Nat) (ρ : Operand→AV) (lo hi:Option Operand):Option (Nat × Nat):=
 match (match hi with|some h=>(ρ h).toI|none=>some (n:Int)),(match lo with|some l=>(ρ l).toI|none=>some 0)with
 | some h,some l=>if 0≤l∧l≤h∧h≤n then some (l.toNat,h.toNat)else none
 | _,_=>none
def cellsOf (ver:Nat):Nat × Option AObj→Option (List AV)
 | (v,some (.cells cs))=>if v=ver then some cs else none
 | _=>none
def VL (ver:Nat):Nat × Option AObj→Bool
 | (v,some _)=>v == ver
 | _=>false
def Qd (n:Nat) (z:List FV):List AV:=((List.replicate n z).flatten).map .f
def XF (id:Nat) (v:Nat→AV) (cs:List AV):Eff:= .md id fun o=>match o with
 | (ver,none)=>some (v (ver+1),(ver+1,some (.cells cs)))
 | _=>none
def QBb (s:ByteArray):List AV:=s.data.toList.map fun b=> .f (.int .u8 b.toNat)
def srcF (str:Bool) (sz:Nat):AV→Option (Nat × List AV)
 | .f .nil=>if str=false then some (0,[])else none
 | .f (.fr sz' l)=>if str=false∧sz'=sz then some (l.length,l.flatten.map .f)else none
 | .f (.str s)=>if str=true∧sz=1 then some (s.size,QBb s)else none
 | _=>none
def growA (sz bytes ver off n:Nat) (m:Nat) (news:List AV) (id:Nat) (o:Nat × Option AObj):Option (AV × (Nat × Option AObj)):=
 match cellsOf ver o with
 | some cs=>if cs.length=(off+n)*sz∧(n+m)*bytes≤140737488355328 then some (.sl id (ver+1) sz 0 (n+m),(ver+1,some (.cells (cs.drop (off*sz)++news))))else none
 | none=>none
def bornA (sz bytes m:Nat) (news:List AV) (id:Nat):Nat × Option AObj→Option (AV × (Nat × Option AObj))
 | (ver,none)=>if m*bytes≤140737488355328 then some (.sl id (ver+1) sz 0 m,(ver+1,some (.cells news)))else none
 | _=>none
def mGet (s:ByteArray):List (ByteArray × Value)→Option Value
 | []=>none
 | (k,v)::r=>if k=s then some v else mGet s r
def mSet (s:ByteArray) (x:Value):List (ByteArray × Value)→List (ByteArray × Value)
 | []=>[(s,x)]
 | (k,v)::r=>if k=s then(k,x)::r else(k,v)::mSet s x r
def JE (ver:Nat):Nat × Option AObj→Option (List (ByteArray × Value))
 | (v,some (.map m))=>if v=ver then some m else none
 | _=>none
def Uh (ver:Nat):Nat × Option AObj→Option (List AV)
 | (v,some (.ty cs t))=>if v=ver∧t=ZD then some cs else none
 | _=>none
def tGet (s:ByteArray):List AV→Option Bool
 | []=>some false
 | .f (.str k)::_::r=>if k=s then some true else tGet s r
 | _=>none
def tSet (s:ByteArray) (y:FV):List AV→Option (List AV)
 | []=>some [.f (.str s),.f y]
 | .f (.str k)::v::r=>if k=s then some (.f (.str k):: .f y::r)else(tSet s y r).map fun r'=> .f (.str k)::v::r'
 | _=>none
def lookV (z:Value) (ok:Bool) (r:Option Value):AV:=match ok,r with
 | true,some v=> .tup [.f (FV.ofValue v),.f (.bool true)]
 | true,none=> .tup [.f (FV.ofValue z),.f (.bool false)]
 | false,some v=> .f (FV.ofValue v)
 | false,none=> .f (FV.ofValue z)
def AV.plainVal:AV→Option Value
 | .f (.int k n)=>some (.int k n)
 | .f (.bool b)=>some (.bool b)
 | .f (.str s)=>some (.string s)
 | _=>none
def copyN (sz ver off n m:Nat) (news:List AV) (o:Nat × Option AObj):Option (AV × (Nat × Option AObj)):=match cellsOf ver o with
 | some cs=>if (off+min m n)*sz≤cs.length then some (.f (.int .i64 (min m n:Nat)),(ver,some (.cells (splice cs (off*sz) (news.take (min m n*sz))))))else none
 | none=>none
def copyS (sz ver off n ver2 off2 m:Nat) (o:Nat × Option AObj):Option (AV × (Nat × Option AObj)):=match cellsOf ver o with
 | some cs=>if ver2=ver∧(off+min m n)*sz≤cs.length∧(off2+min m n)*sz≤cs.length then some (.f (.int .i64 (min m n:Nat)),(ver,some (.cells (splice cs (off*sz) ((cs.drop (off2*sz)).take (min m n*sz))))))else none
 | none=>none
def copyR (sz ver off n ver2 off2 m:Nat) (o2 o:Nat × Option AObj):Option (AV × (Nat × Option AObj)):=match cellsOf ver2 o2,cellsOf ver o with
 | some cs2,some cs=>if (off+min m n)*sz≤cs.length∧(off2+min m n)*sz≤cs2.length then some (.f (.int .i64 (min m n:Nat)),(ver,some (.cells (splice cs (off*sz) ((cs2.drop (off2*sz)).take (min m n*sz))))))else none
 | _,_=>none
def byteV:FV→Option UInt8
 | .int .u8 n=>some (UInt8.ofNat n.toNat)
 | _=>none
def Mq:List FV→Option (List UInt8)
 | []=>some []
 | x::l=>match byteV x,Mq l with
  | some b,some r=>some (b::r)
  | _,_=>none
def Jc:List AV→Option (List UInt8)
 | []=>some []
 | .f x::l=>match byteV x,Jc l with
  | some b,some r=>some (b::r)
  | _,_=>none
 | _::_=>none
def encU (b:UInt8):List FV:=[.int .u8 b.toNat]
def QCE (l:List (List FV)):Option (List UInt8):=Mq l.flatten
def onesA:List AV→Option (List (List FV))
 | []=>some []
 | .f x::l=>match onesA l with
  | some r=>some ([x]::r)
  | none=>none
 | _::_=>none
def Js (id ver:Nat) (s:ByteArray) (y:AV):Eff:=match y with
 | .f x=>if x.isOne=true then .md id fun o=>match Uh ver o with
  | some cs=>match tSet s x cs with
   | some cs'=>some (.any,(ver,some (.ty cs' ZD)))
   | none=>none
  | none=>none else .no
 | _=> .no
def lookT (ver:Nat) (s:ByteArray) (ok:Bool) (o:Nat × Option AObj):Option AV:=if ok=true then(match Uh ver o with
 | some cs=>match tGet s cs with
  | some b=>some (.tup [.any,.f (.bool b)])
  | none=>none
 | none=>none)else none
def eff (lo:LOp) (ρ : Operand→AV) (t:Nat):Eff:=
 match lo with
 | .move x=> .pure (ρ x)
 | .nilChk x=>match ρ x with
  | .f (.fp cs)=> .pure (.f (.fp cs))
  | .f (.fn f)=> .pure (.f (.fn f))
  | .clo f cs=> .pure (.clo f cs)
  | .f (.fc f cs)=> .pure (.f (.fc f cs))
  | .ptr id ver off=> .rd id fun o=>if VL ver o then some (.ptr id ver off)else none
  | _=> .no
 | .pick c a b=>match ρ c with
  | .f (.bool x)=> .pure (QAp x (ρ a) (ρ b))
  | _=> .no
 | .alloc e z=>XF t (fun v=> .ptr t v 0) (z.map .f)
 | .box e x=>match ρ x with
  | .agg cs=>XF t (fun v=> .ptr t v 0) cs
  | a=>if a.isOne then XF t (fun v=> .ptr t v 0) [a]else .no
 | .build z parts=>match fillA (z.map .f) (parts.map fun (o,s,x)=>(o,s,ρ x))with
  | some cs=> .pure (.agg cs)
  | none=> .no
 | .buildSlice e sz len z parts=>match fillA (Qd len z) (parts.map fun (i,x)=>(i*sz,sz,ρ x))with
  | some cs=>XF t (fun v=> .sl t v sz 0 len) cs
  | none=> .no
 | .load n x=>match ρ x with
  | .f (.fp cs)=>match n with
   | none=>match cs[0]? with
    | some c=> .pure (.f c)
    | none=> .no
   | some n=>if n≤cs.length then .pure (.agg ((cs.take n).map .f))else .no
  | .ptr id ver off=> .rd id fun o=>match cellsOf ver o with
   | some cs=>match n with
    | none=>cs[off]?
    | some n=>if off+n≤cs.length then some (.agg ((cs.drop off).take n))else none
   | none=>none
  | _=> .no
 | .store n a v=>match ρ a,(ρ v).cellsN n with
  | .ptr id ver off,some xs=> .md id fun o=>match cellsOf ver o with
   | some cs=>if off+n≤cs.length then some (.any,(ver,some (.cells (splice cs off xs))))else none
   | none=>none
  | _,_=> .no
 | .bin op tb x y=>match ρ x,ρ y with
  | .f a,.f b=>match binF op tb a b with
   | some c=> .pure (.f c)
   | none=> .no
  | _,_=> .no
 | .un op x=>match ρ x with
  | .f a=>match unF op a with
   | some c=> .pure (.f c)
   | none=> .no
  | _=> .no
 | .eqS ks neg x y=>match ρ x,ρ y with
  | .agg xs,.agg ys=>match eqL ks xs ys with
   | some b=> .pure (.f (.bool (b != neg)))
   | none=> .no
  | _,_=> .no
 | .isNil false neg x=>match ρ x with
  | .f .nil=> .pure (.f .bit)
  | .f (.fr _ l)=> .pure (.f (if l.length=0 then .bit else .bool neg))
  | .sl id ver _ _ n=> .rd id fun o=>if VL ver o then some (.f (if n=0 then .bit else .bool neg))else none
  | _=> .no
 | .isNil true neg x=>match ρ x with
  | .f (.fp _)=> .pure (.f (.bool neg))
  | .ptr id ver _=> .rd id fun o=>if VL ver o then some (.f (.bool neg))else none
  | .f (.lit (.pointer none))=> .pure (.f (.bool (!neg)))
  | _=> .no
 | .convInt k x=>match ρ x with
  | .f (.int _ n)=> .pure (.f (.int k (k.wrap n)))
  | _=> .no
 | .convStr x=>match ρ x with
  | .f (.str s)=> .pure (.f (.str s))
  | _=> .no
 | .bytesStr x=>match ρ x with
  | .f .nil=> .pure (.f (.str ⟨#[]⟩))
  | .f (.fr sz l)=>if sz=1 then match QCE l with
   | some s=> .pure (.f (.str ⟨s.toArray⟩))
   | none=> .no else .no
  | .sl id ver sz off n=>if sz=1 then .rd id fun o=>match cellsOf ver o with
   | some cs=>if off+n≤cs.length then match Jc ((cs.drop off).take n)with
    | some s=>some (.f (.str ⟨s.toArray⟩))
    | none=>none else none
   | none=>none else .no
  | _=> .no
 | .strBytes x=>match ρ x with
  | .f (.str s)=>if s.size≤140737488355328 then .pure (.f (.fr 1 (s.data.toList.map encU)))else .no
  | _=> .no
 | .mark x=>match ρ x with
  | .sl id ver sz off n=>if sz=1∧n≠0 then .md id fun o=>match cellsOf ver o with
   | some cs=>if off+n≤cs.length then match onesA ((cs.drop off).take n)with
    | some l=>some (.f (.fr 1 l),(ver,none))
    | none=>none else none
   | none=>none else .no
  | _=> .no
 | .clo f caps=>match caps with
  | []=> .pure (.f (.fn f))
  | _=> .pure (.clo f (caps.map ρ))
 | .makeSlice e sz bytes z l c=>match (ρ l).toI,(ρ c).toI with
  | some n,some m=>if 0≤n∧n≤m∧m*bytes≤140737488355328∧m≤9223372036854775807 then XF t (fun v=> .sl t v sz 0 n.toNat) (Qd n.toNat z)else .no
  | _,_=> .no
 | .slice sz x lo hi=>match ρ x with
  | .f .nil=>match YK 0 ρ lo hi with
   | some _=> .pure (.f .nil)
   | none=> .no
  | .f (.fr sz' l)=>if sz'=sz then match YK l.length ρ lo hi with
   | some (a,b)=> .pure (.f (.fr sz ((l.take b).drop a)))
   | none=> .no else .no
  | .sl id ver sz' off n=>if sz'=sz then match YK n ρ lo hi with
   | some (a,b)=> .rd id fun o=>if VL ver o then some (.sl id ver sz (off+a) (b - a))else none
   | none=> .no else .no
  | _=> .no
 | .slice0 x lo hi mx=>match (ρ lo).toI,(ρ hi).toI,(ρ mx).toI with
  | some 0,some 0,some 0=>match ρ x with
   | .f .nil=> .pure (.f .nil)
   | .f (.fr _ _)=> .pure (.f .nil)
   | .sl id ver _ _ _=> .rd id fun o=>if VL ver o then some (.f .nil)else none
   | _=> .no
  | _,_,_=> .no
 | .sliceS x lo hi=>match ρ x with
  | .f (.str s)=>match YK s.size ρ lo hi with
   | some (a,b)=> .pure (.f (.str (s.extract a b)))
   | none=> .no
  | _=> .no
 | .fieldAddr off x=>match ρ x with
  | .f (.fp cs)=>if off≤cs.length then .pure (.f (.fp (cs.drop off)))else .no
  | .ptr id ver o=> .rd id fun ob=>if VL ver ob then some (.ptr id ver (o+off))else none
  | _=> .no
 | .field off n x=>match ρ x with
  | .agg cs=>match n with
   | none=>match cs[off]? with
    | some a=> .pure a
    | none=> .no
   | some n=>if off+n≤cs.length then .pure (.agg ((cs.drop off).take n))else .no
  | _=> .no
 | .indexAddr sz x ix=>match ρ x,(ρ ix).toI with
  | .f (.fr sz' l),some i=>if sz'=sz∧0≤i then match l[i.toNat]? with
   | some cs=> .pure (.f (.fp cs))
   | none=> .no else .no
  | .sl id ver sz' off n,some i=>if sz'=sz∧0≤i∧i<n then .rd id fun ob=>if VL ver ob then some (.ptr id ver ((off+i.toNat)*sz))else none else .no
  | _,_=> .no
 | .indexS x ix=>match ρ x,(ρ ix).toI with
  | .f (.str s),some i=>if 0≤i then match s.data.toList[i.toNat]? with
   | some b=> .pure (.f (.int .u8 b.toNat))
   | none=> .no else .no
  | _,_=> .no
 | .extract x i=>match ρ x with
  | .tup vs=>match vs[i]? with
   | some a=> .pure a
   | none=> .no
  | _=> .no
 | .len str x=>match ρ x with
  | .f (.str s)=>if str=true then .pure (.f (.int .i64 s.size))else .no
  | .f .nil=>if str=false then .pure (.f (.int .i64 0))else .no
  | .f (.fr _ l)=>if str=false then .pure (.f (.int .i64 l.length))else .no
  | .sl id ver _ _ n=>if str=false then .rd id fun o=>if VL ver o then some (.f (.int .i64 n))else none else .no
  | _=> .no
 | .maxI x y=>match ρ x,ρ y with
  | .f (.int k a),.f (.int k' b)=>if k=k' then .pure (.f (.int k (max a b)))else .no
  | _,_=> .no
 | .minI x y=>match ρ x,ρ y with
  | .f (.int k a),.f (.int k' b)=>if k=k' then .pure (.f (.int k (min a b)))else .no
  | _,_=> .no
 | .append str e sz bytes s x=>match ρ s,ρ x with
  | .f .nil,.sl id ver sz' off n=>if str=false∧sz'=sz∧id≠t then .rm id t fun o o2=>match cellsOf ver o with
   | some cs=>if (off+n)*sz≤cs.length then bornA sz bytes n ((cs.drop (off*sz)).take (n*sz)) t o2 else none
   | none=>none else .no
  | .sl id ver sz1 off n,.sl id2 ver2 sz2 off2 n2=>if str=false∧sz1=sz∧sz2=sz∧id2≠id then .rm id2 id fun o2 o=>match cellsOf ver2 o2 with
   | some cs=>if (off2+n2)*sz≤cs.length then growA sz bytes ver off n n2 ((cs.drop (off2*sz)).take (n2*sz)) id o else none
   | none=>none else .no
  | .f .nil,b=>match srcF str sz b with
   | some (m,news)=> .md t (bornA sz bytes m news t)
   | none=> .no
  | .sl id ver sz' off n,b=>if sz'=sz then match srcF str sz b with
   | some (m,news)=> .md id (growA sz bytes ver off n m news id)
   | none=> .no else .no
  | _,_=> .no
 | .copy sz d s=>match ρ d,ρ s with
  | .sl id ver sz1 off n,.sl id2 ver2 sz2 off2 n2=>if sz1=sz∧sz2=sz then(if id2=id then .md id (copyS sz ver off n ver2 off2 n2)else .rm id2 id (copyR sz ver off n ver2 off2 n2))else .no
  | .sl id ver sz1 off n,.f (.fr sz2 l)=>if sz1=sz∧sz2=sz then .md id (copyN sz ver off n l.length (l.flatten.map .f))else .no
  | .sl id ver sz1 off n,.f .nil=>if sz1=sz then .md id (copyN sz ver off n 0 [])else .no
  | _,_=> .no
 | .clear sz z x=>match ρ x with
  | .sl id ver sz1 off n=>if sz1=sz then .md id fun o=>match cellsOf ver o with
   | some cs=>if (off+n)*sz≤cs.length then some (.tup [],(ver,some (.cells (splice cs (off*sz) (Qd n z)))))else none
   | none=>none else .no
  | _=> .no
 | .cap _=> .no
 | .ext _ _=> .no
 | .appendN ..=> .no
 | .never=> .no
 | .mkMap=> .md t fun o=>match o with
  | (ver,none)=>some (.map t (ver+1),(ver+1,some (.map [])))
  | _=>none
 | .mapUpd m k x=>match ρ m,ρ k,(ρ x).plainVal with
  | .map id ver,.f (.str s),some x=> .md id fun o=>match JE ver o with
   | some es=>some (.any,(ver,some (.map (mSet s x es))))
   | none=>none
  | .map id ver,.f (.str s),none=>Js id ver s (ρ x)
  | _,_,_=> .no
 | .lookup z ok m k=>match ρ m,ρ k with
  | .map id ver,.f (.str s)=> .rd id fun o=>match JE ver o with
   | some es=>some (lookV z ok (mGet s es))
   | none=>lookT ver s ok o
  | .f (.fm es),.f (.str s)=> .pure (lookV z ok (mGet s es))
  | _,_=> .no
 | .call _ _=> .no

open Go.RowKit
set_option linter.unusedVariables false
set_option linter.unusedSimpArgs false

def Ql (P:Program) (t:TypeId):Option (List FV):=
 match P.info? t with
 | some i=>match i.zero with
  | some z=>if z.cells.toList.all (·.oneCell')&&z.cells.size == i.size then some (z.cells.toList.map FV.ofValue)else none
  | none=>none
 | none=>none
def QAf (P:Program) (t:TypeId):Option (Option Nat):=
 match P.underlying t,P.info? t with
 | some d,some i=>some (if d.isRow then some i.size else none)
 | _,_=>none
def sizeOf? (P:Program) (t:TypeId):Option Nat:=(P.info? t).map (·.size)
def bytesOf? (P:Program) (t:TypeId):Option Nat:=(P.info? t).map (·.bytes)
def elemOf? (P:Program) (t:TypeId):Option TypeId:=match P.underlying t with
 | some (.slice e)=>some e
 | _=>none
def fieldOf? (P:Program) (t:TypeId) (i:Nat):Option Field:=match P.underlying t with
 | some (.struct fs)=>fs[i]?
 | _=>none
def Wy (P:Program) (t:TypeId):Bool:=match P.underlying t with
 | some .string=>true
 | _=>false
def Ot (P:Program) (t:TypeId):Bool:=match P.underlying t with
 | some .bool=>true
 | _=>false
def isPtr (P:Program) (t:TypeId):Bool:=match P.underlying t with
 | some (.pointer _)=>true
 | _=>false
def intKindOf? (P:Program) (t:TypeId):Option IntKind:=match P.underlying t with
 | some (.int k)=>some k
 | _=>none
def Np (P:Program) (t:TypeId):Bool:=match elemOf? P t with
 | some e=>intKindOf? P e == some .u8
 | none=>false
def partsOf? (P:Program) (fs:Array Field):List (Nat × Operand)→Option (List (Nat × Nat × Operand))
 | []=>some []
 | (i,x)::r=>match fs[i]? with
  | some f=>match sizeOf? P f.type,partsOf? P fs r with
   | some s,some l=>some ((f.offset,s,x)::l)
   | _,_=>none
  | none=>none
def nilOf? (P:Program) (op:BinOp) (t:TypeId) (x y:Operand):Option LOp:=match op,y with
 | .eql,.const (.slice none 0 0)=>if (elemOf? P t).isSome then some (.isNil false false x)else none
 | .neq,.const (.slice none 0 0)=>if (elemOf? P t).isSome then some (.isNil false true x)else none
 | .eql,.const (.pointer none)=>if isPtr P t then some (.isNil true false x)else none
 | .neq,.const (.pointer none)=>if isPtr P t then some (.isNil true true x)else none
 | _,_=>none
def kindOf? (P:Program) (t:TypeId):Option Nat:=match P.underlying t with
 | some (.int _)=>some 0
 | some .bool=>some 1
 | some .string=>some 2
 | _=>none
def kindsOf? (P:Program):List Field→Nat→Option (List Nat)
 | [],_=>some []
 | f::fs,k=>if f.name≠ "_"∧f.offset=k then match kindOf? P f.type,kindsOf? P fs (k+1)with
  | some a,some l=>some (a::l)
  | _,_=>none else none
def eqOf? (P:Program) (op:BinOp) (t:TypeId) (x y:Operand):Option LOp:=match P.underlying t with
 | some (.struct fs)=>if P.stoodInHeld t=false∧P.eqGuardType P.depth t=false then match kindsOf? P fs.toList 0 with
  | some ks=>match op with
   | .eql=>some (.eqS ks false x y)
   | .neq=>some (.eqS ks true x y)
   | _=>none
  | none=>none else none
 | _=>none
def mapOf? (P:Program) (t:TypeId):Option (TypeId × TypeId):=match P.underlying t with
 | some (.map k e)=>if Wy P k=true then some (k,e)else none
 | _=>none
def Xe (P:Program):Op→Option LOp
 | .move x|.assign x=>some (.move x)
 | .nilCheck x=>some (.nilChk x)
 | .makeInterface .. | .panic ..=>some .never
 | .pick c a b=>some (.pick c a b)
 | .alloc e=>(Ql P e).map (.alloc e)
 | .box e x=>some (.box e x)
 | .build t parts=>match P.underlying t,Ql P t with
  | some (.struct fs),some z=>if fs.toList.all (fun f=>(sizeOf? P f.type).isSome)then(partsOf? P fs parts.toList).map (.build z)else none
  | _,_=>none
 | .buildSlice t len parts=>match elemOf? P t with
  | some e=>match Ql P e,sizeOf? P e with
   | some z,some sz=>if sz≠0∧len*sz≤16777216 then some (.buildSlice e sz len z parts.toList)else none
   | _,_=>none
  | none=>none
 | .load t a=>(QAf P t).map (.load · a)
 | .store t a v=>(sizeOf? P t).map (.store · a v)
 | .binOp op t x y _=>(match nilOf? P op t x y with|some lo=>some lo|none=>match eqOf? P op t x y with|some lo=>some lo|none=>some (.bin op (Ot P t) x y))
 | .unOp op _ x=>some (.un op x)
 | .convert src dst x=>match intKindOf? P dst with
  | some k=>if (intKindOf? P src).isSome then some (.convInt k x)else none
  | none=>if Wy P src&&Wy P dst then some (.convStr x)else if Np P src&&Wy P dst then some (.bytesStr x)else if Wy P src&&Np P dst then some (.strBytes x)else if Np P src&&src == dst then some (.mark x)else none
 | .makeFunc fn first caps=>if first.isEmpty then some (.clo fn caps.toList)else none
 | .makeSlice t l c=>match elemOf? P t with
  | some e=>match Ql P e,sizeOf? P e,bytesOf? P e with
   | some z,some sz,some by_=>if sz≠0 then some (.makeSlice e sz by_ z l c)else none
   | _,_,_=>none
  | none=>none
 | .slice t x lo hi mx=>match elemOf? P t with
  | some e=>match sizeOf? P e,lo,hi,mx with
   | some sz,lo,hi,none=>some (.slice sz x lo hi)
   | some sz,some lo,some hi,some mx=>some (.slice0 x lo hi mx)
   | some sz,none,some hi,some mx=>some (.slice0 x (.const (.int .i64 0)) hi mx)
   | _,_,_,_=>none
  | none=>if Wy P t&&mx.isNone then some (.sliceS x lo hi)else none
 | .fieldAddr s x i=>match fieldOf? P s i with
  | some f=>match sizeOf? P f.type with
   | some n=>if n≠0 then some (.fieldAddr f.offset x)else none
   | none=>none
  | none=>none
 | .field s x i=>match fieldOf? P s i with
  | some f=>(QAf P f.type).map (.field f.offset · x)
  | none=>none
 | .indexAddr t x ix=>match elemOf? P t with
  | some e=>(sizeOf? P e).map (.indexAddr · x ix)
  | none=>none
 | .index t x ix=>if Wy P t then some (.indexS x ix)else none
 | .extract x i=>some (.extract x i)
 | .makeMap t r=>match mapOf? P t,r with
  | some _,none=>some .mkMap
  | _,_=>none
 | .mapUpdate t m k x=>match mapOf? P t with
  | some _=>some (.mapUpd m k x)
  | none=>none
 | .lookup t m k ok=>match mapOf? P t with
  | some (_,e)=>match P.info? e with
   | some i=>match i.zero with
    | some z=>some (.lookup z ok m k)
    | none=>none
   | none=>none
  | none=>none
 | .range t x=>if (mapOf? P t).isSome then some (.ext 0 x)else none
 | .next x s=>if s=false then some (.ext 1 x)else none
 | .entry x=>some (.ext 2 x)
 | .call c=>match c.callee with
  | .builtin .len=>match c.args.toList,c.argTypes.toList with
   | [x],[t]=>if Wy P t then some (.len true x)else if (elemOf? P t).isSome then some (.len false x)else if (mapOf? P t).isSome then some (.ext 3 x)else none
   | _,_=>none
  | .builtin .max=>match c.args.toList with
   | [x,y]=>some (.maxI x y)
   | _=>none
  | .builtin .min=>match c.args.toList with
   | [x,y]=>some (.minI x y)
   | _=>none
  | .builtin .append=>match c.args.toList,c.argTypes.toList with
   | [s,x],[t,tx]=>match elemOf? P t with
    | some e=>match sizeOf? P e,bytesOf? P e with
     | some sz,some by_=>if sz≠0∧by_≠0∧(Ql P e).isSome=true then(if Wy P tx then some (.append true e sz by_ s x)else if (elemOf? P tx).isSome then some (.append false e sz by_ s x)else if (intKindOf? P tx).isSome then some (.appendN e sz by_ ((Ql P e).getD []) s x)else none)else none
     | _,_=>none
    | none=>none
   | _,_=>none
  | .builtin .copy=>match c.args.toList,c.argTypes.toList with
   | [d,s],[dT,sT]=>match elemOf? P dT with
    | some e=>match sizeOf? P e with
     | some sz=>if (elemOf? P sT).isSome then some (.copy sz d s)else none
     | none=>none
    | none=>none
   | _,_=>none
  | .builtin .clear=>match c.args.toList,c.argTypes.toList with
   | [x],[t]=>match elemOf? P t with
    | some e=>match sizeOf? P e,Ql P e with
     | some sz,some z=>some (.clear sz z x)
     | _,_=>none
    | none=>none
   | _,_=>none
  | .builtin .cap=>match c.args.toList,c.argTypes.toList with
   | [x],[t]=>if (elemOf? P t).isSome then some (.cap x)else none
   | _,_=>none
  | .value f=>some (.call f c.args.toList)
  | _=>none
 | _=>none

def Runs (P:Program) (s:Sem Next) (w w':World) (u:Value):Prop:=s.run P w=.ok (.value u) w'∨(s.run P w=.ok .skip w'∧u=undef)

section inv
variable {G:QM}{Z:Nat→Prop}{w:World}{v:Value}
theorem RepA.f_ {x:FV}(h:RepA G Z w (.f x) v):RepF Z w x v:=by cases h;assumption
theorem RepA.int_ {k:IntKind}{n:Int}(h:RepA G Z w (.f (.int k n)) v):v=.int k n:=by cases h.f_;rfl
theorem RepA.bool_ {b:Bool}(h:RepA G Z w (.f (.bool b)) v):v=.bool b:=by cases h.f_;rfl
theorem RepA.str_ {s:ByteArray}(h:RepA G Z w (.f (.str s)) v):v=.string s:=by cases h.f_;rfl
theorem RepA.nil_ (h:RepA G Z w (.f .nil) v):∃ A,v=.slice A 0 0:=by cases h.f_;exact⟨_,rfl⟩
theorem RepA.bit_ (h:RepA G Z w (.f .bit) v):∃ b,v=.bool b:=by cases h.f_;exact⟨_,rfl⟩
theorem RepA.fn_ {f:Fn}(h:RepA G Z w (.f (.fn f)) v):v=.func f #[] #[]:=by cases h.f_;rfl
theorem RepA.toI_ {a:AV}{n:Int}(h:RepA G Z w a v) (e:a.toI=some n):∃ k,v=.int k n:=by
 cases a<;>simp only[AV.toI]at e<;>try cases e
 rename_i x
 cases x<;>simp only[FV.toI]at e<;>try cases e
 exact⟨_,h.int_⟩
theorem RepA.lit_ {u:Value}(h:RepA G Z w (.f (.lit u)) v):v=u:=by cases h with|f h=>cases h;rfl
theorem RepA.fr_ {sz:Nat}{l:List (List FV)}(h:RepA G Z w (.f (.fr sz l)) v):∃ A c,v=.slice A l.length c∧l.length≤c∧c≤maxLen∧(0<l.length→∃ b o,A=some ⟨b,o,none⟩∧Z b):=by
 cases h.f_ with
 | frNil _ A c hc=>exact⟨A,c,rfl,by simp,hc,fun h=>absurd h (by simp)⟩
 | fr _ _ b o c us h0 h1 h2 hb=>exact⟨_,c,rfl,h1,h2,fun _=>⟨b,o,rfl,hb⟩⟩
theorem RepA.fp_ {cs:List FV}(h:RepA G Z w (.f (.fp cs)) v):∃ (b o:Nat) (us:Nat→Value),v=.pointer (some ⟨b,o,none⟩)∧Z b∧(∀ j,j<cs.length→w.cell? ⟨b,o+j,none⟩=some (us j)∧(us j).oneCell'=true)∧∀ j a,cs[j]? = some a→RepF Z w a (us j):=by
 cases h.f_ with
 | fp _ b o us hz hc hc2=>exact⟨b,o,us,rfl,hz,hc,hc2⟩
theorem RepF.one_ {x:FV}(h:RepF Z w x v) (e:x.isOne=true):v.oneCell'=true:=by
 cases h<;>first|rfl|exact e
theorem RepA.agg_ {cs:List AV}(h:RepA G Z w (.agg cs) v):∃ us:Array Value,v=.agg us∧us.size=cs.length∧(∀ (j:Nat) (u:Value),us[j]? = some u→u.oneCell'=true)∧∀ (j:Nat) (a:AV) (u:Value),cs[j]? = some a→us[j]? = some u→RepA G Z w a u:=by
 cases h with
 | agg _ us h1 h2 h3=>exact⟨us,rfl,h1,h2,h3⟩
theorem RepA.tup_ {cs:List AV}(h:RepA G Z w (.tup cs) v):∃ us:Array Value,v=.tuple us∧us.size=cs.length∧∀ (j:Nat) (a:AV) (u:Value),cs[j]? = some a→us[j]? = some u→RepA G Z w a u:=by
 cases h with
 | tup _ us h1 h3=>exact⟨us,rfl,h1,h3⟩
theorem RepA.clo_ {f:Fn}{cs:List AV}(h:RepA G Z w (.clo f cs) v):∃ us:Array Value,v=.func f #[] us∧us.size=cs.length∧∀ (j:Nat) (a:AV) (u:Value),cs[j]? = some a→us[j]? = some u→RepA G Z w a u:=by
 cases h with
 | clo _ _ us h1 h3=>exact⟨us,rfl,h1,h3⟩
theorem RepA.fc_ {f:Fn}{cs:List FV}(h:RepA G Z w (.f (.fc f cs)) v):∃ us:Array Value,v=.func f #[] us∧us.size=cs.length∧∀ (j:Nat) (a:AV) (u:Value),(cs.map AV.f)[j]? = some a→us[j]? = some u→RepA G Z w a u:=by
 cases h with
 | f h=>cases h with
  | fc _ _ us h1 h3=>exact⟨us,rfl,h1,fun j a u ha hu=>by
   rw[List.getElem?_map]at ha
   obtain⟨x,hx,rfl⟩:=Option.map_eq_some_iff.1 ha
   exact .f (h3 j x u hx hu)⟩
theorem RepA.slc_ {id ver sz off n c:Nat}{loc:Option (Nat × Nat)}(h:RepA G Z w (.slc id ver sz off n c) v) (e:G id=(ver,some loc)) :
  ∃ g o,loc=some (g,o)∧v=.slice (some ⟨g,o+off*sz,none⟩) n c∧n≤c∧c≤maxLen∧∃ (arr:Array Value) (e:TypeId) (fz:Nat × Nat),w.heap[g]? = some (.cells arr e fz)∧o+(off+c)*sz=arr.size:=by
 cases h with
 | slcOld _ _ _ _ _ _ _ h1 h2 h3=>rw[e]at h2;exact absurd (h2 rfl) (by simp)
 | slcLive _ _ _ _ _ _ g o h1 h2 h3 h4=>
  rw[e]at h1
  exact⟨g,o,Option.some.inj (Prod.mk.inj h1).2,rfl,h2,h3,h4⟩
theorem RepA.sl_ {id ver sz off n:Nat}{loc:Option (Nat × Nat)}(h:RepA G Z w (.sl id ver sz off n) v) (e:G id=(ver,some loc)) :
  (n=0∧∃ A,v=.slice A 0 0)∨∃ g o c,loc=some (g,o)∧v=.slice (some ⟨g,o+off*sz,none⟩) n c∧n≤c∧c≤maxLen∧∃ (arr:Array Value) (e:TypeId) (fz:Nat × Nat),w.heap[g]? = some (.cells arr e fz)∧o+(off+c)*sz=arr.size:=by
 cases h with
 | slOld _ _ _ _ _ _ h1 h2 h3=>rw[e]at h2;exact absurd (h2 rfl) (by simp)
 | slCap _ _ _ _ A loc h1=>exact .inl ⟨rfl,A,rfl⟩
 | slLive _ _ _ _ _ g o c h1 h2 h3 h4=>
  rw[e]at h1
  simp only[Prod.mk.injEq,Option.some.injEq,true_and]at h1
  exact .inr ⟨g,o,c,h1,rfl,h2,h3,h4⟩
theorem RepA.ptr_ {id ver off:Nat}{loc:Option (Nat × Nat)}(h:RepA G Z w (.ptr id ver off) v) (e:G id=(ver,some loc)):∃ g o,loc=some (g,o)∧v=.pointer (some ⟨g,o+off,none⟩):=by
 cases h with
 | ptrOld _ _ _ _ h1 h2 h3=>rw[e]at h2;exact absurd (h2 rfl) (by simp)
 | ptrLive _ _ _ g o h1=>
  rw[e]at h1
  simp only[Prod.mk.injEq,Option.some.injEq,true_and]at h1
  exact⟨g,o,h1,rfl⟩
end inv

section st
variable {P:Program}{G:QM}{H:Heap}{Z:Nat→Prop}{w:World}
theorem St.alive (st:St P G H Z w){id ver:Nat}(h:VL ver (H id)=true):∃ loc,G id=(ver,some loc):=by
 unfold VL at h
 have h1:=st.ver id
 split at h
 ·rename_i v o e
  obtain⟨loc,h2,_⟩:=st.obj id o (by rw[e])
  refine⟨loc,?_⟩
  rw[e]at h1
  simp only[beq_iff_eq]at h
  rw[← h2,← h]
  exact Prod.ext h1 rfl
 ·cases h
theorem St.cells (st:St P G H Z w){id ver:Nat}{cs:List AV}(h:cellsOf ver (H id)=some cs):∃ loc,G id=(ver,some loc)∧ObjR P G Z w loc (.cells cs)∧H id=(ver,some (.cells cs)):=by
 unfold cellsOf at h
 have h1:=st.ver id
 split at h
 ·rename_i v cs' e
  split at h
  ·rename_i hv
   obtain rfl:=Option.some.inj h
   obtain⟨loc,h2,h3⟩:=st.obj id _ (by rw[e])
   subst hv
   refine⟨loc,?_,h3,e⟩
   rw[e]at h1
   rw[← h2]
   exact Prod.ext h1 rfl
  ·cases h
 ·cases h
theorem St.drew (st:St P G H Z w) (n:Nat):St P G H Z (w.drewN n)∧Step G Z w G Z (w.drewN n):=by
 have hk:Keep G Z w G Z (w.drewN n):=⟨fun b h=>⟨h,rfl⟩,fun _=>Nat.le_refl _,fun _ _=> .inr rfl,fun b arr e fz _ h=>⟨arr,e,fz,h,rfl⟩⟩
 refine⟨⟨st.ver,st.dead,fun id o h=> ?_,st.inj,st.disj,⟨st.zlt.lt,st.zlt.kn.mono fun b hb=>⟨hb,rfl⟩⟩,st.glt,st.ones⟩,⟨hk,rfl,rfl,rfl,Nat.le_refl _,fun _ _ _=>rfl,fun _ h=> .inl h,fun _ h=> .inl h⟩⟩
 obtain⟨loc,h1,h2⟩:=st.obj id o h
 refine⟨loc,h1,?_⟩
 cases loc with
 | none=>cases o<;>exact h2
 | some p=>
  obtain⟨g,ob⟩:=p
  cases o with
  | cells cs=>
   obtain⟨arr,e,h3,h4⟩:=h2
   exact⟨arr,e,h3,h4.mono fun a v hr=>hr.keep hk⟩
  | ty cs tt=>
   obtain⟨h00,arr,h3,h4⟩:=h2
   exact⟨h00,arr,h3,h4.mono fun a v hr=>hr.keep hk⟩
  | _=>
   obtain⟨h3,es,clock,h4,h5⟩:=h2
   exact⟨h3,es,clock,h4,h5⟩
end st

theorem RepA.one_ {G:QM}{Z:Nat→Prop}{w:World}{a:AV}{v:Value}(h:RepA G Z w a v) (e:a.isOne=true):v.oneCell'=true:=by
 cases h with
 | any v=>cases e
 | f hf=>exact hf.one_ e
 | slOld _ _ _ _ _ _ _ _ h3=>exact h3
 | ptrOld _ _ _ _ _ _ h3=>exact h3
 | mapOld _ _ _ _ _ h3=>exact h3
 | slCap=>rfl
 | slLive=>rfl
 | ptrLive=>rfl
 | mapLive=>rfl
 | agg=>cases e
 | tup=>cases e
 | clo=>rfl
 | slcOld=>cases e
 | slcLive=>cases e
theorem RepA.cellsN_ {G:QM}{Z:Nat→Prop}{w:World}{a:AV}{v:Value}{n:Nat}{xs:List AV}(h:RepA G Z w a v) (e:a.cellsN n=some xs) :
  v.cells.size=n∧xs.length=n∧∀ (j:Nat) (x:AV),xs[j]? = some x→∃ u,v.cells[j]? = some u∧u.oneCell'=true∧RepA G Z w x u:=by
 have hone:∀ a:AV,RepA G Z w a v→(n=1∧a.isOne=true)→v.cells.size=n∧[a].length=n∧∀ (j:Nat) (x:AV),[a][j]? = some x→∃ u,v.cells[j]? = some u∧u.oneCell'=true∧RepA G Z w x u:=by
  rintro a h ⟨rfl,h1⟩
  have h2:=h.one_ h1
  have h3:v.cells = #[v]:=by cases v<;>first|rfl|cases h2
  rw[h3]
  refine⟨rfl,rfl,fun j x hj=> ?_⟩
  cases j with
  | zero=>
   simp only[List.getElem?_cons_zero,Option.some.injEq]at hj
   subst hj
   exact⟨v,rfl,h2,h⟩
  | succ j=>simp at hj
 cases a
 case agg cs=>
  simp only[AV.cellsN]at e
  split at e
  ·rename_i hl
   obtain rfl:=Option.some.inj e
   obtain⟨us,rfl,h1,h2,h3⟩:=h.agg_
   refine⟨by simp only[Value.cells];omega,hl,fun j x hj=> ?_⟩
   have hlt:j<us.size:=by
    have:=(List.getElem?_eq_some_iff.1 hj).1
    omega
   have hu:us[j]? = some us[j]:=Array.getElem?_eq_getElem hlt
   exact⟨us[j],hu,h2 j _ hu,h3 j x _ hj hu⟩
  ·cases e
 all_goals
  simp only[AV.cellsN]at e
  split at e
  ·rename_i hc
   obtain rfl:=Option.some.inj e
   exact hone _ h hc
  ·cases e
def OpOk (P:Program) (s:Sem Next) (G:QM) (H:Heap) (Z:Nat→Prop) (w:World) (v:AV) (H':Heap):Prop:=
 ∃ G' Z' w' u,Runs P s w w' u∧St P G' H' Z' w'∧Step G Z w G' Z' w'∧RepA G' Z' w' v u

section
variable {P:Program}{G:QM}{H:Heap}{Z:Nat→Prop}{w:World}
theorem OpOk.pure (st:St P G H Z w){s:Sem Next}{v:AV}{u:Value}(h:s.run P w=.ok (.value u) w) (hr:RepA G Z w v u):OpOk P s G H Z w v H:=
 ⟨G,Z,w,u,.inl h,st,Step.refl _ _ _,hr⟩
theorem QCk (w:World){arr:Array Value}{e:TypeId}(h:QAP arr):Ones (w.alloc (.cells arr e)) w.heap.size:=fun arr' e' fz' ha=>by
 rw[heap_alloc_new w _]at ha
 simp only[Option.some.injEq,Obj.cells.injEq]at ha
 rw[← ha.1];exact h
theorem ones_all {arr:Array Value}(h:arr.toList.all (·.oneCell')=true):QAP arr:=fun i v hv=>List.all_eq_true.1 h v (Array.mem_toList_iff.2 (Array.mem_of_getElem? hv))
theorem St.new (st:St P G H Z w){id ver:Nat}(hd:H id=(ver,none)){arr:Array Value}{e:TypeId}{cs:List AV}(hc:CellsR (RepA G Z w) arr 0 cs) (hon:QAP arr) :
  St P (upd G id (ver+1,some (some (w.heap.size,0)))) (upd H id (ver+1,some (.cells cs))) Z (w.alloc (.cells arr e))∧Step G Z w (upd G id (ver+1,some (some (w.heap.size,0)))) Z (w.alloc (.cells arr e)):=by
 refine st.change id w.heap.size (Only.alloc w _) _ _ (.inl rfl) (.inl (by simp)) rfl (by rw[hd];simp) (fun h=> ?_) (.inr (.inr ⟨0,rfl⟩)) (fun _=>QCk w hon) (fun h=>by cases h) fun o ho=>⟨_,rfl,fun hk=> ?_⟩
 ·rw[hd]at h;simp at h
 ·obtain rfl:=Option.some.inj ho
  exact⟨arr,e,heap_alloc_new w _,hc.mono fun a v hr=>hr.keep hk⟩
theorem St.write (st:St P G H Z w){id ver g o off:Nat}{cs:List AV}(hH:H id=(ver,some (.cells cs))) (hG:G id=(ver,some (some (g,o)))){xs:List AV}{vs:List Value}
  (hx:vs.length=xs.length) (hin:off+xs.length≤cs.length) (hr:∀ (j:Nat) (x:AV),xs[j]? = some x→∃ u,vs[j]? = some u∧u.oneCell'=true∧RepA G Z w x u) :
  St P G (upd H id (ver,some (.cells (splice cs off xs)))) Z (w.setCells g (o+off) vs)∧Step G Z w G Z (w.setCells g (o+off) vs):=by
 obtain⟨loc,hl,hob⟩:=st.obj id (.cells cs) (by rw[hH])
 rw[hG]at hl
 obtain rfl:=Option.some.inj hl
 obtain⟨arr,e,hh,hc⟩:=hob
 have hsp:∀ (xs:List AV) (off:Nat) (cs:List AV),off+xs.length≤cs.length→(splice cs off xs).length=cs.length∧(∀ i,(i<off∨off+xs.length≤i)→(splice cs off xs)[i]? = cs[i]?)∧∀ j,j<xs.length→(splice cs off xs)[off+j]? = xs[j]?:=by
  intro xs
  induction xs with
  | nil=>intro off cs _;exact⟨rfl,fun _ _=>rfl,fun j h=>absurd h (by simp)⟩
  | cons x r ih=>
   intro off cs h
   simp only[List.length_cons]at h ⊢
   obtain⟨h1,h2,h3⟩:=ih (off+1) (cs.set off x) (by simp;omega)
   refine⟨by rw[splice,h1];simp,fun i hi=> ?_,fun j hj=> ?_⟩
   ·rw[splice,h2 i (by omega),List.getElem?_set_ne (by omega)]
   ·cases j with
    | zero=>
     show(splice (cs.set off x) (off+1) r)[off]? = some x
     rw[h2 off (by omega),List.getElem?_set_self (by omega)]
    | succ j=>rw[splice,show off+(j+1)=off+1+j by omega,h3 j (by omega)];rfl
 obtain⟨_,hs2,hs3⟩:=hsp xs off cs hin
 have hGs:upd G id (ver,some (some (g,o)))=G:=YQ _ _ _ hG
 have:=st.change id g (Only.setCells g (o+off) vs w) (ver,some (some (g,o))) (ver,some (.cells (splice cs off xs))) (.inr ⟨o,by rw[hG]⟩)
  (.inl (by rw[(ZR g vs (o+off) w).2.2.2];exact VK hh)) rfl (by rw[hH];exact Nat.le_refl _) (fun _=> .inr (by rw[hG])) (.inr (.inr ⟨o,rfl⟩)) (fun _=>KF g e (0,0) vs (o+off) w (st.ones id g o (by rw[hG])) fun v hv=>by
    obtain⟨j,hj⟩:=List.getElem?_of_mem hv
    have hjl:=(List.getElem?_eq_some_iff.1 hj).1
    obtain⟨u,h1,h2,_⟩:=hr j _ (List.getElem?_eq_getElem (by omega))
    rw[hj]at h1;obtain rfl:=Option.some.inj h1;exact h2) (fun h=>by cases h) fun ob hob=>⟨_,rfl,fun hk=> ?_⟩
 ·rw[hGs]at this;exact this
 ·rw[hGs]at hk ⊢
  obtain rfl:=Option.some.inj hob
  obtain⟨arr',h1,h2,h3,h4⟩:=Xa g e (0,0) vs (o+off) w arr hh
  refine⟨arr',e,h1,fun j a ha=> ?_⟩
  by_cases hj:j<off∨off+xs.length≤j
  ·rw[hs2 j hj]at ha
   obtain⟨u,hu,h5,h6⟩:=hc j a ha
   exact⟨u,by rw[h3 (o+j) (by omega)];exact hu,h5,h6.keep hk⟩
  ·have hj':off+(j - off)=j:=by omega
   rw[← hj',hs3 (j - off) (by omega)]at ha
   obtain⟨u,hu,h5,h6⟩:=hr _ _ ha
   refine⟨u,?_,h5,h6.keep hk⟩
   rw[show o+j=o+off+(j - off) by omega]
   refine h4 _ u hu ?_
   have hlt:j<cs.length:=by omega
   obtain⟨u',hu',_⟩:=hc j _ (List.getElem?_eq_getElem hlt)
   have:=(Array.getElem?_eq_some_iff.1 hu').1
   omega

variable {ρ : Operand→AV}{ρc:Operand→Value}{t:Nat}{o:Oper}{v:AV}{H':Heap}
theorem QN {v v':AV}(h:(Eff.pure v).exec H=some (v',H')):v'=v∧H'=H:=by
 simp only[Eff.exec,Option.some.injEq,Prod.mk.injEq]at h;exact⟨h.1.symm,h.2.symm⟩
theorem YN {id:Nat}{k:Nat × Option AObj→Option AV}(h:(Eff.rd id k).exec H=some (v,H')):k (H id)=some v∧H'=H:=by
 simp only[Eff.exec]at h
 split at h
 ·rename_i e
  simp only[Option.some.injEq,Prod.mk.injEq]at h
  exact⟨by rw[e,h.1],h.2.symm⟩
 ·cases h
theorem YC {id:Nat}{k:Nat × Option AObj→Option (AV × (Nat × Option AObj))}(h:(Eff.md id k).exec H=some (v,H')):∃ x,k (H id)=some (v,x)∧H'=upd H id x:=by
 simp only[Eff.exec]at h
 split at h
 ·rename_i e
  simp only[Option.some.injEq,Prod.mk.injEq]at h
  exact⟨_,by rw[e,h.1],h.2.symm⟩
 ·cases h
theorem QAD {src id:Nat}{k:Nat × Option AObj→Nat × Option AObj→Option (AV × (Nat × Option AObj))}(h:(Eff.rm src id k).exec H=some (v,H')):∃ x,k (H src) (H id)=some (v,x)∧H'=upd H id x:=by
 simp only[Eff.exec]at h
 split at h
 ·rename_i e
  simp only[Option.some.injEq,Prod.mk.injEq]at h
  exact⟨_,by rw[e,h.1],h.2.symm⟩
 ·cases h
theorem Zb {id:Nat}{f:Nat→AV}{cs:List AV}(h:(XF id f cs).exec H=some (v,H')):∃ ver,H id=(ver,none)∧v=f (ver+1)∧H'=upd H id (ver+1,some (.cells cs)):=by
 obtain⟨x,h1,rfl⟩:=YC h
 split at h1
 ·rename_i ver e
  simp only[Option.some.injEq,Prod.mk.injEq]at h1
  exact⟨ver,e,h1.1.symm,by rw[h1.2]⟩
 ·cases h1

theorem ok_move (st:St P G H Z w) (hρ : ∀ x,RepA G Z w (ρ x) (ρc x)) (x:Operand) (hx:(eff (.move x) ρ t).exec H=some (v,H')) (ho:o.op=.move x∨o.op=.assign x):OpOk P (execOp ρc o) G H Z w v H':=by
 obtain⟨rfl,rfl⟩:=QN hx
 refine OpOk.pure st (u:=ρc x) ?_ (hρ x)
 rcases ho with ho|ho<;>simp [execOp,ho]

theorem ok_nilChk (st:St P G H Z w) (hρ : ∀ x,RepA G Z w (ρ x) (ρc x)) (x:Operand) (hx:(eff (.nilChk x) ρ t).exec H=some (v,H')) (ho:o.op=.nilCheck x):OpOk P (execOp ρc o) G H Z w v H':=by
 have hr:=hρ x
 simp only[eff]at hx
 split at hx
 ·rename_i cs e
  obtain⟨rfl,rfl⟩:=QN hx
  rw[e]at hr
  refine OpOk.pure st (u:=ρc x) ?_ hr
  obtain⟨b,o',us,hp,_⟩:=hr.fp_
  simp [execOp,ho,hp]
 ·rename_i f e
  obtain⟨rfl,rfl⟩:=QN hx
  rw[e]at hr
  refine OpOk.pure st (u:=ρc x) ?_ hr
  rw[hr.fn_]
  cases f<;>simp [execOp,ho,hr.fn_]
 ·rename_i f cs e
  obtain⟨rfl,rfl⟩:=QN hx
  rw[e]at hr
  refine OpOk.pure st (u:=ρc x) ?_ hr
  obtain⟨us,h1,_⟩:=hr.clo_
  rw[h1]
  cases f<;>simp [execOp,ho,h1]
 ·rename_i f cs e
  obtain⟨rfl,rfl⟩:=QN hx
  rw[e]at hr
  refine OpOk.pure st (u:=ρc x) ?_ hr
  obtain⟨us,h1,_⟩:=hr.fc_
  rw[h1]
  cases f<;>simp [execOp,ho,h1]
 ·rename_i id ver off e
  obtain⟨h1,rfl⟩:=YN hx
  split at h1
  ·rename_i ha
   obtain rfl:=Option.some.inj h1
   rw[e]at hr
   obtain⟨loc,hG⟩:=st.alive ha
   obtain⟨g,o',_,h2⟩:=hr.ptr_ hG
   refine OpOk.pure st (u:=ρc x) ?_ hr
   simp [execOp,ho,h2]
  ·cases h1
 ·cases hx

theorem ok_pick (st:St P G H Z w) (hρ : ∀ x,RepA G Z w (ρ x) (ρc x)) (c a b:Operand) (hx:(eff (.pick c a b) ρ t).exec H=some (v,H')) (ho:o.op=.pick c a b):OpOk P (execOp ρc o) G H Z w v H':=by
 have hr:=hρ c
 simp only[eff]at hx
 split at hx
 ·rename_i x e
  obtain⟨rfl,rfl⟩:=QN hx
  rw[e]at hr
  refine OpOk.pure st (u:=if x then ρc a else ρc b) (by simp [execOp,ho,hr.bool_,asBool]) ?_
  have ha:=hρ a
  have hb:=hρ b
  unfold QAp
  split
  ·rename_i p q e1 e2
   rw[e1]at ha;rw[e2]at hb
   rw[ha.bool_,hb.bool_]
   cases x<;>exact .f (.bool _)
  ·cases x<;>simp [ha,hb]
 ·cases hx

theorem MB {z:Array Value}(h:z.toList.all (·.oneCell')=true):CellsR (RepA G Z w) z 0 ((z.toList.map FV.ofValue).map .f):=by
 intro j a ha
 rw[List.map_map,List.getElem?_map]at ha
 obtain⟨c,hc,rfl⟩:=Option.map_eq_some_iff.1 ha
 rw[Array.getElem?_toList]at hc
 exact⟨c,by rw[Nat.zero_add];exact hc,List.all_eq_true.1 h c (Array.mem_toList_iff.2 (Array.mem_of_getElem? hc)),.f (RepF.ofValue Z w c)⟩
theorem Ve {e:TypeId}{z:List FV}(h:Ql P e=some z):∃ i zv,P.info? e=some i∧i.zero=some zv∧zv.cells.toList.all (·.oneCell')=true∧zv.cells.size=i.size∧z=zv.cells.toList.map FV.ofValue:=by
 unfold Ql at h
 split at h
 ·rename_i i hi
  split at h
  ·rename_i zv hz
   split at h
   ·rename_i hc
    simp only[Bool.and_eq_true,beq_iff_eq]at hc
    exact⟨i,zv,hi,hz,hc.1,hc.2,(Option.some.inj h).symm⟩
   ·cases h
  ·cases h
 ·cases h
theorem ok_alloc (st:St P G H Z w) (e:TypeId) (z:List FV) (hz:Ql P e=some z) (hx:(eff (.alloc e z) ρ t).exec H=some (v,H')) (ho:o.op=.alloc e):OpOk P (execOp ρc o) G H Z w v H':=by
 obtain⟨i,zv,hi,hzv,h1,_,rfl⟩:=Ve hz
 simp only[eff]at hx
 obtain⟨ver,hd,rfl,rfl⟩:=Zb hx
 obtain⟨s1,s2⟩:=st.new hd (e:=e) (MB (G:=G) (Z:=Z) (w:=w) h1) (ones_all h1)
 refine⟨_,Z,_,.pointer (some ⟨w.heap.size,0,none⟩),.inl ?_,s1,s2,?_⟩
 ·simp [execOp,ho,Instr.alloc,zeroValue,typeInfo,hi,hzv,newVar,newRow]
 ·have:=RepA.ptrLive (G:=upd G t (ver+1,some (some (w.heap.size,0)))) (Z:=Z) (w:=w.alloc (.cells zv.cells e)) t (ver+1) 0 w.heap.size 0 (by simp)
  simpa using this
theorem ok_box (st:St P G H Z w) (hρ : ∀ x,RepA G Z w (ρ x) (ρc x)) (e:TypeId) (x:Operand) (hx:(eff (.box e x) ρ t).exec H=some (v,H')) (ho:o.op=.box e x):OpOk P (execOp ρc o) G H Z w v H':=by
 have hr:=hρ x
 have key:∀ cs n,(ρ x).cellsN n=some cs→(XF t (fun v=> .ptr t v 0) cs).exec H=some (v,H')→OpOk P (execOp ρc o) G H Z w v H':=by
  intro cs n hc hx
  obtain⟨h1,h2,h3⟩:=hr.cellsN_ hc
  obtain⟨ver,hd,rfl,rfl⟩:=Zb hx
  obtain⟨s1,s2⟩:=st.new hd (e:=e) (arr:=(ρc x).cells) (cs:=cs) (fun j a ha=>by
   obtain⟨u,h4,h5,h6⟩:=h3 j a ha
   exact⟨u,by rw[Nat.zero_add];exact h4,h5,h6⟩) (fun i v hv=>by
   have hlt:=(Array.getElem?_eq_some_iff.1 hv).1
   obtain⟨u,h4,h5,_⟩:=h3 i _ (List.getElem?_eq_getElem (by omega))
   rw[hv]at h4;obtain rfl:=Option.some.inj h4;exact h5)
  refine⟨_,Z,_,.pointer (some ⟨w.heap.size,0,none⟩),.inl ?_,s1,s2,?_⟩
  ·simp [execOp,ho,Instr.box,newVar,newRow]
  ·have:=RepA.ptrLive (G:=upd G t (ver+1,some (some (w.heap.size,0)))) (Z:=Z) (w:=w.alloc (.cells (ρc x).cells e)) t (ver+1) 0 w.heap.size 0 (by simp)
   simpa using this
 simp only[eff]at hx
 split at hx
 ·rename_i cs e1
  exact key cs cs.length (by rw[e1];simp [AV.cellsN]) hx
 ·rename_i e1
  split at hx
  ·rename_i h1
   refine key [ρ x] 1 ?_ hx
   unfold AV.cellsN
   split
   ·rename_i cs e2
    exact absurd e2 (e1 cs)
   ·simp [h1]
  ·cases hx

theorem load_ok (st:St P G H Z w) (hρ : ∀ x,RepA G Z w (ρ x) (ρc x)) (ty:TypeId) (n:Option Nat) (x:Operand) (hn:QAf P ty=some n) (hx:(eff (.load n x) ρ t).exec H=some (v,H')):∃ u,(Instr.loadAt ty (ρc x)).run P w=.ok u w∧RepA G Z w v u∧H'=H:=by
 have hr:=hρ x
 unfold QAf at hn
 split at hn
 case h_2=>cases hn
 rename_i d i hu hi
 have one:∀ b o' u,d.isRow=false→ρc x=.pointer (some ⟨b,o',none⟩)→w.cell? ⟨b,o',none⟩=some u→(Instr.loadAt ty (ρc x)).run P w=.ok u w:=by
  intro b o' u hd hp hc
  have ha:(isAgg ty).run P w=.ok false w:=by
   have:d.isRow=false:=hd
   cases d<;>simp [TypeDesc.isRow]at this<;>simp [isAgg,run_underlying hu]
  simp [Instr.loadAt,hp,Instr.sureAddr,loadVar,ha,load,Sem.run,hc]
 have many:∀ b o' (us:List Value),d.isRow=true→ρc x=.pointer (some ⟨b,o',none⟩)→us.length=i.size→w.rangeAt b o' us→(Instr.loadAt ty (ρc x)).run P w=.ok (.agg us.toArray) w:=by
  intro b o' us hd hp hl hc
  have:=run_loadVar_mid (P:=P) w b o' ty us d hc hu hd (by simp [hi,hl])
  simp [Instr.loadAt,hp,Instr.sureAddr,this]
 simp only[eff]at hx
 split at hx
 ·rename_i cs e
  rw[e]at hr
  obtain⟨b,o',us,hxx,hz,hc,hc2⟩:=hr.fp_
  split at hx
  ·rename_i hn0
   split at hx
   ·rename_i c hc0
    obtain⟨rfl,rfl⟩:=QN hx
    have hlt:0<cs.length:=(List.getElem?_eq_some_iff.1 hc0).1
    refine⟨_,one b o' (us 0) ?_ hxx ?_,.f (hc2 0 c hc0),rfl⟩
    ·revert hn;cases d.isRow<;>simp
    ·simpa using (hc 0 hlt).1
   ·cases hx
  ·rename_i _ n
   split at hx
   ·rename_i hle
    obtain⟨rfl,rfl⟩:=QN hx
    have hd:d.isRow=true∧i.size=n:=by revert hn;cases d.isRow<;>simp
    refine⟨_,many b o' ((List.range n).map us) hd.1 hxx (by simp [hd.2]) ?_,.agg _ _ (by simp;omega) ?_ ?_,rfl⟩
    ·intro j u hu'
     rw[List.getElem?_map]at hu'
     obtain⟨k,hk,rfl⟩:=Option.map_eq_some_iff.1 hu'
     obtain⟨hk1,hk2⟩:=List.getElem?_eq_some_iff.1 hk
     simp at hk1 hk2
     subst hk2
     exact(hc j (by omega)).1
    ·intro j u hu'
     rw[List.getElem?_toArray,List.getElem?_map]at hu'
     obtain⟨k,hk,rfl⟩:=Option.map_eq_some_iff.1 hu'
     obtain⟨hk1,hk2⟩:=List.getElem?_eq_some_iff.1 hk
     simp at hk1 hk2
     subst hk2
     exact(hc j (by omega)).2
    ·intro j a u ha hu'
     rw[List.getElem?_toArray,List.getElem?_map]at hu'
     obtain⟨k,hk,rfl⟩:=Option.map_eq_some_iff.1 hu'
     obtain⟨hk1,hk2⟩:=List.getElem?_eq_some_iff.1 hk
     simp at hk1 hk2
     subst hk2
     rw[List.getElem?_map]at ha
     obtain⟨c,hc',rfl⟩:=Option.map_eq_some_iff.1 ha
     rw[List.getElem?_take_of_lt hk1]at hc'
     exact .f (hc2 j c hc')
   ·cases hx
 ·rename_i id ver off e
  rw[e]at hr
  obtain⟨h1,rfl⟩:=YN hx
  split at h1
  case h_2=>cases h1
  rename_i cs hcs
  obtain⟨loc,hG,hob,hH⟩:=st.cells hcs
  obtain⟨g,ob,rfl,hp⟩:=hr.ptr_ hG
  obtain⟨arr,et,hh,hc⟩:=hob
  have hcell:∀ j a,cs[j]? = some a→∃ u,w.cell? ⟨g,ob+j,none⟩=some u∧u.oneCell'=true∧RepA G Z w a u:=fun j a ha=>by
   obtain⟨u,h2,h3,h4⟩:=hc j a ha
   exact⟨u,by rw[cell_of_row w g _ arr et (0,0) hh];exact h2,h3,h4⟩
  split at h1
  ·obtain⟨u,h2,h3,h4⟩:=hcell off v h1
   refine⟨_,one g (ob+off) u ?_ hp h2,h4,rfl⟩
   revert hn;cases d.isRow<;>simp
  ·rename_i n
   split at h1
   ·rename_i hle
    obtain rfl:=Option.some.inj h1
    have hd:d.isRow=true∧i.size=n:=by revert hn;cases d.isRow<;>simp
    have hex:∃ us:List Value,us.length=n∧∀ j a,((cs.drop off).take n)[j]? = some a→∃ u,us[j]? = some u∧w.cell? ⟨g,ob+off+j,none⟩=some u∧u.oneCell'=true∧RepA G Z w a u:=by
     clear hn hd
     have:∀ n,off+n≤cs.length→∃ us:List Value,us.length=n∧∀ j,j<n→∃ a u,cs[off+j]? = some a∧us[j]? = some u∧w.cell? ⟨g,ob+off+j,none⟩=some u∧u.oneCell'=true∧RepA G Z w a u:=by
      intro n
      induction n with
      | zero=>intro _;exact⟨[],rfl,fun j h=>absurd h (by omega)⟩
      | succ n ih=>
       intro hn
       obtain⟨us,h1,h2⟩:=ih (by omega)
       obtain⟨u,h3,h4,h5⟩:=hcell (off+n) _ (List.getElem?_eq_getElem (by omega))
       refine⟨us++ [u],by simp [h1],fun j hj=> ?_⟩
       rcases Nat.lt_or_ge j n with h|h
       ·obtain⟨a,u',h6,h7,h8⟩:=h2 j h
        exact⟨a,u',h6,by rw[List.getElem?_append_left (by omega)];exact h7,h8⟩
       ·obtain rfl:j=n:=by omega
        exact⟨_,u,List.getElem?_eq_getElem (by omega),by rw[List.getElem?_append_right (by omega)];simp [h1],by rw[show ob+off+j=ob+(off+j) by omega];exact h3,h4,h5⟩
     obtain⟨us,h1,h2⟩:=this n hle
     refine⟨us,h1,fun j a ha=> ?_⟩
     have hj:j<n:=by
      have:=(List.getElem?_eq_some_iff.1 ha).1
      simp at this;omega
     rw[List.getElem?_take_of_lt hj,List.getElem?_drop]at ha
     obtain⟨a',u,h3,h4⟩:=h2 j hj
     rw[ha]at h3
     obtain rfl:=Option.some.inj h3
     exact⟨u,h4⟩
    obtain⟨us,hul,hus⟩:=hex
    have hlen:((cs.drop off).take n).length=n:=by simp;omega
    have hsome:∀ (j:Nat) (u:Value),us[j]? = some u→∃ a,((cs.drop off).take n)[j]? = some a:=fun j u hu'=>by
     have:=(List.getElem?_eq_some_iff.1 hu').1
     exact⟨_,List.getElem?_eq_getElem (by omega)⟩
    refine⟨_,many g (ob+off) us hd.1 hp (by omega) ?_,.agg _ _ (by simp;omega) ?_ ?_,rfl⟩
    ·intro j u hu'
     obtain⟨a,ha⟩:=hsome j u hu'
     obtain⟨u2,h2,h3,_⟩:=hus j a ha
     rw[hu']at h2
     obtain rfl:=Option.some.inj h2
     exact h3
    ·intro j u hu'
     rw[List.getElem?_toArray]at hu'
     obtain⟨a,ha⟩:=hsome j u hu'
     obtain⟨u2,h2,_,h3,_⟩:=hus j a ha
     rw[hu']at h2
     obtain rfl:=Option.some.inj h2
     exact h3
    ·intro j a u ha hu'
     rw[List.getElem?_toArray]at hu'
     obtain⟨u2,h2,_,_,h3⟩:=hus j a ha
     rw[hu']at h2
     obtain rfl:=Option.some.inj h2
     exact h3
   ·cases h1
 ·cases hx
theorem ok_load (st:St P G H Z w) (hρ : ∀ x,RepA G Z w (ρ x) (ρc x)) (ty:TypeId) (n:Option Nat) (x:Operand) (hn:QAf P ty=some n) (hx:(eff (.load n x) ρ t).exec H=some (v,H')) (ho:o.op=.load ty x):OpOk P (execOp ρc o) G H Z w v H':=by
 obtain⟨u,h1,h2,rfl⟩:=load_ok st hρ ty n x hn hx
 exact OpOk.pure st (by simp [execOp,ho,h1]) h2
end
end Go.Proofs.YtjfchihkhpinmaaGreatDoor
