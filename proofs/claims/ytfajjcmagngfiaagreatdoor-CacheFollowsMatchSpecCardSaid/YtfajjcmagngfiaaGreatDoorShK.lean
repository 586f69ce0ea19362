/-
  The abstract machine and the laws: arguments as frozen values; a function's contract as a law's. No statement of the seat is proved here; no conditions.
-/
import Derived.Test.YtfajjcmagngfiaaGreatDoorEngS
import Derived.Test.YtfajjcmagngfiaaGreatDoorOpenS
import Derived.Test.YtfajjcmagngfiaaGreatDoorCaQ
import Derived.Test.YtfajjcmagngfiaaGreatDoorCaW
import Derived.Test.YtfajjcmagngfiaaGreatDoorShr
import Derived.Test.YtfajjcmagngfiaaGreatDoorFrz2
import Derived.Test.YtfajjcmagngfiaaGreatDoorLvF
import Derived.Test.YtfajjcmagngfiaaGreatDoorLowA
namespace Go.Proofs.YtfajjcmagngfiaaGreatDoor
open Go.RowKit
set_option linter.unusedVariables false
set_option linter.unusedSimpArgs false

def Fz {α : Type}(R:Rep α) (sz:Nat) (enc : α→List FV):Prop:=∀ (w:World) (B:Nat) (x : α) (cs:List Value),R w B x cs→(enc x).length=sz∧(∀ (j:Nat) (a:FV),(enc x)[j]? = some a→∃ u,cs[j]? = some u∧u.oneCell'=true∧RepF (fun b=>b<B) w a u)
theorem fz_int {k:IntKind} : Fz (rI k) 1 (fun x=>[.int k x]):=by
 rintro w B x cs ⟨rfl,_⟩
 refine⟨rfl,fun j a ha=> ?_⟩
 cases j with
 | zero=>obtain rfl:=Option.some.inj ha;exact⟨_,rfl,rfl,.int _ _⟩
 | succ j=>simp at ha
theorem fz_str:Fz rStr 1 (fun x=>[.str x]):=by
 rintro w B x cs ⟨rfl,_⟩
 refine⟨rfl,fun j a ha=> ?_⟩
 cases j with
 | zero=>obtain rfl:=Option.some.inj ha;exact⟨_,rfl,rfl,.str _⟩
 | succ j=>simp at ha
theorem fz_pair {α β : Type}{R:Rep α}{S:Rep β}{s t:Nat}{e : α→List FV}{f : β→List FV}(hR:Fz R s e) (hl:∀ w B x cs,R w B x cs→cs.length=s) (hS:Fz S t f):Fz (rPair R S) (s+t) (fun x=>e x.1++f x.2):=by
 rintro w B x cs ⟨c1,c2,rfl,h1,h2⟩
 obtain⟨a1,a2⟩:=hR w B _ _ h1
 obtain⟨b1,b2⟩:=hS w B _ _ h2
 have hc:=hl w B _ _ h1
 refine⟨by simp [a1,b1],fun j a ha=> ?_⟩
 rcases Nat.lt_or_ge j s with hj|hj
 ·rw[List.getElem?_append_left (by omega)]at ha
  obtain⟨u,h3,h4⟩:=a2 j a ha
  exact⟨u,by rw[List.getElem?_append_left (by omega)];exact h3,h4⟩
 ·rw[List.getElem?_append_right (by omega),a1]at ha
  obtain⟨u,h3,h4⟩:=b2 (j - s) a ha
  exact⟨u,by rw[List.getElem?_append_right (by omega),hc];exact h3,h4⟩
theorem fz_sl {α : Type}{sz bts:Nat}{R:Rep α}{enc : α→List FV}(hR:Fz R sz enc):Fz (rSl sz bts R) 1 (fun l=>[.fr sz (l.map enc)]):=by
 rintro w B l cs ⟨A,c,rfl,h1,h2,_,h3⟩
 refine⟨rfl,fun j a ha=> ?_⟩
 cases j with
 | succ j=>simp at ha
 | zero=>
  obtain rfl:=Option.some.inj ha
  refine⟨_,rfl,rfl,?_⟩
  rcases Nat.eq_zero_or_pos l.length with h0|h0
  ·have e:=List.eq_nil_of_length_eq_zero h0
   subst e
   exact .frNil sz A c h2
  ·obtain⟨b,o,rfl,hb,hc⟩:=h3 h0
   have key:∀ k,k<l.length→∃ x vs,l[k]? = some x∧R w B x vs∧vs.length=sz∧∀ (j:Nat) (u:Value),vs[j]? = some u→w.cell? ⟨b,o+k*sz+j,none⟩=some u:=fun k hk=>by
    obtain⟨vs,h4,h5,h6⟩:=hc k _ (List.getElem?_eq_getElem hk)
    exact⟨_,vs,List.getElem?_eq_getElem hk,h5,h4,h6⟩
   have hfr:=RepF.fr (Z:=fun b=>b<B) (w:=w) sz (l.map enc) b o c (fun k j=>(w.cell? ⟨b,o+k*sz+j,none⟩).getD undef) (by simpa using h0) (by simpa using h1) h2 hb (fun x hx=>by
     obtain⟨y,hy,rfl⟩:=List.mem_map.1 hx
     obtain⟨k,hk,rfl⟩:=List.mem_iff_getElem.1 hy
     obtain⟨x,vs,h4,h5,_⟩:=key k hk
     rw[List.getElem?_eq_getElem hk]at h4
     obtain rfl:=Option.some.inj h4
     exact(hR w B _ _ h5).1) (fun k j hk hj=>by
     obtain⟨x,vs,h4,h5,h6,h7⟩:=key k (by simpa using hk)
     obtain⟨g1,g2⟩:=hR w B _ _ h5
     obtain⟨u,h8,h9,_⟩:=g2 j _ (List.getElem?_eq_getElem (by omega))
     have h10:=h7 j u h8
     rw[h10]
     exact⟨rfl,h9⟩) (fun k j x a hk hj=>by
     rw[List.getElem?_map]at hk
     obtain⟨y,hy,rfl⟩:=Option.map_eq_some_iff.1 hk
     obtain⟨x,vs,h4,h5,h6,h7⟩:=key k (List.getElem?_eq_some_iff.1 hy).1
     rw[hy]at h4
     obtain rfl:=Option.some.inj h4
     obtain⟨g1,g2⟩:=hR w B _ _ h5
     obtain⟨u,h8,h9,h11⟩:=g2 j a hj
     have h10:=h7 j u h8
     rw[h10]
     exact h11)
   rw[List.length_map]at hfr
   exact hfr
theorem Fz.one {α : Type}{R:Rep α}{a : α→FV}(h:Fz R 1 (fun x=>[a x])){w:World}{B:Nat}{x : α}{v:Value}(hv:R w B x [v]):RepF (fun b=>b<B) w (a x) v:=by
 obtain⟨u,h1,_,h2⟩:=(h w B x _ hv).2 0 _ rfl
 obtain rfl:=Option.some.inj h1
 exact h2
theorem FRet.calls {P:Program}{f:FuncId}{xs:List FV}{b:Bool}(h:FRet P f (xs.map .f) [.c (.v (.bool b))]){W:World}{vs:Array Value}(hs:vs.size=xs.length) (hv:∀ (j:Nat) (x:FV) (v:Value),xs[j]? = some x→vs[j]? = some v→RepF (fun b=>b<W.heap.size) W x v) :
  Calls P f vs W fun e w'=>e=.returned (.bool b)∧Below W.heap.size W w':=by
 refine(h.2 (fun _=>(0,none)) (fun b=>b<W.heap.size) W vs ⟨fun _=>rfl,fun _ _=>rfl,fun id o h=>(by cases h),fun _ _ _ _ _ h=>(by cases h),fun _ _ _ h=>(by cases h),fun b hb=>hb,fun _ _ _ h=>(by cases h),fun _ _ _ h=>(by cases h)⟩ (by rw[hs,List.length_map]) (fun j a v ha hj=>by
  rw[List.getElem?_map]at ha
  obtain⟨x,hx,rfl⟩:=Option.map_eq_some_iff.1 ha
  exact .f (hv j x v hx hj))).mono fun e w' ⟨v,r,H',G',Z',e1,⟨l,hl,hrs,_⟩,st,hh,hr⟩=> ?_
 have hll:l = [.f (.bool b)]:=by
  rcases l with _|⟨a,_|⟨a',l⟩⟩
  ·exact hrs.elim
  ·obtain⟨h1,_⟩:=hrs
   have:a=.f (.bool b):=h1
   rw[this]
  ·obtain⟨_,h2⟩:=hrs
   cases h2
 subst hll
 rw[hl]at hr
 have hr':RepA G' Z' w' (.f (.bool b)) v:=hr
 rw[e1,hr'.bool_]
 refine⟨rfl,?_⟩
 have old:∀ b,b<W.heap.size→w'.heap[b]? = W.heap[b]?:=fun b hb=>hh.old b hb (fun ⟨_,_,h⟩=>by cases h)
 exact⟨hh.os,hh.tape,hh.output,hh.size,fun b hb=>old b hb⟩
end Go.Proofs.YtfajjcmagngfiaaGreatDoor
namespace Go.Proofs.YtfajjcmagngfiaaGreatDoor
open Go.RowKit
set_option linter.unusedVariables false
set_option linter.unusedSimpArgs false

abbrev rBlob:Rep Blob:=rPair rStr (rPair (rI .i64) (rPair (rI .i64) (rPair (rI .i64) (rI .i64))))
abbrev rEntry:Rep Entry:=rPair rStr (rPair (rSl 1 16 rStr) (rI .i64))
abbrev rCache:Rep Cache:=rPair (rI .i64) (rPair (rI .i64) (rPair (rSl 5 48 rBlob) (rSl 3 48 rEntry)))
theorem len_i {k:IntKind} : ∀ w B x cs,rI k w B x cs→cs.length=1:=by rintro w B x cs ⟨rfl,_⟩;rfl
theorem len_s:∀ w B x cs,rStr w B x cs→cs.length=1:=by rintro w B x cs ⟨rfl,_⟩;rfl
theorem len_sl {α : Type}{sz bts:Nat}{R:Rep α} : ∀ w B x cs,rSl sz bts R w B x cs→cs.length=1:=by rintro w B x cs ⟨A,c,rfl,_⟩;rfl
theorem len_pair {α β : Type}{R:Rep α}{S:Rep β}{s t:Nat}(h1:∀ w B x cs,R w B x cs→cs.length=s) (h2:∀ w B x cs,S w B x cs→cs.length=t):∀ w B x cs,rPair R S w B x cs→cs.length=s+t:=by
 rintro w B x cs ⟨c1,c2,rfl,g1,g2⟩
 rw[List.length_append,h1 _ _ _ _ g1,h2 _ _ _ _ g2]
theorem fz_blob:Fz rBlob 5 fBlob:=fz_pair fz_str len_s (fz_pair fz_int len_i (fz_pair fz_int len_i (fz_pair fz_int len_i fz_int)))
theorem fz_strs:Fz (rSl 1 16 rStr) 1 (fun l=>[frStrs l]):=fz_sl fz_str
theorem fz_entry:Fz rEntry 3 fEntry:=fz_pair fz_str len_s (fz_pair fz_strs len_sl fz_int)
theorem fz_blobs:Fz (rSl 5 48 rBlob) 1 (fun l=>[frBlobs l]):=fz_sl fz_blob
theorem fz_entries:Fz (rSl 3 48 rEntry) 1 (fun l=>[frEntries l]):=fz_sl fz_entry
def fCache (c:Cache):List FV:=[.int .i64 c.1,.int .i64 c.2.1,frBlobs c.2.2.1,frEntries c.2.2.2]
theorem fz_cache:Fz rCache 4 fCache:=fz_pair fz_int len_i (fz_pair fz_int len_i (fz_pair fz_blobs len_sl fz_entries))
theorem len_cache:∀ w B x cs,rCache w B x cs→cs.length=4:=len_pair len_i (len_pair len_i (len_pair len_sl len_sl))
theorem Fz.agg {α : Type}{R:Rep α}{sz:Nat}{e : α→List FV}(h:Fz R sz e) (hl:∀ w B x cs,R w B x cs→cs.length=sz){G:Ghost}{w:World}{B:Nat}{x : α}{cs:List Value}(hr:R w B x cs):RepA G (fun b=>b<B) w (.agg ((e x).map .f)) (.agg cs.toArray):=by
 obtain⟨h1,h2⟩:=h w B x cs hr
 have h3:=hl w B x cs hr
 refine .agg _ _ (by simp [h1,h3]) (fun j u hj=> ?_) fun j a u ha hj=> ?_
 ·have hlt:j<sz:=by have:=(List.getElem?_eq_some_iff.1 (by simpa using hj:cs[j]? = some u)).1;omega
  obtain⟨u',g1,g2,_⟩:=h2 j _ (List.getElem?_eq_getElem (by omega:j<(e x).length))
  rw[List.getElem?_toArray]at hj
  rw[hj]at g1;obtain rfl:=Option.some.inj g1
  exact g2
 ·rw[List.getElem?_map]at ha
  obtain⟨y,hy,rfl⟩:=Option.map_eq_some_iff.1 ha
  obtain⟨u',g1,_,g3⟩:=h2 j y hy
  rw[List.getElem?_toArray]at hj
  rw[hj]at g1;obtain rfl:=Option.some.inj g1
  exact .f g3
theorem rSl.all {α : Type}{sz bts:Nat}{R:Rep α}{w:World}{B:Nat}{l:List α}{cs:List Value}(h:rSl sz bts R w B l cs):(l.length:Int)≤9223372036854775807∧∀ x∈l,∃ vs,R w B x vs:=by
 obtain⟨A,c,_,h1,h2,_,h3⟩:=h
 refine⟨by unfold maxLen at h2;omega,fun x hx=> ?_⟩
 obtain⟨k,hk⟩:=List.mem_iff_getElem?.1 hx
 obtain⟨b,o,_,_,h4⟩:=h3 (by have:=(List.getElem?_eq_some_iff.1 hk).1;omega)
 obtain⟨vs,_,h5,_⟩:=h4 k x hk
 exact⟨vs,h5⟩
theorem str_bound {w:World}{B:Nat}{x:ByteArray}{cs:List Value}(h:rStr w B x cs):(x.size:Int)≤9223372036854775807:=by
 have:=h.2;omega
theorem cache_bound {w:World}{B:Nat}{c:Cache}{cs:List Value}(h:rCache w B c cs):SBound c:=by
 obtain⟨_,_,_,_,_,_,_,_,_,_,_,hb,he⟩:=h
 obtain⟨b1,b2⟩:=hb.all
 obtain⟨e1,e2⟩:=he.all
 refine⟨⟨b1,e1,fun e hx=> ?_⟩,fun b hx=> ?_,fun e hx=> ?_⟩
 ·obtain⟨vs,_,_,_,_,_,_,_,h3,_⟩:=e2 e hx
  exact h3.all.1
 ·obtain⟨vs,_,_,_,h1,_⟩:=b2 b hx
  exact str_bound h1
 ·obtain⟨vs,_,_,_,h1,_,_,_,h3,_⟩:=e2 e hx
  refine⟨str_bound h1,fun d hd=> ?_⟩
  obtain⟨vs',h4⟩:=h3.all.2 d hd
  exact str_bound h4
theorem FRet.callsA {P:Program}{f:FuncId}{args:List AV}{b:Bool}(h:FRet P f args [.c (.v (.bool b))]){W:World}{vs:Array Value}(hs:vs.size=args.length) (hv:∀ (j:Nat) (x:AV) (v:Value),args[j]? = some x→vs[j]? = some v→RepA (fun _=>(0,none)) (fun b=>b<W.heap.size) W x v) :
  Calls P f vs W fun e w'=>e=.returned (.bool b)∧Below W.heap.size W w':=by
 refine(h.2 (fun _=>(0,none)) (fun b=>b<W.heap.size) W vs ⟨fun _=>rfl,fun _ _=>rfl,fun id o h=>(by cases h),fun _ _ _ _ _ h=>(by cases h),fun _ _ _ h=>(by cases h),fun b hb=>hb,fun _ _ _ h=>(by cases h),fun _ _ _ h=>(by cases h)⟩ hs hv).mono fun e w' ⟨v,r,H',G',Z',e1,⟨l,hl,hrs,_⟩,st,hh,hr⟩=> ?_
 have hll:l = [.f (.bool b)]:=by
  rcases l with _|⟨a,_|⟨a',l⟩⟩
  ·exact hrs.elim
  ·obtain⟨h1,_⟩:=hrs
   have:a=.f (.bool b):=h1
   rw[this]
  ·obtain⟨_,h2⟩:=hrs
   cases h2
 subst hll
 rw[hl]at hr
 have hr':RepA G' Z' w' (.f (.bool b)) v:=hr
 rw[e1,hr'.bool_]
 refine⟨rfl,?_⟩
 have old:∀ b,b<W.heap.size→w'.heap[b]? = W.heap[b]?:=fun b hb=>hh.old b hb (fun ⟨_,_,h⟩=>by cases h)
 exact⟨hh.os,hh.tape,hh.output,hh.size,fun b hb=>old b hb⟩
end Go.Proofs.YtfajjcmagngfiaaGreatDoor
namespace Go.Proofs.YtfajjcmagngfiaaGreatDoor
open Go.RowKit Go.Shelf
set_option linter.unusedVariables false
set_option linter.unusedSimpArgs false
set_option maxRecDepth 100000

theorem missing_zero {bl:List Blob}{l:List ByteArray} : (missingOf bl l).length=0↔∀ d∈l,hasB bl d=true:=by
 rw[List.length_eq_zero_iff,missingOf,List.filter_eq_nil_iff]
 simp
theorem mem_keep {α : Type}{p : α→Bool}{l:List α}{x : α} : x∈keepL p l↔x∈l∧p x=false:=by
 rw[keepL,List.mem_filter];simp
theorem rising_pw {α : Type}{key : α→ByteArray}{l:List α} : Rising key l↔l.Pairwise fun x y=>strLt (key x) (key y)=true:=by
 rw[List.pairwise_iff_getElem]
 constructor
 ·intro h i j hi hj hij
  exact h i j _ _ hij (List.getElem?_eq_getElem hi) (List.getElem?_eq_getElem hj)
 ·intro h i j x y hij hx hy
  obtain⟨hi,rfl⟩:=List.getElem?_eq_some_iff.1 hx
  obtain⟨hj,rfl⟩:=List.getElem?_eq_some_iff.1 hy
  exact h i j hi hj hij
theorem rising_keep {α : Type}{key : α→ByteArray}{l:List α}(p : α→Bool) (h:Rising key l):Rising key (keepL p l):=rising_pw.2 ((rising_pw.1 h).sublist List.filter_sublist)
theorem sum_keep (p:Blob→Bool):∀ l:List Blob,(∀ b∈l,0≤b.2.1)→sumSz (keepL p l)≤sumSz l
 | [],_=>Int.le_refl _
 | b::l,h=>by
  have ih:=sum_keep p l fun x hx=>h x (by simp [hx])
  have hb:=h b (by simp)
  simp only[keepL]at ih ⊢
  cases hp:p b<;>simp [List.filter_cons,hp,sumSz]<;>omega
theorem leS_of_lt {a b:ByteArray}(h:strLt a b=true):leS b a=false:=by
 unfold leS
 rw[strLt_asymm h,Bool.false_or,decide_eq_false_iff_not]
 exact fun e=>strLt_ne h e.symm
theorem prevV_ok {α : Type}{key : α→ByteArray}{l:List α}{m:Nat}{b : α}(hr:Rising key l) (hb:l[m]? = some b):prevV l m (fun e=>if leS (key b) (key e)=true then(8:Int)else 0)=0:=by
 unfold prevV
 split
 ·rfl
 ·rename_i h
  split
  ·rename_i e he
   show(if leS (key b) (key e)=true then(8:Int)else 0)=0
   rw[leS_of_lt (hr (m - 1) m e b (by omega) he hb)];rfl
  ·rfl
theorem rising_prev {α : Type}{key : α→ByteArray}{l:List α}(h:∀ (m:Nat) b,l[m]? = some b→prevV l m (fun e=>if leS (key b) (key e)=true then(8:Int)else 0)=0):Rising key l:=rising_of fun i x y hx hy=>
 leS_false (prevV_zero (p:=fun e=>leS (key y) (key e)) hx (by decide) (h (i+1) y hy))
def blobOk (b:Blob):Bool:=isDig b.1&&(inRg b.2.1 0 100000000&&inRg b.2.2.1 0 1000000000&&inRg b.2.2.2.1 0 1001000000&&inRg b.2.2.2.2 0 3000)
theorem blobErr_iff {l:List Blob}{m:Nat}{b:Blob}(hb:l[m]? = some b):blobErr l m=0↔blobOk b=true∧prevV l m (fun e=>if leS b.1 e.1=true then(8:Int)else 0)=0:=by
 rw[blobErr_of hb,blobOk]
 generalize isDig b.1=a
 generalize (inRg b.2.1 0 100000000&&inRg b.2.2.1 0 1000000000&&inRg b.2.2.2.1 0 1001000000&&inRg b.2.2.2.2 0 3000)=r
 cases a<;>cases r<;>simp
theorem blobs_iff {l:List Blob} : (∀ m,m<l.length→blobErr l m=0)↔(∀ b∈l,blobOk b=true)∧Rising (fun b:Blob=>b.1) l:=by
 constructor
 ·intro h
  refine⟨fun b hb=> ?_,rising_prev fun m b hb=>((blobErr_iff hb).1 (h m (List.getElem?_eq_some_iff.1 hb).1)).2⟩
  obtain⟨m,hm⟩:=List.mem_iff_getElem?.1 hb
  exact((blobErr_iff hm).1 (h m (List.getElem?_eq_some_iff.1 hm).1)).1
 ·rintro⟨h1,h2⟩ m hm
  obtain⟨b,hb⟩:=get_some hm
  exact(blobErr_iff hb).2 ⟨h1 b (List.mem_of_getElem? hb),prevV_ok h2 hb⟩
def entOk (e:Entry):Bool:=isDig e.1&&(decide (ckDigsM e.2.1 200=0)&&inRg e.2.2 0 1000000000)
theorem entErr_iff {l:List Entry}{m:Nat}{b:Entry}(hb:l[m]? = some b):entErr l m=0↔entOk b=true∧prevV l m (fun e=>if leS b.1 e.1=true then(8:Int)else 0)=0:=by
 rw[entErr_of hb,entOk]
 generalize isDig b.1=a
 generalize ckDigsM b.2.1 200=k
 generalize inRg b.2.2 0 1000000000=r
 by_cases hk:k=0
 ·cases a<;>cases r<;>simp [hk]
 ·cases a<;>cases r<;>simp [hk]
theorem ents_iff {l:List Entry} : (∀ m,m<l.length→entErr l m=0)↔(∀ b∈l,entOk b=true)∧Rising (fun b:Entry=>b.1) l:=by
 constructor
 ·intro h
  refine⟨fun b hb=> ?_,rising_prev fun m b hb=>((entErr_iff hb).1 (h m (List.getElem?_eq_some_iff.1 hb).1)).2⟩
  obtain⟨m,hm⟩:=List.mem_iff_getElem?.1 hb
  exact((entErr_iff hm).1 (h m (List.getElem?_eq_some_iff.1 hm).1)).1
 ·rintro⟨h1,h2⟩ m hm
  obtain⟨b,hb⟩:=get_some hm
  exact(entErr_iff hb).2 ⟨h1 b (List.mem_of_getElem? hb),prevV_ok h2 hb⟩
structure CRight (c:Cache):Prop where
 room:inRg c.1 0 1000000000=true
 lease:inRg c.2.1 0 1000000=true
 blen:c.2.2.1.length≤3000
 bok:∀ b∈c.2.2.1,blobOk b=true
 brise:Rising (fun b:Blob=>b.1) c.2.2.1
 bsum:sumSz c.2.2.1≤c.1
 elen:c.2.2.2.length≤1000
 eok:∀ e∈c.2.2.2,entOk e=true
 erise:Rising (fun b:Entry=>b.1) c.2.2.2
theorem right_iff {c:Cache} : ckCache c=0↔CRight c:=by
 constructor
 ·intro h
  have ho:=cok_of h
  obtain⟨b1,b2⟩:=blobs_iff.1 ho.berr
  obtain⟨e1,e2⟩:=ents_iff.1 ho.eerr
  have hr:=ho.room
  have hl:=ho.lease
  exact⟨by simp [inRg];omega,by simp [inRg];omega,ho.blen,b1,b2,ho.bsum,ho.elen,e1,e2⟩
 ·intro h
  have hb:=fe_none (blobs_iff.2 ⟨h.bok,h.brise⟩)
  have he:=fe_none (ents_iff.2 ⟨h.eok,h.erise⟩)
  have h1:ckBlobs c.2.2.1 c.1=0:=by
   unfold ckBlobs
   have:=h.blen
   have:=h.bsum
   rw[if_neg (by omega),hb,if_neg (by simp),if_neg (by omega)]
  unfold ckCache
  have:=h.elen
  rw[h.room,h.lease,if_pos (by rfl),h1,if_neg (by simp),if_neg (by omega),he]
theorem mem_of_keep {α : Type}{p : α→Bool}{l:List α}{x : α}(h:x∈keepL p l):x∈l:=(mem_keep.1 h).1
theorem keep_le {α : Type}(p : α→Bool) (l:List α):(keepL p l).length≤l.length:=List.length_filter_le _ _
theorem blobOk_size {b:Blob}(h:blobOk b=true):0≤b.2.1:=by
 simp [blobOk,inRg]at h;omega
open Go.RowKit Go.Shelf
set_option linter.unusedVariables false
set_option linter.unusedSimpArgs false
set_option maxRecDepth 100000

open Go.RowKit
set_option linter.unusedVariables false
set_option linter.unusedSimpArgs false

end Go.Proofs.YtfajjcmagngfiaaGreatDoor
namespace Go.Proofs.YtfajjcmagngfiaaGreatDoor
open Go.RowKit Go.Shelf
set_option linter.unusedVariables false
set_option linter.unusedSimpArgs false
set_option maxRecDepth 100000

theorem sum_perm {l m:List Blob}(h:l.Perm m):sumSz l=sumSz m:=by
 induction h with
 | nil=>rfl
 | cons x _ ih=>simp only[sumSz,ih]
 | swap x y l=>simp only[sumSz];omega
 | trans _ _ h1 h2=>exact h1.trans h2
theorem sum_split (p:Blob→Bool):∀ l:List Blob,sumSz (keepL p l)+sumSz (l.filter p)=sumSz l
 | []=>rfl
 | b::l=>by
  have ih:=sum_split p l
  unfold keepL at ih ⊢
  cases hb:p b<;>simp [hb,sumSz]<;>omega
theorem gone_perm {bl T:List Blob}(hr:RiseB bl) (hn:T.Nodup) (hs:∀ b∈T,b∈bl):(bl.filter fun b=>hasS b.1 (digsB T)).Perm T:=by
 refine(List.perm_ext_iff_of_nodup ?_ hn).2 fun b=> ?_
 ·refine List.Nodup.sublist List.filter_sublist ?_
  exact hr.imp fun h e=>by subst e;rw[strLt_irrefl]at h;cases h
 ·rw[List.mem_filter,hasS_iff]
  constructor
  ·rintro⟨h1,h2⟩
   unfold digsB at h2
   obtain⟨d,h3,h4⟩:=List.mem_map.1 h2
   rw[← hr.inj (hs d h3) h1 h4];exact h3
  ·intro h
   exact⟨hs b h,List.mem_map.2 ⟨b,h,rfl⟩⟩
theorem cut_sum:∀ (l:List Blob) (over:Int),over≤sumSz l→over≤sumSz (l.take (cutN over l))
 | [],over,h=>by simpa [sumSz]using h
 | b::l,over,h=>by
  unfold cutN
  split
  ·simp only[List.take_zero,sumSz];assumption
  ·simp only[List.take_succ_cons,sumSz]at h ⊢
   have:=cut_sum l (over - b.2.1) (by omega)
   omega
theorem leav_nodup {bl:List Blob}{at_:Int}(hr:RiseB bl):(leavV bl at_).Nodup:=by
 unfold leavV
 rw[(sortT_perm ltB _).nodup_iff]
 exact(ordB (keepL_rise hr)).nd
theorem clr_sum {bl:List Blob}{at_ over:Int}(hr:RiseB bl) (h:over≤sumSz (leavV bl at_)):sumSz (keepL (fun b:Blob=>hasS b.1 (clrGone bl at_ over)) bl)≤sumSz bl - over:=by
 have h1:=sum_split (fun b:Blob=>hasS b.1 (clrGone bl at_ over)) bl
 have h2:(bl.filter fun b:Blob=>hasS b.1 (clrGone bl at_ over)).Perm ((leavV bl at_).take (cutN over (leavV bl at_))):=
  gone_perm hr ((leav_nodup hr).sublist (List.take_sublist _ _)) fun b hb=>(leav_mem.1 (List.mem_of_mem_take hb)).1
 have h3:=sum_perm h2
 have h4:=cut_sum (leavV bl at_) over h
 omega
end Go.Proofs.YtfajjcmagngfiaaGreatDoor
namespace Go.Proofs.YtfajjcmagngfiaaGreatDoor
open Go.RowKit Go.Shelf
set_option linter.unusedVariables false
set_option linter.unusedSimpArgs false
set_option maxRecDepth 100000

end Go.Proofs.YtfajjcmagngfiaaGreatDoor
