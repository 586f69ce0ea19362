/-
  The plain law of the cache's steps, as the laws ask for it. No statement of the seat is proved here; no conditions.
-/
import Derived.Test.YtfajjcmagngfiaaGreatDoorPlB
import Derived.Test.YtfajjcmagngfiaaGreatDoorShK
namespace Go.Proofs.YtfajjcmagngfiaaGreatDoor
open Go.RowKit Go.Shelf
set_option linter.unusedVariables false
set_option linter.unusedSimpArgs false
set_option maxRecDepth 100000

def doR (c:Cache) (e:Ev):List Blob × List Entry × Bool × RC × RC × Int:=doV c.1 c.2.1 c.2.2.1 c.2.2.2 e
def doC (c:Cache) (e:Ev):Cache:=(c.1,c.2.1,(doR c e).1,(doR c e).2.1)
def frzC:RC→FV
 | .v x=>x
 | .own _ _ ds=> .fr 1 (ds.map fun x=>[x])
theorem frz_s (l:List ByteArray):frzC (rcS l)=frStrs l:=by
 simp only[frzC,rcS,frStrs,List.map_map];rfl
theorem rcFz_s (l:List ByteArray):RcF (rcS l) (frStrs l):=
 ⟨l.map fun s=>[.str s],rfl,List.length_map _,fun r hr=>by obtain⟨y,_,rfl⟩:=List.mem_map.1 hr;rfl,by
  rw[Nat.mul_one,List.take_of_length_le (by rw[List.length_map];exact Nat.le_refl _)]
  induction l with
  | nil=>rfl
  | cons x l ih=>rw[List.map_cons,List.map_cons,List.flatten_cons,← ih];rfl⟩
theorem doR_form (c:Cache) (e:Ev):(∃ x,(doR c e).2.2.2.1=.v .nil∧(doR c e).2.2.2.2.1=.v x)∨(∃ l,(doR c e).2.2.2.1=rcS l∧(doR c e).2.2.2.2.1=.v .nil∧(doR c e).2.2.2.2.2=0)∨(∃ l,(doR c e).2.2.2.1=.v .nil∧(doR c e).2.2.2.2.1=rcS l∧(doR c e).2.2.2.2.2=0):=by
 unfold doR doV
 split
 ·split
  ·exact .inl ⟨_,rfl,rfl⟩
  ·unfold actV
   split
   ·exact .inl ⟨_,rfl,rfl⟩
   split
   ·exact .inl ⟨_,rfl,rfl⟩
   split
   ·exact .inr (.inl ⟨_,rfl,rfl,rfl⟩)
   split
   ·exact .inl ⟨_,rfl,rfl⟩
   split
   ·rcases storeV_rc (lease:=c.2.1) (bl:=c.2.2.1) (en:=c.2.2.2) (at_:=e.2.1) (key:=e.2.2.2.2.1) (ds:=e.2.2.2.1)with h|⟨l,h⟩
    ·exact .inl ⟨.nil,h,rfl⟩
    ·exact .inr (.inl ⟨l,h,rfl,rfl⟩)
   split
   ·rcases searchV_rc (lease:=c.2.1) (bl:=c.2.2.1) (en:=c.2.2.2) (at_:=e.2.1) (key:=e.2.2.2.2.1)with h|⟨l,h⟩
    ·exact .inl ⟨.nil,h,rfl⟩
    ·exact .inr (.inl ⟨l,h,rfl,rfl⟩)
   unfold dropV
   split
   ·split
    ·exact .inr (.inr ⟨_,rfl,rfl,rfl⟩)
    ·exact .inl ⟨_,rfl,rfl⟩
   ·exact .inl ⟨_,rfl,rfl⟩
 ·exact .inl ⟨_,rfl,rfl⟩
theorem ckDigs_len {l:List ByteArray}(h:ckDigsM l 200=0):l.length≤200:=by
 unfold ckDigsM at h
 split at h
 ·cases h
 ·omega
theorem doOk_of {c:Cache}{e:Ev}(h:CRight c) (hk:ckEv e=0):DoOk c.1 c.2.2.1 c.2.2.2 e:=by
 have ho:=evOk_iff.1 hk
 obtain⟨h1,h2,h3,h4⟩:=over_eq (lease:=0) (rg_iff.1 h.room) h.b ho.size
 have:=h.bsum
 have h5:=rg_iff.1 h.room
 have h6:=ho.size
 refine⟨by have:=h.blen;omega,by have:=h.elen;omega,by have:=ckDigs_len ho.digs;omega,h.brise,h.erise,fun x hx=> ?_,h4,by omega⟩
 have:=ckDigs_len (entOk_iff.1 (h.eok x hx)).2.1
 omega
theorem doF_of {c:Cache}{e:Ev}(h:CRight c) (hl:(e.2.2.2.1.length:Int)≤9223372036854775807):DoF c.1 c.2.1 c.2.2.1 c.2.2.2 e (doR c e):=do_f hl fun hk=>doOk_of h hk
theorem doC_right {c:Cache}{e:Ev}(h:ckCache c=0):ckCache (doC c e)=0:=by
 have hR:=right_iff.1 h
 have:=doV_right (e:=e) (rg_iff.1 hR.room) (rg_iff.1 hR.lease) hR.b hR.e
 exact right_iff.2 (right_of hR.room hR.lease this.1 this.2)
theorem sbound_of {c:Cache}(h:CRight c):CBound c:=by
 refine⟨by have:=h.blen;omega,by have:=h.elen;omega,fun x hx=> ?_⟩
 have:=ckDigs_len (entOk_iff.1 (h.eok x hx)).2.1
 omega
theorem map_set_same {α β : Type}{f : α→β} : ∀ {l:List α}{i:Nat}{y z : α},l[i]? = some y→f z=f y→(l.set i z).map f=l.map f
 | [],i,y,z,h,_=>by cases h
 | x::l,0,y,z,h,hk=>by
  obtain rfl:x=y:=by simpa using h
  simp [hk]
 | x::l,i+1,y,z,h,hk=>by
  rw[List.set_cons_succ,List.map_cons,List.map_cons,map_set_same (l:=l) (by simpa using h) hk]
def ksB (b:Blob):ByteArray × Int:=(b.1,b.2.1)
theorem touch1_ks {lease at_:Int}{u v:Bool}{bl:List Blob}{d:ByteArray} : (touch1 lease at_ u v bl d).map ksB=bl.map ksB:=by
 unfold touch1
 split
 ·rename_i b hb
  split
  ·exact map_set_same hb rfl
  ·rfl
 ·rfl
theorem touchL_ks {lease at_:Int}{u v:Bool} : ∀ {ds:List ByteArray}{bl:List Blob},(touchL lease at_ u v bl ds).map ksB=bl.map ksB
 | [],bl=>rfl
 | d::ds,bl=>(touchL_ks (ds:=ds) (bl:=touch1 lease at_ u v bl d)).trans touch1_ks
theorem hasB_map {bl:List Blob}{d:ByteArray} : hasB bl d=(bl.map ksB).any fun k=>decide (k.1=d):=by
 unfold hasB hasK
 rw[List.any_map];rfl
theorem hasB_ks {bl m:List Blob}(h:m.map ksB=bl.map ksB) (d:ByteArray):hasB m d=hasB bl d:=by rw[hasB_map,hasB_map,h]
structure Stays (c x:Cache) (gone:List ByteArray) (at_:Int):Prop where
 is:∀ b∈c.2.2.1,hasB x.2.2.1 b.1 = !hasS b.1 gone
 held:∀ b∈c.2.2.1,heldB b at_=true→hasB x.2.2.1 b.1=true
 size:∀ b∈c.2.2.1,∀ y∈x.2.2.1,y.1=b.1→y.2.1=b.2.1
 len:c.2.2.1.length≤x.2.2.1.length+gone.length
 glen:gone.length≤c.2.2.1.length
end Go.Proofs.YtfajjcmagngfiaaGreatDoor
