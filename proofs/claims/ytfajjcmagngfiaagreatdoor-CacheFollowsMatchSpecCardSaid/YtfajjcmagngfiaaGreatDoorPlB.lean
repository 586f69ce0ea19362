/-
  The plain law of the cache's steps: what was right stays right. No statement of the seat is proved here; no conditions.
-/
import Derived.Test.YtfajjcmagngfiaaGreatDoorShK
import Derived.Test.YtfajjcmagngfiaaGreatDoorDr
namespace Go.Proofs.YtfajjcmagngfiaaGreatDoor
open Go.RowKit Go.Shelf
set_option linter.unusedVariables false
set_option linter.unusedSimpArgs false
set_option maxRecDepth 100000

theorem rising_ins {α : Type}{key : α→ByteArray}{l:List α}(h:Rising key l) (x : α) (hn:hasK key l (key x)=false) :
  Rising key (l.take (bsIdx (fun b=>cmpB (key b) (key x)) l)++x::l.drop (bsIdx (fun b=>cmpB (key b) (key x)) l)):=by
 obtain⟨h1,h2,h3⟩:=bs_lt (cf:=fun b=>cmpB (key b) (key x)) (mono_of h (key x))
 generalize bsIdx (fun b=>cmpB (key b) (key x)) l=i at*
 have hne:∀ y∈l,key y≠key x:=fun y hy he=>by
  rw[hasK,List.any_eq_false]at hn
  exact hn y hy (by simpa using he)
 have hp:l.Pairwise fun a b=>strLt (key a) (key b)=true:=by
  rw[List.pairwise_iff_getElem]
  intro i j hi hj hij
  exact h i j _ _ hij (List.getElem?_eq_getElem hi) (List.getElem?_eq_getElem hj)
 have hq:(l.take i++x::l.drop i).Pairwise fun a b=>strLt (key a) (key b)=true:=by
  rw[List.pairwise_append]
  refine⟨List.Pairwise.sublist (List.take_sublist _ _) hp,List.pairwise_cons.2 ⟨fun y hy=> ?_,List.Pairwise.sublist (List.drop_sublist _ _) hp⟩,fun a ha b hb=> ?_⟩
  ·obtain⟨m,hm⟩:=List.mem_iff_getElem?.1 hy
   rw[List.getElem?_drop]at hm
   have k:=h3 (i+m) y (by omega) hm
   have k2:=hne y (List.mem_of_getElem? hm)
   cases hl:strLt (key y) (key x)with
   | true=>exact absurd (cmpB_lt.2 hl) k
   | false=>exact(strLt_total hl).resolve_left k2
  ·obtain⟨m,hm⟩:=List.mem_iff_getElem?.1 ha
   have hlt:m<i:=by
    have:=(List.getElem?_eq_some_iff.1 hm).1
    rw[List.length_take]at this;omega
   rw[List.getElem?_take,if_pos hlt]at hm
   rcases List.mem_cons.1 hb with rfl|hb
   ·exact cmpB_lt.1 (h2 m a hlt hm)
   ·obtain⟨n,hn2⟩:=List.mem_iff_getElem?.1 hb
    rw[List.getElem?_drop]at hn2
    exact h m (i+n) a b (by omega) hm hn2
 have hr:=List.pairwise_iff_getElem.1 hq
 intro i j a b hij ha hb
 obtain⟨k1,rfl⟩:=List.getElem?_eq_some_iff.1 ha
 obtain⟨k2,rfl⟩:=List.getElem?_eq_some_iff.1 hb
 exact hr i j k1 k2 hij
structure BR (room:Int) (bl:List Blob):Prop where
 len:bl.length≤3000
 ok:∀ b∈bl,blobOk b=true
 rise:Rising (fun b:Blob=>b.1) bl
 sum:sumSz bl≤room
structure ER (en:List Entry):Prop where
 len:en.length≤1000
 ok:∀ e∈en,entOk e=true
 rise:Rising (fun b:Entry=>b.1) en
theorem CRight.b {c:Cache}(h:CRight c):BR c.1 c.2.2.1:=⟨h.blen,h.bok,h.brise,h.bsum⟩
theorem CRight.e {c:Cache}(h:CRight c):ER c.2.2.2:=⟨h.elen,h.eok,h.erise⟩
theorem right_of {c:Cache}(h1:inRg c.1 0 1000000000=true) (h2:inRg c.2.1 0 1000000=true) (hb:BR c.1 c.2.2.1) (he:ER c.2.2.2):CRight c:=⟨h1,h2,hb.len,hb.ok,hb.rise,hb.sum,he.len,he.ok,he.rise⟩
theorem rg_iff {n l h:Int} : inRg n l h=true↔l≤n∧n≤h:=by simp [inRg]
theorem blobOk_iff {b:Blob} : blobOk b=true↔isDig b.1=true∧(0≤b.2.1∧b.2.1≤100000000)∧(0≤b.2.2.1∧b.2.2.1≤1000000000)∧(0≤b.2.2.2.1∧b.2.2.2.1≤1001000000)∧(0≤b.2.2.2.2∧b.2.2.2.2≤3000):=by
 simp only[blobOk,Bool.and_eq_true,rg_iff,and_assoc]
theorem entOk_iff {e:Entry} : entOk e=true↔isDig e.1=true∧ckDigsM e.2.1 200=0∧(0≤e.2.2∧e.2.2≤1000000000):=by
 simp only[entOk,Bool.and_eq_true,rg_iff,decide_eq_true_eq]
theorem rising_map {α : Type}{key : α→ByteArray}{l:List α} : Rising key l↔(l.map key).Pairwise fun x y=>strLt x y=true:=by rw[rising_pw,List.pairwise_map]
theorem keys_rise {α : Type}{key : α→ByteArray}{l m:List α}(h:m.map key=l.map key) (hr:Rising key l):Rising key m:=by
 rw[rising_map,h];exact rising_map.1 hr
theorem keys_set {α : Type}{key : α→ByteArray} : ∀ {l:List α}{i:Nat}{y z : α},l[i]? = some y→key z=key y→(l.set i z).map key=l.map key
 | [],i,y,z,h,_=>by cases h
 | x::l,0,y,z,h,hk=>by
  obtain rfl:x=y:=by simpa using h
  simp [hk]
 | x::l,i+1,y,z,h,hk=>by
  rw[List.set_cons_succ,List.map_cons,List.map_cons,keys_set (l:=l) (by simpa using h) hk]
theorem sum_set:∀ {l:List Blob}{i:Nat}{y z:Blob},l[i]? = some y→z.2.1=y.2.1→sumSz (l.set i z)=sumSz l
 | [],i,y,z,h,_=>by cases h
 | x::l,0,y,z,h,hk=>by
  obtain rfl:x=y:=by simpa using h
  simp [sumSz,hk]
 | x::l,i+1,y,z,h,hk=>by
  rw[List.set_cons_succ,sumSz,sumSz,sum_set (l:=l) (by simpa using h) hk]
theorem BR.set {room:Int}{bl:List Blob}(h:BR room bl){i:Nat}{y z:Blob}(hy:bl[i]? = some y) (h1:z.1=y.1) (h2:z.2.1=y.2.1) (hz:blobOk z=true):BR room (bl.set i z):=
 ⟨by rw[List.length_set];exact h.len,fun b hb=>(List.mem_or_eq_of_mem_set hb).elim (h.ok b) fun e=>e▸hz,keys_rise (keys_set (key:=fun b:Blob=>b.1) hy h1) h.rise,by rw[sum_set hy h2];exact h.sum⟩
theorem ER.set {en:List Entry}(h:ER en){i:Nat}{y z:Entry}(hy:en[i]? = some y) (h1:z.1=y.1) (hz:entOk z=true):ER (en.set i z):=
 ⟨by rw[List.length_set];exact h.len,fun b hb=>(List.mem_or_eq_of_mem_set hb).elim (h.ok b) fun e=>e▸hz,keys_rise (keys_set (key:=fun b:Entry=>b.1) hy h1) h.rise⟩
theorem BR.keep {room:Int}{bl:List Blob}(h:BR room bl) (p:Blob→Bool):BR room (keepL p bl):=
 ⟨Nat.le_trans (keep_le _ _) h.len,fun b hb=>h.ok b (mem_of_keep hb),rising_keep p h.rise,Int.le_trans (sum_keep _ _ fun b hb=>blobOk_size (h.ok b hb)) h.sum⟩
theorem tchB_ok {lease at_:Int}{u v:Bool}{b:Blob}(h1:0≤lease∧lease≤1000000) (h2:0≤at_∧at_≤1000000000) (h:blobOk b=true):blobOk (tchB lease at_ u v b)=true:=by
 rw[blobOk_iff]at h ⊢
 obtain⟨a1,a2,a3,a4,a5⟩:=h
 have hw:IntKind.i64.wrap (at_+lease)=at_+lease:=wrap64 (by omega) (by omega)
 unfold tchB
 rw[hw]
 refine⟨a1,a2,?_,?_,a5⟩
 ·cases u
  ·exact a3
  ·exact h2
 ·cases v
  ·exact a4
  ·show 0≤max _ _∧max _ _≤_
   omega
theorem touch1_right {room lease at_:Int}{u v:Bool}{bl:List Blob}{d:ByteArray}(h1:0≤lease∧lease≤1000000) (h2:0≤at_∧at_≤1000000000) (h:BR room bl):BR room (touch1 lease at_ u v bl d):=by
 unfold touch1
 split
 ·rename_i b hb
  split
  ·exact h.set hb rfl rfl (tchB_ok h1 h2 (h.ok b (List.mem_of_getElem? hb)))
  ·exact h
 ·exact h
theorem touchL_right {room lease at_:Int}{u v:Bool}(h1:0≤lease∧lease≤1000000) (h2:0≤at_∧at_≤1000000000):∀ {ds:List ByteArray}{bl:List Blob},BR room bl→BR room (touchL lease at_ u v bl ds)
 | [],bl,h=>h
 | d::ds,bl,h=>touchL_right h1 h2 (ds:=ds) (touch1_right h1 h2 h)
theorem pinV_right {room k:Int}{bl:List Blob}{d:ByteArray}(hk:k=4∨k=5) (h:BR room bl):BR room (pinV k bl d).1:=by
 unfold pinV
 split
 ·rename_i y hy
  have hm:=blobOk_iff.1 (h.ok y (List.mem_of_getElem? hy))
  obtain⟨a1,a2,a3,a4,a5⟩:=hm
  split
  ·split
   ·split
    ·exact h
    ·rename_i h5 h0
     refine h.set hy rfl rfl (blobOk_iff.2 ⟨a1,a2,a3,a4,?_⟩)
     show 0≤IntKind.i64.wrap _∧IntKind.i64.wrap _≤_
     rw[if_pos h5,wrap64 (by omega) (by omega)]
     omega
   ·split
    ·exact h
    ·rename_i h5 h0
     refine h.set hy rfl rfl (blobOk_iff.2 ⟨a1,a2,a3,a4,?_⟩)
     show 0≤IntKind.i64.wrap _∧IntKind.i64.wrap _≤_
     rw[if_neg h5,wrap64 (by omega) (by omega)]
     omega
  ·exact h
 ·exact h
theorem mem_ins {α : Type}{l:List α}{i:Nat}{x y : α} : y∈l.take i++x::l.drop i↔y=x∨y∈l:=by
 have:=List.take_append_drop i l
 constructor
 ·intro h
  rcases List.mem_append.1 h with h|h
  ·exact .inr (List.mem_of_mem_take h)
  ·rcases List.mem_cons.1 h with h|h
   ·exact .inl h
   ·exact .inr (List.mem_of_mem_drop h)
 ·rintro(rfl|h)
  ·simp
  ·rw[← this]at h
   rcases List.mem_append.1 h with h|h
   ·exact List.mem_append.2 (.inl h)
   ·exact List.mem_append.2 (.inr (List.mem_cons_of_mem _ h))
theorem hasK_false {α : Type}{key : α→ByteArray}{l:List α}{t:ByteArray} : hasK key l t=false↔∀ x∈l,key x≠t:=by
 simp [hasK,List.any_eq_false]
theorem BR.ins {room:Int}{bl:List Blob}{b:Blob}(h:BR (room - b.2.1) bl) (hl:bl.length<3000) (hb:blobOk b=true) (hn:hasB bl b.1=false):BR room (insV bl b):=by
 refine⟨?_,fun x hx=> ?_,rising_ins h.rise b hn,?_⟩
 ·have:=bIdx_le (bl:=bl) (d:=b.1)
  rw[insV,List.length_append,List.length_take,List.length_cons,List.length_drop];omega
 ·rcases mem_ins.1 hx with rfl|hx
  ·exact hb
  ·exact h.ok x hx
 ·have e:=congrArg sumSz (List.take_append_drop (bIdx bl b.1) bl)
  rw[sum_append]at e
  rw[insV,sum_append,sumSz]
  have:=h.sum
  omega
theorem over_eq {room lease:Int}{bl:List Blob}{size:Int}(hr:0≤room∧room≤1000000000) (h:BR room bl) (hs:0≤size∧size≤100000000):overV room bl size=sumSz bl+size - room∧wsum bl=sumSz bl∧0≤sumSz bl∧∀ b∈bl,0≤b.2.1∧b.2.1≤100000000:=by
 have hz:∀ b∈bl,0≤b.2.1∧b.2.1≤100000000:=fun b hb=>(blobOk_iff.1 (h.ok b hb)).2.1
 have h0:=(sum_range hz).1
 have hw:wsum bl=sumSz bl:=wsum_eq (by have:=h.len;omega) hz
 have:=h.sum
 refine⟨?_,hw,h0,hz⟩
 unfold overV
 rw[hw,wrap64 (n:=room - size) (by omega) (by omega),wrap64 (by omega) (by omega)]
 omega
theorem keptV_sum {room:Int}{bl:List Blob}{at_ size:Int}(hr:0≤room∧room≤1000000000) (h:BR room bl) (hs:0≤size∧size≤100000000) (hl : ¬ wsum (leavV bl at_)<overV room bl size):sumSz (keptV bl at_ (overV room bl size))≤room - size:=by
 obtain⟨h1,h2,h3,h4⟩:=over_eq (lease:=0) hr h hs
 rw[wsum_leav (by have:=h.len;omega) h4]at hl
 have:=clr_sum (at_:=at_) (over:=overV room bl size) (riseB_of h.rise) (by omega)
 rw[keptV]
 omega
theorem putV_right {room lease:Int}{bl:List Blob}{at_:Int}{d:ByteArray}{size:Int}(hr:0≤room∧room≤1000000000) (h1:0≤lease∧lease≤1000000) (h2:0≤at_∧at_≤1000000000) (hd:isDig d=true) (hs:0≤size∧size≤100000000) (h:BR room bl):BR room (putV room lease bl at_ d size).1:=by
 unfold putV
 split
 ·split
  ·split
   ·exact touchL_right h1 h2 h
   ·exact h
  ·exact h
 ·rename_i hn
  split
  ·exact h
  ·rename_i hl
   have hk:BR (room - size) (keptV bl at_ (overV room bl size)):=⟨(h.keep _).len,(h.keep _).ok,(h.keep _).rise,keptV_sum hr h hs hl⟩
   split
   ·exact h.keep _
   ·rename_i h3
    refine BR.ins (b:=newB lease at_ d size) hk (by omega) (blobOk_iff.2 ⟨hd,hs,h2,?_,?_⟩) ?_
    ·show 0≤IntKind.i64.wrap _∧IntKind.i64.wrap _≤_
     rw[wrap64 (by omega) (by omega)]
     omega
    ·show(0:Int)≤0∧(0:Int)≤3000
     decide
    ·have hn:hasB bl d=false:=by simpa using hn
     exact hasK_false.2 fun x hx=>hasK_false.1 hn x (mem_of_keep hx)
theorem mem_del {en:List Entry}{i:Nat}{x:Entry}(h:x∈delE en i):x∈en:=by
 rcases List.mem_append.1 h with h|h
 ·exact List.mem_of_mem_take h
 ·exact List.mem_of_mem_drop h
theorem ER.del {en:List Entry}(h:ER en) (i:Nat):ER (delE en i):=
 ⟨by have:=h.len;rw[delE,List.length_append,List.length_take,List.length_drop];omega,fun e he=>h.ok e (mem_del he),rising_del h.rise⟩
theorem ER.ins {en:List Entry}(h:ER en){e:Entry}(hl:en.length<1000) (he:entOk e=true) (hn:hasE en e.1=false):ER (insE en e):=
 ⟨by rw[insE_len];omega,fun x hx=>(mem_ins.1 hx).elim (fun k=>k▸he) (h.ok x),rising_ins h.rise e hn⟩
theorem stE_right {en:List Entry}{e:Entry}(h:ER en) (he:entOk e=true):ER (stE en e):=by
 unfold stE
 split
 ·rename_i hh
  obtain⟨y,hy,hk⟩:=hasE_at h.rise hh
  exact h.set hy hk.symm he
 ·rename_i hn
  have hn:hasE en e.1=false:=by simpa using hn
  split
  ·rename_i hl
   refine(h.del _).ins ?_ he (hasK_false.2 fun x hx=>hasK_false.1 hn x (mem_del hx))
   rw[delE_len (oldI_lt (by omega) _ (Nat.le_refl _))]
   have:=h.len
   omega
  ·exact h.ins (by omega) he hn
structure EvOk (e:Ev):Prop where
 kind:1≤e.1∧e.1≤8
 at_:0≤e.2.1∧e.2.1≤1000000000
 size:0≤e.2.2.2.2.2∧e.2.2.2.2.2≤100000000
 digs:ckDigsM e.2.2.2.1 200=0
 dig:(flds e.1).1=true→isDig e.2.2.1=true
 key:(flds e.1).2.2.1=true→isDig e.2.2.2.2.1=true
 nodig:(flds e.1).1=false→e.2.2.1=⟨#[]⟩
 nodigs:(flds e.1).2.1=false→e.2.2.2.1 = []
 nokey:(flds e.1).2.2.1=false→e.2.2.2.2.1=⟨#[]⟩
 nosize:(flds e.1).2.2.2=false→e.2.2.2.2.2=0
theorem evOk_iff {e:Ev} : ckEv e=0↔EvOk e:=by
 obtain⟨kind,at_,dg,ds,key,size⟩:=e
 have hl:∀ l:List ByteArray,decide ((0:Int)<(l.length:Int))=false↔l = []:=fun l=>by
  cases l with
  | nil=>simp
  | cons a l=>simp
 unfold ckEv
 dsimp only
 constructor
 ·intro h
  split at h
  ·rename_i h0
   split at h
   ·cases h
   ·rename_i h1
    split at h
    ·cases h
    ·rename_i h2
     split at h
     ·rename_i h3
      split at h
      ·rename_i h4
       rw[Bool.and_eq_true,rg_iff,rg_iff]at h4
       rw[decide_eq_true_eq]at h3
       rw[rg_iff]at h0
       simp only[Bool.not_eq_true,Bool.or_eq_false_iff,Bool.and_eq_false_iff,Bool.not_eq_false']at h1 h2
       obtain⟨⟨⟨k1,k2⟩,k3⟩,k4⟩:=h1
       obtain⟨k5,k6⟩:=h2
       refine⟨h0,h4.2,h4.1,h3,fun h=> ?_,fun h=> ?_,fun h=> ?_,fun h=> ?_,fun h=> ?_,fun h=> ?_⟩
       all_goals simp_all
      ·cases h
     ·rename_i h3
      rw[h]at h3;simp at h3
  ·cases h
 ·rintro⟨h1,h2,h3,h4,h5,h6,h7,h8,h9,h10⟩
  dsimp only at h1 h2 h3 h4 h5 h6 h7 h8 h9 h10
  rw[if_pos (rg_iff.2 h1),if_neg ?_,if_neg ?_,if_pos (by simpa using h4),if_pos (by rw[Bool.and_eq_true,rg_iff,rg_iff];exact⟨h3,h2⟩)]
  ·cases h:(flds kind).1<;>cases h':(flds kind).2.2.1<;>simp_all
  ·cases h:(flds kind).1<;>cases h':(flds kind).2.2.1<;>cases h'':(flds kind).2.1<;>cases h''':(flds kind).2.2.2<;>simp_all
theorem searchV_right {room lease:Int}{bl:List Blob}{en:List Entry}{at_:Int}{key:ByteArray}(h1:0≤lease∧lease≤1000000) (h2:0≤at_∧at_≤1000000000) (h:BR room bl) (he:ER en):BR room (searchV lease bl en at_ key).1∧ER (searchV lease bl en at_ key).2.1:=by
 unfold searchV
 split
 ·rename_i y hy
  split
  ·split
   ·have:=entOk_iff.1 (he.ok y (List.mem_of_getElem? hy))
    exact⟨touchL_right h1 h2 h,he.set hy rfl (entOk_iff.2 ⟨this.1,this.2.1,h2⟩)⟩
   ·exact⟨h,he.del _⟩
  ·exact⟨h,he⟩
 ·exact⟨h,he⟩
theorem doV_right {room lease:Int}{bl:List Blob}{en:List Entry}{e:Ev}(hr:0≤room∧room≤1000000000) (h1:0≤lease∧lease≤1000000) (h:BR room bl) (he:ER en):BR room (doV room lease bl en e).1∧ER (doV room lease bl en e).2.1:=by
 unfold doV
 split
 ·rename_i hk
  have ho:=evOk_iff.1 hk
  split
  ·exact⟨h,he⟩
  ·unfold actV
   split
   ·rename_i k
    exact⟨putV_right hr h1 ho.at_ (ho.dig (by rw[k];rfl)) ho.size h,he⟩
   split
   ·exact⟨touchL_right h1 ho.at_ h,he⟩
   split
   ·exact⟨touchL_right h1 ho.at_ h,he⟩
   split
   ·rename_i k
    exact⟨pinV_right k h,he⟩
   split
   ·rename_i k
    unfold storeV
    split
    ·refine⟨touchL_right h1 ho.at_ h,stE_right he (entOk_iff.2 ⟨ho.key (by rw[k];rfl),ho.digs,ho.at_⟩)⟩
    ·exact⟨h,he⟩
   split
   ·exact searchV_right h1 ho.at_ h he
   unfold dropV
   split
   ·split
    ·exact⟨h.keep _,he⟩
    ·exact⟨h,he⟩
   ·exact⟨h,he⟩
 ·exact⟨h,he⟩
end Go.Proofs.YtfajjcmagngfiaaGreatDoor
