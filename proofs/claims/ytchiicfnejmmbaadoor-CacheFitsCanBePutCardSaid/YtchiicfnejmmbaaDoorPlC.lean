/-
  The plain law of the cache's steps, as the laws ask for it. No statement of the seat is proved here; no conditions.
-/
import Derived.Test.YtchiicfnejmmbaaDoorDs
namespace Go.Proofs.YtchiicfnejmmbaaDoor
open Go.RowKit Go.Shelf
set_option linter.unusedVariables false
set_option linter.unusedSimpArgs false
set_option maxRecDepth 100000

theorem map_set_same {α β : Type} {f : α → β} : ∀ {l : List α} {i : Nat} {y z : α},l[i]? = some y → f z = f y → (l.set i z).map f = l.map f
 | [],i,y,z,h,_ => by cases h
 | x :: l,0,y,z,h,hk => by
  obtain rfl : x = y := by simpa using h
  simp [hk]
 | x :: l,i + 1,y,z,h,hk => by
  rw [List.set_cons_succ,List.map_cons,List.map_cons,map_set_same (l := l) (by simpa using h) hk]
def ksB (b : Blob) : ByteArray × Int := (b.1,b.2.1)
theorem touch1_ks {lease at_ : Int} {u v : Bool} {bl : List Blob} {d : ByteArray} : (touch1 lease at_ u v bl d).map ksB = bl.map ksB := by
 unfold touch1
 split
 ·rename_i b hb
  split
  ·exact map_set_same hb rfl
  ·rfl
 ·rfl
theorem touchL_ks {lease at_ : Int} {u v : Bool} : ∀ {ds : List ByteArray} {bl : List Blob},(touchL lease at_ u v bl ds).map ksB = bl.map ksB
 | [],bl => rfl
 | d :: ds,bl => (touchL_ks (ds := ds) (bl := touch1 lease at_ u v bl d)).trans touch1_ks
theorem pinV_ks {k : Int} {bl : List Blob} {d : ByteArray} : (pinV k bl d).1.map ksB = bl.map ksB := by
 unfold pinV
 split
 ·rename_i y hy
  repeat' split
  all_goals first | rfl | exact map_set_same hy rfl
 ·rfl
theorem hasB_map {bl : List Blob} {d : ByteArray} : hasB bl d = (bl.map ksB).any fun k => decide (k.1 = d) := by
 unfold hasB hasK
 rw [List.any_map];rfl
theorem hasB_ks {bl m : List Blob} (h : m.map ksB = bl.map ksB) (d : ByteArray) : hasB m d = hasB bl d := by rw [hasB_map,hasB_map,h]
theorem missing_ks {bl m : List Blob} (h : m.map ksB = bl.map ksB) (l : List ByteArray) : missingOf m l = missingOf bl l := by
 unfold missingOf
 congr 1
 funext d
 rw [hasB_ks h]
theorem touch1_used {lease at_ : Int} {u v : Bool} {bl : List Blob} {d : ByteArray} (h : ∀ b ∈ bl,b.2.2.1 ≤ at_) : ∀ b ∈ touch1 lease at_ u v bl d,b.2.2.1 ≤ at_ := by
 unfold touch1
 split
 ·rename_i y hy
  split
  ·intro b hb
   rcases List.mem_or_eq_of_mem_set hb with hb | rfl
   ·exact h b hb
   ·cases u
    ·exact h y (List.mem_of_getElem? hy)
    ·exact Int.le_refl _
  ·exact h
 ·exact h
theorem touchL_used {lease at_ : Int} {u v : Bool} : ∀ {ds : List ByteArray} {bl : List Blob},(∀ b ∈ bl,b.2.2.1 ≤ at_) → ∀ b ∈ touchL lease at_ u v bl ds,b.2.2.1 ≤ at_
 | [],bl,h => h
 | d :: ds,bl,h => touchL_used (ds := ds) (touch1_used h)
theorem maxB_le {t : Int} : ∀ {bl : List Blob} {m : Int},maxB bl m ≤ t ↔ m ≤ t ∧ ∀ b ∈ bl,b.2.2.1 ≤ t
 | [],m => by simp [maxB]
 | b :: bl,m => by
  have : maxB (b :: bl) m = maxB bl (max m b.2.2.1) := rfl
  rw [this,maxB_le,Int.max_le]
  simp [and_assoc]
theorem maxE_le {t : Int} : ∀ {bl : List Entry} {m : Int},maxE bl m ≤ t ↔ m ≤ t ∧ ∀ b ∈ bl,b.2.2 ≤ t
 | [],m => by simp [maxE]
 | b :: bl,m => by
  have : maxE (b :: bl) m = maxE bl (max m b.2.2) := rfl
  rw [this,maxE_le,Int.max_le]
  simp [and_assoc]
theorem newest_le {bl : List Blob} {en : List Entry} {t : Int} : newestV bl en ≤ t ↔ 0 ≤ t ∧ (∀ b ∈ bl,b.2.2.1 ≤ t) ∧ ∀ e ∈ en,e.2.2 ≤ t := by
 rw [newestV,maxE_le,maxB_le,and_assoc]
theorem stE_mem {en : List Entry} {e x : Entry} (h : x ∈ stE en e) : x = e ∨ x ∈ en := by
 unfold stE at h
 split at h
 ·exact (List.mem_or_eq_of_mem_set h).symm
 ·split at h
  ·exact (mem_ins.1 h).imp id mem_del
  ·exact mem_ins.1 h
theorem stE_new {en : List Entry} {e : Entry} (hr : Rising (fun b : Entry => b.1) en) : e ∈ stE en e := by
 unfold stE
 split
 ·rename_i h
  obtain ⟨y,hy,_⟩ := hasE_at hr h
  exact List.mem_set (List.getElem?_eq_some_iff.1 hy).1 e
 ·split
  ·exact mem_ins.2 (.inl rfl)
  ·exact mem_ins.2 (.inl rfl)
theorem actV_put {room lease : Int} {bl : List Blob} {en : List Entry} {e : Ev} (h : e.1 = 1) : actV room lease bl en e = ((putV room lease bl e.2.1 e.2.2.1 e.2.2.2.2.2).1,en,(putV room lease bl e.2.1 e.2.2.1 e.2.2.2.2.2).2.1,.v .nil,.v (putV room lease bl e.2.1 e.2.2.1 e.2.2.2.2.2).2.2.1,(putV room lease bl e.2.1 e.2.2.1 e.2.2.2.2.2).2.2.2) := by
 rw [actV,if_pos h]
theorem actV_get {room lease : Int} {bl : List Blob} {en : List Entry} {e : Ev} (h : e.1 = 2) : actV room lease bl en e = (touchL lease e.2.1 true true bl [e.2.2.1],en,hasB bl e.2.2.1,.v .nil,.v .nil,0) := by
 rw [actV,if_neg (by omega),if_pos h]
theorem actV_store {room lease : Int} {bl : List Blob} {en : List Entry} {e : Ev} (h : e.1 = 6) : actV room lease bl en e = ((storeV lease bl en e.2.1 e.2.2.2.2.1 e.2.2.2.1).1,(storeV lease bl en e.2.1 e.2.2.2.2.1 e.2.2.2.1).2.1,(storeV lease bl en e.2.1 e.2.2.2.2.1 e.2.2.2.1).2.2.1,(storeV lease bl en e.2.1 e.2.2.2.2.1 e.2.2.2.1).2.2.2,.v .nil,0) := by
 rw [actV,if_neg (by omega),if_neg (by omega),if_neg (by omega),if_neg (by omega),if_pos h]
theorem actV_find {room lease : Int} {bl : List Blob} {en : List Entry} {e : Ev} (h : e.1 = 7) : actV room lease bl en e = ((searchV lease bl en e.2.1 e.2.2.2.2.1).1,(searchV lease bl en e.2.1 e.2.2.2.2.1).2.1,(searchV lease bl en e.2.1 e.2.2.2.2.1).2.2.1,(searchV lease bl en e.2.1 e.2.2.2.2.1).2.2.2,.v .nil,0) := by
 rw [actV,if_neg (by omega),if_neg (by omega),if_neg (by omega),if_neg (by omega),if_neg (by omega),if_pos h]
theorem putV_ways {room lease : Int} {bl : List Blob} {at_ : Int} {d : ByteArray} {size : Int} (hr : Rising (fun b : Blob => b.1) bl) (hf : (putV room lease bl at_ d size).2.2.2 = 0) :
  (hasB bl d = true ∧ putV room lease bl at_ d size = (touchL lease at_ true true bl [d],true,.nil,0)) ∨
  (hasB bl d = false ∧ wsum (leavV bl at_) < overV room bl size ∧ putV room lease bl at_ d size = (bl,false,.nil,0)) ∨
  (hasB bl d = false ∧ ¬ wsum (leavV bl at_) < overV room bl size ∧ putV room lease bl at_ d size = (insV (keptV bl at_ (overV room bl size)) (newB lease at_ d size),true,frStrs (clrGone bl at_ (overV room bl size)),0)) := by
 unfold putV at hf ⊢
 split at hf
 ·rename_i h
  obtain ⟨y,hy,_⟩ := hasB_at hr h
  rw [if_pos h,hy]
  rw [hy] at hf
  dsimp only at hf ⊢
  split at hf
  ·rename_i h2
   rw [if_pos h2]
   exact .inl ⟨h,rfl⟩
  ·cases hf
 ·rename_i h
  have h' : hasB bl d = false := by simpa using h
  rw [if_neg h]
  split at hf
  ·rename_i h2
   rw [if_pos h2]
   exact .inr (.inl ⟨h',h2,rfl⟩)
  ·rename_i h2
   rw [if_neg h2]
   split at hf
   ·cases hf
   ·rename_i h3
    rw [if_neg h3]
    exact .inr (.inr ⟨h',h2,rfl⟩)
theorem doR_put {c : Cache} {e : Ev} (h : doErr c e = 0) (hk : e.1 = 1) : CRight c ∧ ckEv e = 0 ∧ newestV c.2.2.1 c.2.2.2 ≤ e.2.1 ∧ (doR c e = ((putV c.1 c.2.1 c.2.2.1 e.2.1 e.2.2.1 e.2.2.2.2.2).1,c.2.2.2,(putV c.1 c.2.1 c.2.2.1 e.2.1 e.2.2.1 e.2.2.2.2.2).2.1,.v .nil,.v (putV c.1 c.2.1 c.2.2.1 e.2.1 e.2.2.1 e.2.2.2.2.2).2.2.1,(putV c.1 c.2.1 c.2.2.1 e.2.1 e.2.2.1 e.2.2.2.2.2).2.2.2)) ∧ (putV c.1 c.2.1 c.2.2.1 e.2.1 e.2.2.1 e.2.2.2.2.2).2.2.2 = 0 := by
 obtain ⟨h0,h1,h2,h3⟩ := doErr_right h
 rw [actV_put hk] at h3
 refine ⟨right_iff.1 h0,h1,h2,h3,?_⟩
 unfold doErr at h
 rw [if_pos h0,h3] at h
 exact h
theorem put_there {c : Cache} {e : Ev} (h : doErr c e = 0) (hk : e.1 = 1) :
  ((doR c e).2.2.1 = true ∧ hasB (doC c e).2.2.1 e.2.2.1 = true) ∨ ((doR c e).2.2.1 = false ∧ hasB c.2.2.1 e.2.2.1 = false ∧ doC c e = c ∧ frzC (doR c e).2.2.2.2.1 = .nil) := by
 obtain ⟨h0,h1,h2,h3,h4⟩ := doR_put h hk
 rcases putV_ways h0.brise h4 with ⟨k1,k2⟩ | ⟨k1,k0,k2⟩ | ⟨k1,k0,k2⟩
 ·rw [k2] at h3
  refine .inl ⟨by rw [h3],?_⟩
  unfold doC
  rw [h3]
  exact (hasB_ks touchL_ks _).trans k1
 ·rw [k2] at h3
  exact .inr ⟨by rw [h3],k1,by unfold doC;rw [h3],by rw [h3];rfl⟩
 ·rw [k2] at h3
  refine .inl ⟨by rw [h3],?_⟩
  unfold doC
  rw [h3]
  exact hasK_true.2 ⟨newB c.2.1 e.2.1 e.2.2.1 e.2.2.2.2.2,mem_ins.2 (.inl rfl),rfl⟩
theorem put_newest {c : Cache} {e : Ev} (h : doErr c e = 0) (hk : e.1 = 1) : newestV (doC c e).2.2.1 (doC c e).2.2.2 ≤ e.2.1 := by
 obtain ⟨h0,h1,h2,h3,h4⟩ := doR_put h hk
 obtain ⟨a1,a2,a3⟩ := newest_le.1 h2
 refine newest_le.2 ⟨a1,?_,?_⟩
 ·unfold doC
  rw [h3]
  rcases putV_ways h0.brise h4 with ⟨k1,k2⟩ | ⟨k1,k0,k2⟩ | ⟨k1,k0,k2⟩
  all_goals rw [k2]
  ·exact touchL_used a2
  ·exact a2
  ·intro b hb
   rcases mem_ins.1 hb with rfl | hb
   ·exact Int.le_refl _
   ·exact a2 b (mem_of_keep hb)
 ·unfold doC
  rw [h3]
  exact a3
theorem get_after {c : Cache} {at_ : Int} {d : ByteArray} {size : Int} (h : doErr c (1,at_,d,[],⟨#[]⟩,size) = 0) :
  doErr (doC c (1,at_,d,[],⟨#[]⟩,size)) (2,at_,d,[],⟨#[]⟩,0) = 0 ∧ (doR (doC c (1,at_,d,[],⟨#[]⟩,size)) (2,at_,d,[],⟨#[]⟩,0)).2.2.1 = hasB (doC c (1,at_,d,[],⟨#[]⟩,size)).2.2.1 d := by
 have hn := put_newest h rfl
 obtain ⟨h0,h1,h2,h3,h4⟩ := doR_put h rfl
 have hc := doC_right (e := (1,at_,d,[],⟨#[]⟩,size)) (right_iff.2 h0)
 have ho := evOk_iff.1 h1
 have hev : ckEv (2,at_,d,[],⟨#[]⟩,0) = 0 := evOk_iff.2 ⟨by show (1 : Int) ≤ 2 ∧ (2 : Int) ≤ 8;decide,ho.at_,by show (0 : Int) ≤ 0 ∧ (0 : Int) ≤ 100000000;decide,rfl,fun _ => ho.dig rfl,fun h => by (cases h),fun h => by (cases h),fun _ => rfl,fun _ => rfl,fun _ => rfl⟩
 generalize doC c (1,at_,d,[],⟨#[]⟩,size) = x at *
 have hd : doR x (2,at_,d,[],⟨#[]⟩,0) = (touchL x.2.1 at_ true true x.2.2.1 [d],x.2.2.2,hasB x.2.2.1 d,.v .nil,.v .nil,0) := by
  unfold doR doV
  rw [if_pos hev,if_neg (by show ¬ at_ < _;dsimp only at hn;omega),actV_get rfl]
 refine ⟨?_,by rw [hd]⟩
 unfold doErr
 rw [if_pos hc,hd]
theorem search_whole {room lease : Int} {bl : List Blob} {en : List Entry} {at_ : Int} {key : ByteArray} : (searchV lease bl en at_ key).2.2.1 = wholeV (room,lease,bl,en) key := by
 unfold searchV wholeV
 dsimp only
 cases hy : en[eIdx en key]? with
 | none => rfl
 | some y =>
  dsimp only
  cases hh : hasE en key
  ·simp
  ·simp only [if_true,Bool.true_and]
   by_cases h : missingOf bl y.2.1 = []
   ·simp [h]
   ·simp [h]
theorem whole_mem {c : Cache} {key : ByteArray} (hr : Rising (fun b : Entry => b.1) c.2.2.2) {e : Entry} (he : e ∈ c.2.2.2) (hk : e.1 = key) (hm : missingOf c.2.2.1 e.2.1 = []) : wholeV c key = true :=
 (wholeV_iff hr).2 ⟨e,he,hk,by rw [hm];rfl⟩
theorem find_whole {c : Cache} {at_ : Int} {key : ByteArray} (h : doErr c (7,at_,⟨#[]⟩,[],key,0) = 0) (hd : (doR c (7,at_,⟨#[]⟩,[],key,0)).2.2.1 = true) :
  wholeErr (doC c (7,at_,⟨#[]⟩,[],key,0)) key = 0 ∧ wholeV (doC c (7,at_,⟨#[]⟩,[],key,0)) key = true := by
 obtain ⟨h0,h1,h2,h3⟩ := doErr_right h
 rw [actV_find rfl] at h3
 have ho := evOk_iff.1 h1
 have hc := doC_right (e := (7,at_,⟨#[]⟩,[],key,0)) h0
 refine ⟨wholeErr_zero hc (ho.key rfl),?_⟩
 have hR := right_iff.1 hc
 have hR0 := right_iff.1 h0
 rw [h3] at hd
 dsimp only at hd
 refine (wholeV_iff hR.erise).2 ?_
 unfold doC
 rw [h3]
 dsimp only
 unfold searchV at hd ⊢
 split at hd
 ·rename_i y hy
  cases hh : hasE c.2.2.2 key
  ·rw [hh] at hd;simp at hd
  ·rw [hh] at hd
   simp only [if_true] at hd
   split at hd
   ·rename_i hm
    rw [if_pos rfl,if_pos hm]
    have hyk : y.1 = key := by
     obtain ⟨y',k1,k2⟩ := hasE_at hR0.erise hh
     rw [k1] at hy;cases hy;exact k2
    refine ⟨(y.1,y.2.1,at_),?_,hyk,?_⟩
    ·exact List.mem_set (List.getElem?_eq_some_iff.1 hy).1 _
    ·dsimp only
     rw [missing_ks touchL_ks,hm];rfl
   ·cases hd
 ·cases hd
theorem store_whole {c : Cache} {at_ : Int} {key : ByteArray} {ds : List ByteArray} (h : doErr c (6,at_,⟨#[]⟩,ds,key,0) = 0) (hd : (doR c (6,at_,⟨#[]⟩,ds,key,0)).2.2.1 = true) :
  (wholeErr (doC c (6,at_,⟨#[]⟩,ds,key,0)) key = 0 ∧ wholeV (doC c (6,at_,⟨#[]⟩,ds,key,0)) key = true) ∧ doErr (doC c (6,at_,⟨#[]⟩,ds,key,0)) (7,at_,⟨#[]⟩,[],key,0) = 0 ∧ (doR (doC c (6,at_,⟨#[]⟩,ds,key,0)) (7,at_,⟨#[]⟩,[],key,0)).2.2.1 = true := by
 obtain ⟨h0,h1,h2,h3⟩ := doErr_right h
 rw [actV_store rfl] at h3
 have ho := evOk_iff.1 h1
 have hc := doC_right (e := (6,at_,⟨#[]⟩,ds,key,0)) h0
 have hR := right_iff.1 hc
 have hR0 := right_iff.1 h0
 rw [h3] at hd
 dsimp only at hd
 have hm : missingOf c.2.2.1 ds = [] := by
  unfold storeV at hd
  split at hd
  ·assumption
  ·cases hd
 have hs : storeV c.2.1 c.2.2.1 c.2.2.2 at_ key ds = (touchL c.2.1 at_ true false c.2.2.1 ds,stE c.2.2.2 (key,ds,at_),true,.v .nil) := by
  unfold storeV
  rw [if_pos hm]
 have hx : doC c (6,at_,⟨#[]⟩,ds,key,0) = (c.1,c.2.1,touchL c.2.1 at_ true false c.2.2.1 ds,stE c.2.2.2 (key,ds,at_)) := by
  unfold doC
  rw [h3]
  dsimp only
  rw [hs]
 have hw : wholeV (doC c (6,at_,⟨#[]⟩,ds,key,0)) key = true := by
  refine whole_mem hR.erise (e := (key,ds,at_)) ?_ rfl ?_
  ·rw [hx];exact stE_new hR0.erise
  ·rw [hx];exact (missing_ks touchL_ks _).trans hm
 refine ⟨⟨wholeErr_zero hc (ho.key rfl),hw⟩,?_⟩
 have hn : newestV (doC c (6,at_,⟨#[]⟩,ds,key,0)).2.2.1 (doC c (6,at_,⟨#[]⟩,ds,key,0)).2.2.2 ≤ at_ := by
  obtain ⟨a1,a2,a3⟩ := newest_le.1 h2
  rw [hx]
  refine newest_le.2 ⟨a1,touchL_used a2,fun x hx => ?_⟩
  rcases stE_mem hx with rfl | hx
  ·exact Int.le_refl _
  ·exact a3 x hx
 have hev : ckEv (7,at_,⟨#[]⟩,[],key,0) = 0 := evOk_iff.2 ⟨by show (1 : Int) ≤ 7 ∧ (7 : Int) ≤ 8;decide,ho.at_,by show (0 : Int) ≤ 0 ∧ (0 : Int) ≤ 100000000;decide,rfl,fun h => by (cases h),fun _ => ho.key rfl,fun _ => rfl,fun _ => rfl,fun h => by (cases h),fun _ => rfl⟩
 clear hx hs h3
 generalize doC c (6,at_,⟨#[]⟩,ds,key,0) = x at *
 have hdo : doR x (7,at_,⟨#[]⟩,[],key,0) = ((searchV x.2.1 x.2.2.1 x.2.2.2 at_ key).1,(searchV x.2.1 x.2.2.1 x.2.2.2 at_ key).2.1,(searchV x.2.1 x.2.2.1 x.2.2.2 at_ key).2.2.1,(searchV x.2.1 x.2.2.1 x.2.2.2 at_ key).2.2.2,.v .nil,0) := by
  unfold doR doV
  rw [if_pos hev,if_neg (by show ¬ at_ < _;omega),actV_find rfl]
 refine ⟨?_,?_⟩
 ·unfold doErr
  rw [if_pos hc,hdo]
 ·rw [hdo]
  dsimp only
  rw [search_whole (room := x.1)]
  exact hw
structure Stays (c x : Cache) (gone : List ByteArray) (at_ : Int) : Prop where
 is : ∀ b ∈ c.2.2.1,hasB x.2.2.1 b.1 = !hasS b.1 gone
 held : ∀ b ∈ c.2.2.1,heldB b at_ = true → hasB x.2.2.1 b.1 = true
 size : ∀ b ∈ c.2.2.1,∀ y ∈ x.2.2.1,y.1 = b.1 → y.2.1 = b.2.1
 len : c.2.2.1.length ≤ x.2.2.1.length + gone.length
 glen : gone.length ≤ c.2.2.1.length
theorem stays_ks {c x : Cache} {at_ : Int} (hr : Rising (fun b : Blob => b.1) c.2.2.1) (h : x.2.2.1.map ksB = c.2.2.1.map ksB) : Stays c x [] at_ := by
 have h1 : ∀ b ∈ c.2.2.1,hasB x.2.2.1 b.1 = true := fun b hb => by rw [hasB_ks h];exact hasK_true.2 ⟨b,hb,rfl⟩
 refine ⟨fun b hb => h1 b hb,fun b hb _ => h1 b hb,fun b hb y hy hk => ?_,?_,?_⟩
 ·have : ksB y ∈ c.2.2.1.map ksB := by rw [← h];exact List.mem_map.2 ⟨y,hy,rfl⟩
  obtain ⟨z,hz,he⟩ := List.mem_map.1 this
  have e1 : z.1 = y.1 := congrArg (fun k : ByteArray × Int => k.1) he
  have e2 : z.2.1 = y.2.1 := congrArg (fun k : ByteArray × Int => k.2) he
  rw [← e2,rising_inj hr z hz b hb (e1.trans hk)]
 ·have := congrArg List.length h
  rw [List.length_map,List.length_map] at this
  omega
 ·exact Nat.zero_le _
theorem stays_go {c x : Cache} {at_ : Int} {T : List Blob} (hr : Rising (fun b : Blob => b.1) c.2.2.1) (hn : T.Nodup) (hT : ∀ b ∈ T,b ∈ c.2.2.1 ∧ heldB b at_ = false)
  (hx : ∀ y ∈ x.2.2.1,y ∈ keepL (fun b : Blob => hasS b.1 (digsB T)) c.2.2.1 ∨ hasB c.2.2.1 y.1 = false) (hx2 : ∀ y ∈ keepL (fun b : Blob => hasS b.1 (digsB T)) c.2.2.1,y ∈ x.2.2.1) (hl : (keepL (fun b : Blob => hasS b.1 (digsB T)) c.2.2.1).length ≤ x.2.2.1.length) : Stays c x (digsB T) at_ := by
 have hg := gone_perm (riseB_of hr) hn fun b hb => (hT b hb).1
 have his : ∀ b ∈ c.2.2.1,hasB x.2.2.1 b.1 = !hasS b.1 (digsB T) := fun b hb => by
  cases hs : hasS b.1 (digsB T)
  ·exact hasK_true.2 ⟨b,hx2 b (mem_keep.2 ⟨hb,hs⟩),rfl⟩
  ·refine hasK_false.2 fun y hy hk => ?_
   rcases hx y hy with h | h
   ·have := rising_inj hr y (mem_keep.1 h).1 b hb hk
    subst this
    have h2 := (mem_keep.1 h).2
    rw [hs] at h2;cases h2
   ·exact hasK_false.1 h b hb hk.symm
 refine ⟨his,fun b hb hh => ?_,fun b hb y hy hk => ?_,?_,?_⟩
 ·rw [his b hb]
  cases hs : hasS b.1 (digsB T)
  ·rfl
  ·have h1 : b ∈ T := hg.mem_iff.1 (List.mem_filter.2 ⟨hb,hs⟩)
   rw [(hT b h1).2] at hh;cases hh
 ·rcases hx y hy with h | h
  ·rw [rising_inj hr y (mem_keep.1 h).1 b hb hk]
  ·exact absurd hk.symm (hasK_false.1 h b hb)
 ·have h1 : (digsB T).length = T.length := List.length_map _
  have h2 := hg.length_eq
  have h3 := keep_len (fun b : Blob => hasS b.1 (digsB T)) (fun b : Blob => !hasS b.1 (digsB T)) c.2.2.1 (fun _ _ => by simp)
  have h4 : keepL (fun b : Blob => !hasS b.1 (digsB T)) c.2.2.1 = c.2.2.1.filter fun b => hasS b.1 (digsB T) := by
   unfold keepL;simp
  rw [h4] at h3
  omega
 ·have h1 : (digsB T).length = T.length := List.length_map _
  have h2 := hg.length_eq
  have h3 := List.length_filter_le (fun b : Blob => hasS b.1 (digsB T)) c.2.2.1
  omega
theorem do_stays {c : Cache} {e : Ev} (h : doErr c e = 0) : ∃ l,(frzC (doR c e).2.2.2.2.1 = .nil ∧ l = [] ∨ frzC (doR c e).2.2.2.2.1 = frStrs l) ∧ Stays c (doC c e) l e.2.1 := by
 obtain ⟨h0,h1,h2,h3⟩ := doErr_right h
 have hR := right_iff.1 h0
 unfold doErr at h
 rw [if_pos h0,h3] at h
 unfold doC
 rw [h3]
 unfold actV at h ⊢
 split
 ·rename_i k
  rw [if_pos k] at h
  dsimp only at h ⊢
  rcases putV_ways hR.brise h with ⟨k1,k2⟩ | ⟨k1,k0,k2⟩ | ⟨k1,k0,k2⟩
  all_goals rw [k2]
  ·exact ⟨[],.inl ⟨rfl,rfl⟩,stays_ks hR.brise touchL_ks⟩
  ·exact ⟨[],.inl ⟨rfl,rfl⟩,stays_ks hR.brise rfl⟩
  ·refine ⟨_,.inr rfl,stays_go hR.brise ((leav_nodup (riseB_of hR.brise)).sublist (List.take_sublist _ _)) (fun b hb => leav_mem.1 (List.mem_of_mem_take hb)) (fun y hy => ?_) (fun y hy => ?_) ?_⟩
   ·rcases mem_ins.1 hy with rfl | hy
    ·exact .inr k1
    ·exact .inl hy
   ·exact mem_ins.2 (.inr hy)
   ·show _ ≤ (insV _ _).length
    have := bIdx_le (bl := keptV c.2.2.1 e.2.1 (overV c.1 c.2.2.1 e.2.2.2.2.2)) (d := (newB c.2.1 e.2.1 e.2.2.1 e.2.2.2.2.2).1)
    rw [insV,List.length_append,List.length_take,List.length_cons,List.length_drop]
    show (keptV c.2.2.1 e.2.1 (overV c.1 c.2.2.1 e.2.2.2.2.2)).length ≤ _
    omega
 split
 ·exact ⟨[],.inl ⟨rfl,rfl⟩,stays_ks hR.brise touchL_ks⟩
 split
 ·exact ⟨[],.inl ⟨rfl,rfl⟩,stays_ks hR.brise touchL_ks⟩
 split
 ·exact ⟨[],.inl ⟨rfl,rfl⟩,stays_ks hR.brise pinV_ks⟩
 split
 ·refine ⟨[],.inl ⟨rfl,rfl⟩,stays_ks hR.brise ?_⟩
  unfold storeV
  split
  ·exact touchL_ks
  ·rfl
 split
 ·refine ⟨[],.inl ⟨rfl,rfl⟩,stays_ks hR.brise ?_⟩
  unfold searchV
  repeat' split
  all_goals first | exact touchL_ks | rfl
 unfold dropV
 split
 ·rename_i y hy
  split
  ·rename_i hh
   rw [Bool.and_eq_true] at hh
   obtain ⟨y',k1,k2⟩ := hasB_at hR.brise hh.1
   rw [hy] at k1
   cases k1
   have hd : ([e.2.2.1] : List ByteArray) = digsB [y] := by rw [digsB,List.map_cons,List.map_nil,k2]
   refine ⟨digsB [y],.inr ?_,stays_go (T := [y]) hR.brise (by simp) (fun b hb => ?_) (fun z hz => .inl ?_) (fun z hz => ?_) ?_⟩
   ·rw [← hd];exact frz_s _
   ·obtain rfl := List.mem_singleton.1 hb
    exact ⟨List.mem_of_getElem? hy,by simpa using hh.2⟩
   ·rw [← hd];exact hz
   ·rw [← hd] at hz;exact hz
   ·rw [← hd];exact Nat.le_refl _
  ·exact ⟨[],.inl ⟨rfl,rfl⟩,stays_ks hR.brise rfl⟩
 ·exact ⟨[],.inl ⟨rfl,rfl⟩,stays_ks hR.brise rfl⟩
end Go.Proofs.YtchiicfnejmmbaaDoor
