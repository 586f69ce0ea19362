/-
  The document's Text. No statement of the seat is proved here; no conditions.
-/
import Derived.Test.YthniagdphhcnkaaGreatDoorTyD
import Derived.Test.YthniagdphhcnkaaGreatDoorTxM
namespace Go.Proofs.YthniagdphhcnkaaGreatDoor
open Go.RowKit Go.Shelf
set_option linter.unusedVariables false
set_option linter.unusedSimpArgs false
set_option maxRecDepth 100000

def sp1 : ByteArray := ⟨#[32]⟩
def rfF (x : ByteArray) (l : List ByteArray) : ByteArray := l.foldl (fun a d => a ++ (sp1 ++ d)) x
theorem rfF_snoc {x : ByteArray} {l : List ByteArray} {i : Nat} {d : ByteArray} (h : l[i]? = some d) : rfF x (l.take (i + 1)) = rfF x (l.take i) ++ (sp1 ++ d) := by
 unfold rfF
 rw [List.take_add_one,h,List.foldl_append];rfl
theorem rfF_list : ∀ (l : List ByteArray) (x : ByteArray),(rfF x l).data.toList = x.data.toList ++ Lib.joinTail [32] (l.map (·.data.toList))
 | [],x => by simp [rfF,Lib.joinTail]
 | d :: l,x => by
  show (rfF (x ++ (sp1 ++ d)) l).data.toList = _
  rw [rfF_list l,data_app,data_app]
  simp [Lib.joinTail,sp1]
theorem joinW_rf (x : ByteArray) (l : List ByteArray) : joinW (x :: l) = rfF x l := by
 apply bytes_ext
 rw [rfF_list]
 show Lib.join (x.data.toList :: l.map (·.data.toList)) [32] = _
 rw [Lib.join_cons]
theorem rfF_app (T x : ByteArray) : ∀ l : List ByteArray,rfF (T ++ x) l = T ++ rfF x l := fun l => by
 apply bytes_ext
 rw [rfF_list,data_app,data_app,rfF_list,List.append_assoc]
theorem rfF_size {x : ByteArray} {l : List ByteArray} (h : ∀ d ∈ l,d.size = 16) : ∀ k,k ≤ l.length → (rfF x (l.take k)).size = x.size + 17 * k
 | 0,_ => by simp [rfF]
 | k + 1,hk => by
  obtain ⟨d,hd⟩ := get_some (l := l) (i := k) (by omega)
  rw [rfF_snoc hd,ByteArray.size_append,ByteArray.size_append,rfF_size h k (by omega),h d (List.mem_of_getElem? hd)]
  show _ + (1 + 16) = _
  omega
theorem head_cat (c : Cache) : (⟨#[99,97,99,104,101,32]⟩ : ByteArray) ++ itB c.1 ++ ⟨#[32]⟩ ++ itB c.2.1 ++ ⟨#[10]⟩ = txBl c (c.2.2.1.take 0) := by
 show _ = lnB [cacheW,itB c.1,itB c.2.1]
 unfold lnB
 rw [joinW_rf]
 have e : (⟨#[99,97,99,104,101,32]⟩ : ByteArray) = cacheW ++ sp1 := rfl
 rw [e]
 simp only [rfF,List.foldl_cons,List.foldl_nil,app_asc]
 rfl
theorem blob_cat (b : Blob) : (⟨#[98,108,111,98,32]⟩ : ByteArray) ++ b.1 ++ ⟨#[32]⟩ ++ itB b.2.1 ++ ⟨#[32]⟩ ++ itB b.2.2.1 ++ ⟨#[32]⟩ ++ itB b.2.2.2.1 ++ ⟨#[32]⟩ ++ itB b.2.2.2.2 ++ ⟨#[10]⟩ = lnB (wBlob b) := by
 unfold lnB wBlob
 rw [joinW_rf]
 have e : (⟨#[98,108,111,98,32]⟩ : ByteArray) = blobW ++ sp1 := rfl
 rw [e]
 simp only [rfF,List.foldl_cons,List.foldl_nil,app_asc]
 rfl
theorem ent_cat (T : ByteArray) (e : Entry) : rfF (T ++ ((⟨#[101,110,116,114,121,32]⟩ : ByteArray) ++ e.1 ++ ⟨#[32]⟩ ++ itB e.2.2)) e.2.1 ++ ⟨#[10]⟩ = T ++ lnB (wEnt e) := by
 unfold lnB wEnt
 rw [rfF_app,app_asc]
 congr 1
 have e1 : (⟨#[101,110,116,114,121,32]⟩ : ByteArray) ++ e.1 ++ ⟨#[32]⟩ ++ itB e.2.2 = rfF entryW [e.1,itB e.2.2] := by
  have e0 : (⟨#[101,110,116,114,121,32]⟩ : ByteArray) = entryW ++ sp1 := rfl
  rw [e0]
  simp only [rfF,List.foldl_cons,List.foldl_nil,app_asc]
  rfl
 rw [e1]
 show _ = joinW (entryW :: ([e.1,itB e.2.2] ++ e.2.1)) ++ _
 rw [joinW_rf]
 congr 1
theorem cat_ok (a b : ByteArray) (h : a.size + b.size ≤ 9223372036854775807) : ∃ p,a ++ b = p ∧ p.size = a.size + b.size ∧ (a.size + b.size ≤ 9223372036854775807) = True :=
 ⟨_,rfl,ByteArray.size_append,by rw [eq_iff_iff,iff_true];exact h⟩
set_option maxHeartbeats 4000000 in
theorem TextR_bad (c : Cache) (hb : SBound c) (hk : ckCache c ≠ 0) : FRet Tryz.prog 5 [aCache c] [.c (.v (.str (TextV c).1)),.c (.v (.int .i64 (TextV c).2))] := by
 have e1 : TextV c = (⟨#[]⟩,ckCache c) := if_neg hk
 rw [e1]
 have hC := CheckCacheR_f c hb
 have d0 : decide (ckCache c = 0) = false := dec_f hk
 generalize ckCache c = q at *
 obtain ⟨room,lease,bl,en⟩ := c
 refine FCall.of_ax low_ref7_Text ?_
 dsimp only [l_ref7_Text,aCache] at hC ⊢
 refine srun_sound 300 _ _ _ _ ?_
 clear hk e1
 repeat' (first
  | (simp -implicitDefEqProofs only [*,zr,Nat.reduceAdd,Nat.reduceSub,Nat.reduceMul,Nat.reduceLT,Nat.reduceLeDiff,Nat.reduceEqDiff,Nat.reduceBEq,reduceIte,reduceCtorEq,Int.reduceLE,Int.reduceLT,Int.reduceToNat,Int.reduceEq,Int.reduceNe])
  | ((first|apply zk0|apply zk1|apply zk2|apply zk3|apply zk4|apply zk5|apply zk6|apply zk7|apply zk8|apply zk9) <;> intro hc)
  |(refine callP0 rfl ?_)
  |(refine callD0 rfl ?_)
  |(refine cP (hC) ?_)
  |(refine cD (hC) ?_)
  |(refine cF (hC) ?_)
  | fail)
 exact ret_vve rfl rfl
set_option maxHeartbeats 16000000 in
theorem TextR_ok (c : Cache) (hb : SBound c) (hk : ckCache c = 0) : FRet Tryz.prog 5 [aCache c] [.c (.v (.str (TextV c).1)),.c (.v (.int .i64 (TextV c).2))] := by
 have e1 : TextV c = (if 2000000 < (txtB c).size then (⟨#[]⟩,2) else (txtB c,0)) := if_pos hk
 rw [e1]
 have hC := CheckCacheR_f c hb
 rw [hk] at hC
 have hO := hide (txOk_of hk)
 clear e1 hb hk
 have d0 : decide ((0 : Int) = 0) = true := rfl
 have i1 := itoaB_f c.1 hO.out.room.1 hO.out.room.2
 have i2 := itoaB_f c.2.1 hO.out.lease.1 hO.out.lease.2
 have hcat := head_cat c
 have z1 := itB_size c.1 hO.out.room.1 hO.out.room.2
 have z2 := itB_size c.2.1 hO.out.lease.1 hO.out.lease.2
 have k6 : (⟨#[99,97,99,104,101,32]⟩ : ByteArray).size = 6 := rfl
 have k1 : (⟨#[32]⟩ : ByteArray).size = 1 := rfl
 have k10 : (⟨#[10]⟩ : ByteArray).size = 1 := rfl
 obtain ⟨p1,e1,s1,t1⟩ := cat_ok ⟨#[99,97,99,104,101,32]⟩ (itB c.1) (by omega)
 obtain ⟨p2,e2,s2,t2⟩ := cat_ok p1 ⟨#[32]⟩ (by omega)
 obtain ⟨p3,e3,s3,t3⟩ := cat_ok p2 (itB c.2.1) (by omega)
 obtain ⟨p4,e4,s4,t4⟩ := cat_ok p3 ⟨#[10]⟩ (by omega)
 rw [e1,e2,e3,e4] at hcat
 clear z1 z2 k6 k1 k10 s1 s2 s3 s4
 refine FCall.of_ax low_ref7_Text ?_
 dsimp only [l_ref7_Text,aCache] at hC ⊢
 generalize itB c.1 = x1 at *
 generalize itB c.2.1 = x2 at *
 replace hcat := hide hcat
 refine srun_sound 300 _ _ _ _ ?_
 repeat' (first
  | (simp -implicitDefEqProofs only [*,frBlobs,frEntries,addFp_wr,zr,Nat.reduceAdd,Nat.reduceSub,Nat.reduceMul,Nat.reduceLT,Nat.reduceLeDiff,Nat.reduceEqDiff,Nat.reduceBEq,reduceIte,reduceCtorEq,Int.reduceLE,Int.reduceLT,Int.reduceToNat,Int.reduceEq,Int.reduceNe])
  | ((first|apply zk0|apply zk1|apply zk2|apply zk3|apply zk4|apply zk5|apply zk6|apply zk7|apply zk8|apply zk9) <;> intro hc)
  |(refine callP0 rfl ?_)
  |(refine callD0 rfl ?_)
  |(refine cP (hC) ?_)
  |(refine cD (hC) ?_)
  |(refine cF (hC) ?_)
  |(refine cP (i1) ?_)
  |(refine cD (i1) ?_)
  |(refine cF (i1) ?_)
  |(refine cP (i2) ?_)
  |(refine cD (i2) ?_)
  |(refine cF (i2) ?_)
  | fail)
 rw [hcat.out]
 clear hcat hC i1 i2 e1 e2 e3 e4 t1 t2 t3 t4
 refine ax_loopU (S := Nat) 107 [1] [1] (fun s => [(5,.f (.str (txBl c (c.2.2.1.take s)))),(6,.f (.int .i64 s))]) (fun s => []) (fun s => s ≤ c.2.2.1.length) (fun s => c.2.2.1.length - s) (0) [] ?_ ?_ fun s hs => ?_
 ·exact Nat.zero_le _
 ·refine wk_i ?_ ?_ <;> simp only [zw,Nat.reduceEqDiff,Nat.reduceBEq,Nat.reduceLT,Nat.reduceLeDiff,reduceIte,reduceCtorEq]
 dsimp only [cellsG]
 rcases Nat.lt_or_ge s c.2.2.1.length with hlt | hge
 ·obtain ⟨b,hb⟩ := get_some hlt
  have hbm := List.mem_of_getElem? hb
  have h4 := inc64 hlt (by have := hO.out.blen;omega)
  have h2 := lt_t hlt
  obtain ⟨g0,g1,g2,g3,g4⟩ := hO.out.bl b hbm
  have i1 := itoaB_f _ g1.1 g1.2
  have i2 := itoaB_f _ g2.1 g2.2
  have i3 := itoaB_f _ g3.1 g3.2
  have i4 := itoaB_f _ g4.1 g4.2
  have hsz := txBl_size hO.out s hs
  have hbl := hO.out.blen
  have hsn := txBl_snoc (c := c) hb
  have hcat := blob_cat b
  have z0 := isDig_size g0
  have z1 := itB_size _ g1.1 g1.2
  have z2 := itB_size _ g2.1 g2.2
  have z3 := itB_size _ g3.1 g3.2
  have z4 := itB_size _ g4.1 g4.2
  have k6 : (⟨#[98,108,111,98,32]⟩ : ByteArray).size = 5 := rfl
  have k1 : (⟨#[32]⟩ : ByteArray).size = 1 := rfl
  have k10 : (⟨#[10]⟩ : ByteArray).size = 1 := rfl
  obtain ⟨d,b1,b2,b3,b4⟩ := b
  dsimp only at hcat z0 z1 z2 z3 z4 i1 i2 i3 i4
  obtain ⟨p1,e1,s1,t1⟩ := cat_ok ⟨#[98,108,111,98,32]⟩ d (by omega)
  obtain ⟨p2,e2,s2,t2⟩ := cat_ok p1 ⟨#[32]⟩ (by omega)
  obtain ⟨p3,e3,s3,t3⟩ := cat_ok p2 (itB b1) (by omega)
  obtain ⟨p4,e4,s4,t4⟩ := cat_ok p3 ⟨#[32]⟩ (by omega)
  obtain ⟨p5,e5,s5,t5⟩ := cat_ok p4 (itB b2) (by omega)
  obtain ⟨p6,e6,s6,t6⟩ := cat_ok p5 ⟨#[32]⟩ (by omega)
  obtain ⟨p7,e7,s7,t7⟩ := cat_ok p6 (itB b3) (by omega)
  obtain ⟨p8,e8,s8,t8⟩ := cat_ok p7 ⟨#[32]⟩ (by omega)
  obtain ⟨p9,e9,s9,t9⟩ := cat_ok p8 (itB b4) (by omega)
  obtain ⟨q1,e10,s10,t10⟩ := cat_ok p9 ⟨#[10]⟩ (by omega)
  obtain ⟨q2,e11,s11,t11⟩ := cat_ok (txBl c (c.2.2.1.take s)) q1 (by omega)
  rw [e1,e2,e3,e4,e5,e6,e7,e8,e9,e10] at hcat
  rw [← hcat,e11] at hsn
  clear z0 z1 z2 z3 z4 k6 k1 k10 s1 s2 s3 s4 s5 s6 s7 s8 s9 s10 s11 hsz hcat g0 g1 g2 g3 g4 hbl
  generalize txBl c (c.2.2.1.take s) = T at *
  generalize itB b1 = x1 at *
  generalize itB b2 = x2 at *
  generalize itB b3 = x3 at *
  generalize itB b4 = x4 at *
  replace hsn := hide hsn
  refine srun_sound 300 _ _ _ _ ?_
  repeat' (first
   | (simp -implicitDefEqProofs only [*,addFp_wr,List.getElem?_map,Option.map_some,fBlob,List.length_map,zr,Nat.reduceAdd,Nat.reduceSub,Nat.reduceMul,Nat.reduceLT,Nat.reduceLeDiff,Nat.reduceEqDiff,Nat.reduceBEq,reduceIte,reduceCtorEq,Int.reduceLE,Int.reduceLT,Int.reduceToNat,Int.reduceEq,Int.reduceNe])
   | ((first|apply zk0|apply zk1|apply zk2|apply zk3|apply zk4|apply zk5|apply zk6|apply zk7|apply zk8|apply zk9) <;> intro hc)
   |(refine callP0 rfl ?_)
   |(refine callD0 rfl ?_)
   |(refine cP (i1) ?_)
   |(refine cD (i1) ?_)
   |(refine cF (i1) ?_)
   |(refine cP (i2) ?_)
   |(refine cD (i2) ?_)
   |(refine cF (i2) ?_)
   |(refine cP (i3) ?_)
   |(refine cD (i3) ?_)
   |(refine cF (i3) ?_)
   |(refine cP (i4) ?_)
   |(refine cD (i4) ?_)
   |(refine cF (i4) ?_)
   | fail)
  refine ⟨s + 1,hlt,by omega,?_⟩
  rw [hsn.out]
  refine wk_i ?_ ?_ <;> simp only [zw,Nat.reduceEqDiff,Nat.reduceBEq,Nat.reduceLT,Nat.reduceLeDiff,reduceIte,reduceCtorEq]
 ·obtain rfl : s = c.2.2.1.length := by omega
  have h2 := lt_f hge
  have e0 : txBl c (c.2.2.1.take c.2.2.1.length) = txEn c (c.2.2.2.take 0) := by rw [List.take_length];rfl
  rw [e0]
  clear e0 hge hs
  refine srun_sound 300 _ _ _ _ ?_
  repeat' (first
   | (simp -implicitDefEqProofs only [*,List.length_map,zr,Nat.reduceAdd,Nat.reduceSub,Nat.reduceMul,Nat.reduceLT,Nat.reduceLeDiff,Nat.reduceEqDiff,Nat.reduceBEq,reduceIte,reduceCtorEq,Int.reduceLE,Int.reduceLT,Int.reduceToNat,Int.reduceEq,Int.reduceNe])
   | ((first|apply zk0|apply zk1|apply zk2|apply zk3|apply zk4|apply zk5|apply zk6|apply zk7|apply zk8|apply zk9) <;> intro hc)
   |(refine callP0 rfl ?_)
   |(refine callD0 rfl ?_)
   | fail)
  refine ax_loopU (S := Nat) 107 [1] [1] (fun s => [(5,.f (.str (txEn c (c.2.2.2.take s)))),(8,.f (.int .i64 s))]) (fun s => []) (fun s => s ≤ c.2.2.2.length) (fun s => c.2.2.2.length - s) (0) [] ?_ ?_ fun s hs => ?_
  ·exact Nat.zero_le _
  ·refine wk_i ?_ ?_ <;> simp only [zw,Nat.reduceEqDiff,Nat.reduceBEq,Nat.reduceLT,Nat.reduceLeDiff,reduceIte,reduceCtorEq]
   all_goals rfl
  dsimp only [cellsG]
  clear h2
  rcases Nat.lt_or_ge s c.2.2.2.length with hlt | hge
  ·obtain ⟨b,hb⟩ := get_some hlt
   have hbm := List.mem_of_getElem? hb
   have h4 := inc64 hlt (by have := hO.out.elen;omega)
   have h2 := lt_t hlt
   obtain ⟨g0,g1,g2,g3⟩ := hO.out.en b hbm
   have i1 := itoaB_f _ g1.1 g1.2
   have hsz := txEn_size hO.out s hs
   have hel := hO.out.elen
   have hsn := txEn_snoc (c := c) hb
   have hcat := ent_cat (txEn c (c.2.2.2.take s)) b
   have z0 := isDig_size g0
   have z1 := itB_size _ g1.1 g1.2
   have k6 : (⟨#[101,110,116,114,121,32]⟩ : ByteArray).size = 6 := rfl
   have k1 : (⟨#[32]⟩ : ByteArray).size = 1 := rfl
   have k10 : (⟨#[10]⟩ : ByteArray).size = 1 := rfl
   have g3' : ∀ d ∈ b.2.1,d.size = 16 := fun d hd => isDig_size (g3 d hd)
   obtain ⟨d,rf,b1⟩ := b
   dsimp only at hcat z0 z1 i1 g2 g3'
   obtain ⟨p1,e1,s1,t1⟩ := cat_ok ⟨#[101,110,116,114,121,32]⟩ d (by omega)
   obtain ⟨p2,e2,s2,t2⟩ := cat_ok p1 ⟨#[32]⟩ (by omega)
   obtain ⟨p3,e3,s3,t3⟩ := cat_ok p2 (itB b1) (by omega)
   obtain ⟨p4,e4,s4,t4⟩ := cat_ok (txEn c (c.2.2.2.take s)) p3 (by omega)
   rw [e1,e2,e3,e4] at hcat
   rw [← hcat] at hsn
   have hrs := rfF_size (x := p4) g3'
   have hp4 : p4.size ≤ 100000000 := by omega
   clear z0 z1 k6 k1 s1 s2 s3 s4 hsz hcat g0 g1 g3 hel
   generalize txEn c (c.2.2.2.take s) = T at *
   generalize itB b1 = x1 at *
   replace hsn := hide hsn
   replace hrs := hide hrs
   obtain ⟨q,hq⟩ : ∃ q,q = s := ⟨s,rfl⟩
   subst hq
   refine srun_sound 300 _ _ _ _ ?_
   repeat' (first
    | (simp -implicitDefEqProofs only [*,addFp_wr,List.getElem?_map,Option.map_some,fEntry,frStrs,List.length_map,zr,Nat.reduceAdd,Nat.reduceSub,Nat.reduceMul,Nat.reduceLT,Nat.reduceLeDiff,Nat.reduceEqDiff,Nat.reduceBEq,reduceIte,reduceCtorEq,Int.reduceLE,Int.reduceLT,Int.reduceToNat,Int.reduceEq,Int.reduceNe])
    | ((first|apply zk0|apply zk1|apply zk2|apply zk3|apply zk4|apply zk5|apply zk6|apply zk7|apply zk8|apply zk9) <;> intro hc)
    |(refine callP0 rfl ?_)
    |(refine callD0 rfl ?_)
    |(refine cP (i1) ?_)
    |(refine cD (i1) ?_)
    |(refine cF (i1) ?_)
    | fail)
   refine ax_loopU (S := Nat) 107 [1,8,9] [1,9] (fun s => [(5,.f (.str (rfF p4 (rf.take s)))),(10,.f (.int .i64 s))]) (fun s => []) (fun s => s ≤ rf.length) (fun s => rf.length - s) (0) [] ?_ ?_ fun s hs => ?_
   ·exact Nat.zero_le _
   ·refine wk_i ?_ ?_ <;> simp only [zw,Nat.reduceEqDiff,Nat.reduceBEq,Nat.reduceLT,Nat.reduceLeDiff,reduceIte,reduceCtorEq]
    all_goals rfl
   dsimp only [cellsG]
   clear e1 e2 e3 e4 t1 t2 t3 t4 i1
   rcases Nat.lt_or_ge s rf.length with hl3 | hg3
   ·obtain ⟨r,hr⟩ := get_some hl3
    have j4 := inc64 hl3 (by omega)
    have j2 := lt_t hl3
    have hrsn := rfF_snoc (x := p4) hr
    have hz := hrs.out s (by omega)
    have hrz := g3' r (List.mem_of_getElem? hr)
    have ks : sp1.size = 1 := rfl
    obtain ⟨u1,f1,v1,w1⟩ := cat_ok sp1 r (by omega)
    obtain ⟨u2,f2,v2,w2⟩ := cat_ok (rfF p4 (rf.take s)) u1 (by omega)
    rw [f1,f2] at hrsn
    unfold sp1 at f1 w1
    clear hz hrz ks v1 v2
    generalize rfF p4 (rf.take s) = R at *
    replace hrsn := hide hrsn
    refine srun_sound 300 _ _ _ _ ?_
    repeat' (first
     | (simp -implicitDefEqProofs only [*,addFp_wr,List.getElem?_map,Option.map_some,List.length_map,zr,Nat.reduceAdd,Nat.reduceSub,Nat.reduceMul,Nat.reduceLT,Nat.reduceLeDiff,Nat.reduceEqDiff,Nat.reduceBEq,reduceIte,reduceCtorEq,Int.reduceLE,Int.reduceLT,Int.reduceToNat,Int.reduceEq,Int.reduceNe])
     | ((first|apply zk0|apply zk1|apply zk2|apply zk3|apply zk4|apply zk5|apply zk6|apply zk7|apply zk8|apply zk9) <;> intro hc)
     |(refine callP0 rfl ?_)
     |(refine callD0 rfl ?_)
     | fail)
    refine ⟨s + 1,hl3,by omega,?_⟩
    rw [hrsn.out]
    refine wk_i ?_ ?_ <;> simp only [zw,Nat.reduceEqDiff,Nat.reduceBEq,Nat.reduceLT,Nat.reduceLeDiff,reduceIte,reduceCtorEq]
   ·obtain rfl : s = rf.length := by omega
    have j2 := lt_f hg3
    have hz := hrs.out rf.length (Nat.le_refl _)
    rw [List.take_length] at hz ⊢
    obtain ⟨u1,f1,v1,w1⟩ := cat_ok (rfF p4 rf) ⟨#[10]⟩ (by omega)
    have hsn2 := hsn.out
    rw [f1] at hsn2
    replace hsn2 := hide hsn2
    clear hsn hz v1 hrs k10
    generalize rfF p4 rf = R at *
    refine srun_sound 300 _ _ _ _ ?_
    repeat' (first
     | (simp -implicitDefEqProofs only [*,addFp_wr,List.length_map,zr,Nat.reduceAdd,Nat.reduceSub,Nat.reduceMul,Nat.reduceLT,Nat.reduceLeDiff,Nat.reduceEqDiff,Nat.reduceBEq,reduceIte,reduceCtorEq,Int.reduceLE,Int.reduceLT,Int.reduceToNat,Int.reduceEq,Int.reduceNe])
     | ((first|apply zk0|apply zk1|apply zk2|apply zk3|apply zk4|apply zk5|apply zk6|apply zk7|apply zk8|apply zk9) <;> intro hc)
     |(refine callP0 rfl ?_)
     |(refine callD0 rfl ?_)
     | fail)
    refine ⟨q + 1,hlt,by omega,?_⟩
    rw [hsn2.out]
    refine wk_i ?_ ?_ <;> simp only [zw,Nat.reduceEqDiff,Nat.reduceBEq,Nat.reduceLT,Nat.reduceLeDiff,reduceIte,reduceCtorEq]
  ·obtain rfl : s = c.2.2.2.length := by omega
   have h2 := lt_f hge
   have e0 : txEn c (c.2.2.2.take c.2.2.2.length) = txtB c := by rw [List.take_length];rfl
   rw [e0]
   clear e0 hge hs hO
   generalize txtB c = T at *
   by_cases hbig : 2000000 < T.size
   ·have d1 : decide ((T.size : Int) > 2000000) = true := dec_t (by omega)
    have d2 : decide ((2000000 : Int) < T.size) = true := d1
    rw [if_pos hbig]
    replace hbig := hide hbig
    refine srun_sound 300 _ _ _ _ ?_
    repeat' (first
     | (simp -implicitDefEqProofs only [*,List.length_map,zr,Nat.reduceAdd,Nat.reduceSub,Nat.reduceMul,Nat.reduceLT,Nat.reduceLeDiff,Nat.reduceEqDiff,Nat.reduceBEq,reduceIte,reduceCtorEq,Int.reduceLE,Int.reduceLT,Int.reduceToNat,Int.reduceEq,Int.reduceNe])
     | ((first|apply zk0|apply zk1|apply zk2|apply zk3|apply zk4|apply zk5|apply zk6|apply zk7|apply zk8|apply zk9) <;> intro hc)
     |(refine callP0 rfl ?_)
     |(refine callD0 rfl ?_)
     | fail)
    exact ret_vve rfl rfl
   ·have d1 : decide ((T.size : Int) > 2000000) = false := dec_f (by omega)
    have d2 : decide ((2000000 : Int) < T.size) = false := d1
    rw [if_neg hbig]
    replace hbig := hide hbig
    refine srun_sound 300 _ _ _ _ ?_
    repeat' (first
     | (simp -implicitDefEqProofs only [*,List.length_map,zr,Nat.reduceAdd,Nat.reduceSub,Nat.reduceMul,Nat.reduceLT,Nat.reduceLeDiff,Nat.reduceEqDiff,Nat.reduceBEq,reduceIte,reduceCtorEq,Int.reduceLE,Int.reduceLT,Int.reduceToNat,Int.reduceEq,Int.reduceNe])
     | ((first|apply zk0|apply zk1|apply zk2|apply zk3|apply zk4|apply zk5|apply zk6|apply zk7|apply zk8|apply zk9) <;> intro hc)
     |(refine callP0 rfl ?_)
     |(refine callD0 rfl ?_)
     | fail)
    exact ret_vve rfl rfl
theorem TextR_f (c : Cache) (hb : SBound c) : FRet Tryz.prog 5 [aCache c] [.c (.v (.str (TextV c).1)),.c (.v (.int .i64 (TextV c).2))] := by
 by_cases hk : ckCache c = 0
 ·exact TextR_ok c hb hk
 ·exact TextR_bad c hb hk
end Go.Proofs.YthniagdphhcnkaaGreatDoor
