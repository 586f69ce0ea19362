/-
  A call in a drawn region that shares the five high numbers. No statement of the seat is proved here; no conditions.
-/
import Derived.Test.YtjacnfjlocajoaaDoorHi5
import Derived.Test.YtjacnfjlocajoaaDoorDvP
namespace Go.Proofs.YtjacnfjlocajoaaDoor
open Go.RowKit Go.Shelf
set_option linter.unusedVariables false
set_option linter.unusedSimpArgs false

def W5 : List Nat := [100001,100002,100101,100102,100103]
theorem mem_W5 {id : Nat} : id ∈ W5 ↔ isHi id = true := by
 simp only [W5,isHi,List.mem_cons,List.not_mem_nil,or_false,decide_eq_true_eq]
def hiObjs5 (hl : List (Nat × Nat × AObj)) : Bool := hl.all fun p => match p.2.2 with
 | .cells cs => cs.all AV.hi5
 | .map _ => true
theorem hiC5_at {H : Heap} {hl : List (Nat × Nat × AObj)} (h : ∀ id,isHi id = true → H id = lookH id hl) (ho : hiObjs5 hl = true) : HiC5 H := fun id hid cs hc => by
 rw [h id hid] at hc
 obtain ⟨p,hp,_,h2⟩ := lookH_mem hc
 have := List.all_eq_true.1 ho p hp
 rw [h2] at this
 exact this
section
variable {P : Program} {R : Env → Heap → Prop} {Λ : Lams} {k : List It} {env : Env} {H : Heap} {d j : Nat} {f : Operand} {args : List Operand} {g : Option (Nat × Bool)} {dos : List DO} {acc : List Fp} {od : List Nat} {fid : FuncId} {args' : List AV}
theorem callD5 {hl hl2 : List (Nat × Nat × AObj)} {r0 : AV} (hF : FHi P fid args' hl (fun r hl' => r = r0 ∧ hl' = hl2)) (hg : gd g env = some true) (hfn : evA env f = .f (.fn (.func fid))) (ha : args.map (evA env) = args') (h1 : H 100001 = lookH 100001 hl) (h2 : H 100002 = lookH 100002 hl) (h3 : H 100101 = lookH 100101 hl) (h4 : H 100102 = lookH 100102 hl) (h5 : H 100103 = lookH 100103 hl)
  (hk1 : hl.all (fun p => isHi p.1) = true) (hk2 : hl2.all (fun p => isHi p.1) = true) (hr : r0.hi5 = true) (ho : hiObjs5 hl = true) (ho2 : hiObjs5 hl2 = true) (hp : args'.all AV.hi5 = true) (hk : noConf acc od [] W5 = true)
  (h : srun P R 300 Λ (.dops dos (j + 1) (addFp j [] W5 acc) :: k) (putE env (some d) r0) (mixH5 (mkH hl2) H)) : Ax P R Λ (.dops (⟨some d,.call f args,g,od⟩ :: dos) j acc :: k) env H := by
 have hH : ∀ id,isHi id = true → H id = lookH id hl := fun id hid => by
  have : id = 100001 ∨ id = 100002 ∨ id = 100101 ∨ id = 100102 ∨ id = 100103 := by simpa [isHi] using hid
  rcases this with rfl | rfl | rfl | rfl | rfl <;> assumption
 refine ax_dCall (f := f) (args := args) (rd := []) (wr := W5) (v := r0) (H' := mixH5 (mkH hl2) H) rfl hg (fun id hid => if_pos (by have := mt mem_W5.2 hid;simpa using this)) (fun H2 _ hw => ?_) hk (srun_sound 300 _ _ _ _ h)
 rw [hfn,ha]
 have hH2 : ∀ id,isHi id = true → H2 id = lookH id hl := fun id hid => (hw id (mem_W5.2 hid)).trans (hH id hid)
 have e : hiP5 H2 = mkH hl := by
  funext id
  show (if isHi id = false then (0,none) else H2 id) = lookH id hl
  by_cases e : isHi id = false
  ·rw [if_pos e,look_hi hk1 e]
  ·rw [if_neg e];exact hH2 id (hi5_of e)
 have at2 : ∀ {H' : Heap},hiP H' = mkH hl2 → ∀ id,isHi id = true → H' id = lookH id hl2 := fun hh id hid => hi_at hh (hi5_ge hid)
 refine ACall.mono (call_hi5 hF e (fun r H' ⟨hl',⟨q1,q2⟩,q3⟩ => by subst q1 q2;exact ⟨hr,hiC5_at (at2 q3) ho2⟩) (hiC5_at hH2 ho) hp) fun r H'' ⟨H',⟨hl',⟨q1,q2⟩,q3⟩,q4⟩ => ?_
 subst q1 q2 q4
 refine ⟨rfl,?_⟩
 funext id
 unfold mix
 by_cases e : isHi id = true
 ·rw [if_pos (mem_W5.2 e)]
  show (if isHi id = false then H2 id else H' id) = if isHi id = false then H id else mkH hl' id
  rw [if_neg (hi5_no e),if_neg (hi5_no e),at2 q3 id e];rfl
 ·rw [if_neg (fun hh => e (mem_W5.1 hh))]
  exact if_pos (by simpa using e)
end
theorem hi5_fs (l : List FV) : (l.map AV.f).all AV.hi5 = true := List.all_eq_true.2 fun a ha => by obtain ⟨x,_,rfl⟩ := List.mem_map.1 ha;rfl
theorem hi5_rowA {a : Nat → AV} {t : ByteArray} (h : ∀ n,(a n).hi5 = true) (P : List Pt) : (rowA a t P).all AV.hi5 = true := List.all_eq_true.2 fun x hx => by
 obtain ⟨p,_,hp⟩ := List.mem_flatMap.1 hx
 unfold fPtA at hp
 simp only [List.mem_cons,List.not_mem_nil,or_false] at hp
 rcases hp with rfl | rfl | rfl
 ·rfl
 ·rfl
 ·split
  ·exact h _
  ·rfl
theorem hi5_aY {z : Bool} {v : Nat} (n : Nat) : (aY z v n).hi5 = true := by cases z <;> rfl
theorem hi5_R {D : List Ob} {P : List Pt} {t : ByteArray} {z : Bool} {v1 v2 v3 v4 : Nat} {zs : List FV} : hiObjs5 (hiR D P t z v1 v2 v3 v4 zs) = true := by
 unfold hiObjs5 hiR
 simp only [List.all_cons,List.all_nil,Bool.and_true,Bool.and_eq_true]
 refine ⟨?_,hi5_fs _,hi5_rowA hi5_aY P,hi5_fs _⟩
 rw [List.all_append,hi5_fs];rfl
end Go.Proofs.YtjacnfjlocajoaaDoor
namespace Go.Proofs.YtjacnfjlocajoaaDoor
open Go.RowKit Go.Shelf
set_option linter.unusedVariables false
set_option linter.unusedSimpArgs false
set_option maxRecDepth 100000

def sZs (t : ByteArray) (b : List UInt8) (most : Nat) (sent : Int) : List FV := [.str t,frB b,.int .i64 most,.int .i64 sent]
def SQ (t : ByteArray) (b : List UInt8) (most : Nat) (v1 : Nat) (R : (Bool × Int) × Rc × Int) (r : AV) (hl : List (Nat × Nat × AObj)) : Prop :=
 ∃ w2 w3 w4,r = .tup [.f (.bool R.1.1),.f (.int .i64 R.1.2)] ∧ hl = hiR R.2.1.1 R.2.1.2 t false v1 w2 w3 w4 (sZs t b most R.2.2)
structure OnAt (t : ByteArray) (b : List UInt8) (most : Nat) (B : Int) (R : (Bool × Int) × Rc × Int) (k : Nat) (left : Int) (m : Mg) (r : Rc) (sent : Int) : Prop where
 eq : onceV t b most k left m r sent = R
 ok : SOk t b most r m
 me : meas b m < k
 kb : k ≤ 100002
 lo : (k : Int) - 200004 ≤ left ∧ left ≤ 1000000
 se : 0 ≤ sent ∧ sent + (k : Int) * 65536 ≤ B
theorem s_shape {t : ByteArray} {b : List UInt8} {most : Nat} {r : Rc} {m : Mg} (h : SOk t b most r m) (hm : most ≤ 65536) : ∃ mk fr sz bs,m = (mk,t,fr,sz,bs) ∧ bs.length ≤ 65536 := by
 rcases h.at_ with rfl | ⟨f,rfl,_,_⟩
 ·exact ⟨_,_,_,_,rfl,by simp⟩
 ·exact ⟨_,_,_,_,rfl,by rw [List.length_take];omega⟩
theorem mixH5_at {A B : Heap} {id : Nat} : mixH5 A B id = if isHi id = false then B id else A id := rfl
theorem small_mix5 {A B : Heap} (h : Small B) (ha : Small A) : Small (mixH5 A B) := fun id h1 h2 => by
 rw [mixH5_at]
 split
 ·exact h id h1 h2
 ·exact ha id h1 h2
theorem sq_end {H : Heap} {t : ByteArray} {b : List UInt8} {most v1 w2 w3 w4 : Nat} {R : (Bool × Int) × Rc × Int} {E : List Ob} {Q : List Pt} {se : Int} {bo : Bool} {fa : Int} (hR : R = ((bo,fa),(E,Q),se)) (hs : Small H) (h1 : H 100001 = lookH 100001 (hiR E Q t false v1 w2 w3 w4 (sZs t b most se))) (h2 : H 100002 = lookH 100002 (hiR E Q t false v1 w2 w3 w4 (sZs t b most se))) (h3 : H 100101 = lookH 100101 (hiR E Q t false v1 w2 w3 w4 (sZs t b most se))) (h4 : H 100102 = lookH 100102 (hiR E Q t false v1 w2 w3 w4 (sZs t b most se))) (h5 : H 100103 = lookH 100103 (hiR E Q t false v1 w2 w3 w4 (sZs t b most se))) : HiQ (SQ t b most v1 R) (.tup [.f (.bool bo),.f (.int .i64 fa)]) H := by
 subst hR
 exact ⟨hiR E Q t false v1 w2 w3 w4 (sZs t b most se),⟨w2,w3,w4,rfl,rfl⟩,hi_mk hs rfl h1 h2 h3 h4 h5⟩
set_option maxHeartbeats 8000000 in
theorem once_hi (D : List Ob) (P : List Pt) (t : ByteArray) (b : List UInt8) (most : Nat) (left sent : Int) (v1 v2 v3 v4 : Nat) (hok : ROk (D,P)) (hd : isDig t = true) (hb : b.length ≤ 100000) (hm : 1 ≤ most ∧ most ≤ 65536) (hl : -1 ≤ left ∧ left ≤ 1000000) (hs : 0 ≤ sent ∧ sent ≤ 1000000000000000) :
  FHi Tryd.prog 44 [.ptr 100001 v1 0,.f (.int .i64 left)] (hiR D P t false v1 v2 v3 v4 (sZs t b most sent)) (SQ t b most v1 (onceV t b most (b.length + 2) left (1,t,0,b.length,[]) (D,P) sent)) := by
 obtain ⟨R,hR⟩ : ∃ R,onceV t b most (b.length + 2) left (1,t,0,b.length,[]) (D,P) sent = R := ⟨_,rfl⟩
 obtain ⟨B,hB⟩ : ∃ B : Int,B = sent + ((b.length + 2 : Nat) : Int) * 65536 := ⟨_,rfl⟩
 have hBb : B ≤ 2000000000000000 := by omega
 have hinit : OnAt t b most B R (b.length + 2) left (1,t,0,b.length,[]) (D,P) sent := ⟨hR,⟨hok,.inl rfl⟩,by unfold meas;rw [if_pos rfl];omega,by omega,by omega,by omega⟩
 rw [hR]
 refine FCall.of_ax low_wire_sender_once ?_
 dsimp only [l_wire_sender_once,hiR,sZs,List.map]
 refine srun_sound 300 _ _ _ _ ?_
 have hblen : (b.map encU).length = b.length := List.length_map _
 replace hinit := hide hinit
 repeat' (first
  | (simp -implicitDefEqProofs only [*,List.cons_append,List.nil_append,frB,List.length_map,zr,Nat.reduceAdd,Nat.reduceSub,Nat.reduceMul,Nat.reduceLT,Nat.reduceLeDiff,Nat.reduceEqDiff,Nat.reduceBEq,reduceIte,reduceCtorEq,Int.reduceLE,Int.reduceLT,Int.reduceToNat,Int.reduceEq,Int.reduceNe])
  | ((first|apply zk0|apply zk1|apply zk2|apply zk3|apply zk4|apply zk5|apply zk6|apply zk7|apply zk8|apply zk9) <;> intro hc)
  |(refine callP0 rfl ?_)
  |(refine callD0 rfl ?_)
  | fail)
 refine ax_loopU (S := Nat × Int × Mg × Rc × Int × Nat × Nat × Nat) 64 [0,6] [] (fun s => [(1,.f (.int .i64 s.2.1))]) (fun s => [(6,1,AObj.cells ((fMg s.2.2.1).map .f)),(100001,v1,AObj.cells [.sl 100002 s.2.2.2.2.2.1 2 0 s.2.2.2.1.1.length,.sl 100101 s.2.2.2.2.2.2.1 3 0 s.2.2.2.1.2.length,.f (.str t),.f (.fr 1 (b.map encU)),.f (.int .i64 most),.f (.int .i64 s.2.2.2.2.1)]),(100002,s.2.2.2.2.2.1,AObj.cells ((rowF fOb s.2.2.2.1.1).map .f)),(100101,s.2.2.2.2.2.2.1,AObj.cells (rowA (aY false s.2.2.2.2.2.2.2) t s.2.2.2.1.2)),(100102,s.2.2.2.2.2.2.2,AObj.cells (frY (yOf t s.2.2.2.1.2)))]) (fun s => OnAt t b most B R s.1 s.2.1 s.2.2.1 s.2.2.2.1 s.2.2.2.2.1) (fun s => s.1) ((b.length + 2,left,(1,t,0,(b.length : Int),[]),(D,P),sent,v2,v3,v4)) [] ?_ ?_ fun s hs => ?_
 ·exact hinit.out
 ·refine wk_i ?_ ?_ <;> simp only [zw,Nat.reduceEqDiff,Nat.reduceBEq,Nat.reduceLT,Nat.reduceLeDiff,reduceIte,reduceCtorEq]
  refine ⟨⟨by rw [so_ff];exact .inl rfl,by rw [so_ff];exact .inl rfl,by rw [so_ff];exact .inl rfl,by rw [so_ff];exact .inl rfl,by show SlotOk _ _ [] (.f .nil) (.f (.fr 1 []));rw [so_ff];exact .inr ⟨rfl,1,rfl⟩,rfl⟩,so_rowA (fun n => by show SlotOk _ _ [] (.sl 100102 v4 1 0 n) (.sl 100102 v4 1 0 n);rw [so_ss];exact ⟨rfl,rfl,rfl,rfl,rfl,rfl,by simp,rfl,rfl⟩) P,so_frYs⟩
 obtain ⟨k,lf,m,⟨E,Q⟩,se,w2,w3,w4⟩ := s
 obtain ⟨heq,hsok,hme,hkb,hlo,hse⟩ := hs
 dsimp only at heq hsok hme hkb hlo hse ⊢
 refine srun_sound 300 _ _ _ _ ?_
 clear hinit hR hB hok
 obtain ⟨k,rfl⟩ : ∃ k',k = k' + 1 := ⟨k - 1,by omega⟩
 have hstep := fun h0 h3 => s_step hsok hd hb hm h0 h3
 obtain ⟨mk,fr,sz,bs,rfl,hbs⟩ := s_shape hsok hm.2
 have hw1 : IntKind.i64.wrap (se + (bs.length : Int)) = se + (bs.length : Int) := by rw [wrap64] <;> omega
 have hw2 : IntKind.i64.wrap (lf - 1) = lf - 1 := by rw [wrap64] <;> omega
 have ht := take_c E Q (mk,t,fr,sz,bs) false v1 w2 w3 w4 (sZs t b most (se + bs.length)) hsok.ok (fun h => by cases h) (by dsimp only;omega)
 unfold onceV at heq
 dsimp only at heq ht hstep hse
 dsimp only [fMg,List.map,frB]
 generalize hV : takeV E Q (mk,t,fr,sz,bs) = V at *
 replace hsok := hide hsok
 replace hstep := hide hstep
 by_cases hl0 : lf = 0
 ·rw [if_pos hl0] at heq
  have d1 := dcT hl0
  replace hl0 := hide hl0
  repeat' (first
   | (simp -implicitDefEqProofs only [*,List.length_map,zr,Nat.reduceAdd,Nat.reduceSub,Nat.reduceMul,Nat.reduceLT,Nat.reduceLeDiff,Nat.reduceEqDiff,Nat.reduceBEq,reduceIte,reduceCtorEq,Int.reduceLE,Int.reduceLT,Int.reduceToNat,Int.reduceEq,Int.reduceNe])
   | ((first|apply zk0|apply zk1|apply zk2|apply zk3|apply zk4|apply zk5|apply zk6|apply zk7|apply zk8|apply zk9) <;> intro hc)
   |(refine callP0 rfl ?_)
   |(refine callD0 rfl ?_)
   | fail)
  exact sq_end heq.symm (small_upd rfl (small_mk rfl)) rfl rfl rfl rfl rfl
 rw [if_neg hl0] at heq
 have d1 := dcF hl0
 replace hl0 := hide hl0
 repeat' (first
  | (simp -implicitDefEqProofs only [*,List.length_map,zr,Nat.reduceAdd,Nat.reduceSub,Nat.reduceMul,Nat.reduceLT,Nat.reduceLeDiff,Nat.reduceEqDiff,Nat.reduceBEq,reduceIte,reduceCtorEq,Int.reduceLE,Int.reduceLT,Int.reduceToNat,Int.reduceEq,Int.reduceNe])
  | ((first|apply zk0|apply zk1|apply zk2|apply zk3|apply zk4|apply zk5|apply zk6|apply zk7|apply zk8|apply zk9) <;> intro hc)
  |(refine callP0 rfl ?_)
  |(refine callD0 rfl ?_)
  | fail)
 refine callD5 (r0 := .tup [.agg ((fAn V.2.2).map .f),.f (.int .i64 V.1)]) (hl2 := hiR V.2.1.1 V.2.1.2 t false v1 (w2 + 3) (w3 + 3) (w4 + 3) (sZs t b most (se + bs.length))) ht rfl rfl rfl rfl rfl rfl rfl rfl rfl rfl rfl hi5_R hi5_R rfl rfl ?_
 obtain ⟨q,⟨E2,Q2⟩,a1,a2,a3,a4,a5⟩ := V
 dsimp only at heq
 dsimp only [hiR,sZs,fAn,List.map,List.cons_append,List.nil_append,frB]
 have i2 : isHi 100002 = true := rfl
 have i3 : isHi 100101 = true := rfl
 have i4 : isHi 100102 = true := rfl
 have i6 : isHi 6 = false := rfl
 have i7 : isHi 7 = false := rfl
 have i1 : isHi 100001 = true := rfl
 clear ht
 by_cases hq : q = 0
 case neg =>
  rw [if_pos (.inl hq)] at heq
  have d2 := dcF hq
  replace hq := hide hq
  repeat' (first
   | (simp -implicitDefEqProofs only [*,mixH5_at,addFp_wr,W5,zr,Nat.reduceAdd,Nat.reduceSub,Nat.reduceMul,Nat.reduceLT,Nat.reduceLeDiff,Nat.reduceEqDiff,Nat.reduceBEq,reduceIte,reduceCtorEq,Int.reduceLE,Int.reduceLT,Int.reduceToNat,Int.reduceEq,Int.reduceNe])
   | ((first|apply zk0|apply zk1|apply zk2|apply zk3|apply zk4|apply zk5|apply zk6|apply zk7|apply zk8|apply zk9) <;> intro hc)
   |(refine callP0 rfl ?_)
   |(refine callD0 rfl ?_)
   | fail)
  exact sq_end heq.symm (small_upd rfl (small_upd rfl (small_mix5 (small_upd rfl (small_mk rfl)) (small_mk rfl)))) rfl rfl rfl rfl rfl
 have d2 := dcT hq
 by_cases h3 : a1 = 3
 case neg =>
  rw [if_pos (.inr h3)] at heq
  have d3 := dcF h3
  replace h3 := hide h3
  subst hq
  repeat' (first
   | (simp -implicitDefEqProofs only [*,mixH5_at,addFp_wr,W5,zr,Nat.reduceAdd,Nat.reduceSub,Nat.reduceMul,Nat.reduceLT,Nat.reduceLeDiff,Nat.reduceEqDiff,Nat.reduceBEq,reduceIte,reduceCtorEq,Int.reduceLE,Int.reduceLT,Int.reduceToNat,Int.reduceEq,Int.reduceNe])
   | ((first|apply zk0|apply zk1|apply zk2|apply zk3|apply zk4|apply zk5|apply zk6|apply zk7|apply zk8|apply zk9) <;> intro hc)
   |(refine callP0 rfl ?_)
   |(refine callD0 rfl ?_)
   | fail)
  exact sq_end heq.symm (small_upd rfl (small_upd rfl (small_mix5 (small_upd rfl (small_mk rfl)) (small_mk rfl)))) rfl rfl rfl rfl rfl
 rw [if_neg (by intro h;rcases h with h | h;exact h hq;exact h h3)] at heq
 obtain ⟨n,k1,k2,k3,k4⟩ := hstep.out hq h3
 subst hq h3
 dsimp only at k1 k3
 subst k1
 rw [Int.toNat_natCast] at heq
 have kd := dataFrom_f t b n most (by omega) hm.2 hb
 dsimp only [fMg,dMsg,List.map,frB] at kd
 repeat' (first
  | (simp -implicitDefEqProofs only [*,mixH5_at,addFp_wr,W5,zr,Nat.reduceAdd,Nat.reduceSub,Nat.reduceMul,Nat.reduceLT,Nat.reduceLeDiff,Nat.reduceEqDiff,Nat.reduceBEq,reduceIte,reduceCtorEq,Int.reduceLE,Int.reduceLT,Int.reduceToNat,Int.reduceEq,Int.reduceNe])
  | ((first|apply zk0|apply zk1|apply zk2|apply zk3|apply zk4|apply zk5|apply zk6|apply zk7|apply zk8|apply zk9) <;> intro hc)
  |(refine callP0 rfl ?_)
  |(refine callD0 rfl ?_)
  |(refine cP (kd) ?_)
  |(refine cD (kd) ?_)
  |(refine cF (kd) ?_)
  | fail)
 have hme2 : meas b (dMsg t b n most) = b.length - n := by
  unfold meas dMsg
  rw [if_neg (show (2 : Int) ≠ 1 by decide)]
  show b.length - ((n : Int)).toNat = _
  rw [Int.toNat_natCast]
 refine ⟨(k,lf - 1,dMsg t b n most,(E2,Q2),se + bs.length,w2 + 3,w3 + 3,w4 + 3),⟨heq,s_next k2 k3,by dsimp only;omega,by dsimp only;omega,by dsimp only;have := hl0.out;omega,by dsimp only;omega⟩,Nat.lt_succ_self k,?_⟩
 dsimp only [dMsg,fMg,List.map]
 refine wk_i (h2 := small_upd rfl (small_upd rfl (small_upd rfl (small_mix5 (small_upd rfl (small_mk rfl)) (small_mk rfl))))) ?_ ?_ <;> simp only [mixH5_at,i1,i2,i3,i4,i6,i7,zw,Nat.reduceEqDiff,Nat.reduceBEq,Nat.reduceLT,Nat.reduceLeDiff,reduceIte,reduceCtorEq]
 exact ⟨so_rowA (fun n => by show SlotOk _ _ [] (.sl 100102 (w4 + 3) 1 0 n) (.sl 100102 (w4 + 3) 1 0 n);rw [so_ss];exact ⟨rfl,rfl,rfl,rfl,rfl,rfl,by simp,rfl,rfl⟩) Q2,so_frYs⟩
end Go.Proofs.YtjacnfjlocajoaaDoor
