/-
  What has & between, and sums, where nothing is wrong. No statement of the seat is proved here; no conditions.
-/
import Derived.Test.YtagkdifaldikgaaGreatDoorQdE
namespace Go.Proofs.YtagkdifaldikgaaGreatDoor
open Go.RowKit Go.Shelf
set_option linter.unusedVariables false
set_option linter.unusedSimpArgs false
set_option maxRecDepth 100000
section
variable {P : Program} {R : Env → Heap → Prop} {Λ : Lams} {k : List It} {env : Env} {H : Heap} {d j : Nat} {f : Operand} {args : List Operand} {g : Option (Nat × Bool)} {dos : List DO} {acc : List Fp} {od : List Nat} {fid : FuncId} {ri rs : List RS} {tl : List AV} {pcs pcs' : List RC}
theorem gDq (hF : FRetP P fid pcs ri tl pcs' rs) (id ver : Nat) (cs l tl0 : List AV)
  (h : srun P R 300 Λ (.dops dos (j + 1) (addFp j [] (id :: ((idsC cs ++ idsS l) ++ wrL d (nextSs (nextCs 0 pcs') rs))) acc) :: k) (putE env (some d) (oneOrTup (putS d (nextCs 0 pcs') rs))) (upd (putHs d (nextCs 0 pcs') rs (putHcs d 0 pcs' (killL (idsC cs ++ idsS l) H))) id (ver,some (.cells (putCs d 0 pcs'))))) (hg : gd g env = some true := by rfl) (hfn : evA env f = .f (.fn (.func fid)) := by rfl) (ha : args.map (evA env) = .ptr id ver 0 :: (l ++ tl0) := by rfl) (hc : cellsOf ver (H id) = some cs := by rfl)
  (hpc : RcsOk H pcs cs := by (repeat (first|exact rfl | exact trivial | refine And.intro rfl ?_ | refine And.intro (Or.inr ⟨_,_,rfl,rfl,(by first | exact Nat.le_refl _ | exact row_le (fun _ => rfl) | exact row_le2 (fun _ => rfl))⟩) ?_));first | done | fail) (hri : RsOk H ri l := by (repeat (first|exact rfl | exact trivial | refine And.intro rfl ?_ | refine And.intro (Or.inr ⟨_,_,rfl,rfl,(by first | exact Nat.le_refl _ | exact row_le (fun _ => rfl) | exact row_le2 (fun _ => rfl))⟩) ?_));first | done | fail) (hnd : (idsC cs ++ idsS l).Nodup := by simp [idsC,idsS]) (hni : id ∉ idsC cs ++ idsS l := by simp [idsC,idsS]) (htl : LeL tl0 tl := by first | exact LeL.refl _ | ((repeat (first|exact LeL.refl _ | exact LeA.refl _ | exact LeA.nil _ | refine LeL.cons ?_ ?_ | refine LeA.agg ?_));first | done | fail)) (hp : tl.all AV.pure = true := by rfl) (hfree : Free d H := by first | exact free_0 | exact free_mk rfl | (repeat (first|exact free_0 | exact free_mk rfl | exact free_mk (by first | (simp;done) | fail) | refine free_upd rfl ?_ | refine free_kill ?_));first | done | fail) (hk : noConf acc od [] (id :: ((idsC cs ++ idsS l) ++ wrL d (nextSs (nextCs 0 pcs') rs))) = true := by rfl) : Ax P R Λ (.dops (⟨some d,.call f args,g,od⟩ :: dos) j acc :: k) env H :=
 callDPm hg hF hfn id ver cs l tl0 ha hc hpc hri hnd hni htl hp hfree hk h
end
def rcQ (q : QT) : List RC := (encQ q).map .v
theorem tk_len (l : List UInt8) : (skp l).length ≤ l.length := (List.dropWhile_sublist _).length_le
theorem rst_len (l : List UInt8) : (rst l).length ≤ l.length := by
 have := tk_len l
 unfold rst
 rw [List.length_drop];omega
def PosOk (t : ByteArray) (l : List UInt8) : Prop := l.length ≤ t.size ∧ t.data.toList.drop (t.size - l.length) = l
def posV (t : ByteArray) (l : List UInt8) : Nat := t.size - l.length
theorem pos_drop {t : ByteArray} {a : Nat} (ha : a ≤ t.size) : posV t (t.data.toList.drop a) = a := by
 have h3 : t.data.toList.length = t.size := by simp
 unfold posV
 rw [List.length_drop,h3];omega
theorem PosOk.at {t : ByteArray} {l : List UInt8} (h : PosOk t l) : posV t l ≤ t.size ∧ t.data.toList.drop (posV t l) = l := ⟨Nat.sub_le _ _,h.2⟩
theorem pos_skp {t : ByteArray} {a : Nat} (ha : a ≤ t.size) : posV t (skp (t.data.toList.drop a)) = spN t a := by
 rw [← drop_sp];exact pos_drop (spN_le t a ha)
theorem nx_sign (t : ByteArray) (a : Nat) (s : ByteArray) : nxW t a = s ↔ wrd (t.data.toList.drop a) = s.data.toList := by
 rw [nxW_toB]
 exact ⟨fun h => by rw [← h];rfl,fun h => bytes_ext h⟩
theorem skp_suf (l : List UInt8) : skp l <:+ l := List.dropWhile_suffix _
theorem rst_suf (l : List UInt8) : rst l <:+ l := (List.drop_suffix _ _).trans (skp_suf l)
def SufR (f : Rdr) : Prop := ∀ lv l q l',f lv l = some (q,l') → l' <:+ l
theorem head_suf {k : Int} {l : List UInt8} {x : ByteArray × List UInt8} (h : headW k l = some x) : x.2 <:+ l := by
 unfold headW at h
 split at h
 ·split at h
  ·obtain rfl := Option.some.inj h;exact (rst_suf _).trans (rst_suf _)
  ·cases h
 ·split at h
  ·split at h
   ·obtain rfl := Option.some.inj h;exact (rst_suf _).trans (rst_suf _)
   ·cases h
  ·obtain rfl := Option.some.inj h;exact List.suffix_refl _
theorem tail_suf {f : Rdr} (hf : SufR f) {k : Int} {q : QT} {l : List UInt8} {x : (Int × List QT) × List UInt8} (h : tailW f k q l = some x) : x.2 <:+ l := by
 unfold tailW at h
 split at h
 ·split at h
  ·obtain ⟨y,h1,h2⟩ := Option.bind_eq_some_iff.1 h
   obtain rfl := Option.some.inj h2
   exact (hf _ _ _ _ h1).trans (rst_suf _)
  ·cases h
 ·split at h
  ·split at h
   ·split at h
    ·obtain rfl := Option.some.inj h;exact (rst_suf _).trans (rst_suf _)
    ·cases h
   ·obtain rfl := Option.some.inj h;exact skp_suf _
  ·obtain rfl := Option.some.inj h;exact List.suffix_refl _
theorem one_suf {f : Rdr} (hf : SufR f) {l : List UInt8} {x : QT × List UInt8} (h : oneW f l = some x) : x.2 <:+ l := by
 unfold oneW at h
 split at h
 ·obtain ⟨y,h1,h2⟩ := Option.bind_eq_some_iff.1 h
  split at h2
  ·obtain rfl := Option.some.inj h2
   exact (rst_suf _).trans ((hf _ _ _ _ h1).trans (rst_suf _))
  ·cases h2
 split at h
 ·split at h
  ·obtain rfl := Option.some.inj h;exact rst_suf _
  ·cases h
 split at h
 ·obtain rfl := Option.some.inj h;exact rst_suf _
 split at h
 ·obtain ⟨y,h1,h2⟩ := Option.bind_eq_some_iff.1 h
  obtain ⟨z,h3,h4⟩ := Option.bind_eq_some_iff.1 h2
  obtain ⟨u,h5,h6⟩ := Option.bind_eq_some_iff.1 h4
  split at h6
  ·obtain rfl := Option.some.inj h6
   exact (rst_suf _).trans ((tail_suf hf h5).trans ((hf _ _ _ _ h3).trans ((head_suf h1).trans ((rst_suf _).trans (rst_suf _)))))
  ·cases h6
 ·cases h
theorem step_suf {f : Rdr} (hf : SufR f) : SufR (stepW f) := fun lv l q l' h => by
 cases lv with
 | one => exact one_suf hf h
 | both =>
  obtain ⟨y,h1,h2⟩ := Option.bind_eq_some_iff.1 h
  exact (hf _ _ _ _ h2).trans (hf _ _ _ _ h1)
 | sum =>
  obtain ⟨y,h1,h2⟩ := Option.bind_eq_some_iff.1 h
  exact (hf _ _ _ _ h2).trans (hf _ _ _ _ h1)
 | bothL q0 =>
  simp only [stepW] at h
  split at h
  ·obtain ⟨y,h1,h2⟩ := Option.bind_eq_some_iff.1 h
   exact (hf _ _ _ _ h2).trans ((hf _ _ _ _ h1).trans (rst_suf _))
  ·obtain ⟨rfl,rfl⟩ := Prod.mk.inj (Option.some.inj h);exact skp_suf _
 | sumL q0 =>
  simp only [stepW] at h
  split at h
  ·obtain ⟨y,h1,h2⟩ := Option.bind_eq_some_iff.1 h
   exact (hf _ _ _ _ h2).trans ((hf _ _ _ _ h1).trans (rst_suf _))
  ·split at h
   ·obtain ⟨y,h1,h2⟩ := Option.bind_eq_some_iff.1 h
    exact (hf _ _ _ _ h2).trans ((hf _ _ _ _ h1).trans (rst_suf _))
   ·obtain ⟨rfl,rfl⟩ := Prod.mk.inj (Option.some.inj h);exact skp_suf _
theorem pq_suf : ∀ n,SufR (pq n)
 | 0 => fun _ _ _ _ h => by cases h
 | n + 1 => step_suf (pq_suf n)
theorem suf_at {t : ByteArray} {a : Nat} {l : List UInt8} (ha : a ≤ t.size) (h : l <:+ t.data.toList.drop a) : ∃ b,b ≤ t.size ∧ a ≤ b ∧ l = t.data.toList.drop b := by
 obtain ⟨p,hp⟩ := h
 have h3 : t.data.toList.length = t.size := by simp
 have h4 := congrArg List.length hp
 rw [List.length_append,List.length_drop,h3] at h4
 refine ⟨a + p.length,by omega,by omega,?_⟩
 rw [← List.drop_drop,← hp,List.drop_left]
def RdF (t : ByteArray) (n : Nat) (lv : Lv) (f : FuncId) : Prop := ∀ a ≤ t.size,∀ b ≤ t.size,∀ Q,pq n lv (t.data.toList.drop a) = some (Q,t.data.toList.drop b) → FRetP Tryz.prog f (RD t a) [] [] (RD t b) [.agg (rcQ Q)]
structure RdC (t : ByteArray) (n : Nat) : Prop where
 one : RdF t n .one 41
 both : RdF t n .both 27
 sum : RdF t n .sum 19
theorem drop_inj {t : ByteArray} {a b : Nat} (ha : a ≤ t.size) (hb : b ≤ t.size) (h : t.data.toList.drop a = t.data.toList.drop b) : a = b := by
 have := pos_drop ha
 rw [h,pos_drop hb] at this
 exact this.symm
def qK : QT → Int
 | .mk k _ _ _ => k
def qT : QT → ByteArray
 | .mk _ t _ _ => t
def qN : QT → Int
 | .mk _ _ n _ => n
def qP : QT → List (List FV)
 | .mk _ _ _ ps => encQs ps
theorem rcQ_eq (q : QT) : rcQ q = [.v (.int .i64 (qK q)),.v (.str (qT q)),.v (.int .i64 (qN q)),.v (.fr 4 (qP q))] := by
 obtain ⟨k,t,n,ps⟩ := q;rfl
theorem encQ_eq (q : QT) : encQ q = [.int .i64 (qK q),.str (qT q),.int .i64 (qN q),.fr 4 (qP q)] := by
 obtain ⟨k,t,n,ps⟩ := q;rfl
theorem mkK {k : Int} {t : ByteArray} {n : Int} {ps : List QT} : qK (.mk k t n ps) = k := rfl
theorem mkT {k : Int} {t : ByteArray} {n : Int} {ps : List QT} : qT (.mk k t n ps) = t := rfl
theorem mkN {k : Int} {t : ByteArray} {n : Int} {ps : List QT} : qN (.mk k t n ps) = n := rfl
theorem mkP2 {k : Int} {t : ByteArray} {n : Int} {a b : QT} : qP (.mk k t n [a,b]) = [[.int .i64 (qK a),.str (qT a),.int .i64 (qN a),.fr 4 (qP a)],[.int .i64 (qK b),.str (qT b),.int .i64 (qN b),.fr 4 (qP b)]] := by
 show [encQ a,encQ b] = _
 rw [encQ_eq,encQ_eq]
theorem mkP1 {k : Int} {t : ByteArray} {n : Int} {a : QT} : qP (.mk k t n [a]) = [[.int .i64 (qK a),.str (qT a),.int .i64 (qN a),.fr 4 (qP a)]] := by
 show [encQ a] = _
 rw [encQ_eq]
theorem so_q2 {H H' : Heap} {id ver : Nat} {a b : QT} (hd : (H' id).2 = none) (hc : cellsOf ver (H id) = some [.f (.int .i64 (qK a)),.f (.str (qT a)),.f (.int .i64 (qN a)),.f (.fr 4 (qP a)),.f (.int .i64 (qK b)),.f (.str (qT b)),.f (.int .i64 (qN b)),.f (.fr 4 (qP b))]) :
  SlotOk H H' [] (.sl id ver 4 0 2) (.f (.fr 4 [[.int .i64 (qK a),.str (qT a),.int .i64 (qN a),.fr 4 (qP a)],[.int .i64 (qK b),.str (qT b),.int .i64 (qN b),.fr 4 (qP b)]])) :=
 so_sl (cs := [.int .i64 (qK a),.str (qT a),.int .i64 (qN a),.fr 4 (qP a),.int .i64 (qK b),.str (qT b),.int .i64 (qN b),.fr 4 (qP b)]) hd hc rfl (fun x hx => by
  simp only [List.mem_cons,List.not_mem_nil,or_false] at hx
  rcases hx with rfl | rfl <;> rfl) rfl
set_option maxHeartbeats 4000000 in
theorem both_ok (t : ByteArray) (ht : (t.size : Int) ≤ 140737488355328) (n : Nat) (ih : ∀ m ≤ n,RdC t m) : RdF t (n + 1) .both 27 := by
 intro a ha b hb Q h
 obtain ⟨⟨q0,l0⟩,h1,h2⟩ := Option.bind_eq_some_iff.1 (show (pq n .one (t.data.toList.drop a)).bind _ = some (Q,_) from h)
 obtain ⟨a0,ha0,_,rfl⟩ := suf_at ha (pq_suf n _ _ _ _ h1)
 have k0 := (ih n (Nat.le_refl n)).one a ha a0 ha0 q0 h1
 simp only at h2
 clear h h1
 replace ih := hide ih
 rw [rcQ_eq] at k0 ⊢
 unfold RD at k0 ⊢
 replace k0 := hide k0
 refine FCall.of_ax low_graph_reader_both ?_
 dsimp only [l_graph_reader_both]
 refine srun_sound 300 _ _ _ _ ?_
 repeat' (first
  | (simp -implicitDefEqProofs only [*,addFp_wr,zr,Nat.reduceAdd,Nat.reduceSub,Nat.reduceMul,Nat.reduceLT,Nat.reduceLeDiff,Nat.reduceEqDiff,Nat.reduceBEq,reduceIte,reduceCtorEq,Int.reduceLE,Int.reduceLT,Int.reduceToNat,Int.reduceEq,Int.reduceNe])
  | ((first|apply zk0|apply zk1|apply zk2|apply zk3|apply zk4|apply zk5|apply zk6|apply zk7|apply zk8|apply zk9) <;> intro hc)
  |(refine callP0 rfl ?_)
  |(refine callD0 rfl ?_)
  | fail)
 refine gP k0.out 100001 1 [.f (.str t),.f (.int .i64 a)] [] [] ?_
 repeat' (first
  | (simp -implicitDefEqProofs only [*,addFp_wr,zr,Nat.reduceAdd,Nat.reduceSub,Nat.reduceMul,Nat.reduceLT,Nat.reduceLeDiff,Nat.reduceEqDiff,Nat.reduceBEq,reduceIte,reduceCtorEq,Int.reduceLE,Int.reduceLT,Int.reduceToNat,Int.reduceEq,Int.reduceNe])
  | ((first|apply zk0|apply zk1|apply zk2|apply zk3|apply zk4|apply zk5|apply zk6|apply zk7|apply zk8|apply zk9) <;> intro hc)
  |(refine callP0 rfl ?_)
  |(refine callD0 rfl ?_)
  | fail)
 refine ax_loopU (S := Nat × QT × Nat) 14 [0,2,3] [2] (fun s => []) (fun s => [(100001,1,AObj.cells [.f (.str t),.f (.int .i64 s.2.2)]),(3,1,AObj.cells [.f (.int .i64 (qK s.2.1)),.f (.str (qT s.2.1)),.f (.int .i64 (qN s.2.1)),.f (.fr 4 (qP s.2.1))])]) (fun s => s.1 ≤ n ∧ s.2.2 ≤ t.size ∧ pq s.1 (.bothL s.2.1) (t.data.toList.drop s.2.2) = some (Q,t.data.toList.drop b)) (fun s => s.1) ((n,q0,a0)) [] ?_ ?_ fun s hs => ?_
 ·exact ⟨Nat.le_refl n,ha0,h2⟩
 ·refine wk_i ?_ ?_ <;> simp only [zw,Nat.reduceEqDiff,Nat.reduceBEq,Nat.reduceLT,Nat.reduceLeDiff,reduceIte,reduceCtorEq]
 obtain ⟨m,q,c⟩ := s
 obtain ⟨hm,hc,hq⟩ := hs
 dsimp only at hm hc hq ⊢
 cases m with
 | zero => cases hq
 | succ m =>
  have kT := take_f t ⟨#[38]⟩ c hc ht
  have hsg := nx_sign t c ⟨#[38]⟩
  have hq' : (if wrd (t.data.toList.drop c) = [38] then (pq m .one (rst (t.data.toList.drop c))).bind fun x => pq m (.bothL (.mk 10 nil0 0 [q,x.1])) x.2 else some (q,skp (t.data.toList.drop c))) = some (Q,t.data.toList.drop b) := hq
  clear hq
  by_cases hw : wrd (t.data.toList.drop c) = [38]
  ·rw [if_pos hw] at hq'
   have hn := hsg.2 hw
   rw [if_pos hn,decide_eq_true hn] at kT
   obtain ⟨⟨q2,l2⟩,h3,h4⟩ := Option.bind_eq_some_iff.1 hq'
   rw [← drop_nx] at h3
   have hp := (nxP_le t c hc).2
   obtain ⟨c2,hc2,_,rfl⟩ := suf_at hp (pq_suf m _ _ _ _ h3)
   have k2 := (ih.out m (by omega)).one _ hp c2 hc2 q2 h3
   simp only at h4
   rw [rcQ_eq] at k2
   unfold RD at k2 kT
   generalize nxP t c = c1 at *
   clear hw hn hsg hq' h3
   replace h4 := hide h4
   replace k2 := hide k2
   replace kT := hide kT
   refine srun_sound 300 _ _ _ _ ?_
   repeat' (first
    | (simp -implicitDefEqProofs only [*,addFp_wr,zr,Nat.reduceAdd,Nat.reduceSub,Nat.reduceMul,Nat.reduceLT,Nat.reduceLeDiff,Nat.reduceEqDiff,Nat.reduceBEq,reduceIte,reduceCtorEq,Int.reduceLE,Int.reduceLT,Int.reduceToNat,Int.reduceEq,Int.reduceNe])
    | ((first|apply zk0|apply zk1|apply zk2|apply zk3|apply zk4|apply zk5|apply zk6|apply zk7|apply zk8|apply zk9) <;> intro hc)
    |(refine callP0 rfl ?_)
    |(refine callD0 rfl ?_)
    | fail)
   refine gP kT.out 100001 1 [.f (.str t),.f (.int .i64 c)] [] [.f (.str ⟨#[38]⟩)] ?_
   repeat' (first
    | (simp -implicitDefEqProofs only [*,addFp_wr,zr,Nat.reduceAdd,Nat.reduceSub,Nat.reduceMul,Nat.reduceLT,Nat.reduceLeDiff,Nat.reduceEqDiff,Nat.reduceBEq,reduceIte,reduceCtorEq,Int.reduceLE,Int.reduceLT,Int.reduceToNat,Int.reduceEq,Int.reduceNe])
    | ((first|apply zk0|apply zk1|apply zk2|apply zk3|apply zk4|apply zk5|apply zk6|apply zk7|apply zk8|apply zk9) <;> intro hc)
    |(refine callP0 rfl ?_)
    |(refine callD0 rfl ?_)
    | fail)
   refine gDq k2.out 100001 1 [.f (.str t),.f (.int .i64 c1)] [] [] ?_
   repeat' (first
    | (simp -implicitDefEqProofs only [*,addFp_wr,zr,Nat.reduceAdd,Nat.reduceSub,Nat.reduceMul,Nat.reduceLT,Nat.reduceLeDiff,Nat.reduceEqDiff,Nat.reduceBEq,reduceIte,reduceCtorEq,Int.reduceLE,Int.reduceLT,Int.reduceToNat,Int.reduceEq,Int.reduceNe])
    | ((first|apply zk0|apply zk1|apply zk2|apply zk3|apply zk4|apply zk5|apply zk6|apply zk7|apply zk8|apply zk9) <;> intro hc)
    |(refine callP0 rfl ?_)
    |(refine callD0 rfl ?_)
    | fail)
   refine ⟨(m,.mk 10 nil0 0 [q,q2],c2),⟨by omega,hc2,h4.out⟩,Nat.lt_succ_self m,?_⟩
   simp only [mkK,mkT,mkN,mkP2,nil0]
   refine wk_i ?_ ?_ <;> simp only [so_ff',cellsOf_some,zw,Nat.reduceEqDiff,Nat.reduceBEq,Nat.reduceLT,Nat.reduceLeDiff,reduceIte,reduceCtorEq]
   exact so_q2 rfl rfl
  ·rw [if_neg hw] at hq'
   have hn : ¬ nxW t c = ⟨#[38]⟩ := fun e => hw (hsg.1 e)
   rw [if_neg hn,decide_eq_false hn] at kT
   obtain ⟨rfl,e⟩ := Prod.mk.inj (Option.some.inj hq')
   rw [← drop_sp] at e
   obtain rfl := drop_inj (spN_le t c hc) hb e
   unfold RD at kT
   clear hw hn hsg hq' e
   generalize spN t c = b at *
   replace kT := hide kT
   refine srun_sound 300 _ _ _ _ ?_
   repeat' (first
    | (simp -implicitDefEqProofs only [*,addFp_wr,zr,Nat.reduceAdd,Nat.reduceSub,Nat.reduceMul,Nat.reduceLT,Nat.reduceLeDiff,Nat.reduceEqDiff,Nat.reduceBEq,reduceIte,reduceCtorEq,Int.reduceLE,Int.reduceLT,Int.reduceToNat,Int.reduceEq,Int.reduceNe])
    | ((first|apply zk0|apply zk1|apply zk2|apply zk3|apply zk4|apply zk5|apply zk6|apply zk7|apply zk8|apply zk9) <;> intro hc)
    |(refine callP0 rfl ?_)
    |(refine callD0 rfl ?_)
    | fail)
   refine gP kT.out 100001 1 [.f (.str t),.f (.int .i64 c)] [] [.f (.str ⟨#[38]⟩)] ?_
   repeat' (first
    | (simp -implicitDefEqProofs only [*,addFp_wr,zr,Nat.reduceAdd,Nat.reduceSub,Nat.reduceMul,Nat.reduceLT,Nat.reduceLeDiff,Nat.reduceEqDiff,Nat.reduceBEq,reduceIte,reduceCtorEq,Int.reduceLE,Int.reduceLT,Int.reduceToNat,Int.reduceEq,Int.reduceNe])
    | ((first|apply zk0|apply zk1|apply zk2|apply zk3|apply zk4|apply zk5|apply zk6|apply zk7|apply zk8|apply zk9) <;> intro hc)
    |(refine callP0 rfl ?_)
    |(refine callD0 rfl ?_)
    | fail)
   exact ⟨[.agg [.f _,.f _,.f _,.f _]],[.f (.str t),.f (.int .i64 b)],rfl,rfl,⟨rfl,rfl,rfl⟩,⟨⟨rfl,rfl,rfl,rfl,rfl⟩,rfl⟩,by simp [idsC,idsS],by simp [idsC,idsS]⟩
theorem spN_sp (t : ByteArray) (a : Nat) (ha : a ≤ t.size) : spN t (spN t a) = spN t a := by
 have h := pos_skp (spN_le t a ha)
 rw [drop_sp,skp_skp,pos_skp ha] at h
 exact h.symm
theorem nxW_sp (t : ByteArray) (a : Nat) : nxW t (spN t a) = nxW t a := by
 rw [nxW_toB,nxW_toB,drop_sp,wrd_skp]
set_option maxHeartbeats 8000000 in
theorem sum_ok (t : ByteArray) (ht : (t.size : Int) ≤ 140737488355328) (n : Nat) (ih : ∀ m ≤ n,RdC t m) : RdF t (n + 1) .sum 19 := by
 intro a ha b hb Q h
 obtain ⟨⟨q0,l0⟩,h1,h2⟩ := Option.bind_eq_some_iff.1 (show (pq n .both (t.data.toList.drop a)).bind _ = some (Q,_) from h)
 obtain ⟨a0,ha0,_,rfl⟩ := suf_at ha (pq_suf n _ _ _ _ h1)
 have k0 := (ih n (Nat.le_refl n)).both a ha a0 ha0 q0 h1
 simp only at h2
 clear h h1
 replace ih := hide ih
 rw [rcQ_eq] at k0 ⊢
 unfold RD at k0 ⊢
 replace k0 := hide k0
 refine FCall.of_ax low_graph_reader_sum ?_
 dsimp only [l_graph_reader_sum]
 refine srun_sound 300 _ _ _ _ ?_
 repeat' (first
  | (simp -implicitDefEqProofs only [*,addFp_wr,zr,Nat.reduceAdd,Nat.reduceSub,Nat.reduceMul,Nat.reduceLT,Nat.reduceLeDiff,Nat.reduceEqDiff,Nat.reduceBEq,reduceIte,reduceCtorEq,Int.reduceLE,Int.reduceLT,Int.reduceToNat,Int.reduceEq,Int.reduceNe])
  | ((first|apply zk0|apply zk1|apply zk2|apply zk3|apply zk4|apply zk5|apply zk6|apply zk7|apply zk8|apply zk9) <;> intro hc)
  |(refine callP0 rfl ?_)
  |(refine callD0 rfl ?_)
  | fail)
 refine gP k0.out 100001 1 [.f (.str t),.f (.int .i64 a)] [] [] ?_
 repeat' (first
  | (simp -implicitDefEqProofs only [*,addFp_wr,zr,Nat.reduceAdd,Nat.reduceSub,Nat.reduceMul,Nat.reduceLT,Nat.reduceLeDiff,Nat.reduceEqDiff,Nat.reduceBEq,reduceIte,reduceCtorEq,Int.reduceLE,Int.reduceLT,Int.reduceToNat,Int.reduceEq,Int.reduceNe])
  | ((first|apply zk0|apply zk1|apply zk2|apply zk3|apply zk4|apply zk5|apply zk6|apply zk7|apply zk8|apply zk9) <;> intro hc)
  |(refine callP0 rfl ?_)
  |(refine callD0 rfl ?_)
  | fail)
 refine ax_loopU (S := Nat × QT × Nat) 23 [0,2,3] [2] (fun s => []) (fun s => [(100001,1,AObj.cells [.f (.str t),.f (.int .i64 s.2.2)]),(3,1,AObj.cells [.f (.int .i64 (qK s.2.1)),.f (.str (qT s.2.1)),.f (.int .i64 (qN s.2.1)),.f (.fr 4 (qP s.2.1))])]) (fun s => s.1 ≤ n ∧ s.2.2 ≤ t.size ∧ pq s.1 (.sumL s.2.1) (t.data.toList.drop s.2.2) = some (Q,t.data.toList.drop b)) (fun s => s.1) ((n,q0,a0)) [] ?_ ?_ fun s hs => ?_
 ·exact ⟨Nat.le_refl n,ha0,h2⟩
 ·refine wk_i ?_ ?_ <;> simp only [zw,Nat.reduceEqDiff,Nat.reduceBEq,Nat.reduceLT,Nat.reduceLeDiff,reduceIte,reduceCtorEq]
 obtain ⟨m,q,c⟩ := s
 obtain ⟨hm,hc,hq⟩ := hs
 dsimp only at hm hc hq ⊢
 cases m with
 | zero => cases hq
 | succ m =>
  have kT := take_f t ⟨#[43]⟩ c hc ht
  have kT2 := take_f t ⟨#[45]⟩ (spN t c) (spN_le t c hc) ht
  rw [nxW_sp,nxP_sp t c hc,spN_sp t c hc] at kT2
  have hsg := nx_sign t c ⟨#[43]⟩
  have hsg2 := nx_sign t c ⟨#[45]⟩
  have hq' : (if wrd (t.data.toList.drop c) = [43] then (pq m .both (rst (t.data.toList.drop c))).bind fun x => pq m (.sumL (.mk 8 nil0 0 [q,x.1])) x.2 else if wrd (t.data.toList.drop c) = [45] then (pq m .both (rst (t.data.toList.drop c))).bind fun x => pq m (.sumL (.mk 9 nil0 0 [q,x.1])) x.2 else some (q,skp (t.data.toList.drop c))) = some (Q,t.data.toList.drop b) := hq
  clear hq
  by_cases hw : wrd (t.data.toList.drop c) = [43]
  ·rw [if_pos hw] at hq'
   have hn := hsg.2 hw
   rw [if_pos hn,decide_eq_true hn] at kT
   obtain ⟨⟨q2,l2⟩,h3,h4⟩ := Option.bind_eq_some_iff.1 hq'
   rw [← drop_nx] at h3
   have hp := (nxP_le t c hc).2
   obtain ⟨c2,hc2,_,rfl⟩ := suf_at hp (pq_suf m _ _ _ _ h3)
   have k2 := (ih.out m (by omega)).both _ hp c2 hc2 q2 h3
   simp only at h4
   rw [rcQ_eq] at k2
   unfold RD at k2 kT kT2
   generalize nxP t c = c1 at *
   generalize spN t c = c0 at *
   clear hw hn hsg hsg2 hq' h3
   replace h4 := hide h4
   replace k2 := hide k2
   replace kT := hide kT
   replace kT2 := hide kT2
   refine srun_sound 300 _ _ _ _ ?_
   repeat' (first
    | (simp -implicitDefEqProofs only [*,addFp_wr,zr,Nat.reduceAdd,Nat.reduceSub,Nat.reduceMul,Nat.reduceLT,Nat.reduceLeDiff,Nat.reduceEqDiff,Nat.reduceBEq,reduceIte,reduceCtorEq,Int.reduceLE,Int.reduceLT,Int.reduceToNat,Int.reduceEq,Int.reduceNe])
    | ((first|apply zk0|apply zk1|apply zk2|apply zk3|apply zk4|apply zk5|apply zk6|apply zk7|apply zk8|apply zk9) <;> intro hc)
    |(refine callP0 rfl ?_)
    |(refine callD0 rfl ?_)
    | fail)
   refine gP kT.out 100001 1 [.f (.str t),.f (.int .i64 c)] [] [.f (.str ⟨#[43]⟩)] ?_
   repeat' (first
    | (simp -implicitDefEqProofs only [*,addFp_wr,zr,Nat.reduceAdd,Nat.reduceSub,Nat.reduceMul,Nat.reduceLT,Nat.reduceLeDiff,Nat.reduceEqDiff,Nat.reduceBEq,reduceIte,reduceCtorEq,Int.reduceLE,Int.reduceLT,Int.reduceToNat,Int.reduceEq,Int.reduceNe])
    | ((first|apply zk0|apply zk1|apply zk2|apply zk3|apply zk4|apply zk5|apply zk6|apply zk7|apply zk8|apply zk9) <;> intro hc)
    |(refine callP0 rfl ?_)
    |(refine callD0 rfl ?_)
    | fail)
   refine gDq k2.out 100001 1 [.f (.str t),.f (.int .i64 c1)] [] [] ?_
   repeat' (first
    | (simp -implicitDefEqProofs only [*,addFp_wr,zr,Nat.reduceAdd,Nat.reduceSub,Nat.reduceMul,Nat.reduceLT,Nat.reduceLeDiff,Nat.reduceEqDiff,Nat.reduceBEq,reduceIte,reduceCtorEq,Int.reduceLE,Int.reduceLT,Int.reduceToNat,Int.reduceEq,Int.reduceNe])
    | ((first|apply zk0|apply zk1|apply zk2|apply zk3|apply zk4|apply zk5|apply zk6|apply zk7|apply zk8|apply zk9) <;> intro hc)
    |(refine callP0 rfl ?_)
    |(refine callD0 rfl ?_)
    | fail)
   refine ⟨(m,.mk 8 nil0 0 [q,q2],c2),⟨by omega,hc2,h4.out⟩,Nat.lt_succ_self m,?_⟩
   simp only [mkK,mkT,mkN,mkP2,nil0]
   refine wk_i ?_ ?_ <;> simp only [so_ff',cellsOf_some,zw,Nat.reduceEqDiff,Nat.reduceBEq,Nat.reduceLT,Nat.reduceLeDiff,reduceIte,reduceCtorEq]
   exact so_q2 rfl rfl
  rw [if_neg hw] at hq'
  have hn0 : ¬ nxW t c = ⟨#[43]⟩ := fun e => hw (hsg.1 e)
  rw [if_neg hn0,decide_eq_false hn0] at kT
  clear hn0 hw hsg
  by_cases hw : wrd (t.data.toList.drop c) = [45]
  ·rw [if_pos hw] at hq'
   have hn := hsg2.2 hw
   rw [if_pos hn,decide_eq_true hn] at kT2
   obtain ⟨⟨q2,l2⟩,h3,h4⟩ := Option.bind_eq_some_iff.1 hq'
   rw [← drop_nx] at h3
   have hp := (nxP_le t c hc).2
   obtain ⟨c2,hc2,_,rfl⟩ := suf_at hp (pq_suf m _ _ _ _ h3)
   have k2 := (ih.out m (by omega)).both _ hp c2 hc2 q2 h3
   simp only at h4
   rw [rcQ_eq] at k2
   unfold RD at k2 kT kT2
   generalize nxP t c = c1 at *
   generalize spN t c = c0 at *
   clear hw hn hsg2 hq' h3
   replace h4 := hide h4
   replace k2 := hide k2
   replace kT := hide kT
   replace kT2 := hide kT2
   refine srun_sound 300 _ _ _ _ ?_
   repeat' (first
    | (simp -implicitDefEqProofs only [*,addFp_wr,zr,Nat.reduceAdd,Nat.reduceSub,Nat.reduceMul,Nat.reduceLT,Nat.reduceLeDiff,Nat.reduceEqDiff,Nat.reduceBEq,reduceIte,reduceCtorEq,Int.reduceLE,Int.reduceLT,Int.reduceToNat,Int.reduceEq,Int.reduceNe])
    | ((first|apply zk0|apply zk1|apply zk2|apply zk3|apply zk4|apply zk5|apply zk6|apply zk7|apply zk8|apply zk9) <;> intro hc)
    |(refine callP0 rfl ?_)
    |(refine callD0 rfl ?_)
    | fail)
   refine gP kT.out 100001 1 [.f (.str t),.f (.int .i64 c)] [] [.f (.str ⟨#[43]⟩)] ?_
   repeat' (first
    | (simp -implicitDefEqProofs only [*,addFp_wr,zr,Nat.reduceAdd,Nat.reduceSub,Nat.reduceMul,Nat.reduceLT,Nat.reduceLeDiff,Nat.reduceEqDiff,Nat.reduceBEq,reduceIte,reduceCtorEq,Int.reduceLE,Int.reduceLT,Int.reduceToNat,Int.reduceEq,Int.reduceNe])
    | ((first|apply zk0|apply zk1|apply zk2|apply zk3|apply zk4|apply zk5|apply zk6|apply zk7|apply zk8|apply zk9) <;> intro hc)
    |(refine callP0 rfl ?_)
    |(refine callD0 rfl ?_)
    | fail)
   refine gP kT2.out 100001 1 [.f (.str t),.f (.int .i64 c0)] [] [.f (.str ⟨#[45]⟩)] ?_
   repeat' (first
    | (simp -implicitDefEqProofs only [*,addFp_wr,zr,Nat.reduceAdd,Nat.reduceSub,Nat.reduceMul,Nat.reduceLT,Nat.reduceLeDiff,Nat.reduceEqDiff,Nat.reduceBEq,reduceIte,reduceCtorEq,Int.reduceLE,Int.reduceLT,Int.reduceToNat,Int.reduceEq,Int.reduceNe])
    | ((first|apply zk0|apply zk1|apply zk2|apply zk3|apply zk4|apply zk5|apply zk6|apply zk7|apply zk8|apply zk9) <;> intro hc)
    |(refine callP0 rfl ?_)
    |(refine callD0 rfl ?_)
    | fail)
   refine gDq k2.out 100001 1 [.f (.str t),.f (.int .i64 c1)] [] [] ?_
   repeat' (first
    | (simp -implicitDefEqProofs only [*,addFp_wr,zr,Nat.reduceAdd,Nat.reduceSub,Nat.reduceMul,Nat.reduceLT,Nat.reduceLeDiff,Nat.reduceEqDiff,Nat.reduceBEq,reduceIte,reduceCtorEq,Int.reduceLE,Int.reduceLT,Int.reduceToNat,Int.reduceEq,Int.reduceNe])
    | ((first|apply zk0|apply zk1|apply zk2|apply zk3|apply zk4|apply zk5|apply zk6|apply zk7|apply zk8|apply zk9) <;> intro hc)
    |(refine callP0 rfl ?_)
    |(refine callD0 rfl ?_)
    | fail)
   refine ⟨(m,.mk 9 nil0 0 [q,q2],c2),⟨by omega,hc2,h4.out⟩,Nat.lt_succ_self m,?_⟩
   simp only [mkK,mkT,mkN,mkP2,nil0]
   refine wk_i ?_ ?_ <;> simp only [so_ff',cellsOf_some,zw,Nat.reduceEqDiff,Nat.reduceBEq,Nat.reduceLT,Nat.reduceLeDiff,reduceIte,reduceCtorEq]
   exact so_q2 rfl rfl
  ·rw [if_neg hw] at hq'
   have hn : ¬ nxW t c = ⟨#[45]⟩ := fun e => hw (hsg2.1 e)
   rw [if_neg hn,decide_eq_false hn] at kT2
   obtain ⟨rfl,e⟩ := Prod.mk.inj (Option.some.inj hq')
   rw [← drop_sp] at e
   obtain rfl := drop_inj (spN_le t c hc) hb e
   unfold RD at kT kT2
   clear hw hn hsg2 hq' e
   generalize spN t c = b at *
   replace kT := hide kT
   replace kT2 := hide kT2
   refine srun_sound 300 _ _ _ _ ?_
   repeat' (first
    | (simp -implicitDefEqProofs only [*,addFp_wr,zr,Nat.reduceAdd,Nat.reduceSub,Nat.reduceMul,Nat.reduceLT,Nat.reduceLeDiff,Nat.reduceEqDiff,Nat.reduceBEq,reduceIte,reduceCtorEq,Int.reduceLE,Int.reduceLT,Int.reduceToNat,Int.reduceEq,Int.reduceNe])
    | ((first|apply zk0|apply zk1|apply zk2|apply zk3|apply zk4|apply zk5|apply zk6|apply zk7|apply zk8|apply zk9) <;> intro hc)
    |(refine callP0 rfl ?_)
    |(refine callD0 rfl ?_)
    | fail)
   refine gP kT.out 100001 1 [.f (.str t),.f (.int .i64 c)] [] [.f (.str ⟨#[43]⟩)] ?_
   repeat' (first
    | (simp -implicitDefEqProofs only [*,addFp_wr,zr,Nat.reduceAdd,Nat.reduceSub,Nat.reduceMul,Nat.reduceLT,Nat.reduceLeDiff,Nat.reduceEqDiff,Nat.reduceBEq,reduceIte,reduceCtorEq,Int.reduceLE,Int.reduceLT,Int.reduceToNat,Int.reduceEq,Int.reduceNe])
    | ((first|apply zk0|apply zk1|apply zk2|apply zk3|apply zk4|apply zk5|apply zk6|apply zk7|apply zk8|apply zk9) <;> intro hc)
    |(refine callP0 rfl ?_)
    |(refine callD0 rfl ?_)
    | fail)
   refine gP kT2.out 100001 1 [.f (.str t),.f (.int .i64 b)] [] [.f (.str ⟨#[45]⟩)] ?_
   repeat' (first
    | (simp -implicitDefEqProofs only [*,addFp_wr,zr,Nat.reduceAdd,Nat.reduceSub,Nat.reduceMul,Nat.reduceLT,Nat.reduceLeDiff,Nat.reduceEqDiff,Nat.reduceBEq,reduceIte,reduceCtorEq,Int.reduceLE,Int.reduceLT,Int.reduceToNat,Int.reduceEq,Int.reduceNe])
    | ((first|apply zk0|apply zk1|apply zk2|apply zk3|apply zk4|apply zk5|apply zk6|apply zk7|apply zk8|apply zk9) <;> intro hc)
    |(refine callP0 rfl ?_)
    |(refine callD0 rfl ?_)
    | fail)
   exact ⟨[.agg [.f _,.f _,.f _,.f _]],[.f (.str t),.f (.int .i64 b)],rfl,rfl,⟨rfl,rfl,rfl⟩,⟨⟨rfl,rfl,rfl,rfl,rfl⟩,rfl⟩,by simp [idsC,idsS],by simp [idsC,idsS]⟩
end Go.Proofs.YtagkdifaldikgaaGreatDoor
