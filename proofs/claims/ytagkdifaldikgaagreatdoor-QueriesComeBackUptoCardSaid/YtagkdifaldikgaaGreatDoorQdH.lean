/-
  Numbers written and read: strconv.Itoa, strconv.Atoi. No statement of the seat is proved here; no conditions.
-/
import Derived.Test.YtagkdifaldikgaaGreatDoorRun
import Derived.Test.YtagkdifaldikgaaGreatDoorOrd
import Derived.Test.YtagkdifaldikgaaGreatDoorLay
import Derived.Shelf.Strconv.Itoa3
import Derived.Shelf.Strconv.Atoi
import Derived.Lib.AppendIntMem
import Derived.Lib.AtoiErrMem
import Derived.Test.YtagkdifaldikgaaGreatDoorQdG
namespace Go.Proofs.YtagkdifaldikgaaGreatDoor
open Go.RowKit Go.Shelf
set_option linter.unusedVariables false
set_option linter.unusedSimpArgs false
set_option maxRecDepth 100000

theorem fret_callsK {P : Program} {f : FuncId} {args : List AV} {x : FV} (hc : callable P f = true)
  (h : ∀ (G : Ghost) (Z : Nat → Prop) (w : World) (vs : Array Value),Kn P Z w → vs.size = args.length → (∀ (j : Nat) (a : AV) (v : Value),args[j]? = some a → vs[j]? = some v → RepA G Z w a v) → Calls P f vs w fun e w' => ∃ v,e = .returned v ∧ (∀ Z' : Nat → Prop,RepF Z' w' x v) ∧ Below w.heap.size w w') : FRet P f args [.c (.v x)] := by
 refine ⟨hc,fun G Z w vs st hs hrep => ?_⟩
 refine (h G Z w vs st.zlt.kn hs hrep).mono fun e w' ⟨v,he,hv,hb⟩ => ?_
 have nl : ∀ bk,¬ LiveB G bk := fun bk ⟨id,o,hl⟩ => by
  have := st.dead id rfl
  rw [this] at hl;cases hl
 have hz : ∀ bk,Z bk → w'.heap[bk]? = w.heap[bk]? := fun bk hk => hb.block bk (st.zlt bk hk)
 exact ⟨_,.f x,H0,G,Z,he,⟨[_],rfl,⟨rfl,rfl⟩,List.nodup_nil⟩,⟨st.ver,st.dead,fun id o h => (by cases h),st.inj,st.disj,⟨fun bk hk => Nat.lt_of_lt_of_le (st.zlt bk hk) hb.size,st.zlt.kn.mono fun bk hk => ⟨hk,hz bk hk⟩⟩,fun id g o hl => absurd ⟨id,o,hl⟩ (nl g),fun id g o hl => absurd ⟨id,o,hl⟩ (nl g)⟩,
  ⟨hb.os,hb.tape,hb.output,hb.size,fun bk hk _ => hb.block bk hk,fun bk hk => ⟨hk,hz bk hk⟩,fun bk hk => .inl hk,fun bk hl => .inl hl,fun bk arr e fz hl _ => absurd hl (nl bk),fun _ _ => Nat.le_refl _,fun _ _ _ => .inr rfl⟩,.f (hv _)⟩
theorem fret_callsK2 {P : Program} {f : FuncId} {args : List AV} {x y : FV} (hc : callable P f = true)
  (h : ∀ (G : Ghost) (Z : Nat → Prop) (w : World) (vs : Array Value),Kn P Z w → vs.size = args.length → (∀ (j : Nat) (a : AV) (v : Value),args[j]? = some a → vs[j]? = some v → RepA G Z w a v) → Calls P f vs w fun e w' => ∃ u v,e = .returned (.tuple #[u,v]) ∧ (∀ Z' : Nat → Prop,RepF Z' w' x u ∧ RepF Z' w' y v) ∧ Below w.heap.size w w') : FRet P f args [.c (.v x),.c (.v y)] := by
 refine ⟨hc,fun G Z w vs st hs hrep => ?_⟩
 refine (h G Z w vs st.zlt.kn hs hrep).mono fun e w' ⟨u,v,he,hv,hb⟩ => ?_
 have nl : ∀ bk,¬ LiveB G bk := fun bk ⟨id,o,hl⟩ => by
  have := st.dead id rfl
  rw [this] at hl;cases hl
 have hz : ∀ bk,Z bk → w'.heap[bk]? = w.heap[bk]? := fun bk hk => hb.block bk (st.zlt bk hk)
 exact ⟨_,.tup [.f x,.f y],H0,G,Z,he,⟨[_,_],rfl,⟨rfl,rfl,rfl⟩,List.nodup_nil⟩,⟨st.ver,st.dead,fun id o h => (by cases h),st.inj,st.disj,⟨fun bk hk => Nat.lt_of_lt_of_le (st.zlt bk hk) hb.size,st.zlt.kn.mono fun bk hk => ⟨hk,hz bk hk⟩⟩,fun id g o hl => absurd ⟨id,o,hl⟩ (nl g),fun id g o hl => absurd ⟨id,o,hl⟩ (nl g)⟩,
  ⟨hb.os,hb.tape,hb.output,hb.size,fun bk hk _ => hb.block bk hk,fun bk hk => ⟨hk,hz bk hk⟩,fun bk hk => .inl hk,fun bk hl => .inl hl,fun bk arr e fz hl _ => absurd hl (nl bk),fun _ _ => Nat.le_refl _,fun _ _ _ => .inr rfl⟩,.tup _ _ rfl fun j a z ha hz => by
   rcases j with _ | _ | j
   ·obtain rfl := Option.some.inj ha;simp at hz;subst hz;exact .f (hv _).1
   ·obtain rfl := Option.some.inj ha;simp at hz;subst hz;exact .f (hv _).2
   ·simp at ha⟩
theorem args1K {G : Ghost} {Z : Nat → Prop} {w : World} {a : FV} {vs : Array Value} (hs : vs.size = [AV.f a].length) (h : ∀ (j : Nat) (x : AV) (v : Value),[AV.f a][j]? = some x → vs[j]? = some v → RepA G Z w x v) : ∃ v0,vs = #[v0] ∧ RepF Z w a v0 := by
 obtain ⟨l⟩ := vs
 match l,hs with
 | [v0],_ =>
  refine ⟨v0,rfl,?_⟩
  cases h 0 _ v0 rfl rfl with
  | f h => exact h
theorem itoa_f (n : Int) (h0 : -9223372036854775808 ≤ n) (h1 : n ≤ 9223372036854775807) : FRet Tryz.prog 17 [.f (.int .i64 n)] [.c (.v (.str ⟨(Lib.itoa n).toArray⟩))] :=
 fret_callsK (by kernel_rfl) fun G Z w vs hk hs hrep => by
  obtain ⟨v0,rfl,r0⟩ := args1K hs hrep
  have e0 : v0 = .int .i64 n := by cases r0;rfl
  subst e0
  have hcon := Any.strconv_Itoa Tryz.laysM171 n h0 h1 w (hk 0 (by kernel_rfl)).2
  change Calls Tryz.prog 17 _ _ _ at hcon
  exact hcon.mono fun e w' ⟨he,k,os,hw⟩ => ⟨_,he,fun Z' => .str _,by rw [hw];exact Lib.below_grow _ _ (Nat.le_refl _) _ _⟩
theorem atoi_f (s : ByteArray) (n : Int) (hl : s.size ≤ 18) (h : Lib.atoi s.data.toList = some n) : FRet Tryz.prog 64 [.f (.str s)] [.c (.v (.int .i64 n)),.c (.v (.lit .nilIface))] :=
 fret_callsK2 (by kernel_rfl) fun G Z w vs hk hs hrep => by
  obtain ⟨v0,rfl,r0⟩ := args1K hs hrep
  have e0 : v0 = .string s := by cases r0;rfl
  subst e0
  have hcon := Any.strconv_Atoi Tryz.lays172 s n hl h w
  change Calls Tryz.prog 64 _ _ _ at hcon
  exact hcon.mono fun e w' ⟨he,t,hw⟩ => ⟨_,_,he,fun Z' => ⟨.int _ _,.lit _⟩,by rw [hw];exact Lib.bytesWorld_below _ _ _⟩
end Go.Proofs.YtagkdifaldikgaaGreatDoor
namespace Go.Proofs.YtagkdifaldikgaaGreatDoor
open Go.RowKit Go.Shelf
set_option linter.unusedVariables false
set_option linter.unusedSimpArgs false
set_option maxRecDepth 100000

theorem rz0 {k : Int} {t : ByteArray} {n : Int} : RsFz [.agg [.v (.int .i64 k),.v (.str t),.v (.int .i64 n),.own 4 0 []]] [.agg (rcQ (.mk k t n []))] := by
 rw [rcQ_eq]
 exact ⟨⟨rfl,rfl,rfl,⟨[],rfl,rfl,(fun r hr => by cases hr),rfl⟩,trivial⟩,trivial⟩
theorem rz1 {k : Int} {t : ByteArray} {n : Int} {q : QT} : RsFz [.agg [.v (.int .i64 k),.v (.str t),.v (.int .i64 n),.own 4 1 [.int .i64 (qK q),.str (qT q),.int .i64 (qN q),.fr 4 (qP q)]]] [.agg (rcQ (.mk k t n [q]))] := by
 rw [rcQ_eq,mkP1]
 exact ⟨⟨rfl,rfl,rfl,⟨_,rfl,rfl,(fun r hr => by obtain rfl := List.mem_singleton.1 hr;rfl),rfl⟩,trivial⟩,trivial⟩
theorem rz2 {k : Int} {t : ByteArray} {n : Int} {q q2 : QT} : RsFz [.agg [.v (.int .i64 k),.v (.str t),.v (.int .i64 n),.own 4 2 [.int .i64 (qK q),.str (qT q),.int .i64 (qN q),.fr 4 (qP q),.int .i64 (qK q2),.str (qT q2),.int .i64 (qN q2),.fr 4 (qP q2)]]] [.agg (rcQ (.mk k t n [q,q2]))] := by
 rw [rcQ_eq,mkP2]
 exact ⟨⟨rfl,rfl,rfl,⟨_,rfl,rfl,(fun r hr => by
  simp only [List.mem_cons,List.not_mem_nil,or_false] at hr
  rcases hr with rfl | rfl <;> rfl),rfl⟩,trivial⟩,trivial⟩
theorem kindW_vals (w : List UInt8) : kindW w = 0 ∨ kindW w = 1 ∨ kindW w = 3 ∨ kindW w = 4 ∨ kindW w = 5 ∨ kindW w = 6 ∨ kindW w = 7 := by
 unfold kindW
 repeat' split
 all_goals simp
theorem kTake {t : ByteArray} (ht : (t.size : Int) ≤ 140737488355328) {a : Nat} (ha : a ≤ t.size) {c : UInt8} (h : wrd (t.data.toList.drop a) = [c]) : FRetP Tryz.prog 28 (RD t a) [] [.f (.str ⟨#[c]⟩)] (RD t (nxP t a)) [.c (.v (.bool true))] := by
 have k := take_f t ⟨#[c]⟩ a ha ht
 have hn := (nx_sign t a ⟨#[c]⟩).2 h
 rwa [if_pos hn,decide_eq_true hn] at k
theorem kTakeN {t : ByteArray} (ht : (t.size : Int) ≤ 140737488355328) {a : Nat} (ha : a ≤ t.size) {c : UInt8} (h : wrd (t.data.toList.drop a) ≠ [c]) : FRetP Tryz.prog 28 (RD t a) [] [.f (.str ⟨#[c]⟩)] (RD t (spN t a)) [.c (.v (.bool false))] := by
 have k := take_f t ⟨#[c]⟩ a ha ht
 have hn : ¬ nxW t a = ⟨#[c]⟩ := fun e => h ((nx_sign t a ⟨#[c]⟩).1 e)
 rwa [if_neg hn,decide_eq_false hn] at k
theorem kMust {t : ByteArray} (ht : (t.size : Int) ≤ 140737488355328) {a : Nat} (ha : a ≤ t.size) {c : UInt8} (h : wrd (t.data.toList.drop a) = [c]) : FRetP Tryz.prog 61 (RD t a) [] [.f (.str ⟨#[c]⟩)] (RD t (nxP t a)) [] :=
 must_f t ⟨#[c]⟩ a ha ht ((nx_sign t a ⟨#[c]⟩).2 h)
theorem kNext {t : ByteArray} (ht : (t.size : Int) ≤ 140737488355328) {a : Nat} (ha : a ≤ t.size) : FRetP Tryz.prog 20 (RD t (spN t a)) [] [] (RD t (spN t a)) [.c (.v (.str (nxW t a))),.c (.v (.int .i64 (spN t a : Nat)))] := by
 have k := next_f t (spN t a) (spN_le t a ha) ht
 rwa [spN_sp t a ha,nxW_sp] at k
theorem kPass {t : ByteArray} (ht : (t.size : Int) ≤ 140737488355328) {a : Nat} (ha : a ≤ t.size) : FRetP Tryz.prog 42 (RD t (spN t a)) [] [] (RD t (nxP t a)) [] := by
 have k := pass_f t (spN t a) (spN_le t a ha) ht
 rwa [nxP_sp t a ha] at k
theorem atoi_w {s : ByteArray} (h : numW s.data.toList = true) : FRet Tryz.prog 64 [.f (.str s)] [.c (.v (.int .i64 (decV s.data.toList : Nat))),.c (.v (.lit .nilIface))] := by
 have h0 := h
 unfold numW at h
 simp only [Bool.and_eq_true,decide_eq_true_eq] at h
 have hsz : s.data.toList.length = s.size := by simp
 exact atoi_f s _ (by omega) (atoi_num (by
  unfold numW at h0
  unfold numOk
  simp only [Bool.and_eq_true,decide_eq_true_eq] at h0 ⊢
  exact ⟨h0.1,by omega,h0.2.2⟩))
theorem nxW_sz {t : ByteArray} {a : Nat} (ha : a ≤ t.size) : (nxW t a).size ≤ t.size := by have := nxW_size t a ha;have := nxP_le t a ha;omega
theorem head_no {k : Int} {l : List UInt8} (h6 : k ≠ 6) (h7 : k ≠ 7) : headW k l = some (nil0,l) := by
 unfold headW;rw [if_neg h6,if_neg h7]
theorem tail_no {f : Rdr} {k : Int} {q : QT} {l : List UInt8} (h5 : k ≠ 5) (h3 : k ≠ 3) (h4 : k ≠ 4) : tailW f k q l = some ((0,[q]),l) := by
 unfold tailW;rw [if_neg h5,if_neg (fun h => h.elim h3 h4)]
set_option maxHeartbeats 4000000 in
theorem one_ok (t : ByteArray) (ht : (t.size : Int) ≤ 140737488355328) (n : Nat) (ih : RdC t n) : RdF t (n + 1) .one 41 := by
 intro a ha b hb Q h
 replace h : oneW (pq n) (t.data.toList.drop a) = some (Q,t.data.toList.drop b) := h
 unfold oneW at h
 have ha1 := (nxP_le t a ha).2
 by_cases hw : wrd (t.data.toList.drop a) = [40]
 ·rw [if_pos hw,← drop_nx] at h
  obtain ⟨⟨q,l1⟩,h1,h2⟩ := Option.bind_eq_some_iff.1 h
  obtain ⟨c,hc,_,rfl⟩ := suf_at ha1 (pq_suf n _ _ _ _ h1)
  simp only at h2
  by_cases h3 : wrd (t.data.toList.drop c) = [41]
  ·rw [if_pos h3,← drop_nx] at h2
   obtain ⟨rfl,e⟩ := Prod.mk.inj (Option.some.inj h2)
   obtain rfl := drop_inj (nxP_le t c hc).2 hb e
   exact one_brk t ht a c ha ((nx_sign t a ⟨#[40]⟩).2 hw) q hc ((nx_sign t c ⟨#[41]⟩).2 h3) (ih.sum _ ha1 c hc q h1)
  ·rw [if_neg h3] at h2;cases h2
 rw [if_neg hw] at h
 have hWB := nxW_toB t a
 have hWL := nxW_wrd t a
 have kT := kTakeN ht ha hw
 have kN := kNext ht ha
 have kP := kPass ht ha
 by_cases h0 : kindW (wrd (t.data.toList.drop a)) = 0
 ·rw [if_pos h0] at h
  by_cases h1 : isWholeV (toB (wrd (t.data.toList.drop a))) = true
  ·rw [if_pos h1,← drop_nx] at h
   obtain ⟨rfl,e⟩ := Prod.mk.inj (Option.some.inj h)
   obtain rfl := drop_inj ha1 hb e
   rw [← hWB] at h1 ⊢
   exact (one_lab t ht a ha (fun e => hw ((nx_sign t a ⟨#[40]⟩).1 e)) (by rw [hWL];exact h0) h1).frz rz0
  ·rw [if_neg h1] at h;cases h
 rw [if_neg h0] at h
 by_cases h1 : kindW (wrd (t.data.toList.drop a)) = 1
 ·rw [if_pos h1,← drop_nx] at h
  obtain ⟨rfl,e⟩ := Prod.mk.inj (Option.some.inj h)
  obtain rfl := drop_inj ha1 hb e
  exact (one_all t _ nil0 0 a _ _ 0 0 0 0 0 0 0 (.mk 0 nil0 0 []) (.mk 0 nil0 0 []) kT kN (index_q _ (by rw [ix_kind,hWL,h1];rfl)) kP).frz rz0
 rw [if_neg h1,← drop_nx] at h
 by_cases h2 : wrd (t.data.toList.drop (nxP t a)) = [40]
 ·rw [if_pos h2,← drop_nx] at h
  have ha2 := (nxP_le t _ ha1).2
  have kM1 := kMust ht ha1 h2
  obtain ⟨⟨u,l2⟩,e1,h3⟩ := Option.bind_eq_some_iff.1 h
  obtain ⟨⟨q,l3⟩,e2,h4⟩ := Option.bind_eq_some_iff.1 h3
  obtain ⟨⟨⟨v,ps⟩,l4⟩,e3,h5⟩ := Option.bind_eq_some_iff.1 h4
  simp only at e2 e3 h5
  obtain ⟨c,hc,_,rfl⟩ := suf_at ha2 (head_suf e1)
  obtain ⟨d,hd,_,rfl⟩ := suf_at hc (pq_suf n _ _ _ _ e2)
  obtain ⟨e,he,_,rfl⟩ := suf_at hd (tail_suf (pq_suf n) e3)
  have kS := ih.sum _ hc d hd q e2
  rw [rcQ_eq] at kS
  by_cases h6 : wrd (t.data.toList.drop e) = [41]
  ·rw [if_pos h6,← drop_nx] at h5
   obtain ⟨rfl,ee⟩ := Prod.mk.inj (Option.some.inj h5)
   obtain rfl := drop_inj (nxP_le t e he).2 hb ee
   have kM4 := kMust ht he h6
   have kI := index_q (nxW t a) (i := kindW (wrd (t.data.toList.drop a)) - 2) (by rw [ix_kind,hWL,if_neg h0,if_neg h1])
   clear h h3 h4 h5 ee hb
   generalize hK : kindW (wrd (t.data.toList.drop a)) = K at *
   have hK2 := kindW_vals (wrd (t.data.toList.drop a))
   rw [hK] at hK2
   rcases hK2 with rfl | rfl | rfl | rfl | rfl | rfl | rfl
   ·exact absurd rfl h0
   ·exact absurd rfl h1
   ·rw [head_no (by decide) (by decide)] at e1
    obtain ⟨rfl,ec⟩ := Prod.mk.inj (Option.some.inj e1)
    obtain rfl := drop_inj ha2 hc ec
    unfold tailW at e3
    rw [if_neg (by decide),if_pos (by decide)] at e3
    by_cases h7 : wrd (t.data.toList.drop d) = [44]
    ·rw [if_pos h7,← drop_nx] at e3
     have hd1 := (nxP_le t d hd).2
     by_cases h8 : numW (wrd (t.data.toList.drop (nxP t d))) = true
     ·rw [if_pos h8,← drop_nx] at e3
      obtain ⟨ex,ey⟩ := Prod.mk.inj (Option.some.inj e3)
      obtain ⟨rfl,rfl⟩ := Prod.mk.inj ex
      obtain rfl := drop_inj (nxP_le t _ hd1).2 he ey
      rw [← nxW_wrd] at h8 ⊢
      have kO := some_f t (nxP t d) 65 hd1 ht (by have := isNumber_f (nxW t (nxP t d)) (by have := nxW_sz hd1;omega);rwa [h8] at this)
      exact (one_m3 t _ _ _ a _ _ _ 0 0 _ _ _ _ q q kT kN kI kP kM1 kS (kTake ht hd h7) kO (atoi_w h8) kM4).frz rz1
     ·rw [if_neg h8] at e3;cases e3
    ·rw [if_neg h7,← drop_sp] at e3
     obtain ⟨ex,ey⟩ := Prod.mk.inj (Option.some.inj e3)
     obtain ⟨rfl,rfl⟩ := Prod.mk.inj ex
     obtain rfl := drop_inj (spN_le t d hd) he ey
     exact (one_n3 t _ nil0 0 a _ _ _ 0 0 _ _ 0 _ q q kT kN kI kP kM1 kS (kTakeN ht hd h7) kM4).frz rz1
   ·rw [head_no (by decide) (by decide)] at e1
    obtain ⟨rfl,ec⟩ := Prod.mk.inj (Option.some.inj e1)
    obtain rfl := drop_inj ha2 hc ec
    unfold tailW at e3
    rw [if_neg (by decide),if_pos (by decide)] at e3
    by_cases h7 : wrd (t.data.toList.drop d) = [44]
    ·rw [if_pos h7,← drop_nx] at e3
     have hd1 := (nxP_le t d hd).2
     by_cases h8 : numW (wrd (t.data.toList.drop (nxP t d))) = true
     ·rw [if_pos h8,← drop_nx] at e3
      obtain ⟨ex,ey⟩ := Prod.mk.inj (Option.some.inj e3)
      obtain ⟨rfl,rfl⟩ := Prod.mk.inj ex
      obtain rfl := drop_inj (nxP_le t _ hd1).2 he ey
      rw [← nxW_wrd] at h8 ⊢
      have kO := some_f t (nxP t d) 65 hd1 ht (by have := isNumber_f (nxW t (nxP t d)) (by have := nxW_sz hd1;omega);rwa [h8] at this)
      exact (one_m4 t _ _ _ a _ _ _ 0 0 _ _ _ _ q q kT kN kI kP kM1 kS (kTake ht hd h7) kO (atoi_w h8) kM4).frz rz1
     ·rw [if_neg h8] at e3;cases e3
    ·rw [if_neg h7,← drop_sp] at e3
     obtain ⟨ex,ey⟩ := Prod.mk.inj (Option.some.inj e3)
     obtain ⟨rfl,rfl⟩ := Prod.mk.inj ex
     obtain rfl := drop_inj (spN_le t d hd) he ey
     exact (one_n4 t _ nil0 0 a _ _ _ 0 0 _ _ 0 _ q q kT kN kI kP kM1 kS (kTakeN ht hd h7) kM4).frz rz1
   ·rw [head_no (by decide) (by decide)] at e1
    obtain ⟨rfl,ec⟩ := Prod.mk.inj (Option.some.inj e1)
    obtain rfl := drop_inj ha2 hc ec
    unfold tailW at e3
    rw [if_pos rfl] at e3
    by_cases h7 : wrd (t.data.toList.drop d) = [44]
    ·rw [if_pos h7,← drop_nx] at e3
     have hd1 := (nxP_le t d hd).2
     obtain ⟨⟨q2,l6⟩,e4,e5⟩ := Option.bind_eq_some_iff.1 e3
     obtain ⟨ex,ey⟩ := Prod.mk.inj (Option.some.inj e5)
     obtain ⟨rfl,rfl⟩ := Prod.mk.inj ex
     simp only at ey
     subst ey
     have kS2 := ih.sum _ hd1 e he q2 e4
     rw [rcQ_eq] at kS2
     exact (one_b5 t _ nil0 0 a _ _ _ 0 0 _ _ _ _ q q2 kT kN kI kP kM1 kS (kMust ht hd h7) kS2 kM4).frz rz2
    ·rw [if_neg h7] at e3;cases e3
   ·unfold headW at e1
    rw [if_pos rfl] at e1
    by_cases h7 : isNameV (toB (wrd (t.data.toList.drop (nxP t (nxP t a))))) = true ∧ wrd (rst (t.data.toList.drop (nxP t (nxP t a)))) = [44]
    ·rw [if_pos h7,← drop_nx,← drop_nx] at e1
     obtain ⟨h8,h9⟩ := h7
     rw [← drop_nx] at h9
     have ha3 := (nxP_le t _ ha2).2
     obtain ⟨rfl,ec⟩ := Prod.mk.inj (Option.some.inj e1)
     obtain rfl := drop_inj (nxP_le t _ ha3).2 hc ec
     rw [tail_no (by decide) (by decide) (by decide)] at e3
     obtain ⟨ex,ey⟩ := Prod.mk.inj (Option.some.inj e3)
     obtain ⟨rfl,rfl⟩ := Prod.mk.inj ex
     obtain rfl := drop_inj hd he ey
     rw [← nxW_toB] at h8 ⊢
     have kH := some_f t _ 38 ha2 ht (by have := isName_f (nxW t (nxP t (nxP t a)));rwa [h8] at this)
     exact (one_h6 t _ _ 0 a _ _ _ _ _ _ 0 0 _ q q kT kN kI kP kM1 kH (kMust ht ha3 h9) kS kM4).frz rz1
    ·rw [if_neg h7] at e1;cases e1
   ·unfold headW at e1
    rw [if_neg (by decide),if_pos rfl] at e1
    by_cases h7 : isPatV (toB (wrd (t.data.toList.drop (nxP t (nxP t a))))) = true ∧ wrd (rst (t.data.toList.drop (nxP t (nxP t a)))) = [44]
    ·rw [if_pos h7,← drop_nx,← drop_nx] at e1
     obtain ⟨h8,h9⟩ := h7
     rw [← drop_nx] at h9
     have ha3 := (nxP_le t _ ha2).2
     obtain ⟨rfl,ec⟩ := Prod.mk.inj (Option.some.inj e1)
     obtain rfl := drop_inj (nxP_le t _ ha3).2 hc ec
     rw [tail_no (by decide) (by decide) (by decide)] at e3
     obtain ⟨ex,ey⟩ := Prod.mk.inj (Option.some.inj e3)
     obtain ⟨rfl,rfl⟩ := Prod.mk.inj ex
     obtain rfl := drop_inj hd he ey
     rw [← nxW_toB] at h8 ⊢
     have kH := some_f t _ 39 ha2 ht (by have := isPat_f (nxW t (nxP t (nxP t a))) (by have := nxW_sz ha2;omega);rwa [h8] at this)
     exact (one_h7 t _ _ 0 a _ _ _ _ _ _ 0 0 _ q q kT kN kI kP kM1 kH (kMust ht ha3 h9) kS kM4).frz rz1
    ·rw [if_neg h7] at e1;cases e1
  ·rw [if_neg h6] at h5;cases h5
 ·rw [if_neg h2] at h;cases h
theorem rdc (t : ByteArray) (ht : (t.size : Int) ≤ 140737488355328) : ∀ n,RdC t n := fun n => by
 induction n using Nat.strongRecOn with
 | _ n ih =>
  cases n with
  | zero => exact ⟨fun a _ b _ Q h => (by cases h),fun a _ b _ Q h => (by cases h),fun a _ b _ Q h => (by cases h)⟩
  | succ n =>
   have hn : ∀ m ≤ n,RdC t m := fun m hm => ih m (by omega)
   exact ⟨one_ok t ht n (hn n (Nat.le_refl n)),both_ok t ht n hn,sum_ok t ht n hn⟩
end Go.Proofs.YtagkdifaldikgaaGreatDoor
