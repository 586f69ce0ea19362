/-
  The whole query. No statement of the seat is proved here; no conditions.
-/
import Derived.Test.YtagkdifaldikgaaGreatDoorQdL2
import Derived.Test.YtagkdifaldikgaaGreatDoorGone
namespace Go.Proofs.YtagkdifaldikgaaGreatDoor
open Go.RowKit Go.Shelf
set_option linter.unusedVariables false
set_option linter.unusedSimpArgs false
set_option maxRecDepth 100000

abbrev Hrd (t : ByteArray) (a : Nat) : Heap := upd H0 100001 (1,some (.cells [.f (.str t),.f (.int .i64 a)]))
theorem rcs_v {H : Heap} : ∀ {xs : List FV} {cs : List AV},RcsOk H (xs.map .v) cs → cs = xs.map .f
 | [],cs,h => by cases cs with
  | nil => rfl
  | cons a l => cases h
 | x :: xs,cs,h => by
  cases cs with
  | nil => exact h.elim
  | cons a l =>
   obtain ⟨h1,h2⟩ := h
   rw [List.map_cons,← rcs_v h2]
   have : a = .f x := h1
   rw [this]
section
variable {G : Ghost} {Z : Nat → Prop} {w : World} {t : ByteArray} {v0 : Value}
theorem pm_w {f : FuncId} {a b : Nat} {rs : List RS} (hS : FRetP Tryz.prog f (RD t a) [] [] (RD t b) rs) (hp : ∀ H' l,RsOk H' rs l → (oneOrTup l).pure = true) (st : St Tryz.prog G (Hrd t a) Z w) (h0 : RepA G Z w (.ptr 100001 1 0) v0) :
  Calls Tryz.prog f #[v0] w fun e w' => ∃ v l G' Z',e = .returned v ∧ (∃ H',RsOk H' rs l) ∧ RepA G' Z' w' (oneOrTup l) v ∧ St Tryz.prog G' (Hrd t b) Z' w' ∧ Hist G Z w G' Z' w' ∧ RepA G' Z' w' (.ptr 100001 1 0) v0 := by
 obtain ⟨loc,hG,hob,hH⟩ := st.cells (id := 100001) (ver := 1) (cs := [.f (.str t),.f (.int .i64 a)]) rfl
 obtain ⟨g0,o0,rfl,rfl⟩ := h0.ptr_ hG
 have hGo : ∀ i,i ≠ 100001 → (G i).1 = 0 := fun i hi => by
  have h1 : Hrd t a i = (0,none) := upd_ne _ _ _ _ hi
  rw [st.ver i,h1]
 refine (hS.2 G Z w #[_] st rfl fun j x v hx hv => ?_).mono fun e w' ⟨v,r,H',G',Z',e1,⟨l,cs',e2,hcs,hpc,hrs,_⟩,st',hh,hr⟩ => ?_
 ·cases j with
  | zero =>
   simp only [List.getElem?_cons_zero,Option.some.injEq] at hx
   subst hx
   obtain rfl := Option.some.inj hv
   exact h0
  | succ j => simp at hv
 ·have hcs2 : cs' = [.f (.str t),.f (.int .i64 b)] := rcs_v (xs := [.str t,.int .i64 b]) hpc
  subst hcs2
  have hv1 : (G' 100001).1 = 1 := by rw [st'.ver,hcs]
  obtain ⟨loc',k1,k2⟩ := st'.obj 100001 _ (by rw [hcs])
  have hG' : G' 100001 = (1,some (some (g0,o0))) := by
   refine Prod.ext hv1 ?_
   rcases hh.same 100001 (by omega) (by rw [hv1,hG]) with h | h
   ·rw [h] at k1;cases k1
   ·rw [h,hG]
  have st1 := st'.only hcs (fun a ha => by
   simp only [List.mem_cons,List.not_mem_nil,or_false] at ha
   rcases ha with rfl | rfl <;> rfl)
  refine ⟨v,l,upd (fun _ => (0,none)) 100001 (G' 100001),Z',e1,⟨H',hrs⟩,?_,st1,⟨hh.os,hh.tape,hh.output,hh.size,hh.old,hh.zin,hh.zout,fun bk ⟨i,o,h⟩ => ?_,hh.room,fun i hi => ?_,fun i hi e => ?_⟩,.ptrLive 100001 1 0 g0 o0 (by rw [upd_same];exact hG')⟩
  ·rw [← e2]
   exact hr.pure_ (fun b hb => ⟨hb,rfl⟩) (by rw [e2];exact hp _ _ hrs)
  ·by_cases e : i = 100001
   ·subst e;rw [upd_same] at h;exact hh.live bk ⟨_,o,h⟩
   ·rw [upd_ne _ _ _ _ e] at h;cases h
  ·by_cases e : i = 100001
   ·subst e;rw [upd_same];exact hh.ver _ hi
   ·rw [hGo i e];exact Nat.zero_le _
  ·by_cases e2 : i = 100001
   ·subst e2;rw [upd_same] at e ⊢;exact hh.same _ hi e
   ·rw [upd_ne _ _ _ _ e2];exact .inl rfl
theorem sum_w {a b : Nat} {Q : QT} (hS : FRetP Tryz.prog 19 (RD t a) [] [] (RD t b) [.agg (rcQ Q)]) (st : St Tryz.prog G (Hrd t a) Z w) (h0 : RepA G Z w (.ptr 100001 1 0) v0) :
  Calls Tryz.prog 19 #[v0] w fun e w' => ∃ (k : Int) (s : ByteArray) (n : Int) (A : Option Addr) (m c : Nat) (G' : Ghost) (Z' : Nat → Prop),e = .returned (.agg #[.int .i64 k,.string s,.int .i64 n,.slice A m c]) ∧ RepA G' Z' w' (.agg ((encQ Q).map .f)) (.agg #[.int .i64 k,.string s,.int .i64 n,.slice A m c]) ∧ St Tryz.prog G' (Hrd t b) Z' w' ∧ Hist G Z w G' Z' w' ∧ RepA G' Z' w' (.ptr 100001 1 0) v0 := by
 refine (pm_w hS (fun H' l h => ?_) st h0).mono fun e w' ⟨v,l,G',Z',e1,⟨H',hl⟩,hr,st',hh,hp⟩ => ?_
 ·match l,h with
  | [.agg cs],⟨h1,_⟩ =>
   rw [rcs_v h1]
   show AV.pureL _ = true
   rw [AV.pureL_all]
   simp [AV.pure]
 ·match l,hl with
  | [.agg cs],⟨h1,_⟩ =>
   have hr2 : RepA G' Z' w' (.agg ((encQ Q).map .f)) v := by rw [← rcs_v h1];exact hr
   subst e1
   cases Q with
   | mk k s n ps =>
    rw [encQ] at hr2 ⊢
    have hr3 := hr2
    cases hr2 with
    | agg _ us h1 h2 h3 =>
     obtain ⟨ul⟩ := us
     match ul,h1 with
     | [u0,u1,u2,u3],_ =>
      obtain rfl := (h3 0 _ u0 rfl rfl).int_
      obtain rfl := (h3 1 _ u1 rfl rfl).str_
      obtain rfl := (h3 2 _ u2 rfl rfl).int_
      obtain ⟨A,c,rfl,_⟩ := RepA.fr_ (h3 3 _ u3 rfl rfl)
      exact ⟨k,s,n,A,_,c,G',Z',rfl,hr3,st',hh,hp⟩
theorem next_r {a : Nat} (ha : a ≤ t.size) (ht : (t.size : Int) ≤ 140737488355328) (st : St Tryz.prog G (Hrd t a) Z w) (h0 : RepA G Z w (.ptr 100001 1 0) v0) :
  Calls Tryz.prog 20 #[v0] w fun e w' => ∃ (G' : Ghost) (Z' : Nat → Prop),e = .returned (.tuple #[.string (nxW t a),.int .i64 (spN t a : Nat)]) ∧ St Tryz.prog G' (Hrd t (spN t a)) Z' w' ∧ Hist G Z w G' Z' w' ∧ RepA G' Z' w' (.ptr 100001 1 0) v0 := by
 refine (pm_w (next_f t a ha ht) (fun H' l h => ?_) st h0).mono fun e w' ⟨v,l,G',Z',e1,⟨H',hl⟩,hr,st',hh,hp⟩ => ?_
 ·match l,h with
  | [x,y],⟨h1,h2,_⟩ =>
   obtain rfl : x = .f (.str (nxW t a)) := h1
   obtain rfl : y = .f (.int .i64 (spN t a : Nat)) := h2
   rfl
 ·match l,hl with
  | [x,y],⟨h1,h2,_⟩ =>
   obtain rfl : x = .f (.str (nxW t a)) := h1
   obtain rfl : y = .f (.int .i64 (spN t a : Nat)) := h2
   subst e1
   cases hr with
   | tup _ us hsz hr =>
    obtain ⟨v0,v1,rfl,r0,r1⟩ := args2 hsz hr
    obtain rfl := r0.str_
    obtain rfl := r1.int_
    exact ⟨G',Z',rfl,st',hh,hp⟩
theorem pan_w {f : FuncId} {a : Nat} (hF : FPanP Tryz.prog f (RD t a) [] [] IsW) (st : St Tryz.prog G (Hrd t a) Z w) (h0 : RepA G Z w (.ptr 100001 1 0) v0) :
  Calls Tryz.prog f #[v0] w fun e w' => ∃ n : Int,e = .panicked [{ v := .iface 51 (.agg #[.int .i64 n]),recovered := false }] ∧ HistW G Z w w' := by
 refine (hF.2 G Z w #[v0] st rfl fun j x v hx hv => ?_).mono fun e w' ⟨v,e1,⟨n,e2⟩,hh⟩ => ⟨n,by rw [e1,e2],hh⟩
 cases j with
 | zero =>
  have hx : AV.ptr 100001 1 0 = x := by simpa [putS] using hx
  subst hx
  obtain rfl : v0 = v := by simpa using hv
  exact h0
 | succ j => simp at hv
end
section
variable {P : Program} {R : Env → Heap → Prop} {Λ : Lams} {k : List It} {env : Env} {H : Heap} {fid : FuncId} {f : Operand} {args : List Operand} {g : Option (Nat × Bool)} {los : List LO} {d : Option Nat} {r0 : AV}
theorem gFree {m : Nat} {al : List AV} (hF : FCall P fid al H0 (fun r _ => r = r0)) (h : srun P R m Λ (.ops los :: k) (putE env d r0) H) (hg : gd g env = some true := by rfl) (hfn : evA env f = .f (.fn (.func fid)) := by rfl) (ha : args.map (evA env) = al := by rfl) (hp : al.all AV.pure = true := by rfl) (hr : r0.pure = true := by rfl) :
  Ax P R Λ (.ops (⟨d,.call f args,g⟩ :: los) :: k) env H :=
 ax_call (f := f) (args := args) rfl hg (Q := fun r H' => r = r0 ∧ H' = H) (by rw [hfn,ha];exact free_call (Q := fun r => r = r0) hF hp (fun r e => by rw [e];exact hr)) fun v H' hq => by obtain ⟨h1,h2⟩ := hq;subst h1 h2;exact srun_sound m _ _ _ _ h
theorem gGone {m : Nat} {cs : List AV} (hF : FCall P fid [.ptr 100001 1 0] (upd H0 100001 (1,some (.cells cs))) (fun r H' => r = r0 ∧ H' = upd H0 100001 (1,none))) (id ver : Nat) (h : srun P R m Λ (.ops los :: k) (putE env d r0) (upd H id (ver,none))) (hcs : ∀ a ∈ cs,a.pure = true) (hg : gd g env = some true := by rfl) (hfn : evA env f = .f (.fn (.func fid)) := by rfl) (ha : args.map (evA env) = [.ptr id ver 0] := by rfl) (hc : cellsOf ver (H id) = some cs := by rfl) (hr : r0.pure = true := by rfl) :
  Ax P R Λ (.ops (⟨d,.call f args,g⟩ :: los) :: k) env H :=
 ax_call (f := f) (args := args) rfl hg (Q := fun r H' => r = r0 ∧ H' = upd H id (ver,none)) (by rw [hfn,ha];exact gone_pm hF hcs hr hc) fun v H' hq => by obtain ⟨h1,h2⟩ := hq;subst h1 h2;exact srun_sound m _ _ _ _ h
end
end Go.Proofs.YtagkdifaldikgaaGreatDoor
