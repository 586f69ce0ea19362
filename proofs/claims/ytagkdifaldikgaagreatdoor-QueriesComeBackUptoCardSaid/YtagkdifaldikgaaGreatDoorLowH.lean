/-
  The reader's next word. No statement of the seat is proved here; no conditions.
-/
import Derived.Test.YtagkdifaldikgaaGreatDoorQdA
import Derived.Test.YtagkdifaldikgaaGreatDoorCx
import Derived.Test.YtagkdifaldikgaaGreatDoorPan
import Derived.Test.YtagkdifaldikgaaGreatDoorPtr
import Derived.Lib.AppendZerosOnto
import Derived.Lib.Overlaps
import Derived.Test.YtagkdifaldikgaaGreatDoorEngO
import Derived.Test.YtagkdifaldikgaaGreatDoorRows
namespace Go.Proofs.YtagkdifaldikgaaGreatDoor
open Go.RowKit Go.Shelf
set_option linter.unusedVariables false
set_option linter.unusedSimpArgs false
set_option maxRecDepth 100000

def FnOk (P : Program) (F : FV) (p : UInt8 → Bool) : Prop := ∀ (c : UInt8) (H : Heap),ACallV P (.f F) [.f (.int .u8 c.toNat)] H (fun r H' => r = .f (.bool (p c)) ∧ H' = H)
section
variable {P : Program} {R : Env → Heap → Prop} {Λ : Lams} {k : List It} {env : Env} {H : Heap}
theorem cFn {F : FV} {p : UInt8 → Bool} (hF : FnOk P F p) (c : UInt8) {d j : Nat} {f : Operand} {args : List Operand} {g : Option (Nat × Bool)} {od : List Nat} {dos : List DO} {acc : List Fp} (h : srun P R 300 Λ (.dops dos (j + 1) acc :: k) (putE env (some d) (.f (.bool (p c)))) H)
  (hg : gd g env = some true := by rfl) (hfn : evA env f = .f F := by rfl) (ha : args.map (evA env) = [.f (.int .u8 c.toNat)] := by rfl) : Ax P R Λ (.dops (⟨some d,.call f args,g,od⟩ :: dos) j acc :: k) env H :=
 ax_dCall (f := f) (args := args) (rd := []) (wr := []) (v := .f (.bool (p c))) (H' := H) rfl hg (fun _ _ => rfl) (fun H2 _ _ => by
  rw [hfn,ha]
  exact ACallV.mono (hF c H2) fun r H' ⟨h1,h2⟩ => ⟨h1,by rw [h2];funext id;simp [mix]⟩) (by simp [noConf,Fp.ok,disj]) (srun_sound 300 _ _ _ _ h)
end
theorem fnOk_p {P : Program} {fid : FuncId} {p : UInt8 → Bool} (h : ∀ c : UInt8,FRet P fid [.f (.int .u8 c.toNat)] [.c (.v (.bool (p c)))]) : FnOk P (.fn (.func fid)) p := fun c H =>
 ACall.mono (call_plain (t := 0) (h c) rfl rfl) fun r H' ⟨h1,h2⟩ => ⟨h1,h2⟩
theorem fnOk_c {P : Program} {fid : FuncId} {caps : List FV} {p : UInt8 → Bool} (h : ∀ c : UInt8,FRet P fid (.f (.int .u8 c.toNat) :: caps.map .f) [.c (.v (.bool (p c)))]) (hp : (caps.map AV.f).all AV.pure = true) : FnOk P (.fc (.func fid) caps) p := fun c H =>
 ACall.mono (call_plain (t := 0) (h c) (by rw [List.all_append,hp];rfl) rfl) fun r H' ⟨h1,h2⟩ => ⟨h1,h2⟩
theorem fn_sm : FnOk Tryz.prog (.fn (.func 30)) isSm := fnOk_p fun c => by have := next2_f (c.toNat : Nat);rwa [(byte_is c).1] at this
theorem fn_dg : FnOk Tryz.prog (.fn (.func 34)) isDg := fnOk_p fun c => by have := next4_f (c.toNat : Nat);rwa [(byte_is c).2.1] at this
theorem fn_lb : FnOk Tryz.prog (.fc (.func 32) [.fp [.fn (.func 30)]]) isLb := fnOk_c (fun c => by have := next3_f (c.toNat : Nat);rwa [(byte_is c).2.2] at this) rfl
def twN (p : UInt8 → Bool) (s : ByteArray) (e : Nat) : Nat := ((s.data.toList.drop e).takeWhile p).length
theorem twN_end {p : UInt8 → Bool} {s : ByteArray} {e : Nat} (h : s.size ≤ e) : twN p s e = 0 := by
 unfold twN
 rw [List.drop_eq_nil_of_le (by simpa using h)];rfl
theorem twN_yes {p : UInt8 → Bool} {s : ByteArray} {e : Nat} {b : UInt8} (h : s.data.toList[e]? = some b) (hp : p b = true) : twN p s e = 1 + twN p s (e + 1) := by
 obtain ⟨h1,h2⟩ := List.getElem?_eq_some_iff.1 h
 unfold twN
 rw [List.drop_eq_getElem_cons h1,h2,List.takeWhile_cons,if_pos hp,List.length_cons];omega
theorem twN_no {p : UInt8 → Bool} {s : ByteArray} {e : Nat} {b : UInt8} (h : s.data.toList[e]? = some b) (hp : p b = false) : twN p s e = 0 := by
 obtain ⟨h1,h2⟩ := List.getElem?_eq_some_iff.1 h
 unfold twN
 rw [List.drop_eq_getElem_cons h1,h2,List.takeWhile_cons,hp];rfl
theorem twN_le (p : UInt8 → Bool) (s : ByteArray) (e : Nat) (he : e ≤ s.size) : e + twN p s e ≤ s.size := by
 have h1 : ((s.data.toList.drop e).takeWhile p).length ≤ (s.data.toList.drop e).length := (List.takeWhile_sublist p).length_le
 have h2 : s.data.toList.length = s.size := by simp
 unfold twN
 rw [List.length_drop] at h1
 omega
set_option maxHeartbeats 2000000 in
theorem next1_f {F : FV} {p : UInt8 → Bool} (hF : FnOk Tryz.prog F p) (t : ByteArray) (a : Int) (e : Nat) (he : e ≤ t.size) (ht : (t.size : Int) ≤ 9223372036854775807) :
  FRetX1 Tryz.prog 29 [.f F,.ptr 100001 1 0,.f (.fp [.fp [.str t,.int .i64 a]])] [.v (.int .i64 e)] [.v (.int .i64 (e + twN p t e : Nat))] [] := by
 generalize hT : e + twN p t e = T
 have hT2 : T ≤ t.size := by rw [← hT];exact twN_le p t e he
 replace hF := hide hF
 refine FCall.of_ax low_graph_reader_next_c1 ?_
 dsimp only [l_graph_reader_next_c1]
 refine srun_sound 300 _ _ _ _ ?_
 repeat' (first
  | (simp -implicitDefEqProofs only [*,zr,Nat.reduceAdd,Nat.reduceSub,Nat.reduceMul,Nat.reduceLT,Nat.reduceLeDiff,Nat.reduceEqDiff,Nat.reduceBEq,reduceIte,reduceCtorEq,Int.reduceLE,Int.reduceLT,Int.reduceToNat,Int.reduceEq,Int.reduceNe])
  | ((first|apply zk0|apply zk1|apply zk2|apply zk3|apply zk4|apply zk5|apply zk6|apply zk7|apply zk8|apply zk9) <;> intro hc)
  |(refine callP0 rfl ?_)
  |(refine callD0 rfl ?_)
  | fail)
 refine ax_loopU (S := Nat) 23 [0,1,2] [] (fun s => []) (fun s => [(100001,1,AObj.cells [.f (.int .i64 s)])]) (fun s => s ≤ t.size ∧ s + twN p t s = T) (fun s => t.size - s) (e) [] ?_ ?_ fun s hs => ?_
 ·exact ⟨he,hT⟩
 ·refine wk_i ?_ ?_ <;> simp only [zw,Nat.reduceEqDiff,Nat.reduceBEq,Nat.reduceLT,Nat.reduceLeDiff,reduceIte,reduceCtorEq]
 obtain ⟨hi,hinv⟩ := hs
 refine srun_sound 300 _ _ _ _ ?_
 rcases Nat.lt_or_ge s t.size with hlt | hge
 ·obtain ⟨b,hb⟩ := byte_at hlt
  have h4 := inc64 hlt ht
  have h2 := lt_t hlt
  cases hp : p b with
  | true =>
   have hw := hide (twN_yes hb hp)
   replace hinv := hide hinv
   repeat' (first
    | (simp -implicitDefEqProofs only [*,zr,Nat.reduceAdd,Nat.reduceSub,Nat.reduceMul,Nat.reduceLT,Nat.reduceLeDiff,Nat.reduceEqDiff,Nat.reduceBEq,reduceIte,reduceCtorEq,Int.reduceLE,Int.reduceLT,Int.reduceToNat,Int.reduceEq,Int.reduceNe])
    | ((first|apply zk0|apply zk1|apply zk2|apply zk3|apply zk4|apply zk5|apply zk6|apply zk7|apply zk8|apply zk9) <;> intro hc)
    |(refine callP0 rfl ?_)
    |(refine callD0 rfl ?_)
    | fail)
   refine cFn hF.out b ?_
   rw [hp]
   repeat' (first
    | (simp -implicitDefEqProofs only [*,addFp_wr,zr,Nat.reduceAdd,Nat.reduceSub,Nat.reduceMul,Nat.reduceLT,Nat.reduceLeDiff,Nat.reduceEqDiff,Nat.reduceBEq,reduceIte,reduceCtorEq,Int.reduceLE,Int.reduceLT,Int.reduceToNat,Int.reduceEq,Int.reduceNe])
    | ((first|apply zk0|apply zk1|apply zk2|apply zk3|apply zk4|apply zk5|apply zk6|apply zk7|apply zk8|apply zk9) <;> intro hc)
    |(refine callP0 rfl ?_)
    |(refine callD0 rfl ?_)
    | fail)
   refine ⟨s + 1,⟨hlt,by rw [← hinv.out,hw.out];omega⟩,by omega,?_⟩
   refine wk_i ?_ ?_ <;> simp only [zw,Nat.reduceEqDiff,Nat.reduceBEq,Nat.reduceLT,Nat.reduceLeDiff,reduceIte,reduceCtorEq]
  | false =>
   have hw := twN_no hb hp
   obtain rfl : s = T := by omega
   clear hinv hw hT
   repeat' (first
    | (simp -implicitDefEqProofs only [*,zr,Nat.reduceAdd,Nat.reduceSub,Nat.reduceMul,Nat.reduceLT,Nat.reduceLeDiff,Nat.reduceEqDiff,Nat.reduceBEq,reduceIte,reduceCtorEq,Int.reduceLE,Int.reduceLT,Int.reduceToNat,Int.reduceEq,Int.reduceNe])
    | ((first|apply zk0|apply zk1|apply zk2|apply zk3|apply zk4|apply zk5|apply zk6|apply zk7|apply zk8|apply zk9) <;> intro hc)
    |(refine callP0 rfl ?_)
    |(refine callD0 rfl ?_)
    | fail)
   refine cFn hF.out b ?_
   rw [hp]
   repeat' (first
    | (simp -implicitDefEqProofs only [*,addFp_wr,zr,Nat.reduceAdd,Nat.reduceSub,Nat.reduceMul,Nat.reduceLT,Nat.reduceLeDiff,Nat.reduceEqDiff,Nat.reduceBEq,reduceIte,reduceCtorEq,Int.reduceLE,Int.reduceLT,Int.reduceToNat,Int.reduceEq,Int.reduceNe])
    | ((first|apply zk0|apply zk1|apply zk2|apply zk3|apply zk4|apply zk5|apply zk6|apply zk7|apply zk8|apply zk9) <;> intro hc)
    |(refine callP0 rfl ?_)
    |(refine callD0 rfl ?_)
    | fail)
   exact ⟨[],[.f (.int .i64 s)],rfl,rfl,⟨rfl,rfl⟩,rfl,by simp [idsC,idsS],by simp [idsC,idsS]⟩
 ·have hw := twN_end (p := p) hge
  obtain rfl : s = T := by omega
  have h2 := lt_f hge
  clear hinv hw hT
  repeat' (first
   | (simp -implicitDefEqProofs only [*,zr,Nat.reduceAdd,Nat.reduceSub,Nat.reduceMul,Nat.reduceLT,Nat.reduceLeDiff,Nat.reduceEqDiff,Nat.reduceBEq,reduceIte,reduceCtorEq,Int.reduceLE,Int.reduceLT,Int.reduceToNat,Int.reduceEq,Int.reduceNe])
   | ((first|apply zk0|apply zk1|apply zk2|apply zk3|apply zk4|apply zk5|apply zk6|apply zk7|apply zk8|apply zk9) <;> intro hc)
   |(refine callP0 rfl ?_)
   |(refine callD0 rfl ?_)
   | fail)
  exact ⟨[],[.f (.int .i64 s)],rfl,rfl,⟨rfl,rfl⟩,rfl,by simp [idsC,idsS],by simp [idsC,idsS]⟩
end Go.Proofs.YtagkdifaldikgaaGreatDoor
namespace Go.Proofs.YtagkdifaldikgaaGreatDoor
open Go.RowKit
set_option linter.unusedVariables false
set_option linter.unusedSimpArgs false

theorem row_le {α : Type} {enc : α → List FV} {sz : Nat} {l : List α} (hs : ∀ x,(enc x).length = sz) : l.length * sz ≤ (rowF enc l).length := by rw [row_len hs];exact Nat.le_refl _
theorem row_le2 {α : Type} {enc : α → List FV} {sz : Nat} {l : List α} {t : List FV} (hs : ∀ x,(enc x).length = sz) : l.length * sz ≤ (rowF enc l ++ t).length := by rw [List.length_append,row_len hs];exact Nat.le_add_right _ _
section
variable {P : Program} {R : Env → Heap → Prop} {Λ : Lams} {k : List It} {env : Env} {H : Heap} {d j : Nat} {f : Operand} {args : List Operand} {g : Option (Nat × Bool)} {los : List LO} {dos : List DO} {acc : List Fp} {od : List Nat} {fid : FuncId} {args' tl : List AV} {ri rs : List RS} {pcs pcs' : List RC}
theorem gP (hF : FRetP P fid pcs ri tl pcs' rs) (id ver : Nat) (cs l tl0 : List AV)
  (h : srun P R 300 Λ (.ops los :: k) (putE env (some d) (oneOrTup (putS d (nextCs 0 pcs') rs))) (upd (putHs d (nextCs 0 pcs') rs (putHcs d 0 pcs' (killL (idsC cs ++ idsS l) H))) id (ver,some (.cells (putCs d 0 pcs'))))) (hg : gd g env = some true := by rfl) (hfn : evA env f = .f (.fn (.func fid)) := by rfl) (ha : args.map (evA env) = .ptr id ver 0 :: (l ++ tl0) := by rfl) (hc : cellsOf ver (H id) = some cs := by rfl)
  (hpc : RcsOk H pcs cs := by (repeat (first|exact rfl | exact trivial | refine And.intro rfl ?_ | refine And.intro (Or.inr ⟨_,_,rfl,rfl,(by first | exact Nat.le_refl _ | exact row_le (fun _ => rfl) | exact row_le2 (fun _ => rfl))⟩) ?_));first | done | fail) (hri : RsOk H ri l := by (repeat (first|exact rfl | exact trivial | refine And.intro rfl ?_ | refine And.intro (Or.inr ⟨_,_,rfl,rfl,(by first | exact Nat.le_refl _ | exact row_le (fun _ => rfl) | exact row_le2 (fun _ => rfl))⟩) ?_));first | done | fail) (hnd : (idsC cs ++ idsS l).Nodup := by simp [idsC,idsS]) (hni : id ∉ idsC cs ++ idsS l := by simp [idsC,idsS]) (htl : LeL tl0 tl := by first | exact LeL.refl _ | ((repeat (first|exact LeL.refl _ | exact LeA.refl _ | exact LeA.nil _ | refine LeL.cons ?_ ?_ | refine LeA.agg ?_));first | done | fail)) (hp : tl.all AV.pure = true := by rfl) (hfree : Free d H := by first | exact free_0 | exact free_mk rfl | (repeat (first|exact free_0 | exact free_mk rfl | exact free_mk (by first | (simp;done) | fail) | refine free_upd rfl ?_ | refine free_kill ?_));first | done | fail) : Ax P R Λ (.ops (⟨some d,.call f args,g⟩ :: los) :: k) env H :=
 callPm hg hF hfn id ver cs l tl0 ha hc hpc hri hnd hni htl hp hfree h
end

section
variable {P : Program} {R : Env → Heap → Prop} {Λ : Lams} {k : List It} {env : Env} {H : Heap}
theorem RepA.slc_sl {G : Ghost} {Z : Nat → Prop} {w : World} {id ver sz off n c : Nat} {v : Value} (h : RepA G Z w (.slc id ver sz off n c) v) : RepA G Z w (.sl id ver sz off n) v := by
 cases h with
 | slcOld _ _ _ _ _ _ _ h1 h2 h3 => exact .slOld _ _ _ _ _ _ h1 h2 h3
 | slcLive _ _ _ _ _ _ g o h1 h2 h3 h4 => exact .slLive _ _ _ _ _ g o c h1 h2 h3 h4
theorem EnvR.reg {G : Ghost} {Z : Nat → Prop} {w : World} {env : Env} {t : Nat} {ts : Array Value} (hr : EnvR G Z w env ts) {a b : AV} (he : env.f t = a) (hna : a ≠ .any) (h : ∀ v,RepA G Z w a v → RepA G Z w b v) : EnvR G Z w { n := env.n,f := upd env.f t b } ts := by
 refine ⟨hr.len,fun i hi => ?_,fun i v hv => ?_⟩
 ·by_cases e : i = t
  ·subst e
   have := hr.out i hi
   rw [he] at this;exact absurd this hna
  ·show upd env.f t _ i = _
   rw [upd_ne (h := e)];exact hr.out i hi
 ·by_cases e : i = t
  ·subst e
   have := hr.at_ i v hv
   rw [he] at this
   show RepA G Z w (upd env.f i _ i) v
   rw [upd_same]
   exact h v this
  ·show RepA G Z w (upd env.f t _ i) v
   rw [upd_ne (h := e)];exact hr.at_ i v hv
def Stop : List It → Prop
 | .ops _ :: _ => True
 | .code _ :: _ => True
 | _ => False
def SlOf (a : AV) (id ver sz off n : Nat) : Prop := a = .sl id ver sz off n ∨ ∃ c,a = .slc id ver sz off n c
theorem SlOf.rep {a : AV} {id ver sz off n : Nat} (h : SlOf a id ver sz off n) {G : Ghost} {Z : Nat → Prop} {w : World} {v : Value} (hr : RepA G Z w a v) : RepA G Z w (.sl id ver sz off n) v := by
 rcases h with rfl | ⟨c,rfl⟩
 ·exact hr
 ·exact hr.slc_sl
end
end Go.Proofs.YtagkdifaldikgaaGreatDoor
namespace Go.Proofs.YtagkdifaldikgaaGreatDoor
set_option maxRecDepth 100000

def l_strings_HasPrefix : LFunc := ⟨.seq (.reg [⟨some 4,.move (.const (.bool .false)),none⟩]) (.seq (.reg [⟨some 5,.move (.tmp 0),none⟩,⟨some 6,.move (.tmp 1),none⟩,⟨some 7,.call (.func 43) [.tmp 5,.tmp 6],none⟩,⟨some 4,.move (.tmp 7),none⟩]) .ret),8,[.tmp 4]⟩
theorem low_strings_HasPrefix : lowF Tryz.prog 31 = some l_strings_HasPrefix := by kernel_rfl
end Go.Proofs.YtagkdifaldikgaaGreatDoor
