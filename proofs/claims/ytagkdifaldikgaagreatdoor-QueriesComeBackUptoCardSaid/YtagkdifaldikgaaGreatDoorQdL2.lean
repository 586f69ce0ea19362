/-
  The engine: foreign blocks may change. No statement of the seat is proved here; no conditions.
-/
import Derived.Test.YtagkdifaldikgaaGreatDoorPan
import Derived.Test.YtagkdifaldikgaaGreatDoorQdK
import Derived.Tactics
import Derived.Tactics2
import Derived.Defers
import Derived.Recover
import Derived.WalkSmall
import Derived.Laws.Pointers
import Derived.Deep.Draws
namespace Go.Proofs.YtagkdifaldikgaaGreatDoor
open Go.RowKit
set_option linter.unusedVariables false
set_option linter.unusedSimpArgs false

structure Foreign (G : Ghost) (Z : Nat → Prop) (w w' : World) : Prop where
 os : w'.os = w.os
 tape : w'.tape = w.tape
 output : w'.output = w.output
 size : w.heap.size ≤ w'.heap.size
 same : ∀ b,Z b ∨ LiveB G b → w'.heap[b]? = w.heap[b]?
theorem Foreign.keep {G : Ghost} {Z : Nat → Prop} {w w' : World} (h : Foreign G Z w w') : Keep G Z w G Z w' :=
 ⟨fun b hb => ⟨hb,h.same b (.inl hb)⟩,fun _ => Nat.le_refl _,fun _ _ => .inr rfl,fun b arr e fz hl hh => ⟨arr,e,fz,by rw [h.same b (.inr hl)];exact hh,rfl⟩⟩
theorem Foreign.refl (G : Ghost) (Z : Nat → Prop) (w : World) : Foreign G Z w w := ⟨rfl,rfl,rfl,Nat.le_refl _,fun _ _ => rfl⟩
theorem Foreign.trans {G : Ghost} {Z : Nat → Prop} {w w1 w2 : World} (h : Foreign G Z w w1) (h' : Foreign G Z w1 w2) : Foreign G Z w w2 :=
 ⟨h'.os.trans h.os,h'.tape.trans h.tape,h'.output.trans h.output,Nat.le_trans h.size h'.size,fun b hb => by rw [h'.same b hb,h.same b hb]⟩
theorem St.foreign {P : Program} {G : Ghost} {H : Heap} {Z : Nat → Prop} {w w' : World} (st : St P G H Z w) (h : Foreign G Z w w') : St P G H Z w' := by
 have hk := h.keep
 refine ⟨st.ver,st.dead,fun id o ho => ?_,st.inj,st.disj,⟨fun b hb => Nat.lt_of_lt_of_le (st.zlt b hb) h.size,st.zlt.kn.mono fun b hb => ⟨hb,h.same b (.inl hb)⟩⟩,fun id g o hg => Nat.lt_of_lt_of_le (st.glt _ _ _ hg) h.size,fun id g o hg => (st.ones _ _ _ hg).same (h.same g (.inr ⟨id,o,hg⟩))⟩
 obtain ⟨loc,h1,h2⟩ := st.obj id o ho
 refine ⟨loc,h1,?_⟩
 cases loc with
 | none => cases o <;> exact h2
 | some p =>
  obtain ⟨g,ob⟩ := p
  have hg : w'.heap[g]? = w.heap[g]? := h.same g (.inr ⟨id,ob,h1⟩)
  cases o with
  | cells cs =>
   obtain ⟨arr,e,h3,h4⟩ := h2
   exact ⟨arr,e,by rw [hg];exact h3,h4.mono fun a v hr => hr.keep hk⟩
  | ty cs tt =>
   obtain ⟨h00,arr,h3,h4⟩ := h2
   exact ⟨h00,arr,by rw [hg];exact h3,h4.mono fun a v hr => hr.keep hk⟩
  | map m =>
   obtain ⟨h00,es,ck,h3,h4⟩ := h2
   exact ⟨h00,es,ck,by rw [hg];exact h3,h4⟩
theorem Foreign.hist {G : Ghost} {Z : Nat → Prop} {w w' : World} (h : Foreign G Z w w') (hold : ∀ b,b < w.heap.size → w'.heap[b]? = w.heap[b]?) : Hist G Z w G Z w' :=
 ⟨h.os,h.tape,h.output,h.size,fun b hb _ => hold b hb,fun b hb => ⟨hb,h.same b (.inl hb)⟩,fun b hb => .inl hb,fun b hb => .inl hb,fun b arr e fz hl hh => ⟨arr,e,fz,by rw [h.same b (.inr hl)];exact hh,rfl⟩,fun _ _ => Nat.le_refl _,fun _ _ _ => .inr rfl⟩
end Go.Proofs.YtagkdifaldikgaaGreatDoor
namespace Go.Proofs.YtagkdifaldikgaaGreatDoor
open Go.RowKit Go.Shelf
set_option linter.unusedVariables false
set_option linter.unusedSimpArgs false
set_option maxRecDepth 100000

theorem catch_idle (p q r : Addr) (w : World) :
  CallsD Tryz.prog 18 #[.pointer (some p),.pointer (some q),.pointer (some r)] .returning w fun e u' w' => e = .returned (.tuple #[]) ∧ u' = .returning ∧ w' = w := by
 refine callsD_of_wpS Tryz.func18 rfl fun c₀ cs hu => ?_
 apply wpS_seq
 apply wpS_region
 simp [wpOpsS,go_sem,recoverD,hu,Tryz.ntmps18,Exit.thenS]
 apply wpS_seq
 apply wpS_region
 simp [wpOpsS,go_sem,Exit.thenS]
 refine wpS_cond (t := false) (by simp [Act.eval,Array.replicate]) ?_
 simp only [Bool.false_eq_true,if_false]
 refine wpS_of_wp (wp_skip ?_)
 cases c₀
 simp_all [bodyPostS,results,Tryz.results18]
theorem run_wrong (v : Value) (w : World) : (Instr.typeAssert (.iface 51 v) 20 51 true).run Tryz.prog w = .ok (.tuple #[v,.bool true]) w := by
 have hu : (Tryz.prog.underlying 51).map (fun d => match d with | .struct _ => true | _ => false) = some true := by kernel_rfl
 obtain ⟨d,h1,h2⟩ := Option.map_eq_some_iff.1 hu
 cases d with
 | struct fs => simp [Instr.typeAssert,run_underlying h1]
 | _ => cases h2
end Go.Proofs.YtagkdifaldikgaaGreatDoor
namespace Go.Proofs.YtagkdifaldikgaaGreatDoor
open Go.RowKit Go.Shelf
set_option linter.unusedVariables false
set_option linter.unusedSimpArgs false
set_option maxRecDepth 100000

set_option maxHeartbeats 4000000 in
theorem catch_pan (B : Nat) (n : Int) (older : List PanicEntry) (w : World) (c0 c1 c2 c3 d0 e0 : Value) (b0 : ¬ w.heap.size = B) (b1 : ¬ w.heap.size = B + 1) (b2 : ¬ w.heap.size = B + 1 + 1) (b3 : ¬ B = w.heap.size) (b4 : ¬ B + 1 = w.heap.size) (b5 : ¬ B + 1 + 1 = w.heap.size)
  (k0 : (w.alloc (.cells #[.int .i64 n] 51)).cell? ⟨B,0,none⟩ = some c0) (k1 : (w.alloc (.cells #[.int .i64 n] 51)).cell? ⟨B,1,none⟩ = some c1) (k2 : (w.alloc (.cells #[.int .i64 n] 51)).cell? ⟨B,2,none⟩ = some c2) (k3 : (w.alloc (.cells #[.int .i64 n] 51)).cell? ⟨B,3,none⟩ = some c3)
  (k4 : (w.alloc (.cells #[.int .i64 n] 51)).cell? ⟨B + 1,0,none⟩ = some d0) (k5 : (w.alloc (.cells #[.int .i64 n] 51)).cell? ⟨B + 1 + 1,0,none⟩ = some e0)
  (f0 : (w.alloc (.cells #[.int .i64 n] 51)).frozen? ⟨B,0,none⟩ = false) (f1 : (w.alloc (.cells #[.int .i64 n] 51)).frozen? ⟨B,1,none⟩ = false) (f2 : (w.alloc (.cells #[.int .i64 n] 51)).frozen? ⟨B,2,none⟩ = false) (f3 : (w.alloc (.cells #[.int .i64 n] 51)).frozen? ⟨B,3,none⟩ = false)
  (f4 : (w.alloc (.cells #[.int .i64 n] 51)).frozen? ⟨B + 1,0,none⟩ = false) (f5 : (w.alloc (.cells #[.int .i64 n] 51)).frozen? ⟨B + 1 + 1,0,none⟩ = false) :
  CallsD Tryz.prog 18 #[.pointer (some ⟨B,0,none⟩),.pointer (some ⟨B + 1,0,none⟩),.pointer (some ⟨B + 1 + 1,0,none⟩)] (.panicking ({ v := .iface 51 (.agg #[.int .i64 n]),recovered := false } :: older)) w fun e u' w' =>
   e = .returned (.tuple #[]) ∧ u' = .panicking ({ v := .iface 51 (.agg #[.int .i64 n]),recovered := true } :: older) ∧
   ∃ k,w' = (((((((w.alloc (.cells #[.int .i64 n] 51)).setCell ⟨B,0,none⟩ (.int .i64 0)).setCell ⟨B,1,none⟩ (.string ⟨#[]⟩)).setCell ⟨B,2,none⟩ (.int .i64 0)).setCell ⟨B,3,none⟩ (.slice none 0 0)).setCell ⟨B + 1,0,none⟩ (.int .i64 n)).setCell ⟨B + 1 + 1,0,none⟩ (.bool false)).drewN k := by
 refine callsD_of_wpS Tryz.func18 rfl fun c₀ cs hu => ?_
 apply wpS_seq
 apply wpS_region
 simp [wpOpsS,go_sem,recoverD,hu,Tryz.ntmps18,Exit.thenS]
 apply wpS_seq
 apply wpS_region
 simp [wpOpsS,go_sem,Exit.thenS]
 refine wpS_cond (t := true) (by simp [Act.eval,Array.replicate]) ?_
 simp only [if_true]
 refine wpS_of_wp ?_
 change Code.wp _ _ _ { tmps := #[.pointer (some ⟨B,0,none⟩),.pointer (some ⟨B + 1,0,none⟩),.pointer (some ⟨B + 1 + 1,0,none⟩),.iface 51 (.agg #[.int .i64 n]),undef,undef,.iface 51 (.agg #[.int .i64 n]),.iface 51 (.agg #[.int .i64 n]),.bool true,undef,undef,undef,undef,undef,undef,undef,undef,undef,undef,undef],defers := [] } _
 go_wp2_with fail
 rw [run_wrong]
 simp only [Result.andThen]
 rw [Oper.upon_value]
 go_wp2_with fail
 go_region
 exact ⟨rfl,_,rfl,.tuple #[],by simp [results,Tryz.results18],rfl,rfl,1,rfl⟩
end Go.Proofs.YtagkdifaldikgaaGreatDoor
