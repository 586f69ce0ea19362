/-
  Appends of zeros to nothing, appends within the room, calls that hand back an empty slice with room. No statement of the seat is proved here; no conditions.
-/
import Derived.Test.YtjacnfjlocajoaaDoorCap
namespace Go.Proofs.YtjacnfjlocajoaaDoor
open Go.RowKit
set_option linter.unusedVariables false
set_option linter.unusedSimpArgs false

section
variable {P : Program} {R : Env → Heap → Prop} {Λ : Lams} {H : Heap} {env : Env}
theorem op_appN0 {G : Ghost} {Z : Nat → Prop} {w : World} {act : Act} (st : St P G H Z w) (he : EnvR G Z w env act.tmps) {cc : Oper} {ee sz bytes : Nat} {z : List FV} {s x : Operand} (hl : lowOp P cc.op = some (.appendN ee sz bytes z s x)) {k t vt : Nat} {q : IntKind} (hs : evA env s = .f .nil) (hx : evA env x = .f (.int q (k : Nat)))
  (hk : 0 < k) (hb : k * bytes ≤ 281474976710656) (h63 : (k : Int) ≤ 9223372036854775807) (ht : H t = (vt,none)) :
  OpTo P cc G H Z w act (fun v H' => (∃ gc,k ≤ gc ∧ gc ≤ maxLen ∧ v = .slc t (vt + 1) sz 0 k gc) ∧ H' = upd H t (vt + 1,some (.cells (zeros k z)))) := by
 obtain ⟨cl,ty,tx,e,kn,h1,h2,h3,h4,h5,h6,h7,h8,h9,hpos,hbp⟩ := lowOp_appendN hl
 have hu := elemOf_inv h5
 obtain ⟨inf,zv,hinf,hzv,hzo,hzs,hzz⟩ := zeroCells_inv h9
 have hsz : inf.size = sz := by unfold sizeOf? at h6;rw [hinf] at h6;simpa using h6
 have hby : inf.bytes = bytes := by unfold bytesOf? at h7;rw [hinf] at h7;simpa using h7
 have hr := he.eval s
 rw [hs] at hr
 obtain ⟨A,hv⟩ := hr.nil_
 have hxv := he.eval x
 rw [hx] at hxv
 have hxv2 := hxv.int_
 have hml : k ≤ maxLen := by unfold maxLen;omega
 have hfirst : (Builtin.firstCells inf.size 0 (.slice A 0 0)).run P w.drew = .ok ([] : List Value).toArray w.drew := by
  cases A with
  | none => exact run_firstCells_none w.drew inf.size 0 0 0
  | some a => exact run_firstCells_some w.drew inf.size 0 a 0 0 [] (by simp) (fun j u hu => by simp at hu)
 have hrun := Lib.run_append_grow_zeros (P := P) w ty tx cc.type e inf zv q kn hu h8 hinf hzv A 0 0 [] hfirst k hk (by omega) (by omega) (by simpa using h63) (by rw [hby];exact hb) (by rw [Nat.zero_add,nextslicecap_zero hk,hby];exact hb)
 rw [Nat.zero_add] at hrun
 have hge := grownCap_ge w k 0 e
 have hle := grownCap_le_maxLen w k 0 e hml
 obtain ⟨gc,hgc⟩ : ∃ gc,grownCap w k 0 e = gc := ⟨_,rfl⟩
 rw [hgc] at hrun hge hle
 have hzm : Builtin.zeroCells zv.cells k = madeCells zv.cells (k * sz) := by
  unfold Builtin.zeroCells madeCells
  rw [show zv.cells.size = sz by omega]
 have hzlen : (zeros k z).length = k * sz := by
  rw [hzz,zeros,List.length_map,flatten_len (sz := sz) _ (fun y hy => by rw [List.eq_of_mem_replicate hy,List.length_map,Array.length_toList];omega),List.length_replicate]
 have hzlen2 : (Builtin.zeroCells zv.cells k).size = k * sz := by rw [size_zeroCells,show zv.cells.size = sz by omega]
 have hcells : CellsR (RepA G Z w) (Builtin.zeroCells zv.cells k ++ Builtin.zeroCells zv.cells (gc - k)) 0 (zeros k z) := by
  intro j a ha
  have hj := (List.getElem?_eq_some_iff.1 ha).1
  rw [hzz] at ha
  obtain ⟨u,g1,g2,g3⟩ := (arr_zeros (G := G) (Z := Z) (w := w) (n := k) (sz := sz) hzo (by omega)).2 j a ha
  refine ⟨u,?_,g2,g3⟩
  rw [Array.getElem?_append_left (by rw [hzlen2];omega),hzm]
  exact g1
 have hones : ∀ (i : Nat) (v : Value),(Builtin.zeroCells zv.cells k ++ Builtin.zeroCells zv.cells (gc - k))[i]? = some v → v.oneCell' = true := fun i v hv => by
  rw [Array.getElem?_append] at hv
  split at hv
  ·exact ones_zeros hzo _ _ hv
  ·exact ones_zeros hzo _ _ hv
 obtain ⟨s1,s2⟩ := st.newAt (id := t) (ver' := vt + 1) (by rw [ht];exact Nat.lt_succ_self _) (e := e) hcells hones
 have hsize : (Builtin.zeroCells zv.cells k ++ Builtin.zeroCells zv.cells (gc - k)).size = gc * sz := by
  rw [Array.size_append,hzlen2,size_zeroCells,hzs,hsz,← Nat.add_mul]
  congr 1;omega
 intro K X hK
 unfold Oper.wp
 have : (execOp act.eval cc).run P w = .ok (.value (.slice (some ⟨w.heap.size,0,none⟩) k gc)) (w.drew.alloc (.cells (Builtin.zeroCells zv.cells k ++ Builtin.zeroCells zv.cells (gc - k)) e)) := by
  simp only [execOp,h1,resolve,h2,h3,h4,invoke,builtin]
  simp [hv,hxv2,hrun]
 rw [this,Oper.upon_value]
 refine hK _ _ _ _ Z _ ⟨⟨gc,hge,hle,rfl⟩,rfl⟩ s1 s2 ?_
 have := RepA.slcLive (G := upd G t (vt + 1,some (some (w.heap.size,0)))) (Z := Z) (w := w.drew.alloc (.cells (Builtin.zeroCells zv.cells k ++ Builtin.zeroCells zv.cells (gc - k)) e)) t (vt + 1) sz 0 k gc w.heap.size 0 (by simp) hge hle
  ⟨_,e,(0,0),heap_alloc_new w.drew _,by rw [hsize];simp⟩
 simpa using this
theorem ax_appN0 {dst : Option Nat} {g : Option (Nat × Bool)} {los : List LO} {k : List It} {ee sz bytes : Nat} {z : List FV} {s x : Operand} {m : Nat} (t vt : Nat) {q : IntKind} (hs : evA env s = .f .nil) (hx : evA env x = .f (.int q (m : Nat)))
  (hk : 0 < m) (hb : m * bytes ≤ 281474976710656) (h63 : (m : Int) ≤ 9223372036854775807) (ht : H t = (vt,none))
  (h : ∀ gc,m ≤ gc → gc ≤ maxLen → Ax P R Λ (.ops los :: k) (putE env dst (.slc t (vt + 1) sz 0 m gc)) (upd H t (vt + 1,some (.cells (zeros m z))))) (hg : gd g env = some true := by rfl) : Ax P R Λ (.ops (⟨dst,.appendN ee sz bytes z s x,g⟩ :: los) :: k) env H :=
 ax_opGen hg (fun cc hl G Z w act st he => op_appN0 st he hl hs hx hk hb h63 ht) (fun v H' hq => by obtain ⟨⟨gc,h1,h2,rfl⟩,rfl⟩ := hq;exact h gc h1 h2)
theorem op_appS {G : Ghost} {Z : Nat → Prop} {w : World} {act : Act} (st : St P G H Z w) (he : EnvR G Z w env act.tmps) {cc : Oper} {ee sz bytes : Nat} {s x : Operand} (hl : lowOp P cc.op = some (.append false ee sz bytes s x)) {id ver off n c m : Nat} {cs news : List AV} (hs : evA env s = .slc id ver sz off n c) (hx : srcF false sz (evA env x) = some (m,news)) (hc : cellsOf ver (H id) = some cs)
  (hroom : n + m ≤ c) (hin2 : (off + n + m) * sz ≤ cs.length) : OpTo P cc G H Z w act (fun v H' => v = .slc id ver sz off (n + m) c ∧ H' = upd H id (ver,some (.cells (splice cs ((off + n) * sz) news)))) := by
 obtain ⟨cl,ty,tx,e,e',h1,h2,h3,h4,h5,h6,h7,h8,h9⟩ := lowOp_append hl
 have hu := elemOf_inv h5
 unfold sizeOf? at h6
 cases hinf : P.info? e with
 | none => rw [hinf] at h6;cases h6
 | some inf =>
 rw [hinf] at h6
 have hsz2 : inf.size = sz := by simpa using h6
 have hr := he.eval s
 rw [hs] at hr
 obtain ⟨loc,hG,hob,hH⟩ := st.cells hc
 have hsa := srcF_ok (P := P) (tx := tx) hx (he.eval x) (by rw [if_neg (by decide)];exact ⟨e',h8⟩)
 have hnl := hsa.len
 obtain ⟨us,hsrc,hul,hus⟩ := hsa
 obtain ⟨g',o',rfl,hv,hnc,hcm,arr,et,fz,hh,hr2⟩ := hr.slc_ hG
 obtain ⟨arr2,et2,hh2,hcc⟩ := hob
 rw [hh] at hh2
 simp only [Option.some.injEq,Obj.cells.injEq] at hh2
 obtain ⟨rfl,rfl,rfl⟩ := hh2
 have hlen : us.length = m * sz := by rw [hul,hnl]
 have hspace : o' + off * sz + n * sz + us.length ≤ arr.size := by
  have : (n + m) * sz ≤ c * sz := Nat.mul_le_mul_right _ hroom
  rw [Nat.add_mul] at this
  rw [Nat.add_mul] at hr2
  omega
 have hcell : ∀ j,j < us.length → ∃ u,w.cell? ⟨g',o' + off * sz + n * sz + j,none⟩ = some u := fun j hj => by
  rw [cell_of_row w g' _ arr et (0,0) hh]
  exact ⟨_,Array.getElem?_eq_getElem (by omega)⟩
 have hrun := run_append_room_src (P := P) w ty tx cc.type e inf hu hinf g' (o' + off * sz) n c (act.eval x) m us (by rw [hsz2];exact hsrc) hroom
  (fun j hj => by rw [hsz2];obtain ⟨u,hu2⟩ := hcell j hj;rw [hu2];rfl) (fun j hj => by simp [World.frozen?,hh])
 rw [hsz2,show o' + off * sz + n * sz = o' + (off + n) * sz by rw [Nat.add_mul];omega] at hrun
 obtain ⟨s1,s2⟩ := st.write (off := (off + n) * sz) hH hG hul (by rw [← hul,hlen,← Nat.add_mul];exact hin2) hus
 intro K X hK
 unfold Oper.wp
 have : (execOp act.eval cc).run P w = .ok (.value (.slice (some ⟨g',o' + off * sz,none⟩) (n + m) c)) (w.setCells g' (o' + (off + n) * sz) us) := by
  simp [execOp,h1,resolve,h2,h3,h4,invoke,builtin,hv,hrun]
 rw [this,Oper.upon_value]
 obtain ⟨arr',k1,k2,k3,k4⟩ := setCells_heap g' et (0,0) us (o' + (off + n) * sz) w arr hh
 exact hK _ _ _ G Z _ ⟨rfl,rfl⟩ s1 s2 (.slcLive _ _ _ _ _ _ _ _ hG hroom hcm ⟨arr',et,_,k1,by rw [k2];exact hr2⟩)
theorem ax_appS {dst : Option Nat} {g : Option (Nat × Bool)} {los : List LO} {k : List It} {ee sz bytes : Nat} {s x : Operand} {id ver off n c m : Nat} {cs news : List AV} (hs : evA env s = .slc id ver sz off n c) (hx : srcF false sz (evA env x) = some (m,news)) (hc : cellsOf ver (H id) = some cs)
  (hroom : n + m ≤ c) (hin2 : (off + n + m) * sz ≤ cs.length)
  (h : Ax P R Λ (.ops los :: k) (putE env dst (.slc id ver sz off (n + m) c)) (upd H id (ver,some (.cells (splice cs ((off + n) * sz) news))))) (hg : gd g env = some true := by rfl) : Ax P R Λ (.ops (⟨dst,.append false ee sz bytes s x,g⟩ :: los) :: k) env H :=
 ax_opGen hg (fun cc hl G Z w act st he => op_appS st he hl hs hx hc hroom hin2) (fun v H' hq => by obtain ⟨rfl,rfl⟩ := hq;exact h)
theorem ax_cap0 {d : Option Nat} {x : Operand} {g : Option (Nat × Bool)} {los : List LO} {k : List It} (hx : evA env x = .f .nil)
  (h : Ax P R Λ (.ops los :: k) (putE env d (.f (.int .i64 0))) H) (hg : gd g env = some true := by rfl) : Ax P R Λ (.ops (⟨d,.cap x,g⟩ :: los) :: k) env H := by
 refine ax_opGen (Q := fun v H' => v = .f (.int .i64 0) ∧ H' = H) hg (fun cc hl G Z w a st he => ?_) (fun v H' hq => by obtain ⟨rfl,rfl⟩ := hq;exact h)
 obtain ⟨cl,t,e,h1,h2,h3,h4,h5⟩ := lowOp_cap hl
 have hr := he.eval x
 rw [hx] at hr
 obtain ⟨A,hv⟩ := hr.nil_
 intro K X hK
 unfold Oper.wp
 have : (execOp a.eval cc).run P w = .ok (.value (.int .i64 0)) w := by
  simp [execOp,h1,resolve,h2,h3,h4,invoke,builtin,Builtin.cap_,run_underlying h5,hv,goInt]
 rw [this,Oper.upon_value]
 exact hK _ _ _ G Z w ⟨rfl,rfl⟩ st (Step.refl _ _ _) (.f (.int _ _))
def RoomQ (sz N : Nat) (cs : List FV) (r : AV) (H : Heap) : Prop := ∃ id ver gc,r = .slc id ver sz 0 0 gc ∧ N ≤ gc ∧ cellsOf ver (H id) = some (cs.map .f) ∧ N * sz ≤ cs.length
theorem call_room {t : Nat} {f : FuncId} {args : List AV} {H : Heap} {sz N : Nat} {cs : List FV} (hF : FCall P f args H0 (RoomQ sz N cs)) (hN : 0 < N) (hp : args.all AV.pure = true) (hfree : H t = (0,none)) :
  ACall P f args H (fun r H' => (∃ gc,N ≤ gc ∧ r = .slc t 1 sz 0 0 gc) ∧ H' = upd H t (1,some (.cells (cs.map .f)))) := by
 refine ⟨hF.1,fun G Z w vs st hsz hrep => ?_⟩
 have h2 : ∀ (j : Nat) (a : AV) (v : Value),args[j]? = some a → vs[j]? = some v → RepA (fun _ => (0,none)) Z w a v := fun j a v ha hv => (hrep j a v ha hv).pure_ (fun b hb => ⟨hb,rfl⟩) (List.all_eq_true.1 hp a (List.mem_of_getElem? ha))
 have st0 : St P (fun _ => (0,none)) H0 Z w := ⟨fun _ => rfl,fun _ _ => rfl,fun id o h => (by cases h),fun _ _ _ _ _ h => (by cases h),fun _ _ _ h => (by cases h),fun b hb => st.zlt b hb,fun _ _ _ h => (by cases h),fun _ _ _ h => (by cases h)⟩
 refine (hF.2 _ Z w vs st0 hsz h2).mono fun e w1 ⟨v,r,H1,G1,Z1,e1,⟨id,ver,gc,hl,hgN,hc,hin⟩,st1,hh,hr⟩ => ?_
 subst hl
 have nolive : ∀ b,¬ LiveB (fun _ => ((0,none) : Nat × Option (Option (Nat × Nat)))) b := fun b ⟨_,_,h⟩ => by cases h
 have old : ∀ b,b < w.heap.size → w1.heap[b]? = w.heap[b]? := fun b hb => hh.old b hb (nolive b)
 have hz1 : ∀ b,Z1 b → Z b ∨ w.heap.size ≤ b := fun b hb => by
  rcases hh.zout b hb with h | h | h
  ·exact .inl h
  ·exact absurd h (nolive b)
  ·exact .inr h
 have hcur : ∀ b,LiveB G b → b < w.heap.size := fun b ⟨id,o,h⟩ => st.glt _ _ _ h
 have hk : Keep G Z w G (fun b => Z1 b ∧ ¬ LiveB G b) w1 := ⟨fun b hb => ⟨⟨(hh.zin b hb).1,fun ⟨id,o,h⟩ => st.disj _ _ _ h hb⟩,old b (st.zlt b hb)⟩,fun _ => Nat.le_refl _,fun _ _ => .inr rfl,
  fun b arr e fz hl h => ⟨arr,e,fz,by rw [old b (hcur b hl)];exact h,rfl⟩⟩
 have st2 : St P G H (fun b => Z1 b ∧ ¬ LiveB G b) w1 := by
  refine ⟨st.ver,st.dead,fun id o h => ?_,st.inj,fun id g o h hz => hz.2 ⟨id,o,h⟩,fun b hb => st1.zlt b hb.1,fun id g o h => Nat.lt_of_lt_of_le (st.glt _ _ _ h) hh.size,fun id g o h => (st.ones _ _ _ h).same (old g (st.glt _ _ _ h))⟩
  obtain ⟨loc,k1,k2⟩ := st.obj id o h
  refine ⟨loc,k1,?_⟩
  cases loc with
  | none => cases o <;> exact k2
  | some q =>
   obtain ⟨g,ob⟩ := q
   have hb := old g (st.glt _ _ _ k1)
   cases o with
   | cells cs =>
    obtain ⟨arr,e,k3,k4⟩ := k2
    exact ⟨arr,e,hb.trans k3,k4.mono fun a v hr => hr.keep hk⟩
   | map m =>
    obtain ⟨k3,es,clock,k4,k5⟩ := k2
    exact ⟨k3,es,clock,hb.trans k4,k5⟩
 have sp2 : Step G Z w G (fun b => Z1 b ∧ ¬ LiveB G b) w1 := ⟨hk,hh.os,hh.tape,hh.output,hh.size,fun b hb _ => old b hb,fun b hb => (hz1 b hb.1).elim (fun h => .inl h) (fun h => .inr (.inr h)),fun b hb => .inl hb⟩
 have bk : Back P G G1 H1 Z Z1 (fun b => Z1 b ∧ ¬ LiveB G b) w w1 (fun _ => true) := ⟨st1,fun b hb => (hh.live b hb).resolve_left (nolive b),fun b hb => hb.1,fun x v _ h => h.keep fun b hb => ⟨⟨hb,fun hl => by
   obtain ⟨id,o,hl⟩ := hl
   rcases hz1 b hb with h | h
   ·exact st.disj _ _ _ hl h
   ·have := st.glt _ _ _ hl;omega⟩,rfl⟩,hcur⟩
 have hz0 : ∀ j,0 ≤ j → j < 1 → H (t + 1000 * j) = (0,none) := fun j _ hj => by
  have : j = 0 := by omega
  subst this
  exact hfree
 have ow : Own P G G1 Z (fun b => Z1 b ∧ ¬ LiveB G b) w w1 t 0 1 [] G H := ⟨st2,sp2,hz0,fun b hb => .inl hb⟩
 obtain ⟨G',ow',hk',hrep'⟩ := own_c (r := .own sz N cs) (a := .sl id ver sz 0 N) bk ow (.inr ⟨id,ver,rfl,hc,hin⟩) (by simp [RC.all]) (fun id _ h => by cases h) (by simp [nextC])
 have hHt : cellsOf 1 (putHc t 0 (.own sz N cs) H t) = some (cs.map .f) := by
  show cellsOf 1 (upd H (t + 1000 * 0) (1,some (.cells (cs.map .f))) t) = _
  rw [Nat.mul_zero,Nat.add_zero,upd_same];rfl
 obtain ⟨loc',hG',_⟩ := ow'.st.cells hHt
 obtain ⟨loc1,hG1,_⟩ := bk.st1.cells hc
 obtain ⟨g,o,rfl,hv,hnc,hcm,arr,et,fz,hh1,hroom⟩ := hr.slc_ hG1
 have h3 := hrep' _ (RepA.slLive id ver sz 0 N g o gc hG1 hgN hcm ⟨arr,et,fz,hh1,hroom⟩)
 refine ⟨v,_,_,G',_,e1,⟨⟨gc,hgN,rfl⟩,?_⟩,ow'.st,ow'.sp,?_⟩
 ·show upd H (t + 1000 * 0) _ = _
  rw [Nat.mul_zero,Nat.add_zero]
 ·have h3' : RepA G' (fun b => Z1 b ∧ ¬ LiveB G b) w1 (.sl t 1 sz 0 N) (.slice (some ⟨g,o + 0 * sz,none⟩) N gc) := by
   have : (t + 1000 * 0) = t := by omega
   rw [putC,this] at h3
   exact h3
  rcases h3'.sl_ hG' with ⟨h0,_⟩ | ⟨g',o',c',rfl,h4,h5,h6,arr',et',fz',h7,h8⟩
  ·omega
  ·simp only [Value.slice.injEq,Option.some.injEq,Addr.mk.injEq] at h4
   obtain ⟨⟨rfl,h9,_⟩,_,rfl⟩ := h4
   obtain rfl : o = o' := by omega
   rw [hv]
   exact .slcLive t 1 sz 0 0 gc g o hG' (Nat.zero_le _) hcm ⟨arr',et',fz',h7,h8⟩
theorem callRoom {d : Nat} {f : Operand} {args : List Operand} {g : Option (Nat × Bool)} {los : List LO} {k : List It} {fid : FuncId} {sz N : Nat} {cs : List FV} (hF : FCall P fid (args.map (evA env)) H0 (RoomQ sz N cs)) (hN : 0 < N) (hfn : evA env f = .f (.fn (.func fid))) (hp : (args.map (evA env)).all AV.pure = true) (hfree : H d = (0,none))
  (h : ∀ gc,N ≤ gc → Ax P R Λ (.ops los :: k) (putE env (some d) (.slc d 1 sz 0 0 gc)) (upd H d (1,some (.cells (cs.map .f))))) (hg : gd g env = some true := by rfl) : Ax P R Λ (.ops (⟨some d,.call f args,g⟩ :: los) :: k) env H :=
 ax_call (f := f) (args := args) rfl hg (Q := fun r H' => (∃ gc,N ≤ gc ∧ r = .slc d 1 sz 0 0 gc) ∧ H' = upd H d (1,some (.cells (cs.map .f)))) (by rw [hfn];exact call_room (t := d) hF hN hp hfree) fun v H' hq => by obtain ⟨⟨gc,h1,rfl⟩,rfl⟩ := hq;exact h gc h1
end
end Go.Proofs.YtjacnfjlocajoaaDoor
