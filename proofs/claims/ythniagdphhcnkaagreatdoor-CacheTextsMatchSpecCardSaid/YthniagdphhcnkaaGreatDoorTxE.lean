/-
  strings.Builder as an object of a walk: a block whose type is known; bytes appended to a row whose type is known; copyCheck and String as calls that share the high numbers. No statement of the seat is proved here; no conditions.
-/
import Derived.Test.YthniagdphhcnkaaGreatDoorTxB
import Derived.Test.YthniagdphhcnkaaGreatDoorCap
namespace Go.Proofs.YthniagdphhcnkaaGreatDoor
open Go.RowKit Go.Shelf
set_option linter.unusedVariables false
set_option linter.unusedSimpArgs false
set_option maxRecDepth 100000

section
variable {P : Program} {R : Env → Heap → Prop} {Λ : Lams} {env : Env} {H : Heap}
theorem St.newTy {G : Ghost} {Z : Nat → Prop} {w : World} (st : St P G H Z w) {id ver' : Nat} (hlt : (H id).1 < ver') {arr : Array Value} {e : TypeId} {cs : List AV} (hc : CellsR (RepA G Z w) arr 0 cs) (hon : OnesA arr) :
  St P (upd G id (ver',some (some (w.heap.size,0)))) (upd H id (ver',some (.ty cs e))) Z (w.alloc (.cells arr e)) ∧ Step G Z w (upd G id (ver',some (some (w.heap.size,0)))) Z (w.alloc (.cells arr e)) := by
 refine st.change id w.heap.size (Only.alloc w _) _ _ (.inl rfl) (.inl (by simp)) rfl (Nat.le_of_lt hlt) (fun h => ?_) (.inr (.inr ⟨0,rfl⟩)) (fun _ => ones_new w hon) (fun h => by cases h) fun o ho => ⟨_,rfl,fun hk => ?_⟩
 ·exact absurd h (by simp only;omega)
 ·obtain rfl := Option.some.inj ho
  exact ⟨rfl,arr,heap_alloc_new w _,hc.mono fun a v hr => hr.keep hk⟩
theorem St.newTyD {G : Ghost} {Z : Nat → Prop} {w : World} (st : St P G H Z w) {id ver' : Nat} (hlt : (H id).1 < ver') {arr : Array Value} {e : TypeId} {cs : List AV} (hc : CellsR (RepA G Z w) arr 0 cs) (hon : OnesA arr) :
  St P (upd G id (ver',some (some (w.heap.size,0)))) (upd H id (ver',some (.ty cs e))) Z (w.drew.alloc (.cells arr e)) ∧ Step G Z w (upd G id (ver',some (some (w.heap.size,0)))) Z (w.drew.alloc (.cells arr e)) := by
 refine st.change id w.heap.size ((Only.drew _ w).trans (Only.alloc w.drew _)) _ _ (.inl rfl) (.inl (by simp)) rfl (Nat.le_of_lt hlt) (fun h => ?_) (.inr (.inr ⟨0,rfl⟩)) (fun _ => ones_new w.drew hon) (fun h => by cases h) fun o ho => ⟨_,rfl,fun hk => ?_⟩
 ·exact absurd h (by simp only;omega)
 ·obtain rfl := Option.some.inj ho
  exact ⟨rfl,arr,heap_alloc_new w.drew _,hc.mono fun a v hr => hr.keep hk⟩
theorem lowOp_alloc {c : Oper} {e : TypeId} {z : List FV} (h : lowOp P c.op = some (.alloc e z)) : c.op = .alloc e ∧ zeroCellsOf P e = some z := by
 cases ho : c.op <;> rw [ho] at h <;> simp only [lowOp] at h <;> try (cases h;done)
 case alloc =>
  obtain ⟨z',h1,h2⟩ := Option.map_eq_some_iff.1 h
  simp only [LOp.alloc.injEq] at h2
  obtain ⟨rfl,rfl⟩ := h2
  exact ⟨rfl,h1⟩
 case call cl => repeat' (first|cases h;done | split at h)
 case binOp =>
  split at h
  ·rename_i hn
   obtain rfl := Option.some.inj h
   obtain ⟨_,_,⟨h1,_⟩ | ⟨h1,_⟩⟩ := nilOf_inv hn <;> cases h1
  ·split at h
   ·rename_i hn
    obtain rfl := Option.some.inj h
    obtain ⟨_,_,neg,h1,_⟩ := eqOf_inv hn
    cases h1
   ·cases h
 case load => obtain ⟨_,_,h⟩ := Option.map_eq_some_iff.1 h;cases h
 case store => obtain ⟨_,_,h⟩ := Option.map_eq_some_iff.1 h;cases h
 case build =>
  split at h
  ·split at h
   ·obtain ⟨_,_,h⟩ := Option.map_eq_some_iff.1 h;cases h
   ·cases h
  ·cases h
 case field =>
  split at h
  ·obtain ⟨_,_,h⟩ := Option.map_eq_some_iff.1 h;cases h
  ·cases h
 case indexAddr =>
  split at h
  ·obtain ⟨_,_,h⟩ := Option.map_eq_some_iff.1 h;cases h
  ·cases h
 all_goals
  repeat' (first|cases h;done | split at h)
theorem op_allocTy {G : Ghost} {Z : Nat → Prop} {w : World} {act : Act} (st : St P G H Z w) {cc : Oper} {e : TypeId} {z : List FV} (hl : lowOp P cc.op = some (.alloc e z)) (id ver : Nat) (hd : H id = (ver,none)) :
  OpTo P cc G H Z w act (fun v H' => v = .ptr id (ver + 1) 0 ∧ H' = upd H id (ver + 1,some (.ty (z.map .f) e))) := by
 obtain ⟨ho,hz⟩ := lowOp_alloc hl
 obtain ⟨i,zv,hi,hzv,h1,_,rfl⟩ := zeroCells_inv hz
 obtain ⟨s1,s2⟩ := st.newTy (id := id) (ver' := ver + 1) (by rw [hd];exact Nat.lt_succ_self _) (e := e) (cellsR_zero (G := G) (Z := Z) (w := w) h1) (ones_all h1)
 intro K X hK
 unfold Oper.wp
 have : (execOp act.eval cc).run P w = .ok (.value (.pointer (some ⟨w.heap.size,0,none⟩))) (w.alloc (.cells zv.cells e)) := by
  simp [execOp,ho,Instr.alloc,zeroValue,typeInfo,hi,hzv,newVar,newRow]
 rw [this,Oper.upon_value]
 refine hK _ _ _ _ Z _ ⟨rfl,rfl⟩ s1 s2 ?_
 have := RepA.ptrLive (G := upd G id (ver + 1,some (some (w.heap.size,0)))) (Z := Z) (w := w.alloc (.cells zv.cells e)) id (ver + 1) 0 w.heap.size 0 (by simp)
 simpa using this
theorem ax_allocTy {dst : Option Nat} {g : Option (Nat × Bool)} {los : List LO} {k : List It} {e : TypeId} {z : List FV} (id : Nat) (h : Ax P R Λ (.ops los :: k) (putE env dst (.ptr id 1 0)) (upd H id (1,some (.ty (z.map .f) e)))) (hd : H id = (0,none) := by rfl) (hg : gd g env = some true := by rfl) : Ax P R Λ (.ops (⟨dst,.alloc e z,g⟩ :: los) :: k) env H :=
 ax_opGen hg (fun cc hl G Z w act st he => op_allocTy st hl id 0 hd) (fun v H' hq => by obtain ⟨rfl,rfl⟩ := hq;exact h)
theorem lowOp_appendS {c : Oper} {ee sz bytes : Nat} {s x : Operand} (h : lowOp P c.op = some (.append true ee sz bytes s x)) : ∃ cl ty tx,c.op = .call cl ∧ cl.callee = .builtin .append ∧ cl.args = #[s,x] ∧ cl.argTypes = #[ty,tx] ∧ elemOf? P ty = some ee ∧ sizeOf? P ee = some sz ∧ bytesOf? P ee = some bytes ∧ P.underlying tx = some .string ∧ (zeroCellsOf P ee).isSome = true := by
 cases ho : c.op <;> rw [ho] at h <;> simp only [lowOp] at h <;> try (cases h;done)
 case call cl =>
  split at h
  case h_4 =>
   rename_i hc
   split at h
   case h_2 => cases h
   rename_i y t0 ty tx ha hat
   split at h
   case h_2 => cases h
   rename_i e he
   split at h
   case h_2 => cases h
   rename_i sz2 by2 hs hb
   split at h
   case isFalse => cases h
   rename_i hz
   split at h
   ·rename_i hx
    simp only [Option.some.injEq,LOp.append.injEq] at h
    obtain ⟨_,rfl,rfl,rfl,rfl,rfl⟩ := h
    exact ⟨cl,ty,tx,rfl,hc,arr2 ha,arr2 hat,he,hs,hb,isStr_inv hx,hz.2.2⟩
   ·split at h
    ·simp at h
    ·split at h <;> cases h
  all_goals repeat' (first|cases h;done | split at h)
 case binOp =>
  split at h
  ·rename_i hn
   obtain rfl := Option.some.inj h
   obtain ⟨_,_,⟨h1,_⟩ | ⟨h1,_⟩⟩ := nilOf_inv hn <;> cases h1
  ·split at h
   ·rename_i hn
    obtain rfl := Option.some.inj h
    obtain ⟨_,_,neg,h1,_⟩ := eqOf_inv hn
    cases h1
   ·cases h
 case alloc => obtain ⟨_,_,h⟩ := Option.map_eq_some_iff.1 h;cases h
 case load => obtain ⟨_,_,h⟩ := Option.map_eq_some_iff.1 h;cases h
 case store => obtain ⟨_,_,h⟩ := Option.map_eq_some_iff.1 h;cases h
 case build =>
  split at h
  ·split at h
   ·obtain ⟨_,_,h⟩ := Option.map_eq_some_iff.1 h;cases h
   ·cases h
  ·cases h
 case field =>
  split at h
  ·obtain ⟨_,_,h⟩ := Option.map_eq_some_iff.1 h;cases h
  ·cases h
 case indexAddr =>
  split at h
  ·obtain ⟨_,_,h⟩ := Option.map_eq_some_iff.1 h;cases h
  ·cases h
 all_goals
  repeat' (first|cases h;done | split at h)
theorem app_growTy {G : Ghost} {Z : Nat → Prop} {w : World} {ty tx tt e : TypeId} {i : TypeInfo} {z : Value} {bytes : Nat} (st : St P G H Z w) (ht : P.underlying ty = some (.slice e)) (hi : P.info? e = some i) (hz : i.zero = some z) (hsz : i.size = 1) (hzs : z.cells.size = 1) (hzo : z.cells.toList.all (·.oneCell') = true) (hby : i.bytes = bytes)
  {id ver' : Nat} (hlt : (H id).1 < ver') {A : Option Addr} {n c : Nat} {olds : List AV} (holds : olds.length = n)
  (hbase : (n = 0) ∨ ∃ b o,A = some ⟨b,o,none⟩ ∧ Wnd (RepA G Z w) w b o olds) {xv : Value} {m : Nat} {news : List AV} (hs : SrcA P G Z w 1 tx xv m news)
  (hc : c < n + m) (hnc : n ≤ c) (hb : (n + m) * bytes ≤ 140737488355328) (hml : n + m ≤ maxLen) :
  AppOk P (Builtin.append_ #[ty,tx] tt #[.slice A n c,xv]) G H Z w (.sl id ver' 1 0 (n + m)) (upd H id (ver',some (.ty (olds ++ news) e))) := by
 obtain ⟨us,hsrc,hul,hus⟩ := hs
 obtain ⟨os,hos1,hos2,hos3⟩ : ∃ os : List Value,os.length = n ∧ (Builtin.firstCells i.size n (.slice A n c)).run P w.drew = .ok os.toArray w.drew ∧ ∀ (j : Nat) (a : AV),olds[j]? = some a → ∃ u,os[j]? = some u ∧ u.oneCell' = true ∧ RepA G Z w a u := by
  rcases hbase with rfl | ⟨b,o,rfl,hw⟩
  ·refine ⟨[],by simp,?_,fun j a ha => ?_⟩
   ·cases A with
    | none => exact run_firstCells_none w.drew i.size 0 0 c
    | some a => exact run_firstCells_some w.drew i.size 0 a 0 c [] (by simp) (fun j u h => by simp at h)
   ·have : olds = [] := List.eq_nil_of_length_eq_zero holds
    subst this;simp at ha
  ·obtain ⟨os,h3,h4,h5,h6⟩ := hw.list
   exact ⟨os,by omega,run_firstCells_some w.drew i.size n _ n c os (by rw [hsz];omega) (fun j u hu => by rw [Addr.add_mid];simpa using h4 j u hu),h6⟩
 have h63 : ((n + m : Nat) : Int) ≤ 9223372036854775807 := by unfold maxLen at hml;omega
 have hrun := run_append_grow_src (P := P) w ty tx tt e i z ht hi hz A n c os hos2 xv m us (by rw [hsz];exact hsrc) hc h63 (growslice_fits hc (by rw [hby];exact hb))
 have hge := grownCap_ge w (n + m) c e
 have hle := grownCap_le_maxLen w (n + m) c e hml
 obtain ⟨gc,hgc⟩ : ∃ gc,grownCap w (n + m) c e = gc := ⟨_,rfl⟩
 rw [hgc] at hrun hge hle
 have hul2 : us.length = m * 1 := hsrc.newsLen
 have hcells : CellsR (RepA G Z w) ((os ++ us).toArray ++ Builtin.zeroCells z.cells (gc - (n + m))) 0 (olds ++ news) := by
  intro j a ha
  rw [Nat.zero_add]
  have key : ∃ u,(os ++ us)[j]? = some u ∧ u.oneCell' = true ∧ RepA G Z w a u := by
   rcases Nat.lt_or_ge j olds.length with hj | hj
   ·rw [List.getElem?_append_left hj] at ha
    obtain ⟨u,h1,h2⟩ := hos3 j a ha
    exact ⟨u,by rw [List.getElem?_append_left (by omega)];exact h1,h2⟩
   ·rw [List.getElem?_append_right hj] at ha
    obtain ⟨u,h1,h2⟩ := hus _ a ha
    exact ⟨u,by rw [List.getElem?_append_right (by omega),show j - os.length = j - olds.length by omega];exact h1,h2⟩
  obtain ⟨u,h1,h2⟩ := key
  refine ⟨u,?_,h2⟩
  have hj := (List.getElem?_eq_some_iff.1 h1).1
  rw [Array.getElem?_append_left (by simpa using hj)]
  simpa using h1
 obtain ⟨s1,s2⟩ := st.newTyD hlt (e := e) hcells (ones_grow (fun u hu => by
   obtain ⟨j,hj⟩ := List.getElem?_of_mem hu
   have hjl := (List.getElem?_eq_some_iff.1 hj).1
   obtain ⟨u',h1,h2,_⟩ := hos3 j _ (List.getElem?_eq_getElem (by omega))
   rw [hj] at h1;obtain rfl := Option.some.inj h1;exact h2) hsrc.one hzo)
 refine ⟨_,_,_,hrun,s1,s2,?_⟩
 have hsize : ((os ++ us).toArray ++ Builtin.zeroCells z.cells (gc - (n + m))).size = gc * 1 := by
  rw [Array.size_append,size_zeroCells,hzs]
  simp only [List.size_toArray,List.length_append]
  omega
 have := RepA.slLive (G := upd G id (ver',some (some (w.heap.size,0)))) (Z := Z) (w := w.drew.alloc (.cells ((os ++ us).toArray ++ Builtin.zeroCells z.cells (gc - (n + m))) e)) id ver' 1 0 (n + m) w.heap.size 0 gc (by simp) hge hle
  ⟨_,e,(0,0),heap_alloc_new w.drew _,by rw [hsize];simp⟩
 simpa using this
theorem op_appTy {G : Ghost} {Z : Nat → Prop} {w : World} {act : Act} (st : St P G H Z w) (he : EnvR G Z w env act.tmps) {cc : Oper} {ee bytes : Nat} {s x : Operand} (hl : lowOp P cc.op = some (.append true ee 1 bytes s x)) (hbp : bytes ≠ 0) {y : ByteArray} (hx : evA env x = .f (.str y)) {id ver n : Nat}
  (hs : (evA env s = .f .nil ∧ n = 0 ∧ 0 < y.size ∧ H id = (ver,none)) ∨ (evA env s = .sl id ver 1 0 n ∧ 0 < n ∧ ∃ cs,H id = (ver,some (.ty cs ee)) ∧ cs.length = n)) (hb : (n + y.size) * bytes ≤ 140737488355328) :
  OpTo P cc G H Z w act (fun v H' => v = .sl id (ver + 1) 1 0 (n + y.size) ∧ H' = upd H id (ver + 1,some (.ty ((match (H id).2 with | some (.ty cs _) => cs | _ => []) ++ bytesL y) ee))) := by
 obtain ⟨cl,ty,tx,h1,h2,h3,h4,h5,h6,h7,h8,h9⟩ := lowOp_appendS hl
 obtain ⟨zz,hzz⟩ := Option.isSome_iff_exists.1 h9
 obtain ⟨i,z,hi,hzv,hzo,hzs,_⟩ := zeroCells_inv hzz
 have hu := elemOf_inv h5
 have hsz : i.size = 1 := by unfold sizeOf? at h6;rw [hi] at h6;simpa using h6
 have hby : i.bytes = bytes := by unfold bytesOf? at h7;rw [hi] at h7;simpa using h7
 have hzs2 : z.cells.size = 1 := by omega
 have hsv := he.eval s
 have hxv := he.eval x
 rw [hx] at hxv
 have hsrc : SrcA P G Z w 1 tx (act.eval x) y.size (bytesL y) := srcF_ok (str := true) (a := .f (.str y)) (by simp [srcF]) hxv (by simpa using h8)
 have hml := le_maxLen hb hbp
 have fin : ∀ {v : AV} {H' : Heap},AppOk P (Builtin.append_ #[ty,tx] cc.type #[act.eval s,act.eval x]) G H Z w v H' → OpTo P cc G H Z w act (fun v' H'' => v' = v ∧ H'' = H') := fun {v H'} hA => by
  obtain ⟨G',w',u,k1,k2,k3,k4⟩ := hA
  intro K X hK
  unfold Oper.wp
  have : (execOp act.eval cc).run P w = .ok (.value u) w' := by
   simp [execOp,h1,resolve,h2,h3,h4,invoke,builtin,k1]
  rw [this,Oper.upon_value]
  exact hK _ _ _ _ _ _ ⟨rfl,rfl⟩ k2 k3 k4
 rcases hs with ⟨hs,rfl,hy,hd⟩ | ⟨hs,hn,cs,hd,hcl⟩
 ·rw [hs] at hsv
  obtain ⟨A,hA⟩ := hsv.nil_
  rw [hd]
  rw [hA] at fin
  exact fin (app_growTy (tt := cc.type) st hu hi hzv hsz hzs2 hzo hby (id := id) (ver' := ver + 1) (by rw [hd];exact Nat.lt_succ_self _) (A := A) (n := 0) (c := 0) (olds := []) rfl (.inl rfl) hsrc (by omega) (Nat.le_refl _) hb hml)
 ·rw [hs] at hsv
  rw [hd]
  have hver : (H id).1 < ver + 1 := by rw [hd];exact Nat.lt_succ_self _
  obtain ⟨loc,hloc,hob⟩ := st.obj id (.ty cs ee) (by rw [hd])
  have hG1 : (G id).1 = ver := by rw [st.ver,hd]
  cases loc with
  | none => exact hob.elim
  | some q =>
   obtain ⟨g,o⟩ := q
   obtain ⟨ho,arr,hh,hcc⟩ := hob
   subst ho
   have hG : G id = (ver,some (some (g,0))) := by rw [← hG1,← hloc]
   rcases hsv.sl_ hG with ⟨h0,_⟩ | ⟨g',o',c,hgo,hv,hnc,hcm,arr2,et,fz,hh2,hroom⟩
   ·omega
   ·simp only [Option.some.injEq,Prod.mk.injEq] at hgo
    obtain ⟨rfl,rfl⟩ := hgo
    rw [hh] at hh2
    simp only [Option.some.injEq,Obj.cells.injEq] at hh2
    obtain ⟨rfl,rfl,rfl⟩ := hh2
    rw [hv] at fin
    obtain ⟨us,hsr,hul,hus⟩ := hsrc
    rcases Nat.lt_or_ge c (n + y.size) with hgrow | hfit
    ·exact fin (app_growTy (tt := cc.type) st hu hi hzv hsz hzs2 hzo hby hver (A := some ⟨g,0 + 0 * 1,none⟩) (n := n) (c := c) hcl (.inr ⟨g,_,rfl,by simpa using Wnd.of_row hh hcc⟩) ⟨us,hsr,hul,hus⟩ hgrow hnc hb hml)
    ·have hul2 : us.length = y.size * 1 := hsr.newsLen
     have hcell : ∀ j,j < us.length → ∃ u,w.cell? ⟨g,0 + 0 * 1 + n * 1 + j,none⟩ = some u := fun j hj => by
      rw [cell_of_row w g _ arr ee (0,0) hh]
      exact ⟨_,Array.getElem?_eq_getElem (by omega)⟩
     have hrun := run_append_room_src (P := P) w ty tx cc.type ee i hu hi g (0 + 0 * 1) n c (act.eval x) y.size us (by rw [hsz];exact hsr) hfit
      (fun j hj => by rw [hsz];obtain ⟨u,hu⟩ := hcell j hj;rw [hu];rfl) (fun j hj => by simp [World.frozen?,hh])
     rw [hsz] at hrun
     obtain ⟨arr',k1,k2,k3,k4⟩ := setCells_heap g ee (0,0) us (0 + 0 * 1 + n * 1) w arr hh
     have hch := st.change id g (Only.setCells g (0 + 0 * 1 + n * 1) us w) (ver + 1,some (some (g,0))) (ver + 1,some (.ty (cs ++ bytesL y) ee)) (.inr ⟨0,by rw [hG]⟩)
      (.inl (heap_lt k1)) rfl (Nat.le_of_lt hver) (fun h => absurd h (by simp only;omega)) (.inr (.inr ⟨_,rfl⟩)) (fun _ => setCells_mem g ee (0,0) us _ w (st.ones id g 0 (by rw [hG])) hsr.one) (fun h => by cases h) (fun ob hob => by
        obtain rfl := Option.some.inj hob
        refine ⟨_,rfl,fun hk => ⟨rfl,arr',k1,fun j a ha => ?_⟩⟩
        rcases Nat.lt_or_ge j n with hj | hj
        ·rw [List.getElem?_append_left (by omega)] at ha
         obtain ⟨u,h1,h2,h3⟩ := hcc _ a ha
         exact ⟨u,by rw [k3 _ (by omega)];exact h1,h2,h3.keep hk⟩
        ·rw [List.getElem?_append_right (by omega)] at ha
         obtain ⟨u,h1,h2,h3⟩ := hus _ a ha
         have hlt := (List.getElem?_eq_some_iff.1 h1).1
         refine ⟨u,?_,h2,h3.keep hk⟩
         rw [hcl] at h1
         have := k4 (j - n) u h1 (by omega)
         rw [show 0 + j = 0 + 0 * 1 + n * 1 + (j - n) by omega]
         exact this)
     refine fin ⟨_,_,_,hrun,hch.1,hch.2,?_⟩
     have := RepA.slLive (G := upd G id (ver + 1,some (some (g,0)))) (Z := Z) (w := w.setCells g (0 + 0 * 1 + n * 1) us) id (ver + 1) 1 0 (n + y.size) g 0 c (by simp) hfit hcm
      ⟨arr',ee,(0,0),k1,by rw [k2];omega⟩
     simpa using this
theorem ax_bornTy {dst : Option Nat} {g : Option (Nat × Bool)} {los : List LO} {k : List It} {ee bytes : Nat} {s x : Operand} {y : ByteArray} (id : Nat) (hs : evA env s = .f .nil) (hx : evA env x = .f (.str y)) (hy : 0 < y.size) (hb : y.size * bytes ≤ 140737488355328) (hbp : bytes ≠ 0) (hd : H id = (0,none))
  (h : Ax P R Λ (.ops los :: k) (putE env dst (.sl id 1 1 0 y.size)) (upd H id (1,some (.ty (bytesL y) ee)))) (hg : gd g env = some true := by rfl) : Ax P R Λ (.ops (⟨dst,.append true ee 1 bytes s x,g⟩ :: los) :: k) env H :=
 ax_opGen hg (fun cc hl G Z w act st he => op_appTy st he hl hbp hx (id := id) (ver := 0) (n := 0) (.inl ⟨hs,rfl,hy,hd⟩) (by rw [Nat.zero_add];exact hb)) (fun v H' hq => by
  obtain ⟨rfl,rfl⟩ := hq
  rw [hd,Nat.zero_add,Nat.zero_add]
  exact h)
theorem ax_appTy {dst : Option Nat} {g : Option (Nat × Bool)} {los : List LO} {k : List It} {ee bytes : Nat} {s x : Operand} {y : ByteArray} {id ver n : Nat} {cs : List AV} (hs : evA env s = .sl id ver 1 0 n) (hx : evA env x = .f (.str y)) (hn : 0 < n) (hd : H id = (ver,some (.ty cs ee))) (hcl : cs.length = n) (hb : (n + y.size) * bytes ≤ 140737488355328) (hbp : bytes ≠ 0)
  (h : Ax P R Λ (.ops los :: k) (putE env dst (.sl id (ver + 1) 1 0 (n + y.size))) (upd H id (ver + 1,some (.ty (cs ++ bytesL y) ee)))) (hg : gd g env = some true := by rfl) : Ax P R Λ (.ops (⟨dst,.append true ee 1 bytes s x,g⟩ :: los) :: k) env H :=
 ax_opGen hg (fun cc hl G Z w act st he => op_appTy st he hl hbp hx (id := id) (ver := ver) (n := n) (.inr ⟨hs,hn,cs,hd,hcl⟩) hb) (fun v H' hq => by
  obtain ⟨rfl,rfl⟩ := hq
  rw [hd]
  exact h)
end
end Go.Proofs.YthniagdphhcnkaaGreatDoor
