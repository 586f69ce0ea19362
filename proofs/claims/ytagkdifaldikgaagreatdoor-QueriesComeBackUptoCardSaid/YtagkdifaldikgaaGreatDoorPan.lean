/-
  The abstract machine: calls that end by a panic. No statement of the seat is proved here; no conditions.
-/
import Derived.Test.YtagkdifaldikgaaGreatDoorPtr
namespace Go.Proofs.YtagkdifaldikgaaGreatDoor
open Go.RowKit
set_option linter.unusedVariables false
set_option linter.unusedSimpArgs false

def PCall (P : Program) (f : FuncId) (args : List AV) (H : Heap) (V : Value → Prop) : Prop :=
 callable P f = true ∧ ∀ (G : Ghost) (Z : Nat → Prop) (w : World) (vs : Array Value),St P G H Z w → vs.size = args.length → (∀ (j : Nat) (a : AV) (v : Value),args[j]? = some a → vs[j]? = some v → RepA G Z w a v) →
  Calls P f vs w fun e w' => ∃ v,e = .panicked [{ v := v,recovered := false }] ∧ V v ∧ HistW G Z w w'
def panR (V : Value → Prop) (env : Env) (_ : Heap) : Prop := ∃ v,V v ∧ env = panE v
theorem Hist.wide {G G' : Ghost} {Z Z' : Nat → Prop} {w w' : World} (h : Hist G Z w G' Z' w') : HistW G Z w w' := ⟨h.os,h.tape,h.output,h.size,h.old,fun b hz => (h.zin b hz).2,h.room⟩
theorem HistW.after {G G1 : Ghost} {Z Z1 : Nat → Prop} {w w1 w2 : World} (h1 : Hist G Z w G1 Z1 w1) (h2 : HistW G1 Z1 w1 w2) : HistW G Z w w2 := by
 have hold : ∀ b,b < w.heap.size → ¬ LiveB G b → w2.heap[b]? = w.heap[b]? := fun b hb hn => by
  rw [h2.old b (Nat.lt_of_lt_of_le hb h1.size) (fun hl => (h1.live b hl).elim hn (by omega)),h1.old b hb hn]
 refine ⟨h2.os.trans h1.os,h2.tape.trans h1.tape,h2.output.trans h1.output,Nat.le_trans h1.size h2.size,hold,fun b hz => by rw [h2.zin b (h1.zin b hz).1,(h1.zin b hz).2],fun b arr e fz hl hh => ?_⟩
 obtain ⟨arr1,e1,fz1,hh1,hs1⟩ := h1.room b arr e fz hl hh
 by_cases hl1 : LiveB G1 b
 ·obtain ⟨arr2,e2,fz2,hh2,hs2⟩ := h2.room b arr1 e1 fz1 hl1 hh1
  exact ⟨arr2,e2,fz2,hh2,by omega⟩
 ·exact ⟨arr1,e1,fz1,by rw [h2.old b (heap_lt hh1) hl1];exact hh1,hs1⟩
theorem HistW.sub {G Gc : Ghost} {Z : Nat → Prop} {w w' : World} (h : HistW Gc Z w w') (hl : ∀ b,LiveB Gc b → LiveB G b) : HistW G Z w w' :=
 ⟨h.os,h.tape,h.output,h.size,fun b hb hn => h.old b hb fun hc => hn (hl b hc),h.zin,fun b arr e fz _ hh => by
  by_cases hc : LiveB Gc b
  ·exact h.room b arr e fz hc hh
  ·exact ⟨arr,e,fz,by rw [h.old b (heap_lt hh) hc];exact hh,rfl⟩⟩
theorem PCall.of_ax {P : Program} {f : FuncId} {lf : LFunc} {args : List AV} {H : Heap} {V : Value → Prop} (hl : lowF P f = some lf)
  (h : Ax P (panR V) [] [.code lf.code] (argsE (max lf.ntmps args.length) args) H) : PCall P f args H V := by
 unfold lowF at hl
 split at hl
 case h_2 => cases hl
 rename_i fn hfn
 split at hl
 case isTrue => cases hl
 rename_i hname
 split at hl
 case h_2 => cases hl
 rename_i c hc
 split at hl
 case h_2 => cases hl
 rename_i lc r hlc hr
 obtain rfl := Option.some.inj hl
 simp only at h
 refine ⟨by simp only [callable,hfn,hc,Option.isSome_some,Bool.and_true];simpa using hname,fun G Z w vs st hsz hrep cs => ?_⟩
 let b : Frame := { (default : Frame) with fn := f,kind := .normal }
 have henter : Frame.enter P f vs .normal = b.at { tmps := vs ++ Array.replicate (fn.ntmps - vs.size) undef,defers := [] } [.code c] := by
  simp [Frame.enter,Frame.at,hfn,hc,b]
 have hsim : Sim P ⟨G,Z,w⟩ (argsE (max fn.ntmps args.length) args) H { tmps := vs ++ Array.replicate (fn.ntmps - vs.size) undef,defers := [] } w := by
  refine ⟨G,Z,st,⟨by simp only [argsE,Array.size_append,Array.size_replicate,hsz];omega,fun i hi => ?_,fun i v hv => ?_⟩,rfl,Hist.refl _ _ _⟩
  ·simp only [argsE] at hi ⊢
   rw [(argsF_get args 0 i).2 (Nat.zero_le _),List.getD_eq_getElem?_getD,List.getElem?_eq_none (by omega)];rfl
  ·simp only [argsE]
   rw [(argsF_get args 0 i).2 (Nat.zero_le _),Nat.sub_zero,List.getD_eq_getElem?_getD]
   rcases Nat.lt_or_ge i args.length with hi | hi
   ·rw [Array.getElem?_append_left (by omega)] at hv
    rw [List.getElem?_eq_getElem hi]
    exact hrep i _ v (List.getElem?_eq_getElem hi) hv
   ·rw [List.getElem?_eq_none hi]
    exact .any _
 obtain ⟨m,a',w',t',h1,h23⟩ := (h.go (s := ⟨G,Z,w⟩) (.code hlc .nil) hsim) b cs
 cases m with
 | none =>
  obtain ⟨env',H',⟨v,_,rfl⟩,G',Z',_,he',_⟩ := h23
  have := he'.out panN (Nat.le_refl _)
  cases this
 | some v =>
  obtain ⟨_,⟨v',hv,he⟩,hd,hh⟩ := h23
  have h2 : AV.f (.lit v) = AV.f (.lit v') := congrFun (congrArg Env.f he) 0
  injection h2 with h2
  injection h2 with h2
  subst h2
  rw [← henter] at h1
  exact ⟨.panicked [{ v := v,recovered := false }],w',_,⟨v,rfl,hv,hh⟩,h1,rfl,rfl,hd,fn,hfn⟩
section
variable {P : Program} {Λ : Lams} {k : List It} {env : Env} {H : Heap} {V : Value → Prop}
theorem pcall_run {fid : FuncId} {vs : Array Value} {w : World} (hcal : callable P fid = true) : (callFunc fid vs).run P w = .ok (.enter fid vs) w := by
 unfold callable at hcal
 split at hcal
 ·rename_i fn hfn
  simp only [Bool.and_eq_true,Bool.not_eq_true',Option.isSome_iff_ne_none] at hcal
  obtain ⟨h1,h2⟩ := hcal
  have h4 : ¬ fn.name = "runtime.NumGoroutine" := by simpa using h1
  cases hb : fn.body with
  | none => exact absurd hb h2
  | some c => simp [callFunc,hfn,h4,hb]
 ·cases hcal
theorem ax_pcall {o : LO} {los : List LO} {f : Operand} {args : List Operand} {fid : FuncId} (ho : o.op = .call f args) (hg : gd o.guard env = some true) (hfn : evA env f = .f (.fn (.func fid))) (hc : PCall P fid (args.map (evA env)) H V) :
  Ax P (panR V) Λ (.ops (o :: los) :: k) env H := fun s ops l t hl hm a w hs => by
 obtain ⟨c,r,rfl,h1,h2⟩ := lowOpers_cons hl
 obtain ⟨g1,g2,g3⟩ := lowOper_inv h1
 obtain ⟨G,Z,st,he,hd,hh⟩ := hs
 have hw := skipA_wanted he ((gd_skipA (env := env) g3).trans hg)
 refine wpList_step fun K hK => ?_
 rw [if_pos hw]
 rw [ho] at g1
 obtain ⟨cl,k1,k2,rfl⟩ := lowOp_call g1
 have hf := he.eval f
 rw [hfn] at hf
 have hargs : ∀ (j : Nat) (x : AV) (v : Value),(cl.args.toList.map (evA env))[j]? = some x → (cl.args.map a.eval)[j]? = some v → RepA G Z w x v := fun j x v hx hv => by
  rw [List.getElem?_map] at hx
  rw [Array.getElem?_map] at hv
  obtain ⟨y,hy,rfl⟩ := Option.map_eq_some_iff.1 hx
  rw [Array.getElem?_toList] at hy
  rw [hy] at hv
  obtain rfl := Option.some.inj hv
  exact he.eval y
 have hrun : (execOp a.eval c).run P w = (callFunc fid (cl.args.map a.eval)).run P w := by
  simp [execOp,k1,resolve,k2,hf.fn_,Deferred.ofValue,invoke]
 unfold Oper.wp
 rw [hrun,pcall_run hc.1,Oper.upon_enter]
 refine (hc.2 G Z w _ st (by simp) hargs).mono fun e w' ⟨v,he1,hv,hw'⟩ => ?_
 subst he1
 exact .inr ⟨v,rfl,fun env H ⟨v',_,he⟩ => by rw [he];rfl,⟨v,hv,rfl⟩,hd,HistW.after hh hw'⟩
end
def FPanP (P : Program) (f : FuncId) (pcs : List RC) (ri : List RS) (tl : List AV) (V : Value → Prop) : Prop :=
 PCall P f (.ptr 100001 1 0 :: (putS 80000 (nextCs 0 pcs) ri ++ tl)) (upd (putHs 80000 (nextCs 0 pcs) ri (putHcs 80000 0 pcs H0)) 100001 (1,some (.cells (putCs 80000 0 pcs)))) V
theorem pcall_pm {P : Program} {V : Value → Prop} {f : FuncId} {id ver : Nat} {cs l tl0 tl : List AV} {H : Heap} {pcs : List RC} {ri : List RS} (hF : FPanP P f pcs ri tl V) (hc : cellsOf ver (H id) = some cs) (hpc : RcsOk H pcs cs) (hri : RsOk H ri l) (hnd : (idsC cs ++ idsS l).Nodup) (hni : id ∉ idsC cs ++ idsS l)
  (htl : LeL tl0 tl) (hp : tl.all AV.pure = true) :
  PCall P f (.ptr id ver 0 :: (l ++ tl0)) H V := by
 have hd : Head id ver (.ptr id ver 0) (.ptr 100001 1 0) := head_ptr
 refine ⟨hF.1,fun G Z w vs st hsz hrep => ?_⟩
 obtain ⟨loc,hG,hob,hH⟩ := st.cells hc
 simp only [List.length_cons,List.length_append] at hsz
 have hv0 : vs[0]? = some (vs[0]'(by omega)) := Array.getElem?_eq_getElem _
 obtain ⟨g0,o0,rfl,hp0⟩ := hd hG (hrep 0 _ _ rfl hv0)
 obtain ⟨arr0,e0,hh0,hcc0⟩ := hob
 generalize hids : idsC cs ++ idsS l = ids at *
 have bk0 : Back2 P G H Z Z w (fun _ => true) (fun _ => (0,none)) (fun _ => False) := ⟨st,fun _ h => h,fun _ _ _ h => h,fun b ⟨_,_,h⟩ => by cases h⟩
 have ow0 : Own2 P G (fun _ => (0,none)) Z w 80000 0 (nextSs 0 (.agg pcs :: ri)) [] (fun _ => (0,none)) H0 :=
  ⟨⟨fun _ => rfl,fun _ _ => rfl,fun id o h => (by cases h),fun _ _ _ _ _ h => (by cases h),fun _ _ _ h => (by cases h),st.zlt,fun _ _ _ h => (by cases h),fun _ _ _ h => (by cases h)⟩,fun _ _ _ => rfl,fun b hb => .inl hb⟩
 obtain ⟨Gc1,used,ow,hus,_,hels,hl1,hl2,hrep'⟩ := own2_ss bk0 (.agg pcs :: ri) (.agg cs :: l) ow0 ⟨hpc,hri⟩ (all_true _) (by show (idsC cs ++ idsS l).Nodup;rw [hids];exact hnd) (fun id _ => ⟨fun h => (by cases h),fun h => h⟩) (Nat.le_refl _)
 replace hus : ∀ id ∈ used,id ∈ ids := fun id h => by rw [← hids];exact (hus id h).resolve_right (fun h => by cases h)
 have lvc1 : ∀ b,LiveB Gc1 b → ∃ id ∈ ids,∃ o,(G id).2 = some (some (b,o)) := fun b hb => by
  rcases ow.lv b hb with ⟨_,_,h⟩ | ⟨id,h1,h2⟩
  ·cases h
  ·exact ⟨id,hus id h1,h2⟩
 have hg1 : Gc1 100001 = (0,none) := hels 100001 (fun j => by omega)
 have hd1 : putHs 80000 0 (.agg pcs :: ri) H0 100001 = (0,none) := by
  have h1 := ow.st.ver 100001
  rw [hg1] at h1
  refine Prod.ext h1.symm ?_
  cases h2 : (putHs 80000 0 (.agg pcs :: ri) H0 100001).2 with
  | none => rfl
  | some o =>
   obtain ⟨loc,h3,_⟩ := ow.st.obj 100001 o h2
   rw [hg1] at h3;cases h3
 have hng0 : ¬ LiveB Gc1 g0 := fun h => by
  obtain ⟨id2,h1,o2,h2⟩ := lvc1 g0 h
  have := st.inj _ _ _ _ _ (by rw [hG] : (G id).2 = some (some (g0,o0))) h2
  subst this;exact hni h1
 obtain ⟨stc,kc⟩ := ow.st.adopt2 hd1 (cs := putCs 80000 0 pcs) (loc := some (g0,o0)) ⟨heap_lt hh0,st.disj id g0 o0 (by rw [hG]),hng0,arr0,e0,hh0,cells_agg (fun v hv => hrep' 0 _ _ v rfl rfl hv) hcc0,st.ones id g0 o0 (by rw [hG]) _ _ _ hh0⟩
 have lvc : ∀ b,LiveB (upd Gc1 100001 (1,some (some (g0,o0)))) b → b = g0 ∨ ∃ id ∈ ids,∃ o,(G id).2 = some (some (b,o)) := fun b ⟨id',o,h⟩ => by
  by_cases e : id' = 100001
  ·subst e;rw [upd_same] at h
   simp only [Option.some.injEq,Prod.mk.injEq] at h
   exact .inl h.1.symm
  ·rw [upd_ne _ _ _ _ e] at h
   exact .inr (lvc1 b ⟨id',o,h⟩)
 have hlen : (putS 80000 (nextCs 0 pcs) ri).length = l.length := by
  have h1 : (putS 80000 (nextCs 0 pcs) ri).length + 1 = ri.length + 1 := hl2
  have h2 : l.length + 1 = ri.length + 1 := hl1
  omega
 obtain ⟨q1,q2⟩ := htl.rep (us := vs.extract (l.length + 1) vs.size) (G := G) (Z := Z) (w := w) (fun j a u ha hu => hrep (l.length + 1 + j) a u (by
   rw [show l.length + 1 + j = (l.length + j) + 1 by omega,List.getElem?_cons_succ,List.getElem?_append_right (by omega)];simpa using ha) (by
  rw [Array.getElem?_extract] at hu
  split at hu
  ·exact hu
  ·cases hu))
 generalize hGc : upd Gc1 100001 (1,some (some (g0,o0))) = Gc at *
 have hGc1 : Gc 100001 = (1,some (some (g0,o0))) := by rw [← hGc,upd_same]
 refine (hF.2 Gc Z w vs stc (by simp only [List.length_cons,List.length_append,hlen,q1];omega) fun j a v ha hv => ?_).mono fun e w1 ⟨v,e1,hv,hh⟩ => ⟨v,e1,hv,hh.sub fun b hb => ?_⟩
 ·cases j with
  | zero =>
   rw [hv0] at hv
   simp only [List.getElem?_cons_zero,Option.some.injEq] at ha hv
   subst ha hv
   exact hp0 Gc hGc1
  | succ j =>
   rw [List.getElem?_cons_succ] at ha
   rcases Nat.lt_or_ge j l.length with hj | hj
   ·rw [List.getElem?_append_left (by omega)] at ha
    exact (hrep' (j + 1) _ a v (List.getElem?_eq_getElem (by simp;omega)) ha (hrep (j + 1) _ v (by rw [List.getElem?_cons_succ,List.getElem?_append_left hj];exact List.getElem?_eq_getElem hj) hv)).keep kc
   ·rw [List.getElem?_append_right (by omega),hlen] at ha
    refine (q2 (j - l.length) a v ha ?_).pure_ (fun b hb => ⟨hb,rfl⟩) (List.all_eq_true.1 hp a (List.mem_of_getElem? ha))
    have hjs := (Array.getElem?_eq_some_iff.1 hv).1
    rw [Array.getElem?_extract,if_pos (by omega),show l.length + 1 + (j - l.length) = j + 1 by omega];exact hv
 ·rcases lvc b hb with rfl | ⟨id2,_,o2,h2⟩
  ·exact ⟨id,o0,by rw [hG]⟩
  ·exact ⟨id2,o2,h2⟩
end Go.Proofs.YtagkdifaldikgaaGreatDoor
