/-
  The abstract machine: what a lowered operation does to an abstract state is what the operation does. No statement of the seat is proved here; no conditions.
-/
import Derived.Test.YtaiajaibcpkceaaDoorEngC
namespace Go.Proofs.YtaiajaibcpkceaaDoor
open Go.RowKit
set_option linter.unusedVariables false
set_option linter.unusedSimpArgs false

def OpOk (P : Program) (s : Sem Next) (G : Ghost) (H : Heap) (Z : Nat → Prop) (w : World) (v : AV) (H' : Heap) : Prop :=
  ∃ G' Z' w' u, Runs P s w w' u ∧ St P G' H' Z' w' ∧ Step G Z w G' Z' w' ∧ RepA G' Z' w' v u

section
variable {P : Program} {G : Ghost} {H : Heap} {Z : Nat → Prop} {w : World}
theorem OpOk.pure (st : St P G H Z w) {s : Sem Next} {v : AV} {u : Value} (h : s.run P w = .ok (.value u) w) (hr : RepA G Z w v u) : OpOk P s G H Z w v H :=
  ⟨G, Z, w, u, .inl h, st, Step.refl _ _ _, hr⟩
theorem ones_new (w : World) {arr : Array Value} {e : TypeId} (h : OnesA arr) : Ones (w.alloc (.cells arr e)) w.heap.size := fun arr' e' fz' ha => by
  rw [heap_alloc_new w _] at ha
  simp only [Option.some.injEq, Obj.cells.injEq] at ha
  rw [← ha.1]; exact h
theorem ones_all {arr : Array Value} (h : arr.toList.all (·.oneCell') = true) : OnesA arr := fun i v hv => List.all_eq_true.1 h v (Array.mem_toList_iff.2 (Array.mem_of_getElem? hv))
theorem St.new (st : St P G H Z w) {id ver : Nat} (hd : H id = (ver, none)) {arr : Array Value} {e : TypeId} {cs : List AV} (hc : CellsR (RepA G Z w) arr 0 cs) (hon : OnesA arr) :
    St P (upd G id (ver + 1, some (some (w.heap.size, 0)))) (upd H id (ver + 1, some (.cells cs))) Z (w.alloc (.cells arr e)) ∧ Step G Z w (upd G id (ver + 1, some (some (w.heap.size, 0)))) Z (w.alloc (.cells arr e)) := by
  refine st.change id w.heap.size (Only.alloc w _) _ _ (.inl rfl) (.inl (by simp)) rfl (by rw [hd]; simp) (fun h => ?_) (.inr (.inr ⟨0, rfl⟩)) (fun _ => ones_new w hon) (fun h => by cases h) fun o ho => ⟨_, rfl, fun hk => ?_⟩
  · rw [hd] at h; simp at h
  · obtain rfl := Option.some.inj ho
    exact ⟨arr, e, heap_alloc_new w _, hc.mono fun a v hr => hr.keep hk⟩
theorem St.newVirt (st : St P G H Z w) {id ver : Nat} (hd : H id = (ver, none)) :
    St P (upd G id (ver + 1, some none)) (upd H id (ver + 1, some (.cells []))) Z w ∧ Step G Z w (upd G id (ver + 1, some none)) Z w := by
  refine st.change id w.heap.size (Only.refl _ w) _ _ (.inl rfl) (.inr fun o h => by cases h) rfl (by rw [hd]; simp) (fun h => ?_) (.inr (.inl rfl)) (fun ⟨_, h⟩ => by cases h) (fun h => by cases h) fun o ho => ⟨_, rfl, fun hk => ?_⟩
  · rw [hd] at h; simp at h
  · obtain rfl := Option.some.inj ho
    rfl
/-- The cells of a live object are written. -/
theorem St.write (st : St P G H Z w) {id ver g o off : Nat} {cs : List AV} (hH : H id = (ver, some (.cells cs))) (hG : G id = (ver, some (some (g, o)))) {xs : List AV} {vs : List Value}
    (hx : vs.length = xs.length) (hin : off + xs.length ≤ cs.length) (hr : ∀ (j : Nat) (x : AV), xs[j]? = some x → ∃ u, vs[j]? = some u ∧ u.oneCell' = true ∧ RepA G Z w x u) :
    St P G (upd H id (ver, some (.cells (splice cs off xs)))) Z (w.setCells g (o + off) vs) ∧ Step G Z w G Z (w.setCells g (o + off) vs) := by
  obtain ⟨loc, hl, hob⟩ := st.obj id (.cells cs) (by rw [hH])
  rw [hG] at hl
  obtain rfl := Option.some.inj hl
  obtain ⟨arr, e, hh, hc⟩ := hob
  have hsp : ∀ (xs : List AV) (off : Nat) (cs : List AV), off + xs.length ≤ cs.length → (splice cs off xs).length = cs.length ∧ (∀ i, (i < off ∨ off + xs.length ≤ i) → (splice cs off xs)[i]? = cs[i]?) ∧ ∀ j, j < xs.length → (splice cs off xs)[off + j]? = xs[j]? := by
    intro xs
    induction xs with
    | nil => intro off cs _; exact ⟨rfl, fun _ _ => rfl, fun j h => absurd h (by simp)⟩
    | cons x r ih =>
      intro off cs h
      simp only [List.length_cons] at h ⊢
      obtain ⟨h1, h2, h3⟩ := ih (off + 1) (cs.set off x) (by simp; omega)
      refine ⟨by rw [splice, h1]; simp, fun i hi => ?_, fun j hj => ?_⟩
      · rw [splice, h2 i (by omega), List.getElem?_set_ne (by omega)]
      · cases j with
        | zero =>
          show (splice (cs.set off x) (off + 1) r)[off]? = some x
          rw [h2 off (by omega), List.getElem?_set_self (by omega)]
        | succ j => rw [splice, show off + (j + 1) = off + 1 + j by omega, h3 j (by omega)]; rfl
  obtain ⟨_, hs2, hs3⟩ := hsp xs off cs hin
  have hGs : upd G id (ver, some (some (g, o))) = G := upd_self _ _ _ hG
  have := st.change id g (Only.setCells g (o + off) vs w) (ver, some (some (g, o))) (ver, some (.cells (splice cs off xs))) (.inr ⟨o, by rw [hG]⟩)
    (.inl (by rw [(setCells_rest g vs (o + off) w).2.2.2]; exact heap_lt hh)) rfl (by rw [hH]; exact Nat.le_refl _) (fun _ => .inr (by rw [hG])) (.inr (.inr ⟨o, rfl⟩)) (fun _ => setCells_mem g e (0, 0) vs (o + off) w (st.ones id g o (by rw [hG])) fun v hv => by
      obtain ⟨j, hj⟩ := List.getElem?_of_mem hv
      have hjl := (List.getElem?_eq_some_iff.1 hj).1
      obtain ⟨u, h1, h2, _⟩ := hr j _ (List.getElem?_eq_getElem (by omega))
      rw [hj] at h1; obtain rfl := Option.some.inj h1; exact h2) (fun h => by cases h) fun ob hob => ⟨_, rfl, fun hk => ?_⟩
  · rw [hGs] at this; exact this
  · rw [hGs] at hk ⊢
    obtain rfl := Option.some.inj hob
    obtain ⟨arr', h1, h2, h3, h4⟩ := setCells_heap g e (0, 0) vs (o + off) w arr hh
    refine ⟨arr', e, h1, fun j a ha => ?_⟩
    by_cases hj : j < off ∨ off + xs.length ≤ j
    · rw [hs2 j hj] at ha
      obtain ⟨u, hu, h5, h6⟩ := hc j a ha
      exact ⟨u, by rw [h3 (o + j) (by omega)]; exact hu, h5, h6.keep hk⟩
    · have hj' : off + (j - off) = j := by omega
      rw [← hj', hs3 (j - off) (by omega)] at ha
      obtain ⟨u, hu, h5, h6⟩ := hr _ _ ha
      refine ⟨u, ?_, h5, h6.keep hk⟩
      rw [show o + j = o + off + (j - off) by omega]
      refine h4 _ u hu ?_
      have hlt : j < cs.length := by omega
      obtain ⟨u', hu', _⟩ := hc j _ (List.getElem?_eq_getElem hlt)
      have := (Array.getElem?_eq_some_iff.1 hu').1
      omega

variable {ρ : Operand → AV} {ρc : Operand → Value} {t : Nat} {o : Oper} {v : AV} {H' : Heap}
theorem exec_pure {v v' : AV} (h : (Eff.pure v).exec H = some (v', H')) : v' = v ∧ H' = H := by
  simp only [Eff.exec, Option.some.injEq, Prod.mk.injEq] at h; exact ⟨h.1.symm, h.2.symm⟩
theorem exec_rd {id : Nat} {k : Nat × Option AObj → Option AV} (h : (Eff.rd id k).exec H = some (v, H')) : k (H id) = some v ∧ H' = H := by
  simp only [Eff.exec] at h
  split at h
  · rename_i e
    simp only [Option.some.injEq, Prod.mk.injEq] at h
    exact ⟨by rw [e, h.1], h.2.symm⟩
  · cases h
theorem exec_md {id : Nat} {k : Nat × Option AObj → Option (AV × (Nat × Option AObj))} (h : (Eff.md id k).exec H = some (v, H')) : ∃ x, k (H id) = some (v, x) ∧ H' = upd H id x := by
  simp only [Eff.exec] at h
  split at h
  · rename_i e
    simp only [Option.some.injEq, Prod.mk.injEq] at h
    exact ⟨_, by rw [e, h.1], h.2.symm⟩
  · cases h
theorem exec_rm {src id : Nat} {k : Nat × Option AObj → Nat × Option AObj → Option (AV × (Nat × Option AObj))} (h : (Eff.rm src id k).exec H = some (v, H')) : ∃ x, k (H src) (H id) = some (v, x) ∧ H' = upd H id x := by
  simp only [Eff.exec] at h
  split at h
  · rename_i e
    simp only [Option.some.injEq, Prod.mk.injEq] at h
    exact ⟨_, by rw [e, h.1], h.2.symm⟩
  · cases h
theorem exec_newObj {id : Nat} {f : Nat → AV} {cs : List AV} (h : (newObj_ id f cs).exec H = some (v, H')) : ∃ ver, H id = (ver, none) ∧ v = f (ver + 1) ∧ H' = upd H id (ver + 1, some (.cells cs)) := by
  obtain ⟨x, h1, rfl⟩ := exec_md h
  split at h1
  · rename_i ver e
    simp only [Option.some.injEq, Prod.mk.injEq] at h1
    exact ⟨ver, e, h1.1.symm, by rw [h1.2]⟩
  · cases h1

theorem ok_move (st : St P G H Z w) (hρ : ∀ x, RepA G Z w (ρ x) (ρc x)) (x : Operand) (hx : (eff (.move x) ρ t).exec H = some (v, H')) (ho : o.op = .move x ∨ o.op = .assign x) : OpOk P (execOp ρc o) G H Z w v H' := by
  obtain ⟨rfl, rfl⟩ := exec_pure hx
  refine OpOk.pure st (u := ρc x) ?_ (hρ x)
  rcases ho with ho | ho <;> simp [execOp, ho]

theorem ok_nilChk (st : St P G H Z w) (hρ : ∀ x, RepA G Z w (ρ x) (ρc x)) (x : Operand) (hx : (eff (.nilChk x) ρ t).exec H = some (v, H')) (ho : o.op = .nilCheck x) : OpOk P (execOp ρc o) G H Z w v H' := by
  have hr := hρ x
  simp only [eff] at hx
  split at hx
  · rename_i cs e
    obtain ⟨rfl, rfl⟩ := exec_pure hx
    rw [e] at hr
    refine OpOk.pure st (u := ρc x) ?_ hr
    obtain ⟨b, o', us, hp, _⟩ := hr.fp_
    simp [execOp, ho, hp]
  · rename_i f e
    obtain ⟨rfl, rfl⟩ := exec_pure hx
    rw [e] at hr
    refine OpOk.pure st (u := ρc x) ?_ hr
    rw [hr.fn_]
    cases f <;> simp [execOp, ho, hr.fn_]
  · rename_i f cs e
    obtain ⟨rfl, rfl⟩ := exec_pure hx
    rw [e] at hr
    refine OpOk.pure st (u := ρc x) ?_ hr
    obtain ⟨us, h1, _⟩ := hr.clo_
    rw [h1]
    cases f <;> simp [execOp, ho, h1]
  · rename_i id ver off e
    obtain ⟨h1, rfl⟩ := exec_rd hx
    split at h1
    · rename_i ha
      obtain rfl := Option.some.inj h1
      rw [e] at hr
      obtain ⟨loc, hG⟩ := st.alive ha
      obtain ⟨g, o', _, h2⟩ := hr.ptr_ hG
      refine OpOk.pure st (u := ρc x) ?_ hr
      simp [execOp, ho, h2]
    · cases h1
  · cases hx

theorem ok_pick (st : St P G H Z w) (hρ : ∀ x, RepA G Z w (ρ x) (ρc x)) (c a b : Operand) (hx : (eff (.pick c a b) ρ t).exec H = some (v, H')) (ho : o.op = .pick c a b) : OpOk P (execOp ρc o) G H Z w v H' := by
  have hr := hρ c
  simp only [eff] at hx
  split at hx
  · rename_i x e
    obtain ⟨rfl, rfl⟩ := exec_pure hx
    rw [e] at hr
    refine OpOk.pure st (u := if x then ρc a else ρc b) (by simp [execOp, ho, hr.bool_, asBool]) ?_
    have ha := hρ a
    have hb := hρ b
    unfold pickA
    split
    · rename_i p q e1 e2
      rw [e1] at ha; rw [e2] at hb
      rw [ha.bool_, hb.bool_]
      cases x <;> exact .f (.bool _)
    · cases x <;> simp [ha, hb]
  · cases hx

theorem cellsR_zero {z : Array Value} (h : z.toList.all (·.oneCell') = true) : CellsR (RepA G Z w) z 0 ((z.toList.map FV.ofValue).map .f) := by
  intro j a ha
  rw [List.map_map, List.getElem?_map] at ha
  obtain ⟨c, hc, rfl⟩ := Option.map_eq_some_iff.1 ha
  rw [Array.getElem?_toList] at hc
  exact ⟨c, by rw [Nat.zero_add]; exact hc, List.all_eq_true.1 h c (Array.mem_toList_iff.2 (Array.mem_of_getElem? hc)), .f (RepF.ofValue Z w c)⟩
theorem zeroCells_inv {e : TypeId} {z : List FV} (h : zeroCellsOf P e = some z) : ∃ i zv, P.info? e = some i ∧ i.zero = some zv ∧ zv.cells.toList.all (·.oneCell') = true ∧ zv.cells.size = i.size ∧ z = zv.cells.toList.map FV.ofValue := by
  unfold zeroCellsOf at h
  split at h
  · rename_i i hi
    split at h
    · rename_i zv hz
      split at h
      · rename_i hc
        simp only [Bool.and_eq_true, beq_iff_eq] at hc
        exact ⟨i, zv, hi, hz, hc.1, hc.2, (Option.some.inj h).symm⟩
      · cases h
    · cases h
  · cases h
theorem ok_alloc (st : St P G H Z w) (e : TypeId) (z : List FV) (hz : zeroCellsOf P e = some z) (hx : (eff (.alloc e z) ρ t).exec H = some (v, H')) (ho : o.op = .alloc e) : OpOk P (execOp ρc o) G H Z w v H' := by
  obtain ⟨i, zv, hi, hzv, h1, _, rfl⟩ := zeroCells_inv hz
  simp only [eff] at hx
  obtain ⟨ver, hd, rfl, rfl⟩ := exec_newObj hx
  obtain ⟨s1, s2⟩ := st.new hd (e := e) (cellsR_zero (G := G) (Z := Z) (w := w) h1) (ones_all h1)
  refine ⟨_, Z, _, .pointer (some ⟨w.heap.size, 0, none⟩), .inl ?_, s1, s2, ?_⟩
  · simp [execOp, ho, Instr.alloc, zeroValue, typeInfo, hi, hzv, newVar, newRow]
  · have := RepA.ptrLive (G := upd G t (ver + 1, some (some (w.heap.size, 0)))) (Z := Z) (w := w.alloc (.cells zv.cells e)) t (ver + 1) 0 w.heap.size 0 (by simp)
    simpa using this
theorem ok_box (st : St P G H Z w) (hρ : ∀ x, RepA G Z w (ρ x) (ρc x)) (e : TypeId) (x : Operand) (hx : (eff (.box e x) ρ t).exec H = some (v, H')) (ho : o.op = .box e x) : OpOk P (execOp ρc o) G H Z w v H' := by
  have hr := hρ x
  have key : ∀ cs n, (ρ x).cellsN n = some cs → (newObj_ t (fun v => .ptr t v 0) cs).exec H = some (v, H') → OpOk P (execOp ρc o) G H Z w v H' := by
    intro cs n hc hx
    obtain ⟨h1, h2, h3⟩ := hr.cellsN_ hc
    obtain ⟨ver, hd, rfl, rfl⟩ := exec_newObj hx
    obtain ⟨s1, s2⟩ := st.new hd (e := e) (arr := (ρc x).cells) (cs := cs) (fun j a ha => by
      obtain ⟨u, h4, h5, h6⟩ := h3 j a ha
      exact ⟨u, by rw [Nat.zero_add]; exact h4, h5, h6⟩) (fun i v hv => by
      have hlt := (Array.getElem?_eq_some_iff.1 hv).1
      obtain ⟨u, h4, h5, _⟩ := h3 i _ (List.getElem?_eq_getElem (by omega))
      rw [hv] at h4; obtain rfl := Option.some.inj h4; exact h5)
    refine ⟨_, Z, _, .pointer (some ⟨w.heap.size, 0, none⟩), .inl ?_, s1, s2, ?_⟩
    · simp [execOp, ho, Instr.box, newVar, newRow]
    · have := RepA.ptrLive (G := upd G t (ver + 1, some (some (w.heap.size, 0)))) (Z := Z) (w := w.alloc (.cells (ρc x).cells e)) t (ver + 1) 0 w.heap.size 0 (by simp)
      simpa using this
  simp only [eff] at hx
  split at hx
  · rename_i cs e1
    exact key cs cs.length (by rw [e1]; simp [AV.cellsN]) hx
  · rename_i e1
    split at hx
    · rename_i h1
      refine key [ρ x] 1 ?_ hx
      unfold AV.cellsN
      split
      · rename_i cs e2
        exact absurd e2 (e1 cs)
      · simp [h1]
    · cases hx

theorem load_ok (st : St P G H Z w) (hρ : ∀ x, RepA G Z w (ρ x) (ρc x)) (ty : TypeId) (n : Option Nat) (x : Operand) (hn : rowOf P ty = some n) (hx : (eff (.load n x) ρ t).exec H = some (v, H')) : ∃ u, (Instr.loadAt ty (ρc x)).run P w = .ok u w ∧ RepA G Z w v u ∧ H' = H := by
  have hr := hρ x
  unfold rowOf at hn
  split at hn
  case h_2 => cases hn
  rename_i d i hu hi
  have one : ∀ b o' u, d.isRow = false → ρc x = .pointer (some ⟨b, o', none⟩) → w.cell? ⟨b, o', none⟩ = some u → (Instr.loadAt ty (ρc x)).run P w = .ok u w := by
    intro b o' u hd hp hc
    have ha : (isAgg ty).run P w = .ok false w := by
      have : d.isRow = false := hd
      cases d <;> simp [TypeDesc.isRow] at this <;> simp [isAgg, run_underlying hu]
    simp [Instr.loadAt, hp, Instr.sureAddr, loadVar, ha, load, Sem.run, hc]
  have many : ∀ b o' (us : List Value), d.isRow = true → ρc x = .pointer (some ⟨b, o', none⟩) → us.length = i.size → w.rangeAt b o' us → (Instr.loadAt ty (ρc x)).run P w = .ok (.agg us.toArray) w := by
    intro b o' us hd hp hl hc
    have := run_loadVar_mid (P := P) w b o' ty us d hc hu hd (by simp [hi, hl])
    simp [Instr.loadAt, hp, Instr.sureAddr, this]
  simp only [eff] at hx
  split at hx
  · rename_i cs e
    rw [e] at hr
    obtain ⟨b, o', us, hxx, hz, hc, hc2⟩ := hr.fp_
    split at hx
    · rename_i hn0
      split at hx
      · rename_i c hc0
        obtain ⟨rfl, rfl⟩ := exec_pure hx
        have hlt : 0 < cs.length := (List.getElem?_eq_some_iff.1 hc0).1
        refine ⟨_, one b o' (us 0) ?_ hxx ?_, .f (hc2 0 c hc0), rfl⟩
        · revert hn; cases d.isRow <;> simp
        · simpa using (hc 0 hlt).1
      · cases hx
    · rename_i _ n
      split at hx
      · rename_i hle
        obtain ⟨rfl, rfl⟩ := exec_pure hx
        have hd : d.isRow = true ∧ i.size = n := by revert hn; cases d.isRow <;> simp
        refine ⟨_, many b o' ((List.range n).map us) hd.1 hxx (by simp [hd.2]) ?_, .agg _ _ (by simp; omega) ?_ ?_, rfl⟩
        · intro j u hu'
          rw [List.getElem?_map] at hu'
          obtain ⟨k, hk, rfl⟩ := Option.map_eq_some_iff.1 hu'
          obtain ⟨hk1, hk2⟩ := List.getElem?_eq_some_iff.1 hk
          simp at hk1 hk2
          subst hk2
          exact (hc j (by omega)).1
        · intro j u hu'
          rw [List.getElem?_toArray, List.getElem?_map] at hu'
          obtain ⟨k, hk, rfl⟩ := Option.map_eq_some_iff.1 hu'
          obtain ⟨hk1, hk2⟩ := List.getElem?_eq_some_iff.1 hk
          simp at hk1 hk2
          subst hk2
          exact (hc j (by omega)).2
        · intro j a u ha hu'
          rw [List.getElem?_toArray, List.getElem?_map] at hu'
          obtain ⟨k, hk, rfl⟩ := Option.map_eq_some_iff.1 hu'
          obtain ⟨hk1, hk2⟩ := List.getElem?_eq_some_iff.1 hk
          simp at hk1 hk2
          subst hk2
          rw [List.getElem?_map] at ha
          obtain ⟨c, hc', rfl⟩ := Option.map_eq_some_iff.1 ha
          rw [List.getElem?_take_of_lt hk1] at hc'
          exact .f (hc2 j c hc')
      · cases hx
  · rename_i id ver off e
    rw [e] at hr
    obtain ⟨h1, rfl⟩ := exec_rd hx
    split at h1
    case h_2 => cases h1
    rename_i cs hcs
    obtain ⟨loc, hG, hob, hH⟩ := st.cells hcs
    obtain ⟨g, ob, rfl, hp⟩ := hr.ptr_ hG
    obtain ⟨arr, et, hh, hc⟩ := hob
    have hcell : ∀ j a, cs[j]? = some a → ∃ u, w.cell? ⟨g, ob + j, none⟩ = some u ∧ u.oneCell' = true ∧ RepA G Z w a u := fun j a ha => by
      obtain ⟨u, h2, h3, h4⟩ := hc j a ha
      exact ⟨u, by rw [cell_of_row w g _ arr et (0, 0) hh]; exact h2, h3, h4⟩
    split at h1
    · obtain ⟨u, h2, h3, h4⟩ := hcell off v h1
      refine ⟨_, one g (ob + off) u ?_ hp h2, h4, rfl⟩
      revert hn; cases d.isRow <;> simp
    · rename_i n
      split at h1
      · rename_i hle
        obtain rfl := Option.some.inj h1
        have hd : d.isRow = true ∧ i.size = n := by revert hn; cases d.isRow <;> simp
        have hex : ∃ us : List Value, us.length = n ∧ ∀ j a, ((cs.drop off).take n)[j]? = some a → ∃ u, us[j]? = some u ∧ w.cell? ⟨g, ob + off + j, none⟩ = some u ∧ u.oneCell' = true ∧ RepA G Z w a u := by
          clear hn hd
          have : ∀ n, off + n ≤ cs.length → ∃ us : List Value, us.length = n ∧ ∀ j, j < n → ∃ a u, cs[off + j]? = some a ∧ us[j]? = some u ∧ w.cell? ⟨g, ob + off + j, none⟩ = some u ∧ u.oneCell' = true ∧ RepA G Z w a u := by
            intro n
            induction n with
            | zero => intro _; exact ⟨[], rfl, fun j h => absurd h (by omega)⟩
            | succ n ih =>
              intro hn
              obtain ⟨us, h1, h2⟩ := ih (by omega)
              obtain ⟨u, h3, h4, h5⟩ := hcell (off + n) _ (List.getElem?_eq_getElem (by omega))
              refine ⟨us ++ [u], by simp [h1], fun j hj => ?_⟩
              rcases Nat.lt_or_ge j n with h | h
              · obtain ⟨a, u', h6, h7, h8⟩ := h2 j h
                exact ⟨a, u', h6, by rw [List.getElem?_append_left (by omega)]; exact h7, h8⟩
              · obtain rfl : j = n := by omega
                exact ⟨_, u, List.getElem?_eq_getElem (by omega), by rw [List.getElem?_append_right (by omega)]; simp [h1], by rw [show ob + off + j = ob + (off + j) by omega]; exact h3, h4, h5⟩
          obtain ⟨us, h1, h2⟩ := this n hle
          refine ⟨us, h1, fun j a ha => ?_⟩
          have hj : j < n := by
            have := (List.getElem?_eq_some_iff.1 ha).1
            simp at this; omega
          rw [List.getElem?_take_of_lt hj, List.getElem?_drop] at ha
          obtain ⟨a', u, h3, h4⟩ := h2 j hj
          rw [ha] at h3
          obtain rfl := Option.some.inj h3
          exact ⟨u, h4⟩
        obtain ⟨us, hul, hus⟩ := hex
        have hlen : ((cs.drop off).take n).length = n := by simp; omega
        have hsome : ∀ (j : Nat) (u : Value), us[j]? = some u → ∃ a, ((cs.drop off).take n)[j]? = some a := fun j u hu' => by
          have := (List.getElem?_eq_some_iff.1 hu').1
          exact ⟨_, List.getElem?_eq_getElem (by omega)⟩
        refine ⟨_, many g (ob + off) us hd.1 hp (by omega) ?_, .agg _ _ (by simp; omega) ?_ ?_, rfl⟩
        · intro j u hu'
          obtain ⟨a, ha⟩ := hsome j u hu'
          obtain ⟨u2, h2, h3, _⟩ := hus j a ha
          rw [hu'] at h2
          obtain rfl := Option.some.inj h2
          exact h3
        · intro j u hu'
          rw [List.getElem?_toArray] at hu'
          obtain ⟨a, ha⟩ := hsome j u hu'
          obtain ⟨u2, h2, _, h3, _⟩ := hus j a ha
          rw [hu'] at h2
          obtain rfl := Option.some.inj h2
          exact h3
        · intro j a u ha hu'
          rw [List.getElem?_toArray] at hu'
          obtain ⟨u2, h2, _, _, h3⟩ := hus j a ha
          rw [hu'] at h2
          obtain rfl := Option.some.inj h2
          exact h3
      · cases h1
  · cases hx
theorem ok_load (st : St P G H Z w) (hρ : ∀ x, RepA G Z w (ρ x) (ρc x)) (ty : TypeId) (n : Option Nat) (x : Operand) (hn : rowOf P ty = some n) (hx : (eff (.load n x) ρ t).exec H = some (v, H')) (ho : o.op = .load ty x) : OpOk P (execOp ρc o) G H Z w v H' := by
  obtain ⟨u, h1, h2, rfl⟩ := load_ok st hρ ty n x hn hx
  exact OpOk.pure st (by simp [execOp, ho, h1]) h2
end
end Go.Proofs.YtaiajaibcpkceaaDoor
