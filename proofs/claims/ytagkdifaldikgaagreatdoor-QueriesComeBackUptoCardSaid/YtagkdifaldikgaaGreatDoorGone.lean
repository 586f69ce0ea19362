/-
  The engine: what is left when one's objects are forgotten. No statement of the seat is proved here; no conditions.
-/
import Derived.Test.YtagkdifaldikgaaGreatDoorQdL2
namespace Go.Proofs.YtagkdifaldikgaaGreatDoor
open Go.RowKit
set_option linter.unusedVariables false
set_option linter.unusedSimpArgs false

theorem St.only {P : Program} {G : Ghost} {H : Heap} {Z : Nat → Prop} {w : World} (st : St P G H Z w) {id ver : Nat} {cs : List AV} (hH : H id = (ver,some (.cells cs))) (hp : ∀ a ∈ cs,a.pure = true) :
  St P (upd (fun _ => (0,none)) id (G id)) (upd H0 id (ver,some (.cells cs))) Z w := by
 have hv : (G id).1 = ver := by rw [st.ver id,hH]
 obtain ⟨loc,h1,h2⟩ := st.obj id (.cells cs) (by rw [hH])
 have hone : ∀ i g o,((upd (fun _ => ((0 : Nat),(none : Option (Option (Nat × Nat))))) id (G id)) i).2 = some (some (g,o)) → i = id ∧ (G id).2 = some (some (g,o)) := fun i g o h => by
  by_cases e : i = id
  ·subst e;rw [upd_same] at h;exact ⟨rfl,h⟩
  ·rw [upd_ne _ _ _ _ e] at h;cases h
 refine ⟨fun i => ?_,fun i h => ?_,fun i o h => ?_,fun i i' g o o' h h' => (hone i g o h).1.trans (hone i' g o' h').1.symm,fun i g o h => st.disj id g o (hone i g o h).2,st.zlt,fun i g o h => st.glt id g o (hone i g o h).2,fun i g o h => st.ones id g o (hone i g o h).2⟩
 ·by_cases e : i = id
  ·subst e;rw [upd_same,upd_same];exact hv
  ·rw [upd_ne _ _ _ _ e,upd_ne _ _ _ _ e];rfl
 ·by_cases e : i = id
  ·subst e;rw [upd_same] at h;cases h
  ·rw [upd_ne _ _ _ _ e]
 ·by_cases e : i = id
  ·subst e
   rw [upd_same] at h
   obtain rfl := Option.some.inj h
   rw [upd_same]
   refine ⟨loc,h1,?_⟩
   cases loc with
   | none => exact h2
   | some p =>
    obtain ⟨g,ob⟩ := p
    obtain ⟨arr,e,h3,h4⟩ := h2
    refine ⟨arr,e,h3,fun j a ha => ?_⟩
    obtain ⟨v,k1,k2,k3⟩ := h4 j a ha
    exact ⟨v,k1,k2,k3.pure_ (fun b hb => ⟨hb,rfl⟩) (hp a (List.mem_of_getElem? ha))⟩
  ·rw [upd_ne _ _ _ _ e] at h;cases h
structure Trk (P : Program) (G : Ghost) (Z Zx : Nat → Prop) (w wx : World) : Prop where
 os : wx.os = w.os
 tape : wx.tape = w.tape
 output : wx.output = w.output
 size : w.heap.size + 3 ≤ wx.heap.size
 old : ∀ b,b < w.heap.size → ¬ LiveB G b → wx.heap[b]? = w.heap[b]?
 zin : ∀ b,Z b → Zx b ∧ wx.heap[b]? = w.heap[b]?
 zout : ∀ b,Zx b → Z b ∨ LiveB G b ∨ w.heap.size + 3 ≤ b
 room : ∀ b (arr : Array Value) e fz,LiveB G b → w.heap[b]? = some (.cells arr e fz) → ∃ arr' e' fz',wx.heap[b]? = some (.cells arr' e' fz') ∧ arr'.size = arr.size
 zlt : ZOk P Zx wx
structure Boxy (B : Nat) (w w' : World) : Prop where
 os : w'.os = w.os
 tape : w'.tape = w.tape
 output : w'.output = w.output
 size : w.heap.size ≤ w'.heap.size
 same : ∀ b,b < w.heap.size → ¬ (B ≤ b ∧ b < B + 3) → w'.heap[b]? = w.heap[b]?
theorem Boxy.trans {B : Nat} {w w1 w2 : World} (h : Boxy B w w1) (h' : Boxy B w1 w2) : Boxy B w w2 :=
 ⟨h'.os.trans h.os,h'.tape.trans h.tape,h'.output.trans h.output,Nat.le_trans h.size h'.size,fun b hb hn => (h'.same b (Nat.lt_of_lt_of_le hb h.size) hn).trans (h.same b hb hn)⟩
section
variable {P : Program} {G G1 : Ghost} {H H1 : Heap} {Z Zx Z1 : Nat → Prop} {w wx wy : World}
theorem Trk.zlow (st : St P G H Z w) (h : Trk P G Z Zx w wx) {b : Nat} (hb : Zx b) : b < w.heap.size ∨ w.heap.size + 3 ≤ b := by
 rcases h.zout b hb with h1 | ⟨id,o,h1⟩ | h1
 ·exact .inl (st.zlt b h1)
 ·exact .inl (st.glt id b o h1)
 ·exact .inr h1
theorem Trk.boxy (st : St P G H Z w) (h : Trk P G Z Zx w wx) (hb : Boxy w.heap.size wx wy) : Trk P G Z Zx w wy := by
 have hlow : ∀ b,b < w.heap.size → wy.heap[b]? = wx.heap[b]? := fun b h1 => hb.same b (by have := h.size;omega) (by omega)
 have hz : ∀ b,Zx b → wy.heap[b]? = wx.heap[b]? := fun b h1 => by
  rcases h.zlow st h1 with h2 | h2
  ·exact hlow b h2
  ·exact hb.same b (h.zlt b h1) (by omega)
 refine ⟨hb.os.trans h.os,hb.tape.trans h.tape,hb.output.trans h.output,Nat.le_trans h.size hb.size,fun b h1 h2 => (hlow b h1).trans (h.old b h1 h2),fun b h1 => ⟨(h.zin b h1).1,(hlow b (st.zlt b h1)).trans (h.zin b h1).2⟩,h.zout,fun b arr e fz hl hh => ?_,⟨fun b h1 => Nat.lt_of_lt_of_le (h.zlt b h1) hb.size,h.zlt.kn.mono fun b h1 => ⟨h1,hz b h1⟩⟩⟩
 obtain ⟨arr',e',fz',h1,h2⟩ := h.room b arr e fz hl hh
 obtain ⟨id,o,hl⟩ := hl
 exact ⟨arr',e',fz',by rw [hlow b (st.glt id b o hl)];exact h1,h2⟩
theorem Trk.wide (st : St P G H Z w) (h : Trk P G Z Zx w wx) (hl1 : ∀ b,LiveB G1 b → LiveB G b ∨ w.heap.size + 3 ≤ b) (hh : HistW G1 Zx wx wy) : Trk P G Z Zx w wy ∧ ∀ b,w.heap.size ≤ b → b < w.heap.size + 3 → wy.heap[b]? = wx.heap[b]? := by
 have hbox : ∀ b,w.heap.size ≤ b → b < w.heap.size + 3 → wy.heap[b]? = wx.heap[b]? := fun b h1 h2 => hh.old b (by have := h.size;omega) fun hl => by
  rcases hl1 b hl with ⟨id,o,h3⟩ | h3
  ·have := st.glt id b o h3;omega
  ·omega
 refine ⟨⟨hh.os.trans h.os,hh.tape.trans h.tape,hh.output.trans h.output,Nat.le_trans h.size hh.size,fun b h1 h2 => ?_,fun b h1 => ⟨(h.zin b h1).1,(hh.zin b (h.zin b h1).1).trans (h.zin b h1).2⟩,h.zout,fun b arr e fz hl hx => ?_,⟨fun b h1 => Nat.lt_of_lt_of_le (h.zlt b h1) hh.size,h.zlt.kn.mono fun b h1 => ⟨h1,hh.zin b h1⟩⟩⟩,hbox⟩
 ·rw [hh.old b (by have := h.size;omega) fun hl => ?_,h.old b h1 h2]
  rcases hl1 b hl with h3 | h3
  ·exact h2 h3
  ·omega
 ·obtain ⟨arr1,e1,fz1,k1,k2⟩ := h.room b arr e fz hl hx
  by_cases hl2 : LiveB G1 b
  ·obtain ⟨arr2,e2,fz2,k3,k4⟩ := hh.room b arr1 e1 fz1 hl2 k1
   exact ⟨arr2,e2,fz2,k3,by omega⟩
  ·exact ⟨arr1,e1,fz1,by rw [hh.old b (heap_lt k1) hl2];exact k1,k2⟩
theorem Trk.step (st : St P G H Z w) (h : Trk P G Z Z w wx) (st1 : St P G1 H1 Z1 wy) (hh : Hist G Z wx G1 Z1 wy) : Trk P G Z Z1 w wy ∧ (∀ b,LiveB G1 b → LiveB G b ∨ w.heap.size + 3 ≤ b) ∧ ∀ b,w.heap.size ≤ b → b < w.heap.size + 3 → wy.heap[b]? = wx.heap[b]? := by
 obtain ⟨h1,h2⟩ := h.wide st (fun b hb => .inl hb) (G1 := G) hh.wide
 refine ⟨⟨h1.os,h1.tape,h1.output,h1.size,h1.old,fun b hb => ⟨(hh.zin b hb).1,(h1.zin b hb).2⟩,fun b hb => ?_,h1.room,st1.zlt⟩,fun b hb => ?_,h2⟩
 ·rcases hh.zout b hb with h3 | h3 | h3
  ·exact .inl h3
  ·exact .inr (.inl h3)
  ·exact .inr (.inr (Nat.le_trans h.size h3))
 ·rcases hh.live b hb with h3 | h3
  ·exact .inl h3
  ·exact .inr (Nat.le_trans h.size h3)
theorem Trk.gone (h : Trk P G Z Zx w wx) (hG : ∀ i,i ≠ 100001 → G i = (0,none)) (hv : (G 100001).1 = 1) :
  St P (upd (fun _ => (0,none)) 100001 (1,none)) (upd H0 100001 (1,none)) Zx wx ∧ Hist G Z w (upd (fun _ => (0,none)) 100001 (1,none)) Zx wx := by
 have hno : ∀ i,((upd (fun _ => ((0 : Nat),(none : Option (Option (Nat × Nat))))) 100001 (1,none)) i).2 = none := fun i => by unfold upd;split <;> rfl
 refine ⟨⟨fun i => ?_,fun i _ => hno i,fun i o ho => ?_,fun i i' g o o' h1 => ?_,fun i g o h1 => ?_,h.zlt,fun i g o h1 => ?_,fun i g o h1 => ?_⟩,⟨h.os,h.tape,h.output,by have := h.size;omega,h.old,h.zin,fun b hb => ?_,fun b ⟨i,o,h1⟩ => ?_,h.room,fun i hi => ?_,fun i hi e => .inl (hno i)⟩⟩
 ·unfold upd;split <;> rfl
 ·exfalso;revert ho;unfold upd;split <;> (intro ho;cases ho)
 ·rw [hno] at h1;cases h1
 ·rw [hno] at h1;cases h1
 ·rw [hno] at h1;cases h1
 ·rw [hno] at h1;cases h1
 ·rcases h.zout b hb with h1 | h1 | h1
  ·exact .inl h1
  ·exact .inr (.inl h1)
  ·exact .inr (.inr (by omega))
 ·rw [hno] at h1;cases h1
 ·by_cases e : i = 100001
  ·subst e;rw [hv,upd_same];exact Nat.le_refl _
  ·rw [hG i e];exact Nat.zero_le _
end
theorem gone_pm {P : Program} {f : FuncId} {H : Heap} {id ver : Nat} {cs : List AV} {r0 : AV} (hF : FCall P f [.ptr 100001 1 0] (upd H0 100001 (1,some (.cells cs))) (fun r H' => r = r0 ∧ H' = upd H0 100001 (1,none))) (hcs : ∀ a ∈ cs,a.pure = true) (hr0 : r0.pure = true) (hc : cellsOf ver (H id) = some cs) :
  ACall P f [.ptr id ver 0] H (fun r H' => r = r0 ∧ H' = upd H id (ver,none)) := by
 refine ⟨hF.1,fun G Z w vs st hsz hrep => ?_⟩
 obtain ⟨v0,rfl⟩ : ∃ v0,vs = #[v0] := by
  obtain ⟨l⟩ := vs
  match l,hsz with
  | [v0],_ => exact ⟨v0,rfl⟩
 obtain ⟨loc,hG,hob,hH⟩ := st.cells hc
 obtain ⟨g0,o0,rfl,hp0⟩ := head_ptr hG (hrep 0 _ v0 rfl rfl)
 obtain ⟨arr0,e0,hh0,hcc0⟩ := hob
 have hlive : ∀ b,LiveB (upd (fun _ => ((0 : Nat),(none : Option (Option (Nat × Nat))))) 100001 (1,some (some (g0,o0)))) b → b = g0 := fun b ⟨i,o,h⟩ => by
  by_cases e : i = 100001
  ·subst e;rw [upd_same] at h
   simp only [Option.some.injEq,Prod.mk.injEq] at h
   exact h.1.symm
  ·rw [upd_ne _ _ _ _ e] at h;cases h
 have hGc : (upd (fun _ => ((0 : Nat),(none : Option (Option (Nat × Nat))))) 100001 (1,some (some (g0,o0)))) 100001 = (1,some (some (g0,o0))) := upd_same _ _ _
 have hone : ∀ i g o,((upd (fun _ => ((0 : Nat),(none : Option (Option (Nat × Nat))))) 100001 (1,some (some (g0,o0)))) i).2 = some (some (g,o)) → i = 100001 ∧ g = g0 ∧ o = o0 := fun i g o h => by
  by_cases e : i = 100001
  ·subst e;rw [upd_same] at h
   simp only [Option.some.injEq,Prod.mk.injEq] at h
   exact ⟨rfl,h.1.symm,h.2.symm⟩
  ·rw [upd_ne _ _ _ _ e] at h;cases h
 have hgid : (G id).2 = some (some (g0,o0)) := by rw [hG]
 have stc : St P (upd (fun _ => (0,none)) 100001 (1,some (some (g0,o0)))) (upd H0 100001 (1,some (.cells cs))) Z w := by
  refine ⟨fun i => ?_,fun i h => ?_,fun i o h => ?_,fun i i' g o o' h h' => (hone i g o h).1.trans (hone i' g o' h').1.symm,fun i g o h => ?_,st.zlt,fun i g o h => ?_,fun i g o h => ?_⟩
  ·unfold upd;split <;> rfl
  ·by_cases e : i = 100001
   ·subst e;rw [upd_same] at h;cases h
   ·rw [upd_ne _ _ _ _ e]
  ·by_cases e : i = 100001
   ·subst e
    rw [upd_same] at h
    obtain rfl := Option.some.inj h
    refine ⟨some (g0,o0),by rw [upd_same],arr0,e0,hh0,fun j a ha => ?_⟩
    obtain ⟨v,k1,k2,k3⟩ := hcc0 j a ha
    exact ⟨v,k1,k2,k3.pure_ (fun b hb => ⟨hb,rfl⟩) (hcs a (List.mem_of_getElem? ha))⟩
   ·rw [upd_ne _ _ _ _ e] at h;cases h
  ·obtain ⟨_,rfl,rfl⟩ := hone i g o h;exact st.disj id _ _ hgid
  ·obtain ⟨_,rfl,rfl⟩ := hone i g o h;exact st.glt id _ _ hgid
  ·obtain ⟨_,rfl,rfl⟩ := hone i g o h;exact st.ones id _ _ hgid
 refine (hF.2 _ Z w #[v0] stc rfl fun j a v ha hv => ?_).mono fun e w1 ⟨v,r,H',G',Z',e1,⟨er,e2⟩,st1,hh,hr⟩ => ?_
 ·cases j with
  | zero =>
   simp only [List.getElem?_cons_zero,Option.some.injEq] at ha
   subst ha
   obtain rfl : v0 = v := by simpa using hv
   exact hp0 _ hGc
  | succ j => simp at ha
 subst e2
 have hkeep : ∀ b,b < w.heap.size → b ≠ g0 → w1.heap[b]? = w.heap[b]? := fun b hb hn => hh.old b hb fun hl => hn (hlive b hl)
 have hne : ∀ i g o,i ≠ id → (G i).2 = some (some (g,o)) → g ≠ g0 := fun i g o hi h e => hi (st.inj i id g o o0 h (by rw [hgid,e]))
 have hz1 : ∀ b,Z' b → Z b ∨ b = g0 ∨ w.heap.size ≤ b := fun b hb => by
  rcases hh.zout b hb with h | h | h
  ·exact .inl h
  ·exact .inr (.inl (hlive b h))
  ·exact .inr (.inr h)
 have hv : (G id).1 = ver := by rw [hG]
 have hG2 : ∀ i g o,((upd G id (ver,none)) i).2 = some (some (g,o)) → i ≠ id ∧ (G i).2 = some (some (g,o)) := fun i g o h => by
  by_cases e : i = id
  ·subst e;rw [upd_same] at h;cases h
  ·rw [upd_ne _ _ _ _ e] at h;exact ⟨e,h⟩
 have kp : Keep G Z w (upd G id (ver,none)) Z' w1 := by
  refine ⟨hh.zin,fun i => ?_,fun i e => ?_,fun b arr e fz hl hx => ?_⟩
  ·by_cases e : i = id
   ·subst e;rw [upd_same,hv];exact Nat.le_refl _
   ·rw [upd_ne _ _ _ _ e];exact Nat.le_refl _
  ·by_cases e2 : i = id
   ·subst e2;rw [upd_same];exact .inl rfl
   ·rw [upd_ne _ _ _ _ e2];exact .inr rfl
  ·by_cases e2 : b = g0
   ·subst e2
    exact hh.room b arr e fz ⟨100001,o0,by rw [hGc]⟩ hx
   ·exact ⟨arr,e,fz,by rw [hkeep b (heap_lt hx) e2];exact hx,rfl⟩
 refine ⟨v,r,upd H id (ver,none),upd G id (ver,none),Z',e1,⟨er,rfl⟩,⟨fun i => ?_,fun i h => ?_,fun i o h => ?_,fun i i' g o o' h h' => st.inj i i' g o o' (hG2 i g o h).2 (hG2 i' g o' h').2,fun i g o h hz => ?_,st1.zlt,fun i g o h => Nat.lt_of_lt_of_le (st.glt i g o (hG2 i g o h).2) hh.size,fun i g o h => ?_⟩,⟨kp,hh.os,hh.tape,hh.output,hh.size,fun b hb hn => hkeep b hb fun e => hn ⟨id,o0,by rw [hgid,e]⟩,fun b hb => ?_,fun b ⟨i,o,h⟩ => .inl ⟨i,o,(hG2 i b o h).2⟩⟩,hr.pure_ (fun b hb => ⟨hb,rfl⟩) (er ▸ hr0)⟩
 ·by_cases e : i = id
  ·subst e;rw [upd_same,upd_same]
  ·rw [upd_ne _ _ _ _ e,upd_ne _ _ _ _ e];exact st.ver i
 ·by_cases e : i = id
  ·subst e;rw [upd_same]
  ·rw [upd_ne _ _ _ _ e] at h ⊢;exact st.dead i h
 ·by_cases e : i = id
  ·subst e;rw [upd_same] at h;cases h
  ·rw [upd_ne _ _ _ _ e] at h
   obtain ⟨loc,h1,h2⟩ := st.obj i o h
   refine ⟨loc,by rw [upd_ne _ _ _ _ e];exact h1,?_⟩
   cases loc with
   | none => cases o <;> exact h2
   | some p =>
    obtain ⟨g,ob⟩ := p
    have hg : w1.heap[g]? = w.heap[g]? := hkeep g (st.glt i g ob h1) (hne i g ob e h1)
    cases o with
    | cells cs' =>
     obtain ⟨arr,e',h3,h4⟩ := h2
     exact ⟨arr,e',by rw [hg];exact h3,h4.mono fun a v hr => hr.keep kp⟩
    | ty cs' tt =>
     obtain ⟨h00,arr,h3,h4⟩ := h2
     exact ⟨h00,arr,by rw [hg];exact h3,h4.mono fun a v hr => hr.keep kp⟩
    | map m =>
     obtain ⟨h00,es,ck,h3,h4⟩ := h2
     exact ⟨h00,es,ck,by rw [hg];exact h3,h4⟩
 ·obtain ⟨h1,h2⟩ := hG2 i g o h
  rcases hz1 g hz with h3 | h3 | h3
  ·exact st.disj i g o h2 h3
  ·exact hne i g o h1 h2 h3
  ·have := st.glt i g o h2;omega
 ·obtain ⟨h1,h2⟩ := hG2 i g o h
  exact (st.ones i g o h2).same (hkeep g (st.glt i g o h2) (hne i g o h1 h2))
 ·rcases hz1 b hb with h1 | h1 | h1
  ·exact .inl h1
  ·exact .inr (.inl ⟨id,o0,by rw [hgid,h1]⟩)
  ·exact .inr (.inr h1)
theorem free_call {P : Program} {f : FuncId} {args : List AV} {H : Heap} {Q : AV → Prop} (hF : FCall P f args H0 (fun r _ => Q r)) (hp : args.all AV.pure = true) (hq : ∀ r,Q r → r.pure = true) : ACall P f args H (fun r H' => Q r ∧ H' = H) := by
 refine ⟨hF.1,fun G Z w vs st hsz hrep => ?_⟩
 have hlive : ∀ b,¬ LiveB (fun _ => ((0 : Nat),(none : Option (Option (Nat × Nat))))) b := fun b ⟨i,o,h⟩ => by cases h
 refine (hF.2 (fun _ => (0,none)) Z w vs ⟨fun _ => rfl,fun _ _ => rfl,fun id o h => (by cases h),fun _ _ _ _ _ h => (by cases h),fun _ _ _ h => (by cases h),st.zlt,fun _ _ _ h => (by cases h),fun _ _ _ h => (by cases h)⟩ hsz fun j a v ha hv => (hrep j a v ha hv).pure_ (fun b hb => ⟨hb,rfl⟩) (List.all_eq_true.1 hp a (List.mem_of_getElem? ha))).mono fun e w1 ⟨v,r,H',G',Z',e1,hr0,st1,hh,hr⟩ => ?_
 have hold : ∀ b,b < w.heap.size → w1.heap[b]? = w.heap[b]? := fun b hb => hh.old b hb (hlive b)
 have kp : Keep G Z w G Z' w1 := ⟨hh.zin,fun _ => Nat.le_refl _,fun _ _ => .inr rfl,fun b arr e fz hl hx => ⟨arr,e,fz,by rw [hold b (heap_lt hx)];exact hx,rfl⟩⟩
 have hz1 : ∀ b,Z' b → Z b ∨ w.heap.size ≤ b := fun b hb => by
  rcases hh.zout b hb with h | h | h
  ·exact .inl h
  ·exact absurd h (hlive b)
  ·exact .inr h
 refine ⟨v,r,H,G,Z',e1,⟨hr0,rfl⟩,⟨st.ver,st.dead,fun i o h => ?_,st.inj,fun i g o h hz => ?_,st1.zlt,fun i g o h => Nat.lt_of_lt_of_le (st.glt i g o h) hh.size,fun i g o h => (st.ones i g o h).same (hold g (st.glt i g o h))⟩,⟨kp,hh.os,hh.tape,hh.output,hh.size,fun b hb _ => hold b hb,fun b hb => ?_,fun b hb => .inl hb⟩,hr.pure_ (fun b hb => ⟨hb,rfl⟩) (hq r hr0)⟩
 ·obtain ⟨loc,h1,h2⟩ := st.obj i o h
  refine ⟨loc,h1,?_⟩
  cases loc with
  | none => cases o <;> exact h2
  | some p =>
   obtain ⟨g,ob⟩ := p
   have hg : w1.heap[g]? = w.heap[g]? := hold g (st.glt i g ob h1)
   cases o with
   | cells cs' =>
    obtain ⟨arr,e',h3,h4⟩ := h2
    exact ⟨arr,e',by rw [hg];exact h3,h4.mono fun a v hr => hr.keep kp⟩
   | ty cs' tt =>
    obtain ⟨h00,arr,h3,h4⟩ := h2
    exact ⟨h00,arr,by rw [hg];exact h3,h4.mono fun a v hr => hr.keep kp⟩
   | map m =>
    obtain ⟨h00,es,ck,h3,h4⟩ := h2
    exact ⟨h00,es,ck,by rw [hg];exact h3,h4⟩
 ·rcases hz1 g hz with h3 | h3
  ·exact st.disj i g o h h3
  ·have := st.glt i g o h;omega
 ·rcases hz1 b hb with h1 | h1
  ·exact .inl h1
  ·exact .inr (.inr h1)
end Go.Proofs.YtagkdifaldikgaaGreatDoor
