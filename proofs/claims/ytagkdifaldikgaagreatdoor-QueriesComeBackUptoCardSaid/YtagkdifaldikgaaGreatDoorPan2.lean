/-
  The abstract machine: a call that panics in a drawn region, behind operations that only look. No statement of the seat is proved here; no conditions.
-/
import Derived.Test.YtagkdifaldikgaaGreatDoorPan
import Derived.OrdersHeld
namespace Go.Proofs.YtagkdifaldikgaaGreatDoor
open Go.RowKit
set_option linter.unusedVariables false
set_option linter.unusedSimpArgs false

def pureA (op : LOp) (env : Env) (H : Heap) : Option AV := match op with
 | .move x => some (evA env x)
 | .load n x => ((eff (.load n x) (evA env) 0).exec H).map (·.1)
 | .fieldAddr k x => match evA env x with
  | .ptr id ver off => if aliveOf ver (H id) = true then some (.ptr id ver (off + k)) else none
  | _ => none
 | _ => none
def PDraw (P : Program) (V : Value → Prop) (H : Heap) : List DO → Nat → Env → Prop
 | [],_,_ => False
 | o :: l,j,env => o.guard = none ∧ ((∃ d v,o.dst = some d ∧ pureA o.op env H = some v ∧ PDraw P V H l (j + 1) (putE env (some d) v)) ∨
   (∃ f args fid,o.op = .call f args ∧ evA env f = .f (.fn (.func fid)) ∧ PCall P fid (args.map (evA env)) H V ∧ (l.all fun o' => o'.ord.contains j) = true))
section
variable {P : Program} {Λ : Lams} {k : List It} {env : Env} {H : Heap} {V : Value → Prop}
theorem pure_run {G : Ghost} {Z : Nat → Prop} {w : World} {a : Act} (st : St P G H Z w) (he : EnvR G Z w env a.tmps) {c : Oper} {op : LOp} (hl : lowOp P c.op = some op) {v : AV} (hx : pureA op env H = some v) :
  ∃ u,(execOp a.eval c).run P w = .ok (.value u) w ∧ RepA G Z w v u := by
 have hρ : ∀ x,RepA G Z w (evA env x) (a.eval x) := fun x => he.eval x
 unfold pureA at hx
 cases ho : c.op <;> rw [ho] at hl <;> simp only [lowOp] at hl
 case move x => obtain rfl := Option.some.inj hl;obtain rfl := Option.some.inj hx;exact ⟨a.eval x,by simp [execOp,ho],hρ x⟩
 case assign x => obtain rfl := Option.some.inj hl;obtain rfl := Option.some.inj hx;exact ⟨a.eval x,by simp [execOp,ho],hρ x⟩
 case load ty x =>
  obtain ⟨n,hn,rfl⟩ := Option.map_eq_some_iff.1 hl
  obtain ⟨⟨v',H'⟩,h1,rfl⟩ := Option.map_eq_some_iff.1 hx
  obtain ⟨u,h2,h3,_⟩ := load_ok st hρ ty n x hn h1
  exact ⟨u,by simp [execOp,ho,h2],h3⟩
 case fieldAddr s x i =>
  split at hl
  case h_2 => cases hl
  rename_i f hf
  split at hl
  case h_2 => cases hl
  rename_i n hn
  split at hl
  case isFalse => cases hl
  rename_i h0
  obtain rfl := Option.some.inj hl
  simp only at hx
  split at hx
  case h_2 => cases hx
  rename_i id ver off e
  split at hx
  case isFalse => cases hx
  rename_i hal
  obtain rfl := Option.some.inj hx
  have ha := hρ x
  rw [e] at ha
  obtain ⟨loc,hG⟩ := st.alive hal
  obtain ⟨g,o',rfl,hp⟩ := ha.ptr_ hG
  refine ⟨.pointer (some ⟨g,o' + off + f.offset,none⟩),?_,by rw [Nat.add_assoc];exact .ptrLive _ _ _ g o' hG⟩
  unfold fieldOf? at hf
  split at hf
  case h_2 => cases hf
  rename_i fs hu
  unfold sizeOf? at hn
  cases hi : P.info? f.type with
  | none => rw [hi] at hn;cases hn
  | some inf =>
   rw [hi] at hn
   have hsz : inf.size ≠ 0 := by simp at hn;omega
   simp [execOp,ho,Instr.fieldAt,run_underlying hu,hf,hp,Instr.sureAddr,fieldPlace,sizeOf,typeInfo,hi,hsz,Addr.add_mid]
 case binOp =>
  split at hl
  ·rename_i hn
   obtain rfl := Option.some.inj hl
   obtain ⟨_,_,⟨h1,_⟩ | ⟨h1,_⟩⟩ := nilOf_inv hn <;> subst h1 <;> cases hx
  ·split at hl
   ·rename_i hn
    obtain rfl := Option.some.inj hl
    obtain ⟨_,_,neg,h1,_⟩ := eqOf_inv hn
    subst h1;cases hx
   ·obtain rfl := Option.some.inj hl;cases hx
 all_goals (repeat' (first|(cases hl;done) | (obtain rfl := Option.some.inj hl;cases hx;done) | (obtain ⟨_,_,rfl⟩ := Option.map_eq_some_iff.1 hl;cases hx;done) | split at hl))
theorem ord_bef {ops : Array Oper} : ∀ {l : List Oper} {los : List DO} {ords : List (List Nat)} {n : Nat},lowDOpers P ops l ords = some los → (∀ j,l[j]? = ops[n + j]?) → ords.length = n → (∀ (j : Nat) (r : List Nat),ords[j]? = some r → ∀ i ∈ r,Bef .any ops j i) →
  ∀ (m : Nat) (o' : DO),los[m]? = some o' → ∀ i ∈ o'.ord,Bef .any ops (n + m) i
 | l,[],ords,n,h,hi,hn,hv => fun m o' ho => by simp at ho
 | l,o :: los,ords,n,h,hi,hn,hv => by
  obtain ⟨c,r,rfl,g1,g2,g3,g4,g5⟩ := lowDOpers_cons h
  have h0 : ops[n]? = some c := by simpa using (hi 0).symm
  intro m o' ho i hio
  cases m with
  | zero =>
   simp only [List.getElem?_cons_zero,Option.some.injEq] at ho
   subst ho
   rw [g4] at hio
   exact ords_next hn h0 hv n (ordOf c ords) (by rw [← hn];simp) i hio
  | succ m =>
   have := ord_bef g5 (n := n + 1) (fun j => by have := hi (j + 1);simpa [Nat.add_assoc,Nat.add_comm 1 j] using this) (by simp [hn]) (ords_next hn h0 hv) m o' (by simpa using ho) i hio
   rwa [show n + (m + 1) = n + 1 + m by omega]
theorem low_len {ops : Array Oper} : ∀ {l : List Oper} {los : List DO} {ords : List (List Nat)},lowDOpers P ops l ords = some los → los.length = l.length
 | l,[],ords,h => by
  cases l with
  | nil => rfl
  | cons c r => simp only [lowDOpers] at h;split at h <;> cases h
 | l,o :: los,ords,h => by
  obtain ⟨c,r,rfl,_,_,_,_,g5⟩ := lowDOpers_cons h
  rw [List.length_cons,List.length_cons,low_len g5]
theorem pdraw_any {s : At0} {t : List Item} {ops : Array Oper} (hsel : Region.noSelect ops = true) : ∀ (l : List Oper) (los : List DO) (ords : List (List Nat)) (n : Nat) (listed : Array Bool) (env : Env) (a : Act) (w : World),lowDOpers P ops l ords = some los → (∀ j,l[j]? = ops[n + j]?) → ords.length = n →
  (∀ (j : Nat) (r : List Nat),ords[j]? = some r → ∀ i ∈ r,Bef .any ops j i) → Closed .any ops listed → (∀ i,i < n → listed.getD i true = true) → Region.lexFrom .any ops l.length n listed = true → Sim P s env H a w → PDraw P V H los n env →
  wpAnyH P .any ops (Post P (Fin P (panR V) s) t) (fun w' => w' = w) l.length listed a w
 | l,[],ords,n,listed,env,a,w,hl,hi,hn,hv,hcl,hlt,hB,hs,hp => hp.elim
 | l,o :: los,ords,n,listed,env,a,w,hl,hi,hn,hv,hcl,hlt,hB,hs,hp => by
  obtain ⟨c,r,rfl,g1,g2,g3,g4,g5⟩ := lowDOpers_cons hl
  have h0 : ops[n]? = some c := by simpa using (hi 0).symm
  have hi' : ∀ j,r[j]? = ops[n + 1 + j]? := fun j => by have := hi (j + 1);simpa [Nat.add_assoc,Nat.add_comm 1 j] using this
  simp only [List.length_cons,Region.lexFrom,Bool.and_eq_true] at hB
  obtain ⟨⟨hr,hf⟩,hB'⟩ := hB
  obtain ⟨hg,hp⟩ := hp
  have hr' : n ∈ Region.ready .any ops listed := by simpa using hr
  obtain ⟨G,Z,st,he,hd,hh⟩ := id hs
  rw [hg] at g3
  have hw : Region.wanted c (yielded ops a.tmps) = true := skipA_wanted he ((gd_skipA (env := env) g3).trans rfl)
  rcases hp with ⟨d,v,hdst,hx,hp⟩ | ⟨f,args,fid,hop,hfn,hc,hall⟩
  ·obtain ⟨u,hrun,hrep⟩ := pure_run st he g1 hx
   refine wpAnyH_take h0 hsel hf hr (fun ch a w hq => ?_) (.inl ⟨hw,fun w' hw' => by subst hw';exact hrun⟩) rfl ?_
   ·rcases hq with ⟨hq,_⟩ | ⟨x,hx1,hx2,hx3,hx4,hx5⟩
    ·cases hq
    ·exact .inr ⟨x,hx1,hx2,hx3,by rw [← hx4];cases c.dst <;> rfl,hx5⟩
   ·rw [hdst] at g2
    rw [← g2]
    refine pdraw_any hsel r los _ (n + 1) _ _ _ w g5 hi' (by simp [hn]) (ords_next hn h0 hv) (hcl.set hr') (fun i hi => ?_) hB' (Sim.next he hd hh st (Step.refl _ _ _) hrep) hp
    by_cases e : n = i
    ·subst e
     rcases Nat.lt_or_ge n listed.size with h' | h'
     ·simp [h']
     ·simp [Array.getElem?_eq_none h']
    ·rw [getD_set_ne true e];exact hlt i (by omega)
  ·rw [hop] at g1
   obtain ⟨cl,k1,k2,rfl⟩ := lowOp_call g1
   refine ⟨fun h0 => (by rw [h0] at hr';cases hr'),fun j hj => ?_⟩
   have hjn : j = n := by
    rcases Nat.lt_trichotomy j n with h1 | h1 | h1
    ·have h2 := hlt j h1
     rw [(mem_ready.1 hj).1] at h2;cases h2
    ·exact h1
    ·obtain ⟨hj1,oj,hj2,_⟩ := mem_ready.1 hj
     have hlen := low_len g5
     have hrj : r[j - (n + 1)]? = some oj := by rw [hi' (j - (n + 1)),← hj2];congr 1;omega
     have hlt2 := (List.getElem?_eq_some_iff.1 hrj).1
     obtain ⟨o',ho'⟩ : ∃ o',los[j - (n + 1)]? = some o' := ⟨_,List.getElem?_eq_getElem (by omega)⟩
     have hb := ord_bef g5 hi' (by simp [hn]) (ords_next hn h0 hv) (j - (n + 1)) o' ho' n (by simpa using List.all_eq_true.1 hall o' (List.mem_of_getElem? ho'))
     rw [show n + 1 + (j - (n + 1)) = j by omega] at hb
     have h3 := hcl.ready hj hb
     have h4 := (mem_ready.1 hr').1
     rcases Nat.lt_or_ge n listed.size with h' | h'
     ·simp [h'] at h3 h4;rw [h4] at h3;cases h3
     ·simp [Array.getElem?_eq_none h'] at h3
   subst hjn
   unfold wpOp
   simp only [h0,hw,if_true]
   left
   have hf := he.eval f
   rw [hfn] at hf
   have hargs : ∀ (j : Nat) (x : AV) (v : Value),(cl.args.toList.map (evA env))[j]? = some x → (cl.args.map a.eval)[j]? = some v → RepA G Z w x v := fun j x v hx hv => by
    rw [List.getElem?_map] at hx
    rw [Array.getElem?_map] at hv
    obtain ⟨y,hy,rfl⟩ := Option.map_eq_some_iff.1 hx
    rw [Array.getElem?_toList] at hy
    rw [hy] at hv
    obtain rfl := Option.some.inj hv
    exact he.eval y
   have hrun : (execOp a.eval c).run P w = (callFunc fid (cl.args.map a.eval)).run P w := by
    simp [execOp,k1,resolve,k2,hf.fn_,Deferred.ofValue,invoke]
   unfold Oper.wp
   rw [hrun,pcall_run hc.1,Oper.upon_enter]
   refine (hc.2 G Z w _ st (by simp) hargs).mono fun e w' ⟨v,he1,hv,hw'⟩ => ?_
   subst he1
   exact .inr ⟨v,rfl,fun env H ⟨v',_,he⟩ => by rw [he];rfl,⟨v,hv,rfl⟩,hd,HistW.after hh hw'⟩
theorem ax_pdraw {los : List DO} (h : PDraw P V H los 0 env) : Ax P (panR V) Λ (.code (.draw los) :: k) env H := fun s t hm a w hs => by
 cases hm with
 | code hc hm =>
  obtain ⟨id,ops,rfl,hf,hB,h1⟩ := low_inv hc
  rename_i t
  simp only [Region.lexB,Bool.and_eq_true] at hB
  refine Goal.wp (wp_region_held (S := fun w' => w' = { w with drawn := w.drawn + 1 }) hf ?_)
  have := pdraw_any (t := t) hB.1 ops.toList los [] 0 (Array.replicate ops.size false) env a _ h1 (fun j => by simp) rfl (fun j r hj => by simp at hj) (closed_none _ _ _) (fun i hi => absurd hi (Nat.not_lt_zero i)) (by simpa using hB.2) hs.drew h
  simpa using this
end
end Go.Proofs.YtagkdifaldikgaaGreatDoor
