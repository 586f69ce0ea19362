/-
  The abstract machine: calls that are handed objects of one's own for good. No statement of the seat is proved here; no conditions.
-/
import Derived.Test.YticefeanlicapaaDoorEngS
namespace Go.Proofs.YticefeanlicapaaDoor
open Go.RowKit
set_option linter.unusedVariables false
set_option linter.unusedSimpArgs false

def killL : List Nat → Heap → Heap
 | [],H => H
 | i :: l,H => upd (killL l H) i ((killL l H i).1,none)
theorem kl_nil {H : Heap} : killL [] H = H := rfl
theorem kl_cons {i : Nat} {l : List Nat} {H : Heap} : killL (i :: l) H = upd (killL l H) i ((killL l H i).1,none) := rfl
theorem kill_at : ∀ (l : List Nat) (H : Heap) (id : Nat),killL l H id = if id ∈ l then ((H id).1,none) else H id
 | [],H,id => by simp [killL]
 | i :: l,H,id => by
  rw [killL]
  by_cases e : id = i
  ·subst e
   rw [upd_same,kill_at l H id]
   by_cases h : id ∈ l <;> simp [h]
  ·rw [upd_ne _ _ _ _ e,kill_at l H id]
   simp [e]
section
variable {P : Program} {t : Nat}
end
section
variable {P : Program} {R : Env → Heap → Prop} {Λ : Lams} {k : List It} {env : Env} {H : Heap} {d : Nat} {f : Operand} {args : List Operand} {g : Option (Nat × Bool)} {los : List LO} {fid : FuncId} {l tl0 tl : List AV} {ri rs : List RS}
end

def swN (a b id : Nat) : Nat := if id = a then b else if id = b then a else id
theorem swN_swN (a b id : Nat) : swN a b (swN a b id) = id := by
 unfold swN;split <;> split <;> simp_all
def swT (a b : Nat) : Turn := ⟨fun id => .sl (swN a b id),fun id => .ptr (swN a b id),fun id => .map (swN a b id),fun id => .slc (swN a b id)⟩
def swO (a b : Nat) : AObj → AObj
 | .cells cs => .cells (AV.turnL (swT a b) cs)
 | .map m => .map m
def swX (a b : Nat) (x : Nat × Option AObj) : Nat × Option AObj := (x.1,x.2.map (swO a b))
def swE (a b : Nat) (env : Env) : Env := ⟨env.n,fun t => (env.f t).turn (swT a b)⟩
def swH (a b : Nat) (H : Heap) : Heap := fun id => swX a b (H (swN a b id))
theorem sw_turn (a b : Nat) (G : Ghost) (Z : Nat → Prop) (w : World) : TurnOk G Z w (fun id => G (swN a b id)) Z w (swT a b) :=
 have e : ∀ id,swN a b (swN a b id) = id := swN_swN a b
 ⟨fun b hb => ⟨hb,rfl⟩,fun id ver sz off n v hr => by
  cases hr with
  | slOld _ _ _ _ _ _ h1 h2 h3 => exact .slOld _ _ _ _ _ _ (by simp only [e];exact h1) (by simp only [e];exact h2) h3
  | slCap _ _ _ _ A loc h1 => exact .slCap _ _ _ _ A loc (by simp only [e];exact h1)
  | slLive _ _ _ _ _ g o c h1 h2 h3 h4 => exact .slLive _ _ _ _ _ g o c (by simp only [e];exact h1) h2 h3 h4,fun id ver off v hr => by
  cases hr with
  | ptrOld _ _ _ _ h1 h2 h3 => exact .ptrOld _ _ _ _ (by simp only [e];exact h1) (by simp only [e];exact h2) h3
  | ptrLive _ _ _ g o h1 => exact .ptrLive _ _ _ g o (by simp only [e];exact h1),fun id ver v hr => by
  cases hr with
  | mapOld _ _ _ h1 h2 h3 => exact .mapOld _ _ _ (by simp only [e];exact h1) (by simp only [e];exact h2) h3
  | mapLive _ _ g o h1 => exact .mapLive _ _ g o (by simp only [e];exact h1),fun id ver sz off n c v hr => by
  cases hr with
  | slcOld _ _ _ _ _ _ _ h1 h2 h3 => exact .slcOld _ _ _ _ _ _ _ (by simp only [e];exact h1) (by simp only [e];exact h2) h3
  | slcLive _ _ _ _ _ _ g o h1 h2 h3 h4 => exact .slcLive _ _ _ _ _ _ g o (by simp only [e];exact h1) h2 h3 h4⟩
theorem liveB_sw {a b g : Nat} {G : Ghost} (h : LiveB (fun id => G (swN a b id)) g) : LiveB G g := let ⟨id,o,h⟩ := h;⟨swN a b id,o,h⟩
theorem St.sw {P : Program} {G : Ghost} {H : Heap} {Z : Nat → Prop} {w : World} (st : St P G H Z w) (a b : Nat) : St P (fun id => G (swN a b id)) (swH a b H) Z w := by
 have t := sw_turn a b G Z w
 refine ⟨fun id => st.ver _,fun id h => st.dead _ ?_,fun id o h => ?_,fun i1 i2 g o1 o2 h1 h2 => ?_,fun id g o h => st.disj _ _ _ h,st.zlt,fun id g o h => st.glt _ _ _ h,fun id g o h => st.ones _ _ _ h⟩
 ·simpa [swH,swX] using h
 ·obtain ⟨o',h1,rfl⟩ := Option.map_eq_some_iff.1 (show ((H (swN a b id)).2).map (swO a b) = some o from h)
  obtain ⟨loc,h2,h3⟩ := st.obj _ o' h1
  refine ⟨loc,h2,?_⟩
  cases loc with
  | none =>
   cases o' with
   | cells cs =>
    have : cs = [] := h3
    subst this;rfl
   | map m => exact h3
  | some q =>
   obtain ⟨g,ob⟩ := q
   cases o' with
   | cells cs =>
    obtain ⟨arr,e,h4,h5⟩ := h3
    refine ⟨arr,e,h4,fun j x hx => ?_⟩
    rw [AV.turnL_eq,List.getElem?_map] at hx
    obtain ⟨y,hy,rfl⟩ := Option.map_eq_some_iff.1 hx
    obtain ⟨u,h6,h7,h8⟩ := h5 j y hy
    exact ⟨u,h6,h7,h8.turn t⟩
   | map m => exact h3
 ·have := st.inj _ _ _ _ _ h1 h2
  rw [← swN_swN a b i1,this,swN_swN]
theorem Sim.sw {P : Program} {s : At0} {env : Env} {H : Heap} {a : Act} {w : World} (hs : Sim P s env H a w) {x y : Nat} (hx : decide (x < 100000) = true) (hy : decide (y < 100000) = true) : Sim P s (swE x y env) (swH x y H) a w := by
 obtain ⟨G,Z,st,hr,hd,hi⟩ := hs
 have hx := of_decide_eq_true hx
 have hy := of_decide_eq_true hy
 have e : ∀ id,100000 ≤ id → swN x y id = id := fun id h => by unfold swN;rw [if_neg (by omega),if_neg (by omega)]
 refine ⟨_,Z,st.sw x y,⟨hr.len,fun i hi => ?_,fun i v hv => (hr.at_ i v hv).turn (sw_turn x y G Z w)⟩,hd,⟨hi.os,hi.tape,hi.output,hi.size,hi.old,hi.zin,hi.zout,fun b hb => hi.live b (liveB_sw hb),hi.room,fun id h => ?_,fun id h => ?_⟩⟩
 ·show (env.f i).turn _ = _
  rw [hr.out i hi];rfl
 ·show _ ≤ (G (swN x y id)).1
  rw [e id h];exact hi.ver id h
 ·show (G (swN x y id)).1 = _ → (G (swN x y id)).2 = none ∨ (G (swN x y id)).2 = _
  rw [e id h];exact hi.same id h
def swsE : List (Nat × Nat) → Env → Env
 | [],env => env
 | (a,b) :: l,env => swsE l (swE a b env)
def swsH : List (Nat × Nat) → Heap → Heap
 | [],H => H
 | (a,b) :: l,H => swsH l (swH a b H)
def swOk (l : List (Nat × Nat)) : Bool := l.all fun p => decide (p.1 < 100000) && decide (p.2 < 100000)
theorem Sim.sws {P : Program} {s : At0} {a : Act} {w : World} : ∀ {l : List (Nat × Nat)} {env : Env} {H : Heap},Sim P s env H a w → swOk l = true → Sim P s (swsE l env) (swsH l H) a w
 | [],_,_,h,_ => h
 | (x,y) :: l,env,H,h,hl => by
  simp only [swOk,List.all_cons,Bool.and_eq_true] at hl
  show Sim P s (swsE l (swE x y env)) (swsH l (swH x y H)) a w
  exact Sim.sws (h.sw hl.1.1 hl.1.2) hl.2
theorem ax_weakA {P : Program} {env : Env} {H : Heap} {R : Env → Heap → Prop} {Λ : Lams} {los : List LO} {k : List It} (sw : List (Nat × Nat)) {nw : List Nat} {n : Nat} {el : List (Nat × AV)} {hl : List (Nat × Nat × AObj)} (hs : swOk sw = true) (h : Wk (swsE sw env) (swsH sw H) nw n el hl) (hx : Ax P R Λ (.ops los :: k) (mkE n el) (mkH hl)) : Ax P R Λ (.ops los :: k) env H := fun s ops l t hl hm a w hsim => hx s ops l t hl hm a w (h.sim (hsim.sws hs))
section
variable {a b id ver sz off n : Nat} {τ : Turn} {x : FV} {l : List AV} {xs : List FV} {m : List (ByteArray × Value)} {g : Fn} {y : AV} {env : Env} {H : Heap} {i : Nat} {o : Nat × Option AObj}
theorem tn_any : AV.turn τ .any = .any := rfl
theorem tn_f : AV.turn τ (.f x) = .f x := rfl
theorem tn_sl : AV.turn (swT a b) (.sl id ver sz off n) = .sl (swN a b id) ver sz off n := rfl
theorem tn_ptr : AV.turn (swT a b) (.ptr id ver off) = .ptr (swN a b id) ver off := rfl
theorem tn_map : AV.turn (swT a b) (.map id ver) = .map (swN a b id) ver := rfl
theorem tn_agg : AV.turn τ (.agg l) = .agg (AV.turnL τ l) := rfl
theorem tn_tup : AV.turn τ (.tup l) = .tup (AV.turnL τ l) := rfl
theorem tn_clo : AV.turn τ (.clo g l) = .clo g (AV.turnL τ l) := rfl
theorem tl_nil : AV.turnL τ [] = [] := rfl
theorem tl_cons : AV.turnL τ (y :: l) = AV.turn τ y :: AV.turnL τ l := rfl
theorem tl_fs : AV.turnL τ (xs.map .f) = xs.map .f := by rw [AV.turnL_eq,List.map_map];rfl
theorem swE_f {t : Nat} : (swE a b env).f t = (env.f t).turn (swT a b) := rfl
theorem swE_n : (swE a b env).n = env.n := rfl
theorem swH_at : swH a b H id = swX a b (H (swN a b id)) := rfl
theorem swX_c : swX a b (ver,some (.cells l)) = (ver,some (.cells (AV.turnL (swT a b) l))) := rfl
theorem swX_m : swX a b (ver,some (.map m)) = (ver,some (.map m)) := rfl
theorem swX_n : swX a b (ver,none) = (ver,none) := rfl
theorem sws_n : swsE [] env = env := rfl
theorem sws_c {l : List (Nat × Nat)} : swsE ((a,b) :: l) env = swsE l (swE a b env) := rfl
theorem swh_n : swsH [] H = H := rfl
theorem swh_c {l : List (Nat × Nat)} : swsH ((a,b) :: l) H = swsH l (swH a b H) := rfl
theorem small_sw (ha : decide (a < 100000) = true) (hb : decide (b < 100000) = true) (h : Small H) : Small (swH a b H) := fun id hid hne => by
 have ha := of_decide_eq_true ha
 have hb := of_decide_eq_true hb
 have e : swN a b id = id := by unfold swN;rw [if_neg (by omega),if_neg (by omega)]
 rw [swH_at,e,h id hid hne];rfl
theorem free_kill {t : Nat} : ∀ {l : List Nat},Free t H → Free t (killL l H) := fun h j => by
 rw [kill_at,h j];split <;> rfl
end

open Go.RowKit
set_option linter.unusedVariables false
set_option linter.unusedSimpArgs false

theorem putHcs_at {t i : Nat} : ∀ {rs : List RC} {k : Nat} {H H2 : Heap},H i = H2 i → putHcs t k rs H i = putHcs t k rs H2 i
 | [],_,_,_,h => h
 | .v _ :: rs,k,H,H2,h => putHcs_at (rs := rs) h
 | .own sz n cs :: rs,k,H,H2,h => putHcs_at (rs := rs) (by
  show upd H _ _ i = upd H2 _ _ i
  unfold upd;split
  ·rfl
  ·exact h)
theorem putHs_at {t i : Nat} : ∀ {rs : List RS} {k : Nat} {H H2 : Heap},H i = H2 i → putHs t k rs H i = putHs t k rs H2 i
 | [],_,_,_,h => h
 | .c r :: rs,k,H,H2,h => putHs_at (rs := rs) (putHcs_at (rs := [r]) h)
 | .agg l :: rs,k,H,H2,h => putHs_at (rs := rs) (putHcs_at (rs := l) h)
section
variable {P : Program} {t : Nat}
end
section
variable {P : Program} {R : Env → Heap → Prop} {Λ : Lams} {k : List It} {env : Env} {H : Heap} {d : Nat} {f : Operand} {args : List Operand} {g : Option (Nat × Bool)} {los : List LO} {fid : FuncId} {tl : List AV} {ri rs : List RS} {pcs pcs' : List RC}
end

open Go.RowKit
set_option linter.unusedVariables false
set_option linter.unusedSimpArgs false

theorem putHcs_out {t i : Nat} : ∀ {rs : List RC} {k : Nat} {H : Heap},(∀ j,k ≤ j → j < nextCs k rs → i ≠ t + 1000 * j) → putHcs t k rs H i = H i
 | [],_,_,_ => rfl
 | .v _ :: rs,k,H,h => putHcs_out (rs := rs) h
 | .own sz n cs :: rs,k,H,h => by
  have h1 : i ≠ t + 1000 * k := h k (Nat.le_refl _) (Nat.lt_of_lt_of_le (Nat.lt_succ_self k) (nextCs_le rs (k + 1)))
  exact (putHcs_out (rs := rs) (k := k + 1) fun j h1 h2 => h j (by omega) h2).trans (upd_ne _ _ _ _ h1)
theorem putHs_out {t i : Nat} : ∀ {rs : List RS} {k : Nat} {H : Heap},(∀ j,k ≤ j → j < nextSs k rs → i ≠ t + 1000 * j) → putHs t k rs H i = H i
 | [],_,_,_ => rfl
 | .c r :: rs,k,H,h => (putHs_out (rs := rs) fun j h1 h2 => h j (Nat.le_trans (nextC_le k r) h1) h2).trans (putHcs_out (rs := [r]) fun j h1 h2 => h j h1 (Nat.lt_of_lt_of_le h2 (nextSs_le rs _)))
 | .agg l :: rs,k,H,h => (putHs_out (rs := rs) fun j h1 h2 => h j (Nat.le_trans (nextCs_le l k) h1) h2).trans (putHcs_out (rs := l) fun j h1 h2 => h j h1 (Nat.lt_of_lt_of_le h2 (nextSs_le rs _)))
def wrL (t : Nat) : Nat → List Nat
 | 0 => []
 | n + 1 => (t + 1000 * n) :: wrL t n
theorem wrL_0 {t : Nat} : wrL t 0 = [] := rfl
theorem wrL_1 {t : Nat} : wrL t 1 = [t] := rfl
theorem wrL_2 {t : Nat} : wrL t 2 = [t + 1000,t] := rfl
theorem mem_wrL {t i : Nat} : ∀ {n : Nat},i ∈ wrL t n ↔ ∃ j,j < n ∧ i = t + 1000 * j
 | 0 => by simp [wrL]
 | n + 1 => by
  rw [wrL,List.mem_cons,mem_wrL (n := n)]
  constructor
  ·rintro (h | ⟨j,h1,h2⟩)
   ·exact ⟨n,by omega,h⟩
   ·exact ⟨j,by omega,h2⟩
  ·rintro ⟨j,h1,h2⟩
   by_cases e : j = n
   ·subst e;exact .inl h2
   ·exact .inr ⟨j,by omega,h2⟩
theorem nss_n {k : Nat} : nextSs k [] = k := rfl
theorem nss_c {k : Nat} {r : RC} {rs : List RS} : nextSs k (.c r :: rs) = nextSs (nextC k r) rs := rfl
theorem nss_a {k : Nat} {l : List RC} {rs : List RS} : nextSs k (.agg l :: rs) = nextSs (nextCs k l) rs := rfl
section
variable {P : Program} {R : Env → Heap → Prop} {Λ : Lams} {k : List It} {env : Env} {H : Heap} {d j : Nat} {f : Operand} {args : List Operand} {g : Option (Nat × Bool)} {los : List LO} {dos : List DO} {acc : List Fp} {od : List Nat} {fid : FuncId} {args' caps : List AV} {rs : List RS}
theorem callDO (hg : gd g env = some true) (hF : FRet P fid args' rs) (hfn : evA env f = .f (.fn (.func fid))) (ha : LeL (args.map (evA env)) args') (hp : args'.all AV.pure = true) (hfree : Free d H) (hk : noConf acc od [] (wrL d (nextSs 0 rs)) = true)
  (h : srun P R 300 Λ (.dops dos (j + 1) (addFp j [] (wrL d (nextSs 0 rs)) acc) :: k) (putE env (some d) (oneOrTup (putS d 0 rs))) (putHs d 0 rs H)) : Ax P R Λ (.dops (⟨some d,.call f args,g,od⟩ :: dos) j acc :: k) env H := by
 have out : ∀ (H : Heap) id,id ∉ wrL d (nextSs 0 rs) → putHs d 0 rs H id = H id := fun H id hid => putHs_out fun j _ h2 e => hid (mem_wrL.2 ⟨j,h2,e⟩)
 refine ax_dCall (f := f) (args := args) (rd := []) (wr := wrL d (nextSs 0 rs)) (v := oneOrTup (putS d 0 rs)) (H' := putHs d 0 rs H) rfl hg (out H) (fun H2 _ hw => ?_) hk (srun_sound 300 _ _ _ _ h)
 rw [hfn]
 refine ACall.mono ((call_p (t := d) hF hp fun j hj => by rw [hw _ (mem_wrL.2 ⟨j,hj,rfl⟩)];exact hfree j).le ha) fun r H' ⟨h1,h2⟩ => ⟨h1,?_⟩
 rw [h2]
 funext id
 unfold mix
 split
 ·rename_i hid;exact putHs_at (hw id hid)
 ·rename_i hid;exact out H2 id hid
theorem callC (hg : gd g env = some true) (hfn : evA env f = .clo (.func fid) caps) (hF : FRet P fid args' rs) (ha : LeL (args.map (evA env) ++ caps) args') (hp : args'.all AV.pure = true) (hfree : Free d H)
  (h : srun P R 300 Λ (.ops los :: k) (putE env (some d) (oneOrTup (putS d 0 rs))) (putHs d 0 rs H)) : Ax P R Λ (.ops (⟨some d,.call f args,g⟩ :: los) :: k) env H :=
 ax_call (f := f) (args := args) rfl hg (Q := fun r H' => r = oneOrTup (putS d 0 rs) ∧ H' = putHs d 0 rs H) (by rw [hfn];exact (call_p (t := d) hF hp (fun j _ => hfree j)).le ha) fun v H' hq => by obtain ⟨h1,h2⟩ := hq;subst h1 h2;exact srun_sound 300 _ _ _ _ h
end
section
variable {H H' : Heap} {nw : List Nat}
theorem SlotsOk.set : ∀ {l : List FV} {i : Nat} {a : AV},(∀ x,l[i]? = some x → SlotOk H H' nw a (.f x)) → SlotsOk H H' nw ((l.map AV.f).set i a) (l.map .f)
 | [],_,_,_ => by simp [SlotsOk]
 | x :: l,0,a,h => ⟨h x rfl,SlotsOk.fs rfl⟩
 | x :: l,i + 1,a,h => ⟨.inl rfl,SlotsOk.set (l := l) fun y hy => h y (by simpa using hy)⟩
end

open Go.RowKit
set_option linter.unusedVariables false
set_option linter.unusedSimpArgs false

structure Hide (p : Prop) : Prop where
 out : p
theorem hide {p : Prop} (h : p) : Hide p := ⟨h⟩
def rowF {α : Type} (enc : α → List FV) (l : List α) : List FV := (l.map enc).flatten
section
variable {α : Type} {enc : α → List FV} {sz : Nat} {l : List α} {i k : Nat} {x : α}
theorem row_nil : rowF enc [] = [] := rfl
theorem row_cons : rowF enc (x :: l) = enc x ++ rowF enc l := rfl
theorem row_app {m : List α} : rowF enc (l ++ m) = rowF enc l ++ rowF enc m := by simp [rowF]
theorem row_len (hs : ∀ x,(enc x).length = sz) : (rowF enc l).length = l.length * sz := by
 rw [rowF,flatten_len (sz := sz) _ (fun y hy => by obtain ⟨z,_,rfl⟩ := List.mem_map.1 hy;exact hs z),List.length_map]
theorem row_snoc {m : List α} : rowF enc (m ++ [x]) = rowF enc m ++ enc x := by rw [row_app,row_cons,row_nil,List.append_nil]
theorem so_row (hs : ∀ x,(enc x).length = sz) {H H' : Heap} {nw : List Nat} {id ver n : Nat} {t : List FV} (hd : (H' id).2 = none) (hc : cellsOf ver (H id) = some ((rowF enc l ++ t).map .f)) (hn : n = l.length) : SlotOk H H' nw (.sl id ver sz 0 n) (.f (.fr sz (l.map enc))) := by
 subst hn
 simp only [SlotOk]
 refine ⟨trivial,by simp,fun x hx => ?_,hd,_,hc,?_,?_⟩
 ·obtain ⟨z,_,rfl⟩ := List.mem_map.1 hx;exact hs z
 ·simp [row_len hs]
 ·rw [Nat.zero_mul,List.drop_zero,List.map_append,List.take_append_of_le_length (by simp [row_len hs]),List.take_of_length_le (by simp [row_len hs])];rfl
theorem so_row0 (hs : ∀ x,(enc x).length = sz) {H H' : Heap} {nw : List Nat} {id ver n : Nat} (hd : (H' id).2 = none) (hc : cellsOf ver (H id) = some ((rowF enc l).map .f)) (hn : n = l.length) : SlotOk H H' nw (.sl id ver sz 0 n) (.f (.fr sz (l.map enc))) :=
 so_row (t := []) hs hd (by rw [List.append_nil];exact hc) hn
end
theorem so_mf {H H' : Heap} {nw : List Nat} {id ver : Nat} {m : List (ByteArray × Value)} : SlotOk H H' nw (.map id ver) (.f (.fm m)) = ((H' id).2 = none ∧ mapOfH ver (H id) = some m) := by rw [SlotOk]
theorem so_ptf {H H' : Heap} {nw : List Nat} {id ver off : Nat} {l : List FV} : SlotOk H H' nw (.ptr id ver off) (.f (.fp l)) = ((H' id).2 = none ∧ ∃ cs,cellsOf ver (H id) = some cs ∧ off + l.length ≤ cs.length ∧ (cs.drop off).take l.length = l.map .f) := by rw [SlotOk]
theorem so_cc {H H' : Heap} {nw : List Nat} {g g' : Fn} {l l' : List AV} : SlotOk H H' nw (.clo g l) (.clo g' l') = (g' = g ∧ SlotsOk H H' nw l l') := by rw [SlotOk]
theorem so_ff' {H H' : Heap} {nw : List Nat} {x : FV} : SlotOk H H' nw (.f x) (.f x) = True := by rw [SlotOk];simp
theorem pure_cons {a : AV} {caps : List AV} (h : a.pure = true) (hc : caps.all AV.pure = true) : ([a] ++ caps).all AV.pure = true := by simp [h,hc]
mutual
theorem so_pure {H H' : Heap} {nw : List Nat} : ∀ a : AV,a.pure = true → SlotOk H H' nw a a
 | .any,h => by simp only [SlotOk]
 | .f x,h => by simp only [SlotOk];exact .inl trivial
 | .sl ..,h => by simp [AV.pure] at h
 | .ptr ..,h => by simp [AV.pure] at h
 | .map ..,h => by simp [AV.pure] at h
 | .slc ..,h => by simp [AV.pure] at h
 | .agg l,h => by simp only [SlotOk];exact so_pures l (by simpa only [AV.pure] using h)
 | .tup l,h => by simp only [SlotOk];exact so_pures l (by simpa only [AV.pure] using h)
 | .clo g l,h => by simp only [SlotOk];exact ⟨trivial,so_pures l (by simpa only [AV.pure] using h)⟩
theorem so_pures {H H' : Heap} {nw : List Nat} : ∀ l : List AV,AV.pureL l = true → SlotsOk H H' nw l l
 | [],h => by simp only [SlotsOk]
 | a :: l,h => by
  simp only [AV.pureL,Bool.and_eq_true] at h
  simp only [SlotsOk]
  exact ⟨so_pure a h.1,so_pures l h.2⟩
end
theorem so_clo {H H' : Heap} {nw : List Nat} {g : Fn} {caps : List AV} (h : caps.all AV.pure = true) : SlotOk H H' nw (.clo g caps) (.clo g caps) := so_pure _ (by rw [AV.pure,AV.pureL_all];exact h)
end Go.Proofs.YticefeanlicapaaDoor
