/-
  The abstract machine: families of rows, each an object of its own, in the cells of another object. No statement of the seat is proved here; no conditions.
-/
import Derived.Test.YtagkdifaldikgaaGreatDoorRun
namespace Go.Proofs.YtagkdifaldikgaaGreatDoor
open Go.RowKit
set_option linter.unusedVariables false
set_option linter.unusedSimpArgs false

def famO : Nat → List (List FV) → List (Nat × Nat × AObj)
 | _,[] => []
 | B,r :: R => (B,1,.cells (r.map .f)) :: famO (B + 1) R
def famC : Nat → List (List FV) → List AV
 | _,[] => []
 | B,r :: R => .sl B 1 1 0 r.length :: famC (B + 1) R
theorem famC_len : ∀ (B : Nat) (R : List (List FV)),(famC B R).length = R.length
 | _,[] => rfl
 | B,r :: R => by rw [famC,List.length_cons,famC_len,List.length_cons]
theorem famC_get : ∀ (B : Nat) (R : List (List FV)) (k : Nat) (r : List FV),R[k]? = some r → (famC B R)[k]? = some (.sl (k + B) 1 1 0 r.length)
 | _,[],k,r,h => by simp at h
 | B,q :: R,0,r,h => by obtain rfl := Option.some.inj h;simp [famC]
 | B,q :: R,k + 1,r,h => by
  rw [famC,List.getElem?_cons_succ,famC_get (B + 1) R k r (by simpa using h)]
  rw [show k + (B + 1) = k + 1 + B by omega]
theorem lookF : ∀ (B : Nat) (R : List (List FV)) (l : List (Nat × Nat × AObj)) (id : Nat),lookH id (famO B R ++ l) = if B ≤ id then (match R[id - B]? with | some r => (1,some (.cells (r.map .f))) | none => lookH id l) else lookH id l
 | B,[],l,id => by simp [famO]
 | B,r :: R,l,id => by
  rw [famO,List.cons_append,lookH_cons]
  by_cases e : id = B
  ·subst e
   rw [if_pos rfl,if_pos (Nat.le_refl _),Nat.sub_self];rfl
  ·rw [if_neg e,lookF (B + 1) R l id]
   by_cases h : B + 1 ≤ id
   ·rw [if_pos h,if_pos (by omega),show id - B = (id - (B + 1)) + 1 by omega,List.getElem?_cons_succ]
   ·rw [if_neg h,if_neg (by omega)]
theorem lookF_in {B : Nat} {R : List (List FV)} {l : List (Nat × Nat × AObj)} {k : Nat} {r : List FV} (h : R[k]? = some r) : lookH (k + B) (famO B R ++ l) = (1,some (.cells (r.map .f))) := by
 rw [lookF,if_pos (by omega),Nat.add_sub_cancel,h]
theorem lookF_out {B : Nat} {R : List (List FV)} {l : List (Nat × Nat × AObj)} {id : Nat} (h : id < B) : lookH id (famO B R ++ l) = lookH id l := by
 rw [lookF,if_neg (by omega)]
theorem lookF_past {B : Nat} {R : List (List FV)} {l : List (Nat × Nat × AObj)} {id : Nat} (h : B + R.length ≤ id) : lookH id (famO B R ++ l) = lookH id l := by
 rw [lookF,if_pos (by omega),List.getElem?_eq_none (by omega)]
theorem so_list {H H' : Heap} {nw : List Nat} : ∀ {l l' : List AV},l.length = l'.length → (∀ (k : Nat) a b,l[k]? = some a → l'[k]? = some b → SlotOk H H' nw a b) → SlotsOk H H' nw l l'
 | [],[],_,_ => rfl
 | a :: l,b :: l',hl,h => by
  rw [so_cons]
  exact ⟨h 0 a b rfl rfl,so_list (by simpa using hl) fun k a b ha hb => h (k + 1) a b (by simpa using ha) (by simpa using hb)⟩
theorem hl_app {H H' : Heap} {nw : List Nat} : ∀ {l m : List (Nat × Nat × AObj)},HlOk H H' nw (l ++ m) ↔ HlOk H H' nw l ∧ HlOk H H' nw m
 | [],m => by simp [HlOk]
 | (i,v,.cells cs) :: l,m => by
  rw [List.cons_append];simp only [HlOk];rw [hl_app];exact and_assoc.symm
 | (i,v,.map es) :: l,m => by
  rw [List.cons_append];simp only [HlOk];rw [hl_app];exact and_assoc.symm
 | (i,v,.ty cs t) :: l,m => by
  rw [List.cons_append];simp only [HlOk];rw [hl_app];exact and_assoc.symm
theorem hl_fam {H H' : Heap} {nw : List Nat} : ∀ {B : Nat} {R : List (List FV)},(∀ (k : Nat) r,R[k]? = some r → if nw.contains (k + B) = true then r = [] else ∃ cs0,(H (k + B)).2 = some (.cells cs0) ∧ SlotsOk H H' nw cs0 (r.map .f)) → HlOk H H' nw (famO B R)
 | B,[],_ => trivial
 | B,r :: R,h => by
  simp only [famO,HlOk]
  refine ⟨?_,hl_fam fun k r hk => ?_⟩
  ·have := h 0 r rfl
   rw [Nat.zero_add] at this
   split
   ·rename_i hc;rw [if_pos hc] at this;rw [this];rfl
   ·rename_i hc;rw [if_neg hc] at this;exact this
  ·have := h (k + 1) r (by simpa using hk)
   rw [show k + (B + 1) = k + 1 + B by omega];exact this
theorem fam_ids {f : Nat → Bool} : ∀ {B : Nat} {R : List (List FV)},(∀ k,k < R.length → f (k + B) = true) → (famO B R).all (fun p => f p.1) = true
 | B,[],_ => rfl
 | B,r :: R,h => by
  rw [famO,List.all_cons,Bool.and_eq_true]
  refine ⟨by have := h 0 (by simp);rwa [Nat.zero_add] at this,fam_ids fun k hk => ?_⟩
  have := h (k + 1) (by simp;omega)
  rw [show k + (B + 1) = k + 1 + B by omega];exact this
theorem nle_t {a b : Nat} (h : a ≤ b) : (a ≤ b) = True := by rw [eq_iff_iff,iff_true];exact h
theorem fam_b1 {k B m : Nat} (h : m < B) : (k + B == m) = false := by rw [beq_eq_false_iff_ne];omega
theorem fam_b2 {k B m : Nat} (h : m < B) : (m == k + B) = false := by rw [beq_eq_false_iff_ne];omega
theorem zeros_nilp : ∀ n : Nat,zeros n [FV.nil] = List.replicate n (.f .nil)
 | 0 => rfl
 | n + 1 => by
  have := zeros_nilp n
  unfold zeros at this ⊢
  rw [List.replicate_succ,List.flatten_cons,List.map_append,this];rfl
def fam2 (i j : Nat) (D U : List (List FV)) (r : List (Nat × Nat × AObj)) : List (Nat × Nat × AObj) := (i,1,.cells (famC 20000 D)) :: (j,1,.cells (famC 30000 U)) :: (famO 20000 D ++ (famO 30000 U ++ r))
def famI (B n : Nat) : List Nat := (List.range n).map (· + B)
theorem famI_mem {B n k : Nat} : (famI B n).contains k = true ↔ B ≤ k ∧ k < B + n := by
 rw [List.contains_iff_mem,famI,List.mem_map]
 constructor
 ·rintro ⟨x,hx,rfl⟩;rw [List.mem_range] at hx;omega
 ·rintro ⟨h1,h2⟩;exact ⟨k - B,by rw [List.mem_range];omega,by omega⟩
theorem l2_lit {i j id : Nat} {D U : List (List FV)} {r : List (Nat × Nat × AObj)} (h1 : (id = i) = False) (h2 : (id = j) = False) (h3 : id < 20000) : lookH id (fam2 i j D U r) = lookH id r := by
 rw [fam2,lookH_cons,if_neg (by rw [h1];exact fun h => h),lookH_cons,if_neg (by rw [h2];exact fun h => h),lookF_out h3,lookF_out (by omega)]
theorem l2_i {i j : Nat} {D U : List (List FV)} {r : List (Nat × Nat × AObj)} : lookH i (fam2 i j D U r) = (1,some (.cells (famC 20000 D))) := by rw [fam2,lookH_cons,if_pos rfl]
theorem l2_j {i j : Nat} {D U : List (List FV)} {r : List (Nat × Nat × AObj)} (h : (j = i) = False) : lookH j (fam2 i j D U r) = (1,some (.cells (famC 30000 U))) := by rw [fam2,lookH_cons,if_neg (by rw [h];exact fun h => h),lookH_cons,if_pos rfl]
theorem l2_d {i j k : Nat} {D U : List (List FV)} {r : List (Nat × Nat × AObj)} {x : List FV} (hi : i < 20000) (hj : j < 20000) (h : D[k]? = some x) : lookH (k + 20000) (fam2 i j D U r) = (1,some (.cells (x.map .f))) := by
 rw [fam2,lookH_cons,if_neg (by omega),lookH_cons,if_neg (by omega),lookF_in h]
theorem l2_u {i j k : Nat} {D U : List (List FV)} {r : List (Nat × Nat × AObj)} {x : List FV} (hi : i < 20000) (hj : j < 20000) (hD : D.length ≤ 10000) (h : U[k]? = some x) : lookH (k + 30000) (fam2 i j D U r) = (1,some (.cells (x.map .f))) := by
 rw [fam2,lookH_cons,if_neg (by omega),lookH_cons,if_neg (by omega),lookF_past (by omega),lookF_in h]
theorem ptEq_of {H K : Heap} (h : ∀ q,100000 ≤ q → (H q).1 = (K q).1) : PtEq H K := ⟨h _ (by decide),h _ (by decide),h _ (by decide),h _ (by decide),h _ (by decide)⟩
theorem ptEq_tr {H K L : Heap} (h : PtEq H K) (h2 : ∀ q,100000 ≤ q → (L q).1 = (K q).1) : PtEq H L := by
 obtain ⟨a,b,c,d,e⟩ := h
 exact ⟨a.trans (h2 _ (by decide)).symm,b.trans (h2 _ (by decide)).symm,c.trans (h2 _ (by decide)).symm,d.trans (h2 _ (by decide)).symm,e.trans (h2 _ (by decide)).symm⟩
theorem l2_big {i j : Nat} {D U : List (List FV)} {r : List (Nat × Nat × AObj)} (hi : i < 20000) (hj : j < 20000) (hD : D.length ≤ 10000) (hU : U.length ≤ 10000) {q : Nat} (hq : 100000 ≤ q) : lookH q (fam2 i j D U r) = lookH q r := by
 rw [fam2,lookH_cons,if_neg (by omega),lookH_cons,if_neg (by omega),lookF_past (by omega),lookF_past (by omega)]
theorem small_fam2 {i j : Nat} {D U : List (List FV)} {r : List (Nat × Nat × AObj)} (hi : i < 20000) (hj : j < 20000) (hD : D.length ≤ 10000) (hU : U.length ≤ 10000) (hr : r.all (fun p => okId p.1) = true) : Small (mkH (fam2 i j D U r)) := small_mk (by
 have e1 : okId i = true := by simp [okId];omega
 have e2 : okId j = true := by simp [okId];omega
 simp only [fam2,List.all_cons,e1,e2,Bool.true_and,List.all_append,hr,Bool.and_true]
 rw [fam_ids fun k hk => by simp [okId];omega,fam_ids fun k hk => by simp [okId];omega];rfl)
theorem wk_fam2 {env : Env} {H : Heap} {nw : List Nat} {n : Nat} {el : List (Nat × AV)} {i j : Nat} {D U : List (List FV)} {r : List (Nat × Nat × AObj)} (hn : env.n = n) (hs : Small H) (hi : i < 20000) (hj : j < 20000) (hD : D.length ≤ 10000) (hU : U.length ≤ 10000) (hr : r.all (fun p => okId p.1) = true) (hnw : nw.all (fun i => decide (i < 100000)) = true) (hp : PtEq H (mkH r))
  (he : ElOk H (mkH (fam2 i j D U r)) nw env n el) (h1 : HlOk H (mkH (fam2 i j D U r)) nw [(i,1,.cells (famC 20000 D)),(j,1,.cells (famC 30000 U))]) (h2 : HlOk H (mkH (fam2 i j D U r)) nw (famO 20000 D)) (h3 : HlOk H (mkH (fam2 i j D U r)) nw (famO 30000 U)) (h4 : HlOk H (mkH (fam2 i j D U r)) nw r) : Wk env H nw n el (fam2 i j D U r) := by
 refine ⟨hn,hs,?_,hnw,?_,he,?_⟩
 ·have e1 : okId i = true := by simp [okId];omega
  have e2 : okId j = true := by simp [okId];omega
  simp only [fam2,List.all_cons,e1,e2,Bool.true_and,List.all_append,hr,Bool.and_true]
  rw [fam_ids fun k hk => by simp [okId];omega,fam_ids fun k hk => by simp [okId];omega];rfl
 ·exact ptEq_tr hp fun q hq => by rw [mkH_at,mkH_at,l2_big hi hj hD hU hq]
 ·exact (hl_app (l := [(i,1,.cells (famC 20000 D)),(j,1,.cells (famC 30000 U))]) (m := famO 20000 D ++ (famO 30000 U ++ r))).2 ⟨h1,hl_app.2 ⟨h2,hl_app.2 ⟨h3,h4⟩⟩⟩
section
variable {P : Program} {R : Env → Heap → Prop} {Λ : Lams} {k : List It} {env : Env} {H : Heap} {d : Nat} {f : Operand} {args : List Operand} {g : Option (Nat × Bool)} {los : List LO} {fid : FuncId} {args' : List AV} {rs : List RS}
theorem callPn (hg : gd g env = some true) (hF : FRet P fid args' rs) (hfn : evA env f = .f (.fn (.func fid))) (ha : LeL (args.map (evA env)) args') (hp : args'.all AV.pure = true) (hfree : ∀ j,j < nextSs 0 rs → H (d + 1000 * j) = (0,none))
  (h : srun P R 300 Λ (.ops los :: k) (putE env (some d) (oneOrTup (putS d 0 rs))) (putHs d 0 rs H)) : Ax P R Λ (.ops (⟨some d,.call f args,g⟩ :: los) :: k) env H :=
 ax_call (f := f) (args := args) rfl hg (Q := fun r H' => r = oneOrTup (putS d 0 rs) ∧ H' = putHs d 0 rs H) (by rw [hfn];exact (call_p (t := d) hF hp hfree).le ha) fun v H' hq => by obtain ⟨h1,h2⟩ := hq;subst h1 h2;exact srun_sound 300 _ _ _ _ h
end
theorem fam_push {H H' : Heap} {B : Nat} {R : List (List FV)} {s : Nat} {xs : List FV} {u : FV} (hx : R[s]? = some xs)
  (hH : ∀ (k : Nat) r,k ≠ s → R[k]? = some r → H (k + B) = (1,some (.cells (r.map .f))))
  (hs : H (s + B) = (2,some (.cells (xs.map .f ++ [.f u]))))
  (hH' : ∀ (k : Nat) r,(R.set s (xs ++ [u]))[k]? = some r → H' (k + B) = (1,some (.cells (r.map .f)))) :
  SlotsOk H H' [] ((famC B R).set s (.sl (s + B) 2 1 0 (xs.length + 1))) (famC B (R.set s (xs ++ [u]))) ∧ HlOk H H' [] (famO B (R.set s (xs ++ [u]))) := by
 have hlt : s < R.length := (List.getElem?_eq_some_iff.1 hx).1
 have hset : (R.set s (xs ++ [u]))[s]? = some (xs ++ [u]) := by rw [List.getElem?_set_self hlt]
 constructor
 ·refine so_list (by rw [List.length_set,famC_len,famC_len,List.length_set]) fun k a b ha hb => ?_
  by_cases e : k = s
  ·subst e
   rw [List.getElem?_set_self (by rw [famC_len];exact hlt)] at ha
   rw [famC_get B _ k _ hset] at hb
   obtain rfl := Option.some.inj ha
   obtain rfl := Option.some.inj hb
   refine ⟨rfl,rfl,rfl,by simp,by rw [hs],by rw [hH' _ _ hset],by simp,by rw [hs];rfl,by rw [hH' _ _ hset];rfl⟩
  ·rw [List.getElem?_set_ne (fun h => e h.symm)] at ha
   have hk : k < R.length := by have := (List.getElem?_eq_some_iff.1 ha).1;rwa [famC_len] at this
   have hr := List.getElem?_eq_getElem hk
   have hr' : (R.set s (xs ++ [u]))[k]? = some R[k] := by rw [List.getElem?_set_ne (fun h => e h.symm),hr]
   rw [famC_get B _ k _ hr] at ha
   rw [famC_get B _ k _ hr'] at hb
   obtain rfl := Option.some.inj ha
   obtain rfl := Option.some.inj hb
   refine ⟨rfl,rfl,rfl,rfl,by rw [hH _ _ e hr],by rw [hH' _ _ hr'],by simp,by rw [hH _ _ e hr];rfl,by rw [hH' _ _ hr'];rfl⟩
 ·refine hl_fam fun k r hr => ?_
  rw [if_neg (by simp)]
  by_cases e : k = s
  ·subst e
   rw [hset] at hr
   obtain rfl := Option.some.inj hr
   exact ⟨_,by rw [hs],SlotsOk.of_eq (by simp)⟩
  ·rw [List.getElem?_set_ne (fun h => e h.symm)] at hr
   exact ⟨_,by rw [hH _ _ e hr],SlotsOk.of_eq rfl⟩
theorem fam_stay {H H' : Heap} {B : Nat} {R : List (List FV)}
  (hH : ∀ (k : Nat) r,R[k]? = some r → H (k + B) = (1,some (.cells (r.map .f))))
  (hH' : ∀ (k : Nat) r,R[k]? = some r → H' (k + B) = (1,some (.cells (r.map .f)))) :
  SlotsOk H H' [] (famC B R) (famC B R) ∧ HlOk H H' [] (famO B R) := by
 constructor
 ·refine so_list rfl fun k a b ha hb => ?_
  have hk : k < R.length := by have := (List.getElem?_eq_some_iff.1 ha).1;rwa [famC_len] at this
  have hr := List.getElem?_eq_getElem hk
  rw [famC_get B _ k _ hr] at ha hb
  obtain rfl := Option.some.inj ha
  obtain rfl := Option.some.inj hb
  exact ⟨rfl,rfl,rfl,rfl,by rw [hH _ _ hr],by rw [hH' _ _ hr],by simp,by rw [hH _ _ hr];rfl,by rw [hH' _ _ hr];rfl⟩
 ·refine hl_fam fun k r hr => ?_
  rw [if_neg (by simp)]
  exact ⟨_,by rw [hH _ _ hr],SlotsOk.of_eq rfl⟩
theorem fam_born {H H' : Heap} {nw : List Nat} {B n : Nat} (hn : ∀ k,k < n → nw.contains (k + B) = true)
  (hH' : ∀ k,k < n → H' (k + B) = (1,some (.cells []))) :
  SlotsOk H H' nw (zeros n [FV.nil]) (famC B (List.replicate n [])) ∧ HlOk H H' nw (famO B (List.replicate n [])) := by
 constructor
 ·rw [zeros_nilp]
  refine so_list (by rw [famC_len,List.length_replicate,List.length_replicate]) fun k a b ha hb => ?_
  have hk : k < n := by have := (List.getElem?_eq_some_iff.1 ha).1;rwa [List.length_replicate] at this
  rw [List.getElem?_replicate,if_pos hk] at ha
  rw [famC_get B _ k [] (by rw [List.getElem?_replicate,if_pos hk])] at hb
  obtain rfl := Option.some.inj ha
  obtain rfl := Option.some.inj hb
  exact ⟨rfl,rfl,rfl,by have := hn k hk;rwa [List.contains_iff_mem] at this,by rw [hH' k hk]⟩
 ·refine hl_fam fun k r hr => ?_
  have hk : k < n := by have := (List.getElem?_eq_some_iff.1 hr).1;rwa [List.length_replicate] at this
  rw [List.getElem?_replicate,if_pos hk] at hr
  rw [if_pos (hn k hk)]
  exact (Option.some.inj hr).symm
theorem fam_frozen {H H' : Heap} {B : Nat} {R : List (List FV)}
  (hH : ∀ (k : Nat) r,R[k]? = some r → H (k + B) = (1,some (.cells (r.map .f))))
  (hH' : ∀ (k : Nat) r,R[k]? = some r → (H' (k + B)).2 = none) :
  SlotsOk H H' [] (famC B R) ((R.map fun r => FV.fr 1 (r.map fun x => [x])).map .f) := by
 refine so_list (by rw [famC_len,List.length_map,List.length_map]) fun k a b ha hb => ?_
 have hk : k < R.length := by have := (List.getElem?_eq_some_iff.1 ha).1;rwa [famC_len] at this
 have hr := List.getElem?_eq_getElem hk
 rw [famC_get B _ k _ hr] at ha
 rw [List.getElem?_map,List.getElem?_map,hr] at hb
 obtain rfl := Option.some.inj ha
 obtain rfl := Option.some.inj hb
 refine ⟨rfl,by rw [List.length_map],fun x hx => ?_,hH' _ _ hr,_,by rw [hH _ _ hr];rfl,by simp,?_⟩
 ·obtain ⟨y,_,rfl⟩ := List.mem_map.1 hx;rfl
 ·have e : ∀ l : List FV,(l.map fun x => [x]).flatten = l := fun l => by induction l <;> simp_all
  rw [e,Nat.zero_mul,List.drop_zero,Nat.mul_one,List.take_of_length_le (by simp)]
section
variable {env : Env} {H : Heap} {n : Nat} {el : List (Nat × AV)} {i j : Nat} {D U : List (List FV)} {r : List (Nat × Nat × AObj)}
theorem famI_no {N m : Nat} (h : m < 20000) : (famI 20000 N ++ famI 30000 N).contains m = false := by
 rw [← Bool.not_eq_true,List.contains_append,Bool.or_eq_true,famI_mem,famI_mem];omega
theorem famI_d {N k : Nat} (h : k < N) : (famI 20000 N ++ famI 30000 N).contains (k + 20000) = true := by
 rw [List.contains_append,Bool.or_eq_true,famI_mem];exact .inl ⟨by omega,by omega⟩
theorem famI_u {N k : Nat} (h : k < N) : (famI 20000 N ++ famI 30000 N).contains (k + 30000) = true := by
 rw [List.contains_append,Bool.or_eq_true,famI_mem,famI_mem];exact .inr ⟨by omega,by omega⟩
theorem famI_nm {N m : Nat} (h : m < 20000) : (m ∈ famI 20000 N ++ famI 30000 N) = False := by
 have := famI_no (N := N) h
 rw [eq_iff_iff,iff_false,← List.contains_iff_mem,this];decide
theorem wk_born2 {N : Nat} (hn : env.n = n) (hs : Small H) (hi : i < 20000) (hj : j < 20000) (hij : (j = i) = False) (hN : N ≤ 1000) (hr : r.all (fun p => okId p.1) = true) (hp : PtEq H (mkH r))
  (h1 : H i = (1,some (.cells (zeros N [.nil])))) (h2 : H j = (1,some (.cells (zeros N [.nil]))))
  (he : ElOk H (mkH (fam2 i j (List.replicate N []) (List.replicate N []) r)) (famI 20000 N ++ famI 30000 N) env n el) (h4 : HlOk H (mkH (fam2 i j (List.replicate N []) (List.replicate N []) r)) (famI 20000 N ++ famI 30000 N) r) :
  Wk env H (famI 20000 N ++ famI 30000 N) n el (fam2 i j (List.replicate N []) (List.replicate N []) r) := by
 have hb : ∀ k,k < N → (List.replicate N ([] : List FV))[k]? = some [] := fun k hk => by rw [List.getElem?_replicate,if_pos hk]
 have bD := fam_born (H := H) (H' := mkH (fam2 i j (List.replicate N []) (List.replicate N []) r)) (nw := famI 20000 N ++ famI 30000 N) (B := 20000) (n := N) (fun k hk => famI_d hk) fun k hk => by rw [mkH_at,l2_d hi hj (hb k hk)];rfl
 have bU := fam_born (H := H) (H' := mkH (fam2 i j (List.replicate N []) (List.replicate N []) r)) (nw := famI 20000 N ++ famI 30000 N) (B := 30000) (n := N) (fun k hk => famI_u hk) fun k hk => by rw [mkH_at,l2_u hi hj (by rw [List.length_replicate];omega) (hb k hk)];rfl
 refine wk_fam2 hn hs hi hj (by rw [List.length_replicate];omega) (by rw [List.length_replicate];omega) hr ?_ hp he ⟨?_,?_,trivial⟩ bD.2 bU.2 h4
 ·rw [List.all_append,Bool.and_eq_true]
  constructor <;> rw [List.all_eq_true] <;> intro x hx <;> have := famI_mem.1 (List.contains_iff_mem.2 hx) <;> rw [decide_eq_true_eq] <;> omega
 ·rw [if_neg (by rw [famI_no hi];decide)];exact ⟨_,by rw [h1],bD.1⟩
 ·rw [if_neg (by rw [famI_no hj];decide)];exact ⟨_,by rw [h2],bU.1⟩
theorem wk_stay2 (hn : env.n = n) (hs : Small H) (hi : i < 20000) (hj : j < 20000) (hij : (j = i) = False) (hD : D.length ≤ 1000) (hU : U.length ≤ 1000) (hr : r.all (fun p => okId p.1) = true) (hp : PtEq H (mkH r))
  (h1 : H i = (1,some (.cells (famC 20000 D)))) (h2 : H j = (1,some (.cells (famC 30000 U))))
  (hd : ∀ (k : Nat) x,D[k]? = some x → H (k + 20000) = (1,some (.cells (x.map .f)))) (hu : ∀ (k : Nat) x,U[k]? = some x → H (k + 30000) = (1,some (.cells (x.map .f))))
  (he : ElOk H (mkH (fam2 i j D U r)) [] env n el) (h4 : HlOk H (mkH (fam2 i j D U r)) [] r) : Wk env H [] n el (fam2 i j D U r) := by
 have bD := fam_stay (H := H) (H' := mkH (fam2 i j D U r)) (B := 20000) (R := D) hd fun k x hx => by rw [mkH_at,l2_d hi hj hx]
 have bU := fam_stay (H := H) (H' := mkH (fam2 i j D U r)) (B := 30000) (R := U) hu fun k x hx => by rw [mkH_at,l2_u hi hj (by omega) hx]
 refine wk_fam2 hn hs hi hj (by omega) (by omega) hr rfl hp he ⟨?_,?_,trivial⟩ bD.2 bU.2 h4
 ·rw [if_neg (by simp)];exact ⟨_,by rw [h1],bD.1⟩
 ·rw [if_neg (by simp)];exact ⟨_,by rw [h2],bU.1⟩
theorem wk_push2 {s t : Nat} {xs ys : List FV} {u v : FV} (hn : env.n = n) (hs : Small H) (hi : i < 20000) (hj : j < 20000) (hij : (j = i) = False) (hD : D.length ≤ 1000) (hU : U.length ≤ 1000) (hr : r.all (fun p => okId p.1) = true) (hp : PtEq H (mkH r)) (hx : D[s]? = some xs) (hy : U[t]? = some ys)
  (h1 : H i = (1,some (.cells ((famC 20000 D).set s (.sl (s + 20000) 2 1 0 (xs.length + 1)))))) (h2 : H j = (1,some (.cells ((famC 30000 U).set t (.sl (t + 30000) 2 1 0 (ys.length + 1))))))
  (hd : ∀ (k : Nat) x,k ≠ s → D[k]? = some x → H (k + 20000) = (1,some (.cells (x.map .f)))) (hu : ∀ (k : Nat) x,k ≠ t → U[k]? = some x → H (k + 30000) = (1,some (.cells (x.map .f))))
  (hd' : H (s + 20000) = (2,some (.cells (xs.map .f ++ [.f u])))) (hu' : H (t + 30000) = (2,some (.cells (ys.map .f ++ [.f v]))))
  (he : ElOk H (mkH (fam2 i j (D.set s (xs ++ [u])) (U.set t (ys ++ [v])) r)) [] env n el) (h4 : HlOk H (mkH (fam2 i j (D.set s (xs ++ [u])) (U.set t (ys ++ [v])) r)) [] r) : Wk env H [] n el (fam2 i j (D.set s (xs ++ [u])) (U.set t (ys ++ [v])) r) := by
 have bD := fam_push (H := H) (H' := mkH (fam2 i j (D.set s (xs ++ [u])) (U.set t (ys ++ [v])) r)) (B := 20000) hx hd hd' fun k x hx => by rw [mkH_at,l2_d hi hj hx]
 have bU := fam_push (H := H) (H' := mkH (fam2 i j (D.set s (xs ++ [u])) (U.set t (ys ++ [v])) r)) (B := 30000) hy hu hu' fun k x hx => by rw [mkH_at,l2_u hi hj (by rw [List.length_set];omega) hx]
 refine wk_fam2 hn hs hi hj (by rw [List.length_set];omega) (by rw [List.length_set];omega) hr rfl hp he ⟨?_,?_,trivial⟩ bD.2 bU.2 h4
 ·rw [if_neg (by simp)];exact ⟨_,by rw [h1],bD.1⟩
 ·rw [if_neg (by simp)];exact ⟨_,by rw [h2],bU.1⟩
end
end Go.Proofs.YtagkdifaldikgaaGreatDoor
