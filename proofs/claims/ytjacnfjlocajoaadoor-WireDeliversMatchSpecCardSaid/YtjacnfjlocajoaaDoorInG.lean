/-
  What a call leaves behind a pointer, with the cells behind forgotten; single cells of rows that are set. No statement of the seat is proved here; no conditions.
-/
import Derived.Test.YtjacnfjlocajoaaDoorCap
namespace Go.Proofs.YtjacnfjlocajoaaDoor
open Go.RowKit
set_option linter.unusedVariables false
set_option linter.unusedSimpArgs false

def RcCut : RC → RC → Prop
 | .v x,r => r = .v x
 | .own sz n cs,r => ∃ ds t,r = .own sz n ds ∧ cs = ds ++ t ∧ n * sz ≤ ds.length
def RcsCut : List RC → List RC → Prop
 | [],l => l = []
 | r :: rs,[] => False
 | r :: rs,r' :: l => RcCut r r' ∧ RcsCut rs l
theorem St.cutAt {P : Program} {G : Ghost} {H : Heap} {Z : Nat → Prop} {w : World} (st : St P G H Z w) {id v : Nat} {cs ds : List AV} (hH : H id = (v,some (.cells (cs ++ ds)))) : St P G (upd H id (v,some (.cells cs))) Z w := by
 refine ⟨fun j => ?_,fun j hj => ?_,fun j o hj => ?_,st.inj,st.disj,st.zlt,st.glt,st.ones⟩
 ·by_cases e : j = id
  ·subst e;rw [upd_same,st.ver j,hH]
  ·rw [upd_ne (H := H) (h := e)];exact st.ver j
 ·by_cases e : j = id
  ·subst e;rw [upd_same] at hj;cases hj
  ·rw [upd_ne (H := H) (h := e)] at hj;exact st.dead j hj
 ·by_cases e : j = id
  ·subst e
   rw [upd_same] at hj
   obtain ⟨loc,h1,h2⟩ := st.obj j (.cells (cs ++ ds)) (by rw [hH])
   cases hj
   exact ⟨loc,h1,h2.cut⟩
  ·rw [upd_ne (H := H) (h := e)] at hj;exact st.obj j o hj
theorem cut_st {P : Program} {G : Ghost} {Z : Nat → Prop} {w : World} : ∀ {pcs pcs2 : List RC} {cs : List AV} {H : Heap},St P G H Z w → RcsOk H pcs cs → RcsCut pcs pcs2 → (idsC cs).Nodup → ∃ H2,St P G H2 Z w ∧ RcsOk H2 pcs2 cs ∧ ∀ i,i ∉ idsC cs → H2 i = H i
 | [],pcs2,cs,H,st,h,hc,hnd => by
  obtain rfl : pcs2 = [] := hc
  exact ⟨H,st,h,fun _ _ => rfl⟩
 | r :: rs,[],cs,H,st,h,hc,hnd => hc.elim
 | r :: rs,r' :: l,[],H,st,h,hc,hnd => h.elim
 | .v x :: rs,r' :: l,a :: cs,H,st,h,hc,hnd => by
  obtain ⟨h1,h2⟩ := h
  obtain rfl : r' = .v x := hc.1
  obtain rfl : a = .f x := h1
  obtain ⟨H2,s2,k1,k2⟩ := cut_st st h2 hc.2 (by simpa [idsC] using hnd)
  exact ⟨H2,s2,⟨rfl,k1⟩,fun i hi => k2 i (by simpa [idsC] using hi)⟩
 | .own sz n ds0 :: rs,r' :: l,a :: cs,H,st,h,hc,hnd => by
  obtain ⟨h1,h2⟩ := h
  obtain ⟨⟨ds,t,rfl,rfl,hlen⟩,hc2⟩ := hc
  rcases h1 with ⟨rfl,rfl,h3⟩ | ⟨id,ver,rfl,h3,h4⟩
  ·obtain ⟨rfl,rfl⟩ := List.append_eq_nil_iff.1 h3
   obtain ⟨H2,s2,k1,k2⟩ := cut_st st h2 hc2 (by simpa [idsC] using hnd)
   exact ⟨H2,s2,⟨.inl ⟨rfl,rfl,rfl⟩,k1⟩,fun i hi => k2 i (by simpa [idsC] using hi)⟩
  ·have hH : H id = (ver,some (.cells (ds.map .f ++ t.map .f))) := by rw [(st.cells h3).choose_spec.2.2,List.map_append]
   have hid : id ∉ idsC cs := by simp only [idsC,List.nodup_cons] at hnd;exact hnd.1
   have hnd2 : (idsC cs).Nodup := by simp only [idsC,List.nodup_cons] at hnd;exact hnd.2
   obtain ⟨H2,s2,k1,k2⟩ := cut_st (st.cutAt hH) (rcsOk_at h2 fun i hi => upd_ne _ _ _ _ (fun e => hid (by rw [← e];exact hi))) hc2 hnd2
   refine ⟨H2,s2,⟨.inr ⟨id,ver,rfl,?_,hlen⟩,k1⟩,fun i hi => ?_⟩
   ·rw [k2 id hid,upd_same];simp [cellsOf]
   ·simp only [idsC,List.mem_cons,not_or] at hi
    rw [k2 i hi.2];exact upd_ne _ _ _ _ hi.1
theorem FRetH.cut {P : Program} {f : FuncId} {a0 : AV} {pcs pcs' pcs2 : List RC} {ri rs : List RS} {tl : List AV} (h : FRetH P f a0 pcs ri tl pcs' rs) (hc : RcsCut pcs' pcs2) : FRetH P f a0 pcs ri tl pcs2 rs :=
 ⟨h.1,fun G Z w vs h1 h2 h3 => (h.2 G Z w vs h1 h2 h3).mono fun e w' ⟨v,r,H',G',Z',e1,⟨l,cs',hr,hp,hpc,hrs,hnd,hni⟩,st,hh,hrep⟩ => by
  obtain ⟨n1,n2,n3⟩ := List.nodup_append.1 hnd
  obtain ⟨H2,s2,k1,k2⟩ := cut_st st hpc hc n1
  exact ⟨v,r,H2,G',Z',e1,⟨l,cs',hr,by rw [k2 _ (fun h => hni (List.mem_append_left _ h))];exact hp,k1,rsOk_at hrs fun i hi => k2 i (fun h => n3 i h i hi rfl),hnd,hni⟩,s2,hh,hrep⟩⟩
theorem rcCut_t {sz n : Nat} {ds t : List FV} (h : n * sz ≤ ds.length) : RcCut (.own sz n (ds ++ t)) (.own sz n ds) := ⟨ds,t,rfl,rfl,h⟩
theorem splice_1 : ∀ (cs : List AV) (k : Nat) (a : AV),splice cs k [a] = cs.set k a := fun cs k a => rfl
theorem row_set1 {α : Type} {enc : α → List FV} {sz : Nat} {l : List α} {i j : Nat} {x y : α} {v : FV} (hs : ∀ x,(enc x).length = sz) (h : l[i]? = some x) (hj : j < sz) (he : enc y = (enc x).set j v) : splice ((rowF enc l).map AV.f) (i * sz + j) [.f v] = (rowF enc (l.set i y)).map .f := by
 obtain ⟨h1,h2⟩ := row_split hs h
 have hlt := (List.getElem?_eq_some_iff.1 h).1
 obtain ⟨h3,-⟩ := row_split (l := l.set i y) (i := i) (x := y) hs (by rw [List.getElem?_set_self hlt])
 have e1 : (l.set i y).take i = l.take i := by rw [List.take_set_of_le (Nat.le_refl _)]
 have e2 : (l.set i y).drop (i + 1) = l.drop (i + 1) := by rw [List.drop_set_of_lt (by omega)]
 rw [e1,e2] at h3
 rw [splice_1,h3,h1,he]
 have hx : j < (enc x).length := by rw [hs];exact hj
 have : ((rowF enc (l.take i) ++ (enc x ++ rowF enc (l.drop (i + 1)))).map AV.f).set (i * sz + j) (.f v) = ((rowF enc (l.take i) ++ (enc x ++ rowF enc (l.drop (i + 1)))).set (i * sz + j) v).map AV.f := by rw [List.map_set]
 rw [this,List.set_append_right _ _ (by omega),h2,Nat.add_sub_cancel_left,List.set_append_left _ _ hx]
theorem row_take {α : Type} {enc : α → List FV} {sz : Nat} (hs : ∀ x,(enc x).length = sz) : ∀ (l : List α) (k : Nat),(rowF enc l).take (k * sz) = rowF enc (l.take k)
 | [],k => by simp [rowF]
 | x :: l,0 => by simp [rowF]
 | x :: l,k + 1 => by
  rw [List.take_succ_cons,row_cons,row_cons,Nat.add_mul,Nat.one_mul,Nat.add_comm,← hs x,List.take_length_add_append,hs x,row_take hs l k]
theorem row_drop {α : Type} {enc : α → List FV} {sz : Nat} (hs : ∀ x,(enc x).length = sz) : ∀ (l : List α) (k : Nat),(rowF enc l).drop (k * sz) = rowF enc (l.drop k)
 | [],k => by simp [rowF]
 | x :: l,0 => by simp [rowF]
 | x :: l,k + 1 => by
  rw [List.drop_succ_cons,row_cons,Nat.add_mul,Nat.one_mul,Nat.add_comm,← hs x,List.drop_length_add_append,hs x,row_drop hs l k]
theorem splice_at (cs : List AV) (k : Nat) (xs : List AV) (h : k + xs.length ≤ cs.length) : splice cs k xs = cs.take k ++ (xs ++ cs.drop (k + xs.length)) := by
 have e : cs = cs.take k ++ ((cs.drop k).take xs.length ++ cs.drop (k + xs.length)) := by
  rw [← List.drop_drop,List.take_append_drop,List.take_append_drop]
 have h2 : (cs.take k).length = k := by rw [List.length_take];omega
 have := splice_mid xs (cs.take k) ((cs.drop k).take xs.length) (cs.drop (k + xs.length)) (by rw [List.length_take,List.length_drop];omega)
 rw [← e,h2] at this
 exact this
end Go.Proofs.YtjacnfjlocajoaaDoor
namespace Go.Proofs.YtjacnfjlocajoaaDoor
open Go.RowKit
set_option linter.unusedVariables false
set_option linter.unusedSimpArgs false
set_option maxRecDepth 100000

theorem row_del {α : Type} {enc : α → List FV} {sz : Nat} (hs : ∀ x,(enc x).length = sz) (l : List α) {i j : Nat} (hij : i ≤ j) (hj : j ≤ l.length) :
  splice ((rowF enc l).map AV.f) (i * sz) ((((rowF enc l).map AV.f).drop (j * sz)).take ((l.length - j) * sz)) = (rowF enc (l.take i ++ l.drop j) ++ (rowF enc l).drop ((i + (l.length - j)) * sz)).map AV.f := by
 have h1 : (((rowF enc l).map AV.f).drop (j * sz)).take ((l.length - j) * sz) = (rowF enc (l.drop j)).map AV.f := by
  rw [← List.map_drop,row_drop hs,List.take_of_length_le (by rw [List.length_map,row_len hs,List.length_drop];exact Nat.le_refl _)]
 rw [h1,splice_at _ _ _ (by rw [List.length_map,List.length_map,row_len hs,row_len hs,List.length_drop,← Nat.add_mul];exact Nat.mul_le_mul_right _ (by omega)),← List.map_take,row_take hs,List.length_map,row_len hs,List.length_drop,← Nat.add_mul,← List.map_drop,← List.map_append,← List.map_append,row_app,List.append_assoc]
theorem row_clr {α : Type} {enc : α → List FV} {sz : Nat} (hs : ∀ x,(enc x).length = sz) (M : List α) (r z : List FV) (k : Nat) (hr : r.length = k * sz) (hz : z.length = sz) :
  splice ((rowF enc M ++ r).map AV.f) (M.length * sz) (zeros k z) = (rowF enc M ++ (List.replicate k z).flatten).map AV.f := by
 have hl : (zeros k z).length = k * sz := by rw [zeros,List.length_map,flatten_len (sz := sz) _ (fun y hy => by rw [List.eq_of_mem_replicate hy];exact hz),List.length_replicate]
 have h2 : ((rowF enc M).map AV.f).length = M.length * sz := by rw [List.length_map,row_len hs]
 have := splice_mid (zeros k z) ((rowF enc M).map AV.f) (r.map AV.f) [] (by rw [List.length_map,hr,hl])
 rw [List.append_nil,List.append_nil,h2] at this
 rw [List.map_append,this,List.map_append];rfl
theorem row_in1 {α : Type} {enc : α → List FV} {sz : Nat} (hs : ∀ x,(enc x).length = sz) (l : List α) (b : α) {i : Nat} (hi : i ≤ l.length) (Zs : List AV) (hz : sz ≤ Zs.length) :
  splice ((rowF enc (l.take i)).map AV.f ++ Zs) (i * sz) ((enc b).map AV.f) = (rowF enc (l.take i) ++ enc b).map AV.f ++ Zs.drop sz := by
 have hA : ((rowF enc (l.take i)).map AV.f).length = i * sz := by rw [List.length_map,row_len hs,List.length_take,Nat.min_eq_left hi]
 rw [splice_at _ _ _ (by rw [List.length_append,hA,List.length_map,hs];omega),List.length_map,hs,← hA,List.take_left,List.drop_length_add_append,List.map_append,List.append_assoc]
theorem row_in2 {α : Type} {enc : α → List FV} {sz : Nat} (hs : ∀ x,(enc x).length = sz) (l : List α) (b : α) {i : Nat} (hi : i ≤ l.length) (Zs : List AV) (hz : Zs.length = (l.length - i) * sz) :
  splice ((rowF enc (l.take i) ++ enc b).map AV.f ++ Zs) ((i + 1) * sz) ((((rowF enc l).map AV.f).drop (i * sz)).take ((l.length - i) * sz)) = (rowF enc (l.take i ++ b :: l.drop i)).map AV.f := by
 have hA : ((rowF enc (l.take i) ++ enc b).map AV.f).length = (i + 1) * sz := by rw [List.length_map,List.length_append,row_len hs,hs,List.length_take,Nat.min_eq_left hi,Nat.add_mul,Nat.one_mul]
 have hR : (((rowF enc l).map AV.f).drop (i * sz)).take ((l.length - i) * sz) = (rowF enc (l.drop i)).map AV.f := by
  rw [← List.map_drop,row_drop hs,List.take_of_length_le (by rw [List.length_map,row_len hs,List.length_drop];exact Nat.le_refl _)]
 have hl : ((rowF enc (l.drop i)).map AV.f).length = (l.length - i) * sz := by rw [List.length_map,row_len hs,List.length_drop]
 rw [hR]
 have := splice_mid ((rowF enc (l.drop i)).map AV.f) ((rowF enc (l.take i) ++ enc b).map AV.f) Zs [] (by rw [hz,hl])
 rw [List.append_nil,List.append_nil,hA] at this
 rw [this,← List.map_append,row_app,row_cons,List.append_assoc]
theorem row_up {α : Type} {enc : α → List FV} {sz : Nat} (hs : ∀ x,(enc x).length = sz) (l : List α) {i : Nat} (hi : i ≤ l.length) (Y : List AV) (hY : Y.length = sz) :
  splice ((rowF enc l).map AV.f ++ Y) ((i + 1) * sz) ((((rowF enc l).map AV.f ++ Y).drop (i * sz)).take ((l.length - i) * sz)) = (rowF enc (l.take i)).map AV.f ++ (((((rowF enc l).map AV.f ++ Y).drop (i * sz)).take sz) ++ (rowF enc (l.drop i)).map AV.f) := by
 have hL : ((rowF enc l).map AV.f).length = l.length * sz := by rw [List.length_map,row_len hs]
 have hle : i * sz ≤ l.length * sz := Nat.mul_le_mul_right _ hi
 have hle2 : (l.length - i) * sz = l.length * sz - i * sz := Nat.sub_mul _ _ _
 have hR : ((((rowF enc l).map AV.f ++ Y).drop (i * sz)).take ((l.length - i) * sz)) = (rowF enc (l.drop i)).map AV.f := by
  rw [List.drop_append_of_le_length (by omega),← List.map_drop,row_drop hs,List.take_append_of_le_length (by rw [List.length_map,row_len hs,List.length_drop];exact Nat.le_refl _),List.take_of_length_le (by rw [List.length_map,row_len hs,List.length_drop];exact Nat.le_refl _)]
 have hl : ((rowF enc (l.drop i)).map AV.f).length = (l.length - i) * sz := by rw [List.length_map,row_len hs,List.length_drop]
 have hT : ((rowF enc l).map AV.f ++ Y).take (i * sz) = (rowF enc (l.take i)).map AV.f := by
  rw [List.take_append_of_le_length (by omega),← List.map_take,row_take hs]
 have hT2 : ((rowF enc l).map AV.f ++ Y).take ((i + 1) * sz) = (rowF enc (l.take i)).map AV.f ++ (((rowF enc l).map AV.f ++ Y).drop (i * sz)).take sz := by
  rw [Nat.add_mul,Nat.one_mul,List.take_add,hT]
 have hD : ((rowF enc l).map AV.f ++ Y).drop ((i + 1) * sz + (l.length - i) * sz) = [] := List.drop_of_length_le (by rw [List.length_append,hL,hY,Nat.add_mul];omega)
 rw [hR,splice_at _ _ _ (by rw [hl,List.length_append,hL,hY,Nat.add_mul];omega),hT2,hl,hD,List.append_nil,List.append_assoc]
theorem row_in3 {α : Type} {enc : α → List FV} {sz : Nat} (hs : ∀ x,(enc x).length = sz) (l : List α) (b : α) {i : Nat} (hi : i ≤ l.length) (X : List AV) (hX : X.length = sz) :
  splice ((rowF enc (l.take i)).map AV.f ++ (X ++ (rowF enc (l.drop i)).map AV.f)) (i * sz) ((enc b).map AV.f) = (rowF enc (l.take i ++ b :: l.drop i)).map AV.f := by
 have hA : ((rowF enc (l.take i)).map AV.f).length = i * sz := by rw [List.length_map,row_len hs,List.length_take,Nat.min_eq_left hi]
 have := splice_mid ((enc b).map AV.f) ((rowF enc (l.take i)).map AV.f) X ((rowF enc (l.drop i)).map AV.f) (by rw [List.length_map,hs,hX])
 rw [hA] at this
 rw [this,← List.map_append,← List.map_append,row_app,row_cons]
theorem slOf_ifz {p : Prop} [Decidable p] {id ver sz off n c : Nat} (h : ¬ p → n = 0) : SlOf (if p then .slc id ver sz off n c else .sl id ver sz off 0) id ver sz off n := by
 split
 ·exact .inr ⟨_,rfl⟩
 ·rename_i hp;rw [h hp];exact .inl rfl
def OvOk (P : Program) (fid : FuncId) : Prop := ∃ fn tS tR e sz,P.funcs[fid]? = some fn ∧ (fn.name == "runtime.NumGoroutine") = false ∧ fn.body.isNone = true ∧ Extern.findNext fn = none ∧ Extern.find fn = some (Extern.SlicesOverlaps.overlaps #[tS,tS] #[tR]) ∧ P.underlying tS = some (.slice e) ∧ sizeOf? P e = some sz
end Go.Proofs.YtjacnfjlocajoaaDoor
