/-
  The plain law of the cache's steps: what was right stays right. No statement of the seat is proved here; no conditions.
-/
import Derived.Test.YtalfepdfiehecaaDoorCaX
import Derived.Test.YtalfepdfiehecaaDoorShP
import Derived.Test.YtalfepdfiehecaaDoorDr
namespace Go.Proofs.YtalfepdfiehecaaDoor
open Go.RowKit Go.Shelf
set_option linter.unusedVariables false
set_option linter.unusedSimpArgs false
set_option maxRecDepth 100000

theorem rising_ins {α : Type} {key : α → ByteArray} {l : List α} (h : Rising key l) (x : α) (hn : hasK key l (key x) = false) :
  Rising key (l.take (bsIdx (fun b => cmpB (key b) (key x)) l) ++ x :: l.drop (bsIdx (fun b => cmpB (key b) (key x)) l)) := by
 obtain ⟨h1,h2,h3⟩ := bs_lt (cf := fun b => cmpB (key b) (key x)) (mono_of h (key x))
 generalize bsIdx (fun b => cmpB (key b) (key x)) l = i at *
 have hne : ∀ y ∈ l,key y ≠ key x := fun y hy he => by
  rw [hasK,List.any_eq_false] at hn
  exact hn y hy (by simpa using he)
 have hp : l.Pairwise fun a b => strLt (key a) (key b) = true := by
  rw [List.pairwise_iff_getElem]
  intro i j hi hj hij
  exact h i j _ _ hij (List.getElem?_eq_getElem hi) (List.getElem?_eq_getElem hj)
 have hq : (l.take i ++ x :: l.drop i).Pairwise fun a b => strLt (key a) (key b) = true := by
  rw [List.pairwise_append]
  refine ⟨List.Pairwise.sublist (List.take_sublist _ _) hp,List.pairwise_cons.2 ⟨fun y hy => ?_,List.Pairwise.sublist (List.drop_sublist _ _) hp⟩,fun a ha b hb => ?_⟩
  ·obtain ⟨m,hm⟩ := List.mem_iff_getElem?.1 hy
   rw [List.getElem?_drop] at hm
   have k := h3 (i + m) y (by omega) hm
   have k2 := hne y (List.mem_of_getElem? hm)
   cases hl : strLt (key y) (key x) with
   | true => exact absurd (cmpB_lt.2 hl) k
   | false => exact (strLt_total hl).resolve_left k2
  ·obtain ⟨m,hm⟩ := List.mem_iff_getElem?.1 ha
   have hlt : m < i := by
    have := (List.getElem?_eq_some_iff.1 hm).1
    rw [List.length_take] at this;omega
   rw [List.getElem?_take,if_pos hlt] at hm
   rcases List.mem_cons.1 hb with rfl | hb
   ·exact cmpB_lt.1 (h2 m a hlt hm)
   ·obtain ⟨n,hn2⟩ := List.mem_iff_getElem?.1 hb
    rw [List.getElem?_drop] at hn2
    exact h m (i + n) a b (by omega) hm hn2
 have hr := List.pairwise_iff_getElem.1 hq
 intro i j a b hij ha hb
 obtain ⟨k1,rfl⟩ := List.getElem?_eq_some_iff.1 ha
 obtain ⟨k2,rfl⟩ := List.getElem?_eq_some_iff.1 hb
 exact hr i j k1 k2 hij
structure BR (room : Int) (bl : List Blob) : Prop where
 len : bl.length ≤ 3000
 ok : ∀ b ∈ bl,blobOk b = true
 rise : Rising (fun b : Blob => b.1) bl
 sum : sumSz bl ≤ room
structure ER (en : List Entry) : Prop where
 len : en.length ≤ 1000
 ok : ∀ e ∈ en,entOk e = true
 rise : Rising (fun b : Entry => b.1) en
theorem CRight.b {c : Cache} (h : CRight c) : BR c.1 c.2.2.1 := ⟨h.blen,h.bok,h.brise,h.bsum⟩
theorem CRight.e {c : Cache} (h : CRight c) : ER c.2.2.2 := ⟨h.elen,h.eok,h.erise⟩
theorem rg_iff {n l h : Int} : inRg n l h = true ↔ l ≤ n ∧ n ≤ h := by simp [inRg]
theorem entOk_iff {e : Entry} : entOk e = true ↔ isDig e.1 = true ∧ ckDigsM e.2.1 200 = 0 ∧ (0 ≤ e.2.2 ∧ e.2.2 ≤ 1000000000) := by
 simp only [entOk,Bool.and_eq_true,rg_iff,decide_eq_true_eq]
theorem rising_map {α : Type} {key : α → ByteArray} {l : List α} : Rising key l ↔ (l.map key).Pairwise fun x y => strLt x y = true := by rw [rising_pw,List.pairwise_map]
theorem keys_rise {α : Type} {key : α → ByteArray} {l m : List α} (h : m.map key = l.map key) (hr : Rising key l) : Rising key m := by
 rw [rising_map,h];exact rising_map.1 hr
theorem keys_set {α : Type} {key : α → ByteArray} : ∀ {l : List α} {i : Nat} {y z : α},l[i]? = some y → key z = key y → (l.set i z).map key = l.map key
 | [],i,y,z,h,_ => by cases h
 | x :: l,0,y,z,h,hk => by
  obtain rfl : x = y := by simpa using h
  simp [hk]
 | x :: l,i + 1,y,z,h,hk => by
  rw [List.set_cons_succ,List.map_cons,List.map_cons,keys_set (l := l) (by simpa using h) hk]
theorem sum_set : ∀ {l : List Blob} {i : Nat} {y z : Blob},l[i]? = some y → z.2.1 = y.2.1 → sumSz (l.set i z) = sumSz l
 | [],i,y,z,h,_ => by cases h
 | x :: l,0,y,z,h,hk => by
  obtain rfl : x = y := by simpa using h
  simp [sumSz,hk]
 | x :: l,i + 1,y,z,h,hk => by
  rw [List.set_cons_succ,sumSz,sumSz,sum_set (l := l) (by simpa using h) hk]
theorem BR.set {room : Int} {bl : List Blob} (h : BR room bl) {i : Nat} {y z : Blob} (hy : bl[i]? = some y) (h1 : z.1 = y.1) (h2 : z.2.1 = y.2.1) (hz : blobOk z = true) : BR room (bl.set i z) :=
 ⟨by rw [List.length_set];exact h.len,fun b hb => (List.mem_or_eq_of_mem_set hb).elim (h.ok b) fun e => e ▸ hz,keys_rise (keys_set (key := fun b : Blob => b.1) hy h1) h.rise,by rw [sum_set hy h2];exact h.sum⟩
theorem ER.set {en : List Entry} (h : ER en) {i : Nat} {y z : Entry} (hy : en[i]? = some y) (h1 : z.1 = y.1) (hz : entOk z = true) : ER (en.set i z) :=
 ⟨by rw [List.length_set];exact h.len,fun b hb => (List.mem_or_eq_of_mem_set hb).elim (h.ok b) fun e => e ▸ hz,keys_rise (keys_set (key := fun b : Entry => b.1) hy h1) h.rise⟩
theorem BR.keep {room : Int} {bl : List Blob} (h : BR room bl) (p : Blob → Bool) : BR room (keepL p bl) :=
 ⟨Nat.le_trans (keep_le _ _) h.len,fun b hb => h.ok b (mem_of_keep hb),rising_keep p h.rise,Int.le_trans (sum_keep _ _ fun b hb => blobOk_size (h.ok b hb)) h.sum⟩
theorem mem_ins {α : Type} {l : List α} {i : Nat} {x y : α} : y ∈ l.take i ++ x :: l.drop i ↔ y = x ∨ y ∈ l := by
 have := List.take_append_drop i l
 constructor
 ·intro h
  rcases List.mem_append.1 h with h | h
  ·exact .inr (List.mem_of_mem_take h)
  ·rcases List.mem_cons.1 h with h | h
   ·exact .inl h
   ·exact .inr (List.mem_of_mem_drop h)
 ·rintro (rfl | h)
  ·simp
  ·rw [← this] at h
   rcases List.mem_append.1 h with h | h
   ·exact List.mem_append.2 (.inl h)
   ·exact List.mem_append.2 (.inr (List.mem_cons_of_mem _ h))
theorem hasK_false {α : Type} {key : α → ByteArray} {l : List α} {t : ByteArray} : hasK key l t = false ↔ ∀ x ∈ l,key x ≠ t := by
 simp [hasK,List.any_eq_false]
theorem hasK_true {α : Type} {key : α → ByteArray} {l : List α} {t : ByteArray} : hasK key l t = true ↔ ∃ x ∈ l,key x = t := by
 simp [hasK,List.any_eq_true]
structure EvOk (e : Ev) : Prop where
 kind : 1 ≤ e.1 ∧ e.1 ≤ 8
 at_ : 0 ≤ e.2.1 ∧ e.2.1 ≤ 1000000000
 size : 0 ≤ e.2.2.2.2.2 ∧ e.2.2.2.2.2 ≤ 100000000
 digs : ckDigsM e.2.2.2.1 200 = 0
 dig : (flds e.1).1 = true → isDig e.2.2.1 = true
 key : (flds e.1).2.2.1 = true → isDig e.2.2.2.2.1 = true
 nodig : (flds e.1).1 = false → e.2.2.1 = ⟨#[]⟩
 nodigs : (flds e.1).2.1 = false → e.2.2.2.1 = []
 nokey : (flds e.1).2.2.1 = false → e.2.2.2.2.1 = ⟨#[]⟩
 nosize : (flds e.1).2.2.2 = false → e.2.2.2.2.2 = 0
end Go.Proofs.YtalfepdfiehecaaDoor
