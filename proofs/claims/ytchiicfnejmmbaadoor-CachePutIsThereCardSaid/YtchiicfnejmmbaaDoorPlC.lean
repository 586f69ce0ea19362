/-
  The plain law of the cache's steps, as the laws ask for it. No statement of the seat is proved here; no conditions.
-/
import Derived.Test.YtchiicfnejmmbaaDoorDs
namespace Go.Proofs.YtchiicfnejmmbaaDoor
open Go.RowKit Go.Shelf
set_option linter.unusedVariables false
set_option linter.unusedSimpArgs false
set_option maxRecDepth 100000

theorem map_set_same {α β : Type} {f : α → β} : ∀ {l : List α} {i : Nat} {y z : α}, l[i]? = some y → f z = f y → (l.set i z).map f = l.map f
  | [], i, y, z, h, _ => by cases h
  | x :: l, 0, y, z, h, hk => by
    obtain rfl : x = y := by simpa using h
    simp [hk]
  | x :: l, i + 1, y, z, h, hk => by
    rw [List.set_cons_succ, List.map_cons, List.map_cons, map_set_same (l := l) (by simpa using h) hk]
def ksB (b : Blob) : ByteArray × Int := (b.1, b.2.1)
theorem touch1_ks {lease at_ : Int} {u v : Bool} {bl : List Blob} {d : ByteArray} : (touch1 lease at_ u v bl d).map ksB = bl.map ksB := by
  unfold touch1
  split
  · rename_i b hb
    split
    · exact map_set_same hb rfl
    · rfl
  · rfl
theorem touchL_ks {lease at_ : Int} {u v : Bool} : ∀ {ds : List ByteArray} {bl : List Blob}, (touchL lease at_ u v bl ds).map ksB = bl.map ksB
  | [], bl => rfl
  | d :: ds, bl => (touchL_ks (ds := ds) (bl := touch1 lease at_ u v bl d)).trans touch1_ks
theorem hasB_map {bl : List Blob} {d : ByteArray} : hasB bl d = (bl.map ksB).any fun k => decide (k.1 = d) := by
  unfold hasB hasK
  rw [List.any_map]; rfl
theorem hasB_ks {bl m : List Blob} (h : m.map ksB = bl.map ksB) (d : ByteArray) : hasB m d = hasB bl d := by rw [hasB_map, hasB_map, h]
theorem touch1_used {lease at_ : Int} {u v : Bool} {bl : List Blob} {d : ByteArray} (h : ∀ b ∈ bl, b.2.2.1 ≤ at_) : ∀ b ∈ touch1 lease at_ u v bl d, b.2.2.1 ≤ at_ := by
  unfold touch1
  split
  · rename_i y hy
    split
    · intro b hb
      rcases List.mem_or_eq_of_mem_set hb with hb | rfl
      · exact h b hb
      · cases u
        · exact h y (List.mem_of_getElem? hy)
        · exact Int.le_refl _
    · exact h
  · exact h
theorem touchL_used {lease at_ : Int} {u v : Bool} : ∀ {ds : List ByteArray} {bl : List Blob}, (∀ b ∈ bl, b.2.2.1 ≤ at_) → ∀ b ∈ touchL lease at_ u v bl ds, b.2.2.1 ≤ at_
  | [], bl, h => h
  | d :: ds, bl, h => touchL_used (ds := ds) (touch1_used h)
theorem maxB_le {t : Int} : ∀ {bl : List Blob} {m : Int}, maxB bl m ≤ t ↔ m ≤ t ∧ ∀ b ∈ bl, b.2.2.1 ≤ t
  | [], m => by simp [maxB]
  | b :: bl, m => by
    have : maxB (b :: bl) m = maxB bl (max m b.2.2.1) := rfl
    rw [this, maxB_le, Int.max_le]
    simp [and_assoc]
theorem maxE_le {t : Int} : ∀ {bl : List Entry} {m : Int}, maxE bl m ≤ t ↔ m ≤ t ∧ ∀ b ∈ bl, b.2.2 ≤ t
  | [], m => by simp [maxE]
  | b :: bl, m => by
    have : maxE (b :: bl) m = maxE bl (max m b.2.2) := rfl
    rw [this, maxE_le, Int.max_le]
    simp [and_assoc]
theorem newest_le {bl : List Blob} {en : List Entry} {t : Int} : newestV bl en ≤ t ↔ 0 ≤ t ∧ (∀ b ∈ bl, b.2.2.1 ≤ t) ∧ ∀ e ∈ en, e.2.2 ≤ t := by
  rw [newestV, maxE_le, maxB_le, and_assoc]
theorem actV_put {room lease : Int} {bl : List Blob} {en : List Entry} {e : Ev} (h : e.1 = 1) : actV room lease bl en e = ((putV room lease bl e.2.1 e.2.2.1 e.2.2.2.2.2).1, en, (putV room lease bl e.2.1 e.2.2.1 e.2.2.2.2.2).2.1, .v .nil, .v (putV room lease bl e.2.1 e.2.2.1 e.2.2.2.2.2).2.2.1, (putV room lease bl e.2.1 e.2.2.1 e.2.2.2.2.2).2.2.2) := by
  rw [actV, if_pos h]
theorem actV_get {room lease : Int} {bl : List Blob} {en : List Entry} {e : Ev} (h : e.1 = 2) : actV room lease bl en e = (touchL lease e.2.1 true true bl [e.2.2.1], en, hasB bl e.2.2.1, .v .nil, .v .nil, 0) := by
  rw [actV, if_neg (by omega), if_pos h]
/-- What a put makes: three ways. -/
theorem putV_ways {room lease : Int} {bl : List Blob} {at_ : Int} {d : ByteArray} {size : Int} (hr : Rising (fun b : Blob => b.1) bl) (hf : (putV room lease bl at_ d size).2.2.2 = 0) :
    (hasB bl d = true ∧ putV room lease bl at_ d size = (touchL lease at_ true true bl [d], true, .nil, 0)) ∨
    (hasB bl d = false ∧ wsum (leavV bl at_) < overV room bl size ∧ putV room lease bl at_ d size = (bl, false, .nil, 0)) ∨
    (hasB bl d = false ∧ ¬ wsum (leavV bl at_) < overV room bl size ∧ putV room lease bl at_ d size = (insV (keptV bl at_ (overV room bl size)) (newB lease at_ d size), true, frStrs (clrGone bl at_ (overV room bl size)), 0)) := by
  unfold putV at hf ⊢
  split at hf
  · rename_i h
    obtain ⟨y, hy, _⟩ := hasB_at hr h
    rw [if_pos h, hy]
    rw [hy] at hf
    dsimp only at hf ⊢
    split at hf
    · rename_i h2
      rw [if_pos h2]
      exact .inl ⟨h, rfl⟩
    · cases hf
  · rename_i h
    have h' : hasB bl d = false := by simpa using h
    rw [if_neg h]
    split at hf
    · rename_i h2
      rw [if_pos h2]
      exact .inr (.inl ⟨h', h2, rfl⟩)
    · rename_i h2
      rw [if_neg h2]
      split at hf
      · cases hf
      · rename_i h3
        rw [if_neg h3]
        exact .inr (.inr ⟨h', h2, rfl⟩)
theorem doR_put {c : Cache} {e : Ev} (h : doErr c e = 0) (hk : e.1 = 1) : CRight c ∧ ckEv e = 0 ∧ newestV c.2.2.1 c.2.2.2 ≤ e.2.1 ∧ (doR c e = ((putV c.1 c.2.1 c.2.2.1 e.2.1 e.2.2.1 e.2.2.2.2.2).1, c.2.2.2, (putV c.1 c.2.1 c.2.2.1 e.2.1 e.2.2.1 e.2.2.2.2.2).2.1, .v .nil, .v (putV c.1 c.2.1 c.2.2.1 e.2.1 e.2.2.1 e.2.2.2.2.2).2.2.1, (putV c.1 c.2.1 c.2.2.1 e.2.1 e.2.2.1 e.2.2.2.2.2).2.2.2)) ∧ (putV c.1 c.2.1 c.2.2.1 e.2.1 e.2.2.1 e.2.2.2.2.2).2.2.2 = 0 := by
  obtain ⟨h0, h1, h2, h3⟩ := doErr_right h
  rw [actV_put hk] at h3
  refine ⟨right_iff.1 h0, h1, h2, h3, ?_⟩
  unfold doErr at h
  rw [if_pos h0, h3] at h
  exact h
/-- What was put is there; what was not, was not there and nothing is changed. -/
theorem put_there {c : Cache} {e : Ev} (h : doErr c e = 0) (hk : e.1 = 1) :
    ((doR c e).2.2.1 = true ∧ hasB (doC c e).2.2.1 e.2.2.1 = true) ∨ ((doR c e).2.2.1 = false ∧ hasB c.2.2.1 e.2.2.1 = false ∧ doC c e = c ∧ frzC (doR c e).2.2.2.2.1 = .nil) := by
  obtain ⟨h0, h1, h2, h3, h4⟩ := doR_put h hk
  rcases putV_ways h0.brise h4 with ⟨k1, k2⟩ | ⟨k1, k0, k2⟩ | ⟨k1, k0, k2⟩
  · rw [k2] at h3
    refine .inl ⟨by rw [h3], ?_⟩
    unfold doC
    rw [h3]
    exact (hasB_ks touchL_ks _).trans k1
  · rw [k2] at h3
    exact .inr ⟨by rw [h3], k1, by unfold doC; rw [h3], by rw [h3]; rfl⟩
  · rw [k2] at h3
    refine .inl ⟨by rw [h3], ?_⟩
    unfold doC
    rw [h3]
    exact hasK_true.2 ⟨newB c.2.1 e.2.1 e.2.2.1 e.2.2.2.2.2, mem_ins.2 (.inl rfl), rfl⟩
theorem put_newest {c : Cache} {e : Ev} (h : doErr c e = 0) (hk : e.1 = 1) : newestV (doC c e).2.2.1 (doC c e).2.2.2 ≤ e.2.1 := by
  obtain ⟨h0, h1, h2, h3, h4⟩ := doR_put h hk
  obtain ⟨a1, a2, a3⟩ := newest_le.1 h2
  refine newest_le.2 ⟨a1, ?_, ?_⟩
  · unfold doC
    rw [h3]
    rcases putV_ways h0.brise h4 with ⟨k1, k2⟩ | ⟨k1, k0, k2⟩ | ⟨k1, k0, k2⟩
    all_goals rw [k2]
    · exact touchL_used a2
    · exact a2
    · intro b hb
      rcases mem_ins.1 hb with rfl | hb
      · exact Int.le_refl _
      · exact a2 b (mem_of_keep hb)
  · unfold doC
    rw [h3]
    exact a3
/-- The content is asked for at the same moment. -/
theorem get_after {c : Cache} {at_ : Int} {d : ByteArray} {size : Int} (h : doErr c (1, at_, d, [], ⟨#[]⟩, size) = 0) :
    doErr (doC c (1, at_, d, [], ⟨#[]⟩, size)) (2, at_, d, [], ⟨#[]⟩, 0) = 0 ∧ (doR (doC c (1, at_, d, [], ⟨#[]⟩, size)) (2, at_, d, [], ⟨#[]⟩, 0)).2.2.1 = hasB (doC c (1, at_, d, [], ⟨#[]⟩, size)).2.2.1 d := by
  have hn := put_newest h rfl
  obtain ⟨h0, h1, h2, h3, h4⟩ := doR_put h rfl
  have hc := doC_right (e := (1, at_, d, [], ⟨#[]⟩, size)) (right_iff.2 h0)
  have ho := evOk_iff.1 h1
  have hev : ckEv (2, at_, d, [], ⟨#[]⟩, 0) = 0 := evOk_iff.2 ⟨by show (1 : Int) ≤ 2 ∧ (2 : Int) ≤ 8; decide, ho.at_, by show (0 : Int) ≤ 0 ∧ (0 : Int) ≤ 100000000; decide, rfl, fun _ => ho.dig rfl, fun h => by (cases h), fun h => by (cases h), fun _ => rfl, fun _ => rfl, fun _ => rfl⟩
  generalize doC c (1, at_, d, [], ⟨#[]⟩, size) = x at *
  have hd : doR x (2, at_, d, [], ⟨#[]⟩, 0) = (touchL x.2.1 at_ true true x.2.2.1 [d], x.2.2.2, hasB x.2.2.1 d, .v .nil, .v .nil, 0) := by
    unfold doR doV
    rw [if_pos hev, if_neg (by show ¬ at_ < _; dsimp only at hn; omega), actV_get rfl]
  refine ⟨?_, by rw [hd]⟩
  unfold doErr
  rw [if_pos hc, hd]
/-- What an event does to what stood there. -/
structure Stays (c x : Cache) (gone : List ByteArray) (at_ : Int) : Prop where
  is : ∀ b ∈ c.2.2.1, hasB x.2.2.1 b.1 = !hasS b.1 gone
  held : ∀ b ∈ c.2.2.1, heldB b at_ = true → hasB x.2.2.1 b.1 = true
  size : ∀ b ∈ c.2.2.1, ∀ y ∈ x.2.2.1, y.1 = b.1 → y.2.1 = b.2.1
  len : c.2.2.1.length ≤ x.2.2.1.length + gone.length
  glen : gone.length ≤ c.2.2.1.length
end Go.Proofs.YtchiicfnejmmbaaDoor
