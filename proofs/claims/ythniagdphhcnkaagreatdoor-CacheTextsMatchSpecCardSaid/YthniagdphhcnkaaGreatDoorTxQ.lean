/-
  A cache is read as it was written, and what was read is written as it stood: plain. No statement of the seat is proved here; no conditions.
-/
import Derived.Test.YthniagdphhcnkaaGreatDoorTxP
namespace Go.Proofs.YthniagdphhcnkaaGreatDoor
open Go.RowKit Go.Shelf
set_option linter.unusedVariables false
set_option linter.unusedSimpArgs false
set_option maxRecDepth 100000

theorem data_app (a b : ByteArray) : (a ++ b).data.toList = a.data.toList ++ b.data.toList := by rw [ByteArray.data_append];simp
theorem app_nil (a : ByteArray) : a ++ (⟨#[]⟩ : ByteArray) = a := bytes_ext (by rw [data_app];simp)
theorem app_asc (a b c : ByteArray) : a ++ b ++ c = a ++ (b ++ c) := bytes_ext (by simp only [data_app,List.append_assoc])
theorem line_txt {c c' : Cache} {w : List ByteArray} (h : lineW c false w = some c') : txtB c' = txtB c ++ lnB w := by
 obtain ⟨r,l,bs,es⟩ := c
 unfold lineW at h
 rw [if_neg (show ¬ (false = true) by decide)] at h
 split at h
 ·cases h
 split at h
 ·rename_i hh
  obtain ⟨h0,h6,h7⟩ := hh
  dsimp only at h7
  obtain rfl : es = [] := List.eq_nil_of_length_eq_zero h7
  match w,h6 with
  | [x0,x1,x2,x3,x4,x5],_ =>
   obtain rfl : x0 = blobW := Option.some.inj h0
   split at h
   ·rename_i d n0 n1 n2 n3 hd hn
    obtain rfl : x1 = d := Option.some.inj hd
    obtain rfl := Option.some.inj h
    have hit := nvL_it (l := [x2,x3,x4,x5]) (by
     show nvL (List.drop 2 [blobW,x1,x2,x3,x4,x5]) ≠ []
     rw [hn];simp)
    have hn' : nvL [x2,x3,x4,x5] = [n0,n1,n2,n3] := hn
    rw [hn'] at hit
    simp only [List.map_cons,List.map_nil,List.cons.injEq,and_true] at hit
    obtain ⟨rfl,rfl,rfl,rfl⟩ := hit
    unfold txtB txEn txBl
    simp only [List.foldl_append,List.foldl_cons,List.foldl_nil]
    rfl
   ·cases h
 split at h
 ·rename_i hh
  obtain ⟨h0,h3⟩ := hh
  match w,h3 with
  | x0 :: x1 :: x2 :: rf,_ =>
   obtain rfl : x0 = entryW := Option.some.inj h0
   split at h
   ·rename_i d n0 hd hn
    obtain rfl : x1 = d := Option.some.inj hd
    obtain rfl := Option.some.inj h
    have hn' : nvL [x2] = [n0] := hn
    have hit := nvL_it (l := [x2]) (by rw [hn'];simp)
    rw [hn'] at hit
    simp only [List.map_cons,List.map_nil,List.cons.injEq,and_true] at hit
    subst hit
    unfold txtB txEn txBl
    simp only [List.foldl_append,List.foldl_cons,List.foldl_nil]
    rfl
   ·cases h
 ·cases h
theorem line_txt0 {c' : Cache} {w : List ByteArray} (h : lineW emptyC true w = some c') : txtB c' = lnB w := by
 unfold lineW at h
 rw [if_pos (show (true = true) from rfl)] at h
 split at h
 ·cases h
 split at h
 ·rename_i h0
  split at h
  ·rename_i a b hn
   obtain rfl := Option.some.inj h
   match w,h0 with
   | x0 :: r,h0 =>
    obtain rfl : x0 = cacheW := Option.some.inj h0
    have hn' : nvL r = [a,b] := hn
    have hit := nvL_it (l := r) (by rw [hn'];simp)
    rw [hn'] at hit
    rw [← hit]
    rfl
  ·cases h
 ·cases h
theorem cut_app {t : ByteArray} (h : (cutS t 10).2.2 = true) : t = lnB (splitS (cutS t 10).1 32) ++ (cutS t 10).2.1 := by
 unfold lnB
 rw [join_words]
 refine bytes_ext ?_
 rw [cut_true h,data_app,data_app]
 simp
theorem go_txt : ∀ (k i : Nat) (c x : Cache) (t : ByteArray),i ≠ 0 → readGo k i c t = .inl x → txtB x = txtB c ++ t
 | 0,i,c,x,t,_,h => by cases h
 | k + 1,i,c,x,t,hi,h => by
  rw [readGo] at h
  split at h
  ·split at h
   ·rename_i hc
    split at h
    ·rename_i c' hl
     rw [dec_f (show ¬ ((i : Int) = 0) by omega)] at hl
     rw [go_txt k (i + 1) c' x _ (by omega) h,line_txt hl,app_asc,← cut_app hc]
    ·cases h
   ·cases h
  ·rename_i hz
   have ht : t = ⟨#[]⟩ := Classical.byContradiction fun e => hz (.inr e)
   obtain rfl : c = x := by injection h
   rw [ht,app_nil]
theorem go_txt0 {k : Nat} {x : Cache} {t : ByteArray} (h : readGo k 0 emptyC t = .inl x) : txtB x = t := by
 cases k with
 | zero => cases h
 | succ k =>
  rw [readGo,if_pos (.inl rfl)] at h
  split at h
  ·rename_i hc
   split at h
   ·rename_i c' hl
    have hl' : lineW emptyC true (splitS (cutS t 10).1 32) = some c' := hl
    rw [go_txt k 1 c' x _ (by decide) h,line_txt0 hl',← cut_app hc]
   ·cases h
  ·cases h
theorem txt_read {t : ByteArray} (h : (readV t).2.2 = 0) : TextV (readV t).1 = (t,0) := by
 unfold readV at h ⊢
 split at h
 ·cases h
 rename_i hs
 rw [if_neg hs]
 cases hq : readGo (t.size + 1) 0 emptyC t with
 | inr n => rw [hq] at h;cases h
 | inl x =>
  rw [hq] at h
  unfold outV at h ⊢
  dsimp only at h ⊢
  by_cases hk : ckCache x = 0
  ·rw [if_pos hk]
   unfold TextV
   dsimp only
   rw [if_pos hk,go_txt0 hq,if_neg hs]
  ·rw [if_neg hk] at h;exact absurd h hk
theorem read_bad {t : ByteArray} (h : (readV t).2.2 ≠ 0) : (readV t).1 = emptyC := by
 unfold readV at h ⊢
 split at h
 ·rename_i hs;rw [if_pos hs]
 rename_i hs
 rw [if_neg hs]
 cases hq : readGo (t.size + 1) 0 emptyC t with
 | inr n => rfl
 | inl x =>
  rw [hq] at h
  unfold outV at h ⊢
  dsimp only at h ⊢
  by_cases hk : ckCache x = 0
  ·rw [if_pos hk] at h;exact absurd rfl h
  ·rw [if_neg hk]
end Go.Proofs.YthniagdphhcnkaaGreatDoor
