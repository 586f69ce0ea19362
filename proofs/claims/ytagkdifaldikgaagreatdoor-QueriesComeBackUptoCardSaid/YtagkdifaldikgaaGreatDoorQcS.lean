/-
  Queries as text: the law of reading what was written (plain Lean). No statement of the seat is proved here; no conditions.
-/
import Derived.Test.YtagkdifaldikgaaGreatDoorQcR
namespace Go.Proofs.YtagkdifaldikgaaGreatDoor
open Go.RowKit Go.Shelf
set_option linter.unusedVariables false
set_option linter.unusedSimpArgs false

theorem RtQ.atom {q : QT} (h1 : isSumK (kindQ q) = false) (o : ∀ rest,Sep rest → Rd .one (txQ q ++ rest) (q,rest)) : RtQ q :=
 ⟨fun rest hr hw r hl => rd_sum (rd_both (o rest hr) (rd_bothE hw)) hl,fun _ rest hr r hl => rd_both (o rest hr) hl,fun _ _ => o⟩
theorem RtQ.bth {q : QT} (h : kindQ q = 10) (b : ∀ rest,Sep rest → ∀ r,Rd (.bothL q) rest r → Rd .both (txQ q ++ rest) r) : RtQ q :=
 ⟨fun rest hr hw r hl => rd_sum (b rest hr _ (rd_bothE hw)) hl,fun _ => b,fun _ h' => absurd h h'⟩
theorem RtQ.sm {q : QT} (h : isSumK (kindQ q) = true) (s : ∀ rest,Sep rest → wrd rest ≠ [38] → ∀ r,Rd (.sumL q) (skp rest) r → Rd .sum (txQ q ++ rest) r) : RtQ q :=
 ⟨s,fun h' => (by rw [h] at h';cases h'),fun h' => (by rw [h] at h';cases h')⟩
theorem rt_two {ps : List QT} (h : ps.length = 2) : ∃ a b,ps = [a,b] := by
 match ps,h with
 | [a,b],_ => exact ⟨a,b,rfl⟩
theorem rt_one {ps : List QT} (h : ps.length = 1) : ∃ a,ps = [a] := by
 match ps,h with
 | [a],_ => exact ⟨a,rfl⟩
theorem rt_sum {k : Int} {c : UInt8} (hk : k = 8 ∧ c = 43 ∨ k = 9 ∧ c = 45) {n : Int} {a b : QT} (ha : RtQ a) (hb : RtQ b) {rest : List UInt8} (hr : Sep rest) (hw : wrd rest ≠ [38]) {r : QT × List UInt8}
  (hl : Rd (.sumL (.mk k nil0 0 [a,b])) (skp rest) r) : Rd .sum ((heldW k [a,b] (txs [a,b]) 0 ++ 32 :: c :: 32 :: heldW k [a,b] (txs [a,b]) 1) ++ rest) r := by
 have h0 : heldW k [a,b] (txs [a,b]) 0 = txQ a := by
  unfold heldW
  rw [if_neg (by unfold Go.Proofs.YtagkdifaldikgaaGreatDoor.brk;rcases hk with ⟨rfl,_⟩ | ⟨rfl,_⟩ <;> simp)]
  exact txs_at rfl
 rw [h0]
 have hc : c = 43 ∨ c = 45 := hk.elim (fun h => .inl h.2) (fun h => .inr h.2)
 have h32 : c ≠ 32 := by rcases hc with rfl | rfl <;> decide
 have w := wr_sign (c := c) (32 :: (heldW k [a,b] (txs [a,b]) 1 ++ rest)) (by rcases hc with rfl | rfl <;> decide)
 have hB : Rd .both (32 :: (heldW k [a,b] (txs [a,b]) 1 ++ rest)) (b,skp rest) := rd_both_sp (held_both (i := 1) rfl (txs_at rfl) hb (.inr rfl) hr (rd_bothE hw))
 have e : (txQ a ++ 32 :: c :: 32 :: heldW k [a,b] (txs [a,b]) 1) ++ rest = txQ a ++ 32 :: c :: 32 :: (heldW k [a,b] (txs [a,b]) 1 ++ rest) := by simp
 rw [e]
 refine ha.s _ (sep_of (.inl rfl)) (by rw [wrd_sp,w.1];rcases hc with rfl | rfl <;> decide) _ ?_
 rw [skp_sp,skp_ne h32]
 rcases hk with ⟨rfl,rfl⟩ | ⟨rfl,rfl⟩
 ·exact rd_plus w.1 (by rw [w.2];exact hB) hl
 ·exact rd_minus w.1 (by rw [w.2];exact hB) hl
theorem rt_both {a b : QT} (ha : RtQ a) (hb : RtQ b) {rest : List UInt8} (hr : Sep rest) {r : QT × List UInt8}
  (hl : Rd (.bothL (.mk 10 nil0 0 [a,b])) rest r) : Rd .both ((heldW 10 [a,b] (txs [a,b]) 0 ++ 32 :: 38 :: 32 :: heldW 10 [a,b] (txs [a,b]) 1) ++ rest) r := by
 have w := wr_sign (c := 38) (32 :: (heldW 10 [a,b] (txs [a,b]) 1 ++ rest)) (by decide)
 have e : (heldW 10 [a,b] (txs [a,b]) 0 ++ 32 :: 38 :: 32 :: heldW 10 [a,b] (txs [a,b]) 1) ++ rest = heldW 10 [a,b] (txs [a,b]) 0 ++ 32 :: 38 :: 32 :: (heldW 10 [a,b] (txs [a,b]) 1 ++ rest) := by simp
 rw [e]
 refine held_both (i := 0) rfl (txs_at rfl) ha (.inl rfl) (sep_of (.inl rfl)) ?_
 refine rd_bothL (q' := b) (l1 := rest) (by rw [wrd_sp,w.1]) ?_ hl
 rw [rst_sp,w.2]
 exact rd_one_sp (held_one (i := 1) rfl (txs_at rfl) hb ⟨rfl,rfl⟩ hr)
theorem w_end (rest : List UInt8) : wrd (41 :: rest) = [41] ∧ rst (41 :: rest) = rest := wr_sign rest (by decide)
theorem w_com (rest : List UInt8) : wrd (44 :: rest) = [44] ∧ rst (44 :: rest) = rest := wr_sign rest (by decide)
theorem rt_num {k : Int} {W : List UInt8} (hk : k = 3 ∧ W = wNeeds ∨ k = 4 ∧ W = wUsers) {n : Int} {a : QT} (h1 : -1 ≤ n) (h2 : n ≤ 1000) (ha : RtQ a) (rest : List UInt8) :
  Rd .one (W ++ 40 :: (txQ a ++ ((if 0 ≤ n then 44 :: 32 :: (itB n).data.toList else []) ++ [41])) ++ rest) (.mk k nil0 n [a],rest) := by
 have hW : kindW W = k := by rcases hk with ⟨rfl,rfl⟩ | ⟨rfl,rfl⟩ <;> decide
 have hs : ∀ rest,Sep rest → wrd (W ++ rest) = W ∧ rst (W ++ rest) = rest := by
  rcases hk with ⟨rfl,rfl⟩ | ⟨rfl,rfl⟩
  ·exact lt_word (c := 110) rfl (by decide) (by decide)
  ·exact lt_word (c := 117) rfl (by decide) (by decide)
 have hk3 : k = 3 ∨ k = 4 := hk.elim (fun h => .inl h.1) (fun h => .inr h.1)
 have hh : ∀ X,headW k X = some (nil0,X) := fun X => by unfold headW;rw [if_neg (by omega),if_neg (by omega)]
 by_cases h0 : 0 ≤ n
 ·rw [if_pos h0]
  obtain ⟨d1,d2,d3,d4⟩ := num_word h0 h2
  have wd := wr_dg (t := (itB n).data.toList) (rest := 41 :: rest) (sep_of (by simp)) d1 d2
  have e : W ++ 40 :: (txQ a ++ (44 :: 32 :: (itB n).data.toList ++ [41])) ++ rest = W ++ 40 :: (txQ a ++ 44 :: 32 :: ((itB n).data.toList ++ 41 :: rest)) := by simp
  rw [e]
  have := rd_fun (X := txQ a ++ 44 :: 32 :: ((itB n).data.toList ++ 41 :: rest)) (n := n) (ps := [a]) (l4 := 41 :: rest) hW (by omega) hs (hh _) (ha.arg (.inr rfl)) ⟨0,by
   unfold tailW
   rw [if_neg (by omega),if_pos hk3,(w_com _).1,if_pos rfl,(w_com _).2,wrd_sp,rst_sp,wd.1,wd.2,if_pos d3,d4]⟩ (w_end rest).1
  rwa [(w_end rest).2] at this
 ·rw [if_neg h0]
  obtain rfl : n = -1 := by omega
  have e : W ++ 40 :: (txQ a ++ ([] ++ [41])) ++ rest = W ++ 40 :: (txQ a ++ 41 :: rest) := by simp
  rw [e]
  have := rd_fun (X := txQ a ++ 41 :: rest) (n := -1) (ps := [a]) (l4 := 41 :: rest) hW (by omega) hs (hh _) (ha.arg (.inl rfl)) ⟨0,by
   unfold tailW
   rw [if_neg (by omega),if_pos hk3,(w_end _).1,if_neg (by decide),skp_ne (by decide)]⟩ (w_end rest).1
  rwa [(w_end rest).2] at this
theorem rt_betw {a b : QT} (ha : RtQ a) (hb : RtQ b) (rest : List UInt8) : Rd .one (wBetw ++ 40 :: (txQ a ++ 44 :: 32 :: (txQ b ++ [41])) ++ rest) (.mk 5 nil0 0 [a,b],rest) := by
 have e : wBetw ++ 40 :: (txQ a ++ 44 :: 32 :: (txQ b ++ [41])) ++ rest = wBetw ++ 40 :: (txQ a ++ 44 :: 32 :: (txQ b ++ 41 :: rest)) := by simp
 rw [e]
 obtain ⟨m,hm⟩ := rd_sum_sp (hb.arg (c := 41) (rest := rest) (.inl rfl))
 have := rd_fun (X := txQ a ++ 44 :: 32 :: (txQ b ++ 41 :: rest)) (k := 5) (t := nil0) (n := 0) (ps := [a,b]) (l4 := 41 :: rest) (by decide) (by omega) (lt_word (W := wBetw) rfl (by decide) (by decide)) (by unfold headW;rw [if_neg (by decide),if_neg (by decide)]) (ha.arg (.inr rfl)) ⟨m,by
  unfold tailW
  rw [if_pos rfl,(w_com _).1,if_pos rfl,(w_com _).2,hm];rfl⟩ (w_end rest).1
 rwa [(w_end rest).2] at this
theorem rt_head {k : Int} {W : List UInt8} {t : ByteArray} {a : QT} (hW : kindW W = k) (hk : k = 6 ∨ k = 7) (hs : ∀ rest,Sep rest → wrd (W ++ rest) = W ∧ rst (W ++ rest) = rest) (ha : RtQ a) (rest : List UInt8)
  (ht : ∀ rest,Sep rest → wrd (t.data.toList ++ rest) = t.data.toList ∧ rst (t.data.toList ++ rest) = rest) (hf : k = 6 → isNameV t = true) (hg : k = 7 → isPatV t = true) :
  Rd .one (W ++ 40 :: (t.data.toList ++ 44 :: 32 :: (txQ a ++ [41])) ++ rest) (.mk k t 0 [a],rest) := by
 have e : W ++ 40 :: (t.data.toList ++ 44 :: 32 :: (txQ a ++ [41])) ++ rest = W ++ 40 :: (t.data.toList ++ 44 :: 32 :: (txQ a ++ 41 :: rest)) := by simp
 rw [e]
 obtain ⟨w1,w2⟩ := ht (44 :: 32 :: (txQ a ++ 41 :: rest)) (sep_of (by simp))
 have hh : headW k (t.data.toList ++ 44 :: 32 :: (txQ a ++ 41 :: rest)) = some (t,32 :: (txQ a ++ 41 :: rest)) := by
  unfold headW
  rw [w1,w2,(w_com _).1,(w_com _).2,toB_back]
  rcases hk with rfl | rfl
  ·rw [if_pos rfl,if_pos ⟨hf rfl,rfl⟩]
  ·rw [if_neg (by decide),if_pos rfl,if_pos ⟨hg rfl,rfl⟩]
 have := rd_fun (n := 0) (ps := [a]) (l4 := 41 :: rest) hW (by omega) hs hh (rd_sum_sp (ha.arg (c := 41) (rest := rest) (.inl rfl))) ⟨0,by
  unfold tailW
  rw [if_neg (by omega),if_neg (by omega)]⟩ (w_end rest).1
 rwa [(w_end rest).2] at this
theorem rt (hw : Wd) : ∀ q,ckQ q = 0 → RtQ q := by
 refine QT.ind fun k t n ps ih h => ?_
 rw [ckQ] at h
 split at h
 ·cases h
 rename_i hk
 split at h
 ·cases h
 rename_i hf
 split at h
 ·cases h
 rename_i hn
 have hp := ckQs_zero.1 h
 have hR : ∀ p ∈ ps,RtQ p := fun p hm => ih p hm (hp p hm)
 have hf1 : fitsQ k t = true := by
  cases hh : fitsQ k t with
  | true => rfl
  | false => exact absurd (.inl hh) hf
 have hf2 : ps.length = partsN k := Decidable.byContradiction fun hh => hf (.inr hh)
 have hk2 : k = 1 ∨ k = 2 ∨ k = 3 ∨ k = 4 ∨ k = 5 ∨ k = 6 ∨ k = 7 ∨ k = 8 ∨ k = 9 ∨ k = 10 := by omega
 have hend : ∀ rest : List UInt8,wrd (41 :: rest) = [41] ∧ rst (41 :: rest) = rest := fun rest => wr_sign rest (by decide)
 have hcom : ∀ rest : List UInt8,wrd (44 :: rest) = [44] ∧ rst (44 :: rest) = rest := fun rest => wr_sign rest (by decide)
 clear h hf hk ih hp
 rcases hk2 with rfl | rfl | rfl | rfl | rfl | rfl | rfl | rfl | rfl | rfl
 ·obtain rfl : ps = [] := List.eq_nil_of_length_eq_zero hf2
  have ht : t = nil0 := by simpa [fitsQ,nil0] using hf1
  have hn0 : n = 0 := by simpa [rngQ] using hn
  subst ht hn0
  refine .atom rfl fun rest hr => ?_
  obtain ⟨w1,w2⟩ := lt_word (W := wAll) rfl (by decide) (by decide) rest hr
  refine rd_one ⟨0,?_⟩
  show oneW _ (wAll ++ rest) = _
  unfold oneW
  rw [w1,w2,if_neg (by decide),if_neg (by decide),if_pos (by decide)]
 ·obtain rfl : ps = [] := List.eq_nil_of_length_eq_zero hf2
  have ht : isWholeV t = true := by simpa [fitsQ] using hf1
  have hn0 : n = 0 := by simpa [rngQ] using hn
  subst hn0
  obtain ⟨⟨x,h1⟩,h2⟩ := hw.lab t ht
  refine .atom rfl fun rest hr => ?_
  obtain ⟨w1,w2⟩ := wr_lb (t := t.data.toList) hr ⟨x,h1⟩ h2
  refine rd_one ⟨0,?_⟩
  show oneW _ (t.data.toList ++ rest) = _
  unfold oneW
  rw [w1,w2,if_neg (by rw [h1];intro e;cases e),if_pos (by rw [h1];unfold kindW;rw [if_neg,if_neg,if_neg,if_neg,if_neg,if_neg] <;> exact fun e => by cases e),toB_back,if_pos ht]
 ·obtain ⟨a,rfl⟩ := rt_one hf2
  have ht : t = nil0 := by simpa [fitsQ,nil0] using hf1
  have hn1 : -1 ≤ n ∧ n ≤ 1000 := by simp [rngQ] at hn;omega
  subst ht
  exact .atom rfl fun rest hr => rt_num (.inl ⟨rfl,rfl⟩) hn1.1 hn1.2 (hR a (by simp)) rest
 ·obtain ⟨a,rfl⟩ := rt_one hf2
  have ht : t = nil0 := by simpa [fitsQ,nil0] using hf1
  have hn1 : -1 ≤ n ∧ n ≤ 1000 := by simp [rngQ] at hn;omega
  subst ht
  exact .atom rfl fun rest hr => rt_num (.inr ⟨rfl,rfl⟩) hn1.1 hn1.2 (hR a (by simp)) rest
 ·obtain ⟨a,b,rfl⟩ := rt_two hf2
  have ht : t = nil0 := by simpa [fitsQ,nil0] using hf1
  have hn0 : n = 0 := by simpa [rngQ] using hn
  subst ht hn0
  exact .atom rfl fun rest hr => rt_betw (hR a (by simp)) (hR b (by simp)) rest
 ·obtain ⟨a,rfl⟩ := rt_one hf2
  have ht : isNameV t = true := by simpa [fitsQ] using hf1
  have hn0 : n = 0 := by simpa [rngQ] using hn
  subst hn0
  obtain ⟨c,h1,h2,h3⟩ := hw.nam t ht
  exact .atom rfl fun rest hr => rt_head (k := 6) (W := wKind) (by decide) (.inl rfl) (lt_word (c := 107) rfl (by decide) (by decide)) (hR a (by simp)) rest (fun rest hr => wr_sm hr h1 h2 h3) (fun _ => ht) (fun e => absurd e (by decide))
 ·obtain ⟨a,rfl⟩ := rt_one hf2
  have ht : isPatV t = true := by simpa [fitsQ] using hf1
  have hn0 : n = 0 := by simpa [rngQ] using hn
  subst hn0
  obtain ⟨h1,h2⟩ := hw.pat t ht
  exact .atom rfl fun rest hr => rt_head (k := 7) (W := wIn) (by decide) (.inr rfl) (lt_word (c := 105) rfl (by decide) (by decide)) (hR a (by simp)) rest (fun rest hr => wr_lb hr h1 h2) (fun e => absurd e (by decide)) (fun _ => ht)
 ·obtain ⟨a,b,rfl⟩ := rt_two hf2
  have ht : t = nil0 := by simpa [fitsQ,nil0] using hf1
  have hn0 : n = 0 := by simpa [rngQ] using hn
  subst ht hn0
  exact .sm rfl fun rest hr hw r hl => rt_sum (n := 0) (.inl ⟨rfl,rfl⟩) (hR a (by simp)) (hR b (by simp)) hr hw hl
 ·obtain ⟨a,b,rfl⟩ := rt_two hf2
  have ht : t = nil0 := by simpa [fitsQ,nil0] using hf1
  have hn0 : n = 0 := by simpa [rngQ] using hn
  subst ht hn0
  exact .sm rfl fun rest hr hw r hl => rt_sum (n := 0) (.inr ⟨rfl,rfl⟩) (hR a (by simp)) (hR b (by simp)) hr hw hl
 ·obtain ⟨a,b,rfl⟩ := rt_two hf2
  have ht : t = nil0 := by simpa [fitsQ,nil0] using hf1
  have hn0 : n = 0 := by simpa [rngQ] using hn
  subst ht hn0
  exact .bth rfl fun rest hr r hl => rt_both (hR a (by simp)) (hR b (by simp)) hr hl
theorem rd_text (hw : Wd) {q : QT} (h : ckQ q = 0) : ∃ n,pq n .sum (txQ q) = some (q,[]) := by
 have := (rt hw q h).s [] (fun c hc => by simp at hc) (by decide) (q,[]) (rd_sumE (by decide) (by decide))
 rwa [List.append_nil] at this
end Go.Proofs.YtagkdifaldikgaaGreatDoor
