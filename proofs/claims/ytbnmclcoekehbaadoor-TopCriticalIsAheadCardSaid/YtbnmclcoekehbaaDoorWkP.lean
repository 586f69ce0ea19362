/-
  Works as nodes of a graph: plain law. No statement of the seat is proved here; no conditions.
-/
import Derived.Test.YtbnmclcoekehbaaDoorWkC
namespace Go.Proofs.YtbnmclcoekehbaaDoor
open Go.RowKit Go.Shelf
set_option linter.unusedVariables false
set_option linter.unusedSimpArgs false
set_option maxRecDepth 100000

/-! ### Labels -/
def preL : ByteArray := ⟨#[47, 47, 58]⟩
def labW (t : ByteArray) : ByteArray := preL ++ t
theorem labW_list (t : ByteArray) : (labW t).data.toList = 47 :: 47 :: 58 :: t.data.toList := by
  unfold labW preL
  rw [ByteArray.data_append, Array.toList_append]; rfl
theorem ba_ext {a b : ByteArray} (h : a.data.toList = b.data.toList) : a = b := by
  cases a; cases b; simpa using h
theorem labW_inj {a b : ByteArray} (h : labW a = labW b) : a = b := by
  have h2 := congrArg (fun x : ByteArray => x.data.toList) h
  simp only [labW_list, List.cons.injEq, true_and] at h2
  exact ba_ext h2
theorem cmpB_lab (a b : ByteArray) : cmpB (labW a) (labW b) = cmpB a b := by
  unfold cmpB
  rw [labW_list, labW_list]
  simp [Lib.compareBytes]
theorem strLt_lab (a b : ByteArray) : strLt (labW a) (labW b) = strLt a b := by
  have h : strLt (labW a) (labW b) = true ↔ strLt a b = true := by rw [← cmpB_lt, ← cmpB_lt, cmpB_lab]
  cases h1 : strLt a b <;> cases h2 : strLt (labW a) (labW b) <;> simp_all
/-! ### Words are paths -/
theorem trimS_all {l cs : List UInt8} (h : Lib.trimS l cs = []) : ∀ b ∈ l, cs.contains b = true := by
  have key : ∀ {p : UInt8 → Bool} {l : List UInt8}, l.dropWhile p = [] → ∀ b ∈ l, p b = true := fun {p l} h b hb => by
    induction l with
    | nil => cases hb
    | cons a l ih =>
      rw [List.dropWhile_cons] at h
      split at h
      · rename_i ha
        rcases List.mem_cons.1 hb with rfl | hb
        · exact ha
        · exact ih h hb
      · cases h
  intro b hb
  have h1 : (Lib.trimRightS l cs).dropWhile (cs.contains ·) = [] := h
  have h2 := key h1
  by_cases hm : b ∈ Lib.trimRightS l cs
  · exact h2 b hm
  · have h3 : (Lib.trimRightS l cs) = (l.reverse.dropWhile (cs.contains ·)).reverse := rfl
    have hd : l.reverse.takeWhile (cs.contains ·) ++ l.reverse.dropWhile (cs.contains ·) = l.reverse := List.takeWhile_append_dropWhile
    have hb2 : b ∈ l.reverse := List.mem_reverse.2 hb
    rw [← hd] at hb2
    rcases List.mem_append.1 hb2 with h4 | h4
    · have : ∀ {p : UInt8 → Bool} {l : List UInt8}, ∀ b ∈ l.takeWhile p, p b = true := fun {p l} b hb => by
        induction l with
        | nil => cases hb
        | cons a l ih =>
          rw [List.takeWhile_cons] at hb
          split at hb
          · rename_i ha
            rcases List.mem_cons.1 hb with rfl | hb
            · exact ha
            · exact ih hb
          · cases hb
      exact this b h4
    · exact absurd (by rw [h3]; exact List.mem_reverse.2 h4) hm
theorem ixb_none : ∀ {l : List UInt8} {c : UInt8}, c ∉ l → Lib.indexByte l c = -1
  | [], c, _ => rfl
  | b :: l, c, h => by
    have h1 : (b == c) = false := by rw [beq_eq_false_iff_ne]; exact fun e => h (by rw [e]; exact List.mem_cons_self ..)
    rw [Lib.indexByte, h1, ixb_none fun hm => h (List.mem_cons_of_mem _ hm)]; rfl
theorem word_chars : ∀ b ∈ wordS, inPartV (b.toNat : Nat) = true ∧ b ≠ 47 := by
  have h : wordS.all (fun b => inPartV (b.toNat : Nat) && !decide (b = 47)) = true := by decide +kernel
  intro b hb
  have := List.all_eq_true.1 h b hb
  simpa using this
theorem word_parts {p : ByteArray} (h : isWordV p = true) : 1 ≤ p.size ∧ p.size ≤ 40 ∧ (∃ b l, p.data.toList = b :: l ∧ 97 ≤ b.toNat) ∧ ∀ b ∈ p.data.toList, inPartV (b.toNat : Nat) = true ∧ b ≠ 47 := by
  unfold isWordV at h
  have hbl := bytes_len p
  split at h
  · cases h
  · rename_i b l hL
    simp only [Bool.and_eq_true, Bool.not_eq_true', decide_eq_false_iff_not, decide_eq_true_eq] at h
    obtain ⟨h1, h2, h3⟩ := h
    have h4 : Lib.trimS p.data.toList wordS = [] := by
      have := congrArg (fun x : ByteArray => x.data.toList) h3
      simpa using this
    have h5 := rg_iff.1 h2
    refine ⟨by rw [← hbl, hL]; simp, by omega, ⟨b, l, hL, by omega⟩, fun c hc => word_chars c ?_⟩
    have := trimS_all h4 c hc
    simpa using this
theorem word_path {p : ByteArray} (h : isWordV p = true) : isPathV p = true := by
  obtain ⟨h1, h2, ⟨b, l, hL, hb⟩, h3⟩ := word_parts h
  have hs : splitS p 47 = [p] := by
    unfold splitS
    exact Lib.splitB_miss _ _ _ _ (by rw [sep_ix]; exact ixb_none fun hm => (h3 47 hm).2 rfl)
  have hP : isPartV p = true := by
    unfold isPartV
    have e1 : p.data.toList.all (fun b => inPartV b.toNat) = true := List.all_eq_true.2 fun c hc => (h3 c hc).1
    have e2 : ∀ q : ByteArray, (q.data.toList = [] ∨ ∃ c m, q.data.toList = c :: m ∧ c.toNat < 97) → decide (p = q) = false := fun q hq => decide_eq_false fun e => by
      subst e
      rw [hL] at hq
      rcases hq with hq | ⟨c, m, hq, hc⟩
      · cases hq
      · obtain ⟨rfl, _⟩ := List.cons.inj hq; omega
    rw [e1, e2 ⟨#[]⟩ (.inl rfl), e2 ⟨#[46]⟩ (.inr ⟨46, [], rfl, by decide⟩), e2 ⟨#[46, 46]⟩ (.inr ⟨46, [46], rfl, by decide⟩)]; rfl
  unfold isPathV
  rw [hs, List.all_cons, hP, List.all_nil]
  simp; omega
theorem ext_list (s : ByteArray) (a b : Nat) : (s.extract a b).data.toList = (s.data.toList.drop a).take (b - a) := by
  rw [ByteArray.data_extract, Array.toList_extract, List.extract_eq_take_drop]
theorem size_list (s : ByteArray) : s.size = s.data.toList.length := (bytes_len s).symm
theorem lab_of (t : ByteArray) : labOf (labW t) = (⟨#[]⟩, t) := by
  have hsz : (labW t).size = t.data.toList.length + 3 := by rw [size_list, labW_list]; simp
  have h1 : hasPre (labW t) ⟨#[47, 47]⟩ = true := by
    unfold hasPre
    rw [Bool.and_eq_true, decide_eq_true_eq, decide_eq_true_eq]
    refine ⟨by rw [hsz]; show (2 : Int) ≤ _; omega, ba_ext ?_⟩
    rw [ext_list, labW_list]; rfl
  have h2 : cutPre (labW t) ⟨#[47, 47]⟩ = ⟨#[58]⟩ ++ t := by
    unfold cutPre
    rw [if_pos h1]
    refine ba_ext ?_
    rw [ext_list, hsz, labW_list, ByteArray.data_append, Array.toList_append]
    show (58 :: t.data.toList).take _ = [58] ++ t.data.toList
    rw [List.take_of_length_le]
    · rfl
    · show t.data.toList.length + 1 ≤ t.data.toList.length + 3 - 2; omega
  have h3 : ixB (⟨#[58]⟩ ++ t) 58 = 0 := by
    unfold ixB
    rw [ByteArray.data_append, Array.toList_append]; rfl
  have h4 : cutS (⟨#[58]⟩ ++ t) 58 = (⟨#[]⟩, t, true) := by
    unfold cutS
    rw [h3, if_pos (by decide)]
    have e1 : (⟨#[58]⟩ ++ t : ByteArray).extract 0 (0 : Int).toNat = ⟨#[]⟩ := ba_ext (by rw [ext_list]; rfl)
    have e2 : (⟨#[58]⟩ ++ t : ByteArray).extract ((0 : Int).toNat + 1) (⟨#[58]⟩ ++ t : ByteArray).size = t := ba_ext (by
      rw [ext_list, size_list, ByteArray.data_append, Array.toList_append]
      show t.data.toList.take _ = _
      rw [List.take_of_length_le]; simp)
    rw [e1, e2]
  unfold labOf
  rw [if_pos h1, h2, h4]; rfl
theorem lab_whole {t : ByteArray} (h : isWordV t = true) : isWholeV (labW t) = true := by
  unfold isWholeV okLab
  rw [lab_of]
  have e : wholeS ⟨#[]⟩ t = labW t := by
    refine ba_ext ?_
    rw [labW_list]
    unfold wholeS
    rw [ByteArray.data_append, ByteArray.data_append, ByteArray.data_append, Array.toList_append, Array.toList_append, Array.toList_append]; rfl
  rw [decide_eq_true e, ckLab, word_path h]
  rfl
/-! ### The graph of works -/
def workB : ByteArray := ⟨#[119, 111, 114, 107]⟩
def nodeOf (x : Work) : Node := (labW x.1, workB, x.2.2.2.map labW, [], [], x.2.2.1)
def gOf (l : List Work) : Graph := l.map nodeOf
theorem gOf_len (l : List Work) : (gOf l).length = l.length := List.length_map _
theorem nIdx_lab' (l : List Work) (t : ByteArray) : nIdx (gOf l) (labW t) = wIdx l t := by
  unfold nIdx wIdx bsIdx gOf
  rw [List.countP_map]
  refine congrArg (fun p => List.countP p l) (funext fun x => ?_)
  show decide (cmpB (labW x.1) (labW t) < 0) = _
  rw [cmpB_lab]
theorem nHas_lab (l : List Work) (t : ByteArray) : nHas (gOf l) (labW t) = wHas l t := by
  unfold nHas wHas hasK gOf
  rw [List.any_map]
  refine congrArg (fun p => List.any l p) (funext fun x => ?_)
  show decide (labW x.1 = labW t) = decide (x.1 = t)
  rw [decide_eq_decide]
  exact ⟨labW_inj, fun h => by rw [h]⟩
theorem leS_lt {a b : ByteArray} (h : strLt a b = true) : leS b a = false := by
  have h1 := strLt_asymm h
  have h2 := strLt_ne h
  unfold leS
  rw [h1]
  simp only [Bool.or_false, Bool.false_or, decide_eq_false_iff_not]
  exact fun e => h2 e.symm
theorem prev_ris {α : Type} {key : α → ByteArray} {l : List α} (h : Rising key l) {i : Nat} {y : α} (hy : l[i]? = some y) : prevV l i (fun e => if leS (key y) (key e) = true then 8 else 0) = 0 := by
  unfold prevV
  split
  · rfl
  · rename_i h0
    obtain ⟨x, hx⟩ := get_some (l := l) (i := i - 1) (by have := (List.getElem?_eq_some_iff.1 hy).1; omega)
    rw [hx]
    show (if leS (key y) (key x) = true then (8 : Int) else 0) = 0
    rw [leS_lt (h (i - 1) i x y (by omega) hx hy)]; rfl
theorem ris_of {p : ByteArray → Bool} {l : List ByteArray} (h1 : ∀ d ∈ l, p d = true) (h2 : Rising (fun d : ByteArray => d) l) : risV p l = 0 := fe_none fun m hm => by
  obtain ⟨d, hd⟩ := get_some hm
  rw [risErr_of hd, if_pos (h1 d (List.mem_of_getElem? hd))]
  exact prev_ris (key := fun d : ByteArray => d) h2 hd
structure WOk (l : List Work) : Prop where
  len : l.length ≤ 200
  rising : Rising (fun b : Work => b.1) l
  works : ∀ x ∈ l, ckWork x = 0
  aft : aftOk l = true
  ord : (ordWV l).length = l.length
theorem wok_of {l : List Work} (h : ckWorks l = 0) : WOk l := by
  unfold ckWorks at h
  split at h
  · cases h
  split at h
  · rename_i h2; exact absurd h h2
  rename_i h1 h2
  have hz : ∀ m, m < l.length → wkErr l m = 0 := fun m hm => fe_zero (by simpa using h2) m hm
  split at h
  · rename_i h3
    split at h
    · rename_i h4
      exact ⟨by omega, works_rising hz, works_ok hz, h3, h4⟩
    · cases h
  · cases h
theorem rising_lab {l : List ByteArray} (h : Rising (fun d : ByteArray => d) l) : Rising (fun d : ByteArray => d) (l.map labW) := fun i j x y hij hx hy => by
  rw [List.getElem?_map] at hx hy
  obtain ⟨a, ha, rfl⟩ := Option.map_eq_some_iff.1 hx
  obtain ⟨b, hb, rfl⟩ := Option.map_eq_some_iff.1 hy
  rw [strLt_lab]; exact h i j a b hij ha hb
theorem WOk.node {l : List Work} (h : WOk l) {x : Work} (hx : x ∈ l) : ckNode (nodeOf x) = 0 := by
  obtain ⟨h1, h2, h3⟩ := ckWork_parts (h.works x hx)
  obtain ⟨h4, h5⟩ := aft_words h3
  have h6 := aft_len h.rising h5 (fun d hd => List.all_eq_true.1 (List.all_eq_true.1 h.aft x hx) d hd)
  have h7 := h.len
  have e1 : isWholeV (labW x.1) = true := lab_whole h1
  have e2 : isNameV workB = true := by decide +kernel
  have e3 : risV isWholeV (x.2.2.2.map labW) = 0 := ris_of (fun d hd => by obtain ⟨t, ht, rfl⟩ := List.mem_map.1 hd; exact lab_whole (h4 t ht)) (rising_lab h5)
  have e4 : risV isPathV [] = 0 := rfl
  have e5 : risV isPatV [] = 0 := rfl
  unfold ckNode nodeOf
  dsimp only
  rw [e1, if_neg (by decide), e2, if_neg (by decide), if_neg (by rw [List.length_map]; omega), e3, if_neg (fun h => h rfl), if_neg (by simp), e4, if_neg (fun h => h rfl), if_neg (by simp), e5, if_neg (fun h => h rfl), if_neg (by simp; omega)]
theorem WOk.gok {l : List Work} (h : WOk l) : opErr (gOf l) = 0 ∧ GOk (gOf l) := by
  have hr : Rising (fun b : Node => b.1) (gOf l) := fun i j x y hij hx hy => by
    unfold gOf at hx hy
    rw [List.getElem?_map] at hx hy
    obtain ⟨a, ha, rfl⟩ := Option.map_eq_some_iff.1 hx
    obtain ⟨b, hb, rfl⟩ := Option.map_eq_some_iff.1 hy
    show strLt (labW a.1) (labW b.1) = true
    rw [strLt_lab]; exact h.rising i j a b hij ha hb
  have hn : ∀ n ∈ gOf l, ckNode n = 0 := fun n hn => by
    obtain ⟨x, hx, rfl⟩ := List.mem_map.1 hn
    exact h.node hx
  have hd : depsOk (gOf l) = true := by
    unfold depsOk
    rw [List.all_eq_true]
    intro n hn
    obtain ⟨x, hx, rfl⟩ := List.mem_map.1 hn
    show (x.2.2.2.map labW).all _ = true
    rw [List.all_eq_true]
    intro t ht
    obtain ⟨d, hd, rfl⟩ := List.mem_map.1 ht
    rw [nHas_lab]
    exact List.all_eq_true.1 (List.all_eq_true.1 h.aft x hx) d hd
  have hl : (gOf l).length ≤ 1000 := by have := h.len; rw [gOf_len]; omega
  have hg : ∀ m, m < (gOf l).length → grErr (gOf l) m = 0 := fun m hm => by
    obtain ⟨n, hnm⟩ := get_some hm
    rw [grErr_of hnm, hn n (List.mem_of_getElem? hnm), if_neg (fun h => h rfl)]
    exact prev_ris hr hnm
  have hf : firstErr (grErr (gOf l)) 0 (gOf l).length = 0 := fe_none hg
  refine ⟨?_, hl, hr, hn, hd⟩
  unfold opErr
  rw [if_neg (by omega), hf, if_neg (fun h => h rfl), hd, if_pos rfl]
theorem WOk.invR {l : List Work} : WInv (aftE l) l.length (wGo (aftE l) l.length (l.length + 1) (List.replicate l.length false, [])) := wGo_inv _ _ wInv_0
theorem WOk.deps {l : List Work} : allDeps (gOf l) = aftE l := by
  unfold allDeps aftE gOf
  rw [List.map_map]
  apply List.map_congr_left
  intro x _
  show (x.2.2.2.map labW).map (nIdx (l.map nodeOf)) = _
  rw [List.map_map]
  apply List.map_congr_left
  intro t _
  exact nIdx_lab' l t
end Go.Proofs.YtbnmclcoekehbaaDoor
