/-
  What Feed gives; the walk of wire.Feed. Printed by genfeed.py.
-/
import Derived.Test.YteoojplgchlhcaaDoorFeed3
import Derived.Test.YteoojplgchlhcaaDoorFeed4
namespace Go.Proofs.YteoojplgchlhcaaDoor
open Go.RowKit
set_option linter.unusedVariables false
set_option linter.unusedSimpArgs false

def manyOf (l : List UInt8) : Nat := (headOfL l).2
def withBytes (m : Msg) (bs : List UInt8) : Msg := (m.1, m.2.1, m.2.2.1, m.2.2.2.1, bs)
def feedMsg (all : List UInt8) (k : Nat) : Msg := withBytes (headOfL (all.drop k)).1 ((all.drop (k + 24)).take (manyOf (all.drop k)))
abbrev FeedRes := List Msg × List UInt8 × Int × Int
def feedGo (all : List UInt8) : Nat → List Msg → Nat → FeedRes
  | 0, out, k => (out, all.drop k, 0, 0)
  | f + 1, out, k =>
    if all.length ≤ k then (out, all.drop k, 0, 0)
    else if out.length = 20000 then ([], [], k, 16)
    else if inR ((all.drop k).headD 0).toNat 1 6 = false then ([], [], k, 4)
    else if all.length < k + 24 then (out, all.drop k, 0, 0)
    else if headCode (all.drop k) ≠ 0 then ([], [], k, headCode (all.drop k))
    else if all.length < k + 24 + manyOf (all.drop k) then (out, all.drop k, 0, 0)
    else feedGo all f (out ++ [feedMsg all k]) (k + 24 + manyOf (all.drop k))
def feed (held b : List UInt8) : FeedRes :=
  if held.length > 65560 then ([], [], 0, 2) else if b.length > 2000000 then ([], [], 0, 2) else feedGo (held ++ b) (held ++ b).length [] 0

/-- The whole answer is what comes of going on here. -/
def FeedRel (all : List UInt8) (res : FeedRes) (out : List Msg) (k : Nat) : Prop := ∃ f, all.length - k ≤ f ∧ (k < all.length → 0 < f) ∧ res = feedGo all f out k
section
variable {all : List UInt8} {res : FeedRes} {out : List Msg} {k : Nat}
theorem FeedRel.end_ (h : FeedRel all res out k) (hk : all.length ≤ k) : res = (out, all.drop k, 0, 0) := by
  obtain ⟨f, _, _, e⟩ := h
  cases f with
  | zero => exact e
  | succ f => rw [e, feedGo, if_pos hk]
theorem FeedRel.full (h : FeedRel all res out k) (hk : k < all.length) (h1 : out.length = 20000) : res = ([], [], (k : Int), 16) := by
  obtain ⟨f, _, hf, e⟩ := h
  obtain ⟨f, rfl⟩ := Nat.exists_eq_add_of_lt (hf hk)
  rw [e, Nat.zero_add, feedGo, if_neg (by omega), if_pos h1]
theorem FeedRel.kind (h : FeedRel all res out k) (hk : k < all.length) (h1 : ¬ out.length = 20000) (h2 : inR ((all.drop k).headD 0).toNat 1 6 = false) : res = ([], [], (k : Int), 4) := by
  obtain ⟨f, _, hf, e⟩ := h
  obtain ⟨f, rfl⟩ := Nat.exists_eq_add_of_lt (hf hk)
  rw [e, Nat.zero_add, feedGo, if_neg (by omega), if_neg h1, if_pos h2]
theorem FeedRel.short (h : FeedRel all res out k) (hk : k < all.length) (h1 : ¬ out.length = 20000) (h2 : inR ((all.drop k).headD 0).toNat 1 6 = true) (h3 : all.length < k + 24) : res = (out, all.drop k, 0, 0) := by
  obtain ⟨f, _, hf, e⟩ := h
  obtain ⟨f, rfl⟩ := Nat.exists_eq_add_of_lt (hf hk)
  rw [e, Nat.zero_add, feedGo, if_neg (by omega), if_neg h1, if_neg (by simp only [h2]; decide), if_pos h3]
theorem FeedRel.bad (h : FeedRel all res out k) (hk : k < all.length) (h1 : ¬ out.length = 20000) (h2 : inR ((all.drop k).headD 0).toNat 1 6 = true) (h3 : ¬ all.length < k + 24) (h4 : headCode (all.drop k) ≠ 0) : res = ([], [], (k : Int), headCode (all.drop k)) := by
  obtain ⟨f, _, hf, e⟩ := h
  obtain ⟨f, rfl⟩ := Nat.exists_eq_add_of_lt (hf hk)
  rw [e, Nat.zero_add, feedGo, if_neg (by omega), if_neg h1, if_neg (by simp only [h2]; decide), if_neg h3, if_pos h4]
theorem FeedRel.cut (h : FeedRel all res out k) (hk : k < all.length) (h1 : ¬ out.length = 20000) (h2 : inR ((all.drop k).headD 0).toNat 1 6 = true) (h3 : ¬ all.length < k + 24) (h4 : headCode (all.drop k) = 0) (h5 : all.length < k + 24 + manyOf (all.drop k)) : res = (out, all.drop k, 0, 0) := by
  obtain ⟨f, _, hf, e⟩ := h
  obtain ⟨f, rfl⟩ := Nat.exists_eq_add_of_lt (hf hk)
  rw [e, Nat.zero_add, feedGo, if_neg (by omega), if_neg h1, if_neg (by simp only [h2]; decide), if_neg h3, if_neg (by simp only [h4]; decide), if_pos h5]
theorem FeedRel.next (h : FeedRel all res out k) (hk : k < all.length) (h1 : ¬ out.length = 20000) (h2 : inR ((all.drop k).headD 0).toNat 1 6 = true) (h3 : ¬ all.length < k + 24) (h4 : headCode (all.drop k) = 0) (h5 : ¬ all.length < k + 24 + manyOf (all.drop k)) :
    FeedRel all res (out ++ [feedMsg all k]) (k + 24 + manyOf (all.drop k)) := by
  obtain ⟨f, hf1, hf, e⟩ := h
  obtain ⟨f, rfl⟩ := Nat.exists_eq_add_of_lt (hf hk)
  refine ⟨f, by omega, by omega, ?_⟩
  rw [e, Nat.zero_add, feedGo, if_neg (by omega), if_neg h1, if_neg (by simp only [h2]; decide), if_neg h3, if_neg (by simp only [h4]; decide), if_neg h5]
end
theorem headOfL_bd (l : List UInt8) : 0 ≤ (headOfL l).1.1 ∧ (headOfL l).1.1 ≤ 255 ∧ (headOfL l).1.2.1.size ≤ 16 ∧ 0 ≤ (headOfL l).1.2.2.1 ∧ (headOfL l).1.2.2.1 < 4294967296 ∧ 0 ≤ (headOfL l).1.2.2.2.1 ∧ (headOfL l).1.2.2.2.1 < 4294967296 ∧ manyOf l < 16777216 := by
  have h0 := (l.headD 0).toNat_lt
  have n4 : numOf ((l.drop 17).take 4) < 4294967296 := Nat.lt_of_lt_of_le (numOf_lt _) (Nat.le_trans (Nat.pow_le_pow_right (by decide) (show ((l.drop 17).take 4).length ≤ 4 by rw [List.length_take]; omega)) (by decide))
  have n3 : numOf ((l.drop 21).take 3) < 16777216 := Nat.lt_of_lt_of_le (numOf_lt _) (Nat.le_trans (Nat.pow_le_pow_right (by decide) (show ((l.drop 21).take 3).length ≤ 3 by rw [List.length_take]; omega)) (by decide))
  refine ⟨by simp [headOfL], by simp [headOfL] at h0 ⊢; omega, ?_, ?_, ?_, ?_, ?_, n3⟩
  · show (((l.drop 1).take 16).toArray.size : Nat) ≤ _
    simp; omega
  all_goals (simp only [headOfL]; split <;> omega)

/-- What Feed hands back: its own slices, from block base on. -/
def PFeedO (base : Nat) (p : FeedRes) (v : Value) (w' : World) : Prop :=
  ∃ A c A2 c2, v = .tuple #[.slice A p.1.length c, .slice A2 p.2.1.length c2, .int .i64 p.2.2.1, .int .i64 p.2.2.2] ∧ ownS 64 5 rMsg (base ≤ ·) w' base p.1 (.slice A p.1.length c) ∧ ownS 5 1 rByte (fun _ => False) w' base p.2.1 (.slice A2 p.2.1.length c2) ∧ p.1.length ≤ 20000 ∧ p.2.1.length ≤ 2065560
theorem PFeedO.none_ {base : Nat} {k code : Int} {w' : World} : PFeedO base ([], [], k, code) (.tuple #[.slice none 0 0, .slice none 0 0, .int .i64 k, .int .i64 code]) w' := ⟨none, 0, none, 0, rfl, ownS.nil_, ownS.nil_, by simp, by simp⟩
theorem PFeedO.read {base : Nat} {p : FeedRes} {v : Value} {w' : World} (h : PFeedO base p v w') :
    ∃ A c A2 c2, v = .tuple #[.slice A p.1.length c, .slice A2 p.2.1.length c2, .int .i64 p.2.2.1, .int .i64 p.2.2.2] ∧ rMsgs w' w'.heap.size p.1 [.slice A p.1.length c] ∧ rBytes w' w'.heap.size p.2.1 [.slice A2 p.2.1.length c2] := by
  obtain ⟨A, c, A2, c2, e, h1, h2, h3, h4⟩ := h
  exact ⟨A, c, A2, c2, e, ownS.toSl (bts := 64) h1 (by omega), ownS.toSl (bts := 1) h2 (by omega)⟩
theorem drop_headD {l : List UInt8} {k : Nat} {x : UInt8} (h : l[k]? = some x) : (l.drop k).headD 0 = x := by rw [drop_of h]; rfl

set_option maxHeartbeats 20000000 in
set_option maxRecDepth 100000 in
theorem feed_any (A1 A2 : Option Addr) (n1 c1 n2 c2 : Nat) (held b : List UInt8) (w : World) (h1 : rBytes w w.heap.size held [.slice A1 n1 c1]) (h2 : rBytes w w.heap.size b [.slice A2 n2 c2]) :
    Calls Tryd.prog 21 #[.slice A1 n1 c1, .slice A2 n2 c2] w (Ret (PFeedO w.heap.size (feed held b)) w) := by
  have hl1 := h1.len
  have hl2 := h2.len
  have hm1 := h1.le
  have hm2 := h2.le
  have H1 := Lib.hid h1
  have H2 := Lib.hid h2
  have L1 := Lib.hid hl1
  have L2 := Lib.hid hl2
  clear h1 h2 hl1 hl2
  obtain ⟨hm11, hm12, _⟩ := hm1
  obtain ⟨hm21, hm22, _⟩ := hm2
  by_cases hg1 : n1 > 65560
  · have hg1' : decide ((n1 : Int) > 65560) = true := by simp; omega
    have HF : Hid (feed held b = ([], [], 0, 2)) := by unfold feed; rw [if_pos (by rw [L1.out]; exact hg1)]; rfl
    go_enter Tryd.func21, Tryd.ntmps21
    go_wp2_with fail
    refine bodyPost_ret (v := .tuple #[.slice none 0 0, .slice none 0 0, .int .i64 0, .int .i64 2]) (by simp [results, Tryd.results21, go_sem]) rfl ?_
    refine ⟨_, rfl, Below.refl _ _, ?_⟩
    rw [HF.out]
    exact PFeedO.none_
  have hg1' : decide ((n1 : Int) > 65560) = false := by simp; omega
  by_cases hg2 : n2 > 2000000
  · have hg2' : decide ((n2 : Int) > 2000000) = true := by simp; omega
    have HF : Hid (feed held b = ([], [], 0, 2)) := by unfold feed; rw [if_neg (by rw [L1.out]; exact hg1), if_pos (by rw [L2.out]; exact hg2)]; rfl
    go_enter Tryd.func21, Tryd.ntmps21
    go_wp2_with fail
    refine bodyPost_ret (v := .tuple #[.slice none 0 0, .slice none 0 0, .int .i64 0, .int .i64 2]) (by simp [results, Tryd.results21, go_sem]) rfl ?_
    refine ⟨_, rfl, Below.refl _ _, ?_⟩
    rw [HF.out]
    exact PFeedO.none_
  have hg2' : decide ((n2 : Int) > 2000000) = false := by simp; omega
  have HF0 : Hid (feed held b = feedGo (held ++ b) (held ++ b).length [] 0) := by unfold feed; rw [if_neg (by rw [L1.out]; exact hg1), if_neg (by rw [L2.out]; exact hg2)]; rfl
  have hb00 : Below w.heap.size w (w.alloc (.cells #[.slice A1 n1 c1, .slice A2 n2 c2] 32)) := (Below.refl _ _).alloc (Nat.le_refl _) _
  have HLL : Hid (rSl 1 24 (rSl 1 1 rByte) (w.alloc (.cells #[.slice A1 n1 c1, .slice A2 n2 c2] 32)) (w.alloc (.cells #[.slice A1 n1 c1, .slice A2 n2 c2] 32)).heap.size [held, b] [.slice (some ⟨w.heap.size, 0, none⟩) 2 2]) := by
    refine ⟨some ⟨w.heap.size, 0, none⟩, 2, rfl, by simp, by decide, by simp, fun _ => ⟨w.heap.size, 0, rfl, by simp, fun k x hk => ?_⟩⟩
    match k, hk with
    | 0, hk =>
      simp at hk; subst hk
      refine ⟨[.slice A1 n1 c1], rfl, rSl.keep H1.out hb00 (by simp), fun j u hj => ?_⟩
      match j, hj with
      | 0, hj => simp at hj; subst hj; simp [go_sem]
    | 1, hk =>
      simp at hk; subst hk
      refine ⟨[.slice A2 n2 c2], rfl, rSl.keep H2.out hb00 (by simp), fun j u hj => ?_⟩
      match j, hj with
      | 0, hj => simp at hj; subst hj; simp [go_sem]
  have hfl : [held, b].flatten = held ++ b := by simp
  have hfn : (held ++ b).length = n1 + n2 := by simp [L1.out, L2.out]
  go_enter Tryd.func21, Tryd.ntmps21
  go_wp2_with fail
  refine (concatBytes_any _ _ _ _ _ _ HLL.out (Nat.le_refl _) (by rw [hfl, hfn]; omega) (by rw [hfl, hfn]; omega)).mono ?_
  rintro e w1 ⟨v1, rfl, hb1, ho1⟩
  rw [hfl] at ho1
  obtain ⟨Aa, ca, hv1⟩ := ho1.form
  rw [hfn] at hv1
  generalize hna : n1 + n2 = na at hv1 hfn
  have hna2 : na ≤ 2065560 := by omega
  subst hv1
  have hb01 : Below w.heap.size w w1 := hb00.trans (hb1.mono (by simp))
  have RA : Hid (rBytes w1 w1.heap.size (held ++ b) [.slice Aa na ca]) := ho1.toSl inferInstance (by simpa using hb1.size) (by omega)
  have hca := RA.out.le
  have LA := Lib.hid hfn
  generalize held ++ b = all at RA LA HF0
  have HF1 : Hid (FeedRel all (feed held b) [] 0) := ⟨all.length, by omega, by omega, HF0.out⟩
  obtain ⟨hca1, hca2, _⟩ := hca
  clear HLL hfl hfn ho1 hna hb1 HF0
  go_wp2_with fail
  go_loopw [9, 10] (fun ov kv wr => ∃ (k : Nat) (out : List Msg), kv = .int .i64 k ∧ k ≤ na ∧ out.length ≤ 20000 ∧ Below w1.heap.size w1 wr ∧ Hid (ownS 64 5 rMsg (w1.heap.size ≤ ·) wr w1.heap.size out ov) ∧ Hid (FeedRel all (feed held b) out k)) (fun _ kv _ => na - (intOf kv).toNat)
  case atStart => exact ⟨0, [], rfl, by omega, by simp, Below.refl _ _, ownS.nil_, HF1.out⟩
  case round =>
    obtain ⟨k, out, rfl, hk, hol, hbw, HO2, HG⟩ := hrel
    clear HF1
    have hzw := hbw.size
    have hov := HO2.out.form
    obtain ⟨Ao, co, hov⟩ := hov
    by_cases hlt : k < na
    rotate_left
    · have HF : Hid (feed held b = (out, all.drop k, 0, 0)) := HG.out.end_ (by rw [LA.out]; omega)
      clear hov
      have hk2 : na ≤ k := by omega
      obtain rfl : k = na := by omega
      have hcut := rBytes.cut1 (rSl.keep RA.out hbw hbw.size) (Nat.le_refl k) (Nat.le_refl _)
      obtain ⟨A9, hA9⟩ : ∃ A9, (if ca = k then Aa else Aa.map (·.add k)) = A9 := ⟨_, rfl⟩
      rw [hA9, Nat.sub_self, List.take_zero, ← List.drop_of_length_le (l := all) (i := k) (by rw [LA.out]; exact Nat.le_refl _)] at hcut
      have HCut := Lib.hid hcut
      clear hcut
      go_wp2_with fail
      refine (cloneBytes_any _ _ _ _ _ _ HCut.out (Nat.le_refl _)).mono ?_
      rintro e w5 ⟨v5, rfl, hb5, ho5⟩
      obtain ⟨A5, c5, rfl⟩ := ho5.form
      have hb51 := hbw.trans (hb5.mono hzw)
      have HM5 := Lib.hid (HO2.out.keep hb5)
      have HB5 : Hid (ownS 5 1 rByte (fun _ => False) w5 w.heap.size (all.drop k) (.slice A5 (all.drop k).length c5)) := ownS.mono (ho5.toP) (Nat.le_trans hb01.size hbw.size)
      obtain ⟨A6, c6, hv⟩ := HM5.out.form
      have HM6 : Hid (ownS 64 5 rMsg (w.heap.size ≤ ·) w5 w.heap.size out (u9)) := (HM5.out.mono hb01.size).sub (fun b hb => Nat.le_trans hb01.size hb)
      generalize hln : (all.drop k).length = ln at HB5
      subst hv
      have HLN := Lib.hid hln
      clear ho5 HM5 hA9 hln
      go_wp2_with fail
      refine bodyPost_ret (v := .tuple #[.slice A6 out.length c6, .slice A5 ln c5, .int .i64 0, .int .i64 0]) (by simp [results, Tryd.results21, go_sem]) rfl ?_
      refine ⟨_, rfl, (hb01.trans (hb51.mono hb01.size)), ?_⟩
      rw [HF.out]
      exact ⟨A6, c6, A5, c5, by rw [← HLN.out], HM6.out, by have h := HB5.out; rw [← HLN.out] at h; exact h, hol, by rw [List.length_drop, LA.out]; omega⟩
    obtain ⟨ba, oa, xk, rfl, hba, hxk, hck, hck1, hck2⟩ := rBytes_at (rSl.keep RA.out hbw hzw) hlt
    have hhd := drop_headD hxk
    by_cases hfull : out.length = 20000
    · have HF : Hid (feed held b = ([], [], (k : Int), 16)) := HG.out.full (by rw [LA.out]; exact hlt) hfull
      rw [hfull] at hov
      subst hov
      clear hhd hxk hfull
      go_wp2_with fail
      refine bodyPost_ret (v := .tuple #[.slice none 0 0, .slice none 0 0, .int .i64 k, .int .i64 16]) (by simp [results, Tryd.results21, go_sem]) rfl ?_
      refine ⟨_, rfl, (hb01.trans (hbw.mono hb01.size)), ?_⟩
      rw [HF.out]
      exact PFeedO.none_
    obtain ⟨no, hno⟩ : ∃ no, out.length = no := ⟨_, rfl⟩
    rw [hno] at hov
    subst hov
    have HNO := Lib.hid hno
    have hno2 : ((no : Int) == 20000) = false := by rw [beq_eq_false_iff_ne]; omega
    have hno3 : decide ((no : Int) ≥ 20000) = false := by simp; omega
    have HFU := Lib.hid hfull
    clear hno hfull
    cases hkd : inR (xk.toNat : Int) 1 6
    · have HF : Hid (feed held b = ([], [], (k : Int), 4)) := HG.out.kind (by rw [LA.out]; exact hlt) HFU.out (by rw [hhd]; exact hkd)
      clear hhd hxk
      go_wp2_with (go_at_call 28; refine (within_any _ _ _ _).mono ?_; rintro e w' ⟨rfl, rfl⟩)
      refine bodyPost_ret (v := .tuple #[.slice none 0 0, .slice none 0 0, .int .i64 k, .int .i64 4]) (by simp [results, Tryd.results21, go_sem]) rfl ?_
      refine ⟨_, rfl, (hb01.trans (hbw.mono hb01.size)), ?_⟩
      rw [HF.out]
      exact PFeedO.none_
    have HKD := Lib.hid (show inR ((all.drop k).headD 0).toNat 1 6 = true by rw [hhd]; exact hkd)
    clear hhd hxk
    by_cases hsh : na < k + 24
    · have HF : Hid (feed held b = (out, all.drop k, 0, 0)) := HG.out.short (by rw [LA.out]; exact hlt) HFU.out HKD.out (by rw [LA.out]; exact hsh)
      have hcut := rBytes.cut1 (rSl.keep RA.out hbw hbw.size) (show k ≤ na by omega) (Nat.le_refl _)
      rw [if_neg (by omega), Option.map_some, Addr.add_lit, List.take_of_length_le (by rw [List.length_drop, LA.out]; exact Nat.le_refl _)] at hcut
      have HCut := Lib.hid hcut
      have hA9 := hlt
      clear hcut
      go_wp2_with (go_at_call 28; refine (within_any _ _ _ _).mono ?_; rintro e w7 ⟨rfl, rfl⟩)
      refine (cloneBytes_any _ _ _ _ _ _ HCut.out (Nat.le_refl _)).mono ?_
      rintro e w5 ⟨v5, rfl, hb5, ho5⟩
      obtain ⟨A5, c5, rfl⟩ := ho5.form
      have hb51 := hbw.trans (hb5.mono hzw)
      have HM5 := Lib.hid (HO2.out.keep hb5)
      have HB5 : Hid (ownS 5 1 rByte (fun _ => False) w5 w.heap.size (all.drop k) (.slice A5 (all.drop k).length c5)) := ownS.mono (ho5.toP) (Nat.le_trans hb01.size hbw.size)
      have HM5l := HM5.out.len
      have HM6 : Hid (ownS 64 5 rMsg (w.heap.size ≤ ·) w5 w.heap.size out ((.slice Ao no co))) := (HM5.out.mono hb01.size).sub (fun b hb => Nat.le_trans hb01.size hb)
      generalize hln : (all.drop k).length = ln at HB5
      subst HM5l
      have HLN := Lib.hid hln
      clear ho5 HM5 hA9 hln
      go_wp2_with fail
      refine bodyPost_ret (v := .tuple #[.slice Ao out.length co, .slice A5 ln c5, .int .i64 0, .int .i64 0]) (by simp [results, Tryd.results21, go_sem]) rfl ?_
      refine ⟨_, rfl, (hb01.trans (hb51.mono hb01.size)), ?_⟩
      rw [HF.out]
      exact ⟨Ao, co, A5, c5, by rw [← HLN.out], HM6.out, by have h := HB5.out; rw [← HLN.out] at h; exact h, hol, by rw [List.length_drop, LA.out]; omega⟩
    obtain ⟨⟨⟨kd, dg, f, s, bs0⟩, many⟩, hH⟩ : ∃ h, headOfL (all.drop k) = h := ⟨_, rfl⟩
    have hbd := headOfL_bd (all.drop k)
    have hmany : manyOf (all.drop k) = many := by unfold manyOf; rw [hH]
    have hcodeE : headCode (all.drop k) = msgCode kd dg f s many := by unfold headCode; rw [hH]
    have hfm : feedMsg all k = (kd, dg, f, s, (all.drop (k + 24)).take many) := by unfold feedMsg withBytes; rw [hmany, hH]
    rw [hmany] at hbd
    rw [hH] at hbd
    simp only at hbd
    obtain ⟨hd1, hd2, hd3, hd4, hd5, hd6, hd7, hd8⟩ := hbd
    have hds : dg.size ≤ 140737488355328 := by omega
    have hcut := rBytes.cut1 (rSl.keep RA.out hbw hbw.size) (show k ≤ na by omega) (Nat.le_refl _)
    rw [if_neg (by omega), Option.map_some, Addr.add_lit, List.take_of_length_le (by rw [List.length_drop, LA.out]; exact Nat.le_refl _)] at hcut
    have hcon := head_any _ _ _ _ _ _ hcut (Nat.le_refl _) (by omega)
    rw [hH] at hcon
    have HCon := Lib.hid hcon
    have HH := Lib.hid hH
    have HMA := Lib.hid hmany
    have HCE := Lib.hid hcodeE
    have HFM := Lib.hid hfm
    clear hcut hcon hH hmany hcodeE hfm
    go_wp2_with (go_at_call 28; refine (within_any _ _ _ _).mono ?_; rintro e w7 ⟨rfl, rfl⟩)
    refine HCon.out.mono ?_
    rintro e w2 ⟨rfl, hb2⟩
    have hzw2 := hb2.size
    have hbwa : Below w1.heap.size w1 w2 := hbw.trans (hb2.mono hzw)
    by_cases h4 : msgCode kd dg f s many = 0
    rotate_left
    · have HF : Hid (feed held b = ([], [], (k : Int), msgCode kd dg f s many)) := by have := HG.out.bad (by rw [LA.out]; exact hlt) HFU.out HKD.out (by rw [LA.out]; exact hsh) (by rw [HCE.out]; exact h4); rw [HCE.out] at this; exact this
      have h4' : (msgCode kd dg f s many != 0) = true := by simpa using h4
      clear h4
      go_wp2_with fail
      refine (checkMessage_any kd f s many dg none 0 0 _ hds).mono ?_
      rintro e w3 ⟨rfl, hb3⟩
      go_wp2_with fail
      refine bodyPost_ret (v := .tuple #[.slice none 0 0, .slice none 0 0, .int .i64 k, .int .i64 (msgCode kd dg f s many)]) (by simp [results, Tryd.results21, go_sem]) rfl ?_
      refine ⟨_, rfl, (hb01.trans ((hbwa.trans (((Below.refl _ _).alloc hbwa.size _).trans (hb3.mono (by simp; omega)))).mono hb01.size)), ?_⟩
      rw [HF.out]
      exact PFeedO.none_
    have h4' : (msgCode kd dg f s many != 0) = false := by simp [h4]
    have H4 := Lib.hid h4
    clear h4
    go_wp2_with fail
    refine (checkMessage_any kd f s many dg none 0 0 _ hds).mono ?_
    rintro e w3 ⟨rfl, hb3⟩
    have hbw : Below w1.heap.size w1 w3 := hbwa.trans (((Below.refl _ _).alloc hbwa.size _).trans (hb3.mono (by simp; omega)))
    have hmb : blk w3 w2.heap.size 64 [.int .i64 kd, .string dg, .int .i64 f, .int .i64 s, .slice none 0 0] := (blk_alloc rfl).below hb3 (by simp)
    have hmc : ∀ i, w3.cell? ⟨w2.heap.size, i, none⟩ = ([.int .i64 kd, .string dg, .int .i64 f, .int .i64 s, .slice none 0 0] : List Value)[i]? := fun i => hmb.cell i
    have hmf : ∀ i, w3.frozen? ⟨w2.heap.size, i, none⟩ = false := fun i => hmb.free i
    have hz3 : w2.heap.size < w3.heap.size := hmb.lt
    have hzw3 := hbw.size
    have HOa := Lib.hid (HO2.out.keep hb2)
    have hb23 : Below w2.heap.size w2 w3 := ((Below.refl _ _).alloc (Nat.le_refl _) _).trans (hb3.mono (by simp))
    have HO2 := Lib.hid (HOa.out.keep hb23)
    clear hb2 hb3
    by_cases h5 : na < k + 24 + many
    · have HF : Hid (feed held b = (out, all.drop k, 0, 0)) := HG.out.cut (by rw [LA.out]; exact hlt) HFU.out HKD.out (by rw [LA.out]; exact hsh) (by rw [HCE.out]; exact H4.out) (by rw [LA.out, HMA.out]; exact h5)
      have hcut := rBytes.cut1 (rSl.keep RA.out hbw hbw.size) (show k ≤ na by omega) (Nat.le_refl _)
      rw [if_neg (by omega), Option.map_some, Addr.add_lit, List.take_of_length_le (by rw [List.length_drop, LA.out]; exact Nat.le_refl _)] at hcut
      have HCut := Lib.hid hcut
      have hA9 := hlt
      clear hcut
      go_wp2_with fail
      refine (cloneBytes_any _ _ _ _ _ _ HCut.out (Nat.le_refl _)).mono ?_
      rintro e w5 ⟨v5, rfl, hb5, ho5⟩
      obtain ⟨A5, c5, rfl⟩ := ho5.form
      have hb51 := hbw.trans (hb5.mono hzw3)
      have HM5 := Lib.hid (HO2.out.keep hb5)
      have HB5 : Hid (ownS 5 1 rByte (fun _ => False) w5 w.heap.size (all.drop k) (.slice A5 (all.drop k).length c5)) := ownS.mono (ho5.toP) (Nat.le_trans hb01.size hbw.size)
      have HM5l := HM5.out.len
      have HM6 : Hid (ownS 64 5 rMsg (w.heap.size ≤ ·) w5 w.heap.size out ((.slice Ao no co))) := (HM5.out.mono hb01.size).sub (fun b hb => Nat.le_trans hb01.size hb)
      generalize hln : (all.drop k).length = ln at HB5
      subst HM5l
      have HLN := Lib.hid hln
      clear ho5 HM5 hA9 hln
      go_wp2_with fail
      refine bodyPost_ret (v := .tuple #[.slice Ao out.length co, .slice A5 ln c5, .int .i64 0, .int .i64 0]) (by simp [results, Tryd.results21, go_sem]) rfl ?_
      refine ⟨_, rfl, (hb01.trans (hb51.mono hb01.size)), ?_⟩
      rw [HF.out]
      exact ⟨Ao, co, A5, c5, by rw [← HLN.out], HM6.out, by have h := HB5.out; rw [← HLN.out] at h; exact h, hol, by rw [List.length_drop, LA.out]; omega⟩
    have HN := Lib.hid (HG.out.next (by rw [LA.out]; exact hlt) HFU.out HKD.out (by rw [LA.out]; exact hsh) (by rw [HCE.out]; exact H4.out) (by rw [LA.out, HMA.out]; exact h5))
    rw [HMA.out, HFM.out] at HN
    by_cases h6 : many = 0
    · subst h6
      have h4b : (msgCode kd dg f s 0 != 0) = false := h4'
      go_wp2_with (at_builtin; go_must (refine wpList_push (bts := 64) (v := .slice Ao no co) el_msg rfl _ _ rfl rfl HO2.out rfl rfl rfl (by simp [Value.oneCell']) (kd, dg, f, s, (all.drop (k + 24)).take 0) (msg_held hds (by omega) (by omega) (by omega) (fun _ _ _ => rSl.nil_)) (by unfold maxLen; have := HNO.out; omega) (by have := HNO.out; omega) hzw3 ?_); intro g3 cap3 w4 ho hgr hzz)
      have hbw4 : Below w1.heap.size w1 w4 := hbw.grown hgr hzw3 (fun g hg => (HO2.out.block g hg).1)
      have HO4 := Lib.hid ho
      clear ho hgr
      go_wp2_with fail
      go_roundw
      case rel => exact ⟨k + 24 + 0, _, by simp, by omega, by have := HFU.out; simp; omega, hbw4, HO4.out, HN.out⟩
      case measure => simp [intOf]; omega
    · have h6' : 0 < many := by omega
      have e1 : ((k : Int) + 24).toNat = k + 24 := by omega
      have e2 : ((k : Int) + 24 + many).toNat = k + 24 + many := by omega
      have e3 : k + 24 + many - (k + 24) = many := by omega
      have hcut := rBytes.cut1 (rSl.keep RA.out hbw hbw.size) (show k + 24 ≤ k + 24 + many by omega) (show k + 24 + many ≤ na by omega)
      rw [if_neg (by omega), Option.map_some, Addr.add_lit, e3] at hcut
      have HCut := Lib.hid hcut
      clear hcut h6
      go_wp2_with fail
      refine (cloneBytes_any _ _ _ _ _ _ HCut.out (Nat.le_refl _)).mono ?_
      rintro e w5 ⟨v5, rfl, hb5, ho5⟩
      have hl5 := HCut.out.len
      obtain ⟨A5, c5, rfl⟩ := ho5.form
      rw [hl5] at ho5 ⊢
      have hmc5 : ∀ i, w5.cell? ⟨w2.heap.size, i, none⟩ = ([.int .i64 kd, .string dg, .int .i64 f, .int .i64 s, .slice none 0 0] : List Value)[i]? := fun i => (hb5.cell (p := ⟨w2.heap.size, i, none⟩) hz3).trans (hmc i)
      have hmf5 : ∀ i, w5.frozen? ⟨w2.heap.size, i, none⟩ = false := fun i => (hb5.frozen (p := ⟨w2.heap.size, i, none⟩) hz3).trans (hmf i)
      have hzw5 := hb5.size
      have hbw5 : Below w1.heap.size w1 w5 := hbw.trans (hb5.mono hzw3)
      have hgs : w5.grownBy (w5.setCell ⟨w2.heap.size, 4, none⟩ (.slice A5 many c5)) (some w2.heap.size) := grown_set grown_refl
      have hbw6 : Below w1.heap.size w1 (w5.setCell ⟨w2.heap.size, 4, none⟩ (.slice A5 many c5)) := hbw5.grown hgs hbw5.size (by intro q hq; cases hq; exact hbwa.size)
      have HO5 : Hid (ownS 64 5 rMsg (w1.heap.size ≤ ·) (w5.setCell ⟨w2.heap.size, 4, none⟩ (.slice A5 many c5)) w1.heap.size out (.slice Ao no co)) :=
        HOa.out.keep ((hb23.trans (hb5.mono (by omega))).setCell (Nat.le_refl _) _)
      have HY : Hid (Held rBytes (fun b => b < w5.heap.size ∧ w3.heap.size ≤ b) w5 w5.heap.size ((all.drop (k + 24)).take many) [.slice A5 many c5]) :=
        (ho5.toP (T := fun _ => False) |>.toHeld (bts := 1) (by rw [hl5]; omega)).mono (fun q hq => ⟨hq.1, hq.2.elim (fun h => h.elim) id⟩)
      clear ho5 hb5 hmc hmf
      go_wp2_with (at_builtin; go_loud (refine wpList_push (bts := 64) (v := .slice Ao no co) el_msg rfl _ _ rfl rfl HO5.out rfl (by simp) rfl (by simp [Value.oneCell']) (kd, dg, f, s, (all.drop (k + 24)).take many) ?_ (by unfold maxLen; have := HNO.out; omega) (by have := HNO.out; omega) (by simp; omega) ?_; rotate_left; intro g3 cap3 w4 ho hgr hzz))
      · have hbw4 : Below w1.heap.size w1 w4 := hbw6.grown hgr hbw6.size (fun g hg => (HO5.out.block g hg).1)
        have HO4 := Lib.hid ho
        clear ho hgr
        go_wp2_with fail
        go_roundw
        case rel => exact ⟨k + 24 + many, _, by go_num, by omega, by have := HFU.out; simp; omega, hbw4, HO4.out, HN.out⟩
        case measure => simp [intOf]; omega
      · refine msg_held hds (by omega) (by omega) (by omega) (((HY.out.move (grown_zero hgs) fun q hq => hgs.block q hq.1 (fun e => by cases e; omega)).mono fun q hq => ⟨by omega, by simpa using hq.1, fun e => ?_⟩).up (by simp))
        have := (HOa.out.block q e).2
        omega
end Go.Proofs.YteoojplgchlhcaaDoor
