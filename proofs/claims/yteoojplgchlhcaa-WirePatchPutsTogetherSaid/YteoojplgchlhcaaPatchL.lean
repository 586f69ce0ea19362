/-
  slices.Clone at ints, Below, the law WirePatchPutsTogether.
-/
import Derived.Test.YteoojplgchlhcaaPatch
namespace Go.Proofs.Yteoojplgchlhcaa
open Go.RowKit
set_option linter.unusedVariables false
set_option linter.unusedSimpArgs false

instance : OneCells rBytes := inferInstanceAs (OneCells (rSl 1 1 rByte))

/-- The reference's Below: the remainder from 0 on. -/
theorem below_any (x n : Int) (w : World) (hx : -9223372036854775808 ≤ x ∧ x ≤ 9223372036854775807) (hn : 1 ≤ n ∧ n ≤ 9223372036854775807) :
    Calls Try.prog 20 #[.int .i64 x, .int .i64 n] w fun e w' => e = .returned (.int .i64 (x % n)) ∧ w = w' := by
  obtain ⟨hx1, hx2⟩ := hx
  obtain ⟨hn1, hn2⟩ := hn
  have hb : -n < x.tmod n ∧ x.tmod n < n ∧ (x.tmod n < 0 → x.tmod n + n = x % n) ∧ (0 ≤ x.tmod n → x.tmod n = x % n) := by
    have e1 := Int.emod_nonneg x (show n ≠ 0 by omega)
    have e2 := Int.emod_lt_of_pos x (show 0 < n by omega)
    have e3 := @Int.tmod_eq_emod x n
    have e4 : ((n.natAbs : Nat) : Int) = n := by omega
    by_cases h : 0 ≤ x ∨ n ∣ x
    · rw [if_pos h] at e3; omega
    · have h2 : x % n ≠ 0 := fun h3 => h (Or.inr (Int.dvd_of_emod_eq_zero h3))
      rw [if_neg h, e4] at e3
      omega
  obtain ⟨b1, b2, b3, b4⟩ := hb
  have B3 := Lib.hid b3
  have B4 := Lib.hid b4
  clear b3 b4
  go_enter Try.func20, Try.ntmps20
  go_wp2_with fail
  · go_ret
    have h : x.tmod n < 0 := by assumption
    exact ⟨by rw [← B3.out h]; rfl, rfl⟩
  · go_ret
    have h : 0 ≤ x.tmod n := by assumption
    exact ⟨by rw [← B4.out h]; rfl, rfl⟩

theorem ownSl_lit0 {α : Type} {R : Rep α} {w : World} {e : TypeId} {sz base B : Nat} (hb : base ≤ w.heap.size) : ownSl e sz R (w.alloc (.cells #[] e)) base B [] (.slice (some ⟨w.heap.size, 0, none⟩) 0 0) :=
  ⟨[], ⟨by simp, .inr ⟨w.heap.size, 0, #[], rfl, hb, heap_alloc_new w _, by simp, by decide, by simp, by simp⟩⟩, fun k x h => by simp at h⟩

theorem cloneInts_any (A : Option Addr) (n c : Nat) (l : List Int) (w : World) (hR : rInts w w.heap.size l [.slice A n c]) :
    Calls Try.prog 19 #[.slice A n c] w (Ret (fun v w' => ownSl 3 1 (rI .i64) w' w.heap.size w.heap.size l v) w) := by
  have HR := Lib.hid hR
  have hcm := hR.le
  have hln := hR.len
  have HL := Lib.hid hln
  clear hR hln
  obtain ⟨hcm1, hcm2, hcm3⟩ := hcm
  have hnil := fun (w : World) (A : Option Addr) (n c : Nat) => Lib.run_eql_slice_nil (P := Try.prog) w 25 3 A n c 0 0 Try.underlying25
  rcases A with _ | a
  · have hn0 : n = 0 := by
      obtain ⟨_, _, _, h4, _⟩ := HR.out.cellsOf (by decide)
      exact h4 rfl
    go_enter Try.func19, Try.ntmps19
    go_wp2_with fail
    go_ret
    have hl0 : l = [] := List.eq_nil_of_length_eq_zero (by rw [HL.out]; exact hn0)
    refine ⟨_, rfl, Below.refl _ _, ?_⟩
    rw [hl0]
    exact ownSl.nil_
  · go_enter Try.func19, Try.ntmps19
    have hb1 : Below w.heap.size w (w.alloc (.cells #[] 3)) := (Below.refl _ _).alloc (Nat.le_refl _) _
    have HS := Lib.hid (rSl.keep HR.out hb1 (Nat.le_refl _))
    have HO := Lib.hid (ownSl_lit0 (R := rI .i64) (w := w) (e := 3) (sz := 1) (B := w.heap.size) (Nat.le_refl _))
    go_wp2_with (at_builtin; go_loud (refine wpList_append_sl el_int inferInstance inferInstance rfl _ _ rfl rfl HO.out rfl (rSl.src HS.out (by decide)) (by unfold maxLen; simp; omega) (by simp; omega) (by simp) (Nat.le_refl _) ?_); intro v' w1 ho hbe _)
    go_ret
    exact ⟨_, rfl, hb1.trans hbe, by simpa using ho⟩

/-! ### The plain law: chunks of b put together are b -/
def Cons (b : List UInt8) (st : List (Option UInt8)) : Prop := st.length = b.length ∧ ∀ (i : Nat) (o : Option UInt8), st[i]? = some o → o = none ∨ o = b[i]?
theorem putB_cons {b : List UInt8} {st : List (Option UInt8)} {k : Nat} {c : UInt8} (h : Cons b st) (hc : b[k]? = some c) :
    putB st k c = some (st.set k (some c)) ∧ Cons b (st.set k (some c)) := by
  constructor
  · unfold putB
    split
    · rename_i d hd
      rcases h.2 k _ hd with h1 | h1
      · cases h1
      · rw [hc] at h1; injection h1 with h1
        rw [if_pos h1]
    · rfl
  · refine ⟨by simp [h.1], fun i o hi => ?_⟩
    rw [List.getElem?_set] at hi
    split at hi
    · rename_i e
      subst e
      split at hi
      · cases hi; right; rw [hc]
      · cases hi
    · exact h.2 i o hi
theorem putBs_cons {b : List UInt8} : ∀ (bs : List UInt8) (k : Nat) (st : List (Option UInt8)), Cons b st → (∀ (j : Nat) (c : UInt8), bs[j]? = some c → b[k + j]? = some c) →
    ∃ st', putBs st k bs = some st' ∧ Cons b st' ∧ ∀ (i : Nat), (st[i]? ≠ some none ∨ (k ≤ i ∧ i < k + bs.length)) → st'[i]? ≠ some none := by
  intro bs
  induction bs with
  | nil =>
    intro k st h _
    refine ⟨st, rfl, h, fun i hi => ?_⟩
    rcases hi with hi | hi
    · exact hi
    · simp at hi; omega
  | cons c r ih =>
    intro k st h hb
    have hc := hb 0 c rfl
    rw [Nat.add_zero] at hc
    obtain ⟨p1, p2⟩ := putB_cons h hc
    obtain ⟨st', q1, q2, q3⟩ := ih (k + 1) (st.set k (some c)) p2 (fun j d hj => by have := hb (j + 1) d (by simpa using hj); rwa [show k + (j + 1) = k + 1 + j by omega] at this)
    refine ⟨st', by rw [putBs, p1]; exact q1, q2, fun i hi => q3 i ?_⟩
    have hk : k < b.length := (List.getElem?_eq_some_iff.1 hc).1
    by_cases hik : i = k
    · subst hik
      left
      rw [List.getElem?_set_self (by rw [h.1]; exact hk)]
      simp
    · rcases hi with hi | hi
      · left
        rw [List.getElem?_set_ne (by omega)]; exact hi
      · right; simp at hi; omega
def ChunkOf (b : List UInt8) (x : Int × List UInt8) : Prop := ∃ f : Nat, x.1 = f ∧ f + x.2.length ≤ b.length ∧ ∀ (j : Nat) (c : UInt8), x.2[j]? = some c → b[f + j]? = some c
def covers (P : List (Int × List UInt8)) (i : Nat) : Prop := ∃ x ∈ P, x.1 ≤ i ∧ (i : Int) < x.1 + x.2.length
theorem putAll_cons {b : List UInt8} : ∀ (P : List (Int × List UInt8)) (st : List (Option UInt8)), Cons b st → (∀ x ∈ P, ChunkOf b x) →
    ∃ st', putAll st P = some st' ∧ Cons b st' ∧ ∀ (i : Nat), (st[i]? ≠ some none ∨ covers P i) → st'[i]? ≠ some none := by
  intro P
  induction P with
  | nil =>
    intro st h _
    refine ⟨st, rfl, h, fun i hi => ?_⟩
    rcases hi with hi | ⟨x, hx, _⟩
    · exact hi
    · cases hx
  | cons x r ih =>
    intro st h hP
    obtain ⟨f, hf, hl, hc⟩ := hP x (by simp)
    obtain ⟨st1, p1, p2, p3⟩ := putBs_cons x.2 f st h hc
    obtain ⟨st2, q1, q2, q3⟩ := ih st1 p2 (fun y hy => hP y (by simp [hy]))
    refine ⟨st2, by rw [putAll, hf, Int.toNat_natCast, p1]; exact q1, q2, fun i hi => q3 i ?_⟩
    rcases hi with hi | ⟨y, hy, h1, h2⟩
    · exact .inl (p3 i (.inl hi))
    · rcases List.mem_cons.1 hy with rfl | hy
      · exact .inl (p3 i (.inr (by omega)))
      · exact .inr ⟨y, hy, h1, h2⟩
theorem patch_whole {b : List UInt8} {P : List (Int × List UInt8)} (hb : b.length ≤ 2000000) (hP : P.length ≤ 20000) (hc : ∀ x ∈ P, ChunkOf b x) (hv : ∀ i, i < b.length → covers P i) : patch P b.length = (b, 0) := by
  have h0 : Cons b (List.replicate b.length none) := ⟨by simp, fun i o hi => by
    left
    have := List.mem_of_getElem? hi
    simpa using (List.eq_of_mem_replicate this)⟩
  obtain ⟨st, p1, p2, p3⟩ := putAll_cons P _ h0 hc
  have hall : P.all (chunkOk b.length) = true := by
    rw [List.all_eq_true]
    intro x hx
    obtain ⟨f, h1, h2, _⟩ := hc x hx
    simp [chunkOk, inR, h1]; omega
  have hsome : ∀ i, i < b.length → st[i]? = some (b[i]?) := by
    intro i hi
    obtain ⟨o, ho⟩ : ∃ o, st[i]? = some o := ⟨_, List.getElem?_eq_getElem (by rw [p2.1]; exact hi)⟩
    have h1 := p3 i (.inr (hv i hi))
    rcases p2.2 i o ho with rfl | rfl
    · exact absurd ho h1
    · exact ho
  have hnone : st.contains none = false := by
    rw [Bool.eq_false_iff]
    intro h
    have h' : none ∈ st := by simpa using h
    obtain ⟨i, hi, he⟩ := List.mem_iff_getElem.1 h'
    have hib : i < b.length := by rw [← p2.1]; exact hi
    have h2 := hsome i hib
    rw [List.getElem?_eq_getElem hi, he, List.getElem?_eq_getElem hib] at h2
    simp at h2
  have hout : stOut st = b := by
    refine eq_of_prefix (by simp [stOut, p2.1]) (fun i hi => ?_)
    have hib : i < b.length := by simpa [stOut, p2.1] using hi
    simp [stOut, hsome i hib, List.getElem?_eq_getElem hib]
  unfold patch
  rw [if_neg (by simp [inR]; omega), if_neg (by omega), if_neg (by rw [hall]; simp), Int.toNat_natCast, p1]
  simp only [hnone, hout]
  simp

theorem el_chunk : ElemOk Try.prog 42 46 2 32 := .mk' (z := .agg #[.int .i64 0, .slice none 0 0]) Try.underlying42 (by kernel_rfl) rfl (by decide)

/-- What the law's loop keeps: the chunks so far, behind one another, and how far they reach. -/
def Tiled (b : List UInt8) (P : List (Int × List UInt8)) (at_ : Nat) : Prop := (∀ x ∈ P, ChunkOf b x) ∧ (∀ i, i < at_ → covers P i)
theorem Tiled.step {b : List UInt8} {P : List (Int × List UInt8)} {at_ f t : Nat} (h : Tiled b P at_) (h1 : f ≤ at_) (h2 : at_ ≤ t) (h3 : t ≤ b.length) : Tiled b (((f : Int), (b.drop f).take (t - f)) :: P) t := by
  have hlen : ((b.drop f).take (t - f)).length = t - f := by rw [List.length_take, List.length_drop]; omega
  refine ⟨fun x hx => ?_, fun i hi => ?_⟩
  · rcases List.mem_cons.1 hx with rfl | hx
    · refine ⟨f, rfl, by rw [hlen]; omega, fun j c hj => ?_⟩
      rw [List.getElem?_take] at hj
      split at hj
      · rwa [List.getElem?_drop] at hj
      · cases hj
    · exact h.1 x hx
  · by_cases hia : i < at_
    · obtain ⟨x, hx, a⟩ := h.2 i hia
      exact ⟨x, by simp [hx], a⟩
    · exact ⟨_, List.mem_cons_self, by simp; omega, by rw [hlen]; omega⟩

theorem ownSl.mono {α : Type} {R : Rep α} {w : World} {e : TypeId} {sz base base' B : Nat} {l : List α} {v : Value} (h : ownSl e sz R w base B l v) (hb : base' ≤ base) : ownSl e sz R w base' B l v := by
  obtain ⟨xs, ⟨h1, h2⟩, h3⟩ := h
  refine ⟨xs, ⟨h1, ?_⟩, h3⟩
  rcases h2 with h2 | ⟨g, cap, cur, hv, hg, r⟩
  · exact .inl h2
  · exact .inr ⟨g, cap, cur, hv, by omega, r⟩
theorem ownSl_lit1 {α : Type} {R : Rep α} {w : World} {e : TypeId} {sz base B : Nat} (hb : base ≤ w.heap.size) {x : α} {cs : Array Value} (hs : cs.size = sz) (hx : R (w.alloc (.cells cs e)) B x cs.toList) : ownSl e sz R (w.alloc (.cells cs e)) base B [x] (.slice (some ⟨w.heap.size, 0, none⟩) 1 1) := by
  refine ⟨cs.toList, ⟨by simp [hs], .inr ⟨w.heap.size, 1, cs, rfl, hb, heap_alloc_new w _, by simp, by decide, by simp [hs], ?_⟩⟩, fun k y h => ?_⟩
  · rw [List.take_of_length_le (by simp [hs])]
  · have hk : k = 0 := by
      have := (List.getElem?_eq_some_iff.1 h).1
      simp at this; exact this
    subst hk
    simp at h
    subst h
    exact ⟨cs.toList, by simp [hs], hx, fun j u hj => by simpa using hj⟩

set_option maxHeartbeats 4000000 in
set_option maxRecDepth 100000 in
theorem patchPuts_any (A1 A2 : Option Addr) (n1 c1 n2 c2 : Nat) (b : List UInt8) (cuts : List Int) (w : World) (h1 : rBytes w w.heap.size b [.slice A1 n1 c1]) (h2 : rInts w w.heap.size cuts [.slice A2 n2 c2]) :
    Calls Try.prog 6 #[.slice A1 n1 c1, .slice A2 n2 c2] w fun e w' => e = .returned (.bool true) ∧ Below w.heap.size w w' := by
  have hm1 := h1.le
  have hm2 := h2.le
  have hl1 := h1.len
  have hl2 := h2.len
  have H1 := Lib.hid h1
  have H2 := Lib.hid h2
  have L1 := Lib.hid hl1
  have L2 := Lib.hid hl2
  clear h1 h2 hl1 hl2
  obtain ⟨hm11, hm12, _⟩ := hm1
  obtain ⟨hm21, hm22, _⟩ := hm2
  by_cases hb1 : n1 > 2000000
  · go_enter Try.func6, Try.ntmps6
    have hd : decide ((n1 : Int) > 2000000) = true := by simp; omega
    go_wp2_with (go_at_call 10; refine (awake_any _).mono ?_; rintro e w5 ⟨rfl, hb5⟩)
    go_ret
    exact ⟨rfl, hb5⟩
  have hd1 : decide ((n1 : Int) > 2000000) = false := by simp; omega
  by_cases hb2 : n2 > 1000
  · go_enter Try.func6, Try.ntmps6
    have hd : decide ((n2 : Int) > 1000) = true := by simp; omega
    go_wp2_with (go_at_call 10; refine (awake_any _).mono ?_; rintro e w5 ⟨rfl, hb5⟩)
    go_ret
    exact ⟨rfl, hb5⟩
  have hd2 : decide ((n2 : Int) > 1000) = false := by simp; omega
  go_enter Try.func6, Try.ntmps6
  go_wp2_with fail
  have hb0 : Below w.heap.size w (w.alloc (.cells #[] 46)) := (Below.refl _ _).alloc (Nat.le_refl _) _
  have HO := Lib.hid (ownSl_lit0 (R := rPair (rI .i64) rBytes) (w := w) (e := 46) (sz := 2) (B := w.heap.size) (Nat.le_refl _))
  refine (cloneInts_any _ _ _ _ _ (rSl.keep H2.out hb0 (by simp))).mono ?_
  rintro e w1 ⟨v, rfl, hbe, hcl⟩
  have HCL := Lib.hid hcl
  have hsz1 := hbe.size
  have hbw : Below w.heap.size w w1 := hb0.trans (hbe.mono (by simp))
  simp only [World.size_alloc] at hsz1
  have hfree : w.heap.size + 1 ≤ w1.heap.size := hsz1
  have HO1 := Lib.hid (HO.out.keep hbe (by simp))
  clear hcl hb0 HO hbe hsz1
  go_wp2_with (at_builtin; go_loud (refine wpList_append1_own el_int inferInstance rfl _ _ rfl rfl HCL.out rfl rfl rfl (by simp [Value.oneCell']) (-1) ⟨rfl, by decide⟩ (by rw [L2.out]; unfold maxLen; omega) (by rw [L2.out]; omega) (by simpa using hfree) (Nat.le_refl _) ?_); intro v2 w2 ho hbe hzz; obtain ⟨A3, c3, hv⟩ := ho.form; rw [show (cuts ++ [(-1 : Int)]).length = n2 + 1 by simp [L2.out]] at hv; subst hv)
  have hbw2 : Below w.heap.size w w2 := hbw.trans (hbe.mono (by simp))
  have hln : (cuts ++ [(-1 : Int)]).length = n2 + 1 := by simp [L2.out]
  have HLs : Hid (rInts w2 w2.heap.size (cuts ++ [-1]) [.slice A3 (n2 + 1) c3]) := ho.toSl inferInstance (by have := hbw.size; simp; omega) (by rw [hln]; omega)
  have HPs : Hid (ownSl 46 2 (rPair (rI .i64) rBytes) w2 w.heap.size w.heap.size [] (.slice (some ⟨w.heap.size, 0, none⟩) 0 0)) := by
    obtain ⟨xs, ⟨q1, q2⟩, q3⟩ := HO1.out
    refine ⟨xs, ⟨q1, ?_⟩, fun k x h => by simp at h⟩
    rcases q2 with q2 | ⟨g, cap, cur, hv, hg, hh, r⟩
    · exact .inl q2
    · refine .inr ⟨g, cap, cur, hv, hg, ?_, r⟩
      injection hv with hv _ _
      injection hv with hv
      injection hv with hv _ _
      subst hv
      rw [hbe.block _ (by simp)]; exact hh
  have HLn := Lib.hid hln
  have hw2 : w.heap.size < w2.heap.size := by omega
  clear ho hln HO1 HCL hbe hbw hzz hfree
  go_loopw [5, 6, 28] (fun pv av i wr => ∃ (k a : Nat) (P : List (Int × List UInt8)), k ≤ n2 + 1 ∧ i = .int .i64 k ∧ av = .int .i64 a ∧ a ≤ n1 ∧ Below w2.heap.size w2 wr ∧ Hid (ownSl 46 2 (rPair (rI .i64) rBytes) wr w.heap.size w.heap.size P pv) ∧
    Hid (Tiled b P a ∧ P.length = k ∧ (k = n2 + 1 → a = n1))) (fun _ _ i _ => n2 + 1 - (intOf i).toNat)
  case atStart => exact ⟨0, 0, [], by omega, rfl, rfl, by omega, Below.refl _ _, HPs.out, ⟨fun x hx => (by cases hx), fun i hi => absurd hi (by omega)⟩, rfl, by omega⟩
  case round =>
    obtain ⟨k, a, P, hk, rfl, rfl, ha, hbr, HP, HT⟩ := hrel
    clear HPs
    have hbrw : Below w.heap.size w wr := hbw2.trans (hbr.mono (by omega))
    have hbz := hbr.size
    by_cases hlt : k < n2 + 1
    · obtain ⟨b', o', x, rfl, hb', hx, hx1, hx2, hx3⟩ := rInts_at (rSl.keep HLs.out hbr (Nat.le_refl _)) hlt
      have Hx := Lib.hid hx
      clear hx
      have hbz2 : b' < wr.heap.size := by omega
      have hlt2 : (k : Int) < (n2 : Int) + 1 := by omega
      have g3 : 0 ≤ x % 3 ∧ x % 3 ≤ 2 := by omega
      obtain ⟨g31, g32⟩ := g3
      have hmx := @run_max_int Try.prog
      by_cases hx0 : 0 ≤ x
      · have g4 : 0 ≤ x % ((n1 : Int) - a + 1) ∧ x % ((n1 : Int) - a + 1) < (n1 : Int) - a + 1 := ⟨Int.emod_nonneg _ (by omega), Int.emod_lt_of_pos _ (by omega)⟩
        obtain ⟨g41, g42⟩ := g4
        go_upto_region 12 with (first | (go_at_call 20; refine (below_any _ _ _ (by omega) (by omega)).mono ?_; rintro e w' ⟨rfl, rfl⟩))
        obtain ⟨T, hT⟩ : ∃ T : Nat, (a : Int) + x % ((n1 : Int) - a + 1) = T := ⟨((a : Int) + x % ((n1 : Int) - a + 1)).toNat, by omega⟩
        obtain ⟨F, hF⟩ : ∃ F : Nat, max 0 ((a : Int) - x % 3) = F := ⟨(max 0 ((a : Int) - x % 3)).toNat, by omega⟩
        have hTF : F ≤ a ∧ a ≤ T ∧ T ≤ n1 := by omega
        simp only [hT, hF]
        clear hT hF g31 g32 g41 g42 hmx
        obtain ⟨hTF1, hTF2, hTF3⟩ := hTF
        obtain ⟨Ap, cp, hpv⟩ := HP.out.form
        have hPl : P.length = k := HT.out.2.1
        rw [hPl] at hpv
        subst hpv
        have HPl := Lib.hid hPl
        clear hPl
        obtain ⟨A4, hA4⟩ : ∃ A4, (if c1 = F then A1 else A1.map (·.add F)) = A4 := ⟨_, rfl⟩
        have hcut := rSl.cut (rSl.keep H1.out hbrw (Nat.le_refl _)) (show F ≤ T by omega) (by omega : T ≤ n1)
        rw [Nat.mul_one, hA4] at hcut
        have HCut := Lib.hid hcut
        clear hcut
        have HLast : Hid (k = n2 → T = n1) := by
          intro h
          have h1 : (cuts ++ [(-1 : Int)])[k]? = some (-1) := by rw [h, List.getElem?_append_right (by rw [L2.out]; omega), L2.out]; simp
          rw [Hx.out] at h1
          cases h1
          omega
        have HNew := Lib.hid (ownSl_lit1 (R := rPair (rI .i64) rBytes) (w := wr) (e := 46) (sz := 2) (base := wr.heap.size) (B := w.heap.size) (x := ((F : Int), (b.drop F).take (T - F))) (cs := #[.int .i64 (F : Int), .slice A4 (T - F) (c1 - F)]) (Nat.le_refl _) rfl
          ⟨[.int .i64 (F : Int)], [.slice A4 (T - F) (c1 - F)], rfl, ⟨rfl, wf64_of (by omega) (by omega)⟩, rSl.keep HCut.out ((Below.refl _ _).alloc (by omega) _) (Nat.le_refl _)⟩)
        have HP2 := Lib.hid (HP.out.keep (w' := wr.alloc (.cells #[.int .i64 (F : Int), .slice A4 (T - F) (c1 - F)] 46)) ((Below.refl _ _).alloc (Nat.le_refl _) _) (by omega))
        go_wp2_with (at_builtin; go_loud (refine wpList_append_sl el_chunk inferInstance inferInstance rfl _ _ rfl rfl HNew.out rfl (ownSl.src HP2.out) (by unfold maxLen; simp; omega) (by simp; omega) (by simp) (by omega) ?_; intro v3 w3 ho hbe _))
        go_roundw
        case rel =>
          refine ⟨k + 1, T, ((F : Int), (b.drop F).take (T - F)) :: P, by omega, by go_num, rfl, hTF3, hbr.trans (((Below.refl _ _).alloc (by omega) _).trans (hbe.mono (by omega))), ho.mono (by omega), ?_⟩
          exact ⟨HT.out.1.step hTF1 hTF2 (by rw [L1.out]; exact hTF3), by simp [HPl.out], fun h => HLast.out (by omega)⟩
        case measure => simp [intOf]; omega
      · go_upto_region 12 with (first | (go_at_call 20; refine (below_any _ _ _ (by omega) (by omega)).mono ?_; rintro e w' ⟨rfl, rfl⟩))
        obtain ⟨F, hF⟩ : ∃ F : Nat, max 0 ((a : Int) - x % 3) = F := ⟨(max 0 ((a : Int) - x % 3)).toNat, by omega⟩
        have hTF : F ≤ a ∧ a ≤ n1 ∧ n1 ≤ n1 := by omega
        simp only [hF]
        clear hF g31 g32 hmx
        obtain ⟨hTF1, hTF2, hTF3⟩ := hTF
        obtain ⟨Ap, cp, hpv⟩ := HP.out.form
        have hPl : P.length = k := HT.out.2.1
        rw [hPl] at hpv
        subst hpv
        have HPl := Lib.hid hPl
        clear hPl
        obtain ⟨A4, hA4⟩ : ∃ A4, (if c1 = F then A1 else A1.map (·.add F)) = A4 := ⟨_, rfl⟩
        have hcut := rSl.cut (rSl.keep H1.out hbrw (Nat.le_refl _)) (show F ≤ n1 by omega) (by omega : n1 ≤ n1)
        rw [Nat.mul_one, hA4] at hcut
        have HCut := Lib.hid hcut
        clear hcut
        have HLast : Hid (k = n2 → n1 = n1) := fun _ => rfl
        have HNew := Lib.hid (ownSl_lit1 (R := rPair (rI .i64) rBytes) (w := wr) (e := 46) (sz := 2) (base := wr.heap.size) (B := w.heap.size) (x := ((F : Int), (b.drop F).take (n1 - F))) (cs := #[.int .i64 (F : Int), .slice A4 (n1 - F) (c1 - F)]) (Nat.le_refl _) rfl
          ⟨[.int .i64 (F : Int)], [.slice A4 (n1 - F) (c1 - F)], rfl, ⟨rfl, wf64_of (by omega) (by omega)⟩, rSl.keep HCut.out ((Below.refl _ _).alloc (by omega) _) (Nat.le_refl _)⟩)
        have HP2 := Lib.hid (HP.out.keep (w' := wr.alloc (.cells #[.int .i64 (F : Int), .slice A4 (n1 - F) (c1 - F)] 46)) ((Below.refl _ _).alloc (Nat.le_refl _) _) (by omega))
        go_wp2_with (at_builtin; go_loud (refine wpList_append_sl el_chunk inferInstance inferInstance rfl _ _ rfl rfl HNew.out rfl (ownSl.src HP2.out) (by unfold maxLen; simp; omega) (by simp; omega) (by simp) (by omega) ?_; intro v3 w3 ho hbe _))
        go_roundw
        case rel =>
          refine ⟨k + 1, n1, ((F : Int), (b.drop F).take (n1 - F)) :: P, by omega, by go_num, rfl, hTF3, hbr.trans (((Below.refl _ _).alloc (by omega) _).trans (hbe.mono (by omega))), ho.mono (by omega), ?_⟩
          exact ⟨HT.out.1.step hTF1 hTF2 (by rw [L1.out]; exact hTF3), by simp [HPl.out], fun h => HLast.out (by omega)⟩
        case measure => simp [intOf]; omega
    · obtain rfl : k = n2 + 1 := by omega
      have ha1 : a = n1 := HT.out.2.2 rfl
      subst ha1
      obtain ⟨Ap, cp, hpv⟩ := HP.out.form
      rw [HT.out.2.1] at hpv
      subst hpv
      have HPs := Lib.hid (HP.out.toSl (bts := 32) inferInstance (by omega) (by rw [HT.out.2.1]; omega))
      have hpw : patch P b.length = (b, 0) := patch_whole (by rw [L1.out]; omega) (by rw [HT.out.2.1]; omega) HT.out.1.1 (fun i hi => HT.out.1.2 i (by rw [← L1.out]; exact hi))
      rw [L1.out] at hpw
      have HPW := Lib.hid hpw
      clear hpw
      go_wp2_with fail
      refine (patch_any _ _ _ _ _ _ HPs.out).mono ?_
      rintro e w4 ⟨v4, rfl, hb4, A5, c5, rfl, hres⟩
      rw [HPW.out] at hres ⊢
      have hrl := hres.len
      have HRes := Lib.hid hres
      have hb5 : Below w.heap.size w w4 := hbrw.trans (hb4.mono hbrw.size)
      clear hres
      go_wp2_with fail
      refine (equalBytes_any _ _ _ _ _ _ _ _ _ _ HRes.out (rSl.keep H1.out hb5 hb5.size)).mono ?_
      rintro e w6 ⟨rfl, q, rfl⟩
      have hbb : decide (b = b) = true := by simp
      go_wp2_with (go_at_call 10; refine (awake_any _).mono ?_; rintro e w7 ⟨rfl, hb7⟩)
      go_ret
      exact ⟨rfl, (drewN_below hb5 q).trans (hb7.mono hb5.size)⟩
end Go.Proofs.Yteoojplgchlhcaa
