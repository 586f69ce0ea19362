/-
  Batches hold all: the plain law, and the walk of the statement's function.
-/
import Derived.Test.YteoojplgchlhcaaDoorBatch
import Derived.Test.YteoojplgchlhcaaDoorAwake
namespace Go.Proofs.YteoojplgchlhcaaDoor
open Go.RowKit
set_option linter.unusedVariables false
set_option linter.unusedSimpArgs false

def sumS (l : List (ByteArray × Int)) : Int := (l.map Prod.snd).sum
def chunksOk (most many : Int) (cs : List (List (ByteArray × Int))) : Prop := ∀ c ∈ cs, 0 < c.length ∧ (c.length : Int) ≤ many ∧ (sumS c ≤ most ∨ c.length ≤ 1)
def heads (cs : List (List (ByteArray × Int))) : List (List ByteArray) := cs.map (·.map Prod.fst)

theorem sumS_snoc (c : List (ByteArray × Int)) (x : ByteArray × Int) : sumS (c ++ [x]) = sumS c + x.2 := by simp [sumS]

theorem batchesGo_chunks {most many : Int} (hm : 1 ≤ many) : ∀ (l : List (ByteArray × Int)) (cs : List (List (ByteArray × Int))) (s : Int), chunksOk most many cs → (∀ d c, cs = d ++ [c] → s = sumS c) →
    ∃ cs', cs'.flatten = cs.flatten ++ l ∧ (l.foldl (bStep most many) (heads cs, s)).1 = heads cs' ∧ chunksOk most many cs' := by
  intro l
  induction l with
  | nil => intro cs s h _; exact ⟨cs, by simp, rfl, h⟩
  | cons x r ih =>
    intro cs s h hs
    have one : chunksOk most many (cs ++ [[x]]) := by
      intro c hc
      rcases List.mem_append.1 hc with hc | hc
      · exact h c hc
      · simp at hc; subst hc; simp; omega
    have lastOne : ∀ d c, cs ++ [[x]] = d ++ [c] → x.2 = sumS c := by
      intro d c e
      have := List.append_inj' e rfl
      have e2 := this.2
      simp at e2
      rw [← e2]; simp [sumS]
    rcases List.eq_nil_or_concat cs with rfl | ⟨d, c, rfl⟩
    · obtain ⟨cs', h1, h2, h3⟩ := ih [[x]] x.2 (by simpa using one) (by simpa using lastOne)
      exact ⟨cs', by simpa using h1, by rw [← h2]; rfl, h3⟩
    · rw [List.concat_eq_append] at *
      have hd : heads (d ++ [c]) = heads d ++ [c.map Prod.fst] := by simp [heads]
      by_cases hc : many ≤ ((c.map Prod.fst).length : Int) ∨ s + x.2 > most
      · obtain ⟨cs', h1, h2, h3⟩ := ih (d ++ [c] ++ [[x]]) x.2 one lastOne
        refine ⟨cs', by rw [h1]; simp, ?_, h3⟩
        rw [List.foldl_cons, hd, bStep_new hc, ← h2]
        try simp [heads]
      · have hss := hs d c rfl
        simp only [not_or] at hc
        have k1 : chunksOk most many (d ++ [c ++ [x]]) := by
          intro c' hc'
          rcases List.mem_append.1 hc' with hc' | hc'
          · exact h c' (List.mem_append_left _ hc')
          · simp at hc'; subst hc'
            have := hc.1
            simp at this ⊢
            refine ⟨by omega, Or.inl ?_⟩
            rw [sumS_snoc]; omega
        have k2 : ∀ d' c', d ++ [c ++ [x]] = d' ++ [c'] → s + x.2 = sumS c' := by
          intro d' c' e
          have := (List.append_inj' e rfl).2
          simp at this
          rw [← this, sumS_snoc, hss]
        obtain ⟨cs', h1, h2, h3⟩ := ih (d ++ [c ++ [x]]) (s + x.2) k1 k2
        refine ⟨cs', by rw [h1]; simp, ?_, h3⟩
        rw [List.foldl_cons, hd, bStep_old hc.1 hc.2, ← h2]
        try simp [heads]

theorem batches_chunks {most many : Int} {l : List (ByteArray × Int)} (h : (batches l most many).2 = 0) : ∃ cs, cs.flatten = l ∧ (batches l most many).1 = heads cs ∧ chunksOk most many cs ∧ sizeCode l = 0 := by
  unfold batches at h ⊢
  by_cases h0 : sizeCode l = 0
  · rw [if_neg (by simpa using h0)] at h ⊢
    by_cases h1 : inR most 1 2000000 = false
    · rw [if_pos h1] at h; cases h
    rw [if_neg h1] at h ⊢
    by_cases h2 : inR many 1 4000 = false
    · rw [if_pos h2] at h; cases h
    rw [if_neg h2]
    have hm : 1 ≤ many := by simp [inR] at h2; omega
    obtain ⟨cs, a, b, c⟩ := batchesGo_chunks (most := most) hm l [] 0 (fun c hc => by cases hc) (fun d c e => by simp at e)
    exact ⟨cs, by simpa using a, b, c, h0⟩
  · rw [if_pos h0] at h; exact absurd h h0
theorem batches_none {most many : Int} {l : List (ByteArray × Int)} (h : (batches l most many).2 ≠ 0) : (batches l most many).1 = [] := by
  unfold batches at h ⊢
  split
  · rfl
  · split
    · rfl
    · split
      · rfl
      · rename_i h0 h1 h2
        rw [if_neg h0, if_neg h1, if_neg h2] at h
        exact absurd rfl h

theorem rStrs_at {w : World} {B n c k bts : Nat} {A : Option Addr} {l : List ByteArray} (h : rSl 1 bts rStr w B l [.slice A n c]) (hk : k < n) :
    ∃ b o x, A = some ⟨b, o, none⟩ ∧ b < B ∧ l[k]? = some x ∧ w.cell? ⟨b, o + k, none⟩ = some (.string x) ∧ x.size ≤ 140737488355328 := by
  obtain ⟨b, o, x, vs, hA, hb, hl, hs, ⟨rfl, hx⟩, hc⟩ := rSl.at_ h hk
  have h1 := hc 0 _ rfl
  rw [Nat.mul_one, Nat.add_zero] at h1
  exact ⟨b, o, x, hA, hb, hl, h1, hx⟩
theorem rRows_at {w : World} {B n c k : Nat} {A : Option Addr} {l : List (List ByteArray)} (h : rSl 1 24 (rSl 1 16 rStr) w B l [.slice A n c]) (hk : k < n) :
    ∃ b o x A' c', A = some ⟨b, o, none⟩ ∧ b < B ∧ l[k]? = some x ∧ w.cell? ⟨b, o + k, none⟩ = some (.slice A' x.length c') ∧ rSl 1 16 rStr w B x [.slice A' x.length c'] := by
  obtain ⟨b, o, x, vs, hA, hb, hl, hs, hx, hc⟩ := rSl.at_ h hk
  obtain ⟨A', c', rfl, _⟩ := rSl.form hx
  have h1 := hc 0 _ rfl
  rw [Nat.mul_one, Nat.add_zero] at h1
  exact ⟨b, o, x, A', c', hA, hb, hl, h1, hx⟩

/-- Where a chunk's element stands in the whole. -/
theorem flat_at {α : Type} : ∀ (cs : List (List α)) (j i : Nat) (c : List α) (x : α), cs[j]? = some c → c[i]? = some x → cs.flatten[((cs.take j).flatten).length + i]? = some x := by
  intro cs
  induction cs with
  | nil => intro j i c x h; simp at h
  | cons d r ih =>
    intro j i c x h hx
    cases j with
    | zero =>
      simp at h
      subst h
      simp only [List.take_zero, List.flatten_nil, List.length_nil, Nat.zero_add, List.flatten_cons]
      rw [List.getElem?_append_left (List.getElem?_eq_some_iff.1 hx).1]; exact hx
    | succ j =>
      simp at h
      have := ih j i c x h hx
      simp only [List.take_succ_cons, List.flatten_cons, List.length_append]
      rw [List.getElem?_append_right (by omega)]
      rw [show d.length + ((r.take j).flatten).length + i - d.length = ((r.take j).flatten).length + i by omega]
      exact this
theorem flat_len {α : Type} {cs : List (List α)} {j : Nat} {c : List α} (h : cs[j]? = some c) : ((cs.take (j + 1)).flatten).length = ((cs.take j).flatten).length + c.length := by
  rw [List.take_add_one, h]; simp
theorem sumS_bd {l : List (ByteArray × Int)} (h : ∀ x ∈ l, 0 ≤ x.2 ∧ x.2 ≤ 2000000) : 0 ≤ sumS l ∧ sumS l ≤ 2000000 * l.length := by
  induction l with
  | nil => simp [sumS]
  | cons x r ih =>
    have h1 := h x (by simp)
    have h2 := ih fun y hy => h y (by simp [hy])
    have e : sumS (x :: r) = x.2 + sumS r := by simp [sumS]
    rw [e]; simp; omega

set_option maxHeartbeats 2000000 in
set_option maxRecDepth 100000 in
theorem batchesHold_any (A : Option Addr) (n c : Nat) (l : List (ByteArray × Int)) (most many : Int) (w : World) (hR : rSized w w.heap.size l [.slice A n c]) :
    Calls Tryd.prog 3 #[.slice A n c, .int .i64 most, .int .i64 many] w fun e w' => e = .returned (.bool true) ∧ Below w.heap.size w w' := by
  have hln := hR.len
  have HR := Lib.hid hR
  have HL := Lib.hid hln
  have hcm := hR.le
  clear hR hln
  obtain ⟨hcm1, hcm2, _⟩ := hcm
  by_cases h0 : (batches l most many).2 = 0
  rotate_left
  · have h0' : ((batches l most many).2 != 0) = true := by simpa using h0
    have hn0 : Hid ((batches l most many).1.length = 0) := by rw [batches_none h0]; rfl
    clear h0
    go_enter Tryd.func3, Tryd.ntmps3
    go_wp2_with fail
    refine (batches_any _ _ _ _ _ _ _ HR.out).mono ?_
    rintro e w1 ⟨v, rfl, hb1, A1, c1, rfl, hr1⟩
    clear hr1
    rw [hn0.out]
    go_wp2_with (go_at_call 10; refine (awake_any _).mono ?_; rintro e w2 ⟨rfl, hb2⟩)
    go_ret
    exact ⟨rfl, hb1.trans (hb2.mono hb1.size)⟩
  have h0' : ((batches l most many).2 != 0) = false := by simpa using h0
  obtain ⟨cs, hcs, hrows, hok, hsc⟩ := batches_chunks h0
  have HK := Lib.hid (sizeCode_ok hsc)
  have hn4 : n ≤ 4000 := by rw [← HL.out]; exact HK.out.1
  have HC := Lib.hid hcs
  have HO := Lib.hid hok
  clear h0 hcs hok hsc
  have hlen : (heads cs).length = cs.length := by simp [heads]
  go_enter Tryd.func3, Tryd.ntmps3
  go_wp2_with fail
  refine (batches_any _ _ _ _ _ _ _ HR.out).mono ?_
  rintro e w1 ⟨v, rfl, hb1, A1, c1, rfl, hr1⟩
  rw [hrows] at hr1 ⊢
  rw [hlen] at hr1 ⊢
  have HR1 := Lib.hid hr1
  have hrm := hr1.le
  clear hr1 hrows hlen
  obtain ⟨hrm1, hrm2, hrm3⟩ := hrm
  obtain ⟨N, hN⟩ : ∃ N, N = cs.length := ⟨_, rfl⟩
  have HN := Lib.hid hN
  rw [← hN] at HR1 hrm1 hrm3 ⊢
  clear hN
  go_wp2_with fail
  go_loop [9, 32] (fun kv jv => ∃ (j q : Nat), j ≤ N ∧ jv = .int .i64 j ∧ kv = .int .i64 q ∧ Hid (q = ((cs.take j).flatten).length)) (fun _ jv => N - (intOf jv).toNat)
  case atStart => exact ⟨0, 0, by omega, rfl, rfl, rfl⟩
  case round =>
    obtain ⟨j, q, hj, rfl, rfl, HQ⟩ := hrel
    by_cases hlt : j < N
    · obtain ⟨br, orr, row, A', c', rfl, hbr, hrow, hrc, hr2⟩ := rRows_at HR1.out hlt
      have hcj : ∃ ch, cs[j]? = some ch ∧ row = ch.map Prod.fst := by
        unfold heads at hrow
        rw [List.getElem?_map] at hrow
        cases hc : cs[j]? with
        | none => rw [hc] at hrow; simp at hrow
        | some ch => rw [hc] at hrow; exact ⟨ch, rfl, by simpa using hrow.symm⟩
      obtain ⟨ch, hch, rfl⟩ := hcj
      obtain ⟨m, hm⟩ : ∃ m, m = (ch.map Prod.fst).length := ⟨_, rfl⟩
      rw [← hm] at hrc hr2
      have hm' : m = ch.length := by rw [hm]; simp
      have HM := Lib.hid hm'
      have HCH := Lib.hid hch
      have HR2 := Lib.hid hr2
      have hr2m := hr2.le
      have hcok := HO.out ch (List.mem_of_getElem? hch)
      rw [← hm'] at hcok
      obtain ⟨hm0, hmm, hms⟩ := hcok
      have hfit : q + m ≤ n := by
        have e := flat_len hch
        rw [← HQ.out, ← hm'] at e
        have : ((cs.take (j + 1)).flatten).length ≤ cs.flatten.length := by
          conv => rhs; rw [← List.take_append_drop (j + 1) cs, List.flatten_append, List.length_append]
          omega
        rw [HC.out, HL.out] at this
        omega
      have HMS := Lib.hid hms
      clear hrow hm hm' hch hr2 hms
      obtain ⟨hr2m1, hr2m2, hr2m3⟩ := hr2m
      go_wp2_with fail
      go_loop [9, 12, 38] (fun kv sv iv => ∃ (i p : Nat) (s : Int), i ≤ m ∧ iv = .int .i64 i ∧ kv = .int .i64 p ∧ sv = .int .i64 s ∧ Hid (p = q + i) ∧ 0 ≤ s ∧ s ≤ 2000000 * i ∧ Hid (s = sumS (ch.take i))) (fun _ _ iv => m - (intOf iv).toNat)
      case atStart => exact ⟨0, q, 0, by omega, rfl, rfl, rfl, (by show _ = _; omega), by omega, by omega, rfl⟩
      case round =>
        obtain ⟨i, p, s, hi, rfl, rfl, rfl, HP, hs0, hs1, HS⟩ := hrel
        have hp : p = q + i := HP.out
        have hpi : p + (m - i) ≤ n := by omega
        by_cases hlt2 : i < m
        · obtain ⟨b2, o2, y, rfl, hb2, hy, hyc, hys⟩ := rStrs_at HR2.out hlt2
          have hx : ∃ x, ch[i]? = some x ∧ x.1 = y := by
            rw [List.getElem?_map] at hy
            cases hc : ch[i]? with
            | none => rw [hc] at hy; simp at hy
            | some x => rw [hc] at hy; exact ⟨x, rfl, by simpa using hy⟩
          obtain ⟨x, hx, rfl⟩ := hx
          have hlx : l[p]? = some x := by rw [hp, HQ.out, ← HC.out]; exact flat_at cs j i ch x HCH.out hx
          have hpn : p < n := by omega
          obtain ⟨bk, o, x', rfl, hbk, hx', hx1, hx2, hxs⟩ := rSized_at (rSl.keep HR.out hb1 hb1.size) hpn
          obtain rfl : x' = x := by rw [hlx] at hx'; exact (Option.some.inj hx').symm
          obtain ⟨_, hx0, hxm⟩ := HK.out.2 x' (List.mem_of_getElem? hlx)
          have e1 : (x'.1.toList == x'.1.toList) = true := beq_self_eq_true _
          have e2 : (x'.1.toList != x'.1.toList) = false := bne_self_eq_false _
          have e3 : decide ((p : Int) ≥ n) = false := by simp; omega
          have e4 : IntKind.i64.wrap (s + x'.2) = s + x'.2 := IntWalk.i64_in _ (by omega)
          have HX := Lib.hid hx
          clear hy hx hlx hx' hp hpi hfit
          go_wp2_with fail
          go_round
          case rel => exact ⟨i + 1, p + 1, s + x'.2, by omega, by go_num, by go_num, rfl, (by have := HP.out; show _ = _; omega), by omega, by push_cast; omega, by rw [List.take_add_one, HX.out, HS.out]; exact (sumS_snoc _ _).symm⟩
          case measure => simp [intOf]; omega
        · obtain rfl : i = m := by omega
          have hsum : s = sumS ch := by rw [HS.out, List.take_of_length_le (by rw [HM.out]; exact Nat.le_refl _)]
          have e1 : decide ((i : Int) > many) = false := by simp; omega
          have e0 : ((i : Int) == 0) = false := by simp; omega
          clear hp hpi hfit
          by_cases hs : s > most
          · have hi1 : i ≤ 1 := by
              rcases HMS.out with h | h
              · omega
              · exact h
            have e5 : decide ((i : Int) > 1) = false := by simp; omega
            go_wp2_with fail
            go_round
            case rel => exact ⟨j + 1, p, by omega, by go_num, rfl, by rw [flat_len HCH.out, ← HQ.out, ← HM.out]; exact HP.out⟩
            case measure => simp [intOf]; omega
          · have e5 : decide (s > most) = false := by simp; omega
            go_wp2_with fail
            go_round
            case rel => exact ⟨j + 1, p, by omega, by go_num, rfl, by rw [flat_len HCH.out, ← HQ.out, ← HM.out]; exact HP.out⟩
            case measure => simp [intOf]; omega
    · obtain rfl : j = N := by omega
      have hq : q = n := by rw [HQ.out, List.take_of_length_le (by rw [HN.out]; exact Nat.le_refl _), HC.out, HL.out]
      subst hq
      have e1 : ((q : Int) == (q : Int)) = true := beq_self_eq_true _
      go_wp2_with (go_at_call 10; refine (awake_any _).mono ?_; rintro e w2 ⟨rfl, hb2⟩)
      go_ret
      exact ⟨rfl, hb1.trans (hb2.mono hb1.size)⟩
end Go.Proofs.YteoojplgchlhcaaDoor
