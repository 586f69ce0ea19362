/-
  The walks of checkPieces, Fresh (both), has.
-/
import Derived.Test.YteoojplgchlhcaaBytes
namespace Go.Proofs.Yteoojplgchlhcaa
open Go.RowKit
set_option linter.unusedVariables false
set_option linter.unusedSimpArgs false

def rPieces : Rep (List (List UInt8)) := rSl 1 24 rBytes
theorem rPieces_at {w : World} {B n c k : Nat} {A : Option Addr} {l : List (List UInt8)} (h : rPieces w B l [.slice A n c]) (hk : k < n) :
    ∃ b o x A' m' c', A = some ⟨b, o, none⟩ ∧ b < B ∧ l[k]? = some x ∧ w.cell? ⟨b, o + k, none⟩ = some (.slice A' m' c') ∧ rBytes w B x [.slice A' m' c'] := by
  obtain ⟨b, o, x, vs, hA, hb, hl, hs, hx, hc⟩ := rSl.at_ h hk
  obtain ⟨A', c', rfl, _⟩ := rSl.form hx
  have h1 := hc 0 _ rfl
  rw [Nat.mul_one, Nat.add_zero] at h1
  exact ⟨b, o, x, A', _, c', hA, hb, hl, h1, hx⟩

def sumLen (l : List (List UInt8)) : Int := (l.map fun x => (x.length : Int)).sum
def piecesCode (l : List (List UInt8)) : Int := if l.length > 20000 then 2 else if sumLen l > 2000000 then 2 else 0

theorem sumLen_cons (x : List UInt8) (l : List (List UInt8)) : sumLen (x :: l) = x.length + sumLen l := by simp [sumLen]
theorem sumLen_nonneg (l : List (List UInt8)) : 0 ≤ sumLen l := by
  induction l with
  | nil => simp [sumLen]
  | cons x l ih => rw [sumLen_cons]; omega

set_option maxHeartbeats 400000 in
theorem checkPieces_any (A : Option Addr) (n c : Nat) (l : List (List UInt8)) (w : World) (hR : rPieces w w.heap.size l [.slice A n c]) :
    Calls Try.prog 30 #[.slice A n c] w fun e w' => e = .returned (.int .i64 (piecesCode l)) ∧ w = w' := by
  have HR := Lib.hid hR
  have hln := hR.len
  have HL := Lib.hid hln
  have hcm := hR.le
  clear hR hln
  obtain ⟨hcm1, hcm2, _⟩ := hcm
  by_cases hn : n > 20000
  · have hc : Hid (piecesCode l = 2) := by unfold piecesCode; rw [HL.out, if_pos hn]; rfl
    go_enter Try.func30, Try.ntmps30
    go_wp2_with fail
    go_loop [3, 8] (fun s i => ∃ (k : Nat) (x : Int), k ≤ n ∧ i = .int .i64 k ∧ s = .int .i64 x) (fun _ i => n - (intOf i).toNat)
    case atStart => exact ⟨0, 0, by omega, rfl, rfl⟩
    case round =>
      obtain ⟨k, x, hk, rfl, rfl⟩ := hrel
      by_cases hlt : k < n
      · obtain ⟨b, o, y, A', m', c', rfl, hb, hy, hc1, hx1⟩ := rPieces_at HR.out hlt
        clear hy hx1
        go_wp2_with fail
        go_round
        case rel => exact ⟨k + 1, _, by omega, by go_num, rfl⟩
        case measure => simp [intOf]; omega
      · obtain rfl : k = n := by omega
        have hd : decide ((k : Int) > 20000) = true := by simp; omega
        go_wp2_with fail
        go_ret
        exact ⟨by rw [hc.out]; rfl, rfl⟩
  · have hc : Hid (piecesCode l = if sumLen l > 2000000 then 2 else 0) := by unfold piecesCode; rw [HL.out, if_neg hn]; rfl
    go_enter Try.func30, Try.ntmps30
    go_wp2_with fail
    go_loop [3, 8] (fun s i => ∃ (k : Nat) (x : Int), k ≤ n ∧ i = .int .i64 k ∧ s = .int .i64 x ∧ 0 ≤ x ∧ x ≤ k * 140737488355328 ∧ Hid (sumLen l = x + sumLen (l.drop k))) (fun _ i => n - (intOf i).toNat)
    case atStart => exact ⟨0, 0, by omega, rfl, rfl, by omega, by omega, by first | exact True.intro | (show _ = _; simp)⟩
    case round =>
      obtain ⟨k, x, hk, rfl, rfl, hx0, hx1, HG⟩ := hrel
      by_cases hlt : k < n
      · obtain ⟨b, o, y, A', m', c', rfl, hb, hy, hc1, hy1⟩ := rPieces_at HR.out hlt
        have hyl := hy1.le
        have hyn := hy1.len
        have hst : sumLen (l.drop k) = m' + sumLen (l.drop (k + 1)) := by rw [drop_of hy, sumLen_cons, hyn]
        have HT := Lib.hid hst
        clear hy hy1 hyn hst
        obtain ⟨hyl1, hyl2, hyl3⟩ := hyl
        go_wp2_with fail
        go_round
        case rel => exact ⟨k + 1, x + m', by omega, by go_num, rfl, by omega, by push_cast; omega, by rw [HG.out, HT.out]; show _ = _; omega⟩
        case measure => simp [intOf]; omega
      · obtain rfl : k = n := by omega
        have hd : decide ((k : Int) > 20000) = false := by simp; omega
        have hs : Hid (sumLen l = x) := by
          have := HL.out
          rw [HG.out, List.drop_of_length_le (by omega)]
          show _ = _
          simp [sumLen]
        by_cases hbig : x > 2000000
        · go_wp2_with fail
          go_ret
          exact ⟨by rw [hc.out, hs.out, if_pos (by omega)]; rfl, rfl⟩
        · go_wp2_with fail
          go_ret
          exact ⟨by rw [hc.out, hs.out, if_neg (by omega)]; rfl, rfl⟩

/-! ### Fresh -/
/-- What is new in the rest of now: 'done' what stood before it. -/
def freshGo (old : List (List UInt8)) : List (List UInt8) → Nat → List (List UInt8) → List Int × Int
  | _, _, [] => ([], 0)
  | done, i, x :: r => if old.contains x || done.contains x then freshGo old (done ++ [x]) (i + 1) r else ((i : Int) :: (freshGo old (done ++ [x]) (i + 1) r).1, x.length + (freshGo old (done ++ [x]) (i + 1) r).2)
def fresh (old now : List (List UInt8)) : List Int × Int × Int :=
  if piecesCode old ≠ 0 then ([], 0, piecesCode old) else if piecesCode now ≠ 0 then ([], 0, piecesCode now) else ((freshGo old [] 0 now).1, (freshGo old [] 0 now).2, 0)

def PFresh (p : List Int × Int × Int) (v : Value) (w' : World) : Prop :=
  ∃ A c, v = .tuple #[.slice A p.1.length c, .int .i64 p.2.1, .int .i64 p.2.2] ∧ rInts w' w'.heap.size p.1 [.slice A p.1.length c]
theorem PFresh.none_ {code : Int} {w' : World} : PFresh ([], 0, code) (.tuple #[.slice none 0 0, .int .i64 0, .int .i64 code]) w' := ⟨none, 0, rfl, rSl.nil_⟩

theorem piecesCode_ok {l : List (List UInt8)} (h : piecesCode l = 0) : l.length ≤ 20000 ∧ sumLen l ≤ 2000000 := by
  unfold piecesCode at h
  split at h
  · omega
  · split at h
    · omega
    · omega
theorem sumLen_mem {l : List (List UInt8)} {x : List UInt8} (h : x ∈ l) : (x.length : Int) ≤ sumLen l := by
  induction l with
  | nil => cases h
  | cons y l ih =>
    rw [sumLen_cons]
    have := sumLen_nonneg l
    rcases List.mem_cons.1 h with rfl | h
    · omega
    · have := ih h; omega

theorem setOkSB : SetOk Try.prog 62 9 4 := ⟨Try.underlying62, Try.underlying9, Try.underlying4, fun _ => by kernel_rfl⟩
theorem convBS {w : World} {B n c : Nat} {A : Option Addr} {l : List UInt8} (h : rBytes w B l [.slice A n c]) : (convert 41 9 (.slice A n c)).run Try.prog w = .ok (.string ⟨l.toArray⟩) w :=
  run_convert_rBytes Try.underlying41 Try.underlying5 Try.underlying9 h

def inOld (l : List (List UInt8)) (s : List UInt8) : Bool := l.contains s
theorem inOld_snoc (l : List (List UInt8)) (x : List UInt8) : (fun u => if u = (⟨x.toArray⟩ : ByteArray).data.toList then true else inOld l u) = inOld (l ++ [x]) := by
  funext u
  unfold inOld
  by_cases h : u = x
  · simp [h]
  · simp [h]
theorem inOld_seen {old done : List (List UInt8)} {x : List UInt8} (h : (inOld old x || inOld done x) = true) : inOld (old ++ (done ++ [x])) = inOld (old ++ done) := by
  funext u
  unfold inOld at *
  by_cases hu : u = x
  · subst hu; simp at h ⊢; exact h
  · simp [hu]

theorem own_ne {w : World} {base : Nat} {e : TypeId} {size n b : Nat} {v : Value} {xs : List Value} (h : w.ownsRow base e size v n xs) (hb : b < base) : v.ownBlock = none ∨ v.ownBlock ≠ some b := by
  right
  intro he
  have := (h.lt b he).1
  omega

set_option maxHeartbeats 1000000 in
set_option maxRecDepth 100000 in
theorem fresh_any (A1 A2 : Option Addr) (n1 c1 n2 c2 : Nat) (old now : List (List UInt8)) (w : World) (h1 : rPieces w w.heap.size old [.slice A1 n1 c1]) (h2 : rPieces w w.heap.size now [.slice A2 n2 c2]) :
    Calls Try.prog 17 #[.slice A1 n1 c1, .slice A2 n2 c2] w (Ret (PFresh (fresh old now)) w) := by
  have hl1 := h1.len
  have hl2 := h2.len
  have hm1 := h1.le
  have hm2 := h2.le
  have H1 := Lib.hid h1
  have H2 := Lib.hid h2
  have L1 := Lib.hid hl1
  have L2 := Lib.hid hl2
  clear h1 h2 hl1 hl2
  obtain ⟨hm11, hm12, _⟩ := hm1
  obtain ⟨hm21, hm22, _⟩ := hm2
  by_cases hp1 : piecesCode old = 0
  rotate_left
  · have hp1' : (piecesCode old != 0) = true := by simpa using hp1
    have HS : Hid (fresh old now = ([], 0, piecesCode old)) := by unfold fresh; rw [if_pos hp1]; rfl
    clear hp1
    go_enter Try.func17, Try.ntmps17
    go_wp2_with (go_at_call 30; refine (checkPieces_any _ _ _ _ _ H1.out).mono ?_; rintro e w' ⟨rfl, rfl⟩)
    go_ret3
    refine ⟨_, rfl, Below.refl _ _, ?_⟩
    rw [HS.out]
    exact PFresh.none_
  have hp1' : (piecesCode old != 0) = false := by simp [hp1]
  by_cases hp2 : piecesCode now = 0
  rotate_left
  · have hp2' : (piecesCode now != 0) = true := by simpa using hp2
    have HS : Hid (fresh old now = ([], 0, piecesCode now)) := by unfold fresh; rw [if_neg (by simp [hp1]), if_pos hp2]; rfl
    clear hp1 hp2
    go_enter Try.func17, Try.ntmps17
    go_wp2_with fail
    refine (checkPieces_any _ _ _ _ _ H1.out).mono ?_
    rintro e w' ⟨rfl, rfl⟩
    go_wp2_with fail
    refine (checkPieces_any _ _ _ _ _ H2.out).mono ?_
    rintro e w' ⟨rfl, rfl⟩
    go_wp2_with fail
    go_ret3
    refine ⟨_, rfl, Below.refl _ _, ?_⟩
    rw [HS.out]
    exact PFresh.none_
  have hp2' : (piecesCode now != 0) = false := by simp [hp2]
  have HS : Hid (fresh old now = ((freshGo old [] 0 now).1, (freshGo old [] 0 now).2, 0)) := by unfold fresh; rw [if_neg (by simp [hp1]), if_neg (by simp [hp2])]; rfl
  have hk1 := piecesCode_ok hp1
  have hk2 := piecesCode_ok hp2
  have hn1 : n1 ≤ 20000 := by rw [← L1.out]; exact hk1.1
  have hn2 : n2 ≤ 20000 := by rw [← L2.out]; exact hk2.1
  have K2 := Lib.hid hk2.2
  have K1 := Lib.hid hk1.2
  clear hp1 hp2 hk1 hk2
  have hmm := @run_makeMap Try.prog
  go_enter Try.func17, Try.ntmps17
  go_wp2_with fail
  refine (checkPieces_any _ _ _ _ _ H1.out).mono ?_
  rintro e w' ⟨rfl, rfl⟩
  go_wp2_with fail
  refine (checkPieces_any _ _ _ _ _ H2.out).mono ?_
  rintro e w' ⟨rfl, rfl⟩
  go_wp2_with fail
  go_loopw [29] (fun i wr => ∃ (k : Nat), k ≤ n1 ∧ i = .int .i64 k ∧ Below w.heap.size w wr ∧ Hid (ownSet Try.prog 9 4 wr w.heap.size k (inOld (old.take k)))) (fun i _ => n1 - (intOf i).toNat)
  case atStart => exact ⟨0, by omega, rfl, (Below.refl _ _).alloc (Nat.le_refl _) _, ownSet_made w⟩
  case round =>
    obtain ⟨k, hk, rfl, hbr, HM⟩ := hrel
    by_cases hlt : k < n1
    · obtain ⟨b, o, y, A', m', c', rfl, hb, hy, hc1, hy1⟩ := rPieces_at (rSl.keep H1.out hbr (Nat.le_refl _)) hlt
      have hcv := convBS hy1
      have hyn := hy1.len
      have hyl := hy1.le
      have HT : Hid (old.take k ++ [y] = old.take (k + 1)) := by rw [List.take_add_one, hy]; rfl
      clear hy hy1 hmm
      go_wp2_with (at_mapUpdate; go_loud (refine wpList_set_put setOkSB rfl _ _ _ rfl rfl HM.out (by unfold maxLen; omega) ⟨y.toArray⟩ rfl (by unfold maxLen; simp [ByteArray.size]; omega) true rfl ?_); intro w1 hs1 hg1)
      go_roundw
      case rel =>
        rw [inOld_snoc, HT.out] at hs1
        exact ⟨k + 1, by omega, by go_num, hbr.grown hg1 hbr.size (fun j hj => by cases hj; exact Nat.le_refl _), hs1⟩
      case measure => simp [intOf]; omega
    · obtain rfl : k = n1 := by omega
      have HM2 : Hid (ownSet Try.prog 9 4 wr w.heap.size k (inOld (old ++ now.take 0))) := by
        have hl := L1.out
        have h := HM.out
        rw [List.take_of_length_le (by omega)] at h
        show ownSet _ _ _ _ _ _ _
        simpa using h
      clear HM hmm
      go_wp2_with fail
      obtain ⟨wo, rfl⟩ : ∃ wo : World, wo = wr := ⟨_, rfl⟩
      go_loopw [12, 13, 39] (fun v s i wr => ∃ (j : Nat) (xs : List Int) (x : Int), j ≤ n2 ∧ i = .int .i64 j ∧ s = .int .i64 x ∧ 0 ≤ x ∧ x + sumLen (now.drop j) ≤ 2000000 ∧ Below w.heap.size w wr ∧ Hid (∃ (m : Nat), wr.ownsRow (w.heap.size + 1) 3 1 v m (xs.map (Value.int .i64)) ∧ m ≤ j) ∧
        Hid (ownSet Try.prog 9 4 wr w.heap.size (k + j) (inOld (old ++ now.take j))) ∧ Hid ((∀ y ∈ xs, 0 ≤ y ∧ y ≤ 20000) ∧ freshGo old [] 0 now = (xs ++ (freshGo old (now.take j) j (now.drop j)).1, x + (freshGo old (now.take j) j (now.drop j)).2))) (fun _ _ i _ => n2 - (intOf i).toNat)
      case atStart => exact ⟨0, [], 0, by omega, rfl, rfl, by omega, by have := K2.out; simpa using this, hbr, ⟨0, World.ownsRow_nil _ _ _ _, Nat.le_refl _⟩, HM2.out, ⟨fun _ h => (by cases h), by simp⟩⟩
      case round =>
        obtain ⟨j, xs, x, hj, rfl, rfl, hx0, hx1, hbs, HO, HM, HG⟩ := hrel
        by_cases hlt2 : j < n2
        · obtain ⟨b, o, y, A', m', c', rfl, hb, hy, hc1, hy1⟩ := rPieces_at (rSl.keep H2.out hbs (Nat.le_refl _)) hlt2
          have hcv := convBS hy1
          have hyn := hy1.len
          have hyl := hy1.le
          have HT : Hid (now.take j ++ [y] = now.take (j + 1)) := by rw [List.take_add_one, hy]; rfl
          have hsum : sumLen (now.drop j) = m' + sumLen (now.drop (j + 1)) := by rw [drop_of hy, sumLen_cons, hyn]
          have hsn := sumLen_nonneg (now.drop (j + 1))
          have HY := Lib.hid hy
          have hx2 : x + m' + sumLen (now.drop (j + 1)) ≤ 2000000 := by omega
          have hx3 : x + m' ≤ 2000000 := by omega
          have HY1 := Lib.hid hy1
          clear hy hy1 hsum hx1 hyn
          have hbz := hbs.size
          cases hin : (inOld old y || inOld (now.take j) y)
          · have hf : Hid (inOld (old ++ now.take j) (⟨y.toArray⟩ : ByteArray).data.toList = false) := by
              unfold inOld at *
              simp at hin ⊢
              exact hin
            have HG2 : Hid ((∀ y ∈ xs ++ [(j : Int)], 0 ≤ y ∧ y ≤ 20000) ∧ freshGo old [] 0 now = ((xs ++ [(j : Int)]) ++ (freshGo old (now.take (j + 1)) (j + 1) (now.drop (j + 1))).1, (x + m') + (freshGo old (now.take (j + 1)) (j + 1) (now.drop (j + 1))).2)) := by
              have hyn := HY1.out.len
              refine ⟨fun z hz => ?_, ?_⟩
              · rcases List.mem_append.1 hz with hz | hz
                · exact HG.out.1 z hz
                · simp at hz; omega
              · rw [HG.out.2, drop_of HY.out, freshGo, if_neg (by unfold inOld at hin; simp at hin ⊢; exact hin), HT.out, hyn]
                simp [Int.add_assoc]
            clear HG hin
            obtain ⟨m, hown, hmj⟩ := HO.out
            clear HO
            have hzs : w.heap.size < wr.heap.size := HM.out.lt
            go_wp2_with (first
              | (at_lookup; go_loud (refine wpList_set_has setOkSB rfl _ _ rfl rfl HM.out ⟨y.toArray⟩ rfl (by have := HY1.out.len; unfold maxLen; simp [ByteArray.size]; omega) ?_); rw [hf.out])
              | (at_mapUpdate; go_loud (refine wpList_set_put setOkSB rfl _ _ _ rfl rfl HM.out (by unfold maxLen; omega) ⟨y.toArray⟩ rfl (by have := HY1.out.len; unfold maxLen; simp [ByteArray.size]; omega) true rfl ?_); intro w1 hs1 hg1)
              | (at_builtin; go_loud (refine wpList_append1 el_int rfl _ _ rfl rfl (hown.kept hg1 (own_ne hown (by omega))) rfl rfl rfl (by simp [Value.oneCell']) (by unfold maxLen; omega) (by omega) (by have := hg1.size; omega) ?_); intro v' w2 ho hbe hzz))
            have HS1 : Hid (ownSet Try.prog 9 4 w2 w.heap.size (k + j + 1) (inOld (old ++ now.take (j + 1)))) := by
              have h := hs1.below hbe (by omega)
              have e := inOld_snoc (old ++ now.take j) y
              rw [List.append_assoc, HT.out] at e
              rw [e] at h
              exact h
            clear hs1
            go_roundw
            case rel =>
              exact ⟨j + 1, xs ++ [(j : Int)], x + m', by omega, by go_num, rfl, by omega, by omega, (hbs.grown hg1 hbz (fun i hi => by cases hi; exact Nat.le_refl _)).trans (hbe.mono (by omega)), ⟨m + 1, by simpa using ho, by omega⟩, HS1.out, HG2.out⟩
            case measure => simp [intOf]; omega
          · have hf : Hid (inOld (old ++ now.take j) (⟨y.toArray⟩ : ByteArray).data.toList = true) := by
              unfold inOld at *
              simp at hin ⊢
              exact hin
            have HS1 : Hid (ownSet Try.prog 9 4 wr w.heap.size (k + (j + 1)) (inOld (old ++ now.take (j + 1)))) := by
              have h := HM.out.mono (n' := k + (j + 1)) (by omega)
              rw [← HT.out, inOld_seen hin]
              exact h
            have HG2 : Hid ((∀ y ∈ xs, 0 ≤ y ∧ y ≤ 20000) ∧ freshGo old [] 0 now = (xs ++ (freshGo old (now.take (j + 1)) (j + 1) (now.drop (j + 1))).1, x + (freshGo old (now.take (j + 1)) (j + 1) (now.drop (j + 1))).2)) := by
              refine ⟨HG.out.1, ?_⟩
              rw [HG.out.2, drop_of HY.out, freshGo, if_pos (by unfold inOld at hin; exact hin), HT.out]
            clear HG hin
            go_wp2_with (first
              | (at_lookup; go_loud (refine wpList_set_has setOkSB rfl _ _ rfl rfl HM.out ⟨y.toArray⟩ rfl (by have := HY1.out.len; unfold maxLen; simp [ByteArray.size]; omega) ?_); rw [hf.out]))
            go_roundw
            case rel =>
              obtain ⟨m, hown, hmj⟩ := HO.out
              exact ⟨j + 1, xs, x, by omega, by go_num, rfl, by omega, by omega, hbs, ⟨m, hown, by omega⟩, HS1.out, HG2.out⟩
            case measure => simp [intOf]; omega
        · obtain rfl : j = n2 := by omega
          have hG : (∀ y ∈ xs, 0 ≤ y ∧ y ≤ 20000) ∧ freshGo old [] 0 now = (xs, x) := by
            refine ⟨HG.out.1, ?_⟩
            have hln := L2.out
            rw [HG.out.2, List.drop_of_length_le (by omega)]
            simp [freshGo]
          have HG2 := Lib.hid hG
          clear HG hG
          go_wp2_with fail
          go_ret3
          refine ⟨_, rfl, hbs, ?_⟩
          rw [HS.out, HG2.out.2]
          obtain ⟨m, hown, hmj⟩ := HO.out
          obtain ⟨A', c', rfl, hres⟩ := rSl.of_ints (bts := 8) hown (Nat.le_refl _) (fun y hy => wf64_of (by have := HG2.out.1 y hy; omega) (by have := HG2.out.1 y hy; omega)) (by omega)
          have hxl := hres.len
          subst hxl
          exact ⟨A', c', rfl, hres⟩

/-! ### The reference -/
set_option maxHeartbeats 400000 in
theorem checkPiecesR_any (A : Option Addr) (n c : Nat) (l : List (List UInt8)) (w : World) (hR : rPieces w w.heap.size l [.slice A n c]) :
    Calls Try.prog 31 #[.slice A n c] w fun e w' => e = .returned (.int .i64 (piecesCode l)) ∧ w = w' := by
  have HR := Lib.hid hR
  have hln := hR.len
  have HL := Lib.hid hln
  have hcm := hR.le
  clear hR hln
  obtain ⟨hcm1, hcm2, _⟩ := hcm
  by_cases hn : n > 20000
  · have hc : Hid (piecesCode l = 2) := by unfold piecesCode; rw [HL.out, if_pos hn]; rfl
    go_enter Try.func31, Try.ntmps31
    go_wp2_with fail
    go_loop [3, 8] (fun s i => ∃ (k : Nat) (x : Int), k ≤ n ∧ i = .int .i64 k ∧ s = .int .i64 x) (fun _ i => n - (intOf i).toNat)
    case atStart => exact ⟨0, 0, by omega, rfl, rfl⟩
    case round =>
      obtain ⟨k, x, hk, rfl, rfl⟩ := hrel
      by_cases hlt : k < n
      · obtain ⟨b, o, y, A', m', c', rfl, hb, hy, hc1, hx1⟩ := rPieces_at HR.out hlt
        clear hy hx1
        go_wp2_with fail
        go_round
        case rel => exact ⟨k + 1, _, by omega, by go_num, rfl⟩
        case measure => simp [intOf]; omega
      · obtain rfl : k = n := by omega
        have hd : decide ((k : Int) > 20000) = true := by simp; omega
        go_wp2_with fail
        go_ret
        exact ⟨by rw [hc.out]; rfl, rfl⟩
  · have hc : Hid (piecesCode l = if sumLen l > 2000000 then 2 else 0) := by unfold piecesCode; rw [HL.out, if_neg hn]; rfl
    go_enter Try.func31, Try.ntmps31
    go_wp2_with fail
    go_loop [3, 8] (fun s i => ∃ (k : Nat) (x : Int), k ≤ n ∧ i = .int .i64 k ∧ s = .int .i64 x ∧ 0 ≤ x ∧ x ≤ k * 140737488355328 ∧ Hid (sumLen l = x + sumLen (l.drop k))) (fun _ i => n - (intOf i).toNat)
    case atStart => exact ⟨0, 0, by omega, rfl, rfl, by omega, by omega, by first | exact True.intro | (show _ = _; simp)⟩
    case round =>
      obtain ⟨k, x, hk, rfl, rfl, hx0, hx1, HG⟩ := hrel
      by_cases hlt : k < n
      · obtain ⟨b, o, y, A', m', c', rfl, hb, hy, hc1, hy1⟩ := rPieces_at HR.out hlt
        have hyl := hy1.le
        have hyn := hy1.len
        have hst : sumLen (l.drop k) = m' + sumLen (l.drop (k + 1)) := by rw [drop_of hy, sumLen_cons, hyn]
        have HT := Lib.hid hst
        clear hy hy1 hyn hst
        obtain ⟨hyl1, hyl2, hyl3⟩ := hyl
        go_wp2_with fail
        go_round
        case rel => exact ⟨k + 1, x + m', by omega, by go_num, rfl, by omega, by push_cast; omega, by rw [HG.out, HT.out]; show _ = _; omega⟩
        case measure => simp [intOf]; omega
      · obtain rfl : k = n := by omega
        have hd : decide ((k : Int) > 20000) = false := by simp; omega
        have hs : Hid (sumLen l = x) := by
          have := HL.out
          rw [HG.out, List.drop_of_length_le (by omega)]
          show _ = _
          simp [sumLen]
        by_cases hbig : x > 2000000
        · go_wp2_with fail
          go_ret
          exact ⟨by rw [hc.out, hs.out, if_pos (by omega)]; rfl, rfl⟩
        · go_wp2_with fail
          go_ret
          exact ⟨by rw [hc.out, hs.out, if_neg (by omega)]; rfl, rfl⟩


set_option maxHeartbeats 400000 in
theorem has_any (A A1 : Option Addr) (n c n1 c1 B : Nat) (l : List (List UInt8)) (s : List UInt8) (w : World) (hR : rPieces w B l [.slice A n c]) (hS : rBytes w B s [.slice A1 n1 c1]) :
    Calls Try.prog 32 #[.slice A n c, .slice A1 n1 c1] w (Qt (.bool (inOld l s)) w) := by
  have HR := Lib.hid hR
  have HS := Lib.hid hS
  have hln := hR.len
  have HL := Lib.hid hln
  have hcm := hR.le
  clear hR hln hS
  obtain ⟨hcm1, hcm2, _⟩ := hcm
  go_enter Try.func32, Try.ntmps32
  go_wp2_with fail
  go_loopw [9] (fun i wr => ∃ (k : Nat), k ≤ n ∧ i = .int .i64 k ∧ Hid (∃ n, wr = w.drewN n) ∧ Hid (inOld (l.take k) s = false)) (fun i _ => n - (intOf i).toNat)
  case atStart => exact ⟨0, by omega, rfl, ⟨0, rfl⟩, by first | exact True.intro | exact rfl⟩
  case round =>
    obtain ⟨k, hk, rfl, HW, HG⟩ := hrel
    by_cases hlt : k < n
    · obtain ⟨nd, hnd⟩ := HW.out
      subst hnd
      have hb : Below B w (w.drewN nd) := drewN_below (Below.refl _ _) nd
      obtain ⟨b, o, y, A', m', c', rfl, hb', hy, hc1, hy1⟩ := rPieces_at (rSl.keep HR.out hb (Nat.le_refl _)) hlt
      have HY := Lib.hid hy
      have HY1 := Lib.hid hy1
      have HT : Hid (l.take (k + 1) = l.take k ++ [y]) := by rw [List.take_add_one, hy]; rfl
      have HS2 := Lib.hid (rSl.keep HS.out hb (Nat.le_refl _))
      clear hy hy1 HW hb
      go_wp2_with fail
      refine (equalBytes_any _ _ _ _ _ _ _ _ _ _ HY1.out HS2.out).mono ?_
      rintro e w' ⟨rfl, n', rfl⟩
      by_cases he : y = s
      · have he' : decide (y = s) = true := by simpa using he
        have HE := Lib.hid he
        clear he
        go_wp2_with fail
        go_ret
        refine ⟨?_, nd + n', rfl⟩
        have : inOld l s = true := by
          have h := List.mem_of_getElem? HY.out
          rw [HE.out] at h
          simpa [inOld] using h
        rw [this]; rfl
      · have he' : decide (y = s) = false := by simpa using he
        have HE := Lib.hid he
        clear he
        go_wp2_with fail
        go_roundw
        case rel =>
          refine ⟨k + 1, by omega, by go_num, ⟨nd + n', rfl⟩, ?_⟩
          show inOld (l.take (k + 1)) s = false
          rw [HT.out]
          have h := HG.out
          have h2 := HE.out
          unfold inOld at *
          simp at h ⊢
          exact ⟨h, fun e => h2 e.symm⟩
        case measure => simp [intOf]; omega
    · obtain rfl : k = n := by omega
      go_wp2_with fail
      go_ret
      obtain ⟨nd, hnd⟩ := HW.out
      refine ⟨?_, nd, hnd⟩
      have h := HG.out
      have hl := HL.out
      rw [List.take_of_length_le (by omega)] at h
      rw [h]; rfl
end Go.Proofs.Yteoojplgchlhcaa
