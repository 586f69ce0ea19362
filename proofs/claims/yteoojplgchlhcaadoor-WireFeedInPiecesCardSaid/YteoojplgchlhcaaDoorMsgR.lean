/-
  The walks of the reference's messages and Messages; SameMessage and SameMessages; the law WireMessagesMatchSpec.
-/
import Derived.Test.YteoojplgchlhcaaDoorMsg
namespace Go.Proofs.YteoojplgchlhcaaDoor
open Go.RowKit
set_option linter.unusedVariables false
set_option linter.unusedSimpArgs false

def PMsgL (l : List Msg) (v : Value) (w' : World) : Prop := ∃ A c, v = .slice A l.length c ∧ rMsgs w' w'.heap.size l [.slice A l.length c]

set_option maxHeartbeats 4000000 in
set_option maxRecDepth 100000 in
theorem messagesIn_any (d : ByteArray) (A : Option Addr) (n c : Nat) (b : List UInt8) (k0 most : Nat) (w : World) (hd : d.size ≤ 140737488355328) (hR : rBytes w w.heap.size b [.slice A n c]) (hn : n ≤ 100000) (hk0n : k0 ≤ n) (hm1 : 1 ≤ most) (hm65 : most ≤ 65536) :
    Calls Tryd.prog 34 #[.string d, .slice A n c, .int .i64 k0, .int .i64 most] w (Ret (PMsgL (msgsOf d b k0 most)) w) := by
  have hln := hR.len
  have hcm := hR.le.1
  have hcm2 := hR.le.2.1
  have HR := Lib.hid hR
  have HL := Lib.hid hln
  clear hR hln
  have hmn := @run_min_int Tryd.prog
  have HO := Lib.hid (ownS.lit1 (R := rMsg) (T := (w.heap.size ≤ ·)) (w := w) (base := w.heap.size) (e := 64) (sz := 5) (x := (1, d, 0, (n : Int), [])) (cs := #[.int .i64 1, .string d, .int .i64 0, .int .i64 n, .slice none 0 0]) (Nat.le_refl _) rfl
    (msg_held hd (by omega) (by omega) (by omega) (fun _ _ _ => rSl.nil_)))
  go_enter Tryd.func34, Tryd.ntmps34
  go_wp2_with fail
  go_loopw [9, 10] (fun ov kv wr => ∃ (k : Nat) (done : List Msg), kv = .int .i64 k ∧ k ≤ n + 65536 ∧ done.length ≤ k + 1 ∧ Below w.heap.size w wr ∧ Hid (ownS 64 5 rMsg (w.heap.size ≤ ·) wr w.heap.size done ov) ∧ Hid (MsgRel d b k0 most done k)) (fun _ kv _ => n - (intOf kv).toNat)
  case atStart => exact ⟨k0, _, rfl, by omega, by simp, (Below.refl _ _).alloc (Nat.le_refl _) _, HO.out, by rw [← HL.out]; exact MsgRel.start⟩
  case round =>
    obtain ⟨k, done, rfl, hk, hdl, hbw, HO2, HG⟩ := hrel
    clear HO
    have hzw := hbw.size
    by_cases hlt : k < n
    · obtain ⟨m, hm'⟩ : ∃ m : Nat, min ((k : Int) + most) (n : Int) = m := ⟨min (k + most) n, by omega⟩
      have hmb : k ≤ m ∧ m ≤ n ∧ m = min (k + most) n := by omega
      obtain ⟨hmb1, hmb2, hmb3⟩ := hmb
      have HM := Lib.hid hmb3
      clear hmb3
      obtain ⟨A4, hA4⟩ : ∃ A4, (if c = k then A else A.map (·.add k)) = A4 := ⟨_, rfl⟩
      have hcut := rSl.cut (rSl.keep HR.out hbw (Nat.le_refl _)) hmb1 hmb2
      rw [Nat.mul_one, hA4] at hcut
      have hch : List.take (m - k) (List.drop k b) = chunk b k most := by unfold chunk; rw [HL.out, ← HM.out]
      rw [hch] at hcut
      have HCut := Lib.hid hcut
      clear hcut hch
      go_wp2_with fail
      refine (cloneBytes_any _ _ _ _ _ _ HCut.out hzw).mono ?_
      rintro e w2 ⟨v, rfl, hb2, ho⟩
      have hlc := HCut.out.len
      obtain ⟨A2, c2, hv⟩ := ho.form
      rw [hlc] at hv
      subst hv
      have hzw2 := hb2.size
      have hbw2 := hbw.trans (hb2.mono hzw)
      have HO3 := Lib.hid (HO2.out.keep hb2)
      have HY := Lib.hid (ho.toP (T := fun _ => False) |>.toHeld (bts := 1) (by rw [ho.len]; omega))
      clear ho hlc hm' hA4
      go_wp2_with (at_builtin; go_loud (refine wpList_push (bts := 64) el_msg rfl _ _ rfl rfl HO3.out rfl rfl rfl (by simp [Value.oneCell']) (msgAt d b most k) ?_ (by unfold maxLen; omega) (by omega) (by omega) ?_; rotate_left; intro g3 cap3 w3 ho hgr hzz))
      · have hbw3 : Below w.heap.size w w3 := hbw2.grown hgr hbw2.size (fun g hg => (HO3.out.block g hg).1)
        have HO4 := Lib.hid ho
        clear ho
        go_wp2_with fail
        go_roundw
        case rel => exact ⟨k + most, done ++ [msgAt d b most k], by go_num, by omega, by simp; omega, hbw3, HO4.out, HG.out.step (by rw [HL.out]; exact hlt) hm1⟩
        case measure => simp [intOf]; omega
      · have h := HY.out
        refine (msg_held hd (by omega) (by omega) (by omega) (Held.mono h fun q hq => ?_))
        obtain ⟨hq1, hq2⟩ := hq
        rcases hq2 with hq2 | hq2
        · exact hq2.elim
        · refine ⟨by omega, hq1, fun e => ?_⟩
          have := HO2.out.block q e
          omega
    · have HF : Hid (msgsOf d b k0 most = done) := by rw [HG.out.fin (by rw [HL.out]; omega)]; rfl
      obtain ⟨A3, c3, hv⟩ := HO2.out.form
      have HRes : Hid (rMsgs wr wr.heap.size done [u9]) := ownS.toSl (bts := 64) HO2.out (by omega)
      subst hv
      clear HO2
      go_wp2_with fail
      go_ret
      refine ⟨_, rfl, hbw, ?_⟩
      rw [HF.out]
      exact ⟨A3, c3, rfl, HRes.out⟩

set_option maxHeartbeats 1000000 in
theorem messagesR_any (d : ByteArray) (A : Option Addr) (n c : Nat) (b : List UInt8) (k0 most : Int) (w : World) (hd : d.size ≤ 140737488355328) (hR : rBytes w w.heap.size b [.slice A n c]) :
    Calls Tryd.prog 12 #[.string d, .slice A n c, .int .i64 k0, .int .i64 most] w (Ret (PMsgs (messages d b k0 most)) w) := by
  have hln := hR.len
  have hcm := hR.le.1
  have hcm2 := hR.le.2.1
  have HR := Lib.hid hR
  have HL := Lib.hid hln
  clear hR hln
  cases hdg : isDig d
  · have HS : Hid (messages d b k0 most = ([], 3)) := by unfold messages contentCode; rw [if_pos hdg]; rfl
    go_enter Tryd.func12, Tryd.ntmps12
    go_wp2_with (go_at_call 32; refine (isDigestR_any _ _ hd).mono ?_; rintro e w1 ⟨rfl, hb1⟩)
    go_ret2
    refine ⟨_, rfl, hb1, ?_⟩
    rw [HS.out]
    exact PMsgs.none_
  by_cases hn : n > 100000
  · have hn' : decide ((n : Int) > 100000) = true := by simp; omega
    have HS : Hid (messages d b k0 most = ([], 2)) := by
      have e : contentCode d n = 2 := by unfold contentCode; rw [if_neg (by simp [hdg]), if_pos hn]
      unfold messages; rw [HL.out, if_pos (by rw [e]; decide), e]; rfl
    go_enter Tryd.func12, Tryd.ntmps12
    go_wp2_with (go_at_call 32; refine (isDigestR_any _ _ hd).mono ?_; rintro e w1 ⟨rfl, hb1⟩)
    go_ret2
    refine ⟨_, rfl, hb1, ?_⟩
    rw [HS.out]
    exact PMsgs.none_
  have hn' : decide ((n : Int) > 100000) = false := by simp; omega
  have H0 : Hid (contentCode d n = 0) := by unfold contentCode; rw [if_neg (by simp [hdg]), if_neg hn]; rfl
  cases hk : inR k0 0 n
  · have HS : Hid (messages d b k0 most = ([], 1)) := by unfold messages; rw [HL.out, if_neg (by simp [H0.out]), if_pos hk]; rfl
    go_enter Tryd.func12, Tryd.ntmps12
    go_wp2_with fail
    refine (isDigestR_any _ _ hd).mono ?_
    rintro e w1 ⟨rfl, hb1⟩
    go_wp2_with (go_at_call 33; refine (withinR_any _ _ _ _).mono ?_; rintro e w' ⟨rfl, rfl⟩)
    go_ret2
    refine ⟨_, rfl, hb1, ?_⟩
    rw [HS.out]
    exact PMsgs.none_
  cases hm : inR most 1 65536
  · have HS : Hid (messages d b k0 most = ([], 1)) := by unfold messages; rw [HL.out, if_neg (by simp [H0.out]), if_neg (by simp [hk]), if_pos hm]; rfl
    go_enter Tryd.func12, Tryd.ntmps12
    go_wp2_with fail
    refine (isDigestR_any _ _ hd).mono ?_
    rintro e w1 ⟨rfl, hb1⟩
    go_wp2_with (go_at_call 33; refine (withinR_any _ _ _ _).mono ?_; rintro e w' ⟨rfl, rfl⟩)
    go_ret2
    refine ⟨_, rfl, hb1, ?_⟩
    rw [HS.out]
    exact PMsgs.none_
  have HS0 : messages d b k0 most = (msgsOf d b k0.toNat most.toNat, 0) := by unfold messages; rw [HL.out, if_neg (by simp [H0.out]), if_neg (by simp [hk]), if_neg (by simp [hm])]
  have hk2 : 0 ≤ k0 ∧ k0 ≤ n := by simpa [inR] using hk
  have hm2 : 1 ≤ most ∧ most ≤ 65536 := by simpa [inR] using hm
  obtain ⟨k0, rfl⟩ := Int.eq_ofNat_of_zero_le hk2.1
  obtain ⟨most, rfl⟩ := Int.eq_ofNat_of_zero_le (show 0 ≤ most by omega)
  rw [Int.toNat_natCast, Int.toNat_natCast] at HS0
  have HS := Lib.hid HS0
  obtain ⟨hm21, hm22⟩ := hm2
  obtain ⟨hk21, hk22⟩ := hk2
  clear HS0
  go_enter Tryd.func12, Tryd.ntmps12
  go_wp2_with fail
  refine (isDigestR_any _ _ hd).mono ?_
  rintro e w1 ⟨rfl, hb1⟩
  go_wp2_with (go_at_call 33; refine (withinR_any _ _ _ _).mono ?_; rintro e w' ⟨rfl, rfl⟩)
  refine (messagesIn_any d A n c b k0 most _ hd (rSl.keep HR.out hb1 hb1.size) (by omega) (by omega) (by omega) (by omega)).mono ?_
  rintro e w2 ⟨v, rfl, hb2, A3, c3, rfl, hres⟩
  have HRes := Lib.hid hres
  clear hres
  go_wp2_with fail
  go_ret2
  refine ⟨_, rfl, hb1.trans (hb2.mono hb1.size), ?_⟩
  rw [HS.out]
  exact ⟨A3, c3, rfl, HRes.out⟩

theorem rMsgs_at {w : World} {B n c k : Nat} {A : Option Addr} {l : List Msg} (h : rMsgs w B l [.slice A n c]) (hk : k < n) :
    ∃ b o kd d f s bs A' m c', A = some ⟨b, o, none⟩ ∧ b < B ∧ l[k]? = some (kd, d, f, s, bs) ∧ w.cell? ⟨b, o + k * 5, none⟩ = some (.int .i64 kd) ∧ w.cell? ⟨b, o + k * 5 + 1, none⟩ = some (.string d) ∧ w.cell? ⟨b, o + k * 5 + 2, none⟩ = some (.int .i64 f) ∧
      w.cell? ⟨b, o + k * 5 + 3, none⟩ = some (.int .i64 s) ∧ w.cell? ⟨b, o + k * 5 + 4, none⟩ = some (.slice A' m c') ∧ rBytes w B bs [.slice A' m c'] ∧ d.size ≤ 140737488355328 := by
  obtain ⟨b, o, ⟨kd, d, f, s, bs⟩, vs, hA, hb, hl, hs, ⟨c1, r1, rfl, ⟨rfl, _⟩, c2, r2, rfl, ⟨rfl, h2⟩, c3, r3, rfl, ⟨rfl, _⟩, c4, r4, rfl, ⟨rfl, _⟩, h5⟩, hc⟩ := rSl.at_ h hk
  obtain ⟨A', c', rfl, h6⟩ := rSl.form h5
  exact ⟨b, o, kd, d, f, s, bs, A', bs.length, c', hA, hb, hl, hc 0 _ rfl, hc 1 _ rfl, hc 2 _ rfl, hc 3 _ rfl, hc 4 _ rfl, h5, h2⟩

set_option maxHeartbeats 1000000 in
theorem sameMessage_same (kd f s : Int) (d : ByteArray) (bs : List UInt8) (A1 A2 : Option Addr) (m1 m2 c1 c2 B : Nat) (w : World) (h1 : rBytes w B bs [.slice A1 m1 c1]) (h2 : rBytes w B bs [.slice A2 m2 c2]) (hB : B ≤ w.heap.size) :
    Calls Tryd.prog 35 #[.agg #[.int .i64 kd, .string d, .int .i64 f, .int .i64 s, .slice A1 m1 c1], .agg #[.int .i64 kd, .string d, .int .i64 f, .int .i64 s, .slice A2 m2 c2]] w fun e w' => e = .returned (.bool true) ∧ Below w.heap.size w w' := by
  have e1 : (kd == kd) = true := beq_self_eq_true _
  have e2 : (d.toList == d.toList) = true := beq_self_eq_true _
  have e3 : (f == f) = true := beq_self_eq_true _
  have e4 : (s == s) = true := beq_self_eq_true _
  have e5 : decide (bs = bs) = true := by simp
  have hb1 : ∀ o1 o2, Below w.heap.size w ((w.alloc o1).alloc o2) := fun o1 o2 => ((Below.refl _ _).alloc (Nat.le_refl _) _).alloc (by simp) _
  have H1 := Lib.hid h1
  have H2 := Lib.hid h2
  have HB1 := Lib.hid hb1
  clear h1 h2 hb1
  go_enter Tryd.func35, Tryd.ntmps35
  go_wp2_with fail
  refine (equalBytes_any _ _ _ _ _ _ _ _ _ _ (rSl.keep H1.out ((HB1.out _ _).mono hB) (Nat.le_refl _)) (rSl.keep H2.out ((HB1.out _ _).mono hB) (Nat.le_refl _))).mono ?_
  rintro e w' ⟨rfl, q, rfl⟩
  go_wp2_with fail
  go_ret
  exact ⟨rfl, drewN_below (HB1.out _ _) q⟩

abbrev msgCells (w : World) (b o k : Nat) (kd : Int) (d : ByteArray) (f s : Int) (v : Value) : Prop :=
  w.cell? ⟨b, o + k * 5, none⟩ = some (.int .i64 kd) ∧ w.cell? ⟨b, o + k * 5 + 1, none⟩ = some (.string d) ∧ w.cell? ⟨b, o + k * 5 + 2, none⟩ = some (.int .i64 f) ∧ w.cell? ⟨b, o + k * 5 + 3, none⟩ = some (.int .i64 s) ∧ w.cell? ⟨b, o + k * 5 + 4, none⟩ = some v
theorem msgCells.below {w w' : World} {B b o k : Nat} {kd f s : Int} {d : ByteArray} {v : Value} (h : msgCells w b o k kd d f s v) (hb : Below B w w') (hlt : b < B) : msgCells w' b o k kd d f s v := by
  have hc := (bcell hb).1
  exact ⟨(hc _ _ hlt).trans h.1, (hc _ _ hlt).trans h.2.1, (hc _ _ hlt).trans h.2.2.1, (hc _ _ hlt).trans h.2.2.2.1, (hc _ _ hlt).trans h.2.2.2.2⟩

set_option maxHeartbeats 1000000 in
theorem sameMessages_same (A1 A2 : Option Addr) (n c1 c2 : Nat) (l : List Msg) (w : World) (h1 : rMsgs w w.heap.size l [.slice A1 n c1]) (h2 : rMsgs w w.heap.size l [.slice A2 n c2]) :
    Calls Tryd.prog 13 #[.slice A1 n c1, .slice A2 n c2] w fun e w' => e = .returned (.bool true) ∧ Below w.heap.size w w' := by
  have hm1 := h1.le.2.1
  have hm1' := h1.le.1
  have H1 := Lib.hid h1
  have H2 := Lib.hid h2
  clear h1 h2
  have hne : ((n : Int) != (n : Int)) = false := bne_self_eq_false _
  go_enter Tryd.func13, Tryd.ntmps13
  go_wp2_with fail
  go_loopw [13] (fun i wr => ∃ k : Nat, k ≤ n ∧ i = .int .i64 k ∧ Below w.heap.size w wr) (fun i _ => n - (intOf i).toNat)
  case atStart => exact ⟨0, by omega, rfl, Below.refl _ _⟩
  case round =>
    obtain ⟨k, hk, rfl, hbw⟩ := hrel
    have hzw := hbw.size
    by_cases hlt : k < n
    · obtain ⟨b1, o1, kd, d, f, s, bs, A1', m1, c1', rfl, hb1, hx1, p0, p1, p2, p3, p4, pb, hd⟩ := rMsgs_at (rSl.keep H1.out hbw hzw) hlt
      obtain ⟨b2, o2, kd2, d2, f2, s2, bs2, A2', m2, c2', rfl, hb2, hx2, q0, q1, q2, q3, q4, qb, _⟩ := rMsgs_at (rSl.keep H2.out hbw hzw) hlt
      have hxx := hx1.symm.trans hx2
      simp only [Option.some.injEq, Prod.mk.injEq] at hxx
      obtain ⟨rfl, rfl, rfl, rfl, rfl⟩ := hxx
      have PB := Lib.hid pb
      have QB := Lib.hid qb
      have e2 : ((k : Int)).toNat = k := by omega
      have e3 : (0 : Int) ≤ (k : Int) := by omega
      have e5 : (k : Int) < n := by omega
      clear hx1 hx2 pb qb
      have P := Lib.hid (show msgCells wr b1 o1 k kd d f s (.slice A1' m1 c1') from ⟨p0, p1, p2, p3, p4⟩)
      have Q := Lib.hid (show msgCells wr b2 o2 k kd d f s (.slice A2' m2 c2') from ⟨q0, q1, q2, q3, q4⟩)
      clear p0 p1 p2 p3 p4 q0 q1 q2 q3 q4
      go_wp2_with fail
      go_region_held3 (fun w' => msgCells w' b1 o1 k kd d f s (.slice A1' m1 c1') ∧ msgCells w' b2 o2 k kd d f s (.slice A2' m2 c2'))
        (first | exact ⟨P.out, Q.out⟩ | exact ⟨msgCells.below (w := wr.drew) P.out hb4 hb1, msgCells.below (w := wr.drew) Q.out hb4 hb2⟩)
        (first | (go_at_call 35; refine (sameMessage_same kd f s d bs A1' A2' m1 m2 c1' c2' wr.heap.size _ (by exact rSl.keep PB.out (Below.refl _ _).drew (Nat.le_refl _)) (by exact rSl.keep QB.out (Below.refl _ _).drew (Nat.le_refl _)) (by exact Nat.le_refl _)).mono ?_; rintro e w4 ⟨rfl, hb4⟩))
      all_goals (
        go_wp2_with fail
        go_roundw
        case rel => exact ⟨k + 1, by omega, by go_num, (Below.drew hbw).trans (Below.mono hb4 hzw)⟩
        case measure => (simp [intOf]; omega)
        )
    · obtain rfl : k = n := by omega
      go_wp2_with fail
      go_ret
      exact ⟨rfl, hbw⟩

set_option maxHeartbeats 1000000 in
theorem messagesMatch_any (d : ByteArray) (A : Option Addr) (n c : Nat) (b : List UInt8) (k0 most : Int) (w : World) (hd : d.size ≤ 140737488355328) (hR : rBytes w w.heap.size b [.slice A n c]) :
    Calls Tryd.prog 4 #[.string d, .slice A n c, .int .i64 k0, .int .i64 most] w fun e w' => e = .returned (.bool true) ∧ Below w.heap.size w w' := by
  have HR := Lib.hid hR
  clear hR
  go_enter Tryd.func4, Tryd.ntmps4
  go_wp2_with fail
  refine (messages_any _ _ _ _ _ _ _ _ hd HR.out).mono ?_
  rintro e w1 ⟨v1, rfl, hb1, A1, c1, rfl, r1⟩
  have R1 := Lib.hid r1
  clear r1
  go_wp2_with fail
  refine (messagesR_any _ _ _ _ _ _ _ _ hd (rSl.keep HR.out hb1 hb1.size)).mono ?_
  rintro e w2 ⟨v2, rfl, hb2, A2, c2, rfl, r2⟩
  have R2 := Lib.hid r2
  have hb12 := hb1.trans (hb2.mono hb1.size)
  have hee : ((messages d b k0 most).2 == (messages d b k0 most).2) = true := beq_self_eq_true _
  clear r2
  generalize messages d b k0 most = p at R1 R2 hee ⊢
  go_wp2_with fail
  refine (sameMessages_same _ _ _ _ _ _ _ (rSl.keep R1.out hb2 hb2.size) R2.out).mono ?_
  rintro e w3 ⟨rfl, hb3⟩
  go_wp2_with (go_at_call 10; refine (awake_any _).mono ?_; rintro e w7 ⟨rfl, hb7⟩)
  go_ret
  have hb13 := hb12.trans (hb3.mono hb12.size)
  exact ⟨rfl, hb13.trans (hb7.mono hb13.size)⟩
end Go.Proofs.YteoojplgchlhcaaDoor
