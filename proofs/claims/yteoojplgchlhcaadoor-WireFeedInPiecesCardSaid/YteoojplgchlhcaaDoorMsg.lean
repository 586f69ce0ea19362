/-
  Messages: what they stand for; the walks of checkContent, dataFrom, Messages (wire's and the reference's).
-/
import Derived.Test.YteoojplgchlhcaaDoorHeld
import Derived.Test.YteoojplgchlhcaaDoorDigest
import Derived.Test.YteoojplgchlhcaaDoorBytes
namespace Go.Proofs.YteoojplgchlhcaaDoor
open Go.RowKit
set_option linter.unusedVariables false
set_option linter.unusedSimpArgs false

abbrev Msg := Int × ByteArray × Int × Int × List UInt8
abbrev rMsg : Rep Msg := rPair (rI .i64) (rPair rStr (rPair (rI .i64) (rPair (rI .i64) rBytes)))
def rMsgs : Rep (List Msg) := rSl 5 64 rMsg
theorem el_byte : ElemOk Tryd.prog 32 5 1 1 := .mk' (z := .int .u8 0) Tryd.underlying32 (by kernel_rfl) rfl (by decide)
theorem el_msg : ElemOk Tryd.prog 33 64 5 64 := .mk' (z := .agg #[.int .i64 0, .string ⟨#[]⟩, .int .i64 0, .int .i64 0, .slice none 0 0]) Tryd.underlying33 (by kernel_rfl) rfl (by decide)

theorem cloneBytes_any (A : Option Addr) (n c B : Nat) (l : List (UInt8)) (w : World) (hR : rSl 1 1 (rByte) w B l [.slice A n c]) (hB : B ≤ w.heap.size) :
    Calls Tryd.prog 41 #[.slice A n c] w (Ret (fun v w' => ownSl 5 1 (rByte) w' w.heap.size B l v) w) := by
  have HR := Lib.hid hR
  have hcm := hR.le
  have hln := hR.len
  have HL := Lib.hid hln
  clear hR hln
  obtain ⟨hcm1, hcm2, hcm3⟩ := hcm
  have hnil := fun (w : World) (A : Option Addr) (n c : Nat) => Lib.run_eql_slice_nil (P := Tryd.prog) w 32 5 A n c 0 0 Tryd.underlying32
  rcases A with _ | a
  · have hn0 : n = 0 := by
      obtain ⟨_, _, _, h4, _⟩ := HR.out.cellsOf (by decide)
      exact h4 rfl
    go_enter Tryd.func41, Tryd.ntmps41
    go_wp2_with fail
    go_ret
    have hl0 : l = [] := List.eq_nil_of_length_eq_zero (by rw [HL.out]; exact hn0)
    refine ⟨_, rfl, Below.refl _ _, ?_⟩
    rw [hl0]
    exact ownSl.nil_
  · go_enter Tryd.func41, Tryd.ntmps41
    have hb1 : Below w.heap.size w (w.alloc (.cells #[] 5)) := (Below.refl _ _).alloc (Nat.le_refl _) _
    have HS := Lib.hid (rSl.keep HR.out (hb1.mono hB) (Nat.le_refl _))
    have HO := Lib.hid (ownSl_lit0 (R := rByte) (w := w) (e := 5) (sz := 1) (B := B) (Nat.le_refl _))
    go_wp2_with (at_builtin; go_loud (refine wpList_append_sl el_byte inferInstance inferInstance rfl _ _ rfl rfl HO.out rfl (rSl.src HS.out (by decide)) (by unfold maxLen; simp; omega) (by simp; omega) (by simp) hB ?_); intro v' w1 ho hbe _)
    go_ret
    exact ⟨_, rfl, hb1.trans hbe, by simpa using ho⟩


def contentCode (d : ByteArray) (n : Nat) : Int := if isDig d = false then 3 else if n > 100000 then 2 else 0
theorem checkContent_any (d : ByteArray) (A : Option Addr) (n c : Nat) (w : World) (hs : d.size ≤ 140737488355328) (hn : n ≤ 9223372036854775807) :
    Calls Tryd.prog 30 #[.string d, .slice A n c] w fun e w' => e = .returned (.int .i64 (contentCode d n)) ∧ Below w.heap.size w w' := by
  cases hd : isDig d
  · have HS : Hid (contentCode d n = 3) := by unfold contentCode; rw [if_pos hd]; rfl
    go_enter Tryd.func30, Tryd.ntmps30
    go_wp2_with (go_at_call 36; refine (isDigest_any _ _ hs).mono ?_; rintro e w2 ⟨rfl, hB⟩)
    go_ret
    exact ⟨by rw [HS.out]; rfl, hB⟩
  · by_cases hb : n > 100000
    · have HS : Hid (contentCode d n = 2) := by unfold contentCode; rw [if_neg (by simp [hd]), if_pos hb]; rfl
      have hb' : decide ((n : Int) > 100000) = true := by simp; omega
      go_enter Tryd.func30, Tryd.ntmps30
      go_wp2_with (go_at_call 36; refine (isDigest_any _ _ hs).mono ?_; rintro e w2 ⟨rfl, hB⟩)
      go_ret
      exact ⟨by rw [HS.out]; rfl, hB⟩
    · have HS : Hid (contentCode d n = 0) := by unfold contentCode; rw [if_neg (by simp [hd]), if_neg hb]; rfl
      have hb' : decide ((n : Int) > 100000) = false := by simp; omega
      go_enter Tryd.func30, Tryd.ntmps30
      go_wp2_with (go_at_call 36; refine (isDigest_any _ _ hs).mono ?_; rintro e w2 ⟨rfl, hB⟩)
      go_ret
      exact ⟨by rw [HS.out]; rfl, hB⟩

/-- The bytes of one message. -/
def chunk (b : List UInt8) (k most : Nat) : List UInt8 := (b.drop k).take (min (k + most) b.length - k)
def msgAt (d : ByteArray) (b : List UInt8) (most k : Nat) : Msg := (2, d, k, 0, chunk b k most)
def PData (d : ByteArray) (b : List UInt8) (k most : Nat) (w : World) (v : Value) (w' : World) : Prop :=
  ∃ A' m c', v = .agg #[.int .i64 2, .string d, .int .i64 k, .int .i64 0, .slice A' m c'] ∧ ownSl 5 1 rByte w' w.heap.size w.heap.size (chunk b k most) (.slice A' m c')

set_option maxHeartbeats 1000000 in
theorem dataFrom_any (d : ByteArray) (A : Option Addr) (n c k most : Nat) (b : List UInt8) (w : World) (hR : rBytes w w.heap.size b [.slice A n c]) (hk : k ≤ n) (hm : most ≤ 65536) (hn : n ≤ 100000) :
    Calls Tryd.prog 31 #[.string d, .slice A n c, .int .i64 k, .int .i64 most] w (Ret (PData d b k most w) w) := by
  have hln := hR.len
  have hcm := hR.le.1
  have hcm2 := hR.le.2.1
  have HR := Lib.hid hR
  have HL := Lib.hid hln
  clear hR hln
  have hmn := @run_min_int Tryd.prog
  obtain ⟨m, hm'⟩ : ∃ m : Nat, min ((k : Int) + most) (n : Int) = m := ⟨min (k + most) n, by omega⟩
  have hmb : k ≤ m ∧ m ≤ n ∧ m = min (k + most) n := by omega
  obtain ⟨hmb1, hmb2, hmb3⟩ := hmb
  have HM := Lib.hid hmb3
  have HM' := Lib.hid hm'
  clear hmb3
  obtain ⟨A4, hA4⟩ : ∃ A4, (if c = k then A else A.map (·.add k)) = A4 := ⟨_, rfl⟩
  have hb1 : Below w.heap.size w (w.alloc (.cells #[.int .i64 0, .string ⟨#[]⟩, .int .i64 0, .int .i64 0, .slice none 0 0] 64)) := (Below.refl _ _).alloc (Nat.le_refl _) _
  have hcut := rSl.cut (rSl.keep HR.out hb1 (Nat.le_refl _)) hmb1 hmb2
  rw [Nat.mul_one, hA4] at hcut
  have HCut := Lib.hid hcut
  clear hcut
  go_enter Tryd.func31, Tryd.ntmps31
  go_wp2_with fail
  refine (cloneBytes_any _ _ _ _ _ _ HCut.out (by simp)).mono ?_
  rintro e w2 ⟨v, rfl, hb2, ho⟩
  have hch : List.take (m - k) (List.drop k b) = chunk b k most := by unfold chunk; rw [HL.out, ← HM.out]
  rw [hch] at ho
  obtain ⟨A2, c2, hv⟩ := ho.form
  generalize hm2 : (chunk b k most).length = m2 at hv
  subst hv
  have HO := Lib.hid ho
  clear ho hm2 hch
  simp only [World.size_alloc] at hb2
  obtain ⟨hcc, hff⟩ := bcell hb2
  have hz := hb2.size
  simp only [World.size_alloc] at hz
  go_wp2_with fail
  refine bodyPost_ret (v := .agg #[.int .i64 2, .string d, .int .i64 k, .int .i64 0, .slice A2 m2 c2]) (by simp [results, Tryd.results31, go_sem, hcc, hff, hz]) rfl ?_
  generalize hW : World.setCell _ _ _ = W
  have hg : w2.grownBy W (some w.heap.size) := by rw [← hW]; repeat (first | exact grown_refl | refine grown_set ?_)
  refine ⟨_, rfl, (hb1.trans (hb2.mono (by omega))).grown hg (by omega) (by simp), A2, m2, c2, rfl, ?_⟩
  have ho := HO.out
  simp only [World.size_alloc] at ho
  exact (ho.keepB fun q h1 h2 => hg.block q h2 (by simp; omega)).base (by omega)

def chunksGo (d : ByteArray) (b : List UInt8) (most : Nat) : Nat → Nat → List Msg
  | 0, _ => []
  | f + 1, k => if k < b.length then msgAt d b most k :: chunksGo d b most f (k + most) else []
def msgsOf (d : ByteArray) (b : List UInt8) (k most : Nat) : List Msg := (1, d, 0, b.length, []) :: chunksGo d b most b.length k
def messages (d : ByteArray) (b : List UInt8) (k most : Int) : List Msg × Int :=
  if contentCode d b.length ≠ 0 then ([], contentCode d b.length) else if inR k 0 b.length = false then ([], 1) else if inR most 1 65536 = false then ([], 1) else (msgsOf d b k.toNat most.toNat, 0)
def PMsgs (p : List Msg × Int) (v : Value) (w' : World) : Prop :=
  ∃ A c, v = .tuple #[.slice A p.1.length c, .int .i64 p.2] ∧ rMsgs w' w'.heap.size p.1 [.slice A p.1.length c]
theorem PMsgs.none_ {code : Int} {w' : World} : PMsgs ([], code) (.tuple #[.slice none 0 0, .int .i64 code]) w' := ⟨none, 0, rfl, rSl.nil_⟩
theorem contentCode_ok {d : ByteArray} {n : Nat} (h : contentCode d n = 0) : isDig d = true ∧ n ≤ 100000 := by
  unfold contentCode at h
  split at h
  · omega
  · split at h
    · omega
    · rename_i h1 h2
      exact ⟨by simpa using h1, by omega⟩
theorem chunksGo_end {d : ByteArray} {b : List UInt8} {most : Nat} : ∀ {f k : Nat}, b.length ≤ k → chunksGo d b most f k = [] := by
  intro f k h
  cases f with
  | zero => rfl
  | succ f => rw [chunksGo, if_neg (by omega)]
theorem msg_held {d : ByteArray} {w : World} {S : Nat → Prop} {B m c : Nat} {A : Option Addr} {kd f s : Int} {l : List UInt8} (hd : d.size ≤ 140737488355328) (h1 : -9223372036854775808 ≤ kd ∧ kd ≤ 9223372036854775807) (h2 : -9223372036854775808 ≤ f ∧ f ≤ 9223372036854775807)
    (h3 : -9223372036854775808 ≤ s ∧ s ≤ 9223372036854775807) (hb : Held rBytes S w B l [.slice A m c]) : Held rMsg S w B (kd, d, f, s, l) [.int .i64 kd, .string d, .int .i64 f, .int .i64 s, .slice A m c] := by
  have p0 : Held (rI .i64) S w B kd [.int .i64 kd] := Held.of_pure (w := w) (B := B) ⟨rfl, wf64_of h1.1 h1.2⟩
  have p1 : Held rStr S w B d [.string d] := Held.of_pure (w := w) (B := B) ⟨rfl, hd⟩
  have p2 : Held (rI .i64) S w B f [.int .i64 f] := Held.of_pure (w := w) (B := B) ⟨rfl, wf64_of h2.1 h2.2⟩
  have p3 : Held (rI .i64) S w B s [.int .i64 s] := Held.of_pure (w := w) (B := B) ⟨rfl, wf64_of h3.1 h3.2⟩
  exact p0.pair (p1.pair (p2.pair (p3.pair hb)))
/-- The loop's end and one round. -/
def MsgRel (d : ByteArray) (b : List UInt8) (k0 most : Nat) (done : List Msg) (k : Nat) : Prop := ∃ f, b.length - k ≤ f ∧ msgsOf d b k0 most = done ++ chunksGo d b most f k
theorem MsgRel.start {d : ByteArray} {b : List UInt8} {k0 most : Nat} : MsgRel d b k0 most [(1, d, 0, b.length, [])] k0 := ⟨b.length, by omega, rfl⟩
theorem MsgRel.step {d : ByteArray} {b : List UInt8} {k0 most k : Nat} {done : List Msg} (h : MsgRel d b k0 most done k) (hk : k < b.length) (hm : 1 ≤ most) : MsgRel d b k0 most (done ++ [msgAt d b most k]) (k + most) := by
  obtain ⟨f, h1, h2⟩ := h
  cases f with
  | zero => omega
  | succ f => exact ⟨f, by omega, by rw [h2, chunksGo, if_pos hk]; simp⟩
theorem MsgRel.fin {d : ByteArray} {b : List UInt8} {k0 most k : Nat} {done : List Msg} (h : MsgRel d b k0 most done k) (hk : b.length ≤ k) : msgsOf d b k0 most = done := by
  obtain ⟨f, h1, h2⟩ := h
  rw [h2, chunksGo_end hk]; simp

set_option maxHeartbeats 4000000 in
set_option maxRecDepth 100000 in
theorem messages_any (d : ByteArray) (A : Option Addr) (n c : Nat) (b : List UInt8) (k0 most : Int) (w : World) (hd : d.size ≤ 140737488355328) (hR : rBytes w w.heap.size b [.slice A n c]) :
    Calls Tryd.prog 11 #[.string d, .slice A n c, .int .i64 k0, .int .i64 most] w (Ret (PMsgs (messages d b k0 most)) w) := by
  have hln := hR.len
  have hcm := hR.le.1
  have hcm2 := hR.le.2.1
  have HR := Lib.hid hR
  have HL := Lib.hid hln
  clear hR hln
  by_cases h0 : contentCode d n = 0
  rotate_left
  · have h0' : (contentCode d n != 0) = true := by simpa using h0
    have HS : Hid (messages d b k0 most = ([], contentCode d n)) := by unfold messages; rw [HL.out, if_pos h0]; rfl
    clear h0
    go_enter Tryd.func11, Tryd.ntmps11
    go_wp2_with (go_at_call 30; refine (checkContent_any _ _ _ _ _ hd (by omega)).mono ?_; rintro e w1 ⟨rfl, hb1⟩)
    go_ret2
    refine ⟨_, rfl, hb1, ?_⟩
    rw [HS.out]
    exact PMsgs.none_
  have h0' : (contentCode d n != 0) = false := by simp [h0]
  have hn := (contentCode_ok h0).2
  cases hk : inR k0 0 n
  · have HS : Hid (messages d b k0 most = ([], 1)) := by unfold messages; rw [HL.out, if_neg (by simp [h0]), if_pos hk]; rfl
    clear h0
    go_enter Tryd.func11, Tryd.ntmps11
    go_wp2_with fail
    refine (checkContent_any _ _ _ _ _ hd (by omega)).mono ?_
    rintro e w1 ⟨rfl, hb1⟩
    go_wp2_with (go_at_call 28; refine (within_any _ _ _ _).mono ?_; rintro e w' ⟨rfl, rfl⟩)
    go_ret2
    refine ⟨_, rfl, hb1, ?_⟩
    rw [HS.out]
    exact PMsgs.none_
  cases hm : inR most 1 65536
  · have HS : Hid (messages d b k0 most = ([], 1)) := by unfold messages; rw [HL.out, if_neg (by simp [h0]), if_neg (by simp [hk]), if_pos hm]; rfl
    clear h0
    go_enter Tryd.func11, Tryd.ntmps11
    go_wp2_with fail
    refine (checkContent_any _ _ _ _ _ hd (by omega)).mono ?_
    rintro e w1 ⟨rfl, hb1⟩
    go_wp2_with (go_at_call 28; refine (within_any _ _ _ _).mono ?_; rintro e w' ⟨rfl, rfl⟩)
    go_ret2
    refine ⟨_, rfl, hb1, ?_⟩
    rw [HS.out]
    exact PMsgs.none_
  have HS0 : messages d b k0 most = (msgsOf d b k0.toNat most.toNat, 0) := by unfold messages; rw [HL.out, if_neg (by simp [h0]), if_neg (by simp [hk]), if_neg (by simp [hm])]
  have hk2 : 0 ≤ k0 ∧ k0 ≤ n := by simpa [inR] using hk
  have hm2 : 1 ≤ most ∧ most ≤ 65536 := by simpa [inR] using hm
  obtain ⟨k0, rfl⟩ := Int.eq_ofNat_of_zero_le hk2.1
  obtain ⟨most, rfl⟩ := Int.eq_ofNat_of_zero_le (show 0 ≤ most by omega)
  rw [Int.toNat_natCast, Int.toNat_natCast] at HS0
  have HS := Lib.hid HS0
  obtain ⟨hm21, hm22⟩ := hm2
  obtain ⟨hk21, hk22⟩ := hk2
  clear HS0 h0
  have hm1 : 1 ≤ most := by omega
  have hm65 : most ≤ 65536 := by omega
  have hk0n : k0 ≤ n := by omega
  go_enter Tryd.func11, Tryd.ntmps11
  go_wp2_with fail
  refine (checkContent_any _ _ _ _ _ hd (by omega)).mono ?_
  rintro e w1 ⟨rfl, hb1⟩
  go_wp2_with (go_at_call 28; refine (within_any _ _ _ _).mono ?_; rintro e w' ⟨rfl, rfl⟩)
  have hz1 := hb1.size
  have HO := Lib.hid (ownS.lit1 (R := rMsg) (T := (w.heap.size ≤ ·)) (w := w1) (base := w.heap.size) (e := 64) (sz := 5) (x := (1, d, 0, (n : Int), [])) (cs := #[.int .i64 1, .string d, .int .i64 0, .int .i64 n, .slice none 0 0]) hz1 rfl
    (msg_held hd (by omega) (by omega) (by omega) (fun _ _ _ => rSl.nil_)))
  go_loopw [2, 11] (fun kv ov wr => ∃ (k : Nat) (done : List Msg), kv = .int .i64 k ∧ k ≤ n + 65536 ∧ done.length ≤ k + 1 ∧ Below w.heap.size w wr ∧ Hid (ownS 64 5 rMsg (w.heap.size ≤ ·) wr w.heap.size done ov) ∧ Hid (MsgRel d b k0 most done k)) (fun kv _ _ => n - (intOf kv).toNat)
  case atStart => exact ⟨k0, _, rfl, by omega, by simp, hb1.alloc hz1 _, HO.out, by rw [← HL.out]; exact MsgRel.start⟩
  case round =>
    obtain ⟨k, done, rfl, hk, hdl, hbw, HO2, HG⟩ := hrel
    clear HO
    have hzw := hbw.size
    by_cases hlt : k < n
    · go_wp2_with fail
      refine (dataFrom_any d A n c k most b _ (rSl.keep HR.out hbw hbw.size) (by omega) hm65 hn).mono ?_
      rintro e w2 ⟨v, rfl, hb2, A2, m2, c2, rfl, ho⟩
      have hzw2 := hb2.size
      have hbw2 := hbw.trans (hb2.mono hzw)
      have HO3 := Lib.hid (HO2.out.keep hb2)
      have hmb : m2 ≤ 100000 := by have := ho.len; have h2 := HL.out; unfold chunk at this; simp at this; omega
      have HY := Lib.hid (ho.toP (T := fun _ => False) |>.toHeld (bts := 1) (by rw [ho.len]; omega))
      have HLe := Lib.hid ho.len
      clear ho
      go_wp2_with (at_builtin; go_loud (refine wpList_push (bts := 64) el_msg rfl _ _ rfl rfl HO3.out rfl rfl rfl (by simp [Value.oneCell']) (msgAt d b most k) ?_ (by unfold maxLen; omega) (by omega) (by omega) ?_; rotate_left; intro g3 cap3 w3 ho hgr hzz))
      · have hbw3 : Below w.heap.size w w3 := hbw2.grown hgr hbw2.size (fun g hg => (HO3.out.block g hg).1)
        have HO4 := Lib.hid ho
        clear ho
        go_wp2_with fail
        go_roundw
        case rel => exact ⟨k + most, done ++ [msgAt d b most k], by go_num, by omega, by simp; omega, hbw3, HO4.out, HG.out.step (by rw [HL.out]; exact hlt) hm1⟩
        case measure => simp [intOf]; omega
      · have h := HY.out
        refine (msg_held hd (by omega) (by omega) (by omega) (Held.mono h fun q hq => ?_))
        obtain ⟨hq1, hq2⟩ := hq
        rcases hq2 with hq2 | hq2
        · exact hq2.elim
        · refine ⟨by omega, hq1, fun e => ?_⟩
          have := HO2.out.block q e
          omega
    · have HF : Hid (messages d b k0 most = (done, 0)) := by rw [HS.out, HG.out.fin (by rw [HL.out]; omega)]; rfl
      obtain ⟨A3, c3, hv⟩ := HO2.out.form
      have HRes : Hid (rMsgs wr wr.heap.size done [u11]) := ownS.toSl (bts := 64) HO2.out (by omega)
      subst hv
      clear HO2
      go_wp2_with fail
      go_ret2
      refine ⟨_, rfl, hbw, ?_⟩
      rw [HF.out]
      exact ⟨A3, c3, rfl, HRes.out⟩
end Go.Proofs.YteoojplgchlhcaaDoor
