/-
  What Frames gives; the walk of wire.Frames.
-/
import Derived.Test.YteoojplgchlhcaaDoorFeed1
import Derived.Test.YteoojplgchlhcaaDoorApp
namespace Go.Proofs.YteoojplgchlhcaaDoor
open Go.RowKit
set_option linter.unusedVariables false
set_option linter.unusedSimpArgs false

def mCode (m : Msg) : Int := msgCode m.1 m.2.1 m.2.2.1 m.2.2.2.1 m.2.2.2.2.length
def framesGo : List Msg → Int
  | [] => 0
  | m :: r => if mCode m ≠ 0 then mCode m else framesGo r
def be4 (n : Nat) : List UInt8 := [UInt8.ofNat (n / 16777216), UInt8.ofNat (n / 65536), UInt8.ofNat (n / 256), UInt8.ofNat n]
def be3 (n : Nat) : List UInt8 := [UInt8.ofNat (n / 65536), UInt8.ofNat (n / 256), UInt8.ofNat n]
def frameOf (m : Msg) : List UInt8 := UInt8.ofNat m.1.toNat :: (m.2.1.data.toList ++ (be4 (m.2.2.1 + m.2.2.2.1).toNat ++ (be3 m.2.2.2.2.length ++ m.2.2.2.2)))
def frames (l : List Msg) : List UInt8 × Int := if l.length > 20000 then ([], 2) else if framesGo l ≠ 0 then ([], framesGo l) else (l.flatMap frameOf, 0)
def PBytes (p : List UInt8 × Int) (v : Value) (w' : World) : Prop :=
  ∃ A c, v = .tuple #[.slice A p.1.length c, .int .i64 p.2] ∧ rBytes w' w'.heap.size p.1 [.slice A p.1.length c]
theorem PBytes.none_ {code : Int} {w' : World} : PBytes ([], code) (.tuple #[.slice none 0 0, .int .i64 code]) w' := ⟨none, 0, rfl, rSl.nil_⟩
theorem framesGo_ok {l : List Msg} (h : framesGo l = 0) : ∀ m ∈ l, mCode m = 0 := by
  induction l with
  | nil => intro m hm; cases hm
  | cons y r ih =>
    rw [framesGo] at h
    by_cases h1 : mCode y = 0
    · rw [if_neg (by simp [h1])] at h
      intro m hm
      rcases List.mem_cons.1 hm with rfl | hm
      · exact h1
      · exact ih h m hm
    · rw [if_pos h1] at h
      exact absurd h h1
theorem framesGo_bad {l : List Msg} {k : Nat} {m : Msg} (h : l[k]? = some m) (hm : mCode m ≠ 0) : framesGo (l.drop k) = mCode m := by rw [drop_of h, framesGo, if_pos hm]
theorem framesGo_next {l : List Msg} {k : Nat} {m : Msg} (h : l[k]? = some m) (hm : mCode m = 0) : framesGo (l.drop k) = framesGo (l.drop (k + 1)) := by rw [drop_of h, framesGo, if_neg (by simp [hm])]
theorem msgCode_ok {k f s many : Int} {d : ByteArray} (h : msgCode k d f s many = 0) : 1 ≤ k ∧ k ≤ 6 ∧ d.size = 16 ∧ 0 ≤ f ∧ f ≤ 2000000 ∧ 0 ≤ s ∧ s ≤ 2000000 ∧ many ≤ 65536 ∧ ((k ≠ 2 ∧ k ≠ 3) → f = 0) ∧ (k ≠ 1 → s = 0) ∧ (k = 2 ↔ 0 < many) := by
  unfold msgCode at h
  split at h
  · omega
  rename_i h1
  split at h
  · omega
  rename_i h2
  split at h
  · omega
  rename_i h3
  split at h
  · omega
  split at h
  · omega
  rename_i h4 h5
  simp only [Bool.not_eq_false, not_or] at h1 h2 h3
  have hd := isDig_size h2
  simp [inR] at h1 h3
  refine ⟨h1.1, h1.2, hd, h3.1.1, h3.1.2, h3.2.1, h3.2.2, by omega, ?_⟩
  omega
theorem framesGo_ok' {l : List Msg} (h : framesGo l = 0) {k : Nat} {m : Msg} (hm : l[k]? = some m) : mCode m = 0 := framesGo_ok h m (List.mem_of_getElem? hm)
theorem frameOf_len {m : Msg} (h : mCode m = 0) : (frameOf m).length = 24 + m.2.2.2.2.length := by
  obtain ⟨_, _, hd, _⟩ := msgCode_ok h
  have e : m.2.1.data.toList.length = 16 := by rw [Array.length_toList]; exact hd
  simp only [frameOf, be4, be3, List.length_cons, List.length_append, List.length_nil, e]
  omega
theorem rByte_of {w : World} {B : Nat} {x : Int} (h0 : 0 ≤ x) (h1 : x ≤ 255) : rByte w B (UInt8.ofNat x.toNat) [.int .u8 x] := by
  have e : ((UInt8.ofNat x.toNat).toNat : Int) = x := by rw [UInt8.toNat_ofNat']; omega
  show [Value.int .u8 x] = [.int .u8 ((UInt8.ofNat x.toNat).toNat : Int)]
  rw [e]
theorem be_vals {x : Int} {m : Nat} (h0 : 0 ≤ x) (h1 : x ≤ 4000000) (hm : m ≤ 65536) :
    ([.int .u8 (x / 16777216), .int .u8 (x / 65536), .int .u8 (x / 256 % 256), .int .u8 (x % 256), .int .u8 ((m : Int) / 65536), .int .u8 ((m : Int) / 256 % 256), .int .u8 ((m : Int) % 256)] : List Value) = (be4 x.toNat ++ be3 m).map fun y => .int .u8 (y.toNat : Int) := by
  simp only [be4, be3, List.cons_append, List.nil_append, List.map_cons, List.map_nil, UInt8.toNat_ofNat', List.cons.injEq, Value.int.injEq, true_and, and_true]
  refine ⟨?_, ?_, ?_, ?_, ?_, ?_, ?_⟩ <;> omega
theorem SrcS.bytes {w : World} {T : Nat → Prop} {g n : Nat} {cs : Array Value} {e : TypeId} {own : Option Nat} {l2 : List UInt8} (hg : w.heap[g]? = some (.cells cs e (0, 0))) (hn : cs.size = n) (h : cs.toList = l2.map fun y => .int .u8 (y.toNat : Int)) : SrcS 1 rByte T w own (some ⟨g, 0, none⟩) n l2 := by
  have hl : l2.length = n := by have := congrArg List.length h; simpa [hn] using this.symm
  refine SrcS.cells (c := 0) hg (fun u hu => ?_) hn hl fun k x hk => ⟨.int .u8 (x.toNat : Int), ?_, rfl⟩
  · rw [h] at hu
    obtain ⟨y, _, rfl⟩ := List.mem_map.1 hu
    rfl
  · rw [h, List.getElem?_map, hk]; rfl
theorem el_byteZ : (Tryd.prog.info? 5).bind (·.zero) = some (.int .u8 0) := by kernel_rfl

set_option maxHeartbeats 4000000 in
set_option maxRecDepth 100000 in
theorem frames_any (A : Option Addr) (n c : Nat) (l : List Msg) (w : World) (hR : rMsgs w w.heap.size l [.slice A n c]) :
    Calls Tryd.prog 24 #[.slice A n c] w (Ret (PBytes (frames l)) w) := by
  have hln := hR.len
  have hcm := hR.le
  have HR := Lib.hid hR
  have HL := Lib.hid hln
  clear hR hln
  obtain ⟨hcm1, hcm2, _⟩ := hcm
  by_cases hg : n > 20000
  · have hg' : decide ((n : Int) > 20000) = true := by simp; omega
    have HF : Hid (frames l = ([], 2)) := by unfold frames; rw [if_pos (by rw [HL.out]; exact hg)]; rfl
    go_enter Tryd.func24, Tryd.ntmps24
    go_wp2_with fail
    go_ret2
    refine ⟨_, rfl, Below.refl _ _, ?_⟩
    rw [HF.out]
    exact PBytes.none_
  have hg' : decide ((n : Int) > 20000) = false := by simp; omega
  have HF : Hid (frames l = if framesGo l ≠ 0 then ([], framesGo l) else (l.flatMap frameOf, 0)) := by unfold frames; rw [if_neg (by rw [HL.out]; exact hg)]; rfl
  go_enter Tryd.func24, Tryd.ntmps24
  go_wp2_with fail
  go_loopw [17] (fun i wr => ∃ k : Nat, k ≤ n ∧ i = .int .i64 k ∧ Below w.heap.size w wr ∧ Hid (framesGo l = framesGo (l.drop k))) (fun i _ => n - (intOf i).toNat)
  case atStart => exact ⟨0, by omega, rfl, Below.refl _ _, rfl⟩
  case round =>
    obtain ⟨k, hk, rfl, hbw, HG⟩ := hrel
    have hzw := hbw.size
    by_cases hlt : k < n
    · obtain ⟨b, o, kd, d, f, s, bs, A', m, c', rfl, hb, hx, p0, p1, p2, p3, p4, pb, hd⟩ := rMsgs_at (rSl.keep HR.out hbw hzw) hlt
      have hlb := pb.len
      have HX := Lib.hid hx
      have HLB := Lib.hid hlb
      have hmc : mCode (kd, d, f, s, bs) = msgCode kd d f s m := by unfold mCode; rw [← hlb]
      have HMC := Lib.hid hmc
      clear hx hlb hmc pb
      by_cases h1 : msgCode kd d f s m = 0
      rotate_left
      · have h1' : (msgCode kd d f s m != 0) = true := by simpa using h1
        have HF2 : Hid (frames l = ([], msgCode kd d f s m)) := by
          have e : framesGo l = msgCode kd d f s m := by rw [HG.out, framesGo_bad HX.out (by rw [HMC.out]; exact h1), HMC.out]
          rw [HF.out, if_pos (by rw [e]; exact h1), e]; rfl
        clear h1
        go_wp2_with fail
        refine (checkMessage_any kd f s m d A' m c' _ hd).mono ?_
        rintro e w2 ⟨rfl, hb2⟩
        go_wp2_with fail
        go_ret2
        refine ⟨_, rfl, (hbw.alloc hzw _).trans (hb2.mono (by simp; omega)), ?_⟩
        rw [HF2.out]
        exact PBytes.none_
      · have h1' : (msgCode kd d f s m != 0) = false := by simp [h1]
        have HN : Hid (framesGo l = framesGo (l.drop (k + 1))) := by rw [HG.out, framesGo_next HX.out (by rw [HMC.out]; exact h1)]; rfl
        clear h1
        go_wp2_with fail
        refine (checkMessage_any kd f s m d A' m c' _ hd).mono ?_
        rintro e w2 ⟨rfl, hb2⟩
        go_wp2_with fail
        go_roundw
        case rel => exact ⟨k + 1, by omega, by go_num, (hbw.alloc hzw _).trans (hb2.mono (by simp; omega)), HN.out⟩
        case measure => simp [intOf]; omega
    · obtain rfl : k = n := by omega
      have H0 : Hid (framesGo l = 0) := by rw [HG.out, List.drop_of_length_le (by rw [HL.out]; exact Nat.le_refl _)]; rfl
      have HF2 : Hid (frames l = (l.flatMap frameOf, 0)) := by rw [HF.out, if_neg (by rw [H0.out]; simp)]; rfl
      clear HG HF
      go_wp2_with fail
      obtain ⟨wo, rfl⟩ : ∃ wo : World, wo = wr := ⟨_, rfl⟩
      go_loopw [7, 32] (fun v i wr => ∃ (j : Nat) (done : List UInt8), j ≤ k ∧ i = .int .i64 j ∧ done.length ≤ 65560 * j ∧ Below w.heap.size w wr ∧ Hid (ownS 5 1 rByte (fun _ => False) wr w.heap.size done v) ∧ Hid (l.flatMap frameOf = done ++ (l.drop j).flatMap frameOf)) (fun _ i _ => k - (intOf i).toNat)
      case atStart => exact ⟨0, [], by omega, rfl, by simp, hbw, ownS.nil_, by simp [Hid]⟩
      case round =>
        obtain ⟨j, done, hj, rfl, hdl, hbw, HO, HG⟩ := hrel
        have hzw := hbw.size
        by_cases hlt2 : j < k
        · obtain ⟨b, o, kd, d, f, s, bs, A', m, c', rfl, hb0, hx, p0, p1, p2, p3, p4, pb, hd⟩ := rMsgs_at HR.out hlt2
          have hb := Nat.lt_of_lt_of_le hb0 hzw
          have p0 := (hbw.cell (p := ⟨b, _, none⟩) hb0).trans p0
          have p1 := (hbw.cell (p := ⟨b, _, none⟩) hb0).trans p1
          have p2 := (hbw.cell (p := ⟨b, _, none⟩) hb0).trans p2
          have p3 := (hbw.cell (p := ⟨b, _, none⟩) hb0).trans p3
          have p4 := (hbw.cell (p := ⟨b, _, none⟩) hb0).trans p4
          have hlb := pb.len
          have hmc := framesGo_ok' H0.out hx
          have hfl := frameOf_len hmc
          obtain ⟨hk1, hk2, hdz, hf1, hf2, hs1, hs2, hm1, _⟩ := msgCode_ok hmc
          simp only at hk1 hk2 hdz hf1 hf2 hs1 hs2 hm1 hfl
          rw [hlb] at hm1 hfl
          have HX := Lib.hid (drop_of hx)
          have PB := Lib.hid pb
          have HLB := Lib.hid hlb
          have HFL := Lib.hid hfl
          clear hx hlb hmc pb hfl
          have hwf : IntKind.i64.wrap (f + s) = f + s := IntWalk.i64_in _ (by omega)
          have HBE := Lib.hid (be_vals (x := f + s) (m := m) (by omega) (by omega) (by omega))
          have hwk : IntKind.u8.wrap kd = kd := by rw [IntKind.wrap_u8]; omega
          have hmb : blk (wr.alloc (.cells #[.int .i64 kd, .string d, .int .i64 f, .int .i64 s, .slice A' m c'] 64)) wr.heap.size 64 [.int .i64 kd, .string d, .int .i64 f, .int .i64 s, .slice A' m c'] := blk_allocA rfl
          have HOm := Lib.hid (HO.out.keep ((Below.refl _ _).alloc (Nat.le_refl _) (.cells #[.int .i64 kd, .string d, .int .i64 f, .int .i64 s, .slice A' m c'] 64)))
          have hown : ∀ q, u7.ownBlock = some q → w.heap.size ≤ q ∧ q < wr.heap.size := HO.out.block
          have hbm := hbw.alloc hzw (.cells #[.int .i64 kd, .string d, .int .i64 f, .int .i64 s, .slice A' m c'] 64)
          go_wp2_with fail
          generalize wr.alloc (.cells #[.int .i64 kd, .string d, .int .i64 f, .int .i64 s, .slice A' m c'] 64) = wm at hmb HOm hbm ⊢
          have hmc : ∀ i, wm.cell? ⟨wr.heap.size, i, none⟩ = ([.int .i64 kd, .string d, .int .i64 f, .int .i64 s, .slice A' m c'] : List Value)[i]? := fun i => hmb.cell i
          have hmc1 : ∀ o i, (wm.alloc o).cell? ⟨wr.heap.size, i, none⟩ = ([.int .i64 kd, .string d, .int .i64 f, .int .i64 s, .slice A' m c'] : List Value)[i]? := fun o i => (hmb.alloc o).cell i
          have hzm := hmb.lt
          have hz2 : w.heap.size ≤ wm.heap.size := hbm.size
          have HA1 : Hid (∃ v' w', (Builtin.append_ #[32, 32] 32 #[u7, .slice (some ⟨wm.heap.size, 0, none⟩) 1 1]).run Tryd.prog (wm.alloc (.cells #[.int .u8 kd] 5)).drew = .ok v' w' ∧ AppOut 5 1 rByte (fun _ => False) (wm.alloc (.cells #[.int .u8 kd] 5)).drew w.heap.size (done ++ [UInt8.ofNat kd.toNat]) u7 v' w') :=
            run_app el_byte (HOm.out.keep ((Below.refl _ _).alloc (Nat.le_refl _) _).drew) (SrcS.block (c := 0) (heap_alloc_new wm _) rfl (by simp [Value.oneCell']) (Held.of_pure (w := w) (B := 0) (rByte_of (by omega) (by omega)))) (by unfold maxLen; omega) (by omega) (by show w.heap.size ≤ (wm.alloc _).heap.size; simp; omega)
          have hz4 : wr.heap.size < (wm.alloc (.cells #[.int .u8 kd] 5)).drew.heap.size := by show _ < (wm.alloc _).heap.size; simp; omega
          have hz5 : w.heap.size ≤ (wm.alloc (.cells #[.int .u8 kd] 5)).drew.heap.size := by omega
          have hmc2 : ∀ i, (wm.alloc (.cells #[.int .u8 kd] 5)).drew.cell? ⟨wr.heap.size, i, none⟩ = ([.int .i64 kd, .string d, .int .i64 f, .int .i64 s, .slice A' m c'] : List Value)[i]? := fun i => hmc1 _ i
          have hne : some wr.heap.size ≠ u7.ownBlock := fun e => by have := (hown _ e.symm).2; omega
          have hdl2 : (done ++ [UInt8.ofNat kd.toNat]).length + d.size ≤ 140737488355328 := by simp; omega
          have HD2 := Lib.hid hdl2
          clear hdl2
          go_region_law ((first
            | (refine step_app_ex (by rfl) _ _ (by rfl) (by rfl) (by rfl) HA1.out ?_; rintro v1 w3 ⟨ho1, hg1, ha1⟩; have q1 : ∀ i, w3.cell? ⟨wr.heap.size, i, none⟩ = ([.int .i64 kd, .string d, .int .i64 f, .int .i64 s, .slice A' m c'] : List Value)[i]? := fun i => (hg1.cell_far ⟨wr.heap.size, i, none⟩ hz4 hne).trans (hmc2 i))
            | (refine step_app_ex (by rfl) _ _ (by rfl) (by rfl) (by rfl) (run_app_str el_byte el_byteZ Tryd.underlying9 ho1 d HD2.out (Nat.le_trans hz5 hg1.size)) ?_; rintro v2 w4 ⟨ho2, hg2, ha2⟩)))
          all_goals (
            have q2 : ∀ i, w4.cell? ⟨wr.heap.size, i, none⟩ = ([.int .i64 kd, .string d, .int .i64 f, .int .i64 s, .slice A' m c'] : List Value)[i]? := fun i => (hg2.cell_far ⟨wr.heap.size, i, none⟩ (Nat.lt_of_lt_of_le hz4 hg1.size) (fun (e : some wr.heap.size = _) => by
              rcases ha1 with h | h
              · rw [h] at e; exact hne e
              · rw [h] at e; injection e with e; have : (wm.alloc (.cells #[.int .u8 kd] 5)).drew.heap.size = wm.heap.size + 1 := by show (wm.alloc _).heap.size = _; simp
                omega)).trans (q1 i)
            have hbo : ∀ q, v1.ownBlock = some q → w.heap.size ≤ q := fun q e => (ho1.block q e).1
            have hb3 : Below w.heap.size w w3 := (hbm.alloc hz2 _).drew.grown hg1 hz5 (fun q e => (hown q e).1)
            have hb4 : Below w.heap.size w w4 := hb3.grown hg2 hb3.size hbo
            have hz6 : wr.heap.size < w4.heap.size := Nat.lt_of_lt_of_le hz4 (Nat.le_trans hg1.size hg2.size)
            have hne2 : some wr.heap.size ≠ v2.ownBlock := fun e => by
              have e1 : (wm.alloc (.cells #[.int .u8 kd] 5)).drew.heap.size = wm.heap.size + 1 := by show (wm.alloc _).heap.size = _; simp
              have e2 := hg1.size
              rcases ha2 with h | h
              · rw [h] at e
                rcases ha1 with h | h
                · rw [h] at e; exact hne e
                · rw [h] at e; injection e with e; omega
              · rw [h] at e; injection e with e; omega
            have HO4 := Lib.hid ho2
            clear HA1 hmc hmc1 hmc2 q1 ho1 ho2 hg1 hg2 ha1 ha2 hb3 hbo hmb HOm hbm HD2
            go_wp2_with fail
            go_quiet (fail)
            have hb5 := drewN_below hb4 nq
            have HO5 := Lib.hid (HO4.out.keep (drewN_below (Below.refl _ _) nq))
            have q5 : ∀ i, (w4.drewN nq).cell? ⟨wr.heap.size, i, none⟩ = ([.int .i64 kd, .string d, .int .i64 f, .int .i64 s, .slice A' m c'] : List Value)[i]? := q2
            have hz7 : wr.heap.size < (w4.drewN nq).heap.size := hz6
            clear HO4 hb4 q2 hz6
            generalize w4.drewN nq = w5 at HO5 hb5 q5 hz7 ⊢
            have HA3 : Hid (∃ v' w', (Builtin.append_ #[32, 32] 32 #[v2, .slice (some ⟨w5.heap.size, 0, none⟩) 7 7]).run Tryd.prog (w5.alloc (.cells #[.int .u8 ((f + s) / 16777216), .int .u8 ((f + s) / 65536), .int .u8 ((f + s) / 256 % 256), .int .u8 ((f + s) % 256), .int .u8 ((m : Int) / 65536), .int .u8 ((m : Int) / 256 % 256), .int .u8 ((m : Int) % 256)] 5)) = .ok v' w' ∧
                AppOut 5 1 rByte (fun _ => False) (w5.alloc (.cells #[.int .u8 ((f + s) / 16777216), .int .u8 ((f + s) / 65536), .int .u8 ((f + s) / 256 % 256), .int .u8 ((f + s) % 256), .int .u8 ((m : Int) / 65536), .int .u8 ((m : Int) / 256 % 256), .int .u8 ((m : Int) % 256)] 5)) w.heap.size (done ++ [UInt8.ofNat kd.toNat] ++ d.data.toList ++ (be4 (f + s).toNat ++ be3 m)) v2 v' w') :=
              run_app el_byte (HO5.out.keep ((Below.refl _ _).alloc (Nat.le_refl _) _)) (SrcS.bytes (heap_alloc_new w5 _) rfl HBE.out) (by unfold maxLen; simp; omega) (by simp; omega) (by have := hb5.size; simp; omega)
            have q5b : (w5.alloc (.cells #[.int .u8 ((f + s) / 16777216), .int .u8 ((f + s) / 65536), .int .u8 ((f + s) / 256 % 256), .int .u8 ((f + s) % 256), .int .u8 ((m : Int) / 65536), .int .u8 ((m : Int) / 256 % 256), .int .u8 ((m : Int) % 256)] 5)).cell? ⟨wr.heap.size, 4, none⟩ = some (.slice A' m c') := by rw [World.cell?_alloc_some _ _ _ (by rw [q5]; rfl)]; exact q5 4
            have hz8 : wr.heap.size < (w5.alloc (.cells #[.int .u8 ((f + s) / 16777216), .int .u8 ((f + s) / 65536), .int .u8 ((f + s) / 256 % 256), .int .u8 ((f + s) % 256), .int .u8 ((m : Int) / 65536), .int .u8 ((m : Int) / 256 % 256), .int .u8 ((m : Int) % 256)] 5)).heap.size := by simp; omega
            have hb5b := hb5.alloc hb5.size (.cells #[.int .u8 ((f + s) / 16777216), .int .u8 ((f + s) / 65536), .int .u8 ((f + s) / 256 % 256), .int .u8 ((f + s) % 256), .int .u8 ((m : Int) / 65536), .int .u8 ((m : Int) / 256 % 256), .int .u8 ((m : Int) % 256)] 5)
            go_upto_region 17 with (at_builtin; go_loud (refine wpList_app_ex rfl _ _ rfl rfl rfl HA3.out ?_); rintro v3 w6 ⟨ho3, hg3, ha3⟩)
            have q6 : w6.cell? ⟨wr.heap.size, 4, none⟩ = some (.slice A' m c') := (hg3.cell_far ⟨wr.heap.size, 4, none⟩ hz8 hne2).trans q5b
            have hb6 : Below w.heap.size w w6 := hb5b.grown hg3 hb5b.size (fun q e => (HO5.out.block q e).1)
            have HA4 : Hid (∃ v' w', (Builtin.append_ #[32, 32] 32 #[v3, .slice A' m c']).run Tryd.prog w6 = .ok v' w' ∧ AppOut 5 1 rByte (fun _ => False) w6 w.heap.size (done ++ [UInt8.ofNat kd.toNat] ++ d.data.toList ++ (be4 (f + s).toNat ++ be3 m) ++ bs) v3 v' w') :=
              run_app el_byte ho3 (rSl.srcP (rSl.keep PB.out hb6 (Nat.le_refl _)) (by decide)) (by unfold maxLen; simp [be4, be3]; omega) (by simp [be4, be3]; omega) hb6.size
            have hbo3 : ∀ q, v3.ownBlock = some q → w.heap.size ≤ q := fun q e => (ho3.block q e).1
            clear ho3 hg3 ha3 HA3 q5 q5b HO5
            go_wp2_with (at_builtin; go_loud (refine wpList_app_ex rfl _ _ rfl rfl rfl HA4.out ?_); rintro v4 w7 ⟨ho4, hg4, ha4⟩)
            have hb7 : Below w.heap.size w w7 := hb6.grown hg4 hb6.size hbo3
            have heq : done ++ [UInt8.ofNat kd.toNat] ++ d.data.toList ++ (be4 (f + s).toNat ++ be3 m) ++ bs = done ++ frameOf (kd, d, f, s, bs) := by
              have := HLB.out
              simp [frameOf, this]
            rw [heq] at ho4
            have HO7 := Lib.hid ho4
            clear heq
            clear ho4 hg4 ha4 HA4
            go_roundw
            case rel => exact ⟨j + 1, _, by omega, by go_num, by have := HFL.out; rw [List.length_append]; omega, hb7, HO7.out, by rw [HG.out, HX.out]; simp [Hid]⟩
            case measure => (simp [intOf]; omega))
        · obtain rfl : j = k := by omega
          have HE : Hid (l.flatMap frameOf = done) := by rw [HG.out, List.drop_of_length_le (by rw [HL.out]; exact Nat.le_refl _)]; simp [Hid]
          obtain ⟨A3, c3, hv⟩ := HO.out.form
          have HRes : Hid (rBytes wr wr.heap.size done [u7]) := ownS.toSl (bts := 1) HO.out (by omega)
          subst hv
          clear HO
          go_wp2_with fail
          go_ret2
          refine ⟨_, rfl, hbw, ?_⟩
          rw [HF2.out, HE.out]
          exact ⟨A3, c3, rfl, HRes.out⟩
end Go.Proofs.YteoojplgchlhcaaDoor
