/-
  The walks of Wanted (wire's and the reference's).
-/
import Derived.Test.YteoojplgchlhcaaDoorEq
import Derived.Test.YteoojplgchlhcaaDoorBatch
import Derived.Deep.RegionHeld3
import Derived.Deep.AppendLies
namespace Go.Proofs.YteoojplgchlhcaaDoor
open Go.RowKit
set_option linter.unusedVariables false
set_option linter.unusedSimpArgs false

def nameIn (l : List ByteArray) (u : List UInt8) : Bool := l.any fun s => u == s.data.toList
def namesGo : Option ByteArray → List ByteArray → Int
  | _, [] => 0
  | p, x :: r => if isDig x = false then 3 else if p.any (fun q => strLe x q) then 8 else namesGo (some x) r
def sumZ (l : List (ByteArray × Int)) : Int := (l.map Prod.snd).sum
def wantedGo (hv : List ByteArray) (l : List (ByteArray × Int)) : List (ByteArray × Int) := l.filter fun x => !nameIn hv x.1.data.toList
def wanted (l : List (ByteArray × Int)) (hv : List ByteArray) : List (ByteArray × Int) × Int × Int :=
  if sizeCode l ≠ 0 then ([], 0, sizeCode l) else if hv.length > 4000 then ([], 0, 2) else if namesGo none hv ≠ 0 then ([], 0, namesGo none hv) else (wantedGo hv l, sumZ (wantedGo hv l), 0)

def PWant (p : List (ByteArray × Int) × Int × Int) (v : Value) (w' : World) : Prop :=
  ∃ A c, v = .tuple #[.slice A p.1.length c, .int .i64 p.2.1, .int .i64 p.2.2] ∧ rSized w' w'.heap.size p.1 [.slice A p.1.length c]
theorem PWant.none_ {code : Int} {w' : World} : PWant ([], 0, code) (.tuple #[.slice none 0 0, .int .i64 0, .int .i64 code]) w' := ⟨none, 0, rfl, rSl.nil_⟩

section
variable {p : Option ByteArray} {l : List ByteArray} {k : Nat} {x : ByteArray}
theorem namesGo_form (h : l[k]? = some x) (h1 : isDig x = false) : namesGo p (l.drop k) = 3 := by rw [drop_of h, namesGo, if_pos h1]
theorem namesGo_order (h : l[k]? = some x) (h1 : isDig x = true) (h3 : p.any (fun q => strLe x q) = true) : namesGo p (l.drop k) = 8 := by
  rw [drop_of h, namesGo, if_neg (by simp [h1]), if_pos h3]
theorem namesGo_next (h : l[k]? = some x) (h1 : isDig x = true) (h3 : p.any (fun q => strLe x q) = false) : namesGo p (l.drop k) = namesGo (some x) (l.drop (k + 1)) := by
  rw [drop_of h, namesGo, if_neg (by simp [h1]), if_neg (by simp [h3])]
theorem nameIn_snoc (x : ByteArray) : (fun u => if u = x.data.toList then true else nameIn (l.take k) u) = nameIn (l.take k ++ [x]) := by
  funext u
  unfold nameIn
  by_cases h : u = x.data.toList <;> simp [h]
end
theorem nameIn_eq {l : List ByteArray} {s : ByteArray} : (l.any fun x => s.toList == x.toList) = nameIn l s.data.toList := by
  unfold nameIn; congr 1; funext x; rw [ByteArray.toList_eq, ByteArray.toList_eq]

def encZ (x : ByteArray × Int) : List Value := [.string x.1, .int .i64 x.2]
theorem setOkS : SetOk Tryd.prog 69 9 4 := ⟨Tryd.underlying69, Tryd.underlying9, Tryd.underlying4, fun _ => by kernel_rfl⟩

section
variable {w w' : World} {bx : Nat} {x : ByteArray × Int}
abbrev keepZ (w : World) (bx : Nat) (x : ByteArray × Int) : Prop := w.cell? ⟨bx, 0, none⟩ = some (.string x.1) ∧ w.cell? ⟨bx, 1, none⟩ = some (.int .i64 x.2)
theorem keepZ.go {row : Option Nat} (h : keepZ w bx x) (hg : w.grownBy w' row) (h2 : some bx ≠ row) : keepZ w' bx x := ⟨hg.cell h.1 h2, hg.cell h.2 h2⟩
theorem grownZ (w : World) (o : Obj) : w.grownBy (w.alloc o).drew none := ⟨rfl, rfl, rfl, by simp, fun _ hk _ => heap_alloc_old w o hk⟩
end

set_option maxHeartbeats 4000000 in
set_option maxRecDepth 100000 in
theorem wanted_any (A1 A2 : Option Addr) (n1 c1 n2 c2 : Nat) (l : List (ByteArray × Int)) (hv : List ByteArray) (w : World) (h1 : rSized w w.heap.size l [.slice A1 n1 c1]) (h2 : rStrs w w.heap.size hv [.slice A2 n2 c2]) :
    Calls Tryd.prog 14 #[.slice A1 n1 c1, .slice A2 n2 c2] w (Ret (PWant (wanted l hv)) w) := by
  have hl1 := h1.len
  have hl2 := h2.len
  have hm1 := h1.le
  have hm2 := h2.le
  have H1 := Lib.hid h1
  have H2 := Lib.hid h2
  have L1 := Lib.hid hl1
  have L2 := Lib.hid hl2
  clear h1 h2 hl1 hl2
  obtain ⟨hm11, hm12, _⟩ := hm1
  obtain ⟨hm21, hm22, _⟩ := hm2
  by_cases h0 : sizeCode l = 0
  rotate_left
  · have h0' : (sizeCode l != 0) = true := by simpa using h0
    have HS : Hid (wanted l hv = ([], 0, sizeCode l)) := by unfold wanted; rw [if_pos h0]; rfl
    clear h0
    go_enter Tryd.func14, Tryd.ntmps14
    go_wp2_with (go_at_call 16; refine (checkSizes_any _ _ _ _ _ H1.out).mono ?_; rintro e w1 ⟨rfl, hb1⟩)
    go_ret3
    refine ⟨_, rfl, hb1, ?_⟩
    rw [HS.out]
    exact PWant.none_
  have h0' : (sizeCode l != 0) = false := by simp [h0]
  have HK := Lib.hid (sizeCode_ok h0)
  have hn1 : n1 ≤ 4000 := by rw [← L1.out]; exact HK.out.1
  by_cases hbig : n2 > 4000
  · have hbig' : decide ((n2 : Int) > 4000) = true := by simp; omega
    have HS : Hid (wanted l hv = ([], 0, 2)) := by unfold wanted; rw [if_neg (by simp [h0]), if_pos (by rw [L2.out]; exact hbig)]; rfl
    clear h0
    go_enter Tryd.func14, Tryd.ntmps14
    go_wp2_with (go_at_call 16; refine (checkSizes_any _ _ _ _ _ H1.out).mono ?_; rintro e w1 ⟨rfl, hb1⟩)
    go_ret3
    refine ⟨_, rfl, hb1, ?_⟩
    rw [HS.out]
    exact PWant.none_
  have hbig' : decide ((n2 : Int) > 4000) = false := by simp; omega
  have HS : Hid (wanted l hv = if namesGo none hv ≠ 0 then ([], 0, namesGo none hv) else (wantedGo hv l, sumZ (wantedGo hv l), 0)) := by
    unfold wanted; rw [if_neg (by simp [h0]), if_neg (by rw [L2.out]; exact hbig)]; rfl
  clear h0
  have hmm := @run_makeMap Tryd.prog
  go_enter Tryd.func14, Tryd.ntmps14
  go_wp2_with fail
  refine (checkSizes_any _ _ _ _ _ H1.out).mono ?_
  rintro e w1 ⟨rfl, hb1⟩
  go_wp2_with fail
  go_loopw [26] (fun i wr => ∃ (k : Nat), k ≤ n2 ∧ i = .int .i64 k ∧ Below w1.heap.size w1 wr ∧ Hid (ownSet Tryd.prog 9 4 wr w1.heap.size k (nameIn (hv.take k))) ∧ Hid (∃ p, namesGo none hv = namesGo p (hv.drop k) ∧ (k = 0 → p = none) ∧ (0 < k → hv[k-1]? = p))) (fun i _ => n2 - (intOf i).toNat)
  case atStart => exact ⟨0, by omega, rfl, (Below.refl _ _).alloc (Nat.le_refl _) _, ownSet_made w1, ⟨none, rfl, fun _ => rfl, fun h => absurd h (by omega)⟩⟩
  case round =>
    obtain ⟨k, hk, rfl, hbr, HM, HP⟩ := hrel
    have hbw : Below w.heap.size w wr := hb1.trans (hbr.mono hb1.size)
    have hmz : w1.heap.size < wr.heap.size := HM.out.lt
    by_cases hlt : k < n2
    · obtain ⟨b, o, x, rfl, hb, hx, hc, hxs⟩ := rStrs_at' (rSl.keep H2.out hbw hbw.size) hlt
      have HX := Lib.hid hx
      have HT : Hid (hv.take k ++ [x] = hv.take (k + 1)) := by rw [List.take_add_one, hx]; rfl
      clear hx hmm
      cases hd : isDig x
      · go_wp2_with (go_at_call 36; refine (isDigest_any _ _ hxs).mono ?_; rintro e w2 ⟨rfl, hB⟩)
        go_ret3
        refine ⟨_, rfl, hbw.trans (hB.mono hbw.size), ?_⟩
        obtain ⟨p, hp, _⟩ := HP.out
        rw [HS.out, hp, namesGo_form HX.out hd]
        exact PWant.none_
      go_wp2_with fail
      refine (isDigest_any _ _ hxs).mono ?_
      rintro e w2 ⟨rfl, hB⟩
      have hbw2 := hbw.trans (hB.mono hbw.size)
      have hbr2 := hbr.trans (hB.mono hbr.size)
      have HM2 := Lib.hid (HM.out.below hB hmz)
      have hmz2 : w1.heap.size < w2.heap.size := HM2.out.lt
      by_cases hk0 : 0 < k
      · obtain ⟨b', o', y, hA, _, hy, hc2, hys⟩ := rStrs_at' (rSl.keep H2.out hbw2 hbw2.size) (show k - 1 < n2 by omega)
        simp only [Option.some.injEq, Addr.mk.injEq, and_true] at hA
        obtain ⟨rfl, rfl⟩ := hA
        have HY := Lib.hid hy
        clear hy
        have e1 : IntKind.i64.wrap ((k : Int) - 1) = (k : Int) - 1 := IntWalk.i64_in _ (by omega)
        have e2 : ((k : Int) - 1).toNat = k - 1 := by omega
        have e3 : (0 : Int) ≤ (k : Int) - 1 := by omega
        have e4 : (1 : Int) ≤ (k : Int) := by omega
        have e5 : (k : Int) - 1 < n2 := by omega
        have e6 : decide (0 < k) = true := by simpa using hk0
        have e7 : 1 ≤ k := hk0
        cases h3 : strLe x y
        · have h3' := h3
          unfold strLe at h3'
          rw [Bool.or_eq_false_iff] at h3'
          obtain ⟨h31, h32⟩ := h3'
          go_wp2_with (at_mapUpdate; go_loud (refine wpList_set_put setOkS rfl _ _ _ rfl rfl HM2.out (by unfold maxLen; omega) x rfl (by unfold maxLen; omega) true rfl ?_); intro w3 hs1 hg1)
          clear e1 e2 e3 e4 e5 e6 e7
          go_roundw
          case rel =>
            rw [nameIn_snoc, HT.out] at hs1
            obtain ⟨p, hp, _, hp2⟩ := HP.out
            have hpy := hp2 hk0
            rw [HY.out] at hpy
            subst hpy
            exact ⟨k + 1, by omega, by go_num, hbr2.grown hg1 hbr2.size (fun j hj => by cases hj; exact Nat.le_refl _), hs1, ⟨some x, by rw [hp, namesGo_next HX.out hd (by simpa using h3)], by omega, fun _ => by simpa using HX.out⟩⟩
          case measure => simp [intOf]; omega
        · have fin : namesGo none hv = 8 := by
            obtain ⟨p, hp, _, hp2⟩ := HP.out
            have hpy := hp2 hk0
            rw [HY.out] at hpy
            subst hpy
            rw [hp, namesGo_order HX.out hd (by simpa using h3)]
          have FIN := Lib.hid fin
          clear fin
          unfold strLe at h3
          cases h31 : Op.bytesLess x.toList y.toList
          · rw [h31, Bool.false_or] at h3
            go_wp2_with fail
            go_ret3
            refine ⟨_, rfl, hbw2, ?_⟩
            rw [HS.out, FIN.out]
            exact PWant.none_
          · clear h3
            go_wp2_with fail
            go_ret3
            refine ⟨_, rfl, hbw2, ?_⟩
            rw [HS.out, FIN.out]
            exact PWant.none_
      · have e6 : decide (0 < k) = false := by simpa using hk0
        go_wp2_with (at_mapUpdate; go_loud (refine wpList_set_put setOkS rfl _ _ _ rfl rfl HM2.out (by unfold maxLen; omega) x rfl (by unfold maxLen; omega) true rfl ?_); intro w3 hs1 hg1)
        go_roundw
        case rel =>
          rw [nameIn_snoc, HT.out] at hs1
          obtain ⟨p, hp, hp1, _⟩ := HP.out
          obtain rfl := hp1 (by omega)
          exact ⟨k + 1, by omega, by go_num, hbr2.grown hg1 hbr2.size (fun j hj => by cases hj; exact Nat.le_refl _), hs1, ⟨some x, by rw [hp, namesGo_next HX.out hd rfl], by omega, fun _ => by simpa using HX.out⟩⟩
        case measure => simp [intOf]; omega
    · obtain rfl : k = n2 := by omega
      have HS2 : Hid (wanted l hv = (wantedGo hv l, sumZ (wantedGo hv l), 0)) := by
        obtain ⟨p, hp, _⟩ := HP.out
        have := L2.out
        rw [List.drop_of_length_le (by omega)] at hp
        rw [HS.out, if_neg (by rw [hp]; simp [namesGo])]; rfl
      have HM2 : Hid (ownSet Tryd.prog 9 4 wr w1.heap.size k (nameIn hv)) := by
        have h := HM.out
        have := L2.out
        rw [List.take_of_length_le (by omega)] at h
        exact h
      clear HM HP HS hmm
      go_wp2_with fail
      obtain ⟨wo, rfl⟩ : ∃ wo : World, wo = wr := ⟨_, rfl⟩
      go_loopw [11, 12, 50] (fun v sv i wr => ∃ (j : Nat) (xs : List (ByteArray × Int)) (s : Int), j ≤ n1 ∧ i = .int .i64 j ∧ sv = .int .i64 s ∧ 0 ≤ s ∧ s ≤ 2000000 * j ∧ xs.length ≤ j ∧ Below w.heap.size w wr ∧ w1.heap.size < wr.heap.size ∧ Hid (wr.ownsRow (w1.heap.size + 1) 30 2 v xs.length (xs.flatMap encZ)) ∧
        Hid (ownSet Tryd.prog 9 4 wr w1.heap.size k (nameIn hv)) ∧ Hid (s = sumZ xs ∧ wantedGo hv l = xs ++ wantedGo hv (l.drop j) ∧ ∀ x ∈ xs, x.1.size ≤ 140737488355328 ∧ 0 ≤ x.2 ∧ x.2 ≤ 2000000)) (fun _ _ i _ => n1 - (intOf i).toNat)
      case atStart => exact ⟨0, [], 0, by omega, rfl, rfl, by omega, by omega, by simp, hbw, hmz, World.ownsRow_nil _ _ _ _, HM2.out, ⟨rfl, by simp, fun x h => by cases h⟩⟩
      case round =>
        obtain ⟨j, xs, s, hj, rfl, rfl, hs0, hs1, hxj, hbs, hmz3, HO, HM, HG⟩ := hrel
        by_cases hlt2 : j < n1
        · obtain ⟨bk, o, x, rfl, hbk, hx, hx1, hx2, hxs⟩ := rSized_at (rSl.keep H1.out hbs hbs.size) hlt2
          obtain ⟨_, hx0, hxm⟩ := HK.out.2 x (List.mem_of_getElem? hx)
          have hdr : l.drop j = x :: l.drop (j + 1) := drop_of hx
          have HD := Lib.hid hdr
          clear hx hdr
          have e4 : IntKind.i64.wrap (s + x.2) = s + x.2 := IntWalk.i64_in _ (by omega)
          have HMa := Lib.hid (HM.out.below ((Below.refl wr.heap.size wr).alloc (Nat.le_refl _) (.cells #[.string x.1, .int .i64 x.2] 30)) hmz3)
          cases hin : nameIn hv x.1.data.toList
          · obtain ⟨i30, hi30, hz30, hz301, hz302⟩ := info_parts (P := Tryd.prog) (e := 30) (z := .agg #[.string ⟨#[]⟩, .int .i64 0]) (size := 2) (bytes := 24) (by kernel_rfl)
            go_upto_region 22 with (at_lookup; go_loud (refine wpList_set_has setOkS rfl _ _ rfl rfl HMa.out x.1 rfl (by unfold maxLen; omega) ?_); rw [hin])
            have k0 : keepZ (wr.alloc (.cells #[.string x.1, .int .i64 x.2] 30)) wr.heap.size x := ⟨by simp [go_sem], by simp [go_sem]⟩
            have HO2 := Lib.hid (HO.out.alloc (.cells #[.string x.1, .int .i64 x.2] 30))
            have hbs2 := hbs.alloc hbs.size (.cells #[.string x.1, .int .i64 x.2] 30)
            have hne : some wr.heap.size ≠ u11.ownBlock := fun e => by have := (HO.out.lt _ e.symm).2; omega
            have hmz4 : w1.heap.size + 1 ≤ (wr.alloc (.cells #[.string x.1, .int .i64 x.2] 30)).heap.size := by simp; omega
            clear HO HM
            generalize wr.alloc (.cells #[.string x.1, .int .i64 x.2] 30) = w2 at k0 HO2 hbs2 HMa hmz4 ⊢
            go_region_held3 (fun w' => w'.cell? ⟨wr.heap.size, 0, none⟩ = some (.string x.1) ∧ w'.cell? ⟨wr.heap.size, 1, none⟩ = some (.int .i64 x.2))
              (first
                | exact k0
                | exact keepZ.go k0 (grownZ w2 _) (by simp)
                | exact keepZ.go (keepZ.go k0 (grownZ w2 _) (by simp)) hgrow3 hne)
              ((refine step_append_lies _ (by rfl) _ _ _ (by rfl) (w1.heap.size + 1) 30 i30 _ 2 24 Tryd.underlying22 hi30 hz30 hz301 hz302 rfl (by omega) u11 xs.length (xs.flatMap encZ) (by rfl) ((HO2.out.alloc _).drew) ⟨w2.heap.size, 0, none⟩ 1 1 [.string x.1, .int .i64 x.2] (by rfl) (by rfl) (World.news_of_block (cs := #[.string x.1, .int .i64 x.2]) (t := 30) (fr := (0, 0)) (heap_alloc_new w2 _)) (by simp [Value.oneCell']) (by omega) (by unfold maxLen; omega) (by omega) (by simp; omega) (w2.heap.size + 1) (by simp) ?_; intro g3 cap3 w3 hown3 hgrow3 hat3 hlt3))
            all_goals (
              have hgr : w2.grownBy w3 u11.ownBlock := ⟨hgrow3.os, hgrow3.tape, hgrow3.output, by have := hgrow3.size; simp at this; omega, fun k hk hne => (hgrow3.block k (by simp; omega) hne).trans (heap_alloc_old w2 _ hk)⟩
              have hbs3 : Below w.heap.size w w3 := hbs2.grown hgr hbs2.size (fun b e => by have := (HO2.out.lt b e).1; have := hb1.size; omega)
              have HM3 := Lib.hid (HMa.out.kept hgr (fun e => by have := (HO2.out.lt _ e.symm).1; omega))
              have HO3 : Hid (w3.ownsRow (w1.heap.size + 1) 30 2 (.slice (some ⟨g3, 0, none⟩) (xs.length + 1) cap3) (xs ++ [x]).length ((xs ++ [x]).flatMap encZ)) := by
                have h := hown3
                have e : (xs ++ [x]).flatMap encZ = xs.flatMap encZ ++ [.string x.1, .int .i64 x.2] := by simp [encZ]
                rw [List.length_append, e]; exact h
              have hz3 : w1.heap.size < w3.heap.size := by have := hgr.size; omega
              clear hgrow3 hown3 hgr k0
              go_wp2_with fail
              go_roundw
              case rel =>
                refine ⟨j + 1, xs ++ [x], s + x.2, by omega, by go_num, rfl, by omega, by push_cast; omega, by simp; omega, hbs3, hz3, HO3.out, HM3.out, ⟨?_, ?_, ?_⟩⟩
                · rw [HG.out.1]; simp [sumZ]
                · rw [HG.out.2.1, HD.out]
                  simp [wantedGo, hin]
                · intro y hy
                  rcases List.mem_append.1 hy with hy | hy
                  · exact HG.out.2.2 y hy
                  · simp at hy; subst hy; exact ⟨hxs, hx0, hxm⟩
              case measure => (simp [intOf]; omega)
              )
          · go_wp2_with (at_lookup; go_loud (refine wpList_set_has setOkS rfl _ _ rfl rfl HMa.out x.1 rfl (by unfold maxLen; omega) ?_); rw [hin])
            go_roundw
            case rel =>
              refine ⟨j + 1, xs, s, by omega, by go_num, rfl, by omega, by omega, by omega, hbs.alloc hbs.size _, by simp; omega, HO.out.alloc _, HMa.out, ⟨HG.out.1, ?_, HG.out.2.2⟩⟩
              rw [HG.out.2.1, HD.out]
              simp [wantedGo, hin]
            case measure => simp [intOf]; omega
        · obtain rfl : j = n1 := by omega
          have hG : wantedGo hv l = xs := by
            have := L1.out
            rw [HG.out.2.1, List.drop_of_length_le (by omega)]; simp [wantedGo]
          have HGx := Lib.hid hG
          have HGs := Lib.hid HG.out.1
          have HGo := Lib.hid HG.out.2.2
          clear HG hG
          go_wp2_with fail
          go_ret3
          refine ⟨_, rfl, hbs, ?_⟩
          rw [HS2.out, HGx.out, ← HGs.out]
          obtain ⟨A', c', rfl, hres⟩ := rSl.of_own (R := rSz1) (bts := 24) encZ HO.out (Nat.le_refl _) rfl rfl (fun _ => rfl) (fun x hx => ⟨[.string x.1], [.int .i64 x.2], rfl, ⟨rfl, (HGo.out x hx).1⟩, ⟨rfl, wf64_of (by have := HGo.out x hx; omega) (by have := HGo.out x hx; omega)⟩⟩) (by omega)
          exact ⟨A', c', rfl, hres⟩
end Go.Proofs.YteoojplgchlhcaaDoor
