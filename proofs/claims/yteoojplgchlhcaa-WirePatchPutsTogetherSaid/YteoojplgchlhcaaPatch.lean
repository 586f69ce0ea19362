/-
  The walks of Patch (both), slices.Contains at bools.
-/
import Derived.Test.YteoojplgchlhcaaBytes
import Derived.Test.YteoojplgchlhcaaOwn
namespace Go.Proofs.Yteoojplgchlhcaa
open Go.RowKit
set_option linter.unusedVariables false
set_option linter.unusedSimpArgs false

def rChunks : Rep (List (Int × List UInt8)) := rSl 2 32 (rPair (rI .i64) rBytes)
theorem rChunks_at {w : World} {B n c k : Nat} {A : Option Addr} {l : List (Int × List UInt8)} (h : rChunks w B l [.slice A n c]) (hk : k < n) :
    ∃ b o x A' m' c', A = some ⟨b, o, none⟩ ∧ b < B ∧ l[k]? = some x ∧ w.cell? ⟨b, o + k * 2, none⟩ = some (.int .i64 x.1) ∧ w.cell? ⟨b, o + k * 2 + 1, none⟩ = some (.slice A' m' c') ∧ rBytes w B x.2 [.slice A' m' c'] ∧ (Lit.int .i64 x.1).wf = true := by
  obtain ⟨b, o, x, vs, hA, hb, hl, hs, ⟨v1, v2, rfl, ⟨rfl, hw⟩, hx⟩, hc⟩ := rSl.at_ h hk
  obtain ⟨A', c', rfl, _⟩ := rSl.form hx
  exact ⟨b, o, x, A', _, c', hA, hb, hl, hc 0 _ rfl, hc 1 _ rfl, hx, hw⟩

/-! ### Blocks known whole -/
def blk (w : World) (g : Nat) (t : TypeId) (cs : List Value) : Prop := w.heap[g]? = some (.cells cs.toArray t (0, 0))
section
variable {w w' : World} {g : Nat} {t : TypeId} {cs : List Value}
theorem blk.lt (h : blk w g t cs) : g < w.heap.size := (Array.getElem?_eq_some_iff.1 h).1
theorem blk.cell (h : blk w g t cs) (i : Nat) : w.cell? ⟨g, i, none⟩ = cs[i]? := by rw [cell_of_row w g i cs.toArray t (0, 0) h]; simp
theorem blk.free (h : blk w g t cs) (i : Nat) : w.frozen? ⟨g, i, none⟩ = false := by
  unfold blk at h
  simp [World.frozen?, h]
theorem blk.set_ (h : blk w g t cs) (i : Nat) (u : Value) : blk (w.setCell ⟨g, i, none⟩ u) g t (cs.set i u) := by
  unfold blk at h ⊢
  simp [World.setCell, Array.getElem?_modify, h]
theorem blk.far (h : blk w g t cs) {p : Addr} (hp : g ≠ p.block) (u : Value) : blk (w.setCell p u) g t cs := (Below.heap_setCell w p u g hp).trans h
theorem blk.below {B : Nat} (h : blk w g t cs) (hb : Below B w w') (hg : g < B) : blk w' g t cs := (hb.block g hg).trans h
theorem blk.alloc (h : blk w g t cs) (o : Obj) : blk (w.alloc o) g t cs := (Below.heap_alloc w o g h.lt).trans h
end

/-! ### The spec -/
def chunkOk (size : Int) (x : Int × List UInt8) : Bool := inR x.1 0 size && !decide ((x.2.length : Int) > size - x.1)
def putB (st : List (Option UInt8)) (k : Nat) (c : UInt8) : Option (List (Option UInt8)) :=
  match st[k]? with
  | some (some d) => if d = c then some (st.set k (some c)) else none
  | _ => some (st.set k (some c))
def putBs : List (Option UInt8) → Nat → List UInt8 → Option (List (Option UInt8))
  | st, _, [] => some st
  | st, k, c :: r => (putB st k c).bind fun st' => putBs st' (k + 1) r
def putAll : List (Option UInt8) → List (Int × List UInt8) → Option (List (Option UInt8))
  | st, [] => some st
  | st, x :: r => (putBs st x.1.toNat x.2).bind fun st' => putAll st' r
def stOut (st : List (Option UInt8)) : List UInt8 := st.map (·.getD 0)
def patch (parts : List (Int × List UInt8)) (size : Int) : List UInt8 × Int :=
  if !inR size 0 2000000 then ([], 1) else if parts.length > 20000 then ([], 2) else if !parts.all (chunkOk size) then ([], 1)
  else match putAll (List.replicate size.toNat none) parts with
    | none => ([], 12)
    | some st => if st.contains none then ([], 9) else (stOut st, 0)

theorem putB_len {st st' : List (Option UInt8)} {k : Nat} {c : UInt8} (h : putB st k c = some st') : st'.length = st.length := by
  unfold putB at h
  split at h
  · split at h
    · cases h; simp
    · cases h
  · cases h; simp

def outC (st : List (Option UInt8)) : List Value := st.map fun o => .int .u8 ((o.getD 0).toNat : Int)
def hasC (st : List (Option UInt8)) : List Value := st.map fun o => .bool o.isSome
theorem outC_set (st : List (Option UInt8)) (k : Nat) (c : UInt8) : (outC st).set k (.int .u8 (c.toNat : Int)) = outC (st.set k (some c)) := by simp [outC, List.map_set]
theorem hasC_set (st : List (Option UInt8)) (k : Nat) (c : UInt8) : (hasC st).set k (.bool true) = hasC (st.set k (some c)) := by simp [hasC, List.map_set]

/-! ### slices.Contains at bools -/
def rBools : Rep (List Bool) := rSl 1 1 rBool
theorem rBools_at {w : World} {B n c k : Nat} {A : Option Addr} {l : List Bool} (h : rBools w B l [.slice A n c]) (hk : k < n) :
    ∃ b o x, A = some ⟨b, o, none⟩ ∧ b < B ∧ l[k]? = some x ∧ w.cell? ⟨b, o + k, none⟩ = some (.bool x) := by
  obtain ⟨b, o, x, vs, hA, hb, hl, hs, rfl, hc⟩ := rSl.at_ h hk
  have h1 := hc 0 _ rfl
  rw [Nat.mul_one, Nat.add_zero] at h1
  exact ⟨b, o, x, hA, hb, hl, h1⟩

def boolAt (x : Bool) : List Bool → Int → Int
  | [], _ => -1
  | y :: r, k => if x == y then k else boolAt x r (k + 1)
theorem boolAt_bd (x : Bool) : ∀ (l : List Bool) (k : Int), 0 ≤ k → (l.contains x = true → 0 ≤ boolAt x l k) ∧ (l.contains x = false → boolAt x l k = -1) := by
  intro l
  induction l with
  | nil => intro k _; simp [boolAt]
  | cons y r ih =>
    intro k hk
    have := ih (k + 1) (by omega)
    simp only [boolAt, List.contains_cons]
    cases h : x == y
    · simpa using this
    · simp; omega

theorem indexBool_any (A : Option Addr) (n c B : Nat) (x : Bool) (l : List Bool) (w : World) (hR : rBools w B l [.slice A n c]) :
    Calls Try.prog 37 #[.slice A n c, .bool x] w fun e w' => e = .returned (.int .i64 (boolAt x l 0)) ∧ w = w' := by
  have HR := Lib.hid hR
  have hln := hR.len
  have HL := Lib.hid hln
  have hcm := hR.le
  clear hR hln
  obtain ⟨hcm1, hcm2, _⟩ := hcm
  go_enter Try.func37, Try.ntmps37
  go_wp2_with fail
  go_loop [8] (fun i => ∃ k : Nat, k ≤ n ∧ i = .int .i64 k ∧ Hid (boolAt x l 0 = boolAt x (l.drop k) k)) (fun i => n - (intOf i).toNat)
  case atStart => exact ⟨0, by omega, rfl, by first | exact True.intro | exact rfl⟩
  case round =>
    obtain ⟨k, hk, rfl, HG⟩ := hrel
    by_cases hlt : k < n
    · obtain ⟨b, o, y, rfl, hb, hy, hc⟩ := rBools_at HR.out hlt
      have HT : Hid (boolAt x (l.drop k) k = if x == y then (k : Int) else boolAt x (l.drop (k + 1)) (k + 1)) := by rw [drop_of hy]; rfl
      clear hy
      cases he : x == y
      · go_wp2_with fail
        go_round
        case rel => exact ⟨k + 1, by omega, by go_num, by rw [HG.out, HT.out, he]; exact rfl⟩
        case measure => simp [intOf]; omega
      · go_wp2_with fail
        go_ret
        exact ⟨by rw [HG.out, HT.out, he]; rfl, rfl⟩
    · obtain rfl : k = n := by omega
      go_wp2_with fail
      go_ret
      refine ⟨?_, rfl⟩
      have hl := HL.out
      rw [HG.out, List.drop_of_length_le (by omega)]; rfl

theorem containsBool_any (A : Option Addr) (n c B : Nat) (x : Bool) (l : List Bool) (w : World) (hR : rBools w B l [.slice A n c]) :
    Calls Try.prog 33 #[.slice A n c, .bool x] w fun e w' => e = .returned (.bool (l.contains x)) ∧ w = w' := by
  have HR := Lib.hid hR
  clear hR
  have hbd := boolAt_bd x l 0 (by omega)
  have HB := Lib.hid hbd
  clear hbd
  go_enter Try.func33, Try.ntmps33
  go_wp2_with (go_at_call 37; refine (indexBool_any _ _ _ _ _ _ _ HR.out).mono ?_; rintro e w' ⟨rfl, rfl⟩)
  go_ret
  refine ⟨?_, rfl⟩
  cases h : l.contains x
  · have := HB.out.2 h
    rw [this]; rfl
  · have := HB.out.1 h
    have e : decide (0 ≤ boolAt x l 0) = true := by simpa using this
    rw [show (Value.bool true) = Value.bool (decide (0 ≤ boolAt x l 0)) by rw [e]]
    rfl


theorem madeCells_one (z : Value) (n : Nat) : madeCells #[z] n = (List.replicate n z).toArray := by
  unfold madeCells
  apply Array.ext
  · simp
  · intro i h1 h2
    simp [Nat.mod_one]
theorem all_take_succ {α : Type} {l : List α} {k : Nat} {x : α} {p : α → Bool} (h : l[k]? = some x) : (l.take (k + 1)).all p = ((l.take k).all p && p x) := by
  rw [List.take_add_one, h]; simp
theorem all_false {α : Type} {l : List α} {k : Nat} {x : α} {p : α → Bool} (h : l[k]? = some x) (hp : p x = false) : l.all p = false := by
  rw [List.all_eq_false]
  exact ⟨x, List.mem_of_getElem? h, by simp [hp]⟩

def PPatch (l : List (Int × List UInt8)) (size : Int) (v : Value) (w' : World) : Prop :=
  ∃ A c, v = .tuple #[.slice A (patch l size).1.length c, .int .i64 (patch l size).2] ∧ rBytes w' w'.heap.size (patch l size).1 [.slice A (patch l size).1.length c]
theorem PPatch.none_ {l : List (Int × List UInt8)} {size code : Int} {w' : World} (h : patch l size = ([], code)) : PPatch l size (.tuple #[.slice none 0 0, .int .i64 code]) w' := by
  unfold PPatch
  rw [h]
  exact ⟨none, 0, rfl, rSl.nil_⟩
theorem outC_none (m : Nat) : outC (List.replicate m none) = List.replicate m (.int .u8 0) := by simp [outC]
theorem hasC_none (m : Nat) : hasC (List.replicate m none) = List.replicate m (.bool false) := by simp [hasC]
/-- A block as a slice. -/
theorem blk.toSl {α : Type} {R : Rep α} {w : World} {g : Nat} {t : TypeId} {cs : List Value} {l : List α} (h : blk w g t cs) (hl : l.length = cs.length) (hm : cs.length ≤ 140737488355328)
    (hx : ∀ (k : Nat) (x : α), l[k]? = some x → ∃ u, cs[k]? = some u ∧ R w w.heap.size x [u]) : rSl 1 1 R w w.heap.size l [.slice (some ⟨g, 0, none⟩) cs.length cs.length] := by
  refine ⟨some ⟨g, 0, none⟩, cs.length, by rw [hl], by omega, by unfold maxLen; omega, by omega, fun _ => ⟨g, 0, rfl, h.lt, fun k x hk => ?_⟩⟩
  obtain ⟨u, h1, h2⟩ := hx k x hk
  refine ⟨[u], rfl, h2, fun j v hj => ?_⟩
  have hj0 : j = 0 := by
    have := (List.getElem?_eq_some_iff.1 hj).1
    simp at this; exact this
  subst hj0
  simp at hj
  subst hj
  rw [h.cell]
  simpa using h1
theorem putB_cases {st : List (Option UInt8)} {k : Nat} {c : UInt8} {o : Option UInt8} (h : st[k]? = some o) : (o.isSome = false → putB st k c = some (st.set k (some c))) ∧ (o.isSome = true → o.getD 0 = c → putB st k c = some (st.set k (some c))) ∧ (o.isSome = true → o.getD 0 ≠ c → putB st k c = none) := by
  unfold putB
  rw [h]
  cases o with
  | none => simp
  | some d => simp

theorem blk_new {w : World} {t : TypeId} {z : Value} {m : Nat} {cs : List Value} (h : cs = List.replicate m z) : blk (w.alloc (.cells (madeCells #[z] m) t)) w.heap.size t cs := by
  subst h
  unfold blk
  rw [← madeCells_one]
  exact heap_alloc_new w _
theorem blk.drew {w : World} {g : Nat} {t : TypeId} {cs : List Value} (h : blk w g t cs) : blk w.drew g t cs := h

set_option maxHeartbeats 4000000 in
set_option maxRecDepth 100000 in
theorem patch_any (size : Int) (A : Option Addr) (n c : Nat) (l : List (Int × List UInt8)) (w : World) (hR : rChunks w w.heap.size l [.slice A n c]) :
    Calls Try.prog 21 #[.slice A n c, .int .i64 size] w (Ret (PPatch l size) w) := by
  have HR := Lib.hid hR
  have hln := hR.len
  have HL := Lib.hid hln
  have hcm := hR.le
  clear hR hln
  obtain ⟨hcm1, hcm2, _⟩ := hcm
  cases hz : inR size 0 2000000
  · go_enter Try.func21, Try.ntmps21
    go_wp2_with (go_at_call 28; refine (within_any _ _ _ _).mono ?_; rintro e w' ⟨rfl, rfl⟩)
    go_ret2
    exact ⟨_, rfl, Below.refl _ _, PPatch.none_ (by unfold patch; rw [hz]; rfl)⟩
  by_cases hn : n > 20000
  · have hn' : decide ((n : Int) > 20000) = true := by simp; omega
    go_enter Try.func21, Try.ntmps21
    go_wp2_with (go_at_call 28; refine (within_any _ _ _ _).mono ?_; rintro e w' ⟨rfl, rfl⟩)
    go_ret2
    exact ⟨_, rfl, Below.refl _ _, PPatch.none_ (by unfold patch; rw [if_neg (by simp [hz]), if_pos (by rw [HL.out]; exact hn)])⟩
  have hn' : decide ((n : Int) > 20000) = false := by simp; omega
  obtain ⟨m, rfl⟩ : ∃ m : Nat, size = m := ⟨size.toNat, by simp [inR] at hz; omega⟩
  have hm : m ≤ 2000000 := by simp [inR] at hz; omega
  have HP : Hid (patch l m = if !l.all (chunkOk m) then (([], 1) : List UInt8 × Int) else match putAll (List.replicate m none) l with
    | none => ([], 12)
    | some st => if st.contains none then ([], 9) else (stOut st, 0)) := by
    unfold patch; rw [if_neg (by simp [hz]), if_neg (by rw [HL.out]; exact hn)]; rfl
  go_enter Try.func21, Try.ntmps21
  go_wp2_with (go_at_call 28; refine (within_any _ _ _ _).mono ?_; rintro e w' ⟨rfl, rfl⟩)
  go_loopw [23] (fun i wr => ∃ k : Nat, k ≤ n ∧ i = .int .i64 k ∧ Below w.heap.size w wr ∧ Hid ((l.take k).all (chunkOk m) = true)) (fun i _ => n - (intOf i).toNat)
  case atStart => exact ⟨0, by omega, rfl, Below.refl _ _, by first | exact True.intro | exact rfl⟩
  case round =>
    obtain ⟨k, hk, rfl, hbr, HG⟩ := hrel
    have hbz := hbr.size
    by_cases hlt : k < n
    · obtain ⟨b, o, x, A', m', c', rfl, hb, hx, hx1, hx2, hxb, hxw⟩ := rChunks_at (rSl.keep HR.out hbr (Nat.le_refl _)) hlt
      have Hx := Lib.hid hx
      have hxm := hxb.le
      have hxl := hxb.len
      have hxw2 := wf64 hxw
      have HXL := Lib.hid hxl
      clear hx hxb hxw hxl
      obtain ⟨hxm1, hxm2, hxm3⟩ := hxm
      obtain ⟨hxw3, hxw4⟩ := hxw2
      have hbz2 : b < wr.heap.size := by omega
      cases h1 : inR x.1 0 m
      · go_wp2_with (go_at_call 28; refine (within_any _ _ _ _).mono ?_; rintro e w' ⟨rfl, rfl⟩)
        go_ret2
        refine ⟨_, rfl, hbr.alloc (by omega) _, PPatch.none_ ?_⟩
        rw [HP.out, if_pos (by rw [all_false Hx.out (by simp [chunkOk, h1])]; rfl)]
      have h1b : 0 ≤ x.1 ∧ x.1 ≤ m := by simp [inR] at h1; exact h1
      obtain ⟨h1c, h1d⟩ := h1b
      by_cases h2 : (m' : Int) > m - x.1
      · go_wp2_with (go_at_call 28; refine (within_any _ _ _ _).mono ?_; rintro e w' ⟨rfl, rfl⟩)
        go_ret2
        refine ⟨_, rfl, hbr.alloc (by omega) _, PPatch.none_ ?_⟩
        rw [HP.out, if_pos (by rw [all_false Hx.out (by simp [chunkOk, HXL.out]; omega)]; rfl)]
      · go_wp2_with (go_at_call 28; refine (within_any _ _ _ _).mono ?_; rintro e w' ⟨rfl, rfl⟩)
        go_roundw
        case rel =>
          refine ⟨k + 1, by omega, by go_num, hbr.alloc (by omega) _, ?_⟩
          show (l.take (k + 1)).all (chunkOk m) = true
          rw [all_take_succ Hx.out, HG.out]
          simp [chunkOk, h1, HXL.out]; omega
        case measure => simp [intOf]; omega
    · obtain rfl : k = n := by omega
      clear hlt
      have HA : Hid (l.all (chunkOk m) = true) := by
        have h := HG.out
        have hl := HL.out
        rwa [List.take_of_length_le (by omega)] at h
      have HP2 : Hid (patch l m = match putAll (List.replicate m none) l with
        | none => ([], 12)
        | some st => if st.contains none then ([], 9) else (stOut st, 0)) := by rw [HP.out, if_neg (by rw [HA.out]; simp)]; rfl
      clear HG HP
      have hmk1 : ∀ u : World, (Instr.makeSlice 41 (.int .i64 (m : Int)) (.int .i64 (m : Int))).run Try.prog u = .ok (.slice (some ⟨u.heap.size, 0, none⟩) m m) (u.alloc (.cells (madeCells #[.int .u8 0] m) 5)) := fun u => by
        obtain ⟨i0, hi, h1, h2, h3⟩ := info_parts (P := Try.prog) (e := 5) (z := .int .u8 0) (size := 1) (bytes := 1) (by kernel_rfl)
        have h := run_make (P := Try.prog) u 41 5 i0 (.int .u8 0) Try.underlying41 hi h1 .i64 .i64 (m : Int) (m : Int) (by omega) (Int.le_refl _) (by rw [h3]; omega) (by omega)
        rw [h2, Int.toNat_natCast, Nat.mul_one] at h
        exact h
      have hmk2 : ∀ u : World, (Instr.makeSlice 64 (.int .i64 (m : Int)) (.int .i64 (m : Int))).run Try.prog u = .ok (.slice (some ⟨u.heap.size, 0, none⟩) m m) (u.alloc (.cells (madeCells #[.bool false] m) 4)) := fun u => by
        obtain ⟨i0, hi, h1, h2, h3⟩ := info_parts (P := Try.prog) (e := 4) (z := .bool false) (size := 1) (bytes := 1) (by kernel_rfl)
        have h := run_make (P := Try.prog) u 64 4 i0 (.bool false) Try.underlying64 hi h1 .i64 .i64 (m : Int) (m : Int) (by omega) (Int.le_refl _) (by rw [h3]; omega) (by omega)
        rw [h2, Int.toNat_natCast, Nat.mul_one] at h
        exact h
      go_upto_region 11 with (fail)
      go_cut [8, 9] (fun a b wx => ∃ g1 g2 : Nat, a = .slice (some ⟨g1, 0, none⟩) m m ∧ b = .slice (some ⟨g2, 0, none⟩) m m ∧ g1 ≠ g2 ∧ w.heap.size ≤ g1 ∧ w.heap.size ≤ g2 ∧ Below w.heap.size w wx ∧
        Hid (blk wx g1 5 (outC (List.replicate m none))) ∧ Hid (blk wx g2 4 (hasC (List.replicate m none))))
      case first =>
        go_region
        all_goals go_wp2_with fail
        all_goals go_meet
        · exact ⟨wr.heap.size, wr.heap.size + 1, rfl, rfl, by omega, by omega, by omega, ((hbr.alloc (by omega) _).alloc (by simp; omega) _).drew,
            blk.drew (blk.alloc (blk_new (outC_none m)) _), blk.drew (by have := blk_new (w := wr.alloc (.cells (madeCells #[.int .u8 0] m) 5)) (t := 4) (hasC_none m); simpa using this)⟩
        · exact ⟨wr.heap.size + 1, wr.heap.size, rfl, rfl, by omega, by omega, by omega, ((hbr.alloc (by omega) _).alloc (by simp; omega) _).drew,
            blk.drew (by have := blk_new (w := wr.alloc (.cells (madeCells #[.bool false] m) 4)) (t := 5) (outC_none m); simpa using this), blk.drew (blk.alloc (blk_new (hasC_none m)) _)⟩
      case rest =>
        obtain ⟨g1, g2, rfl, rfl, hg12, hg1, hg2, hbx, HO, HH⟩ := hcut
        clear hbr hbz hmk1 hmk2
        go_wp2_with fail
        go_loopw [49] (fun i wr => ∃ (j : Nat) (st : List (Option UInt8)), j ≤ k ∧ i = .int .i64 j ∧ st.length = m ∧ Below w.heap.size w wr ∧ Hid (blk wr g1 5 (outC st)) ∧ Hid (blk wr g2 4 (hasC st)) ∧ Hid (putAll (List.replicate m none) l = putAll st (l.drop j))) (fun i _ => k - (intOf i).toNat)
        case atStart => exact ⟨0, List.replicate m none, by omega, rfl, by simp, hbx, HO, HH, rfl⟩
        case round =>
          obtain ⟨j, st, hj, rfl, hst, hbr, HO1, HH1, HG⟩ := hrel
          have hbz := hbr.size
          clear hbx HO HH
          by_cases hlt : j < k
          · obtain ⟨b, o, x, A', m', c', rfl, hb, hx, hx1, hx2, hxb, hxw⟩ := rChunks_at HR.out hlt
            have hok : chunkOk m x = true := List.all_eq_true.1 HA.out x (List.mem_of_getElem? hx)
            have hxl := hxb.len
            have hb1 : 0 ≤ x.1 ∧ x.1 ≤ m ∧ (m' : Int) ≤ m - x.1 := by
              simp [chunkOk, inR, hxl] at hok; omega
            obtain ⟨a, ha⟩ : ∃ a : Nat, x.1 = a := ⟨x.1.toNat, by omega⟩
            have HT : Hid (putAll st (l.drop j) = (putBs st a x.2).bind fun st' => putAll st' (l.drop (j + 1))) := by rw [drop_of hx, putAll, ha, Int.toNat_natCast]; rfl
            rw [ha] at hx1 hb1
            rw [← (bcell hbr).1 _ _ hb] at hx1 hx2
            have HXB := Lib.hid hxb
            have hxm := hxb.le
            have HXL := Lib.hid hxl
            clear hx hxb hxw hok hxl ha
            obtain ⟨_, hb2, hb3⟩ := hb1
            have hb4 : a + m' ≤ m := by omega
            have hbz2 : b < wr.heap.size := by omega
            have hg1z : g1 < wr.heap.size := HO1.out.lt
            have hg2z : g2 < wr.heap.size := HH1.out.lt
            go_wp2_with fail
            clear hx1 hx2 hb2 hb3
            obtain ⟨wo, rfl⟩ : ∃ wo : World, wo = wr := ⟨_, rfl⟩
            have HO2 := Lib.hid (blk.alloc HO1.out (.cells #[.int .i64 (a : Int), .slice A' m' c'] 46))
            have HH2 := Lib.hid (blk.alloc HH1.out (.cells #[.int .i64 (a : Int), .slice A' m' c'] 46))
            go_loopw [56] (fun i wr => ∃ (q : Nat) (s2 : List (Option UInt8)), q ≤ m' ∧ i = .int .i64 q ∧ s2.length = m ∧ Below w.heap.size w wr ∧ Hid (blk wr g1 5 (outC s2)) ∧ Hid (blk wr g2 4 (hasC s2)) ∧
              Hid (blk wr wo.heap.size 46 [.int .i64 (a : Int), .slice A' m' c']) ∧ Hid (putBs st a x.2 = putBs s2 (a + q) (x.2.drop q))) (fun i _ => m' - (intOf i).toNat)
            case atStart => exact ⟨0, st, by omega, rfl, hst, hbr.alloc (by omega) _, HO2.out, HH2.out, heap_alloc_new wo _, by first | exact True.intro | exact rfl⟩
            case round =>
              obtain ⟨q, s2, hq, rfl, hs2, hbr2, HO3, HH3, HB3, HG3⟩ := hrel
              have hbz3 := hbr2.size
              clear HO2 HH2 HO1 HH1
              by_cases hlt2 : q < m'
              · obtain ⟨b', o', y, rfl, hb', hy, hy1, hy2, hy3⟩ := rBytes_at HXB.out hlt2
                rw [← (bcell hbr2).1 _ _ hb'] at hy1
                have hbx1 : wr.cell? ⟨wo.heap.size, 0, none⟩ = some (.int .i64 (a : Int)) := by rw [HB3.out.cell]; rfl
                obtain ⟨e, he⟩ : ∃ e, s2[a + q]? = some e := ⟨_, List.getElem?_eq_getElem (by omega)⟩
                have hc1 : wr.cell? ⟨g2, a + q, none⟩ = some (.bool e.isSome) := by rw [HH3.out.cell]; simp [hasC, he]
                have hc2 : wr.cell? ⟨g1, a + q, none⟩ = some (.int .u8 ((e.getD 0).toNat : Int)) := by rw [HO3.out.cell]; simp [outC, he]
                have hf1 : wr.frozen? ⟨g1, a + q, none⟩ = false := HO3.out.free _
                have hf2 : wr.frozen? ⟨g2, a + q, none⟩ = false := HH3.out.free _
                have HP := Lib.hid (putB_cases (c := y) he)
                have HD : Hid (putBs s2 (a + q) (x.2.drop q) = (putB s2 (a + q) y).bind fun st' => putBs st' (a + q + 1) (x.2.drop (q + 1))) := by rw [drop_of hy]; rfl
                have hg1z2 : g1 < wr.heap.size := HO3.out.lt
                have hg2z2 : g2 < wr.heap.size := HH3.out.lt
                have hbz4 : b' < wr.heap.size := by omega
                clear he hy
                have hfin : putB s2 (a + q) y = some (s2.set (a + q) (some y)) → ∀ (w' : World), w' = (wr.setCell ⟨g1, a + q, none⟩ (.int .u8 (y.toNat : Int))).setCell ⟨g2, a + q, none⟩ (.bool true) →
                    ∃ (q' : Nat) (s2 : List (Option UInt8)), q' ≤ m' ∧ Value.int .i64 ((q : Int) + 1) = .int .i64 q' ∧ s2.length = m ∧ Below w.heap.size w w' ∧ Hid (blk w' g1 5 (outC s2)) ∧ Hid (blk w' g2 4 (hasC s2)) ∧
                      Hid (blk w' wo.heap.size 46 [.int .i64 (a : Int), .slice (some ⟨b', o', none⟩) m' c']) ∧ Hid (putBs st a x.2 = putBs s2 (a + q') (x.2.drop q')) := by
                  intro h w' hw'
                  subst hw'
                  refine ⟨q + 1, s2.set (a + q) (some y), by omega, by go_num, by simp [hs2], (hbr2.setCell (by simp; omega) _).setCell (by simp; omega) _, ?_, ?_, ?_, ?_⟩
                  · rw [← outC_set]; exact (HO3.out.set_ _ _).far (by simp; omega) _
                  · rw [← hasC_set]; exact (HH3.out.far (by simp; omega) _).set_ _ _
                  · exact (HB3.out.far (by simp; omega) _).far (by simp; omega) _
                  · rw [HG3.out, HD.out, h]; rfl
                have HF := Lib.hid hfin
                clear hfin
                cases hs : e.isSome
                · have HP1 := Lib.hid (HP.out.1 hs)
                  rw [hs] at hc1
                  go_wp2_with fail
                  go_roundw
                  case rel => exact HF.out HP1.out _ rfl
                  case measure => simp [intOf]; omega
                · rw [hs] at hc1
                  by_cases hd : e.getD 0 = y
                  · have HP1 := Lib.hid (HP.out.2.1 hs hd)
                    rw [hd] at hc2
                    have hne : ((y.toNat : Int) != (y.toNat : Int)) = false := bne_self_eq_false _
                    clear hd hs
                    go_wp2_with fail
                    go_roundw
                    case rel => exact HF.out HP1.out _ rfl
                    case measure => simp [intOf]; omega
                  · have HP1 := Lib.hid (HP.out.2.2 hs hd)
                    have hne : (((e.getD 0).toNat : Int) != (y.toNat : Int)) = true := by simpa using u8_ne hd
                    generalize (e.getD 0).toNat = dd at *
                    clear hd hs
                    go_wp2_with fail
                    go_ret2
                    refine ⟨_, rfl, hbr2, PPatch.none_ ?_⟩
                    rw [HP2.out, HG.out, HT.out, HG3.out, HD.out, HP1.out]
                    rfl
              · obtain rfl : q = m' := by omega
                have HE : Hid (putBs st a x.2 = some s2) := by
                  have h := HXL.out
                  rw [HG3.out, List.drop_of_length_le (by omega)]; rfl
                clear HG3
                go_wp2_with fail
                go_roundw
                case rel =>
                  refine ⟨j + 1, s2, by omega, by go_num, hs2, hbr2, HO3, HH3, ?_⟩
                  rw [HG.out, HT.out, HE.out]; rfl
                case measure => simp [intOf]; omega
          · obtain rfl : j = k := by omega
            have HE : Hid (putAll (List.replicate m none) l = some st) := by
              have h := HL.out
              rw [HG.out, List.drop_of_length_le (by omega)]; rfl
            have HP3 : Hid (patch l m = if st.contains none then ([], 9) else (stOut st, 0)) := by rw [HP2.out, HE.out]; rfl
            clear HP2 HE HG hlt
            have hbl : rBools wr wr.heap.size (st.map (·.isSome)) [.slice (some ⟨g2, 0, none⟩) m m] := by
              have h := blk.toSl (R := rBool) (l := st.map (·.isSome)) HH1.out (by simp [hasC]) (by simp [hasC, hst]; omega) (fun k x hk => ⟨.bool x, by rw [List.getElem?_map] at hk; simp [hasC]; obtain ⟨o, h1, h2⟩ := Option.map_eq_some_iff.1 hk; rw [h1]; simp [h2], rfl⟩)
              rw [show (hasC st).length = m by simp [hasC, hst]] at h
              exact h
            have hcn : (st.map (·.isSome)).contains false = st.contains none := by
              rw [Bool.eq_iff_iff]; simp
            have HCN := Lib.hid hcn
            have HBL := Lib.hid hbl
            clear hbl hcn
            go_wp2_with fail
            refine (containsBool_any _ _ _ _ _ _ _ HBL.out).mono ?_
            rintro e w' ⟨rfl, rfl⟩
            cases hc : (st.map (·.isSome)).contains false
            · have HC : Hid (st.contains none = false) := by rw [← HCN.out]; exact hc
              go_wp2_with fail
              go_ret2
              have hres : rBytes wr wr.heap.size (stOut st) [.slice (some ⟨g1, 0, none⟩) m m] := by
                have h := blk.toSl (R := rByte) (l := stOut st) HO1.out (by simp [outC, stOut]) (by simp [outC, hst]; omega) (fun k x hk => ⟨.int .u8 (x.toNat : Int), by unfold stOut at hk; rw [List.getElem?_map] at hk; simp [outC]; obtain ⟨o, h1, h2⟩ := Option.map_eq_some_iff.1 hk; exact ⟨o, h1, by rw [h2]⟩, rfl⟩)
                rw [show (outC st).length = m by simp [outC, hst]] at h
                exact h
              refine ⟨_, rfl, hbr, ?_⟩
              unfold PPatch
              rw [HP3.out, HC.out]
              have hl := hres.len
              simp only [Bool.false_eq_true, if_false]
              rw [hl]
              exact ⟨_, _, rfl, hres⟩
            · have HC : Hid (st.contains none = true) := by rw [← HCN.out]; exact hc
              go_wp2_with fail
              go_ret2
              exact ⟨_, rfl, hbr, PPatch.none_ (by rw [HP3.out, HC.out]; rfl)⟩
end Go.Proofs.Yteoojplgchlhcaa
