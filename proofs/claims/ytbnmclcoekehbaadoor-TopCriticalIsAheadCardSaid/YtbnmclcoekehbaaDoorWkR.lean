/-
  slices.Backward's iterator at ints: its contract. No statement of the seat is proved here; no conditions.
-/
import Derived.RangeFuncNested
import Derived.RangeFuncBound
import Derived.RangeFuncCalls
import Derived.RangeFuncLeaves
import Derived.RangeFuncBox
import Derived.RangeFuncFrom
import Derived.Shelf.Abstract
import Derived.Shelf.RegionOpen
import Derived.WalkKit
import Derived.OwnWalkIn
import Derived.TacticsInMore
import Derived.LoopNIn
import Derived.LoopIn
import Derived.Test.YtbnmclcoekehbaaDoorWkC
namespace Go.Proofs.YtbnmclcoekehbaaDoor
open Go.RowKit Go.Shelf
set_option linter.unusedVariables false
set_option linter.unusedSimpArgs false
attribute [local go_sem] Oper.semAt_some

/-- What has come when k rounds are over: f 0, .., f (k - 1). -/
def uptoF {α : Type} (f : Nat → α) (k : Nat) : List α := (List.range k).map f
theorem uptoF_succ {α : Type} (f : Nat → α) (k : Nat) : uptoF f (k + 1) = uptoF f k ++ [f k] := by simp [uptoF, List.range_succ]
theorem uptoF_length {α : Type} (f : Nat → α) (k : Nat) : (uptoF f k).length = k := by simp [uptoF]
/-- The j-th from the last one on. -/
def bwF {α : Type} (mk : Nat → α) (len : Nat) (j : Nat) : α := mk (len - 1 - j)
set_option maxRecDepth 100000 in
set_option maxHeartbeats 2000000 in
theorem bw1_in {α : Type} (encs : α → Array Value) (mk : Nat → α) (F : Fence) (n : Nat) (h7 : F.fn 28) (hro : F.round = none) (hn : 1 ≤ n) (l Bs b off cap : Nat) (Kp : World → World → Prop) (hKr : ∀ A, Kp A A) (hKt : ∀ A B C, Kp A B → Kp B C → Kp A C) (hKc : ∀ A B, Kp A B → B.cell? ⟨Bs, 0, none⟩ = A.cell? ⟨Bs, 0, none⟩ ∧ ∀ j, B.cell? ⟨b, off + j, none⟩ = A.cell? ⟨b, off + j, none⟩) (len : Nat) (g : Nat → Int) (hreach : len * 8 ≤ 140737488351232) (henc : ∀ m, m < len → encs (mk m) = #[.int .i64 (m : Int), .int .i64 (g m)]) (J Jx : List α → World → Prop)
    (hY : ∀ pre x W, J pre W → pre.length < len → YieldAt F (n - 1) Tryd.prog l (encs x) W fun e W' =>
      (e = .returned (.bool true) ∧ J (pre ++ [x]) W' ∧ Kp W W') ∨ (e = .returned (.bool false) ∧ Jx (pre ++ [x]) W'))
    (W : World) (hBs : W.cell? ⟨Bs, 0, none⟩ = some (.slice (some ⟨b, off, none⟩) len cap)) (hc : ∀ j, j < len → W.cell? ⟨b, off + j, none⟩ = some (.int .i64 (g j))) (h0 : J [] W) :
    CallsIn F n Tryd.prog 28 #[.func (.yield l) #[] #[], .pointer (some ⟨Bs, 0, none⟩)] W fun e W' => (∃ v, e = .returned v) ∧
      ((∃ ys, ys = uptoF (bwF mk len) len ∧ J ys W') ∨ (∃ pre, (∃ k, k ≤ len ∧ pre = uptoF (bwF mk len) k) ∧ Jx pre W')) := by
  refine callsIn_of_wp Tryd.func28 rfl h7 ?_ hro
  simp only [Tryd.ntmps28, List.size_toArray, List.length_cons, List.length_nil, Nat.reduceAdd, Nat.reduceSub, Array.replicate_succ, Array.replicate_zero, List.push_toArray, List.append_toArray, List.nil_append, List.cons_append]
  gi_wp2
  gi_loopw [3] (fun i wr => ∃ (m : Nat) (z : Int), m ≤ len ∧ z = (m : Int) - 1 ∧ i = .int .i64 z ∧ J (uptoF (bwF mk len) (len - m)) wr ∧ Kp W wr)
    (fun i _ => (intOf i + 1).toNat)
  case atStart =>
    exact ⟨len, _, Nat.le_refl _, rfl, rfl, by rw [Nat.sub_self]; exact h0, hKr _⟩
  case round =>
    obtain ⟨m, z, hk, hz, rfl, hJs, hnx⟩ := hrel
    cases m with
    | zero =>
      obtain rfl : z = -1 := by omega
      clear hz
      gi_wp2
      go_end0
      exact ⟨⟨_, rfl⟩, .inl ⟨_, rfl, by simpa using hJs⟩⟩
    | succ m =>
      obtain rfl : z = (m : Int) := by omega
      clear hz
      have hlt : m < len := by omega
      have hcx : wr.cell? ⟨b, off + m, none⟩ = some (.int .i64 (g m)) := ((hKc _ _ hnx).2 m).trans (hc m hlt)
      have hbx : wr.cell? ⟨Bs, 0, none⟩ = some (.slice (some ⟨b, off, none⟩) len cap) := (hKc _ _ hnx).1.trans hBs
      have hup : uptoF (bwF mk len) (len - (m + 1)) ++ [mk m] = uptoF (bwF mk len) (len - m) := by
        have e : len - m = (len - (m + 1)) + 1 := by omega
        rw [e, uptoF_succ]
        have e2 : len - 1 - (len - (m + 1)) = m := by omega
        simp only [bwF, e2]
      obtain ⟨fn, tmps, assign, body, hy, hR⟩ := hY _ (mk m) wr hJs (by rw [uptoF_length]; omega)
      rw [henc m hlt] at hy
      gi_wp2
      refine hR.mono ?_
      rintro e W3 (⟨rfl, hJ3, hk3⟩ | ⟨rfl, hJx3⟩)
      · gi_wp2
        go_roundw
        case rel => exact ⟨m, (m : Int) - 1, by omega, rfl, by first | rfl | simp, by rw [← hup]; exact hJ3, hKt _ _ _ hnx hk3⟩
        case measure => simp [intOf]
      · gi_wp2
        refine bodyPost_ret (results_none rfl _ _ _) rfl ?_
        exact ⟨⟨_, rfl⟩, .inr ⟨_, ⟨len - m, by omega, hup⟩, hJx3⟩⟩
set_option maxHeartbeats 1000000 in
/-- The nil slice: no round. -/
theorem bw1_nil_in {α : Type} (F : Fence) (n : Nat) (h7 : F.fn 28) (hro : F.round = none) (l Bs : Nat) (A : Option Addr) (c : Nat) (J : List α → World → Prop) (W : World) (hBs : W.cell? ⟨Bs, 0, none⟩ = some (.slice A 0 c)) (h0 : J [] W) :
    CallsIn F n Tryd.prog 28 #[.func (.yield l) #[] #[], .pointer (some ⟨Bs, 0, none⟩)] W fun e W' => (∃ v, e = .returned v) ∧ J [] W' := by
  refine callsIn_of_wp Tryd.func28 rfl h7 ?_ hro
  simp only [Tryd.ntmps28, List.size_toArray, List.length_cons, List.length_nil, Nat.reduceAdd, Nat.reduceSub, Array.replicate_succ, Array.replicate_zero, List.push_toArray, List.append_toArray, List.nil_append, List.cons_append]
  gi_wp2
  gi_loopw [3] (fun i wr => i = .int .i64 (-1) ∧ J [] wr) (fun _ _ => 0)
  case atStart => exact ⟨rfl, h0⟩
  case round =>
    obtain ⟨rfl, hJs⟩ := hrel
    gi_wp2
    go_end0
    exact ⟨⟨_, rfl⟩, hJs⟩
set_option maxHeartbeats 1000000 in
theorem bw_in (F : Fence) (n : Nat) (h5 : F.fn 17) (hro : F.round = none) (a : Option Addr) (len cap : Nat) (w : World) :
    CallsIn F n Tryd.prog 17 #[.slice a len cap] w fun e w' => e = .returned (.func (.func 28) #[] #[.pointer (some ⟨w.heap.size, 0, none⟩)]) ∧ w' = w.alloc (.cells #[.slice a len cap] 23) := by
  refine callsIn_of_wp Tryd.func17 rfl h5 ?_ hro
  simp only [Tryd.ntmps17, List.size_toArray, List.length_cons, List.length_nil, Nat.reduceAdd, Nat.reduceSub, Array.replicate_succ, Array.replicate_zero, List.push_toArray, List.append_toArray, List.nil_append, List.cons_append]
  gi_wp2
  go_ret
  exact ⟨rfl, rfl⟩
/-- A slice value that holds these ints, in a block of Zk. -/
def IntsAt (Zk : Nat → Prop) (W : World) (sv : Value) (len : Nat) (g : Nat → Int) : Prop :=
  (∃ A c, sv = .slice A 0 c ∧ len = 0) ∨ ∃ b off cap, sv = .slice (some ⟨b, off, none⟩) len cap ∧ Zk b ∧ ∀ j, j < len → W.cell? ⟨b, off + j, none⟩ = some (.int .i64 (g j))
theorem bw_stops {α : Type} (encs : α → Array Value) (mk : Nat → α) (F : Fence) (n : Nat) (h7 : F.fn 28) (hro : F.round = none) (hn : 1 ≤ n) (Bs : Nat) (sv : Value) (len : Nat) (g : Nat → Int) (hreach : len * 8 ≤ 140737488351232) (w : World) (hBs : Bs < w.heap.size)
    (Zk : Nat → Prop) (hZk : ∀ b, Zk b → b < w.heap.size) (Kp : World → World → Prop) (hKr : ∀ A, Kp A A) (hKt : ∀ A B C, Kp A B → Kp B C → Kp A C) (hKc : ∀ A B, Kp A B → B.cell? ⟨Bs, 0, none⟩ = A.cell? ⟨Bs, 0, none⟩ ∧ ∀ b, Zk b → ∀ o, B.cell? ⟨b, o, none⟩ = A.cell? ⟨b, o, none⟩)
    (henc : ∀ m, m < len → encs (mk m) = #[.int .i64 (m : Int), .int .i64 (g m)]) (hc : w.cell? ⟨Bs, 0, none⟩ = some sv) (hI : IntsAt Zk w sv len g) :
    SeqStopsK F n Tryd.prog 28 #[.pointer (some ⟨Bs, 0, none⟩)] encs Kp (fun ys => ys = uptoF (bwF mk len) len) (fun pre => ∃ k, k ≤ len ∧ pre = uptoF (bwF mk len) k) len w := fun l J Jx W hW _ _ hY h0 => by
  have hc' := (hW.cell (p := ⟨Bs, 0, none⟩) hBs).trans hc
  rcases hI with ⟨A, c, rfl, rfl⟩ | ⟨b, off, cap, rfl, hb, hcs⟩
  · exact (bw1_nil_in F n h7 hro l Bs A c J W hc' h0).mono fun e W' ⟨he, hj⟩ => ⟨he, .inl ⟨_, rfl, hj⟩⟩
  · refine (bw1_in encs mk F n h7 hro hn l Bs b off cap Kp hKr hKt (fun A B h => ⟨(hKc A B h).1, fun j => (hKc A B h).2 b hb (off + j)⟩) len g hreach henc J Jx hY W hc' (fun j hj => (hW.cell (p := ⟨b, off + j, none⟩) (hZk b hb)).trans (hcs j hj)) h0).mono ?_
    rintro e W' ⟨he, ⟨ys, rfl, hj⟩ | ⟨pre, ⟨k, hk, rfl⟩, hj⟩⟩
    · exact ⟨he, .inl ⟨_, rfl, hj⟩⟩
    · exact ⟨he, .inr ⟨_, ⟨k, hk, rfl⟩, hj⟩⟩
/-! ### Between calls and contracts -/
theorem fret_new {P : Program} {f : FuncId} {x y : FV} (hc : callable P f = true)
    (h : ∀ (w : World) (v : Value), RepF (fun b => b < w.heap.size) w y v → Calls P f #[v] w fun e w' => ∃ v' g, e = .returned v' ∧ w.heap.size ≤ g ∧ g < w'.heap.size ∧ RepF (fun b => b = g) w' x v' ∧ Below w.heap.size w w') : FRet P f [.f y] [.c (.v x)] := by
  refine ⟨hc, fun G Z w vs st hs hrep => ?_⟩
  obtain ⟨v, rfl⟩ : ∃ v, vs = #[v] := by
    obtain ⟨l⟩ := vs
    rcases l with _ | ⟨v, _ | ⟨u, l⟩⟩
    · cases hs
    · exact ⟨v, rfl⟩
    · simp at hs
  have hy : RepF Z w y v := (hrep 0 _ v rfl rfl).f_
  refine (h w v (hy.keep fun b hb => ⟨st.zlt b hb, rfl⟩)).mono fun e w' ⟨v', g, he, hg1, hg2, hv, hb⟩ => ?_
  have nl : ∀ bk, ¬ LiveB G bk := fun bk ⟨id, o, hl⟩ => by
    have := st.dead id rfl
    rw [this] at hl; cases hl
  have hz : ∀ bk, Z bk → w'.heap[bk]? = w.heap[bk]? := fun bk hk => hb.block bk (st.zlt bk hk)
  refine ⟨_, .f x, H0, G, fun b => Z b ∨ b = g, he, ⟨[_], rfl, ⟨rfl, rfl⟩, List.nodup_nil⟩, ⟨st.ver, st.dead, fun id o h => (by cases h), st.inj, fun id b o hl => absurd ⟨id, o, hl⟩ (nl b), fun bk hk => hk.elim (fun hk => Nat.lt_of_lt_of_le (st.zlt bk hk) hb.size) (fun e => by rw [e]; exact hg2), fun id g o hl => absurd ⟨id, o, hl⟩ (nl g), fun id g o hl => absurd ⟨id, o, hl⟩ (nl g)⟩,
    ⟨hb.os, hb.tape, hb.output, hb.size, fun bk hk _ => hb.block bk hk, fun bk hk => ⟨.inl hk, hz bk hk⟩, fun bk hk => hk.elim .inl (fun e => .inr (by rw [e]; exact .inr hg1)), fun bk hl => .inl hl, fun bk arr e fz hl _ => absurd hl (nl bk), fun _ _ => Nat.le_refl _, fun _ _ _ => .inr rfl⟩, .f (hv.keep fun b hb => ⟨.inr hb, rfl⟩)⟩
/-- Two frozen results, to one who owns nothing. -/
theorem calls2 {P : Program} {f : FuncId} {xs : List FV} {y1 y2 : FV} (h : FRet P f (xs.map .f) [.c (.v y1), .c (.v y2)]) {W : World} {n₀ : Nat} (hn₀ : n₀ ≤ W.heap.size) {vs : Array Value} (hs : vs.size = xs.length) (hv : ∀ (j : Nat) (x : FV) (v : Value), xs[j]? = some x → vs[j]? = some v → RepF (fun b => b < n₀) W x v) :
    Calls P f vs W fun e w' => ∃ u1 u2, e = .returned (.tuple #[u1, u2]) ∧ RepF (fun b => b < n₀ ∨ (W.heap.size ≤ b ∧ b < w'.heap.size)) w' y1 u1 ∧ RepF (fun b => b < n₀ ∨ (W.heap.size ≤ b ∧ b < w'.heap.size)) w' y2 u2 ∧ Below W.heap.size W w' := by
  refine (h.2 (fun _ => (0, none)) (fun b => b < n₀) W vs ⟨fun _ => rfl, fun _ _ => rfl, fun id o h => (by cases h), fun _ _ _ _ _ h => (by cases h), fun _ _ _ h => (by cases h), fun b hb => Nat.lt_of_lt_of_le hb hn₀, fun _ _ _ h => (by cases h), fun _ _ _ h => (by cases h)⟩ (by rw [hs, List.length_map]) (fun j a v ha hj => by
    rw [List.getElem?_map] at ha
    obtain ⟨x, hx, rfl⟩ := Option.map_eq_some_iff.1 ha
    exact .f (hv j x v hx hj))).mono fun e w' ⟨v, r, H', G', Z', e1, ⟨l, hl, hrs, _⟩, st, hh, hr⟩ => ?_
  have hll : l = [.f y1, .f y2] := by
    rcases l with _ | ⟨a, _ | ⟨a', _ | ⟨a'', l⟩⟩⟩
    · exact hrs.elim
    · obtain ⟨_, h2⟩ := hrs
      cases h2
    · obtain ⟨h1, h2, _⟩ := hrs
      have e1 : a = .f y1 := h1
      have e2 : a' = .f y2 := h2
      rw [e1, e2]
    · obtain ⟨_, _, h3⟩ := hrs
      cases h3
  subst hll
  rw [hl] at hr
  have hr' : RepA G' Z' w' (.tup [.f y1, .f y2]) v := hr
  obtain ⟨us, rfl, g1, g3⟩ := hr'.tup_
  obtain ⟨ul⟩ := us
  rcases ul with _ | ⟨u1, _ | ⟨u2, _ | ⟨u3, ul⟩⟩⟩
  · cases g1
  · cases g1
  · have hzz : ∀ b, Z' b → b < n₀ ∨ (W.heap.size ≤ b ∧ b < w'.heap.size) := fun b hb => by
      rcases hh.zout b hb with h1 | ⟨_, _, h1⟩ | h1
      · exact .inl h1
      · cases h1
      · exact .inr ⟨h1, st.zlt b hb⟩
    refine ⟨u1, u2, e1, ((g3 0 _ u1 rfl rfl).f_).keep fun b hb => ⟨hzz b hb, rfl⟩, ((g3 1 _ u2 rfl rfl).f_).keep fun b hb => ⟨hzz b hb, rfl⟩, ?_⟩
    have old : ∀ b, b < W.heap.size → w'.heap[b]? = W.heap[b]? := fun b hb => hh.old b hb (fun ⟨_, _, h⟩ => by cases h)
    exact ⟨hh.os, hh.tape, hh.output, hh.size, fun b hb => old b hb⟩
  · simp at g1
end Go.Proofs.YtbnmclcoekehbaaDoor
