/-
  Calls that are handed boxes of one's own slices, frozen for the call. No statement of the seat is proved here; no conditions.
-/
import Derived.Test.YtbnmclcoekehbaaDoorEngV
namespace Go.Proofs.YtbnmclcoekehbaaDoor
open Go.RowKit
set_option linter.unusedVariables false
set_option linter.unusedSimpArgs false

theorem SlotsOk.at_ {H H' : Heap} {nw : List Nat} : ∀ {l l' : List AV}, SlotsOk H H' nw l l' → ∀ {j : Nat} {b : AV}, l'[j]? = some b → ∃ a, l[j]? = some a ∧ SlotOk H H' nw a b
  | [], l', h, j, b, hb => by
    simp only [SlotsOk] at h
    subst h
    simp at hb
  | a :: l, l', h, j, b, hb => by
    simp only [SlotsOk] at h
    cases l' with
    | nil => exact h.elim
    | cons b' l' =>
      simp only at h
      cases j with
      | zero =>
        simp only [List.getElem?_cons_zero, Option.some.injEq] at hb
        subst hb
        exact ⟨a, rfl, h.1⟩
      | succ j =>
        obtain ⟨a', g1, g2⟩ := SlotsOk.at_ h.2 (j := j) (by simpa using hb)
        exact ⟨a', by simpa using g1, g2⟩
/-- A box whose cells hang nowhere else, or what call_frz takes. -/
def NstOk (H : Heap) (a b : AV) : Prop := SlotOk H H0 [] a b ∨ ∃ id ver off l cs, a = .ptr id ver off ∧ b = .f (.fp l) ∧ cellsOf ver (H id) = some cs ∧ off + l.length ≤ cs.length ∧ SlotsOk H H0 [] ((cs.drop off).take l.length) (l.map .f)
def NstC (H : Heap) (a b : AV) : Prop := NstOk H a b ∨ ∃ g l l', a = .clo g l ∧ b = .clo g l' ∧ l'.length = l.length ∧ ∀ (j : Nat) x y, l[j]? = some x → l'[j]? = some y → NstOk H x y
def NstsOk (H : Heap) (l l' : List AV) : Prop := l'.length = l.length ∧ ∀ (j : Nat) x y, l[j]? = some x → l'[j]? = some y → NstC H x y
theorem NstOk.rep {P : Program} {G : Ghost} {H : Heap} {Z : Nat → Prop} {w : World} (st : St P G H Z w) {a b : AV} {v : Value} (h : NstOk H a b) (hr : RepA G Z w a v) : RepA (wkG G H0 []) (wkZ G H0 [] Z) w b v := by
  rcases h with h | ⟨id, ver, off, l, cs, rfl, rfl, hc, hin, hs⟩
  · exact SlotOk.rep st a b v h hr
  · obtain ⟨loc, hG, hob, hH⟩ := st.cells hc
    obtain ⟨g, o, rfl, rfl⟩ := hr.ptr_ hG
    obtain ⟨arr, e, hh, hcc⟩ := hob
    have hz : wkZ G H0 [] Z g := .inr ⟨id, o, by rw [hG], .inl rfl⟩
    have hx : ∀ (j : Nat) x, l[j]? = some x → ∃ u, w.cell? ⟨g, o + off + j, none⟩ = some u ∧ u.oneCell' = true ∧ RepF (wkZ G H0 [] Z) w x u := fun j x hx => by
      obtain ⟨c, h1, h2⟩ := hs.at_ (j := j) (b := .f x) (by rw [List.getElem?_map, hx]; rfl)
      have hj := (List.getElem?_eq_some_iff.1 hx).1
      rw [List.getElem?_take_of_lt hj, List.getElem?_drop] at h1
      obtain ⟨u, k2, k3, k4⟩ := hcc _ _ h1
      exact ⟨u, by rw [Nat.add_assoc, cell_of_row w g _ arr e (0, 0) hh]; exact k2, k3, (SlotOk.rep st _ _ u h2 k4).f_⟩
    refine .f (.fp l g (o + off) (fun j => (w.cell? ⟨g, o + off + j, none⟩).getD undef) hz (fun j hj => ?_) fun j a hj => ?_)
    · obtain ⟨u, h6, h7, _⟩ := hx j _ (List.getElem?_eq_getElem hj)
      simp only [h6, Option.getD_some]
      exact ⟨trivial, h7⟩
    · obtain ⟨u, h6, _, h7⟩ := hx j a hj
      simp only [h6, Option.getD_some]
      exact h7
theorem NstC.rep {P : Program} {G : Ghost} {H : Heap} {Z : Nat → Prop} {w : World} (st : St P G H Z w) {a b : AV} {v : Value} (h : NstC H a b) (hr : RepA G Z w a v) : RepA (wkG G H0 []) (wkZ G H0 [] Z) w b v := by
  rcases h with h | ⟨g, l, l', rfl, rfl, hl, hs⟩
  · exact h.rep st hr
  · obtain ⟨us, rfl, h1, h3⟩ := hr.clo_
    refine .clo _ _ us (by rw [hl]; exact h1) fun j y u hy hu => ?_
    have hj := (List.getElem?_eq_some_iff.1 hy).1
    obtain ⟨x, hx⟩ : ∃ x, l[j]? = some x := ⟨l[j]'(by omega), List.getElem?_eq_getElem _⟩
    exact (hs j x y hx hy).rep st (h3 j x u hx hu)
theorem call_nst {P : Program} {t : Nat} {f : FuncId} {args args' : List AV} {H : Heap} {rs : List RS} (hF : FRet P f args' rs) (hfree : ∀ j, H (t + 1000 * j) = (0, none)) (hs : NstsOk H args args') (hp : rs.all (RS.all FV.plain) = true) : ACall P f args H (fun r H' => r = oneOrTup (putS t 0 rs) ∧ H' = putHs t 0 rs H) :=
  call_core hF (fun G Z => wkZ G H0 [] Z) FV.plain hp (fun j _ => hfree j)
    (fun G Z w vs st hsz hrep => by
      obtain ⟨hl, hs⟩ := hs
      refine ⟨by omega, fun j b v hb hv => ?_⟩
      have hj := (List.getElem?_eq_some_iff.1 hb).1
      obtain ⟨a, ha⟩ : ∃ a, args[j]? = some a := ⟨args[j]'(by omega), List.getElem?_eq_getElem _⟩
      have := (hs j a b ha hb).rep st (hrep j a v ha hv)
      have e : wkG G H0 [] = fun _ => (0, none) := by funext id; simp [wkG, H0]
      rw [e] at this; exact this)
    (fun G Z w st => ⟨fun b h => .inl h, fun b h => h.imp (fun h => h) fun ⟨id, o, h, _⟩ => ⟨id, o, h⟩⟩)
    (fun G Z Z1 w w1 x v st hz hx h => h.plain hx)
theorem callN {P : Program} {R : Env → Heap → Prop} {Λ : Lams} {k : List It} {env : Env} {H : Heap} {d : Nat} {f : Operand} {args : List Operand} {g : Option (Nat × Bool)} {los : List LO} {fid : FuncId} {args' : List AV} {rs : List RS} (hg : gd g env = some true) (hF : FRet P fid args' rs) (hfn : evA env f = .f (.fn (.func fid))) (hs : NstsOk H (args.map (evA env)) args') (hp : rs.all (RS.all FV.plain) = true) (hfree : Free d H)
    (h : srun P R 300 Λ (.ops los :: k) (putE env (some d) (oneOrTup (putS d 0 rs))) (putHs d 0 rs H)) : Ax P R Λ (.ops (⟨some d, .call f args, g⟩ :: los) :: k) env H :=
  ax_call (f := f) (args := args) rfl hg (Q := fun r H' => r = oneOrTup (putS d 0 rs) ∧ H' = putHs d 0 rs H) (by rw [hfn]; exact call_nst (t := d) hF hfree hs hp) fun v H' hq => by obtain ⟨h1, h2⟩ := hq; subst h1 h2; exact srun_sound 300 _ _ _ _ h
/-- A value, and a closure over two boxes. -/
theorem nsts_clo2 {H : Heap} {x : FV} {g : Fn} {a b a' b' : AV} (h1 : NstOk H a a') (h2 : NstOk H b b') : NstsOk H [.f x, .clo g [a, b]] [.f x, .clo g [a', b']] := by
  refine ⟨rfl, fun j p q hp hq => ?_⟩
  rcases j with _ | _ | j
  · obtain rfl := Option.some.inj hp; obtain rfl := Option.some.inj hq; exact .inl (.inl so_f)
  · obtain rfl := Option.some.inj hp; obtain rfl := Option.some.inj hq
    refine .inr ⟨g, _, _, rfl, rfl, rfl, fun j p q hp hq => ?_⟩
    rcases j with _ | _ | j
    · obtain rfl := Option.some.inj hp; obtain rfl := Option.some.inj hq; exact h1
    · obtain rfl := Option.some.inj hp; obtain rfl := Option.some.inj hq; exact h2
    · simp at hp
  · simp at hp
theorem flat_one {α : Type} : ∀ l : List α, (l.map fun x => [x]).flatten = l
  | [] => rfl
  | x :: l => by rw [List.map_cons, List.flatten_cons, flat_one l]; rfl
/-- A box that has one slice of one-cell values. -/
theorem nst_box {H : Heap} {id ver i v n : Nat} {l : List FV} (h : cellsOf ver (H id) = some [.sl i v 1 0 n]) (h2 : cellsOf v (H i) = some (l.map .f)) (hn : l.length = n) : NstOk H (.ptr id ver 0) (.f (.fp [.fr 1 (l.map fun x => [x])])) := by
  refine .inr ⟨id, ver, 0, _, _, rfl, rfl, h, Nat.le_refl _, ?_⟩
  show SlotsOk H H0 [] [.sl i v 1 0 n] [.f (.fr 1 (l.map fun x => [x]))]
  rw [so_cons, so_nil]
  exact ⟨so_sl rfl h2 (by rw [List.length_map]; exact hn) (fun x hx => by obtain ⟨y, _, rfl⟩ := List.mem_map.1 hx; rfl) (flat_one l), trivial⟩
end Go.Proofs.YtbnmclcoekehbaaDoor
