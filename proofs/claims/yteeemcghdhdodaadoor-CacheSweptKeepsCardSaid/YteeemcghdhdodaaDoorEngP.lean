/-
  The abstract machine: loops by a state; calls of functions that are handed what they only read. No statement of the seat is proved here; no conditions.
-/
import Derived.Test.YteeemcghdhdodaaDoorEngO
namespace Go.Proofs.YteeemcghdhdodaaDoor
open Go.RowKit
set_option linter.unusedVariables false
set_option linter.unusedSimpArgs false

def ObjOk (H H' : Heap) (nw : List Nat) (o : Option AObj) : AObj → Prop
  | .cells cs' => ∃ cs, o = some (.cells cs) ∧ SlotsOk H H' nw cs cs'
  | .map m => o = some (.map m)
structure WkOk (H H' : Heap) (nw : List Nat) : Prop where
  obj : ∀ id o', (H' id).2 = some o' → (id ∈ nw ∧ o' = .cells []) ∨ (id ∉ nw ∧ ObjOk H H' nw (H id).2 o')
  ent : ∀ id, 100000 ≤ id → (H id).1 ≤ (H' id).1 ∧ ((H' id).1 = (H id).1 → id ∉ nw)
section
variable {P : Program} {G : Ghost} {H H' : Heap} {nw : List Nat} {Z : Nat → Prop} {w : World}
theorem St.weak (st : St P G H Z w) (hk : WkOk H H' nw) : St P (wkG G H' nw) H' (wkZ G H' nw Z) w ∧ Hist G Z w (wkG G H' nw) (wkZ G H' nw Z) w := by
  have loc_of : ∀ id g o, (wkG G H' nw id).2 = some (some (g, o)) → (H' id).2.isSome = true ∧ id ∉ nw ∧ (G id).2 = some (some (g, o)) := by
    intro id g o h
    simp only [wkG] at h
    split at h
    · rename_i h1
      split at h
      · cases h
      · rename_i h2; exact ⟨h1, h2, h⟩
    · cases h
  refine ⟨⟨fun id => rfl, fun id h => by simp [wkG, h], fun id o' h => ?_, fun i1 i2 g o1 o2 h1 h2 => st.inj _ _ _ _ _ (loc_of _ _ _ h1).2.2 (loc_of _ _ _ h2).2.2, fun id g o h hz => ?_, fun b hb => ?_, fun id g o h => st.glt _ _ _ (loc_of _ _ _ h).2.2, fun id g o h => st.ones _ _ _ (loc_of _ _ _ h).2.2⟩,
    ⟨rfl, rfl, rfl, Nat.le_refl _, fun _ _ _ => rfl, fun b hb => ⟨.inl hb, rfl⟩, fun b hb => ?_, fun b hl => ?_, fun b arr e fz _ h => ⟨arr, e, fz, h, rfl⟩, fun id hid => ?_, fun id hid e => ?_⟩⟩
  · rcases hk.obj id o' h with ⟨h1, rfl⟩ | ⟨h1, h2⟩
    · exact ⟨none, by simp [wkG, h, h1], rfl⟩
    · cases o' with
      | cells cs' =>
        obtain ⟨cs, hcs, hs⟩ := h2
        obtain ⟨loc, hl, hob⟩ := st.obj id _ hcs
        refine ⟨loc, by simp [wkG, h, h1, hl], ?_⟩
        cases loc with
        | none =>
          have : cs = [] := hob
          subst this
          simp only [SlotsOk] at hs
          exact hs
        | some p =>
          obtain ⟨g, o⟩ := p
          obtain ⟨arr, e, hh, hc⟩ := hob
          refine ⟨arr, e, hh, fun j b hj => ?_⟩
          obtain ⟨us, hul, hus⟩ := exists_list (R := fun i u => arr[o + i]? = some u ∧ u.oneCell' = true ∧ ∀ a, cs[i]? = some a → RepA G Z w a u) cs.length (fun i hi => by
            obtain ⟨u, h3, h4, h5⟩ := hc i _ (List.getElem?_eq_getElem hi)
            exact ⟨u, h3, h4, fun a ha => by rw [List.getElem?_eq_getElem hi] at ha; obtain rfl := Option.some.inj ha; exact h5⟩)
          obtain ⟨g1, g2⟩ := SlotsOk.rep st cs cs' us hs hul (fun j x u hx hu => by
            obtain ⟨u', h3, _, _, h5⟩ := hus j (List.getElem?_eq_some_iff.1 hx).1
            rw [hu] at h3; obtain rfl := Option.some.inj h3
            exact h5 x hx)
          have hlt := (List.getElem?_eq_some_iff.1 hj).1
          obtain ⟨u, h3, h4, h5, _⟩ := hus j (by omega)
          exact ⟨u, h4, h5, g2 j b u hj h3⟩
      | map m =>
        obtain ⟨loc, hl, hob⟩ := st.obj id _ h2
        refine ⟨loc, by simp [wkG, h, h1, hl], ?_⟩
        cases loc with
        | none => exact hob
        | some p =>
          obtain ⟨g, o⟩ := p
          exact hob
  · obtain ⟨h1, h2, h3⟩ := loc_of _ _ _ h
    rcases hz with hz | ⟨id2, o2, h4, h5⟩
    · exact st.disj _ _ _ h3 hz
    · have := st.inj _ _ _ _ _ h3 h4
      subst this
      rcases h5 with h5 | h5
      · rw [h5] at h1; cases h1
      · exact h2 h5
  · rcases hb with hb | ⟨id, o, h1, _⟩
    · exact st.zlt b hb
    · exact st.glt _ _ _ h1
  · rcases hb with hb | ⟨id, o, h1, _⟩
    · exact .inl hb
    · exact .inr (.inl ⟨id, o, h1⟩)
  · obtain ⟨id, o, h⟩ := hl
    exact .inl ⟨id, o, (loc_of _ _ _ h).2.2⟩
  · rw [st.ver]; exact (hk.ent id hid).1
  · rw [st.ver] at e
    have hn := (hk.ent id hid).2 e
    simp only [wkG, hn, if_false]
    split
    · exact .inr rfl
    · exact .inl rfl
end

/-! ### States written out -/
def look (t : Nat) : List (Nat × AV) → AV
  | [] => .any
  | (s, a) :: l => if t = s then a else look t l
def mkE (n : Nat) (l : List (Nat × AV)) : Env := ⟨n, fun t => look t l⟩
instance : Coe (List AV) AObj := ⟨AObj.cells⟩
def lookH (id : Nat) : List (Nat × Nat × AObj) → Nat × Option AObj
  | [] => (0, none)
  | (i, v, ob) :: l => if id = i then (v, some ob) else lookH id l
def mkH (l : List (Nat × Nat × AObj)) : Heap := fun id => lookH id l
theorem look_nil {t : Nat} : look t [] = .any := rfl
theorem look_cons {t s : Nat} {a : AV} {l : List (Nat × AV)} : look t ((s, a) :: l) = if t = s then a else look t l := rfl
theorem lookH_nil {t : Nat} : lookH t [] = (0, none) := rfl
theorem lookH_cons {t s v : Nat} {ob : AObj} {l : List (Nat × Nat × AObj)} : lookH t ((s, v, ob) :: l) = if t = s then (v, some ob) else lookH t l := rfl
theorem mkE_f {n t : Nat} {l : List (Nat × AV)} : (mkE n l).f t = look t l := rfl
theorem mkE_eq {n : Nat} {l : List (Nat × AV)} : mkE n l = ⟨n, fun t => look t l⟩ := rfl
theorem mkE_n {n : Nat} {l : List (Nat × AV)} : (mkE n l).n = n := rfl
theorem mkH_at {t : Nat} {l : List (Nat × Nat × AObj)} : mkH l t = lookH t l := rfl
theorem SlotsOk.fs {H H' : Heap} {nw : List Nat} : ∀ {l l' : List FV}, l = l' → SlotsOk H H' nw (l.map .f) (l'.map .f)
  | [], _, rfl => rfl
  | x :: l, _, rfl => ⟨.inl rfl, SlotsOk.fs rfl⟩
theorem SlotsOk.of_eq {H H' : Heap} {nw : List Nat} {cs0 : List AV} {l : List FV} (h : cs0 = l.map .f) : SlotsOk H H' nw cs0 (l.map .f) := by subst h; exact SlotsOk.fs rfl
section
variable {H H' : Heap} {nw : List Nat}
theorem so_ff {x y : FV} : SlotOk H H' nw (.f x) (.f y) = (x = y ∨ (x = .nil ∧ ∃ sz, y = .fr sz [])) := by rw [SlotOk]
theorem so_fs {x : FV} {id ver sz off n : Nat} : SlotOk H H' nw (.f x) (.sl id ver sz off n) = (x = .nil ∧ off = 0 ∧ n = 0 ∧ id ∈ nw ∧ ver = (H' id).1) := by rw [SlotOk]
theorem so_ss {id ver sz off n id' ver' sz' off' n' : Nat} : SlotOk H H' nw (.sl id ver sz off n) (.sl id' ver' sz' off' n') = (id' = id ∧ sz' = sz ∧ off' = off ∧ n' = n ∧ ver = (H id).1 ∧ ver' = (H' id).1 ∧ id ∉ nw ∧ (H id).2.isSome = true ∧ (H' id).2.isSome = true) := by rw [SlotOk]
theorem so_pp {id ver off id' ver' off' : Nat} : SlotOk H H' nw (.ptr id ver off) (.ptr id' ver' off') = (id' = id ∧ off' = off ∧ ver = (H id).1 ∧ ver' = (H' id).1 ∧ id ∉ nw ∧ (H id).2.isSome = true ∧ (H' id).2.isSome = true) := by rw [SlotOk]
theorem so_mm {id ver id' ver' : Nat} : SlotOk H H' nw (.map id ver) (.map id' ver') = (id' = id ∧ ver = (H id).1 ∧ ver' = (H' id).1 ∧ id ∉ nw ∧ (H id).2.isSome = true ∧ (H' id).2.isSome = true) := by rw [SlotOk]
theorem so_aa {l l' : List AV} : SlotOk H H' nw (.agg l) (.agg l') = SlotsOk H H' nw l l' := by rw [SlotOk]
end
/-- No entries of a caller's, but for one (the object that a function is handed a pointer to). -/
def Small (H : Heap) : Prop := ∀ id, 100000 ≤ id → id ≠ 100001 → H id = (0, none)
def okId (i : Nat) : Bool := decide (i < 100000) || decide (i = 100001)
theorem small_upd {H : Heap} {i : Nat} {x : Nat × Option AObj} (hi : okId i = true) (h : Small H) : Small (upd H i x) := fun id hid hne => by
  simp only [okId, Bool.or_eq_true, decide_eq_true_eq] at hi
  rw [upd_ne _ _ _ _ (by omega)]; exact h id hid hne
theorem small_mk : ∀ {l : List (Nat × Nat × AObj)}, l.all (fun p => okId p.1) = true → Small (mkH l)
  | [], _ => fun id _ _ => rfl
  | (i, v, cs) :: l, h => fun id hid hne => by
    simp only [List.all_cons, Bool.and_eq_true, okId, Bool.or_eq_true, decide_eq_true_eq] at h
    rw [mkH_at, lookH_cons, if_neg (by omega)]
    exact small_mk h.2 id hid hne
def ElOk (H H' : Heap) (nw : List Nat) (env : Env) (n : Nat) : List (Nat × AV) → Prop
  | [] => True
  | (t, a) :: l => t < n ∧ SlotOk H H' nw (env.f t) a ∧ ElOk H H' nw env n l
def HlOk (H H' : Heap) (nw : List Nat) : List (Nat × Nat × AObj) → Prop
  | [] => True
  | (i, _, .cells cs) :: l => (if nw.contains i = true then cs = [] else ∃ cs0, (H i).2 = some (.cells cs0) ∧ SlotsOk H H' nw cs0 cs) ∧ HlOk H H' nw l
  | (i, _, .map m) :: l => (nw.contains i = false ∧ (H i).2 = some (.map m)) ∧ HlOk H H' nw l
/-- From env, H to what is written out. -/
def Wk (env : Env) (H : Heap) (nw : List Nat) (n : Nat) (el : List (Nat × AV)) (hl : List (Nat × Nat × AObj)) : Prop :=
  env.n = n ∧ Small H ∧ (hl.all (fun p => okId p.1) = true) ∧ (nw.all (fun i => decide (i < 100000)) = true) ∧ (H 100001).1 = (mkH hl 100001).1 ∧ ElOk H (mkH hl) nw env n el ∧ HlOk H (mkH hl) nw hl
section
variable {P : Program} {env : Env} {H : Heap} {nw : List Nat} {n : Nat} {el : List (Nat × AV)} {hl : List (Nat × Nat × AObj)}
theorem hl_obj {H' : Heap} : ∀ {hl : List (Nat × Nat × AObj)}, HlOk H H' nw hl → ∀ id o', (lookH id hl).2 = some o' → (id ∈ nw ∧ o' = .cells []) ∨ (id ∉ nw ∧ ObjOk H H' nw (H id).2 o')
  | [], _, id, o', h => by cases h
  | (i, v, .map m) :: l, hk, id, o', h => by
    rw [lookH_cons] at h
    by_cases e : id = i
    · subst e
      rw [if_pos rfl] at h
      obtain rfl := Option.some.inj h
      exact .inr ⟨by simpa using hk.1.1, hk.1.2⟩
    · rw [if_neg e] at h
      exact hl_obj hk.2 id o' h
  | (i, v, .cells cs) :: l, hk, id, o', h => by
    rw [lookH_cons] at h
    by_cases e : id = i
    · subst e
      rw [if_pos rfl] at h
      obtain rfl := Option.some.inj h
      have hk1 := hk.1
      split at hk1
      · rename_i hc; subst hk1; exact .inl ⟨by simpa using hc, rfl⟩
      · rename_i hc; exact .inr ⟨by simpa using hc, hk1⟩
    · rw [if_neg e] at h
      exact hl_obj hk.2 id o' h
theorem el_ok {H' : Heap} : ∀ {el : List (Nat × AV)}, ElOk H H' nw env n el → ∀ t, SlotOk H H' nw (env.f t) (look t el) ∧ (n ≤ t → look t el = .any)
  | [], _, t => ⟨by rw [look_nil]; cases env.f t <;> simp [SlotOk], fun _ => rfl⟩
  | (s, a) :: l, hk, t => by
    rw [look_cons]
    by_cases e : t = s
    · subst e
      rw [if_pos rfl]
      exact ⟨hk.2.1, fun h => absurd hk.1 (by omega)⟩
    · rw [if_neg e]
      exact el_ok hk.2.2 t
theorem Wk.sim (h : Wk env H nw n el hl) {s : At0} {a : Act} {w : World} (hs : Sim P s env H a w) : Sim P s (mkE n el) (mkH hl) a w := by
  obtain ⟨hn, hsm, hal, hnw, hpt, he, hh⟩ := h
  obtain ⟨G, Z, st, hr, hd, hi⟩ := hs
  have hwk : WkOk H (mkH hl) nw := ⟨hl_obj hh, fun id hid => by
    have h1 : (H id).1 = (mkH hl id).1 := by
      by_cases e : id = 100001
      · subst e; exact hpt
      · rw [hsm id hid e, small_mk hal id hid e]
    refine ⟨Nat.le_of_eq h1, fun _ hm => ?_⟩
    have := List.all_eq_true.1 hnw id hm
    simp only [decide_eq_true_eq] at this
    omega⟩
  obtain ⟨s1, s2⟩ := st.weak hwk
  refine ⟨_, _, s1, ⟨by rw [hr.len, hn]; rfl, fun i hi => (el_ok he i).2 hi, fun i v hv => ?_⟩, hd, hi.trans s2⟩
  exact SlotOk.rep st _ _ v (el_ok he i).1 (hr.at_ i v hv)
theorem ax_weak {R : Env → Heap → Prop} {Λ : Lams} {c : LCode} {k : List It} (h : Wk env H nw n el hl) (hx : Ax P R Λ (.code c :: k) (mkE n el) (mkH hl)) : Ax P R Λ (.code c :: k) env H := fun s t hm a w hs => hx s t hm a w (h.sim hs)
/-- A loop, by a state of one's own. -/
theorem ax_loopS {S : Type} {R : Env → Heap → Prop} {Λ : Lams} {c : LCode} {k : List It} (n : Nat) (E : S → List (Nat × AV)) (HH : S → List (Nat × Nat × AObj)) (inv : S → Prop) (μ : S → Nat) (s0 : S) (nw : List Nat) (h0 : inv s0) (hw : Wk env H nw n (E s0) (HH s0))
    (hr : ∀ s, inv s → Ax P R ((fun env' H' => ∃ s', inv s' ∧ μ s' < μ s ∧ Wk env' H' [] n (E s') (HH s')) :: Λ) (.code c :: .again :: k) (mkE n (E s)) (mkH (HH s))) : Ax P R Λ (.code (.loop c) :: k) env H := fun s t hm a w hs => by
  cases hm with
  | code hc hm =>
    obtain ⟨c1, rfl, h1⟩ := low_inv hc
    rename_i t
    have key : ∀ m (x : S) a w, μ x = m → inv x → Sim P s (mkE n (E x)) (mkH (HH x)) a w → Goal P (Fin P R s) (.code c1 :: .inLoop c1 :: t) a w := by
      intro m
      induction m using Nat.strongRecOn with
      | _ m ih =>
        intro x a w hm' hI hs
        refine (hr x hI).go (.code h1 (.again (fun env' H' a' w' hL hs' => ?_) hm)) hs
        obtain ⟨x', hI', hlt, hwk⟩ := hL
        exact Goal.steps (fun b cs => .one step_inLoop) (ih (μ x') (hm' ▸ hlt) x' a' w' rfl hI' (hwk.sim hs'))
    exact Goal.steps (fun b cs => .one step_loop) (key _ s0 a w rfl h0 (hw.sim hs))
end

/-! ### Results -/
inductive RC where
  | v (x : FV)
  | own (sz n : Nat) (cs : List FV)
inductive RS where
  | c (x : RC)
  | agg (l : List RC)
/-- An own result, or a plain one, as the function has it. -/
def RcOk (H : Heap) : RC → AV → Prop
  | .v x, a => a = .f x
  | .own sz n cs, a => (a = .f .nil ∧ n = 0 ∧ cs = []) ∨ ∃ id ver, a = .sl id ver sz 0 n ∧ cellsOf ver (H id) = some (cs.map .f) ∧ n * sz ≤ cs.length
def RcsOk (H : Heap) : List RC → List AV → Prop
  | [], l => l = []
  | r :: rs, l => match l with
    | a :: l => RcOk H r a ∧ RcsOk H rs l
    | [] => False
def RsOk (H : Heap) : List RS → List AV → Prop
  | [], l => l = []
  | .c r :: rs, l => (match l with
    | a :: l => RcOk H r a ∧ RsOk H rs l
    | [] => False)
  | .agg rc :: rs, l => (match l with
    | .agg cs :: l => RcsOk H rc cs ∧ RsOk H rs l
    | _ => False)
def idsC : List AV → List Nat
  | [] => []
  | .sl id _ _ _ _ :: l => id :: idsC l
  | _ :: l => idsC l
def idsS : List AV → List Nat
  | [] => []
  | .sl id _ _ _ _ :: l => id :: idsS l
  | .agg cs :: l => idsC cs ++ idsS l
  | _ :: l => idsS l
/-- What a function hands back. -/
def Rets (rs : List RS) (r : AV) (H : Heap) : Prop := ∃ l, r = oneOrTup l ∧ RsOk H rs l ∧ (idsS l).Nodup
def H0 : Heap := fun _ => (0, none)
/-- Function f, handed what it only reads, hands back this. -/
def FRet (P : Program) (f : FuncId) (args : List AV) (rs : List RS) : Prop := FCall P f args H0 (Rets rs)
theorem H0_at {t : Nat} : H0 t = (0, none) := rfl
theorem small_0 : Small H0 := fun _ _ _ => rfl

/-! ### .. and as the caller has it: own ones are objects t, t + 1000, .. -/
def putC (t : Nat) : Nat → RC → AV
  | _, .v x => .f x
  | k, .own sz n _ => .sl (t + 1000 * k) 1 sz 0 n
def nextC : Nat → RC → Nat
  | k, .v _ => k
  | k, .own .. => k + 1
def putCs (t : Nat) : Nat → List RC → List AV
  | _, [] => []
  | k, r :: rs => putC t k r :: putCs t (nextC k r) rs
def nextCs : Nat → List RC → Nat
  | k, [] => k
  | k, r :: rs => nextCs (nextC k r) rs
def putS (t : Nat) : Nat → List RS → List AV
  | _, [] => []
  | k, .c r :: rs => putC t k r :: putS t (nextC k r) rs
  | k, .agg l :: rs => .agg (putCs t k l) :: putS t (nextCs k l) rs
def putHc (t : Nat) (k : Nat) (r : RC) (H : Heap) : Heap := match r with
  | .v _ => H
  | .own _ _ cs => upd H (t + 1000 * k) (1, some (.cells (cs.map .f)))
def putHcs (t : Nat) : Nat → List RC → Heap → Heap
  | _, [], H => H
  | k, r :: rs, H => putHcs t (nextC k r) rs (putHc t k r H)
def putHs (t : Nat) : Nat → List RS → Heap → Heap
  | _, [], H => H
  | k, .c r :: rs, H => putHs t (nextC k r) rs (putHc t k r H)
  | k, .agg l :: rs, H => putHs t (nextCs k l) rs (putHcs t k l H)
def FV.plain : FV → Bool
  | .fr .. => false
  | .fp .. => false
  | .fm .. => false
  | _ => true
def RC.all (p : FV → Bool) : RC → Bool
  | .v x => p x
  | .own _ _ cs => cs.all p
def RS.all (p : FV → Bool) : RS → Bool
  | .c r => r.all p
  | .agg l => l.all (RC.all p)
theorem RepF.plain {Z Z' : Nat → Prop} {w w' : World} {x : FV} {v : Value} (h : RepF Z w x v) (hp : x.plain = true) : RepF Z' w' x v := by
  cases h <;> first | (constructor; done) | cases hp
end Go.Proofs.YteeemcghdhdodaaDoor
