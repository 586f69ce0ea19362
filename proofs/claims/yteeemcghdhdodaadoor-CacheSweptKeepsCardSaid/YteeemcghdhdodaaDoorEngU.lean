/-
  The abstract machine: contracts of functions that hand back one plain value, out of the kit's. No statement of the seat is proved here; no conditions.
-/
import Derived.Test.YteeemcghdhdodaaDoorEngT
namespace Go.Proofs.YteeemcghdhdodaaDoor
open Go.RowKit
set_option linter.unusedVariables false
set_option linter.unusedSimpArgs false

theorem fret_calls {P : Program} {f : FuncId} {args : List AV} {x : FV} (hc : callable P f = true)
    (h : ∀ (G : Ghost) (Z : Nat → Prop) (w : World) (vs : Array Value), vs.size = args.length → (∀ (j : Nat) (a : AV) (v : Value), args[j]? = some a → vs[j]? = some v → RepA G Z w a v) → Calls P f vs w fun e w' => ∃ v, e = .returned v ∧ (∀ Z' : Nat → Prop, RepF Z' w' x v) ∧ Below w.heap.size w w') : FRet P f args [.c (.v x)] := by
  refine ⟨hc, fun G Z w vs st hs hrep => ?_⟩
  refine (h G Z w vs hs hrep).mono fun e w' ⟨v, he, hv, hb⟩ => ?_
  have nl : ∀ bk, ¬ LiveB G bk := fun bk ⟨id, o, hl⟩ => by
    have := st.dead id rfl
    rw [this] at hl; cases hl
  have hz : ∀ bk, Z bk → w'.heap[bk]? = w.heap[bk]? := fun bk hk => hb.block bk (st.zlt bk hk)
  exact ⟨_, .f x, H0, G, Z, he, ⟨[_], rfl, ⟨rfl, rfl⟩, List.nodup_nil⟩, ⟨st.ver, st.dead, fun id o h => (by cases h), st.inj, st.disj, fun bk hk => Nat.lt_of_lt_of_le (st.zlt bk hk) hb.size, fun id g o hl => absurd ⟨id, o, hl⟩ (nl g), fun id g o hl => absurd ⟨id, o, hl⟩ (nl g)⟩,
    ⟨hb.os, hb.tape, hb.output, hb.size, fun bk hk _ => hb.block bk hk, fun bk hk => ⟨hk, hz bk hk⟩, fun bk hk => .inl hk, fun bk hl => .inl hl, fun bk arr e fz hl _ => absurd hl (nl bk), fun _ _ => Nat.le_refl _, fun _ _ _ => .inr rfl⟩, .f (hv _)⟩
theorem args2 {G : Ghost} {Z : Nat → Prop} {w : World} {a b : FV} {vs : Array Value} (hs : vs.size = [AV.f a, AV.f b].length) (h : ∀ (j : Nat) (x : AV) (v : Value), [AV.f a, AV.f b][j]? = some x → vs[j]? = some v → RepA G Z w x v) :
    ∃ v0 v1, vs = #[v0, v1] ∧ RepF Z w a v0 ∧ RepF Z w b v1 := by
  obtain ⟨l⟩ := vs
  rcases l with _ | ⟨v0, _ | ⟨v1, _ | ⟨v2, l⟩⟩⟩ <;> simp at hs
  exact ⟨v0, v1, rfl, (h 0 _ v0 rfl rfl).f_, (h 1 _ v1 rfl rfl).f_⟩
theorem RepF.str_ {Z : Nat → Prop} {w : World} {s : ByteArray} {v : Value} (h : RepF Z w (.str s) v) : v = .string s := by cases h; rfl
/-- A call whose own arguments are frozen for it. -/
theorem callF {P : Program} {R : Env → Heap → Prop} {Λ : Lams} {k : List It} {env : Env} {H : Heap} {d : Nat} {f : Operand} {args : List Operand} {g : Option (Nat × Bool)} {los : List LO} {fid : FuncId} {args' : List AV} {rs : List RS} (hg : gd g env = some true) (hF : FRet P fid args' rs) (hfn : evA env f = .f (.fn (.func fid))) (hs : SlotsOk H H0 [] (args.map (evA env)) args') (hp : rs.all (RS.all FV.plain) = true) (hfree : Free d H)
    (h : srun P R 300 Λ (.ops los :: k) (putE env (some d) (oneOrTup (putS d 0 rs))) (putHs d 0 rs H)) : Ax P R Λ (.ops (⟨some d, .call f args, g⟩ :: los) :: k) env H :=
  ax_call (f := f) (args := args) rfl hg (Q := fun r H' => r = oneOrTup (putS d 0 rs) ∧ H' = putHs d 0 rs H) (by rw [hfn]; exact call_frz (t := d) hF hfree hs hp) fun v H' hq => by obtain ⟨h1, h2⟩ := hq; subst h1 h2; exact srun_sound 300 _ _ _ _ h
theorem so_pf {H H' : Heap} {nw : List Nat} {id ver off : Nat} {l : List FV} {cs : List AV} (h1 : (H' id).2 = none) (h2 : cellsOf ver (H id) = some cs) (h3 : off + l.length ≤ cs.length) (h4 : (cs.drop off).take l.length = l.map .f) : SlotOk H H' nw (.ptr id ver off) (.f (.fp l)) := ⟨h1, cs, h2, h3, h4⟩
theorem so_sl {H H' : Heap} {nw : List Nat} {id ver sz n : Nat} {l : List (List FV)} {cs : List FV} (hd : (H' id).2 = none) (hc : cellsOf ver (H id) = some (cs.map .f)) (hn : l.length = n) (hsz : ∀ x ∈ l, x.length = sz) (hfl : l.flatten = cs) : SlotOk H H' nw (.sl id ver sz 0 n) (.f (.fr sz l)) := by
  have hl := flatten_len l hsz
  refine ⟨rfl, hn, hsz, hd, _, hc, ?_, ?_⟩
  · rw [List.length_map, ← hfl, hl, ← hn, Nat.zero_add]; exact Nat.le_refl _
  · rw [Nat.zero_mul, List.drop_zero, List.take_of_length_le (by rw [List.length_map, ← hfl, hl, ← hn]; exact Nat.le_refl _), hfl]
theorem flat_strs (l : List ByteArray) : (l.map fun s => [FV.str s]).flatten = l.map .str := by
  induction l with
  | nil => rfl
  | cons a l ih => simp [ih]
theorem so_strs {H H' : Heap} {nw : List Nat} {id ver : Nat} {l : List ByteArray} (hd : (H' id).2 = none) (hc : cellsOf ver (H id) = some ((l.map FV.str).map .f)) : SlotOk H H' nw (.sl id ver 1 0 l.length) (.f (.fr 1 (l.map fun s => [.str s]))) :=
  so_sl hd hc (by simp) (fun x hx => by obtain ⟨y, _, rfl⟩ := List.mem_map.1 hx; rfl) (flat_strs l)
theorem so_f {H H' : Heap} {nw : List Nat} {x : FV} : SlotOk H H' nw (.f x) (.f x) := .inl rfl
theorem ret_o {sz n id ver : Nat} {cs : List FV} {H : Heap} (h : cellsOf ver (H id) = some (cs.map .f)) (hl : n * sz ≤ cs.length) : Rets [.c (.own sz n cs)] (.sl id ver sz 0 n) H := ⟨[_], rfl, ⟨.inr ⟨_, _, rfl, h, hl⟩, rfl⟩, by simp [idsS]⟩
theorem ret_on {sz n : Nat} {cs : List FV} {H : Heap} (hn : n = 0) (hc : cs = []) : Rets [.c (.own sz n cs)] (.f .nil) H := ⟨[_], rfl, ⟨.inl ⟨rfl, hn, hc⟩, rfl⟩, by simp [idsS]⟩
theorem ret_ov {sz n id ver : Nat} {cs : List FV} {H : Heap} {x y : FV} (h : cellsOf ver (H id) = some (cs.map .f)) (hl : n * sz ≤ cs.length) (hx : y = x) : Rets [.c (.own sz n cs), .c (.v x)] (.tup [.sl id ver sz 0 n, .f y]) H := by subst hx; exact ⟨[_, _], rfl, ⟨.inr ⟨_, _, rfl, h, hl⟩, rfl, rfl⟩, by simp [idsS]⟩
theorem ret_onv {sz n : Nat} {cs : List FV} {H : Heap} {x y : FV} (hn : n = 0) (hc : cs = []) (hx : y = x) : Rets [.c (.own sz n cs), .c (.v x)] (.tup [.f .nil, .f y]) H := by subst hx; exact ⟨[_, _], rfl, ⟨.inl ⟨rfl, hn, hc⟩, rfl, rfl⟩, by simp [idsS]⟩
end Go.Proofs.YteeemcghdhdodaaDoor
