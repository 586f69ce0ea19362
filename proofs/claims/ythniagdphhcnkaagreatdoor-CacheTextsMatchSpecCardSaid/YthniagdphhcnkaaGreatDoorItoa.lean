/-
  Numbers written and read: strconv.Itoa, strconv.Atoi. No statement of the seat is proved here; no conditions.
-/
import Derived.Test.YthniagdphhcnkaaGreatDoorRun
import Derived.Test.YthniagdphhcnkaaGreatDoorOrd
import Derived.Test.YthniagdphhcnkaaGreatDoorLay
import Derived.Shelf.Strconv.Itoa3
import Derived.Shelf.Strconv.Atoi
import Derived.Lib.AppendIntMem
import Derived.Lib.AtoiErrMem
namespace Go.Proofs.YthniagdphhcnkaaGreatDoor
open Go.RowKit Go.Shelf
set_option linter.unusedVariables false
set_option linter.unusedSimpArgs false
set_option maxRecDepth 100000

theorem fret_callsK {P : Program} {f : FuncId} {args : List AV} {x : FV} (hc : callable P f = true)
  (h : ∀ (G : Ghost) (Z : Nat → Prop) (w : World) (vs : Array Value),Kn P Z w → vs.size = args.length → (∀ (j : Nat) (a : AV) (v : Value),args[j]? = some a → vs[j]? = some v → RepA G Z w a v) → Calls P f vs w fun e w' => ∃ v,e = .returned v ∧ (∀ Z' : Nat → Prop,RepF Z' w' x v) ∧ Below w.heap.size w w') : FRet P f args [.c (.v x)] := by
 refine ⟨hc,fun G Z w vs st hs hrep => ?_⟩
 refine (h G Z w vs st.zlt.kn hs hrep).mono fun e w' ⟨v,he,hv,hb⟩ => ?_
 have nl : ∀ bk,¬ LiveB G bk := fun bk ⟨id,o,hl⟩ => by
  have := st.dead id rfl
  rw [this] at hl;cases hl
 have hz : ∀ bk,Z bk → w'.heap[bk]? = w.heap[bk]? := fun bk hk => hb.block bk (st.zlt bk hk)
 exact ⟨_,.f x,H0,G,Z,he,⟨[_],rfl,⟨rfl,rfl⟩,List.nodup_nil⟩,⟨st.ver,st.dead,fun id o h => (by cases h),st.inj,st.disj,⟨fun bk hk => Nat.lt_of_lt_of_le (st.zlt bk hk) hb.size,st.zlt.kn.mono fun bk hk => ⟨hk,hz bk hk⟩⟩,fun id g o hl => absurd ⟨id,o,hl⟩ (nl g),fun id g o hl => absurd ⟨id,o,hl⟩ (nl g)⟩,
  ⟨hb.os,hb.tape,hb.output,hb.size,fun bk hk _ => hb.block bk hk,fun bk hk => ⟨hk,hz bk hk⟩,fun bk hk => .inl hk,fun bk hl => .inl hl,fun bk arr e fz hl _ => absurd hl (nl bk),fun _ _ => Nat.le_refl _,fun _ _ _ => .inr rfl⟩,.f (hv _)⟩
theorem fret_callsK2 {P : Program} {f : FuncId} {args : List AV} {x y : FV} (hc : callable P f = true)
  (h : ∀ (G : Ghost) (Z : Nat → Prop) (w : World) (vs : Array Value),Kn P Z w → vs.size = args.length → (∀ (j : Nat) (a : AV) (v : Value),args[j]? = some a → vs[j]? = some v → RepA G Z w a v) → Calls P f vs w fun e w' => ∃ u v,e = .returned (.tuple #[u,v]) ∧ (∀ Z' : Nat → Prop,RepF Z' w' x u ∧ RepF Z' w' y v) ∧ Below w.heap.size w w') : FRet P f args [.c (.v x),.c (.v y)] := by
 refine ⟨hc,fun G Z w vs st hs hrep => ?_⟩
 refine (h G Z w vs st.zlt.kn hs hrep).mono fun e w' ⟨u,v,he,hv,hb⟩ => ?_
 have nl : ∀ bk,¬ LiveB G bk := fun bk ⟨id,o,hl⟩ => by
  have := st.dead id rfl
  rw [this] at hl;cases hl
 have hz : ∀ bk,Z bk → w'.heap[bk]? = w.heap[bk]? := fun bk hk => hb.block bk (st.zlt bk hk)
 exact ⟨_,.tup [.f x,.f y],H0,G,Z,he,⟨[_,_],rfl,⟨rfl,rfl,rfl⟩,List.nodup_nil⟩,⟨st.ver,st.dead,fun id o h => (by cases h),st.inj,st.disj,⟨fun bk hk => Nat.lt_of_lt_of_le (st.zlt bk hk) hb.size,st.zlt.kn.mono fun bk hk => ⟨hk,hz bk hk⟩⟩,fun id g o hl => absurd ⟨id,o,hl⟩ (nl g),fun id g o hl => absurd ⟨id,o,hl⟩ (nl g)⟩,
  ⟨hb.os,hb.tape,hb.output,hb.size,fun bk hk _ => hb.block bk hk,fun bk hk => ⟨hk,hz bk hk⟩,fun bk hk => .inl hk,fun bk hl => .inl hl,fun bk arr e fz hl _ => absurd hl (nl bk),fun _ _ => Nat.le_refl _,fun _ _ _ => .inr rfl⟩,.tup _ _ rfl fun j a z ha hz => by
   rcases j with _ | _ | j
   ·obtain rfl := Option.some.inj ha;simp at hz;subst hz;exact .f (hv _).1
   ·obtain rfl := Option.some.inj ha;simp at hz;subst hz;exact .f (hv _).2
   ·simp at ha⟩
theorem args1K {G : Ghost} {Z : Nat → Prop} {w : World} {a : FV} {vs : Array Value} (hs : vs.size = [AV.f a].length) (h : ∀ (j : Nat) (x : AV) (v : Value),[AV.f a][j]? = some x → vs[j]? = some v → RepA G Z w x v) : ∃ v0,vs = #[v0] ∧ RepF Z w a v0 := by
 obtain ⟨l⟩ := vs
 match l,hs with
 | [v0],_ =>
  refine ⟨v0,rfl,?_⟩
  cases h 0 _ v0 rfl rfl with
  | f h => exact h
theorem itoa_f (n : Int) (h0 : -9223372036854775808 ≤ n) (h1 : n ≤ 9223372036854775807) : FRet Tryz.prog 11 [.f (.int .i64 n)] [.c (.v (.str ⟨(Lib.itoa n).toArray⟩))] :=
 fret_callsK (by kernel_rfl) fun G Z w vs hk hs hrep => by
  obtain ⟨v0,rfl,r0⟩ := args1K hs hrep
  have e0 : v0 = .int .i64 n := by cases r0;rfl
  subst e0
  have hcon := Any.strconv_Itoa Tryz.laysM171 n h0 h1 w (hk 1 (by kernel_rfl)).2
  change Calls Tryz.prog 11 _ _ _ at hcon
  exact hcon.mono fun e w' ⟨he,k,os,hw⟩ => ⟨_,he,fun Z' => .str _,by rw [hw];exact Lib.below_grow _ _ (Nat.le_refl _) _ _⟩
theorem atoi_f (s : ByteArray) (n : Int) (hl : s.size ≤ 18) (h : Lib.atoi s.data.toList = some n) : FRet Tryz.prog 48 [.f (.str s)] [.c (.v (.int .i64 n)),.c (.v (.lit .nilIface))] :=
 fret_callsK2 (by kernel_rfl) fun G Z w vs hk hs hrep => by
  obtain ⟨v0,rfl,r0⟩ := args1K hs hrep
  have e0 : v0 = .string s := by cases r0;rfl
  subst e0
  have hcon := Any.strconv_Atoi Tryz.lays172 s n hl h w
  change Calls Tryz.prog 48 _ _ _ at hcon
  exact hcon.mono fun e w' ⟨he,t,hw⟩ => ⟨_,_,he,fun Z' => ⟨.int _ _,.lit _⟩,by rw [hw];exact Lib.bytesWorld_below _ _ _⟩
end Go.Proofs.YthniagdphhcnkaaGreatDoor
