/-
  The reading of structs of any number of fields. No statement of the seat is proved here; no conditions.
-/
import Derived.Test.YtagkdifaldikgaaGreatDoorRows
import Derived.WalkKit
import Derived.WalkSpells
import Derived.WalkLawsBesides
import Derived.BigQuiet
import Derived.Deep.QuietTactic
import Derived.Lib.Hide
import Derived.Deep.LoopGhost
import Derived.Deep.DeepCutAuto
import Derived.ProofKit
import Derived.SizedLaws
import Derived.Deep.Slices
import Derived.Deep.CondSized
import Derived.Deep.AppendLies
import Derived.JoinedCond
import Derived.Test.YtagkdifaldikgaaGreatDoorEngS
import Derived.Test.YtagkdifaldikgaaGreatDoorCards
import Derived.Test.YtagkdifaldikgaaGreatDoorTie
import Derived.OpenShut
import Derived.Deep.DeepHandedRow
import Derived.Lib.LaidTab
import Derived.Lib.ItoaNum
import Derived.Lay
import Derived.MakeChecks
import Derived.Stop.LaidErr
namespace Go.Proofs.YtagkdifaldikgaaGreatDoor
open Go.RowKit
open Go.RowKit Go.ChangeShapes Go.WideShapes Go.ChangeAt
set_option linter.unusedVariables false
set_option linter.unusedSimpArgs false

abbrev Rep (α : Type) := World → Nat → α → List Value → Prop

class Stable {α : Type} (R : Rep α) : Prop where
 keep : ∀ (w w' : World) (B B' : Nat) (x : α) (cs : List Value),Below B w w' → B ≤ B' → R w B x cs → R w' B' x cs

def rI (k : IntKind) : Rep Int := fun _ _ x cs => cs = [.int k x] ∧ (Lit.int k x).wf = true
def rByte : Rep UInt8 := fun _ _ x cs => cs = [.int .u8 (x.toNat : Int)]
def rBool : Rep Bool := fun _ _ x cs => cs = [.bool x]
def rStr : Rep ByteArray := fun _ _ x cs => cs = [.string x] ∧ x.size ≤ 140737488355328
def rPair {α β : Type} (R : Rep α) (S : Rep β) : Rep (α × β) := fun w B x cs => ∃ c1 c2,cs = c1 ++ c2 ∧ R w B x.1 c1 ∧ S w B x.2 c2
def rSl {α : Type} (sz bts : Nat) (R : Rep α) : Rep (List α) := fun w B l cs =>
 ∃ (A : Option Addr) (c : Nat),cs = [.slice A l.length c] ∧ l.length ≤ c ∧ c ≤ maxLen ∧ l.length * bts ≤ 140737488355328 ∧
  (0 < l.length → ∃ b o,A = some ⟨b,o,none⟩ ∧ b < B ∧ ∀ (k : Nat) (x : α),l[k]? = some x → ∃ vs : List Value,vs.length = sz ∧ R w B x vs ∧ ∀ (j : Nat) (u : Value),vs[j]? = some u → w.cell? ⟨b,o + k * sz + j,none⟩ = some u)

instance {k : IntKind} : Stable (rI k) := ⟨fun _ _ _ _ _ _ _ _ h => h⟩
instance : Stable rByte := ⟨fun _ _ _ _ _ _ _ _ h => h⟩
instance : Stable rBool := ⟨fun _ _ _ _ _ _ _ _ h => h⟩
instance : Stable rStr := ⟨fun _ _ _ _ _ _ _ _ h => h⟩
instance {α β : Type} {R : Rep α} {S : Rep β} [Stable R] [Stable S] : Stable (rPair R S) :=
 ⟨fun w w' B B' _ _ hb hB ⟨c1,c2,e,h1,h2⟩ => ⟨c1,c2,e,Stable.keep w w' B B' _ _ hb hB h1,Stable.keep w w' B B' _ _ hb hB h2⟩⟩
instance {α : Type} {sz bts : Nat} {R : Rep α} [Stable R] : Stable (rSl sz bts R) :=
 ⟨fun w w' B B' _ _ hb hB ⟨A,c,e,h1,h2,h3,h4⟩ => ⟨A,c,e,h1,h2,h3,fun h0 => by
  obtain ⟨b,o,hA,hlt,hx⟩ := h4 h0
  refine ⟨b,o,hA,by omega,fun k x hk => ?_⟩
  obtain ⟨vs,hl,hR,hc⟩ := hx k x hk
  exact ⟨vs,hl,Stable.keep w w' B B' _ _ hb hB hR,fun j u hj => (hb.cell (p := ⟨b,_,none⟩) hlt).trans (hc j u hj)⟩⟩⟩

section
variable {α : Type} {R : Rep α} {w : World} {B sz bts n c : Nat} {A : Option Addr} {l : List α}
theorem rSl.nil_ : rSl sz bts R w B [] [.slice none 0 0] := ⟨none,0,rfl,by simp,by simp,by simp,fun h => absurd h (by simp)⟩
theorem rSl.len (h : rSl sz bts R w B l [.slice A n c]) : l.length = n := by
 obtain ⟨A',c',e,_⟩ := h
 simp only [List.cons.injEq,Value.slice.injEq,and_true] at e
 exact e.2.1.symm
theorem rSl.le (h : rSl sz bts R w B l [.slice A n c]) : n ≤ c ∧ c ≤ 9223372036854775807 ∧ n * bts ≤ 140737488355328 := by
 obtain ⟨A',c',e,h1,h2,h3,_⟩ := h
 simp only [List.cons.injEq,Value.slice.injEq,and_true] at e
 obtain ⟨rfl,rfl,rfl⟩ := e
 unfold maxLen at h2
 exact ⟨h1,h2,h3⟩
theorem rSl.at_ {k : Nat} (h : rSl sz bts R w B l [.slice A n c]) (hk : k < n) :
  ∃ b o x vs,A = some ⟨b,o,none⟩ ∧ b < B ∧ l[k]? = some x ∧ vs.length = sz ∧ R w B x vs ∧ ∀ (j : Nat) (u : Value),vs[j]? = some u → w.cell? ⟨b,o + k * sz + j,none⟩ = some u := by
 have hn := h.len
 obtain ⟨A',c',e,_,_,_,h4⟩ := h
 simp only [List.cons.injEq,Value.slice.injEq,and_true] at e
 obtain ⟨rfl,_,rfl⟩ := e
 obtain ⟨b,o,hA,hb,hx⟩ := h4 (by omega)
 have hl : l[k]? = some (l[k]'(by omega)) := List.getElem?_eq_getElem (by omega)
 obtain ⟨vs,h1,h2,h3⟩ := hx k _ hl
 exact ⟨b,o,_,vs,hA,hb,hl,h1,h2,h3⟩
theorem rSl.keep [Stable R] {w' : World} {B' : Nat} {cs : List Value} (h : rSl sz bts R w B l cs) (hb : Below B w w') (hB : B ≤ B') : rSl sz bts R w' B' l cs :=
 Stable.keep (R := rSl sz bts R) w w' B B' _ _ hb hB h
end

theorem run_max_int {P : Program} (ts : Array TypeId) (t : TypeId) (k : IntKind) (x y : Int) (w : World) : Sem.run P (Builtin.max_ ts t #[.int k x,.int k y]) w = .ok (.int k (max x y)) w := by
 simp only [Builtin.max_,List.foldlM,Builtin.max2,Sem.run_pure,Sem.run_bind,Result.andThen_ok,pure_bind]
 congr 2
 simp only [Int.max_def];split <;> split <;> omega
structure ElemOk (P : Program) (t e : TypeId) (size bytes : Nat) : Prop where
 under : P.underlying t = some (.slice e)
 info : ∃ i z,P.info? e = some i ∧ i.zero = some z ∧ i.size = size ∧ i.bytes = bytes ∧ z.cells.size = size
 pos : 0 < size
section
variable {P : Program} {w0 : World} {ops : Array Oper} {rest : List Oper} {o : Oper} {a : Act} {Q : Exit → Act → World → Prop}
end
def Opens {α : Type} (P : Program) (H : Type) (enc : TypeId × Value → H) (W : World) (t : TypeId) (sz : Nat) (R : Rep α) (μ : α → Nat) : Prop :=
 ∀ (B fuel : Nat) (cs : List Value) (x : DataW H × List MemPlace),DataW.trod enc P W 0 (fun _ => true) true fuel t cs = some x → (∀ q ∈ x.2,q.block < B) → (∀ n ∈ x.1.weights P t,n ≤ reachBytes) → cs.length = sz →
  ∃ a,R W B a cs ∧ μ a ≤ Rows.uptoBulk x.1

def mSl {α : Type} (μ : α → Nat) (l : List α) : Nat := (l.map μ).sum + 1

section
variable {P : Program} {H : Type} {enc : TypeId × Value → H} {W : World} {t e : TypeId}

theorem opens_int {k : IntKind} (ht : P.underlying t = some (.int k)) : Opens P H enc W t 1 (rI k) (fun _ => 1) := by
 intro B fuel cs x h _ _ _
 obtain ⟨n,rfl,rfl,hw⟩ := DataW.trod_int ht h
 exact ⟨n,⟨rfl,hw⟩,by simp [Rows.uptoBulk]⟩
theorem opens_str (ht : P.underlying t = some .string) : Opens P H enc W t 1 rStr (fun s => s.size + 1) := by
 intro B fuel cs x h _ hw _
 obtain ⟨s,rfl,rfl,_⟩ := DataW.trod_string ht h
 have e : s.data.toList.length = s.size := by rw [Array.length_toList];rfl
 have := hw s.data.toList.length (by simp [DataW.weights])
 refine ⟨s,⟨rfl,by unfold reachBytes at this;omega⟩,by simp [Rows.uptoBulk,e]⟩

theorem bulkAll_map {β : Type} (f : β → DataW H) : ∀ l : List β,Rows.uptoBulkAll (l.map f) = (l.map fun x => Rows.uptoBulk (f x)).sum := by
 intro l
 induction l with
 | nil => rfl
 | cons x r ih => simp [Rows.uptoBulkAll,ih]
theorem weightsAll_mem {d : DataW H} : ∀ {l : List (DataW H)},d ∈ l → ∀ n ∈ d.weights P e,n ∈ DataW.weightsAll P e l := by
 intro l
 induction l with
 | nil => intro h;cases h
 | cons x r ih =>
  intro h n hn
  simp only [DataW.weightsAll,List.mem_append]
  rcases List.mem_cons.1 h with rfl | h
  ·exact .inl hn
  ·exact .inr (ih h n hn)

theorem arg_str {v : Value} {d : DataW H} {p : List MemPlace} {r : Reach} {b0 : Nat} (ht : P.underlying t = some .string)
  (hv : Value.okWide P W r b0 t v) (h : DataW.Trod enc P W 0 (fun _ => true) true t v d p) (hw : ∀ n ∈ d.weights P t,n ≤ reachBytes) : ∃ s : ByteArray,v = .string s ∧ s.size ≤ 140737488355328 ∧ s.size + 1 ≤ Rows.uptoBulk d := by
 obtain ⟨s,rfl,rfl,_,hs⟩ := Go.ChangeMaps.open_string ht hv h
 have e : s.data.toList.length = s.size := by rw [Array.length_toList];rfl
 have := hw s.data.toList.length (by simp [DataW.weights])
 exact ⟨s,rfl,by unfold reachBytes at this;omega,by simp [Rows.uptoBulk,e]⟩
theorem arg_agg {α : Type} {fs : Array Field} {sz : Nat} {R : Rep α} {μ : α → Nat} {v : Value} {d : DataW H} {p : List MemPlace} {r : Reach} {b0 B : Nat} (ht : P.underlying t = some (.struct fs)) (hc : P.cellsOf t = sz) (ho : Opens P H enc W t sz R μ)
  (hv : Value.okWide P W r b0 t v) (h : DataW.Trod enc P W 0 (fun _ => true) true t v d p) (hlt : ∀ q ∈ p,q.block < B) (hw : ∀ n ∈ d.weights P t,n ≤ reachBytes) :
  ∃ (cs : List Value) (x : α),v = .agg cs.toArray ∧ R W B x cs ∧ μ x ≤ Rows.uptoBulk d := by
 obtain ⟨cs,rfl,hsz⟩ := okWide_struct ht hv
 obtain ⟨fuel,hf⟩ := h
 obtain ⟨x,hx,hm⟩ := ho B fuel _ _ hf hlt hw (by simp [Value.cells,hsz,hc])
 exact ⟨cs.toList,x,by simp,hx,hm⟩

theorem trodAll_below (hl : laidOutB P = true) {W' : World} (hb : Below W.heap.size W W') : ∀ {ts : List TypeId} {vs : List Value} {ds : List (DataW H)} {ps : List MemPlace},
  (∀ t ∈ ts,P.readableRec t = true ∧ t < P.types.size) → DataW.TrodAll enc P W 0 (fun _ => true) true ts vs ds ps → (∀ x ∈ ps,x.block < W.heap.size) → DataW.TrodAll enc P W' 0 (fun b => decide (b < W.heap.size)) true ts vs ds ps := by
 intro ts
 induction ts with
 | nil =>
  intro vs ds ps _ h _
  match vs,ds,h with
  | [],[],h => exact h
 | cons t ts ih =>
  intro vs ds ps hr h hlt
  match vs,ds,h with
  | v :: vs,d :: ds,⟨p,q,h1,h2,e⟩ =>
   subst e
   exact ⟨p,q,Below.trod hl (hr t (by simp)).1 (hr t (by simp)).2 h1 hb (fun x hx => hlt x (by simp [hx])),ih (fun t ht => hr t (by simp [ht])) h2 (fun x hx => hlt x (by simp [hx])),rfl⟩

theorem law_post {f : Func} {s : ChangeSpec} {W' : World} {args : Array Value} {ds : List (DataW H)} {before : List MemPlace} {tb : TypeId} (hl : laidOutB P = true) (hr : (f.params.toList.all fun t => P.readableRec t && decide (t < P.types.size)) = true)
  (hres : f.resultTypes = #[tb]) (htb : P.underlying tb = some .bool) (hvars : s.vars = [])
  (hW : DataW.Whole enc P f.params.toList s.vars false W args.toList ds [] before)
  (hs1 : (s.fn H (ds ++ [])).results = [.lit (.bool true)]) (hs2 : (s.fn H (ds ++ [])).args = ds) (hs3 : (s.fn H (ds ++ [])).vars = [])
  (hb : Below W.heap.size W W') : s.post enc P f false true false false W args (.bool true) W' := by
 have hW' := hW
 have hlt : ∀ x ∈ before,x.block < W.heap.size := fun x hx => by simpa using hW'.lt x hx
 obtain ⟨p,q,hA,hV,e,_⟩ := hW
 rw [hvars] at hV
 obtain ⟨rfl⟩ : q = [] := by simpa [DataW.TrodVars] using hV
 simp only [List.append_nil] at e
 subst e
 refine ⟨ds,[],before,[],before,[],hW',?_,?_,?_,hb.frame _,fun h => by cases h⟩
 ·rw [hs1,hres]
  show DataW.TrodAll enc P W' W.heap.size (fun _ => false) false [tb] [.bool true] [.lit (.bool true)] []
  exact trodAll_mk1 (shut_bool htb true)
 ·rw [hs2]
  refine trodAll_below hl hb (fun t ht => ?_) hA hlt
  have := List.all_eq_true.1 hr t ht
  simpa using this
 ·rw [hs3,hvars];rfl

theorem weights_arg {ts : List TypeId} {ds : List (DataW H)} (h : (DataW.weightsEach P ts ds).all (· ≤ reachBytes) = true) {j : Nat} {d : DataW H} (ht : ts[j]? = some t) (hd : ds[j]? = some d) : ∀ n ∈ d.weights P t,n ≤ reachBytes :=
 fun n hn => by simpa using List.all_eq_true.1 h n (DataW.weights_mem_each ht hd n hn)
end
section
variable {P : Program} {H : Type} {enc : TypeId × Value → H} {W : World} {t e : TypeId}
theorem weightsEach_mem {n : Nat} : ∀ {ts : List TypeId} {ds : List (DataW H)} {i : Nat} {t : TypeId} {d : DataW H},ts[i]? = some t → ds[i]? = some d → n ∈ d.weights P t → n ∈ DataW.weightsEach P ts ds :=
 fun ht hd hn => DataW.weights_mem_each ht hd n hn
end
end Go.Proofs.YtagkdifaldikgaaGreatDoor
namespace Go.Proofs.YtagkdifaldikgaaGreatDoor
open Go.RowKit
set_option linter.unusedVariables false
set_option linter.unusedSimpArgs false

def Fz {α : Type} (R : Rep α) (sz : Nat) (enc : α → List FV) : Prop := ∀ (w : World) (B : Nat) (x : α) (cs : List Value),R w B x cs → (enc x).length = sz ∧ (∀ (j : Nat) (a : FV),(enc x)[j]? = some a → ∃ u,cs[j]? = some u ∧ u.oneCell' = true ∧ RepF (fun b => b < B) w a u)
theorem fz_int {k : IntKind} : Fz (rI k) 1 (fun x => [.int k x]) := by
 rintro w B x cs ⟨rfl,_⟩
 refine ⟨rfl,fun j a ha => ?_⟩
 cases j with
 | zero => obtain rfl := Option.some.inj ha;exact ⟨_,rfl,rfl,.int _ _⟩
 | succ j => simp at ha
theorem fz_str : Fz rStr 1 (fun x => [.str x]) := by
 rintro w B x cs ⟨rfl,_⟩
 refine ⟨rfl,fun j a ha => ?_⟩
 cases j with
 | zero => obtain rfl := Option.some.inj ha;exact ⟨_,rfl,rfl,.str _⟩
 | succ j => simp at ha
theorem fz_pair {α β : Type} {R : Rep α} {S : Rep β} {s t : Nat} {e : α → List FV} {f : β → List FV} (hR : Fz R s e) (hl : ∀ w B x cs,R w B x cs → cs.length = s) (hS : Fz S t f) : Fz (rPair R S) (s + t) (fun x => e x.1 ++ f x.2) := by
 rintro w B x cs ⟨c1,c2,rfl,h1,h2⟩
 obtain ⟨a1,a2⟩ := hR w B _ _ h1
 obtain ⟨b1,b2⟩ := hS w B _ _ h2
 have hc := hl w B _ _ h1
 refine ⟨by simp [a1,b1],fun j a ha => ?_⟩
 rcases Nat.lt_or_ge j s with hj | hj
 ·rw [List.getElem?_append_left (by omega)] at ha
  obtain ⟨u,h3,h4⟩ := a2 j a ha
  exact ⟨u,by rw [List.getElem?_append_left (by omega)];exact h3,h4⟩
 ·rw [List.getElem?_append_right (by omega),a1] at ha
  obtain ⟨u,h3,h4⟩ := b2 (j - s) a ha
  exact ⟨u,by rw [List.getElem?_append_right (by omega),hc];exact h3,h4⟩
theorem fz_sl {α : Type} {sz bts : Nat} {R : Rep α} {enc : α → List FV} (hR : Fz R sz enc) : Fz (rSl sz bts R) 1 (fun l => [.fr sz (l.map enc)]) := by
 rintro w B l cs ⟨A,c,rfl,h1,h2,_,h3⟩
 refine ⟨rfl,fun j a ha => ?_⟩
 cases j with
 | succ j => simp at ha
 | zero =>
  obtain rfl := Option.some.inj ha
  refine ⟨_,rfl,rfl,?_⟩
  rcases Nat.eq_zero_or_pos l.length with h0 | h0
  ·have e := List.eq_nil_of_length_eq_zero h0
   subst e
   exact .frNil sz A c h2
  ·obtain ⟨b,o,rfl,hb,hc⟩ := h3 h0
   have key : ∀ k,k < l.length → ∃ x vs,l[k]? = some x ∧ R w B x vs ∧ vs.length = sz ∧ ∀ (j : Nat) (u : Value),vs[j]? = some u → w.cell? ⟨b,o + k * sz + j,none⟩ = some u := fun k hk => by
    obtain ⟨vs,h4,h5,h6⟩ := hc k _ (List.getElem?_eq_getElem hk)
    exact ⟨_,vs,List.getElem?_eq_getElem hk,h5,h4,h6⟩
   have hfr := RepF.fr (Z := fun b => b < B) (w := w) sz (l.map enc) b o c (fun k j => (w.cell? ⟨b,o + k * sz + j,none⟩).getD undef) (by simpa using h0) (by simpa using h1) h2 hb (fun x hx => by
     obtain ⟨y,hy,rfl⟩ := List.mem_map.1 hx
     obtain ⟨k,hk,rfl⟩ := List.mem_iff_getElem.1 hy
     obtain ⟨x,vs,h4,h5,_⟩ := key k hk
     rw [List.getElem?_eq_getElem hk] at h4
     obtain rfl := Option.some.inj h4
     exact (hR w B _ _ h5).1) (fun k j hk hj => by
     obtain ⟨x,vs,h4,h5,h6,h7⟩ := key k (by simpa using hk)
     obtain ⟨g1,g2⟩ := hR w B _ _ h5
     obtain ⟨u,h8,h9,_⟩ := g2 j _ (List.getElem?_eq_getElem (by omega))
     have h10 := h7 j u h8
     rw [h10]
     exact ⟨rfl,h9⟩) (fun k j x a hk hj => by
     rw [List.getElem?_map] at hk
     obtain ⟨y,hy,rfl⟩ := Option.map_eq_some_iff.1 hk
     obtain ⟨x,vs,h4,h5,h6,h7⟩ := key k (List.getElem?_eq_some_iff.1 hy).1
     rw [hy] at h4
     obtain rfl := Option.some.inj h4
     obtain ⟨g1,g2⟩ := hR w B _ _ h5
     obtain ⟨u,h8,h9,h11⟩ := g2 j a hj
     have h10 := h7 j u h8
     rw [h10]
     exact h11)
   rw [List.length_map] at hfr
   exact hfr
theorem Fz.one {α : Type} {R : Rep α} {a : α → FV} (h : Fz R 1 (fun x => [a x])) {w : World} {B : Nat} {x : α} {v : Value} (hv : R w B x [v]) : RepF (fun b => b < B) w (a x) v := by
 obtain ⟨u,h1,_,h2⟩ := (h w B x _ hv).2 0 _ rfl
 obtain rfl := Option.some.inj h1
 exact h2
theorem FRet.calls {P : Program} {f : FuncId} {xs : List FV} {b : Bool} (h : FRet P f (xs.map .f) [.c (.v (.bool b))]) {W : World} {vs : Array Value} (hs : vs.size = xs.length) (hv : ∀ (j : Nat) (x : FV) (v : Value),xs[j]? = some x → vs[j]? = some v → RepF (fun b => b < W.heap.size) W x v) (hkn : Kn P (fun b => b < W.heap.size) W := by exact kn_none (by kernel_rfl)) :
  Calls P f vs W fun e w' => e = .returned (.bool b) ∧ Below W.heap.size W w' := by
 refine (h.2 (fun _ => (0,none)) (fun b => b < W.heap.size) W vs ⟨fun _ => rfl,fun _ _ => rfl,fun id o h => (by cases h),fun _ _ _ _ _ h => (by cases h),fun _ _ _ h => (by cases h),⟨fun b hb => hb,hkn⟩,fun _ _ _ h => (by cases h),fun _ _ _ h => (by cases h)⟩ (by rw [hs,List.length_map]) (fun j a v ha hj => by
  rw [List.getElem?_map] at ha
  obtain ⟨x,hx,rfl⟩ := Option.map_eq_some_iff.1 ha
  exact .f (hv j x v hx hj))).mono fun e w' ⟨v,r,H',G',Z',e1,⟨l,hl,hrs,_⟩,st,hh,hr⟩ => ?_
 have hll : l = [.f (.bool b)] := by
  rcases l with _ | ⟨a,_ | ⟨a',l⟩⟩
  ·exact hrs.elim
  ·obtain ⟨h1,_⟩ := hrs
   have : a = .f (.bool b) := h1
   rw [this]
  ·obtain ⟨_,h2⟩ := hrs
   cases h2
 subst hll
 rw [hl] at hr
 have hr' : RepA G' Z' w' (.f (.bool b)) v := hr
 rw [e1,hr'.bool_]
 refine ⟨rfl,?_⟩
 have old : ∀ b,b < W.heap.size → w'.heap[b]? = W.heap[b]? := fun b hb => hh.old b hb (fun ⟨_,_,h⟩ => by cases h)
 exact ⟨hh.os,hh.tape,hh.output,hh.size,fun b hb => old b hb⟩
end Go.Proofs.YtagkdifaldikgaaGreatDoor
namespace Go.Proofs.YtagkdifaldikgaaGreatDoor
open Go.RowKit
theorem own : ownKnob Tryz.prog.godebug = none := by kernel_rfl
theorem laidOut : laidOutB Tryz.prog = true := by kernel_rfl
end Go.Proofs.YtagkdifaldikgaaGreatDoor
namespace Go.Proofs.YtagkdifaldikgaaGreatDoor
open Go.ChangeShapes Go.WideShapes Go.ChangeAt Go.RowKit
theorem pow10_var {l : List (String × DataW Unit)} {W : World} {a b : String × DataW Unit} {r : List (String × DataW Unit)} (hl : l = a :: b :: ("internal/strconv.uint64pow10",Lib.tabData .u64 Lib.pow10Tab) :: r) (hp : (l.all fun x => x.2.handleName?.isNone) = true) (h : laidMetH Tryz.prog l W) : Lib.TabIs Tryz.prog W "internal/strconv.uint64pow10" .u64 Lib.pow10Tab := by
 rw [MakeChecks.laidMetH_plain _ _ _ hp] at h
 subst hl
 exact Lib.tabIs_of_head (g := 0) (t := 114) (e := 90) (n := 20) (by kernel_rfl) (by kernel_rfl) (by kernel_rfl) (by kernel_rfl) (by kernel_rfl) (by kernel_rfl) h.tail.tail
theorem tab_lt {P : Program} {W : World} {name : String} {k : IntKind} {zs : List Int} {g : Nat} (hg : P.globalNamed name = some g) (h : Lib.TabIs P W name k zs) : g < W.heap.size := by
 unfold Lib.TabIs World.var? at h
 rw [hg,Option.bind_some] at h
 rcases Nat.lt_or_ge g W.heap.size with h1 | h1
 ·exact h1
 ·rw [Array.getElem?_eq_none h1] at h
  cases h
end Go.Proofs.YtagkdifaldikgaaGreatDoor
