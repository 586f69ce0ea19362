/-
  Queries as the law's arguments: data that holds itself; its nodes are counted. No statement of the seat is proved here; no conditions.
-/
import Derived.Test.YtagkdifaldikgaaGreatDoorQeL
import Derived.Test.YtagkdifaldikgaaGreatDoorLaidA
namespace Go.Proofs.YtagkdifaldikgaaGreatDoor
open Go.RowKit
set_option linter.unusedVariables false
set_option linter.unusedSimpArgs false

section
variable {P : Program} {H : Type} {enc : TypeId × Value → H} {W : World} {t e : TypeId}
def OpensD {α : Type} (P : Program) (H : Type) (enc : TypeId × Value → H) (W : World) (d : Nat) (t : TypeId) (sz : Nat) (R : Rep α) (μ : α → Nat) : Prop :=
 ∀ (B fuel : Nat) (cs : List Value) (x : DataW H × List MemPlace),Rows.uptoBulk x.1 < d → DataW.trod enc P W 0 (fun _ => true) true fuel t cs = some x → (∀ q ∈ x.2,q.block < B) → (∀ n ∈ x.1.weights P t,n ≤ reachBytes) → cs.length = sz →
  ∃ a,R W B a cs ∧ μ a ≤ Rows.uptoBulk x.1
theorem Opens.d {α : Type} {sz : Nat} {R : Rep α} {μ : α → Nat} (h : Opens P H enc W t sz R μ) (d : Nat) : OpensD P H enc W d t sz R μ := fun B fuel cs x _ => h B fuel cs x
theorem mem_sum : ∀ {l : List Nat} {a : Nat},a ∈ l → a ≤ l.sum
 | [],a,h => by simp at h
 | b :: l,a,h => by
  rw [List.sum_cons]
  rcases List.mem_cons.1 h with rfl | h
  ·omega
  ·have := mem_sum h;omega
theorem opensD_slice {α : Type} {sz bts : Nat} {R : Rep α} {μ : α → Nat} (ht : P.underlying t = some (.slice e)) (hc : P.cellsOf e = sz) (hby : P.bytesOf e = bts) (hpos : 0 < sz) {d : Nat} (he : OpensD P H enc W d e sz R μ) :
  OpensD P H enc W (d + 1) t 1 (rSl sz bts R) (mSl μ) := by
 intro B fuel cs x hd h hlt hw _
 rcases Go.Deep.open_slice ht h with ⟨rfl,rfl⟩ | ⟨a,len,cap,m,n,D,Pl,rfl,_,hl,hm,hmm,rfl,hx⟩
 ·exact ⟨[],rSl.nil_,by simp [mSl,Rows.uptoBulk]⟩
 ·simp only [if_true] at hmm
  subst hmm
  rw [hc] at hx hlt
  have hbk : ∀ i,i < len → Rows.uptoBulk (D i) < d := fun i hi => by
   simp only [Rows.uptoBulk,bulkAll_map,List.map_map] at hd
   have := mem_sum (l := (List.range len).map fun i => Rows.uptoBulk (D i)) (List.mem_map.2 ⟨i,List.mem_range.2 hi,rfl⟩)
   try simp only [Function.comp_def] at hd
   omega
  have hw0 := hw ((((List.range len).map D).length + ((List.range (m - len)).map fun j => D (len + j)).length) * P.bytesOf e) (by simp [DataW.weights,ht])
  simp only [List.length_map,List.length_range,hby] at hw0
  have hwi : ∀ i,i < len → ∀ n ∈ (D i).weights P e,n ≤ reachBytes := by
   intro i hi n hn
   refine hw n ?_
   simp only [DataW.weights,ht,List.mem_cons,List.mem_append]
   exact .inr (.inl (weightsAll_mem (List.mem_map.2 ⟨i,List.mem_range.2 hi,rfl⟩) n hn))
  have hel : ∀ i,i < len → ∃ y : α × List Value,y.2.length = sz ∧ R W B y.1 y.2 ∧ μ y.1 ≤ Rows.uptoBulk (D i) ∧ ∀ (j : Nat) (u : Value),y.2[j]? = some u → W.cell? (a.add (i * sz + j)) = some u := by
   intro i hi
   obtain ⟨cs',h1,h2⟩ := hx i (by omega)
   obtain ⟨_,hcl,hat⟩ := World.cells?_some h1
   obtain ⟨y,hy,hμ⟩ := he B n cs' _ (hbk i hi) h2 (fun q hq => hlt q (List.mem_append_right _ (List.mem_flatMap.2 ⟨i,List.mem_range.2 (by omega),hq⟩))) (hwi i hi) hcl
   refine ⟨(y,cs'),hcl,hy,hμ,fun j u hj => ?_⟩
   have hjl : j < sz := by have := (List.getElem?_eq_some_iff.1 hj).1;rwa [hcl] at this
   have := hat j hjl
   rw [Go.Deep.add_add] at this
   rw [this];exact hj
  have hch : ∃ f : Nat → Option (α × List Value),∀ i,i < len → ∃ y,f i = some y ∧ y.2.length = sz ∧ R W B y.1 y.2 ∧ μ y.1 ≤ Rows.uptoBulk (D i) ∧ ∀ (j : Nat) (u : Value),y.2[j]? = some u → W.cell? (a.add (i * sz + j)) = some u := by
   obtain ⟨f,hf⟩ := Go.Deep.choose_lt (α := Option (α × List Value)) (p := fun i o => ∃ y,o = some y ∧ y.2.length = sz ∧ R W B y.1 y.2 ∧ μ y.1 ≤ Rows.uptoBulk (D i) ∧ ∀ (j : Nat) (u : Value),y.2[j]? = some u → W.cell? (a.add (i * sz + j)) = some u)
    (fun i hi => let ⟨y,hy⟩ := hel i hi;⟨some y,y,rfl,hy⟩)
   exact ⟨f,hf⟩
  obtain ⟨f,hf⟩ := hch
  have hlist : ∃ ys : List (α × List Value),ys.length = len ∧ ∀ i y,ys[i]? = some y → f i = some y := by
   have : ∀ k,k ≤ len → ∃ ys : List (α × List Value),ys.length = k ∧ ∀ i y,ys[i]? = some y → f i = some y := by
    intro k
    induction k with
    | zero => intro _;exact ⟨[],rfl,fun i y h => by simp at h⟩
    | succ k ih =>
     intro hk
     obtain ⟨ys,h1,h2⟩ := ih (by omega)
     obtain ⟨y,hy,_⟩ := hf k (by omega)
     refine ⟨ys ++ [y],by simp [h1],fun i z hz => ?_⟩
     by_cases hi : i < k
     ·rw [List.getElem?_append_left (by omega)] at hz;exact h2 i z hz
     ·have hi2 : i < k + 1 := by have := (List.getElem?_eq_some_iff.1 hz).1;simpa [h1] using this
      obtain rfl : i = k := by omega
      rw [List.getElem?_append_right (by omega),h1] at hz
      simp at hz
      rw [hy,hz]
   exact this len (Nat.le_refl _)
  obtain ⟨ys,hyl,hyf⟩ := hlist
  have hyp : ∀ i y,ys[i]? = some y → y.2.length = sz ∧ R W B y.1 y.2 ∧ μ y.1 ≤ Rows.uptoBulk (D i) ∧ ∀ (j : Nat) (u : Value),y.2[j]? = some u → W.cell? (a.add (i * sz + j)) = some u := by
   intro i y hy
   have hi : i < len := by rw [← hyl];exact (List.getElem?_eq_some_iff.1 hy).1
   obtain ⟨z,hz,r⟩ := hf i hi
   rw [hyf i y hy] at hz
   cases hz
   exact r
  refine ⟨ys.map (·.1),⟨some a,m,by simp [hyl],by simpa [hyl] using hl,hm,?_,fun h0 => ?_⟩,?_⟩
  ·have : len * bts ≤ (len + (m - len)) * bts := Nat.mul_le_mul_right _ (by omega)
   simp only [List.length_map,hyl]
   unfold reachBytes at hw0
   omega
  ·simp only [List.length_map,hyl] at h0
   obtain ⟨y0,hy0⟩ : ∃ y,ys[0]? = some y := ⟨_,List.getElem?_eq_getElem (by omega)⟩
   obtain ⟨hl0,_,_,hc0⟩ := hyp 0 y0 hy0
   obtain ⟨b,off,spot⟩ := a
   have hspot : spot = none := by
    have hu : ∃ u,y0.2[0]? = some u := ⟨_,List.getElem?_eq_getElem (by omega)⟩
    obtain ⟨u,hu⟩ := hu
    have := hc0 0 u hu
    simpa [Addr.add] using World.cell?_spot this
   subst hspot
   refine ⟨b,off,rfl,hlt (.cell b off) (List.mem_append_left _ (MemPlace.mem_row.2 ⟨0,Nat.mul_pos (by omega) hpos,by simp⟩)),fun k x hk => ?_⟩
   rw [List.getElem?_map,Option.map_eq_some_iff] at hk
   obtain ⟨y,hy,rfl⟩ := hk
   obtain ⟨h1,h2,_,h4⟩ := hyp k y hy
   refine ⟨y.2,h1,h2,fun j u hj => ?_⟩
   have := h4 j u hj
   rw [Addr.add_lit] at this
   rw [Nat.add_assoc];exact this
  ·simp only [mSl,Rows.uptoBulk,bulkAll_map,List.map_map]
   have : ∀ (k : Nat) (ys : List (α × List Value)),(∀ i y,ys[i]? = some y → μ y.1 ≤ Rows.uptoBulk (D (k + i))) → (ys.map (μ ∘ fun x => x.1)).sum ≤ ((List.range' k ys.length).map fun i => Rows.uptoBulk (D i)).sum := by
    intro k ys
    induction ys generalizing k with
    | nil => intro _;simp
    | cons y r ih =>
     intro h
     have h0 := h 0 y rfl
     have h1 := ih (k + 1) (fun i z hz => by have := h (i + 1) z (by simpa using hz);rwa [show k + (i + 1) = k + 1 + i by omega] at this)
     simp only [List.map_cons,List.sum_cons,List.length_cons,List.range'_succ,Function.comp_apply]
     simp only [Nat.add_zero] at h0
     omega
   have h := this 0 ys (fun i y hy => by rw [Nat.zero_add];exact (hyp i y hy).2.2.1)
   rw [hyl,← List.range_eq_range'] at h
   omega

def OpensFD {α : Type} (P : Program) (H : Type) (enc : TypeId × Value → H) (W : World) (d : Nat) (fs : List Field) (off sz : Nat) (R : Rep α) (μ : α → Nat) : Prop :=
 ∀ (B fuel : Nat) (cs : List Value) (xs : List (DataW H × List MemPlace)),xs.length = fs.length → (∀ y ∈ xs,Rows.uptoBulk y.1 < d) → (∀ (i : Nat) (f : Field),fs[i]? = some f → DataW.trod enc P W 0 (fun _ => true) true fuel f.type ((cs.drop f.offset).take (P.cellsOf f.type)) = xs[i]?) →
  (∀ x ∈ xs,∀ q ∈ x.2,q.block < B) → (∀ (i : Nat) (f : Field) (x : DataW H × List MemPlace),fs[i]? = some f → xs[i]? = some x → ∀ n ∈ x.1.weights P f.type,n ≤ reachBytes) → off + sz ≤ cs.length →
  ∃ a,R W B a ((cs.drop off).take sz) ∧ μ a ≤ Rows.uptoBulkAll (xs.map (·.1))
theorem opensD_one {α : Type} {f : Field} {off sz : Nat} {R : Rep α} {μ : α → Nat} {d : Nat} (ho : f.offset = off) (hc : P.cellsOf f.type = sz) (h : OpensD P H enc W d f.type sz R μ) : OpensFD P H enc W d [f] off sz R μ := by
 intro B fuel cs xs hl hd hx hp hw hcs
 match xs,hl with
 | [y],_ =>
  have g := hx 0 f rfl
  rw [ho,hc] at g
  obtain ⟨a,ha,hm⟩ := h B fuel _ _ (hd y (by simp)) g (fun q hq => hp y (by simp) q hq) (fun n hn => hw 0 f y rfl rfl n hn) (by simp;omega)
  exact ⟨a,ha,by simpa [Rows.uptoBulkAll] using hm⟩
theorem opensD_cons {α β : Type} {f : Field} {fs : List Field} {off s0 s1 : Nat} {R : Rep α} {S : Rep β} {μ : α → Nat} {ν : β → Nat} {d : Nat} (ho : f.offset = off) (hc : P.cellsOf f.type = s0) (h : OpensD P H enc W d f.type s0 R μ)
  (hr : OpensFD P H enc W d fs (off + s0) s1 S ν) : OpensFD P H enc W d (f :: fs) off (s0 + s1) (rPair R S) (fun x => μ x.1 + ν x.2) := by
 intro B fuel cs xs hl hd hx hp hw hcs
 match xs,hl with
 | y :: ys,hl =>
  have g := hx 0 f rfl
  rw [ho,hc] at g
  obtain ⟨a,ha,hm⟩ := h B fuel _ _ (hd y (by simp)) g (fun q hq => hp y (by simp) q hq) (fun n hn => hw 0 f y rfl rfl n hn) (by simp;omega)
  obtain ⟨b,hb,hn⟩ := hr B fuel cs ys (by simpa using hl) (fun z hz => hd z (by simp [hz])) (fun i f' hf => by have := hx (i + 1) f' (by simpa using hf);simpa using this) (fun x hx q hq => hp x (by simp [hx]) q hq)
   (fun i f' x hf hxi n hn => hw (i + 1) f' x (by simpa using hf) (by simpa using hxi) n hn) (by omega)
  refine ⟨(a,b),⟨(cs.drop off).take s0,(cs.drop (off + s0)).take s1,?_,ha,hb⟩,?_⟩
  ·rw [List.take_add,List.drop_drop]
  ·simp [Rows.uptoBulkAll];omega
theorem opensD_struct {α : Type} {fs : List Field} {sz : Nat} {R : Rep α} {μ : α → Nat} {d : Nat} (ht : P.underlying t = some (.struct fs.toArray)) (hc : P.cellsOf t = sz) (h : OpensFD P H enc W d fs 0 sz R μ) : OpensD P H enc W (d + 1) t sz R (fun x => μ x + 1) := by
 intro B fuel cs x hd hx hlt hw hcs
 obtain ⟨xs,n,_,rfl,hlen,hxl,hg⟩ := DataW.trod_struct ht hx
 obtain ⟨a,ha,hm⟩ := h B n cs xs (by simpa using hxl) (fun y hy => by
  have := mem_sum (l := xs.map fun y => Rows.uptoBulk y.1) (List.mem_map.2 ⟨y,hy,rfl⟩)
  have e := bulkAll_map (H := H) (fun y : DataW H × List MemPlace => y.1) xs
  simp only [Rows.uptoBulk] at hd
  omega) (fun i f hf => by have := hg i f (by simpa using hf);exact this) (fun y hy q hq => hlt q (List.mem_flatMap.2 ⟨y,hy,hq⟩))
  (fun i f y hf hy m hm => hw m (by
    simp only [DataW.weights,ht]
    refine weightsEach_mem (i := i) (t := f.type) (d := y.1) ?_ ?_ hm
    ·simp [hf]
    ·simp [hy])) (by omega)
 refine ⟨a,?_,?_⟩
 ·rw [List.drop_zero,List.take_of_length_le (by omega)] at ha
  exact ha
 ·simp [Rows.uptoBulk];omega
end
theorem encQ_len : ∀ q : QT,(encQ q).length = 4
 | .mk _ _ _ _ => rfl
theorem len_s : ∀ w B x cs,rStr w B x cs → cs.length = 1 := by rintro w B x cs ⟨rfl,_⟩;rfl
theorem rSl.all {α : Type} {sz bts : Nat} {R : Rep α} {w : World} {B : Nat} {l : List α} {cs : List Value} (h : rSl sz bts R w B l cs) : (l.length : Int) ≤ 9223372036854775807 ∧ ∀ x ∈ l,∃ vs,R w B x vs := by
 obtain ⟨A,c,_,h1,h2,_,h3⟩ := h
 refine ⟨by unfold maxLen at h2;omega,fun x hx => ?_⟩
 obtain ⟨k,hk⟩ := List.mem_iff_getElem?.1 hx
 obtain ⟨b,o,_,_,h4⟩ := h3 (by have := (List.getElem?_eq_some_iff.1 hk).1;omega)
 obtain ⟨vs,_,h5,_⟩ := h4 k x hk
 exact ⟨vs,h5⟩
def rQ : Rep QT := fun w B q cs => (cs.length = 4 ∧ ∀ (j : Nat) (a : FV),(encQ q)[j]? = some a → ∃ u,cs[j]? = some u ∧ u.oneCell' = true ∧ RepF (fun b => b < B) w a u) ∧ QB q
theorem fz_q : Fz rQ 4 encQ := fun w B q cs h => ⟨encQ_len q,h.1.2⟩
theorem encQs_map : ∀ ps : List QT,encQs ps = ps.map encQ
 | [] => rfl
 | p :: ps => by rw [encQs,List.map_cons,encQs_map ps]
theorem QBs_of : ∀ {ps : List QT},(∀ p ∈ ps,QB p) → QBs ps
 | [],_ => trivial
 | p :: ps,h => ⟨h p List.mem_cons_self,QBs_of fun x hx => h x (List.mem_cons_of_mem _ hx)⟩
theorem len_i {k : IntKind} : ∀ w B x cs,rI k w B x cs → cs.length = 1 := by rintro w B x cs ⟨rfl,_⟩;rfl
abbrev rQ0 : Rep (Int × ByteArray × Int × List QT) := rPair (rI .i64) (rPair rStr (rPair (rI .i64) (rSl 4 56 rQ)))
theorem fz_q0 : Fz rQ0 4 (fun x => [FV.int .i64 x.1] ++ ([FV.str x.2.1] ++ ([FV.int .i64 x.2.2.1] ++ [FV.fr 4 (x.2.2.2.map encQ)]))) := fz_pair fz_int len_i (fz_pair fz_str len_s (fz_pair fz_int len_i (fz_sl fz_q)))
theorem rQ_of {w : World} {B : Nat} {x : Int × ByteArray × Int × List QT} {cs : List Value} (h : rQ0 w B x cs) (hl : cs.length = 4) : rQ w B (.mk x.1 x.2.1 x.2.2.1 x.2.2.2) cs := by
 have hf := (fz_q0 w B x cs h).2
 obtain ⟨k,t,n,ps⟩ := x
 refine ⟨⟨hl,fun j a ha => hf j a ?_⟩,?_⟩
 ·rw [encQ,encQs_map] at ha
  exact ha
 ·obtain ⟨_,_,_,_,_,_,_,ht,_,_,_,_,hp⟩ := h
  rw [QB]
  exact ⟨⟨by have h9 : t.size ≤ 140737488355328 := ht.2;show (t.size : Int) ≤ 140737488355328;omega,hp.all.1⟩,QBs_of fun p hpm => by obtain ⟨vs,h1⟩ := hp.all.2 p hpm;exact h1.2⟩
theorem cnQs_sum : ∀ ps : List QT,cnQs ps = (ps.map cnQ).sum
 | [] => rfl
 | p :: ps => by rw [cnQs,cnQs_sum ps,List.map_cons,List.sum_cons]
theorem opensD_q {H : Type} {enc : TypeId × Value → H} {W : World} : ∀ d : Nat,OpensD Tryz.prog H enc W d 24 4 rQ cnQ
 | 0 => fun B fuel cs x h => absurd h (Nat.not_lt_zero _)
 | d + 1 => by
  have hs := opensD_slice (t := 22) (e := 24) (sz := 4) (bts := 56) (H := H) (enc := enc) (W := W) Tryz.underlying22 (by kernel_rfl) (by kernel_rfl) (by decide) (opensD_q d)
  have hI := fun e => (opens_int (H := H) (enc := enc) (W := W) Tryz.underlying3).d e
  have hS := (opens_str (H := H) (enc := enc) (W := W) Tryz.underlying9).d (d + 1)
  have hst := opensD_struct (t := 24) (sz := 1 + (1 + (1 + 1))) Tryz.underlying24 (by kernel_rfl) (opensD_cons (s0 := 1) (s1 := 1 + (1 + 1)) rfl (by kernel_rfl) (hI (d + 1)) (opensD_cons (s0 := 1) (s1 := 1 + 1) rfl (by kernel_rfl) hS (opensD_cons (s0 := 1) (s1 := 1) rfl (by kernel_rfl) (hI (d + 1)) (opensD_one (sz := 1) rfl (by kernel_rfl) hs))))
  intro B fuel cs x hd hx hlt hw hcs
  obtain ⟨a,ha,hm⟩ := hst B fuel cs x (by omega) hx hlt hw hcs
  refine ⟨_,rQ_of ha hcs,?_⟩
  rw [cnQ,cnQs_sum]
  simp only [mSl] at hm
  omega
theorem opens_q {H : Type} {enc : TypeId × Value → H} {W : World} : Opens Tryz.prog H enc W 24 4 rQ cnQ := fun B fuel cs x hx hlt hw hcs => opensD_q _ B fuel cs x (Nat.lt_succ_self _) hx hlt hw hcs
theorem Fz.agg {α : Type} {R : Rep α} {sz : Nat} {e : α → List FV} (h : Fz R sz e) (hl : ∀ w B x cs,R w B x cs → cs.length = sz) {G : Ghost} {w : World} {B : Nat} {x : α} {cs : List Value} (hr : R w B x cs) : RepA G (fun b => b < B) w (.agg ((e x).map .f)) (.agg cs.toArray) := by
 obtain ⟨h1,h2⟩ := h w B x cs hr
 have h3 := hl w B x cs hr
 refine .agg _ _ (by simp [h1,h3]) (fun j u hj => ?_) fun j a u ha hj => ?_
 ·have hlt : j < sz := by have := (List.getElem?_eq_some_iff.1 (by simpa using hj : cs[j]? = some u)).1;omega
  obtain ⟨u',g1,g2,_⟩ := h2 j _ (List.getElem?_eq_getElem (by omega : j < (e x).length))
  rw [List.getElem?_toArray] at hj
  rw [hj] at g1;obtain rfl := Option.some.inj g1
  exact g2
 ·rw [List.getElem?_map] at ha
  obtain ⟨y,hy,rfl⟩ := Option.map_eq_some_iff.1 ha
  obtain ⟨u',g1,_,g3⟩ := h2 j y hy
  rw [List.getElem?_toArray] at hj
  rw [hj] at g1;obtain rfl := Option.some.inj g1
  exact .f g3
theorem FRet.callsA {P : Program} {f : FuncId} {args : List AV} {b : Bool} (h : FRet P f args [.c (.v (.bool b))]) {W : World} {vs : Array Value} (hs : vs.size = args.length) (hv : ∀ (j : Nat) (x : AV) (v : Value),args[j]? = some x → vs[j]? = some v → RepA (fun _ => (0,none)) (fun b => b < W.heap.size) W x v) (hkn : Kn P (fun b => b < W.heap.size) W := by exact kn_none (by kernel_rfl)) :
  Calls P f vs W fun e w' => e = .returned (.bool b) ∧ Below W.heap.size W w' := by
 refine (h.2 (fun _ => (0,none)) (fun b => b < W.heap.size) W vs ⟨fun _ => rfl,fun _ _ => rfl,fun id o h => (by cases h),fun _ _ _ _ _ h => (by cases h),fun _ _ _ h => (by cases h),⟨fun b hb => hb,hkn⟩,fun _ _ _ h => (by cases h),fun _ _ _ h => (by cases h)⟩ hs hv).mono fun e w' ⟨v,r,H',G',Z',e1,⟨l,hl,hrs,_⟩,st,hh,hr⟩ => ?_
 have hll : l = [.f (.bool b)] := by
  rcases l with _ | ⟨a,_ | ⟨a',l⟩⟩
  ·exact hrs.elim
  ·obtain ⟨h1,_⟩ := hrs
   have : a = .f (.bool b) := h1
   rw [this]
  ·obtain ⟨_,h2⟩ := hrs
   cases h2
 subst hll
 rw [hl] at hr
 have hr' : RepA G' Z' w' (.f (.bool b)) v := hr
 rw [e1,hr'.bool_]
 refine ⟨rfl,?_⟩
 have old : ∀ b,b < W.heap.size → w'.heap[b]? = W.heap[b]? := fun b hb => hh.old b hb (fun ⟨_,_,h⟩ => by cases h)
 exact ⟨hh.os,hh.tape,hh.output,hh.size,fun b hb => old b hb⟩
theorem kn_of {W : World} (h : Lib.TabIs Tryz.prog W "internal/strconv.uint64pow10" .u64 Lib.pow10Tab) : Kn Tryz.prog (fun b => b < W.heap.size) W := fun g hg => ⟨tab_lt hg h,h⟩
theorem args2t {G : Ghost} {Z : Nat → Prop} {w : World} {a b : AV} {u v : Value} (h1 : RepA G Z w a u) (h2 : RepA G Z w b v) : ∀ (j : Nat) (s : AV) (z : Value),[a,b][j]? = some s → (#[u,v] : Array Value)[j]? = some z → RepA G Z w s z := by
 intro j s z hs hz
 rcases j with _ | _ | j
 ·obtain rfl := Option.some.inj hs;obtain rfl := Option.some.inj hz;exact h1
 ·obtain rfl := Option.some.inj hs;obtain rfl := Option.some.inj hz;exact h2
 ·simp at hs
theorem back_any (ca : List Value) (a : QT) (t : ByteArray) (W : World) (ha : rQ W W.heap.size a ca) (hc : cnQ a ≤ 140737488355328) (hs : (t.size : Int) ≤ 140737488355328) (ht : Lib.TabIs Tryz.prog W "internal/strconv.uint64pow10" .u64 Lib.pow10Tab) : Calls Tryz.prog 3 #[.agg ca.toArray,.string t] W fun e w' => e = .returned (.bool true) ∧ Below W.heap.size W w' :=
 (law_f a ha.2 hc t hs).callsA rfl (args2t (fz_q.agg (fun _ _ _ _ hh => hh.1.1) ha) (.f (.str _))) (kn_of ht)
end Go.Proofs.YtagkdifaldikgaaGreatDoor
