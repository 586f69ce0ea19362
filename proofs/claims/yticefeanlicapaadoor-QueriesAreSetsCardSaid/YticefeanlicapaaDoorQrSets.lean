/- The law QueriesAreSets holds for every input: its statement is proved. Conditions: none. -/
import Derived.Test.YticefeanlicapaaDoorQrO
import Derived.Test.YticefeanlicapaaDoorLaid
namespace Go.Proofs.YticefeanlicapaaDoor.setsAre
open Go.ChangeShapes Go.WideShapes Go.ChangeAt Go.RowKit
set_option linter.unusedVariables false
set_option linter.unusedSimpArgs false

set_option maxRecDepth 100000 in
theorem contract (H : Type) (enc : TypeId × Value → H) (W : World) (base : Nat) (args : Array Value) (ds gs : List (DataW H)) (before : List MemPlace)
  (hval : ∀ (j : Nat) t v,Tryd.f3.params[j]? = some t → args[j]? = some v → Value.okWide Tryd.prog W .any base t v)
  (hW : DataW.Whole enc Tryd.prog Tryd.f3.params.toList Rows.queriesAreSetsSpec.vars false W args.toList ds gs before)
  (hsz : (DataW.weightsEach Tryd.prog (Tryd.f3.params.toList ++ Rows.queriesAreSetsSpec.plain.varTypes Tryd.prog) (ds ++ gs)).all (· ≤ reachBytes) = true) :
  Calls Tryd.prog 3 args W fun e W' => ∃ v,e = .returned v ∧ Rows.queriesAreSetsSpec.post enc Tryd.prog Tryd.f3 false true false false W args v W' := by
 have hW' := hW
 have hlt : ∀ x ∈ before,x.block < W.heap.size := fun x hx => by simpa using hW'.lt x hx
 obtain ⟨p,q,hA0,hV,rfl,_,_⟩ := hW
 have hA : DataW.TrodAll enc Tryd.prog W 0 (fun _ => true) true Tryd.f3.params.toList args.toList ds p := hA0
 rw [Tryd.params3] at hA hval hsz
 obtain ⟨v0,v1,v2,v3,d0,d1,d2,d3,p0,p1,p2,p3,rfl,rfl,rfl,h0,h1,h2,h3⟩ := trodAll_four hA
 obtain ⟨rfl,rfl⟩ := trodVars_none hV
 have oss := opens_slice (H := H) (enc := enc) (W := W) (bts := 16) Tryd.underlying26 (by kernel_rfl) (by kernel_rfl) (by decide) (opens_str Tryd.underlying9)
 have ond : Opens Tryd.prog H enc W 44 6 (rNode) _ := opens_struct (sz := (1 + (1 + (1 + (1 + (1 + 1)))))) Tryd.underlying44 (by kernel_rfl) (opens_fields_cons (s0 := 1) (s1 := (1 + (1 + (1 + (1 + 1))))) rfl (by kernel_rfl) (opens_str Tryd.underlying9) (opens_fields_cons (s0 := 1) (s1 := (1 + (1 + (1 + 1)))) rfl (by kernel_rfl) (opens_str Tryd.underlying9) (opens_fields_cons (s0 := 1) (s1 := (1 + (1 + 1))) rfl (by kernel_rfl) (oss) (opens_fields_cons (s0 := 1) (s1 := (1 + 1)) rfl (by kernel_rfl) (oss) (opens_fields_cons (s0 := 1) (s1 := 1) rfl (by kernel_rfl) (oss) (opens_fields_one (sz := 1) rfl (by kernel_rfl) (opens_int Tryd.underlying3)))))))
 have ons := opens_slice (H := H) (enc := enc) (W := W) (bts := 112) Tryd.underlying22 (by kernel_rfl) (by kernel_rfl) (by decide) ond
 have oq := opens_q (H := H) (enc := enc) (W := W)
 obtain ⟨Ag,ng,cg,g,rfl,Rg,mg⟩ := arg_slice Tryd.underlying22 ons (hval 0 _ v0 rfl rfl) h0 (B := W.heap.size) (fun x hx => hlt x (by simp [hx])) (weights_arg hsz (j := 0) rfl rfl)
 obtain ⟨csa,a,rfl,Ra,ma⟩ := arg_agg Tryd.underlying25 (by kernel_rfl) oq (hval 1 _ v1 rfl rfl) h1 (B := W.heap.size) (fun x hx => hlt x (by simp [hx])) (weights_arg hsz (j := 1) rfl rfl)
 obtain ⟨csb,b,rfl,Rb,mb⟩ := arg_agg Tryd.underlying25 (by kernel_rfl) oq (hval 2 _ v2 rfl rfl) h2 (B := W.heap.size) (fun x hx => hlt x (by simp [hx])) (weights_arg hsz (j := 2) rfl rfl)
 obtain ⟨t,rfl,wt,mt⟩ := arg_str Tryd.underlying9 (hval 3 _ v3 rfl rfl) h3 (weights_arg hsz (j := 3) rfl rfl)
 refine (sets_any Ag ng cg g csa csb a b t W Rg Ra Rb).mono fun e W' ⟨he,hb⟩ => ?_
 subst he
 exact ⟨_,rfl,law_post laidOut (by kernel_rfl) rfl Tryd.underlying4 rfl hW' rfl rfl rfl hb⟩

set_option maxRecDepth 100000 in
theorem laid_met (os : Os) : laidMet Tryd.prog Rows.queriesAreSetsRow.laid ((laidWorld os).forCall (fun _ _ => 0) ⟨#[],#[.slice none 0 0,.agg #[.int .i64 0,.string ⟨#[]⟩,.int .i64 0,.slice none 0 0],.agg #[.int .i64 0,.string ⟨#[]⟩,.int .i64 0,.slice none 0 0],.string ⟨#[]⟩],[]⟩).memory :=
 laidMet_of_run' 8 (by kernel_rfl) (by kernel_rfl)
theorem reads (os : Os) {H : Type} (enc : TypeId × Value → H) : ∃ places,DataW.whole enc Tryd.prog ((laidWorld os).forCall (fun _ _ => 0) ⟨#[],#[.slice none 0 0,.agg #[.int .i64 0,.string ⟨#[]⟩,.int .i64 0,.slice none 0 0],.agg #[.int .i64 0,.string ⟨#[]⟩,.int .i64 0,.slice none 0 0],.string ⟨#[]⟩],[]⟩).memory Tryd.f3.params.toList Rows.queriesAreSetsSpec.vars false (#[.slice none 0 0,.agg #[.int .i64 0,.string ⟨#[]⟩,.int .i64 0,.slice none 0 0],.agg #[.int .i64 0,.string ⟨#[]⟩,.int .i64 0,.slice none 0 0],.string ⟨#[]⟩] : Array Value).toList 8 = some ([.nil,.agg [.lit (.int .i64 0),.lit (.string []),.lit (.int .i64 0),.nil],.agg [.lit (.int .i64 0),.lit (.string []),.lit (.int .i64 0),.nil],.lit (.string [])],[],places) :=
 ⟨[],by kernel_rfl⟩

set_option maxRecDepth 100000 in
theorem lifted (os : Os) (started : os.Started) (H : Type) (enc : TypeId × Value → H) (F : Stop.Interp) :
  ReturnsInHanded {} Tryd.checked os 3 .any ((OpenSpec.ofChange Rows.queriesAreSetsSpec).preRow enc Tryd.prog Tryd.f3 Rows.queriesAreSetsRow.domain false Rows.queriesAreSetsRow.laid) (((OpenSpec.ofChange Rows.queriesAreSetsSpec).at F).post enc Tryd.prog Tryd.f3 false true false false) := by
 obtain ⟨places,hx⟩ := reads os enc
 refine returnsInHanded_of_row (C := Tryd.checked) (s := (OpenSpec.ofChange Rows.queriesAreSetsSpec)) own started (by kernel_rfl) Tryd.func3
  (witness_row_at (enc := enc) (C := Tryd.checked) false (laidWorld os) #[.slice none 0 0,.agg #[.int .i64 0,.string ⟨#[]⟩,.int .i64 0,.slice none 0 0],.agg #[.int .i64 0,.string ⟨#[]⟩,.int .i64 0,.slice none 0 0],.string ⟨#[]⟩] rfl (by kernel_rfl) (by kernel_rfl) (by kernel_rfl)
    (OpenSpec.preRow_of_cond 8 hx (by kernel_rfl) (fun k hk => by cases hk) (by kernel_rfl) (laid_met os))) ?_
 intro W base args ds gs before hval hW _ _ hsz hL _ _
 exact contract H enc W base args ds gs before hval hW hsz

theorem said : Rows.QueriesAreSetsSaid :=
 OpenClaim.holds_of_cond 3 Tryd.f3 rfl rfl rfl rfl rfl rfl rfl ⟨rfl,rfl,rfl,rfl,rfl⟩ rfl rfl rfl rfl rfl (by kernel_rfl) Tryd.func3 (by kernel_rfl)
  (of_decide_eq_true (by kernel_rfl)) (by unfold Func.isWrapper;first | (rw [if_pos (by decide +kernel)];kernel_rfl) | (rw [if_neg (by decide +kernel)];exact ⟨rfl,rfl⟩))
  (fun os started H enc _ F => by rw [OpenClaim.pre_eq_preRow];exact lifted os started H enc F)

theorem plain (f : FuncId) (fn : Func) (hf : Tryd.pinned.checked.prog.funcNamed Tryd.f3.name = some f) (hfn : Tryd.pinned.checked.prog.funcs[f]? = some fn) :
  false = Tryd.pinned.checked.prog.looks [] ∧ ∀ (j : Nat) t,fn.params[j]? = some t → Tryd.pinned.checked.prog.wantsStandIn t = false := by
 obtain rfl : f = 3 := Option.some.inj ((show Tryd.prog.funcNamed Tryd.f3.name = some 3 by kernel_rfl).symm.trans hf) |>.symm
 obtain rfl : fn = Tryd.f3 := (Option.some.inj (Tryd.func3.symm.trans hfn)).symm
 refine ⟨by kernel_rfl,fun j t ht => ?_⟩
 rw [Tryd.params3] at ht
 have hm := Array.mem_of_getElem? ht
 simp only [List.mem_toArray,List.mem_cons,List.not_mem_nil,or_false] at hm
 rcases hm with rfl | rfl | rfl | rfl
 ·exact (show Tryd.prog.wantsStandIn 22 = false by kernel_rfl)
 ·exact (show Tryd.prog.wantsStandIn 25 = false by kernel_rfl)
 ·exact (show Tryd.prog.wantsStandIn 25 = false by kernel_rfl)
 ·exact (show Tryd.prog.wantsStandIn 9 = false by kernel_rfl)

theorem proved : Rows.QueriesAreSetsCardSaid :=
 Claim7.holds_tied_plain_at .later [] _ _ _ _ said (fun _ h => by cases h) (by kernel_rfl) (fun _ h => by cases h) queriesAreSets_row_tie rfl ⟨rfl,rfl⟩ (by kernel_rfl) rfl plain (by kernel_rfl)
#print axioms proved
end Go.Proofs.YticefeanlicapaaDoor.setsAre
