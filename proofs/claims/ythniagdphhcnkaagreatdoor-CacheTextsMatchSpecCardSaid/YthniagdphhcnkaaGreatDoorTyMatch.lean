/- The law CacheTextsMatchSpec holds for every input: its statement is proved. Conditions: none. -/
import Derived.Test.YthniagdphhcnkaaGreatDoorTyW
import Derived.Test.YthniagdphhcnkaaGreatDoorLaidA
namespace Go.Proofs.YthniagdphhcnkaaGreatDoor.textsMatch
open Go.ChangeShapes Go.WideShapes Go.ChangeAt Go.RowKit
set_option linter.unusedVariables false
set_option linter.unusedSimpArgs false

set_option maxRecDepth 100000 in
theorem contract (H : Type) (enc : TypeId × Value → H) (W : World) (base : Nat) (args : Array Value) (ds gs : List (DataW H)) (before : List MemPlace)
  (hval : ∀ (j : Nat) t v,Tryz.f3.params[j]? = some t → args[j]? = some v → Value.okWide Tryz.prog W .any base t v)
  (hW : DataW.Whole enc Tryz.prog Tryz.f3.params.toList Rows.cacheTextsMatchSpecSpec.vars false W args.toList ds gs before)
  (hsz : (DataW.weightsEach Tryz.prog (Tryz.f3.params.toList ++ Rows.cacheTextsMatchSpecSpec.plain.varTypes Tryz.prog) (ds ++ gs)).all (· ≤ reachBytes) = true) (hL : laidMetH Tryz.prog Rows.cacheTextsMatchSpecRow.laid W) :
  Calls Tryz.prog 3 args W fun e W' => ∃ v,e = .returned v ∧ Rows.cacheTextsMatchSpecSpec.post enc Tryz.prog Tryz.f3 false true false false W args v W' := by
 have hW' := hW
 have hlt : ∀ x ∈ before,x.block < W.heap.size := fun x hx => by simpa using hW'.lt x hx
 obtain ⟨p,q,hA0,hV,rfl,_,_⟩ := hW
 have hA : DataW.TrodAll enc Tryz.prog W 0 (fun _ => true) true Tryz.f3.params.toList args.toList ds p := hA0
 rw [Tryz.params3] at hA hval hsz
 obtain ⟨v0,v1,d0,d1,p0,p1,rfl,rfl,rfl,h0,h1⟩ := trodAll_two hA
 obtain ⟨rfl,rfl⟩ := trodVars_none hV
 have oss := opens_slice (H := H) (enc := enc) (W := W) (bts := 16) Tryz.underlying40 (by kernel_rfl) (by kernel_rfl) (by decide) (opens_str Tryz.underlying9)
 have obl : Opens Tryz.prog H enc W 48 5 (rBlob) _ := opens_struct (sz := (1 + (1 + (1 + (1 + 1))))) Tryz.underlying48 (by kernel_rfl) (opens_fields_cons (s0 := 1) (s1 := (1 + (1 + (1 + 1)))) rfl (by kernel_rfl) (opens_str Tryz.underlying9) (opens_fields_cons (s0 := 1) (s1 := (1 + (1 + 1))) rfl (by kernel_rfl) (opens_int Tryz.underlying3) (opens_fields_cons (s0 := 1) (s1 := (1 + 1)) rfl (by kernel_rfl) (opens_int Tryz.underlying3) (opens_fields_cons (s0 := 1) (s1 := 1) rfl (by kernel_rfl) (opens_int Tryz.underlying3) (opens_fields_one (sz := 1) rfl (by kernel_rfl) (opens_int Tryz.underlying3))))))
 have obs := opens_slice (H := H) (enc := enc) (W := W) (bts := 48) Tryz.underlying22 (by kernel_rfl) (by kernel_rfl) (by decide) obl
 have oen : Opens Tryz.prog H enc W 50 3 (rEntry) _ := opens_struct (sz := (1 + (1 + 1))) Tryz.underlying50 (by kernel_rfl) (opens_fields_cons (s0 := 1) (s1 := (1 + 1)) rfl (by kernel_rfl) (opens_str Tryz.underlying9) (opens_fields_cons (s0 := 1) (s1 := 1) rfl (by kernel_rfl) (oss) (opens_fields_one (sz := 1) rfl (by kernel_rfl) (opens_int Tryz.underlying3))))
 have oes := opens_slice (H := H) (enc := enc) (W := W) (bts := 48) Tryz.underlying23 (by kernel_rfl) (by kernel_rfl) (by decide) oen
 have oca : Opens Tryz.prog H enc W 25 4 (rCache) _ := opens_struct (sz := (1 + (1 + (1 + 1)))) Tryz.underlying25 (by kernel_rfl) (opens_fields_cons (s0 := 1) (s1 := (1 + (1 + 1))) rfl (by kernel_rfl) (opens_int Tryz.underlying3) (opens_fields_cons (s0 := 1) (s1 := (1 + 1)) rfl (by kernel_rfl) (opens_int Tryz.underlying3) (opens_fields_cons (s0 := 1) (s1 := 1) rfl (by kernel_rfl) (obs) (opens_fields_one (sz := 1) rfl (by kernel_rfl) (oes)))))
 obtain ⟨csc,c,rfl,Rc,mc⟩ := arg_agg Tryz.underlying25 (by kernel_rfl) oca (hval 0 _ v0 rfl rfl) h0 (B := W.heap.size) (fun x hx => hlt x (by simp [hx])) (weights_arg hsz (j := 0) rfl rfl)
 obtain ⟨s,rfl,ws,ms⟩ := arg_str Tryz.underlying9 (hval 1 _ v1 rfl rfl) h1 (weights_arg hsz (j := 1) rfl rfl)
 refine (textsMatch_any csc c s W Rc (pow10_var rfl (by kernel_rfl) hL)).mono fun e W' ⟨he,hb⟩ => ?_
 subst he
 exact ⟨_,rfl,law_post laidOut (by kernel_rfl) rfl Tryz.underlying4 rfl hW' rfl rfl rfl hb⟩

set_option maxRecDepth 100000 in
theorem laid_met (os : Os) : laidMet Tryz.prog Rows.cacheTextsMatchSpecRow.laid ((World.laidAll Tryz.prog os Rows.cacheTextsMatchSpecRow.laid).forCall (fun _ _ => 0) ⟨#[],#[.agg #[.int .i64 0,.int .i64 0,.slice none 0 0,.slice none 0 0],.string ⟨#[]⟩],[]⟩).memory :=
 laidMet_laidAll _ (by kernel_rfl) (by kernel_rfl)
theorem reads (os : Os) {H : Type} (enc : TypeId × Value → H) : ∃ places,DataW.whole enc Tryz.prog ((World.laidAll Tryz.prog os Rows.cacheTextsMatchSpecRow.laid).forCall (fun _ _ => 0) ⟨#[],#[.agg #[.int .i64 0,.int .i64 0,.slice none 0 0,.slice none 0 0],.string ⟨#[]⟩],[]⟩).memory Tryz.f3.params.toList Rows.cacheTextsMatchSpecSpec.vars false (#[.agg #[.int .i64 0,.int .i64 0,.slice none 0 0,.slice none 0 0],.string ⟨#[]⟩] : Array Value).toList 8 = some ([.agg [.lit (.int .i64 0),.lit (.int .i64 0),.nil,.nil],.lit (.string [])],[],places) :=
 ⟨[],by kernel_rfl⟩

set_option maxRecDepth 100000 in
theorem lifted (os : Os) (started : os.Started) (H : Type) (enc : TypeId × Value → H) (F : Stop.Interp) :
  ReturnsInHanded {} Tryz.checked os 3 .any ((OpenSpec.ofChange Rows.cacheTextsMatchSpecSpec).preRow enc Tryz.prog Tryz.f3 Rows.cacheTextsMatchSpecRow.domain false Rows.cacheTextsMatchSpecRow.laid) (((OpenSpec.ofChange Rows.cacheTextsMatchSpecSpec).at F).post enc Tryz.prog Tryz.f3 false true false false) := by
 obtain ⟨places,hx⟩ := reads os enc
 refine returnsInHanded_of_row (C := Tryz.checked) (s := (OpenSpec.ofChange Rows.cacheTextsMatchSpecSpec)) own started (by kernel_rfl) Tryz.func3
  (witness_row_at (enc := enc) (C := Tryz.checked) false (World.laidAll Tryz.prog os Rows.cacheTextsMatchSpecRow.laid) #[.agg #[.int .i64 0,.int .i64 0,.slice none 0 0,.slice none 0 0],.string ⟨#[]⟩] (World.laidAll_os _ _ _) (by kernel_rfl) (by kernel_rfl) (by kernel_rfl)
    (OpenSpec.preRow_of_cond 8 hx (by kernel_rfl) (fun k hk => by cases hk) (by kernel_rfl) (laid_met os))) ?_
 intro W base args ds gs before hval hW _ _ hsz hL _ _
 exact contract H enc W base args ds gs before hval hW hsz hL

theorem said : Rows.CacheTextsMatchSpecSaid :=
 OpenClaim.holds_of_cond 3 Tryz.f3 rfl rfl rfl rfl rfl rfl rfl ⟨rfl,rfl,rfl,rfl,rfl⟩ rfl rfl rfl rfl rfl (by kernel_rfl) Tryz.func3 (by kernel_rfl)
  (of_decide_eq_true (by kernel_rfl)) (by unfold Func.isWrapper;first | (rw [if_pos (by decide +kernel)];kernel_rfl) | (rw [if_neg (by decide +kernel)];exact ⟨rfl,rfl⟩))
  (fun os started H enc _ F => by rw [OpenClaim.pre_eq_preRow];exact lifted os started H enc F)

theorem plain (f : FuncId) (fn : Func) (hf : Tryz.pinned.checked.prog.funcNamed Tryz.f3.name = some f) (hfn : Tryz.pinned.checked.prog.funcs[f]? = some fn) :
  true = Tryz.pinned.checked.prog.looks [] ∧ ∀ (j : Nat) t,fn.params[j]? = some t → Tryz.pinned.checked.prog.wantsStandIn t = false := by
 obtain rfl : f = 3 := Option.some.inj ((show Tryz.prog.funcNamed Tryz.f3.name = some 3 by kernel_rfl).symm.trans hf) |>.symm
 obtain rfl : fn = Tryz.f3 := (Option.some.inj (Tryz.func3.symm.trans hfn)).symm
 refine ⟨by kernel_rfl,fun j t ht => ?_⟩
 rw [Tryz.params3] at ht
 have hm := Array.mem_of_getElem? ht
 simp only [List.mem_toArray,List.mem_cons,List.not_mem_nil,or_false] at hm
 rcases hm with rfl | rfl
 ·exact (show Tryz.prog.wantsStandIn 25 = false by kernel_rfl)
 ·exact (show Tryz.prog.wantsStandIn 9 = false by kernel_rfl)

theorem proved : Rows.CacheTextsMatchSpecCardSaid :=
 Claim7.holds_tied_plain_at .later [] _ _ _ _ said (fun _ h => by cases h) (by kernel_rfl) (fun _ h => by cases h) cacheTextsMatchSpec_row_tie rfl ⟨rfl,rfl⟩ (by kernel_rfl) rfl plain (by kernel_rfl)
#print axioms proved
end Go.Proofs.YthniagdphhcnkaaGreatDoor.textsMatch
