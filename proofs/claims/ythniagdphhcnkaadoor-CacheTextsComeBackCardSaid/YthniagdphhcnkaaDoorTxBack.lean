/- The law CacheTextsComeBack holds for every input: its statement is proved. Conditions: none. -/
import Derived.Test.YthniagdphhcnkaaDoorTxZ
import Derived.Test.YthniagdphhcnkaaDoorLaidA
namespace Go.Proofs.YthniagdphhcnkaaDoor.comeBack
open Go.ChangeShapes Go.WideShapes Go.ChangeAt Go.RowKit
set_option linter.unusedVariables false
set_option linter.unusedSimpArgs false

set_option maxRecDepth 100000 in
theorem contract (H : Type) (enc : TypeId × Value → H) (W : World) (base : Nat) (args : Array Value) (ds gs : List (DataW H)) (before : List MemPlace)
  (hval : ∀ (j : Nat) t v,Tryd.f3.params[j]? = some t → args[j]? = some v → Value.okWide Tryd.prog W .any base t v)
  (hW : DataW.Whole enc Tryd.prog Tryd.f3.params.toList Rows.cacheTextsComeBackSpec.vars false W args.toList ds gs before)
  (hsz : (DataW.weightsEach Tryd.prog (Tryd.f3.params.toList ++ Rows.cacheTextsComeBackSpec.plain.varTypes Tryd.prog) (ds ++ gs)).all (· ≤ reachBytes) = true) (hL : laidMetH Tryd.prog Rows.cacheTextsComeBackRow.laid W) :
  Calls Tryd.prog 3 args W fun e W' => ∃ v,e = .returned v ∧ Rows.cacheTextsComeBackSpec.post enc Tryd.prog Tryd.f3 false true false false W args v W' := by
 have hW' := hW
 have hlt : ∀ x ∈ before,x.block < W.heap.size := fun x hx => by simpa using hW'.lt x hx
 obtain ⟨p,q,hA0,hV,rfl,_,_⟩ := hW
 have hA : DataW.TrodAll enc Tryd.prog W 0 (fun _ => true) true Tryd.f3.params.toList args.toList ds p := hA0
 rw [Tryd.params3] at hA hval hsz
 obtain ⟨v0,v1,d0,d1,p0,p1,rfl,rfl,rfl,h0,h1⟩ := trodAll_two hA
 obtain ⟨rfl,rfl⟩ := trodVars_none hV
 have oss := opens_slice (H := H) (enc := enc) (W := W) (bts := 16) Tryd.underlying40 (by kernel_rfl) (by kernel_rfl) (by decide) (opens_str Tryd.underlying9)
 have obl : Opens Tryd.prog H enc W 48 5 (rBlob) _ := opens_struct (sz := (1 + (1 + (1 + (1 + 1))))) Tryd.underlying48 (by kernel_rfl) (opens_fields_cons (s0 := 1) (s1 := (1 + (1 + (1 + 1)))) rfl (by kernel_rfl) (opens_str Tryd.underlying9) (opens_fields_cons (s0 := 1) (s1 := (1 + (1 + 1))) rfl (by kernel_rfl) (opens_int Tryd.underlying3) (opens_fields_cons (s0 := 1) (s1 := (1 + 1)) rfl (by kernel_rfl) (opens_int Tryd.underlying3) (opens_fields_cons (s0 := 1) (s1 := 1) rfl (by kernel_rfl) (opens_int Tryd.underlying3) (opens_fields_one (sz := 1) rfl (by kernel_rfl) (opens_int Tryd.underlying3))))))
 have obs := opens_slice (H := H) (enc := enc) (W := W) (bts := 48) Tryd.underlying22 (by kernel_rfl) (by kernel_rfl) (by decide) obl
 have oen : Opens Tryd.prog H enc W 50 3 (rEntry) _ := opens_struct (sz := (1 + (1 + 1))) Tryd.underlying50 (by kernel_rfl) (opens_fields_cons (s0 := 1) (s1 := (1 + 1)) rfl (by kernel_rfl) (opens_str Tryd.underlying9) (opens_fields_cons (s0 := 1) (s1 := 1) rfl (by kernel_rfl) (oss) (opens_fields_one (sz := 1) rfl (by kernel_rfl) (opens_int Tryd.underlying3))))
 have oes := opens_slice (H := H) (enc := enc) (W := W) (bts := 48) Tryd.underlying23 (by kernel_rfl) (by kernel_rfl) (by decide) oen
 have oca : Opens Tryd.prog H enc W 25 4 (rCache) _ := opens_struct (sz := (1 + (1 + (1 + 1)))) Tryd.underlying25 (by kernel_rfl) (opens_fields_cons (s0 := 1) (s1 := (1 + (1 + 1))) rfl (by kernel_rfl) (opens_int Tryd.underlying3) (opens_fields_cons (s0 := 1) (s1 := (1 + 1)) rfl (by kernel_rfl) (opens_int Tryd.underlying3) (opens_fields_cons (s0 := 1) (s1 := 1) rfl (by kernel_rfl) (obs) (opens_fields_one (sz := 1) rfl (by kernel_rfl) (oes)))))
 obtain ⟨csc,c,rfl,Rc,mc⟩ := arg_agg Tryd.underlying25 (by kernel_rfl) oca (hval 0 _ v0 rfl rfl) h0 (B := W.heap.size) (fun x hx => hlt x (by simp [hx])) (weights_arg hsz (j := 0) rfl rfl)
 obtain ⟨s,rfl,ws,ms⟩ := arg_str Tryd.underlying9 (hval 1 _ v1 rfl rfl) h1 (weights_arg hsz (j := 1) rfl rfl)
 refine (comeBack_any csc c s W Rc (pow10_var rfl (by kernel_rfl) hL)).mono fun e W' ⟨he,hb⟩ => ?_
 subst he
 exact ⟨_,rfl,law_post laidOut (by kernel_rfl) rfl Tryd.underlying4 rfl hW' rfl rfl rfl hb⟩

set_option maxRecDepth 100000 in
theorem laid_met (os : Os) : laidMet Tryd.prog Rows.cacheTextsComeBackRow.laid ((World.laidAll Tryd.prog os Rows.cacheTextsComeBackRow.laid).forCall (fun _ _ => 0) ⟨#[],#[.agg #[.int .i64 0,.int .i64 0,.slice none 0 0,.slice none 0 0],.string ⟨#[]⟩],[]⟩).memory :=
 laidMet_laidAll _ (by kernel_rfl) (by kernel_rfl)
theorem reads (os : Os) {H : Type} (enc : TypeId × Value → H) : ∃ places,DataW.whole enc Tryd.prog ((World.laidAll Tryd.prog os Rows.cacheTextsComeBackRow.laid).forCall (fun _ _ => 0) ⟨#[],#[.agg #[.int .i64 0,.int .i64 0,.slice none 0 0,.slice none 0 0],.string ⟨#[]⟩],[]⟩).memory Tryd.f3.params.toList Rows.cacheTextsComeBackSpec.vars false (#[.agg #[.int .i64 0,.int .i64 0,.slice none 0 0,.slice none 0 0],.string ⟨#[]⟩] : Array Value).toList 8 = some ([.agg [.lit (.int .i64 0),.lit (.int .i64 0),.nil,.nil],.lit (.string [])],[],places) :=
 ⟨[],by kernel_rfl⟩

set_option maxRecDepth 100000 in
theorem lifted (os : Os) (started : os.Started) (H : Type) (enc : TypeId × Value → H) (F : Stop.Interp) :
  ReturnsInHanded {} Tryd.checked os 3 .any ((OpenSpec.ofChange Rows.cacheTextsComeBackSpec).preRow enc Tryd.prog Tryd.f3 Rows.cacheTextsComeBackRow.domain false Rows.cacheTextsComeBackRow.laid) (((OpenSpec.ofChange Rows.cacheTextsComeBackSpec).at F).post enc Tryd.prog Tryd.f3 false true false false) := by
 obtain ⟨places,hx⟩ := reads os enc
 refine returnsInHanded_of_row (C := Tryd.checked) (s := (OpenSpec.ofChange Rows.cacheTextsComeBackSpec)) own started (by kernel_rfl) Tryd.func3
  (witness_row_at (enc := enc) (C := Tryd.checked) false (World.laidAll Tryd.prog os Rows.cacheTextsComeBackRow.laid) #[.agg #[.int .i64 0,.int .i64 0,.slice none 0 0,.slice none 0 0],.string ⟨#[]⟩] (World.laidAll_os _ _ _) (by kernel_rfl) (by kernel_rfl) (by kernel_rfl)
    (OpenSpec.preRow_of_cond 8 hx (by kernel_rfl) (fun k hk => by cases hk) (by kernel_rfl) (laid_met os))) ?_
 intro W base args ds gs before hval hW _ _ hsz hL _ _
 exact contract H enc W base args ds gs before hval hW hsz hL

theorem said : Rows.CacheTextsComeBackSaid :=
 OpenClaim.holds_of_cond 3 Tryd.f3 rfl rfl rfl rfl rfl rfl rfl ⟨rfl,rfl,rfl,rfl,rfl⟩ rfl rfl rfl rfl rfl (by kernel_rfl) Tryd.func3 (by kernel_rfl)
  (of_decide_eq_true (by kernel_rfl)) (by unfold Func.isWrapper;first | (rw [if_pos (by decide +kernel)];kernel_rfl) | (rw [if_neg (by decide +kernel)];exact ⟨rfl,rfl⟩))
  (fun os started H enc _ F => by rw [OpenClaim.pre_eq_preRow];exact lifted os started H enc F)

theorem plain (f : FuncId) (fn : Func) (hf : Tryd.pinned.checked.prog.funcNamed Tryd.f3.name = some f) (hfn : Tryd.pinned.checked.prog.funcs[f]? = some fn) :
  true = Tryd.pinned.checked.prog.looks [] ∧ ∀ (j : Nat) t,fn.params[j]? = some t → Tryd.pinned.checked.prog.wantsStandIn t = false := by
 obtain rfl : f = 3 := Option.some.inj ((show Tryd.prog.funcNamed Tryd.f3.name = some 3 by kernel_rfl).symm.trans hf) |>.symm
 obtain rfl : fn = Tryd.f3 := (Option.some.inj (Tryd.func3.symm.trans hfn)).symm
 refine ⟨by kernel_rfl,fun j t ht => ?_⟩
 rw [Tryd.params3] at ht
 have hm := Array.mem_of_getElem? ht
 simp only [List.mem_toArray,List.mem_cons,List.not_mem_nil,or_false] at hm
 rcases hm with rfl | rfl
 ·exact (show Tryd.prog.wantsStandIn 25 = false by kernel_rfl)
 ·exact (show Tryd.prog.wantsStandIn 9 = false by kernel_rfl)

theorem proved : Rows.CacheTextsComeBackCardSaid :=
 Claim7.holds_tied_plain_at .later [] _ _ _ _ said (fun _ h => by cases h) (by kernel_rfl) (fun _ h => by cases h) cacheTextsComeBack_row_tie rfl ⟨rfl,rfl⟩ (by kernel_rfl) rfl plain (by kernel_rfl)
#print axioms proved
end Go.Proofs.YthniagdphhcnkaaDoor.comeBack
