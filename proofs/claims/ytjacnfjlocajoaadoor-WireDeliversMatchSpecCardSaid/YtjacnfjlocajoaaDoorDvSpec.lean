/- The law WireDeliversMatchSpec holds for every input: its statement is proved. Conditions: none. -/
import Derived.Test.YtjacnfjlocajoaaDoorLaid
namespace Go.Proofs.YtjacnfjlocajoaaDoor.deliversSpec
open Go.ChangeShapes Go.WideShapes Go.ChangeAt Go.RowKit
set_option linter.unusedVariables false
set_option linter.unusedSimpArgs false

set_option maxRecDepth 100000 in
theorem contract (H : Type) (enc : TypeId × Value → H) (W : World) (base : Nat) (args : Array Value) (ds gs : List (DataW H)) (before : List MemPlace)
  (hval : ∀ (j : Nat) t v,Tryd.f8.params[j]? = some t → args[j]? = some v → Value.okWide Tryd.prog W .any base t v)
  (hW : DataW.Whole enc Tryd.prog Tryd.f8.params.toList Rows.wireDeliversMatchSpecSpec.vars false W args.toList ds gs before)
  (hsz : (DataW.weightsEach Tryd.prog (Tryd.f8.params.toList ++ Rows.wireDeliversMatchSpecSpec.plain.varTypes Tryd.prog) (ds ++ gs)).all (· ≤ reachBytes) = true) :
  Calls Tryd.prog 8 args W fun e W' => ∃ v,e = .returned v ∧ Rows.wireDeliversMatchSpecSpec.post enc Tryd.prog Tryd.f8 false true false false W args v W' := by
 have hW' := hW
 have hlt : ∀ x ∈ before,x.block < W.heap.size := fun x hx => by simpa using hW'.lt x hx
 obtain ⟨p,q,hA0,hV,rfl,_,_⟩ := hW
 have hA : DataW.TrodAll enc Tryd.prog W 0 (fun _ => true) true Tryd.f8.params.toList args.toList ds p := hA0
 rw [Tryd.params8] at hA hval hsz
 obtain ⟨v0,vs0,d0,ds0,p0,q0,hargs,rfl,rfl,h0,r0⟩ := trodAll_cons hA
 obtain ⟨v1,vs1,d1,ds1,p1,q1,rfl,rfl,rfl,h1,r1⟩ := trodAll_cons r0
 obtain ⟨v2,vs2,d2,ds2,p2,q2,rfl,rfl,rfl,h2,r2⟩ := trodAll_cons r1
 obtain ⟨v3,vs3,d3,ds3,p3,q3,rfl,rfl,rfl,h3,r3⟩ := trodAll_cons r2
 obtain ⟨v4,vs4,d4,ds4,p4,q4,rfl,rfl,rfl,h4,r4⟩ := trodAll_cons r3
 obtain ⟨rfl,rfl,rfl⟩ := trodAll_nil r4
 obtain rfl : args = #[v0,v1,v2,v3,v4] := by cases args;simp_all
 obtain ⟨rfl,rfl⟩ := trodVars_none hV
 have oby := opens_slice (H := H) (enc := enc) (W := W) (bts := 1) Tryd.underlying26 (by kernel_rfl) (by kernel_rfl) (by decide) (opens_byte Tryd.underlying5)
 have oob : Opens Tryd.prog H enc W 37 2 (rOb) _ := opens_struct (sz := (1 + 1)) Tryd.underlying37 (by kernel_rfl) (opens_fields_cons (s0 := 1) (s1 := 1) rfl (by kernel_rfl) (opens_str Tryd.underlying9) (opens_fields_one (sz := 1) rfl (by kernel_rfl) (oby)))
 have oobs := opens_slice (H := H) (enc := enc) (W := W) (bts := 40) Tryd.underlying22 (by kernel_rfl) (by kernel_rfl) (by decide) oob
 have opt : Opens Tryd.prog H enc W 65 3 (rPt) _ := opens_struct (sz := (1 + (1 + 1))) Tryd.underlying65 (by kernel_rfl) (opens_fields_cons (s0 := 1) (s1 := (1 + 1)) rfl (by kernel_rfl) (opens_str Tryd.underlying9) (opens_fields_cons (s0 := 1) (s1 := 1) rfl (by kernel_rfl) (opens_int Tryd.underlying3) (opens_fields_one (sz := 1) rfl (by kernel_rfl) (oby))))
 have opts := opens_slice (H := H) (enc := enc) (W := W) (bts := 48) Tryd.underlying23 (by kernel_rfl) (by kernel_rfl) (by decide) opt
 have orc : Opens Tryd.prog H enc W 25 2 (rRcv) _ := opens_struct (sz := (1 + 1)) Tryd.underlying25 (by kernel_rfl) (opens_fields_cons (s0 := 1) (s1 := 1) rfl (by kernel_rfl) (oobs) (opens_fields_one (sz := 1) rfl (by kernel_rfl) (opts)))
 have ois := opens_slice (H := H) (enc := enc) (W := W) (bts := 8) Tryd.underlying47 (by kernel_rfl) (by kernel_rfl) (by decide) (opens_int Tryd.underlying3)
 obtain ⟨csr,r,rfl,Rr,mr⟩ := arg_agg Tryd.underlying25 (by kernel_rfl) orc (hval 0 _ v0 rfl rfl) h0 (B := W.heap.size) (fun x hx => hlt x (by simp [hx])) (weights_arg hsz (j := 0) rfl rfl)
 obtain ⟨t,rfl,wt,mt⟩ := arg_str Tryd.underlying9 (hval 1 _ v1 rfl rfl) h1 (weights_arg hsz (j := 1) rfl rfl)
 obtain ⟨Ab,nb,cb,b,rfl,Rb,mb⟩ := arg_slice Tryd.underlying26 oby (hval 2 _ v2 rfl rfl) h2 (B := W.heap.size) (fun x hx => hlt x (by simp [hx])) (weights_arg hsz (j := 2) rfl rfl)
 obtain ⟨k,rfl,wk⟩ := arg_int Tryd.underlying3 (hval 3 _ v3 rfl rfl) h3
 obtain ⟨Al,nl,cl,l,rfl,Rl,ml⟩ := arg_slice Tryd.underlying47 ois (hval 4 _ v4 rfl rfl) h4 (B := W.heap.size) (fun x hx => hlt x (by simp [hx])) (weights_arg hsz (j := 4) rfl rfl)
 refine (delivSpec_any csr r t Ab nb cb b k Al nl cl l W Rr Rb Rl).mono fun e W' ⟨he,hb⟩ => ?_
 subst he
 exact ⟨_,rfl,law_post laidOut (by kernel_rfl) rfl Tryd.underlying4 rfl hW' rfl rfl rfl hb⟩

set_option maxRecDepth 100000 in
theorem laid_met (os : Os) : laidMet Tryd.prog Rows.wireDeliversMatchSpecRow.laid ((laidWorld os).forCall (fun _ _ => 0) ⟨#[],#[.agg #[.slice none 0 0,.slice none 0 0],.string ⟨#[]⟩,.slice none 0 0,.int .i64 0,.slice none 0 0],[]⟩).memory :=
 laidMet_of_run' 8 (by kernel_rfl) (by kernel_rfl)
theorem reads (os : Os) {H : Type} (enc : TypeId × Value → H) : ∃ places,DataW.whole enc Tryd.prog ((laidWorld os).forCall (fun _ _ => 0) ⟨#[],#[.agg #[.slice none 0 0,.slice none 0 0],.string ⟨#[]⟩,.slice none 0 0,.int .i64 0,.slice none 0 0],[]⟩).memory Tryd.f8.params.toList Rows.wireDeliversMatchSpecSpec.vars false (#[.agg #[.slice none 0 0,.slice none 0 0],.string ⟨#[]⟩,.slice none 0 0,.int .i64 0,.slice none 0 0] : Array Value).toList 8 = some ([.agg [.nil,.nil],.lit (.string []),.nil,.lit (.int .i64 0),.nil],[],places) :=
 ⟨[],by kernel_rfl⟩

set_option maxRecDepth 100000 in
theorem lifted (os : Os) (started : os.Started) (H : Type) (enc : TypeId × Value → H) (F : Stop.Interp) :
  ReturnsInHanded {} Tryd.checked os 8 .any ((OpenSpec.ofChange Rows.wireDeliversMatchSpecSpec).preRow enc Tryd.prog Tryd.f8 Rows.wireDeliversMatchSpecRow.domain false Rows.wireDeliversMatchSpecRow.laid) (((OpenSpec.ofChange Rows.wireDeliversMatchSpecSpec).at F).post enc Tryd.prog Tryd.f8 false true false false) := by
 obtain ⟨places,hx⟩ := reads os enc
 refine returnsInHanded_of_row (C := Tryd.checked) (s := (OpenSpec.ofChange Rows.wireDeliversMatchSpecSpec)) own started (by kernel_rfl) Tryd.func8
  (witness_row_at (enc := enc) (C := Tryd.checked) false (laidWorld os) #[.agg #[.slice none 0 0,.slice none 0 0],.string ⟨#[]⟩,.slice none 0 0,.int .i64 0,.slice none 0 0] rfl (by kernel_rfl) (by kernel_rfl) (by kernel_rfl)
    (OpenSpec.preRow_of_cond 8 hx (by kernel_rfl) (fun k hk => by cases hk) (by kernel_rfl) (laid_met os))) ?_
 intro W base args ds gs before hval hW _ _ hsz hL _ _
 exact contract H enc W base args ds gs before hval hW hsz

theorem said : Rows.WireDeliversMatchSpecSaid :=
 OpenClaim.holds_of_cond 8 Tryd.f8 rfl rfl rfl rfl rfl rfl rfl ⟨rfl,rfl,rfl,rfl,rfl⟩ rfl rfl rfl rfl rfl (by kernel_rfl) Tryd.func8 (by kernel_rfl)
  (of_decide_eq_true (by kernel_rfl)) (by unfold Func.isWrapper;first | (rw [if_pos (by decide +kernel)];kernel_rfl) | (rw [if_neg (by decide +kernel)];exact ⟨rfl,rfl⟩))
  (fun os started H enc _ F => by rw [OpenClaim.pre_eq_preRow];exact lifted os started H enc F)

theorem plain (f : FuncId) (fn : Func) (hf : Tryd.pinned.checked.prog.funcNamed Tryd.f8.name = some f) (hfn : Tryd.pinned.checked.prog.funcs[f]? = some fn) :
  false = Tryd.pinned.checked.prog.looks [] ∧ ∀ (j : Nat) t,fn.params[j]? = some t → Tryd.pinned.checked.prog.wantsStandIn t = false := by
 obtain rfl : f = 8 := Option.some.inj ((show Tryd.prog.funcNamed Tryd.f8.name = some 8 by kernel_rfl).symm.trans hf) |>.symm
 obtain rfl : fn = Tryd.f8 := (Option.some.inj (Tryd.func8.symm.trans hfn)).symm
 refine ⟨by kernel_rfl,fun j t ht => ?_⟩
 rw [Tryd.params8] at ht
 have hm := Array.mem_of_getElem? ht
 simp only [List.mem_toArray,List.mem_cons,List.not_mem_nil,or_false] at hm
 rcases hm with rfl | rfl | rfl | rfl | rfl
 ·exact (show Tryd.prog.wantsStandIn 25 = false by kernel_rfl)
 ·exact (show Tryd.prog.wantsStandIn 9 = false by kernel_rfl)
 ·exact (show Tryd.prog.wantsStandIn 26 = false by kernel_rfl)
 ·exact (show Tryd.prog.wantsStandIn 3 = false by kernel_rfl)
 ·exact (show Tryd.prog.wantsStandIn 47 = false by kernel_rfl)

theorem proved : Rows.WireDeliversMatchSpecCardSaid :=
 Claim7.holds_tied_plain_at .later [] _ _ _ _ said (fun _ h => by cases h) (by kernel_rfl) (fun _ h => by cases h) wireDeliversMatchSpec_row_tie rfl ⟨rfl,rfl⟩ (by kernel_rfl) rfl plain (by kernel_rfl)
#print axioms proved
end Go.Proofs.YtjacnfjlocajoaaDoor.deliversSpec
