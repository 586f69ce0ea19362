/- The law TopTreeOverLines holds for every input: its statement is proved. Conditions: none. -/
import Derived.Test.YtjfchihkhpinmaaGreatDoorLaid
namespace Go.Proofs.YtjfchihkhpinmaaGreatDoor.treeOver
open Go.ChangeShapes Go.WideShapes Go.ChangeAt Go.RowKit
set_option linter.unusedVariables false
set_option linter.unusedSimpArgs false

set_option maxRecDepth 100000 in
theorem contract (H:Type) (enc:TypeId × Value→H) (W:World) (base:Nat) (args:Array Value) (ds gs:List (DataW H)) (before:List MemPlace)
  (hval:∀ (j:Nat) t v,Tryz.f3.params[j]? = some t→args[j]? = some v→Value.okWide Tryz.prog W .any base t v)
  (hW:DataW.Whole enc Tryz.prog Tryz.f3.params.toList Rows.topTreeOverLinesSpec.vars false W args.toList ds gs before)
  (hsz:(DataW.weightsEach Tryz.prog (Tryz.f3.params.toList++Rows.topTreeOverLinesSpec.plain.varTypes Tryz.prog) (ds++gs)).all (·≤reachBytes)=true) :
  Calls Tryz.prog 3 args W fun e W'=>∃ v,e=.returned v∧Rows.topTreeOverLinesSpec.post enc Tryz.prog Tryz.f3 false true false false W args v W':=by
 have hW':=hW
 have hlt:∀ x∈before,x.block<W.heap.size:=fun x hx=>by simpa using hW'.lt x hx
 obtain⟨p,q,hA0,hV,rfl,_,_⟩:=hW
 have hA:DataW.TrodAll enc Tryz.prog W 0 (fun _=>true) true Tryz.f3.params.toList args.toList ds p:=hA0
 rw[Tryz.params3]at hA hval hsz
 obtain⟨v0,v1,v2,d0,d1,d2,p0,p1,p2,rfl,rfl,rfl,h0,h1,h2⟩:=trodAll_three hA
 obtain⟨rfl,rfl⟩:=trodVars_none hV
 have oby:=UT (H:=H) (enc:=enc) (W:=W) (bts:=1) Tryz.underlying35 (by kernel_rfl) (by kernel_rfl) (by decide) (QDU Tryz.underlying5)
 have ofi:MG Tryz.prog H enc W 76 3 (rFile) _:=QAq (sz:=(1+(1+1))) Tryz.underlying76 (by kernel_rfl) (Yz (s0:=1) (s1:=(1+1)) rfl (by kernel_rfl) (opens_str Tryz.underlying9) (Yz (s0:=1) (s1:=1) rfl (by kernel_rfl) (QDV Tryz.underlying4) (KW (sz:=1) rfl (by kernel_rfl) (oby))))
 have ofs:=UT (H:=H) (enc:=enc) (W:=W) (bts:=48) Tryz.underlying22 (by kernel_rfl) (by kernel_rfl) (by decide) ofi
 have ois:=UT (H:=H) (enc:=enc) (W:=W) (bts:=8) Tryz.underlying23 (by kernel_rfl) (by kernel_rfl) (by decide) (opens_int Tryz.underlying3)
 obtain⟨Af,nf,cf,f,rfl,Rf,mf⟩:=QBi Tryz.underlying22 ofs (hval 0 _ v0 rfl rfl) h0 (B:=W.heap.size) (fun x hx=>hlt x (by simp [hx])) (NA hsz (j:=0) rfl rfl)
 obtain⟨k,rfl,wk⟩:=arg_int Tryz.underlying3 (hval 1 _ v1 rfl rfl) h1
 obtain⟨Al,nl,cl,l,rfl,Rl,ml⟩:=QBi Tryz.underlying23 ois (hval 2 _ v2 rfl rfl) h2 (B:=W.heap.size) (fun x hx=>hlt x (by simp [hx])) (NA hsz (j:=2) rfl rfl)
 refine(tree_any Af nf cf f k Al nl cl l W Rf Rl).mono fun e W' ⟨he,hb⟩=> ?_
 subst he
 exact⟨_,rfl,law_post laidOut (by kernel_rfl) rfl Tryz.underlying4 rfl hW' rfl rfl rfl hb⟩

set_option maxRecDepth 100000 in
theorem laid_met (os:Os):laidMet Tryz.prog Rows.topTreeOverLinesRow.laid ((Ng os).forCall (fun _ _=>0) ⟨#[],#[.slice none 0 0,.int .i64 0,.slice none 0 0],[]⟩).memory:=
 laidMet_of_run' 8 (by kernel_rfl) (by kernel_rfl)
theorem reads (os:Os){H:Type}(enc:TypeId × Value→H):∃ places,DataW.whole enc Tryz.prog ((Ng os).forCall (fun _ _=>0) ⟨#[],#[.slice none 0 0,.int .i64 0,.slice none 0 0],[]⟩).memory Tryz.f3.params.toList Rows.topTreeOverLinesSpec.vars false (#[.slice none 0 0,.int .i64 0,.slice none 0 0]:Array Value).toList 8=some ([.nil,.lit (.int .i64 0),.nil],[],places):=
 ⟨[],by kernel_rfl⟩

set_option maxRecDepth 100000 in
theorem lifted (os:Os) (started:os.Started) (H:Type) (enc:TypeId × Value→H) (F:Stop.Interp) :
  ReturnsInHanded {} Tryz.checked os 3 .any ((OpenSpec.ofChange Rows.topTreeOverLinesSpec).preRow enc Tryz.prog Tryz.f3 Rows.topTreeOverLinesRow.domain false Rows.topTreeOverLinesRow.laid) (((OpenSpec.ofChange Rows.topTreeOverLinesSpec).at F).post enc Tryz.prog Tryz.f3 false true false false):=by
 obtain⟨places,hx⟩:=reads os enc
 refine returnsInHanded_of_row (C:=Tryz.checked) (s:=(OpenSpec.ofChange Rows.topTreeOverLinesSpec)) own started (by kernel_rfl) Tryz.func3
  (witness_row_at (enc:=enc) (C:=Tryz.checked) false (Ng os) #[.slice none 0 0,.int .i64 0,.slice none 0 0] rfl (by kernel_rfl) (by kernel_rfl) (by kernel_rfl)
    (OpenSpec.preRow_of_cond 8 hx (by kernel_rfl) (fun k hk=>by cases hk) (by kernel_rfl) (laid_met os))) ?_
 intro W base args ds gs before hval hW _ _ hsz hL _ _
 exact contract H enc W base args ds gs before hval hW hsz

theorem said:Rows.TopTreeOverLinesSaid:=
 OpenClaim.holds_of_cond 3 Tryz.f3 rfl rfl rfl rfl rfl rfl rfl ⟨rfl,rfl,rfl,rfl,rfl⟩ rfl rfl rfl rfl rfl (by kernel_rfl) Tryz.func3 (by kernel_rfl)
  (of_decide_eq_true (by kernel_rfl)) (by unfold Func.isWrapper;first|(rw[if_pos (by decide +kernel)];kernel_rfl)|(rw[if_neg (by decide +kernel)];exact⟨rfl,rfl⟩))
  (fun os started H enc _ F=>by rw[OpenClaim.pre_eq_preRow];exact lifted os started H enc F)

theorem plain (f:FuncId) (fn:Func) (hf:Tryz.pinned.checked.prog.funcNamed Tryz.f3.name=some f) (hfn:Tryz.pinned.checked.prog.funcs[f]? = some fn) :
  false=Tryz.pinned.checked.prog.looks []∧∀ (j:Nat) t,fn.params[j]? = some t→Tryz.pinned.checked.prog.wantsStandIn t=false:=by
 obtain rfl:f=3:=Option.some.inj ((show Tryz.prog.funcNamed Tryz.f3.name=some 3 by kernel_rfl).symm.trans hf) |>.symm
 obtain rfl:fn=Tryz.f3:=(Option.some.inj (Tryz.func3.symm.trans hfn)).symm
 refine⟨by kernel_rfl,fun j t ht=> ?_⟩
 rw[Tryz.params3]at ht
 have hm:=Array.mem_of_getElem? ht
 simp only[List.mem_toArray,List.mem_cons,List.not_mem_nil,or_false]at hm
 rcases hm with rfl|rfl|rfl
 ·exact(show Tryz.prog.wantsStandIn 22=false by kernel_rfl)
 ·exact(show Tryz.prog.wantsStandIn 3=false by kernel_rfl)
 ·exact(show Tryz.prog.wantsStandIn 23=false by kernel_rfl)

theorem proved:Rows.TopTreeOverLinesCardSaid:=
 Claim7.holds_tied_plain_at .later [] _ _ _ _ said (fun _ h=>by cases h) (by kernel_rfl) (fun _ h=>by cases h) topTreeOverLines_row_tie rfl ⟨rfl,rfl⟩ (by kernel_rfl) rfl plain (by kernel_rfl)
#print axioms proved
end Go.Proofs.YtjfchihkhpinmaaGreatDoor.treeOver
