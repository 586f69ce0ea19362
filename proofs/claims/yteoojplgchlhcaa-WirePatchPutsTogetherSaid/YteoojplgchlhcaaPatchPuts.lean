/- The law WirePatchPutsTogether holds for every input: its statement is proved. Conditions: none. -/
import Derived.Test.YteoojplgchlhcaaPatchL
namespace Go.Proofs.Yteoojplgchlhcaa.patchPuts
open Go.ChangeShapes Go.WideShapes Go.ChangeAt Go.RowKit
set_option linter.unusedVariables false
set_option linter.unusedSimpArgs false

theorem contract (H : Type) (enc : TypeId × Value → H) (W : World) (base : Nat) (args : Array Value) (ds gs : List (DataW H)) (before : List MemPlace)
    (hval : ∀ (j : Nat) t v, Try.f6.params[j]? = some t → args[j]? = some v → Value.okWide Try.prog W .any base t v)
    (hW : DataW.Whole enc Try.prog Try.f6.params.toList Rows.wirePatchPutsTogetherSpec.vars false W args.toList ds gs before)
    (hsz : (DataW.weightsEach Try.prog (Try.f6.params.toList ++ Rows.wirePatchPutsTogetherSpec.plain.varTypes Try.prog) (ds ++ gs)).all (· ≤ reachBytes) = true) :
    Calls Try.prog 6 args W fun e W' => ∃ v, e = .returned v ∧ Rows.wirePatchPutsTogetherSpec.post enc Try.prog Try.f6 false true false false W args v W' := by
  have hW' := hW
  have hlt : ∀ x ∈ before, x.block < W.heap.size := fun x hx => by simpa using hW'.lt x hx
  obtain ⟨p, q, hA0, hV, rfl, _, _⟩ := hW
  have hA : DataW.TrodAll enc Try.prog W 0 (fun _ => true) true Try.f6.params.toList args.toList ds p := hA0
  rw [Try.params6] at hA hval hsz
  obtain ⟨v0, v1, d0, d1, p0, p1, rfl, rfl, rfl, h0, h1⟩ := trodAll_two hA
  obtain ⟨rfl, rfl⟩ := trodVars_none hV
  have ob := opens_slice (H := H) (enc := enc) (W := W) (bts := 1) Try.underlying41 (by kernel_rfl) (by kernel_rfl) (by decide) (opens_byte Try.underlying5)
  have oi := opens_slice (H := H) (enc := enc) (W := W) (bts := 8) Try.underlying25 (by kernel_rfl) (by kernel_rfl) (by decide) (opens_int Try.underlying3)
  obtain ⟨Ab, nb, cb, b, rfl, Rb, mb⟩ := arg_slice Try.underlying41 ob (hval 0 _ v0 rfl rfl) h0 (B := W.heap.size) (fun x hx => hlt x (by simp [hx])) (weights_arg hsz (j := 0) rfl rfl)
  obtain ⟨Al, nl, cl, l, rfl, Rl, ml⟩ := arg_slice Try.underlying25 oi (hval 1 _ v1 rfl rfl) h1 (B := W.heap.size) (fun x hx => hlt x (by simp [hx])) (weights_arg hsz (j := 1) rfl rfl)
  refine (patchPuts_any Ab Al nb cb nl cl b l W Rb Rl).mono fun e W' ⟨he, hb⟩ => ?_
  subst he
  exact ⟨_, rfl, law_post laidOut (by kernel_rfl) rfl Try.underlying4 rfl hW' rfl rfl rfl hb⟩

set_option maxRecDepth 100000 in
theorem lifted (os : Os) (started : os.Started) (H : Type) (enc : TypeId × Value → H) :
    ReturnsInHanded {} Try.checked os 6 .any (Rows.wirePatchPutsTogetherSpec.pre6 enc Try.prog Try.f6 Rows.wirePatchPutsTogetherRow.domain false) (Rows.wirePatchPutsTogetherSpec.post enc Try.prog Try.f6 false true false false) := by
  refine returnsInHanded_of_change_sized (C := Try.checked) own started (by kernel_rfl) Try.func6
    (ChangeSpec.witness6 (enc := enc) (C := Try.checked) false ⟨#[], #[.slice none 0 0, .slice none 0 0], []⟩ 8 (by kernel_rfl) (by kernel_rfl) (by kernel_rfl) (by kernel_rfl)) ?_
  intro W base args ds gs before hval hW _ hsz _
  exact contract H enc W base args ds gs before hval hW hsz

theorem proved : Rows.WirePatchPutsTogetherSaid :=
  OpenClaim.holds_of_wide 6 Try.f6 rfl rfl rfl rfl rfl rfl rfl ⟨rfl, rfl, rfl, rfl, rfl⟩ rfl rfl rfl rfl rfl (by kernel_rfl) Try.func6 (by kernel_rfl)
    (of_decide_eq_true (by kernel_rfl)) (by unfold Func.isWrapper; first | (rw [if_pos (by decide +kernel)]; kernel_rfl) | (rw [if_neg (by decide +kernel)]; exact ⟨rfl, rfl⟩))
    (fun os started H enc _ => lifted os started H enc)

#print axioms proved
end Go.Proofs.Yteoojplgchlhcaa.patchPuts
