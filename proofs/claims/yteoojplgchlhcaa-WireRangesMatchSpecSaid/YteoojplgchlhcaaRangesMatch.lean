/- The law WireRangesMatchSpec holds for every input: its statement is proved. Conditions: none. -/
import Derived.Test.YteoojplgchlhcaaRgM
namespace Go.Proofs.Yteoojplgchlhcaa.rangesMatch
open Go.ChangeShapes Go.WideShapes Go.ChangeAt Go.RowKit
set_option linter.unusedVariables false
set_option linter.unusedSimpArgs false

theorem contract (H : Type) (enc : TypeId × Value → H) (W : World) (base : Nat) (args : Array Value) (ds gs : List (DataW H)) (before : List MemPlace)
    (hval : ∀ (j : Nat) t v, Try.f8.params[j]? = some t → args[j]? = some v → Value.okWide Try.prog W .any base t v)
    (hW : DataW.Whole enc Try.prog Try.f8.params.toList Rows.wireRangesMatchSpecSpec.vars false W args.toList ds gs before)
    (hsz : (DataW.weightsEach Try.prog (Try.f8.params.toList ++ Rows.wireRangesMatchSpecSpec.plain.varTypes Try.prog) (ds ++ gs)).all (· ≤ reachBytes) = true) :
    Calls Try.prog 8 args W fun e W' => ∃ v, e = .returned v ∧ Rows.wireRangesMatchSpecSpec.post enc Try.prog Try.f8 false true false false W args v W' := by
  have hW' := hW
  have hlt : ∀ x ∈ before, x.block < W.heap.size := fun x hx => by simpa using hW'.lt x hx
  obtain ⟨p, q, hA0, hV, rfl, _, _⟩ := hW
  have hA : DataW.TrodAll enc Try.prog W 0 (fun _ => true) true Try.f8.params.toList args.toList ds p := hA0
  rw [Try.params8] at hA hval hsz
  obtain ⟨v0, v1, v2, d0, d1, d2, p0, p1, p2, rfl, rfl, rfl, h0, h1, h2⟩ := trodAll_three hA
  obtain ⟨rfl, rfl⟩ := trodVars_none hV
  have os : Opens Try.prog H enc W 55 2 (rPair (rI .i64) (rI .i64)) _ := opens_struct2 (s0 := 1) (s1 := 1) Try.underlying55 (by kernel_rfl) rfl rfl (by kernel_rfl) (by kernel_rfl) (opens_int Try.underlying3) (opens_int Try.underlying3)
  have ol := opens_slice (H := H) (enc := enc) (W := W) (bts := 16) Try.underlying51 (by kernel_rfl) (by kernel_rfl) (by decide) os
  have ob := opens_slice (H := H) (enc := enc) (W := W) (bts := 1) Try.underlying41 (by kernel_rfl) (by kernel_rfl) (by decide) (opens_byte Try.underlying5)
  have oc : Opens Try.prog H enc W 46 2 (rPair (rI .i64) (rSl 1 1 rByte)) _ := opens_struct2 (s0 := 1) (s1 := 1) Try.underlying46 (by kernel_rfl) rfl rfl (by kernel_rfl) (by kernel_rfl) (opens_int Try.underlying3) (ob)
  have op := opens_slice (H := H) (enc := enc) (W := W) (bts := 32) Try.underlying42 (by kernel_rfl) (by kernel_rfl) (by decide) oc
  obtain ⟨size, rfl, wsize⟩ := arg_int Try.underlying3 (hval 0 _ v0 rfl rfl) h0
  obtain ⟨Al, nl, cl, l, rfl, Rl, ml⟩ := arg_slice Try.underlying51 ol (hval 1 _ v1 rfl rfl) h1 (B := W.heap.size) (fun x hx => hlt x (by simp [hx])) (weights_arg hsz (j := 1) rfl rfl)
  obtain ⟨Ap, np, cp, p, rfl, Rp, mp⟩ := arg_slice Try.underlying42 op (hval 2 _ v2 rfl rfl) h2 (B := W.heap.size) (fun x hx => hlt x (by simp [hx])) (weights_arg hsz (j := 2) rfl rfl)
  refine (match_any size Al Ap nl cl np cp l p W Rl Rp).mono fun e W' ⟨he, hb⟩ => ?_
  subst he
  exact ⟨_, rfl, law_post laidOut (by kernel_rfl) rfl Try.underlying4 rfl hW' rfl rfl rfl hb⟩

set_option maxRecDepth 100000 in
theorem lifted (os : Os) (started : os.Started) (H : Type) (enc : TypeId × Value → H) :
    ReturnsInHanded {} Try.checked os 8 .any (Rows.wireRangesMatchSpecSpec.pre6 enc Try.prog Try.f8 Rows.wireRangesMatchSpecRow.domain false) (Rows.wireRangesMatchSpecSpec.post enc Try.prog Try.f8 false true false false) := by
  refine returnsInHanded_of_change_sized (C := Try.checked) own started (by kernel_rfl) Try.func8
    (ChangeSpec.witness6 (enc := enc) (C := Try.checked) false ⟨#[], #[.int .i64 0, .slice none 0 0, .slice none 0 0], []⟩ 8 (by kernel_rfl) (by kernel_rfl) (by kernel_rfl) (by kernel_rfl)) ?_
  intro W base args ds gs before hval hW _ hsz _
  exact contract H enc W base args ds gs before hval hW hsz

theorem proved : Rows.WireRangesMatchSpecSaid :=
  OpenClaim.holds_of_wide 8 Try.f8 rfl rfl rfl rfl rfl rfl rfl ⟨rfl, rfl, rfl, rfl, rfl⟩ rfl rfl rfl rfl rfl (by kernel_rfl) Try.func8 (by kernel_rfl)
    (of_decide_eq_true (by kernel_rfl)) (by unfold Func.isWrapper; first | (rw [if_pos (by decide +kernel)]; kernel_rfl) | (rw [if_neg (by decide +kernel)]; exact ⟨rfl, rfl⟩))
    (fun os started H enc _ => lifted os started H enc)

#print axioms proved
end Go.Proofs.Yteoojplgchlhcaa.rangesMatch
