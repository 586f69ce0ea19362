/-
  A call in a drawn region that shares the five high numbers. No statement of the seat is proved here; no conditions.
-/
import Derived.Test.YtjacnfjlocajoaaDoorHi5
namespace Go.Proofs.YtjacnfjlocajoaaDoor
open Go.RowKit Go.Shelf
set_option linter.unusedVariables false
set_option linter.unusedSimpArgs false

def W5 : List Nat := [100001,100002,100101,100102,100103]
theorem mem_W5 {id : Nat} : id ∈ W5 ↔ isHi id = true := by
 simp only [W5,isHi,List.mem_cons,List.not_mem_nil,or_false,decide_eq_true_eq]
def hiObjs5 (hl : List (Nat × Nat × AObj)) : Bool := hl.all fun p => match p.2.2 with
 | .cells cs => cs.all AV.hi5
 | .map _ => true
theorem hiC5_at {H : Heap} {hl : List (Nat × Nat × AObj)} (h : ∀ id,isHi id = true → H id = lookH id hl) (ho : hiObjs5 hl = true) : HiC5 H := fun id hid cs hc => by
 rw [h id hid] at hc
 obtain ⟨p,hp,_,h2⟩ := lookH_mem hc
 have := List.all_eq_true.1 ho p hp
 rw [h2] at this
 exact this
section
variable {P : Program} {R : Env → Heap → Prop} {Λ : Lams} {k : List It} {env : Env} {H : Heap} {d j : Nat} {f : Operand} {args : List Operand} {g : Option (Nat × Bool)} {dos : List DO} {acc : List Fp} {od : List Nat} {fid : FuncId} {args' : List AV}
theorem callD5 {hl hl2 : List (Nat × Nat × AObj)} {r0 : AV} (hF : FHi P fid args' hl (fun r hl' => r = r0 ∧ hl' = hl2)) (hg : gd g env = some true) (hfn : evA env f = .f (.fn (.func fid))) (ha : args.map (evA env) = args') (h1 : H 100001 = lookH 100001 hl) (h2 : H 100002 = lookH 100002 hl) (h3 : H 100101 = lookH 100101 hl) (h4 : H 100102 = lookH 100102 hl) (h5 : H 100103 = lookH 100103 hl)
  (hk1 : hl.all (fun p => isHi p.1) = true) (hk2 : hl2.all (fun p => isHi p.1) = true) (hr : r0.hi5 = true) (ho : hiObjs5 hl = true) (ho2 : hiObjs5 hl2 = true) (hp : args'.all AV.hi5 = true) (hk : noConf acc od [] W5 = true)
  (h : srun P R 300 Λ (.dops dos (j + 1) (addFp j [] W5 acc) :: k) (putE env (some d) r0) (mixH5 (mkH hl2) H)) : Ax P R Λ (.dops (⟨some d,.call f args,g,od⟩ :: dos) j acc :: k) env H := by
 have hH : ∀ id,isHi id = true → H id = lookH id hl := fun id hid => by
  have : id = 100001 ∨ id = 100002 ∨ id = 100101 ∨ id = 100102 ∨ id = 100103 := by simpa [isHi] using hid
  rcases this with rfl | rfl | rfl | rfl | rfl <;> assumption
 refine ax_dCall (f := f) (args := args) (rd := []) (wr := W5) (v := r0) (H' := mixH5 (mkH hl2) H) rfl hg (fun id hid => if_pos (by have := mt mem_W5.2 hid;simpa using this)) (fun H2 _ hw => ?_) hk (srun_sound 300 _ _ _ _ h)
 rw [hfn,ha]
 have hH2 : ∀ id,isHi id = true → H2 id = lookH id hl := fun id hid => (hw id (mem_W5.2 hid)).trans (hH id hid)
 have e : hiP5 H2 = mkH hl := by
  funext id
  show (if isHi id = false then (0,none) else H2 id) = lookH id hl
  by_cases e : isHi id = false
  ·rw [if_pos e,look_hi hk1 e]
  ·rw [if_neg e];exact hH2 id (hi5_of e)
 have at2 : ∀ {H' : Heap},hiP H' = mkH hl2 → ∀ id,isHi id = true → H' id = lookH id hl2 := fun hh id hid => hi_at hh (hi5_ge hid)
 refine ACall.mono (call_hi5 hF e (fun r H' ⟨hl',⟨q1,q2⟩,q3⟩ => by subst q1 q2;exact ⟨hr,hiC5_at (at2 q3) ho2⟩) (hiC5_at hH2 ho) hp) fun r H'' ⟨H',⟨hl',⟨q1,q2⟩,q3⟩,q4⟩ => ?_
 subst q1 q2 q4
 refine ⟨rfl,?_⟩
 funext id
 unfold mix
 by_cases e : isHi id = true
 ·rw [if_pos (mem_W5.2 e)]
  show (if isHi id = false then H2 id else H' id) = if isHi id = false then H id else mkH hl' id
  rw [if_neg (hi5_no e),if_neg (hi5_no e),at2 q3 id e];rfl
 ·rw [if_neg (fun hh => e (mem_W5.1 hh))]
  exact if_pos (by simpa using e)
end
theorem hi5_fs (l : List FV) : (l.map AV.f).all AV.hi5 = true := List.all_eq_true.2 fun a ha => by obtain ⟨x,_,rfl⟩ := List.mem_map.1 ha;rfl
theorem hi5_rowA {a : Nat → AV} {t : ByteArray} (h : ∀ n,(a n).hi5 = true) (P : List Pt) : (rowA a t P).all AV.hi5 = true := List.all_eq_true.2 fun x hx => by
 obtain ⟨p,_,hp⟩ := List.mem_flatMap.1 hx
 unfold fPtA at hp
 simp only [List.mem_cons,List.not_mem_nil,or_false] at hp
 rcases hp with rfl | rfl | rfl
 ·rfl
 ·rfl
 ·split
  ·exact h _
  ·rfl
theorem hi5_aY {z : Bool} {v : Nat} (n : Nat) : (aY z v n).hi5 = true := by cases z <;> rfl
theorem hi5_R {D : List Ob} {P : List Pt} {t : ByteArray} {z : Bool} {v1 v2 v3 v4 : Nat} {zs : List FV} : hiObjs5 (hiR D P t z v1 v2 v3 v4 zs) = true := by
 unfold hiObjs5 hiR
 simp only [List.all_cons,List.all_nil,Bool.and_true,Bool.and_eq_true]
 refine ⟨?_,hi5_fs _,hi5_rowA hi5_aY P,hi5_fs _⟩
 rw [List.all_append,hi5_fs];rfl
end Go.Proofs.YtjacnfjlocajoaaDoor
