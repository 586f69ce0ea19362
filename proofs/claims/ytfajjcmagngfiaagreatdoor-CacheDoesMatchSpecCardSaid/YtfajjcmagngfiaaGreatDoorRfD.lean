/-
  The reference's Next, Whole, Fits, Shrunk. No statement of the seat is proved here; no conditions.
-/
import Derived.Test.YtfajjcmagngfiaaGreatDoorRfC
namespace Go.Proofs.YtfajjcmagngfiaaGreatDoor
open Go.RowKit Go.Shelf
set_option linter.unusedVariables false
set_option linter.unusedSimpArgs false
set_option maxRecDepth 100000

theorem entryR_f (c : Cache) (t : ByteArray) (hl : (c.2.2.2.length : Int) ≤ 9223372036854775807) : FRet Tryz.prog 76 [.f (pCache c),.f (.str t)] [.c (.v (.int .i64 (firstK (fun b : Entry => b.1) c.2.2.2 t)))] := by
 obtain ⟨room,lease,bl,en⟩ := c
 simp only at hl ⊢
 refine FCall.of_ax low_ref7_entry ?_
 dsimp only [jm,ji,jf,jl,jL,jn,je,jx,jT,jC,jB,jq,jt,ju,jA,km,kf,kl,kn,kx,l_ref7_entry,pCache]
 refine zs ?_
 repeat'(first|(simp -implicitDefEqProofs only [*,frBlobs,frEntries,zr,seval,reduceIte,reduceCtorEq])|(apply zk<;>intro hc)|(refine zp ?_)|(refine zd ?_)|fail)
 refine ax_loopU (S := Nat) 26 [0,1] [] (fun s => [(5,.f (.int .i64 s))]) (fun s => []) (fun s => s ≤ en.length ∧ ∀ (m : Nat) y,m < s → en[m]? = some y → y.1 ≠ t) (fun s => en.length - s) (0) [] ?_ ?_ fun s hs => ?_
 ·exact ⟨Nat.zero_le _,fun m y h => absurd h (by omega)⟩
 ·refine wk_i ?_ ?_ <;> simp only [zw,seval,reduceIte,reduceCtorEq]
 obtain ⟨hi,hall⟩ := hs
 refine zs ?_
 rcases Nat.lt_or_ge s en.length with hlt | hge
 ·obtain ⟨x,hx⟩ := get_some hlt
  have h4 := inc64 hlt hl
  have h2 := lt_t hlt
  obtain ⟨xd,xs,xu⟩ := x
  have hf := hide hall
  clear hall
  repeat'(first|(simp -implicitDefEqProofs only [*,List.getElem?_map,Option.map_some,fEntry,frStrs,zr,seval,reduceIte,reduceCtorEq])|(apply zk<;>intro hc)|(refine zp ?_)|(refine zd ?_)|fail)
  ·exact ret_ve (by rw [firstK_hit hf.out hx (of_decide_eq_true hc)])
  ·refine ⟨s + 1,⟨hlt,fun m y hm hy => ?_⟩,by omega,?_⟩
   ·rcases Nat.lt_succ_iff_lt_or_eq.1 hm with h1 | rfl
    ·exact hf.out m y h1 hy
    ·rw [hx] at hy;obtain rfl := Option.some.inj hy;exact of_decide_eq_false hc
   ·refine wk_i ?_ ?_ <;> simp only [zw,seval,reduceIte,reduceCtorEq]
 ·obtain rfl : s = en.length := by omega
  have h2 := lt_f hge
  have h3 : firstK (fun b : Entry => b.1) en t = -1 := firstK_none fun m y hm => hall m y (List.getElem?_eq_some_iff.1 hm).1 hm
  clear hall
  repeat'(first|(simp -implicitDefEqProofs only [*,zr,seval,reduceIte,reduceCtorEq])|(apply zk<;>intro hc)|(refine zp ?_)|(refine zd ?_)|fail)
  exact ret_v
theorem firstK_has {α : Type} {key : α → ByteArray} {l : List α} {t : ByteArray} (h : hasK key l t = true) : ∃ (i : Nat) (x : α),firstK key l t = (i : Int) ∧ l[i]? = some x ∧ key x = t := by
 obtain ⟨x,hx,he⟩ := List.any_eq_true.1 h
 cases hf : l.findIdx? (fun x => decide (key x = t)) with
 | none => rw [List.findIdx?_eq_none_iff] at hf;have h1 := hf x hx;rw [he] at h1;cases h1
 | some i =>
  obtain ⟨h1,h2,h3⟩ := List.findIdx?_eq_some_iff_getElem.1 hf
  exact ⟨i,l[i],by rw [firstK,hf],List.getElem?_eq_getElem h1,by simpa using h2⟩
theorem firstK_hasnt {α : Type} {key : α → ByteArray} {l : List α} {t : ByteArray} (h : hasK key l t = false) : firstK key l t = -1 := firstK_none fun m y hm he => by
 have h1 := List.any_eq_false.1 h y (List.mem_of_getElem? hm)
 simp [he] at h1
end Go.Proofs.YtfajjcmagngfiaaGreatDoor
