/-
  Writing a query: put together. No statement of the seat is proved here; no conditions.
-/
import Derived.Test.YtagkdifaldikgaaGreatDoorQtB
import Derived.Test.YtagkdifaldikgaaGreatDoorQcW
namespace Go.Proofs.YtagkdifaldikgaaGreatDoor
open Go.RowKit Go.Shelf
set_option linter.unusedVariables false
set_option linter.unusedSimpArgs false
set_option maxRecDepth 100000

theorem txB_list (q : QT) : (txB q).data.toList = txQ q := rfl
theorem tx_size (q : QT) : (txB q).size = (txQ q).length := by
 show (txQ q).toArray.size = _;simp
theorem qk_kindQ (q : QT) : qK q = kindQ q := by obtain ⟨k,t,n,ps⟩ := q;rfl
theorem held_list {k : Int} {ps : List QT} {i : Nat} {p : QT} (hp : ps[i]? = some p) : (hdB k (qK p) i (txB p)).data.toList = heldW k ps (txs ps) i := by
 unfold hdB heldW
 rw [show kindAt ps i = kindQ p by unfold kindAt;rw [hp],txs_at hp,qk_kindQ]
 by_cases h : brk k (kindQ p) i = true
 ·rw [if_pos h,if_pos h]
  simp [ByteArray.data_append,txB_list]
 ·rw [if_neg h,if_neg h,txB_list]
theorem held_le {k : Int} {ps : List QT} {i : Nat} {p : QT} (hp : ps[i]? = some p) : (txQ p).length ≤ (heldW k ps (txs ps) i).length := by
 unfold heldW
 rw [txs_at hp]
 split
 ·simp;omega
 ·exact Nat.le_refl _
set_option maxHeartbeats 2000000 in
theorem qtext_f : ∀ q,ckQ q = 0 → QB q → (txQ q).length ≤ 4611686018427387000 → FRet Tryz.prog 9 [aQ q] [.c (.v (.str (txB q)))] := by
 refine QT.ind fun k t n ps ih h hb hsz => ?_
 rw [QB] at hb
 obtain ⟨⟨hbt,_⟩,hbs⟩ := hb
 rw [ckQ] at h
 split at h
 ·cases h
 rename_i hk
 split at h
 ·cases h
 rename_i hf
 split at h
 ·cases h
 rename_i hn
 have hp := ckQs_zero.1 h
 have hR : ∀ p ∈ ps,(txQ p).length ≤ 4611686018427387000 → FRet Tryz.prog 9 [aQ p] [.c (.v (.str (txB p)))] := fun p hm hl => ih p hm (hp p hm) (QBs_mem hbs p hm) hl
 have hf2 : ps.length = partsN k := Decidable.byContradiction fun hh => hf (.inr hh)
 have hk2 : k = 1 ∨ k = 2 ∨ k = 3 ∨ k = 4 ∨ k = 5 ∨ k = 6 ∨ k = 7 ∨ k = 8 ∨ k = 9 ∨ k = 10 := by omega
 clear h hf hk ih hp
 show FRet Tryz.prog 9 [.agg [.f (.int .i64 k),.f (.str t),.f (.int .i64 n),.f (.fr 4 (encQs ps))]] _
 have htx : txQ (.mk k t n ps) = txK k t n ps (txs ps) := rfl
 have hts : t.data.toList.length = t.size := by simp
 rcases hk2 with rfl | rfl | rfl | rfl | rfl | rfl | rfl | rfl | rfl | rfl
 ·exact qt_all t n ps t t t (by simp)
 ·exact qt_lab t n ps t t t (by omega)
 ·obtain ⟨a,rfl⟩ := rt_one hf2
  have hn1 : -1 ≤ n ∧ n ≤ 1000 := by simp [rngQ] at hn;omega
  have e : txQ (.mk 3 t n [a]) = wNeeds ++ 40 :: (txQ a ++ ((if 0 ≤ n then 44 :: 32 :: (itB n).data.toList else []) ++ [41])) := rfl
  have hl := hsz
  rw [e] at hl
  simp only [List.length_append,List.length_cons] at hl
  have kA := qone_f (k := 3) (t := t) (n := n) (ps := [a]) (i := 0) rfl (by decide) (by simp) (hR a (by simp) (by omega))
  by_cases h0 : 0 ≤ n
  ·have kI := itoa_f n (by omega) (by omega)
   have hi := nDigits_le 3 n.toNat (by omega)
   have hit : (itB n).size ≤ 4 := by
    have : (itB n).data.toList = Lib.decDigits n.toNat := by
     show (Lib.itoa n).toArray.toList = _
     obtain ⟨u,rfl⟩ : ∃ u : Nat,n = u := ⟨n.toNat,by omega⟩
     rw [Lib.itoa_nonneg];simp
    rw [show (itB n).size = (itB n).data.toList.length by simp,this,Lib.decDigits_length]
    exact hi
   have := qt_num3 t n [a] _ t _ kA kI (decide_eq_true h0) (by have : (⟨(Lib.itoa n).toArray⟩ : ByteArray).size ≤ 4 := hit;rw [tx_size];omega)
   have e2 : txB (.mk 3 t n [a]) = (⟨#[110,101,101,100,115]⟩ : ByteArray) ++ (⟨#[40]⟩ : ByteArray) ++ txB a ++ (⟨#[44,32]⟩ : ByteArray) ++ ⟨(Lib.itoa n).toArray⟩ ++ (⟨#[41]⟩ : ByteArray) := bytes_ext (by
    rw [txB_list,e,if_pos h0]
    simp [ByteArray.data_append,txB_list,wNeeds,itB])
   rw [e2]
   exact this
  ·have := qt_pl3 t n [a] _ t t kA (decide_eq_false h0) (by rw [tx_size];omega)
   have e2 : txB (.mk 3 t n [a]) = (⟨#[110,101,101,100,115]⟩ : ByteArray) ++ (⟨#[40]⟩ : ByteArray) ++ txB a ++ (⟨#[41]⟩ : ByteArray) := bytes_ext (by
    rw [txB_list,e,if_neg h0]
    simp [ByteArray.data_append,txB_list,wNeeds])
   rw [e2]
   exact this
 ·obtain ⟨a,rfl⟩ := rt_one hf2
  have hn1 : -1 ≤ n ∧ n ≤ 1000 := by simp [rngQ] at hn;omega
  have e : txQ (.mk 4 t n [a]) = wUsers ++ 40 :: (txQ a ++ ((if 0 ≤ n then 44 :: 32 :: (itB n).data.toList else []) ++ [41])) := rfl
  have hl := hsz
  rw [e] at hl
  simp only [List.length_append,List.length_cons] at hl
  have kA := qone_f (k := 4) (t := t) (n := n) (ps := [a]) (i := 0) rfl (by decide) (by simp) (hR a (by simp) (by omega))
  by_cases h0 : 0 ≤ n
  ·have kI := itoa_f n (by omega) (by omega)
   have hi := nDigits_le 3 n.toNat (by omega)
   have hit : (itB n).size ≤ 4 := by
    have : (itB n).data.toList = Lib.decDigits n.toNat := by
     show (Lib.itoa n).toArray.toList = _
     obtain ⟨u,rfl⟩ : ∃ u : Nat,n = u := ⟨n.toNat,by omega⟩
     rw [Lib.itoa_nonneg];simp
    rw [show (itB n).size = (itB n).data.toList.length by simp,this,Lib.decDigits_length]
    exact hi
   have := qt_num4 t n [a] _ t _ kA kI (decide_eq_true h0) (by have : (⟨(Lib.itoa n).toArray⟩ : ByteArray).size ≤ 4 := hit;rw [tx_size];omega)
   have e2 : txB (.mk 4 t n [a]) = (⟨#[117,115,101,114,115]⟩ : ByteArray) ++ (⟨#[40]⟩ : ByteArray) ++ txB a ++ (⟨#[44,32]⟩ : ByteArray) ++ ⟨(Lib.itoa n).toArray⟩ ++ (⟨#[41]⟩ : ByteArray) := bytes_ext (by
    rw [txB_list,e,if_pos h0]
    simp [ByteArray.data_append,txB_list,wUsers,itB])
   rw [e2]
   exact this
  ·have := qt_pl4 t n [a] _ t t kA (decide_eq_false h0) (by rw [tx_size];omega)
   have e2 : txB (.mk 4 t n [a]) = (⟨#[117,115,101,114,115]⟩ : ByteArray) ++ (⟨#[40]⟩ : ByteArray) ++ txB a ++ (⟨#[41]⟩ : ByteArray) := bytes_ext (by
    rw [txB_list,e,if_neg h0]
    simp [ByteArray.data_append,txB_list,wUsers])
   rw [e2]
   exact this
 ·obtain ⟨a,b,rfl⟩ := rt_two hf2
  have e : txQ (.mk 5 t n [a,b]) = wBetw ++ 40 :: (txQ a ++ 44 :: 32 :: (txQ b ++ [41])) := rfl
  have hl := hsz
  rw [e] at hl
  simp only [List.length_append,List.length_cons] at hl
  have kA := qone_f (k := 5) (t := t) (n := n) (ps := [a,b]) (i := 0) rfl (by decide) (by simp) (hR a (by simp) (by omega))
  have kB := qone_f (k := 5) (t := t) (n := n) (ps := [a,b]) (i := 1) rfl (by decide) (by simp) (hR b (by simp) (by omega))
  have := qt_betw t n [a,b] _ _ t kA kB (by rw [tx_size,tx_size];omega)
  have e2 : txB (.mk 5 t n [a,b]) = (⟨#[98,101,116,119,101,101,110,40]⟩ : ByteArray) ++ txB a ++ (⟨#[44,32]⟩ : ByteArray) ++ txB b ++ (⟨#[41]⟩ : ByteArray) := bytes_ext (by
   rw [txB_list,e]
   simp [ByteArray.data_append,txB_list,wBetw])
  rw [e2]
  exact this
 ·obtain ⟨a,rfl⟩ := rt_one hf2
  have e : txQ (.mk 6 t n [a]) = wKind ++ 40 :: (t.data.toList ++ 44 :: 32 :: (txQ a ++ [41])) := rfl
  have hl := hsz
  rw [e] at hl
  simp only [List.length_append,List.length_cons] at hl
  have kA := qone_f (k := 6) (t := t) (n := n) (ps := [a]) (i := 0) rfl (by decide) (by simp) (hR a (by simp) (by omega))
  have := qt_kind t n [a] _ t t kA (by rw [tx_size];omega)
  have e2 : txB (.mk 6 t n [a]) = (⟨#[107,105,110,100,40]⟩ : ByteArray) ++ t ++ (⟨#[44,32]⟩ : ByteArray) ++ txB a ++ (⟨#[41]⟩ : ByteArray) := bytes_ext (by
   rw [txB_list,e]
   simp [ByteArray.data_append,txB_list,wKind])
  rw [e2]
  exact this
 ·obtain ⟨a,rfl⟩ := rt_one hf2
  have e : txQ (.mk 7 t n [a]) = wIn ++ 40 :: (t.data.toList ++ 44 :: 32 :: (txQ a ++ [41])) := rfl
  have hl := hsz
  rw [e] at hl
  simp only [List.length_append,List.length_cons] at hl
  have kA := qone_f (k := 7) (t := t) (n := n) (ps := [a]) (i := 0) rfl (by decide) (by simp) (hR a (by simp) (by omega))
  have := qt_in t n [a] _ t t kA (by rw [tx_size];omega)
  have e2 : txB (.mk 7 t n [a]) = (⟨#[105,110,40]⟩ : ByteArray) ++ t ++ (⟨#[44,32]⟩ : ByteArray) ++ txB a ++ (⟨#[41]⟩ : ByteArray) := bytes_ext (by
   rw [txB_list,e]
   simp [ByteArray.data_append,txB_list,wIn])
  rw [e2]
  exact this
 ·obtain ⟨a,b,rfl⟩ := rt_two hf2
  have e : txQ (.mk 8 t n [a,b]) = heldW 8 [a,b] (txs [a,b]) 0 ++ 32 :: 43 :: 32 :: heldW 8 [a,b] (txs [a,b]) 1 := rfl
  have l0 := held_le (k := 8) (ps := [a,b]) (i := 0) (p := a) rfl
  have l1 := held_le (k := 8) (ps := [a,b]) (i := 1) (p := b) rfl
  have hl := hsz
  rw [e] at hl
  simp only [List.length_append,List.length_cons] at hl
  have kA := qheld_f (k := 8) (t := t) (n := n) (ps := [a,b]) (i := 0) rfl (by decide) (by simp) (by rw [tx_size];omega) (hR a (by simp) (by omega))
  have kB := qheld_f (k := 8) (t := t) (n := n) (ps := [a,b]) (i := 1) rfl (by decide) (by simp) (by rw [tx_size];omega) (hR b (by simp) (by omega))
  have s0 : (hdB 8 (qK a) 0 (txB a)).size = (heldW 8 [a,b] (txs [a,b]) 0).length := by rw [← held_list (ps := [a,b]) (p := a) rfl];simp
  have s1 : (hdB 8 (qK b) 1 (txB b)).size = (heldW 8 [a,b] (txs [a,b]) 1).length := by rw [← held_list (ps := [a,b]) (p := b) rfl];simp
  have := qt_op8 t n [a,b] _ _ t kA kB (by omega)
  have e2 : txB (.mk 8 t n [a,b]) = hdB 8 (qK a) 0 (txB a) ++ ⟨#[32,43,32]⟩ ++ hdB 8 (qK b) 1 (txB b) := bytes_ext (by
   rw [txB_list,e,ByteArray.data_append,ByteArray.data_append,Array.toList_append,Array.toList_append,held_list (ps := [a,b]) (p := a) rfl,held_list (ps := [a,b]) (p := b) rfl]
   simp)
  rw [e2]
  exact this
 ·obtain ⟨a,b,rfl⟩ := rt_two hf2
  have e : txQ (.mk 9 t n [a,b]) = heldW 9 [a,b] (txs [a,b]) 0 ++ 32 :: 45 :: 32 :: heldW 9 [a,b] (txs [a,b]) 1 := rfl
  have l0 := held_le (k := 9) (ps := [a,b]) (i := 0) (p := a) rfl
  have l1 := held_le (k := 9) (ps := [a,b]) (i := 1) (p := b) rfl
  have hl := hsz
  rw [e] at hl
  simp only [List.length_append,List.length_cons] at hl
  have kA := qheld_f (k := 9) (t := t) (n := n) (ps := [a,b]) (i := 0) rfl (by decide) (by simp) (by rw [tx_size];omega) (hR a (by simp) (by omega))
  have kB := qheld_f (k := 9) (t := t) (n := n) (ps := [a,b]) (i := 1) rfl (by decide) (by simp) (by rw [tx_size];omega) (hR b (by simp) (by omega))
  have s0 : (hdB 9 (qK a) 0 (txB a)).size = (heldW 9 [a,b] (txs [a,b]) 0).length := by rw [← held_list (ps := [a,b]) (p := a) rfl];simp
  have s1 : (hdB 9 (qK b) 1 (txB b)).size = (heldW 9 [a,b] (txs [a,b]) 1).length := by rw [← held_list (ps := [a,b]) (p := b) rfl];simp
  have := qt_op9 t n [a,b] _ _ t kA kB (by omega)
  have e2 : txB (.mk 9 t n [a,b]) = hdB 9 (qK a) 0 (txB a) ++ ⟨#[32,45,32]⟩ ++ hdB 9 (qK b) 1 (txB b) := bytes_ext (by
   rw [txB_list,e,ByteArray.data_append,ByteArray.data_append,Array.toList_append,Array.toList_append,held_list (ps := [a,b]) (p := a) rfl,held_list (ps := [a,b]) (p := b) rfl]
   simp)
  rw [e2]
  exact this
 ·obtain ⟨a,b,rfl⟩ := rt_two hf2
  have e : txQ (.mk 10 t n [a,b]) = heldW 10 [a,b] (txs [a,b]) 0 ++ 32 :: 38 :: 32 :: heldW 10 [a,b] (txs [a,b]) 1 := rfl
  have l0 := held_le (k := 10) (ps := [a,b]) (i := 0) (p := a) rfl
  have l1 := held_le (k := 10) (ps := [a,b]) (i := 1) (p := b) rfl
  have hl := hsz
  rw [e] at hl
  simp only [List.length_append,List.length_cons] at hl
  have kA := qheld_f (k := 10) (t := t) (n := n) (ps := [a,b]) (i := 0) rfl (by decide) (by simp) (by rw [tx_size];omega) (hR a (by simp) (by omega))
  have kB := qheld_f (k := 10) (t := t) (n := n) (ps := [a,b]) (i := 1) rfl (by decide) (by simp) (by rw [tx_size];omega) (hR b (by simp) (by omega))
  have s0 : (hdB 10 (qK a) 0 (txB a)).size = (heldW 10 [a,b] (txs [a,b]) 0).length := by rw [← held_list (ps := [a,b]) (p := a) rfl];simp
  have s1 : (hdB 10 (qK b) 1 (txB b)).size = (heldW 10 [a,b] (txs [a,b]) 1).length := by rw [← held_list (ps := [a,b]) (p := b) rfl];simp
  have := qt_op10 t n [a,b] _ _ t kA kB (by omega)
  have e2 : txB (.mk 10 t n [a,b]) = hdB 10 (qK a) 0 (txB a) ++ ⟨#[32,38,32]⟩ ++ hdB 10 (qK b) 1 (txB b) := bytes_ext (by
   rw [txB_list,e,ByteArray.data_append,ByteArray.data_append,Array.toList_append,Array.toList_append,held_list (ps := [a,b]) (p := a) rfl,held_list (ps := [a,b]) (p := b) rfl]
   simp)
  rw [e2]
  exact this
end Go.Proofs.YtagkdifaldikgaaGreatDoor
