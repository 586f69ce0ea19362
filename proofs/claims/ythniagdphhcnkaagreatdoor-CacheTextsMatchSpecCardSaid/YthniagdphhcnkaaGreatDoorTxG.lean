/-
  strings.Join, (*strings.Builder).WriteString and Len, and the closure that writes a line. No statement of the seat is proved here; no conditions.
-/
import Derived.Test.YthniagdphhcnkaaGreatDoorTxF
import Derived.Test.YthniagdphhcnkaaGreatDoorTxN
import Derived.Shelf.Strings.OnBuilder
namespace Go.Proofs.YthniagdphhcnkaaGreatDoor
open Go.RowKit Go.Shelf
set_option linter.unusedVariables false
set_option linter.unusedSimpArgs false
set_option maxRecDepth 100000

theorem fret_callsZ {P : Program} {f : FuncId} {args : List AV} {x : FV} (hc : callable P f = true)
  (h : ∀ (G : Ghost) (Z : Nat → Prop) (w : World) (vs : Array Value),ZOk P Z w → vs.size = args.length → (∀ (j : Nat) (a : AV) (v : Value),args[j]? = some a → vs[j]? = some v → RepA G Z w a v) → Calls P f vs w fun e w' => ∃ v,e = .returned v ∧ (∀ Z' : Nat → Prop,RepF Z' w' x v) ∧ Below w.heap.size w w') : FRet P f args [.c (.v x)] := by
 refine ⟨hc,fun G Z w vs st hs hrep => ?_⟩
 refine (h G Z w vs st.zlt hs hrep).mono fun e w' ⟨v,he,hv,hb⟩ => ?_
 have nl : ∀ bk,¬ LiveB G bk := fun bk ⟨id,o,hl⟩ => by
  have := st.dead id rfl
  rw [this] at hl;cases hl
 have hz : ∀ bk,Z bk → w'.heap[bk]? = w.heap[bk]? := fun bk hk => hb.block bk (st.zlt bk hk)
 exact ⟨_,.f x,H0,G,Z,he,⟨[_],rfl,⟨rfl,rfl⟩,List.nodup_nil⟩,⟨st.ver,st.dead,fun id o h => (by cases h),st.inj,st.disj,⟨fun bk hk => Nat.lt_of_lt_of_le (st.zlt bk hk) hb.size,st.zlt.kn.mono fun bk hk => ⟨hk,hz bk hk⟩⟩,fun id g o hl => absurd ⟨id,o,hl⟩ (nl g),fun id g o hl => absurd ⟨id,o,hl⟩ (nl g)⟩,
  ⟨hb.os,hb.tape,hb.output,hb.size,fun bk hk _ => hb.block bk hk,fun bk hk => ⟨hk,hz bk hk⟩,fun bk hk => .inl hk,fun bk hl => .inl hl,fun bk arr e fz hl _ => absurd hl (nl bk),fun _ _ => Nat.le_refl _,fun _ _ _ => .inr rfl⟩,.f (hv _)⟩
theorem extra156 : Builder.Extra Tryz.prog Tryz.lays156_ren where
 sizeBuilder := by kernel_rfl
 liesBuilder := by kernel_rfl
 t5 := by kernel_rfl
 a5 := Tryz.isAgg5
 z5 := Tryz.sizeOf5
 v5 := Tryz.zeroValue5
 infoByte := by kernel_rfl
 cellsByte := by kernel_rfl
 sizeByte := by kernel_rfl
 neB5 := by decide
theorem strs_cells {Z : Nat → Prop} {w : World} {o : List ByteArray} {u : Value} (h : RepF Z w (frStrs o) u) (hne : o ≠ []) : ∃ b off cap,u = .slice (some ⟨b,off,none⟩) o.length cap ∧ Z b ∧ o.length ≤ cap ∧ ∀ j d,o[j]? = some d → w.cell? ⟨b,off + j,none⟩ = some (.string d) := by
 unfold frStrs at h
 generalize hL : o.map (fun n => [FV.str n]) = L at h
 cases h with
 | frNil sz A c hc => exact absurd (List.map_eq_nil_iff.1 hL) hne
 | fr sz l b off c us h1 h2 h3 h4 h5 h6 h7 =>
  subst hL
  refine ⟨b,off,c,by rw [List.length_map],h4,by rw [List.length_map] at h2;exact h2,fun j d hj => ?_⟩
  have hjl := (List.getElem?_eq_some_iff.1 hj).1
  have := h6 j 0 (by rw [List.length_map];exact hjl) (by omega)
  have h8 := h7 j 0 [FV.str d] (FV.str d) (by rw [List.getElem?_map,hj];rfl) rfl
  rw [Nat.mul_one,Nat.add_zero] at this
  rw [this.1,RepF.str_ h8]
theorem join_f (l : List ByteArray) (hne : l ≠ []) (hl : l.length ≤ 140737488355328) (hj : (joinW l).size ≤ 140737488355328) : FRet Tryz.prog 14 [.f (frStrs l),.f (.str ⟨#[32]⟩)] [.c (.v (.str (joinW l)))] :=
 fret_callsZ (by kernel_rfl) fun G Z w vs hz hs hrep => by
  obtain ⟨v0,v1,rfl,r0,r1⟩ := args2 hs hrep
  obtain rfl := r1.str_
  obtain ⟨b,off,cap,rfl,hb,hcap,hc⟩ := strs_cells r0 hne
  have hcon := Any.strings_Join Tryz.lays156 extra156 b off cap l ⟨#[32]⟩ w hc (hz b hb) hl hcap (by
   have e : (joinW l).size = (Lib.join (l.map (·.data.toList)) [32]).length := by show (Lib.join _ _).toArray.size = _;simp
   rw [e] at hj
   exact hj)
  change Calls Tryz.prog 14 _ _ _ at hcon
  exact hcon.mono fun e w' ⟨he,hw⟩ => ⟨_,he,fun Z' => .str _,hw⟩
theorem bytesL_app (a b : ByteArray) : bytesL (a ++ b) = bytesL a ++ bytesL b := by
 unfold bytesL
 rw [ByteArray.data_append]
 simp
theorem bytesL_len (a : ByteArray) : (bytesL a).length = a.size := by unfold bytesL;simp
theorem hi5_bytes (a : ByteArray) : (bytesL a).all AV.hi = true := List.all_eq_true.2 fun x hx => by
 unfold bytesL at hx
 obtain ⟨y,_,rfl⟩ := List.mem_map.1 hx;rfl
theorem hi5_bytes5 (a : ByteArray) : (bytesL a).all AV.hi5 = true := List.all_eq_true.2 fun x hx => by
 unfold bytesL at hx
 obtain ⟨y,_,rfl⟩ := List.mem_map.1 hx;rfl
theorem bldH_hi (v : Nat) (y : ByteArray) : hiObjs (bldH v y) = true := by
 unfold hiObjs bldH
 simp only [List.all_cons,List.all_nil,Bool.and_true,Bool.and_eq_true]
 exact ⟨⟨rfl,rfl⟩,hi5_bytes y⟩
theorem bldH_hi5 (v : Nat) (y : ByteArray) : hiObjs5 (bldH v y) = true := by
 unfold hiObjs5 bldH
 simp only [List.all_cons,List.all_nil,Bool.and_true,Bool.and_eq_true]
 exact ⟨⟨rfl,rfl⟩,hi5_bytes5 y⟩
theorem write_new (s : ByteArray) (h0 : 0 < s.size) (h1 : s.size ≤ 100000000000) : FHi Tryz.prog 13 [.ptr 100001 1 0,.f (.str s)] bldN (fun r hl' => r = .tup [.f (.int .i64 s.size),.f (.lit .nilIface)] ∧ hl' = bldH 1 s) := by
 refine FCall.of_ax low_strings_Builder_WriteString ?_
 dsimp only [l_strings_Builder_WriteString,bldN]
 refine srun_sound 300 _ _ _ _ ?_
 repeat' (first
  | (simp -implicitDefEqProofs only [*,zr,Nat.reduceAdd,Nat.reduceSub,Nat.reduceMul,Nat.reduceLT,Nat.reduceLeDiff,Nat.reduceEqDiff,Nat.reduceBEq,reduceIte,reduceCtorEq,Int.reduceLE,Int.reduceLT,Int.reduceToNat,Int.reduceEq,Int.reduceNe])
  | ((first|apply zk0|apply zk1|apply zk2|apply zk3|apply zk4|apply zk5|apply zk6|apply zk7|apply zk8|apply zk9) <;> intro hc)
  |(refine callP0 rfl ?_)
  |(refine callD0 rfl ?_)
  | fail)
 refine callHi rfl copyFresh_hi rfl rfl (hi_mk (small_mk rfl) rfl rfl rfl rfl rfl rfl) (by rintro r hl' ⟨rfl,rfl⟩;exact ⟨rfl,rfl⟩) rfl rfl ?_
 rintro r hl' ⟨rfl,rfl⟩
 dsimp only [bldE]
 refine srun_sound 9 _ _ _ _ ?_
 repeat' (first
  | (simp -implicitDefEqProofs only [*,mixH_at,zr,Nat.reduceAdd,Nat.reduceSub,Nat.reduceMul,Nat.reduceLT,Nat.reduceLeDiff,Nat.reduceEqDiff,Nat.reduceBEq,reduceIte,reduceCtorEq,Int.reduceLE,Int.reduceLT,Int.reduceToNat,Int.reduceEq,Int.reduceNe])
  | ((first|apply zk0|apply zk1|apply zk2|apply zk3|apply zk4|apply zk5|apply zk6|apply zk7|apply zk8|apply zk9) <;> intro hc)
  |(refine callP0 rfl ?_)
  |(refine callD0 rfl ?_)
  | fail)
 refine ax_bornTy 100002 rfl rfl h0 (by omega) (by decide) rfl ?_
 refine srun_sound 300 _ _ _ _ ?_
 repeat' (first
  | (simp -implicitDefEqProofs only [*,mixH_at,zr,Nat.reduceAdd,Nat.reduceSub,Nat.reduceMul,Nat.reduceLT,Nat.reduceLeDiff,Nat.reduceEqDiff,Nat.reduceBEq,reduceIte,reduceCtorEq,Int.reduceLE,Int.reduceLT,Int.reduceToNat,Int.reduceEq,Int.reduceNe])
  | ((first|apply zk0|apply zk1|apply zk2|apply zk3|apply zk4|apply zk5|apply zk6|apply zk7|apply zk8|apply zk9) <;> intro hc)
  |(refine callP0 rfl ?_)
  |(refine callD0 rfl ?_)
  | fail)
 refine ⟨bldH 1 s,⟨rfl,rfl⟩,hi_mk (small_upd rfl (small_upd rfl (small_mix (small_mk rfl)))) rfl rfl rfl rfl rfl rfl⟩
theorem write_hi (v : Nat) (y s : ByteArray) (h0 : 0 < y.size) (h1 : y.size + s.size ≤ 100000000000) : FHi Tryz.prog 13 [.ptr 100001 1 0,.f (.str s)] (bldH v y) (fun r hl' => r = .tup [.f (.int .i64 s.size),.f (.lit .nilIface)] ∧ hl' = bldH (v + 1) (y ++ s)) := by
 have hC := copyUsed_hi v y
 have hb := bldH_hi v y
 have hb2 : bldH (v + 1) (y ++ s) = [(100001,1,.cells [.ptr 100001 1 0,.sl 100002 (v + 1) 1 0 (y.size + s.size)]),(100002,v + 1,.ty (bytesL y ++ bytesL s) 5)] := by
  unfold bldH
  rw [bytesL_app,ByteArray.size_append]
 have hl := bytesL_len y
 rw [hb2]
 clear hb2
 dsimp only [bldH] at hC hb ⊢
 generalize bytesL y = Y at *
 refine FCall.of_ax low_strings_Builder_WriteString ?_
 dsimp only [l_strings_Builder_WriteString]
 refine srun_sound 300 _ _ _ _ ?_
 repeat' (first
  | (simp -implicitDefEqProofs only [*,zr,Nat.reduceAdd,Nat.reduceSub,Nat.reduceMul,Nat.reduceLT,Nat.reduceLeDiff,Nat.reduceEqDiff,Nat.reduceBEq,reduceIte,reduceCtorEq,Int.reduceLE,Int.reduceLT,Int.reduceToNat,Int.reduceEq,Int.reduceNe])
  | ((first|apply zk0|apply zk1|apply zk2|apply zk3|apply zk4|apply zk5|apply zk6|apply zk7|apply zk8|apply zk9) <;> intro hc)
  |(refine callP0 rfl ?_)
  |(refine callD0 rfl ?_)
  | fail)
 refine callHi rfl hC rfl rfl (hi_mk (small_mk rfl) rfl rfl rfl rfl rfl rfl) (by rintro r hl' ⟨rfl,rfl⟩;exact ⟨rfl,hb⟩) hb rfl ?_
 rintro r hl' ⟨rfl,rfl⟩
 clear hC hb
 refine srun_sound 9 _ _ _ _ ?_
 repeat' (first
  | (simp -implicitDefEqProofs only [*,mixH_at,zr,Nat.reduceAdd,Nat.reduceSub,Nat.reduceMul,Nat.reduceLT,Nat.reduceLeDiff,Nat.reduceEqDiff,Nat.reduceBEq,reduceIte,reduceCtorEq,Int.reduceLE,Int.reduceLT,Int.reduceToNat,Int.reduceEq,Int.reduceNe])
  | ((first|apply zk0|apply zk1|apply zk2|apply zk3|apply zk4|apply zk5|apply zk6|apply zk7|apply zk8|apply zk9) <;> intro hc)
  |(refine callP0 rfl ?_)
  |(refine callD0 rfl ?_)
  | fail)
 refine ax_appTy (id := 100002) (ver := v) (cs := Y) rfl rfl h0 rfl hl (by omega) (by decide) ?_
 refine srun_sound 300 _ _ _ _ ?_
 repeat' (first
  | (simp -implicitDefEqProofs only [*,mixH_at,zr,Nat.reduceAdd,Nat.reduceSub,Nat.reduceMul,Nat.reduceLT,Nat.reduceLeDiff,Nat.reduceEqDiff,Nat.reduceBEq,reduceIte,reduceCtorEq,Int.reduceLE,Int.reduceLT,Int.reduceToNat,Int.reduceEq,Int.reduceNe])
  | ((first|apply zk0|apply zk1|apply zk2|apply zk3|apply zk4|apply zk5|apply zk6|apply zk7|apply zk8|apply zk9) <;> intro hc)
  |(refine callP0 rfl ?_)
  |(refine callD0 rfl ?_)
  | fail)
 refine ⟨_,⟨rfl,rfl⟩,hi_mk (small_upd rfl (small_upd rfl (small_mix (small_mk rfl)))) rfl rfl rfl rfl rfl rfl⟩
theorem len_hi (v : Nat) (y : ByteArray) : FHi Tryz.prog 15 [.ptr 100001 1 0] (bldH v y) (fun r hl' => r = .f (.int .i64 y.size) ∧ hl' = bldH v y) := by
 dsimp only [bldH]
 generalize bytesL y = Y
 refine FCall.of_ax low_strings_Builder_Len ?_
 dsimp only [l_strings_Builder_Len]
 refine srun_sound 300 _ _ _ _ ?_
 repeat' (first
  | (simp -implicitDefEqProofs only [*,zr,Nat.reduceAdd,Nat.reduceSub,Nat.reduceMul,Nat.reduceLT,Nat.reduceLeDiff,Nat.reduceEqDiff,Nat.reduceBEq,reduceIte,reduceCtorEq,Int.reduceLE,Int.reduceLT,Int.reduceToNat,Int.reduceEq,Int.reduceNe])
  | ((first|apply zk0|apply zk1|apply zk2|apply zk3|apply zk4|apply zk5|apply zk6|apply zk7|apply zk8|apply zk9) <;> intro hc)
  |(refine callP0 rfl ?_)
  |(refine callD0 rfl ?_)
  | fail)
 refine ⟨_,⟨rfl,rfl⟩,hi_mk (small_mk rfl) rfl rfl rfl rfl rfl rfl⟩
def lnB (ws : List ByteArray) : ByteArray := joinW ws ++ ⟨#[10]⟩
theorem line_new (ws : List ByteArray) (hne : ws ≠ []) (hl : ws.length ≤ 100000000000) (hj : (joinW ws).size ≤ 10000000000) : FHi Tryz.prog 12 [.f (frStrs ws),.ptr 100001 1 0] bldN (fun r hl' => r = .tup [] ∧ hl' = bldH 1 (lnB ws)) := by
 have hJ := join_f ws hne (by omega) (by omega)
 have hsz : (lnB ws).size = (joinW ws).size + 1 := by unfold lnB;rw [ByteArray.size_append];rfl
 have hW := write_new (lnB ws) (by omega) (by omega)
 have hlb : joinW ws ++ (⟨#[10]⟩ : ByteArray) = lnB ws := rfl
 have hle : ((joinW ws).size + (⟨#[10]⟩ : ByteArray).size ≤ 9223372036854775807) = True := by rw [eq_iff_iff,iff_true];show (joinW ws).size + 1 ≤ _;omega
 have hb := bldH_hi 1 (lnB ws)
 generalize lnB ws = y at *
 generalize frStrs ws = fw at *
 refine FCall.of_ax low_cache_Text_c1 ?_
 dsimp only [l_cache_Text_c1]
 refine srun_sound 300 _ _ _ _ ?_
 repeat' (first
  | (simp -implicitDefEqProofs only [*,hlb,zr,Nat.reduceAdd,Nat.reduceSub,Nat.reduceMul,Nat.reduceLT,Nat.reduceLeDiff,Nat.reduceEqDiff,Nat.reduceBEq,reduceIte,reduceCtorEq,Int.reduceLE,Int.reduceLT,Int.reduceToNat,Int.reduceEq,Int.reduceNe])
  | ((first|apply zk0|apply zk1|apply zk2|apply zk3|apply zk4|apply zk5|apply zk6|apply zk7|apply zk8|apply zk9) <;> intro hc)
  |(refine callP0 rfl ?_)
  |(refine callD0 rfl ?_)
  |(refine cP (hJ) ?_)
  |(refine cD (hJ) ?_)
  |(refine cF (hJ) ?_)
  | fail)
 dsimp only [bldN]
 refine callHi rfl hW rfl rfl (hi_mk (small_mk rfl) rfl rfl rfl rfl rfl rfl) (by rintro r hl' ⟨rfl,rfl⟩;exact ⟨rfl,hb⟩) rfl rfl ?_
 rintro r hl' ⟨rfl,rfl⟩
 clear hW hb
 dsimp only [bldH]
 refine srun_sound 300 _ _ _ _ ?_
 repeat' (first
  | (simp -implicitDefEqProofs only [*,mixH_at,zr,Nat.reduceAdd,Nat.reduceSub,Nat.reduceMul,Nat.reduceLT,Nat.reduceLeDiff,Nat.reduceEqDiff,Nat.reduceBEq,reduceIte,reduceCtorEq,Int.reduceLE,Int.reduceLT,Int.reduceToNat,Int.reduceEq,Int.reduceNe])
  | ((first|apply zk0|apply zk1|apply zk2|apply zk3|apply zk4|apply zk5|apply zk6|apply zk7|apply zk8|apply zk9) <;> intro hc)
  |(refine callP0 rfl ?_)
  |(refine callD0 rfl ?_)
  | fail)
 refine ⟨_,⟨rfl,rfl⟩,hi_mk (small_mix (small_mk rfl)) rfl rfl rfl rfl rfl rfl⟩
theorem line_hi (v : Nat) (b : ByteArray) (ws : List ByteArray) (h0 : 0 < b.size) (hb1 : b.size ≤ 10000000000) (hne : ws ≠ []) (hl : ws.length ≤ 100000000000) (hj : (joinW ws).size ≤ 10000000000) : FHi Tryz.prog 12 [.f (frStrs ws),.ptr 100001 1 0] (bldH v b) (fun r hl' => r = .tup [] ∧ hl' = bldH (v + 1) (b ++ lnB ws)) := by
 have hJ := join_f ws hne (by omega) (by omega)
 have hsz : (lnB ws).size = (joinW ws).size + 1 := by unfold lnB;rw [ByteArray.size_append];rfl
 have hW := write_hi v b (lnB ws) h0 (by omega)
 have hlb : joinW ws ++ (⟨#[10]⟩ : ByteArray) = lnB ws := rfl
 have hle : ((joinW ws).size + (⟨#[10]⟩ : ByteArray).size ≤ 9223372036854775807) = True := by rw [eq_iff_iff,iff_true];show (joinW ws).size + 1 ≤ _;omega
 have hb := bldH_hi (v + 1) (b ++ lnB ws)
 have hb0 := bldH_hi v b
 generalize lnB ws = y at *
 generalize frStrs ws = fw at *
 generalize b ++ y = c at *
 refine FCall.of_ax low_cache_Text_c1 ?_
 dsimp only [l_cache_Text_c1,bldH] at hW hb0 ⊢
 refine srun_sound 300 _ _ _ _ ?_
 repeat' (first
  | (simp -implicitDefEqProofs only [*,hlb,zr,Nat.reduceAdd,Nat.reduceSub,Nat.reduceMul,Nat.reduceLT,Nat.reduceLeDiff,Nat.reduceEqDiff,Nat.reduceBEq,reduceIte,reduceCtorEq,Int.reduceLE,Int.reduceLT,Int.reduceToNat,Int.reduceEq,Int.reduceNe])
  | ((first|apply zk0|apply zk1|apply zk2|apply zk3|apply zk4|apply zk5|apply zk6|apply zk7|apply zk8|apply zk9) <;> intro hc)
  |(refine callP0 rfl ?_)
  |(refine callD0 rfl ?_)
  |(refine cP (hJ) ?_)
  |(refine cD (hJ) ?_)
  |(refine cF (hJ) ?_)
  | fail)
 refine callHi rfl hW rfl rfl (hi_mk (small_mk rfl) rfl rfl rfl rfl rfl rfl) (by rintro r hl' ⟨rfl,rfl⟩;exact ⟨rfl,hb⟩) hb0 rfl ?_
 rintro r hl' ⟨rfl,rfl⟩
 clear hW hb hb0
 refine srun_sound 300 _ _ _ _ ?_
 repeat' (first
  | (simp -implicitDefEqProofs only [*,mixH_at,zr,Nat.reduceAdd,Nat.reduceSub,Nat.reduceMul,Nat.reduceLT,Nat.reduceLeDiff,Nat.reduceEqDiff,Nat.reduceBEq,reduceIte,reduceCtorEq,Int.reduceLE,Int.reduceLT,Int.reduceToNat,Int.reduceEq,Int.reduceNe])
  | ((first|apply zk0|apply zk1|apply zk2|apply zk3|apply zk4|apply zk5|apply zk6|apply zk7|apply zk8|apply zk9) <;> intro hc)
  |(refine callP0 rfl ?_)
  |(refine callD0 rfl ?_)
  | fail)
 refine ⟨_,⟨rfl,rfl⟩,hi_mk (small_mix (small_mk rfl)) rfl rfl rfl rfl rfl rfl⟩
end Go.Proofs.YthniagdphhcnkaaGreatDoor
