/-
  The abstract machine: what a lowered operation does to an abstract state is what the operation does (part 2). No statement of the seat is proved here; no conditions.
-/
import Derived.Test.YtaiajaibcpkceaaDoorEngE
namespace Go.Proofs.YtaiajaibcpkceaaDoor
open Go.RowKit
set_option linter.unusedVariables false
set_option linter.unusedSimpArgs false

section
variable {P : Program} {G : Ghost} {H : Heap} {Z : Nat → Prop} {w : World} {ρ : Operand → AV} {ρc : Operand → Value} {t : Nat} {o : Oper} {v : AV} {H' : Heap}

theorem ok_store (st : St P G H Z w) (hρ : ∀ x, RepA G Z w (ρ x) (ρc x)) (ty : TypeId) (n : Nat) (a x : Operand) (hn : sizeOf? P ty = some n) (hx : (eff (.store n a x) ρ t).exec H = some (v, H')) (ho : o.op = .store ty a x) : OpOk P (execOp ρc o) G H Z w v H' := by
  have ha := hρ a
  have hv := hρ x
  simp only [eff] at hx
  split at hx
  · rename_i id ver off xs e e2
    rw [e] at ha
    obtain ⟨h1, h2, h3⟩ := hv.cellsN_ e2
    obtain ⟨y, h4, rfl⟩ := exec_md hx
    split at h4
    case h_2 => cases h4
    rename_i cs hcs
    split at h4
    case isFalse => cases h4
    rename_i hle
    simp only [Option.some.injEq, Prod.mk.injEq] at h4
    obtain ⟨rfl, rfl⟩ := h4
    obtain ⟨loc, hG, hob, hH⟩ := st.cells hcs
    obtain ⟨g, ob, rfl, hp⟩ := ha.ptr_ hG
    have hob2 := hob
    obtain ⟨arr, et, hh, hc⟩ := hob2
    have hl : (ρc x).cells.toList.length = xs.length := by rw [Array.length_toList]; omega
    obtain ⟨s1, s2⟩ := st.write (off := off) (vs := (ρc x).cells.toList) (xs := xs) hH hG hl (by omega) (fun j y hy => by
      obtain ⟨u, h5, h6, h7⟩ := h3 j y hy
      exact ⟨u, by rw [Array.getElem?_toList]; exact h5, h6, h7⟩)
    have hin : ∀ j, j < (ρc x).cells.toList.length → ∃ u, w.cell? ⟨g, ob + off + j, none⟩ = some u := fun j hj => by
      obtain ⟨u, hu, _⟩ := hc (off + j) _ (List.getElem?_eq_getElem (by omega))
      exact ⟨u, by rw [cell_of_row w g _ arr et (0, 0) hh, Nat.add_assoc]; exact hu⟩
    have hrun := run_storeCells_cells (P := P) g (ob + off) (ρc x).cells.toList 0 w (fun j hj => by
      obtain ⟨u, hu⟩ := hin j hj
      rw [Nat.add_zero, hu]; rfl) (fun j hj => by simp [World.frozen?, hh]) (fun u hu => by
      obtain ⟨j, hj⟩ := List.getElem?_of_mem hu
      have hlt := (List.getElem?_eq_some_iff.1 hj).1
      obtain ⟨u', h5, h6, _⟩ := h3 j _ (List.getElem?_eq_getElem (by omega))
      rw [Array.getElem?_toList] at hj
      rw [hj] at h5
      obtain rfl := Option.some.inj h5
      exact h6)
    simp only [Nat.add_zero] at hrun
    unfold sizeOf? at hn
    cases hi : P.info? ty with
    | none => rw [hi] at hn; cases hn
    | some i =>
      rw [hi] at hn
      have hsz : (ρc x).cells.size = i.size := by simp at hn; omega
      refine ⟨G, Z, _, undef, .inr ⟨?_, rfl⟩, s1, s2, .any _⟩
      simp [execOp, ho, Instr.storeAt, hp, Instr.sureAddr, storeVar, sizeOf, typeInfo, hi, hsz, hrun]
  · cases hx

theorem ba_toList (a : ByteArray) : a.toList = a.data.toList := by
  have key : ∀ (n i : Nat) (r : List UInt8), a.size - i = n → i ≤ a.size → ByteArray.toList.loop a i r = r.reverse ++ a.data.toList.drop i := by
    intro n
    induction n with
    | zero =>
      intro i r hn hi
      rw [ByteArray.toList.loop, if_neg (by omega), List.drop_of_length_le (by show a.data.toList.length ≤ i; rw [Array.length_toList]; show a.size ≤ i; omega), List.append_nil]
    | succ n ih =>
      intro i r hn hi
      have hlt : i < a.data.toList.length := by rw [Array.length_toList]; show i < a.size; omega
      rw [ByteArray.toList.loop, if_pos (by omega), ih (i + 1) _ (by omega) (by omega), List.reverse_cons, List.append_assoc, List.drop_eq_getElem_cons hlt]
      congr 1
      simp only [List.singleton_append]
      congr 1
      rw [Array.getElem_toList]
      show a.data[i]! = _
      exact getElem!_pos a.data i _
  have := key _ 0 [] rfl (Nat.zero_le _)
  unfold ByteArray.toList
  rw [this]; simp
theorem ba_eq (a b : ByteArray) : (a.toList == b.toList) = decide (a = b) := by
  rw [ba_toList, ba_toList, Bool.eq_iff_iff, beq_iff_eq, decide_eq_true_iff]
  constructor
  · intro h
    cases a; cases b
    congr 1
    exact Array.toList_inj.1 h
  · rintro rfl; rfl

theorem ok_bin (st : St P G H Z w) (hρ : ∀ x, RepA G Z w (ρ x) (ρc x)) (op : BinOp) (ty ty2 : TypeId) (x y : Operand) (hx : (eff (.bin op (isBoolT P ty) x y) ρ t).exec H = some (v, H')) (ho : o.op = .binOp op ty x y ty2) : OpOk P (execOp ρc o) G H Z w v H' := by
  have ha := hρ x
  have hb := hρ y
  simp only [eff] at hx
  split at hx
  case h_2 => cases hx
  rename_i a b e1 e2
  rw [e1] at ha; rw [e2] at hb
  split at hx
  case h_2 => cases hx
  rename_i c hc
  obtain ⟨rfl, rfl⟩ := exec_pure hx
  have key : ∀ u, (binOp op ty (ρc x) (ρc y)).run P w = .ok u w → (eqGuard op ty x y (ρc x) (ρc y)).run P w = .ok () w → (execOp ρc o).run P w = .ok (.value u) w := by
    intro u h1 h2
    simp [execOp, ho, h1, h2]
  cases a <;> cases b <;> simp only [binF] at hc <;> try cases hc
  · rename_i k m k' m'
    have e3 := ha.int_
    have e4 := hb.int_
    have hg : (eqGuard op ty x y (ρc x) (ρc y)).run P w = .ok () w := by
      rw [e3, e4]; cases op <;> simp [eqGuard]
    cases op <;> simp only at hc <;> (try cases hc) <;> split at hc <;> (try cases hc) <;> rename_i hk
    all_goals first
      | (refine OpOk.pure st (key _ ?_ hg) (.f (.int _ _)); rw [e3, e4])
      | (refine OpOk.pure st (key _ ?_ hg) (.f (.bool _)); rw [e3, e4])
    all_goals first
      | (subst hk; simp [binOp, Op.intArith, Op.intBits, Op.intCmp]; done)
      | (obtain ⟨rfl, hk⟩ := hk; simp [binOp, Op.intDiv, hk]; done)
      | (simp [binOp, Op.shift, show ¬ m' < 0 by omega]; done)
      | (subst hk; simp [binOp, Op.intCmp]; rw [Bool.eq_iff_iff]; simp; done)
      | skip
  · rename_i m m'
    have e3 := ha.bool_
    have e4 := hb.bool_
    have hu : ∀ r, (if isBoolT P ty = true then some r else none) = some c → P.underlying ty = some .bool ∧ r = c := by
      intro r h
      split at h
      · rename_i h1
        refine ⟨?_, Option.some.inj h⟩
        unfold isBoolT at h1
        split at h1
        · assumption
        · cases h1
      · cases h
    have hg : (eqGuard op ty x y (ρc x) (ρc y)).run P w = .ok () w := by
      rw [e3, e4]; cases op <;> simp [eqGuard]
    cases op <;> simp only at hc <;> try cases hc
    all_goals
      obtain ⟨h1, rfl⟩ := hu _ hc
      refine OpOk.pure st (key _ ?_ hg) (.f (.bool _))
      rw [e3, e4]
      simp [binOp, run_equal_bool (P := P) (w := w) ty m m' h1]
  · rename_i m m'
    have e3 := ha.str_
    have e4 := hb.str_
    have hg : (eqGuard op ty x y (ρc x) (ρc y)).run P w = .ok () w := by
      rw [e3, e4]; cases op <;> simp [eqGuard]
    cases op <;> simp only at hc <;> try cases hc
    case add =>
      split at hc
      · rename_i hle
        obtain rfl := Option.some.inj hc
        refine OpOk.pure st (key _ ?_ hg) (.f (.str _))
        rw [e3, e4]
        have : ¬ ((m.size : Int) + (m'.size : Int) > IntKind.i64.max) := by simp [IntKind.max, IntKind.signed, IntKind.bits]; omega
        simp [binOp, Op.stringOp, this]
        omega
      · cases hc
    all_goals
      refine OpOk.pure st (key _ ?_ hg) (.f (.bool _))
      rw [e3, e4]
      simp [binOp, Op.stringOp, ba_eq, strLt]

theorem ok_un (st : St P G H Z w) (hρ : ∀ x, RepA G Z w (ρ x) (ρc x)) (op : UnOp) (ty : TypeId) (x : Operand) (hx : (eff (.un op x) ρ t).exec H = some (v, H')) (ho : o.op = .unOp op ty x) : OpOk P (execOp ρc o) G H Z w v H' := by
  have ha := hρ x
  simp only [eff] at hx
  split at hx
  case h_2 => cases hx
  rename_i a e1
  rw [e1] at ha
  split at hx
  case h_2 => cases hx
  rename_i c hc
  obtain ⟨rfl, rfl⟩ := exec_pure hx
  cases a <;> simp only [unF] at hc <;> try cases hc
  · cases op <;> simp only at hc <;> try cases hc
    refine OpOk.pure st (u := .int _ _) ?_ (.f (.int _ _))
    simp [execOp, ho, ha.int_, Op.unary, Op.intArith]
  · cases op <;> simp only at hc <;> try cases hc
    refine OpOk.pure st (u := .bool _) ?_ (.f (.bool _))
    simp [execOp, ho, ha.bool_, Op.unary]
  · cases op <;> simp only at hc <;> try cases hc
    obtain ⟨b, hb⟩ := ha.bit_
    refine OpOk.pure st (u := .bool (!b)) ?_ (.f (.bit _))
    simp [execOp, ho, hb, Op.unary]

theorem nilOf_inv {op : BinOp} {ty : TypeId} {x y : Operand} {lo : LOp} (h : nilOf? P op ty x y = some lo) : ∃ neg, op = (if neg = true then .neq else .eql) ∧
    ((lo = .isNil false neg x ∧ y = .const (.slice none 0 0) ∧ ∃ e, P.underlying ty = some (.slice e)) ∨ (lo = .isNil true neg x ∧ y = .const (.pointer none) ∧ ∃ e, P.underlying ty = some (.pointer e))) := by
  have hs : (elemOf? P ty).isSome = true → ∃ e, P.underlying ty = some (.slice e) := by
    intro h
    unfold elemOf? at h
    split at h
    · exact ⟨_, by assumption⟩
    · cases h
  have hp : isPtr P ty = true → ∃ e, P.underlying ty = some (.pointer e) := by
    intro h
    unfold isPtr at h
    split at h
    · exact ⟨_, by assumption⟩
    · cases h
  unfold nilOf? at h
  split at h
  case h_5 => cases h
  all_goals
    split at h
    case isFalse => cases h
    rename_i hc
    obtain rfl := Option.some.inj h
  · exact ⟨false, rfl, .inl ⟨rfl, rfl, hs hc⟩⟩
  · exact ⟨true, rfl, .inl ⟨rfl, rfl, hs hc⟩⟩
  · exact ⟨false, rfl, .inr ⟨rfl, rfl, hp hc⟩⟩
  · exact ⟨true, rfl, .inr ⟨rfl, rfl, hp hc⟩⟩
theorem ok_isNil (st : St P G H Z w) (hρ : ∀ x, RepA G Z w (ρ x) (ρc x)) (hk : ∀ u, ρc (.const u) = u) (op : BinOp) (ty ty2 : TypeId) (x y : Operand) {lo : LOp} (hn : nilOf? P op ty x y = some lo) (hx : (eff lo ρ t).exec H = some (v, H')) (ho : o.op = .binOp op ty x y ty2) : OpOk P (execOp ρc o) G H Z w v H' := by
  obtain ⟨neg, hop, hy⟩ := nilOf_inv hn
  have hr := hρ x
  rcases hy with ⟨rfl, hy, e0, he0⟩ | ⟨rfl, hy, e0, he0⟩
  · have sli : ∀ A n c, ρc x = .slice A n c → (execOp ρc o).run P w = .ok (.value (.bool (if neg = true then !A.isNone else A.isNone))) w := by
      intro A n c hu
      have he1 : ∀ d, (Op.equalIn (d + 1) ty (.slice A n c) (.slice none 0 0)).run P w = .ok A.isNone w := fun d => by cases A <;> simp [Op.equalIn, run_underlying he0]
      have he : (Op.equal ty (.slice A n c) (.slice none 0 0)).run P w = .ok A.isNone w := by simp only [Op.equal, Op.maxDepth]; exact he1 9999
      have hc : ρc y = .slice none 0 0 := by rw [hy, hk]
      subst hop
      cases neg <;> simp [execOp, ho, hu, hc, eqGuard, binOp, he]
    simp only [eff] at hx
    split at hx
    · rename_i e
      obtain ⟨rfl, rfl⟩ := exec_pure hx
      rw [e] at hr
      obtain ⟨A, hA⟩ := hr.nil_
      exact OpOk.pure st (sli _ _ _ hA) (.f (.bit _))
    · rename_i sz l e
      obtain ⟨rfl, rfl⟩ := exec_pure hx
      rw [e] at hr
      obtain ⟨A, c, hA, _, _, h4⟩ := hr.fr_
      refine OpOk.pure st (sli _ _ _ hA) ?_
      split
      · exact .f (.bit _)
      · rename_i hl
        obtain ⟨b, o', rfl, _⟩ := h4 (by omega)
        cases neg <;> exact .f (.bool _)
    · rename_i id ver sz off n e
      obtain ⟨h1, rfl⟩ := exec_rd hx
      split at h1
      case isFalse => cases h1
      rename_i ha
      obtain rfl := Option.some.inj h1
      rw [e] at hr
      obtain ⟨loc, hG⟩ := st.alive ha
      rcases hr.sl_ hG with ⟨rfl, A, hA⟩ | ⟨g, o', c, _, hA, _⟩
      · exact OpOk.pure st (sli _ _ _ hA) (.f (.bit _))
      · refine OpOk.pure st (sli _ _ _ hA) ?_
        split
        · exact .f (.bit _)
        · cases neg <;> exact .f (.bool _)
    · cases hx
  · have poi : ∀ A, ρc x = .pointer (some A) → (execOp ρc o).run P w = .ok (.value (.bool neg)) w := by
      intro A hu
      have he1 : ∀ d, (Op.equalIn (d + 1) ty (.pointer (some A)) (.pointer none)).run P w = .ok false w := fun d => by simp [Op.equalIn, run_underlying he0]
      have he : (Op.equal ty (.pointer (some A)) (.pointer none)).run P w = .ok false w := by simp only [Op.equal, Op.maxDepth]; exact he1 9999
      have hc : ρc y = .pointer none := by rw [hy, hk]
      subst hop
      cases neg <;> simp [execOp, ho, hu, hc, eqGuard, binOp, he]
    simp only [eff] at hx
    split at hx
    · rename_i cs e
      obtain ⟨rfl, rfl⟩ := exec_pure hx
      rw [e] at hr
      obtain ⟨b, o', us, hp, _⟩ := hr.fp_
      exact OpOk.pure st (poi _ hp) (.f (.bool _))
    · rename_i id ver off e
      obtain ⟨h1, rfl⟩ := exec_rd hx
      split at h1
      case isFalse => cases h1
      rename_i ha
      obtain rfl := Option.some.inj h1
      rw [e] at hr
      obtain ⟨loc, hG⟩ := st.alive ha
      obtain ⟨g, o', _, h2⟩ := hr.ptr_ hG
      exact OpOk.pure st (poi _ h2) (.f (.bool _))
    · cases hx

theorem eqOf_inv {op : BinOp} {ty : TypeId} {x y : Operand} {lo : LOp} (h : eqOf? P op ty x y = some lo) : ∃ (fs : Array Field) (ks : List Nat) (neg : Bool), lo = .eqS ks neg x y ∧ op = (if neg = true then .neq else .eql) ∧ P.underlying ty = some (.struct fs) ∧ P.stoodInHeld ty = false ∧ P.eqGuardType P.depth ty = false ∧ kindsOf? P fs.toList 0 = some ks := by
  unfold eqOf? at h
  split at h
  case h_2 => cases h
  rename_i fs hu
  split at h
  case isFalse => cases h
  rename_i hc
  split at h
  case h_2 => cases h
  rename_i ks hks
  split at h
  · obtain rfl := Option.some.inj h
    exact ⟨fs, ks, false, rfl, rfl, hu, hc.1, hc.2, hks⟩
  · obtain rfl := Option.some.inj h
    exact ⟨fs, ks, true, rfl, rfl, hu, hc.1, hc.2, hks⟩
  · cases h
theorem run_part1 {e : TypeId} {k : Nat} (he : kindOf? P e = some k) {xs : Array Value} {off : Nat} {v : Value} (hx : xs[off]? = some v) : (part e xs off).run P w = .ok v w := by
  unfold kindOf? at he
  split at he
  case h_4 => cases he
  all_goals
    rename_i hu
    have hx' : (xs[off]?).isSome := by rw [hx]; rfl
    simp [part, isAgg, run_underlying hu, hx]
theorem eqV_ok {k : Nat} {x y : FV} {b : Bool} {e : TypeId} {u v : Value} (d : Nat) (hk : kindOf? P e = some k) (h : eqV k x y = some b) (hx : RepA G Z w (.f x) u) (hy : RepA G Z w (.f y) v) : (Op.equalIn (d + 1) e u v).run P w = .ok b w := by
  unfold kindOf? at hk
  split at hk
  case h_4 => cases hk
  all_goals
    rename_i hu
    obtain rfl := Option.some.inj hk
  · cases x <;> cases y <;> simp only [eqV] at h <;> try cases h
    split at h
    case isFalse => cases h
    rename_i hkk
    subst hkk
    obtain rfl := Option.some.inj h
    rw [hx.int_, hy.int_, run_equalIn_int w d e _ _ _ _ hu]
    rfl
  · cases x <;> cases y <;> simp only [eqV] at h <;> try cases h
    rw [hx.bool_, hy.bool_, run_equalIn_bool' w d e _ _ hu]
  · cases x <;> cases y <;> simp only [eqV] at h <;> try cases h
    rw [hx.str_, hy.str_, run_equalIn_string w d e _ _ hu, ba_eq]
theorem eqL_ok (d : Nat) (us vs : Array Value) : ∀ (fs : List Field) (k : Nat) (ks : List Nat) (xs ys : List AV) (b : Bool), kindsOf? P fs k = some ks → eqL ks xs ys = some b →
    (∀ (j : Nat) (a : AV), xs[j]? = some a → ∃ u, us[k + j]? = some u ∧ RepA G Z w a u) → (∀ (j : Nat) (a : AV), ys[j]? = some a → ∃ u, vs[k + j]? = some u ∧ RepA G Z w a u) → (Op.eqFields (d + 1) us vs fs).run P w = .ok b w
  | [], k, ks, xs, ys, b, hk, h, hx, hy => by
    simp only [kindsOf?, Option.some.injEq] at hk
    subst hk
    cases xs <;> cases ys <;> simp only [eqL] at h <;> try cases h
    simp [Op.eqFields]
  | f :: fs, k, ks, xs, ys, b, hk, h, hx, hy => by
    simp only [kindsOf?] at hk
    split at hk
    case isFalse => cases hk
    rename_i hc
    split at hk
    case h_2 => cases hk
    rename_i a l ha hl
    obtain rfl := Option.some.inj hk
    rcases xs with _ | ⟨x, xs⟩ <;> rcases ys with _ | ⟨y, ys⟩ <;> try (first | (simp only [eqL] at h; done) | (simp only [eqL] at h; cases h; done) | (cases x <;> simp [eqL] at h; done))
    cases x <;> try (first | (simp [eqL] at h; done))
    cases y <;> try (first | (simp [eqL] at h; done))
    rename_i x y
    simp only [eqL] at h
    split at h
    case h_2 => cases h
    rename_i b1 b2 e1 e2
    obtain rfl := Option.some.inj h
    obtain ⟨u, hu, hru⟩ := hx 0 _ rfl
    obtain ⟨v, hv, hrv⟩ := hy 0 _ rfl
    rw [Nat.add_zero] at hu hv
    have ih := eqL_ok d us vs fs (k + 1) l xs ys b2 hl e2 (fun j a hj => by
      obtain ⟨u, h1, h2⟩ := hx (j + 1) a (by simpa using hj)
      exact ⟨u, by rw [show k + 1 + j = k + (j + 1) by omega]; exact h1, h2⟩) (fun j a hj => by
      obtain ⟨u, h1, h2⟩ := hy (j + 1) a (by simpa using hj)
      exact ⟨u, by rw [show k + 1 + j = k + (j + 1) by omega]; exact h1, h2⟩)
    have he := eqV_ok (P := P) d ha e1 hru hrv
    simp only [Op.eqFields, ne_eq, hc.1, not_false_eq_true, if_true, Sem.run_bind, hc.2, run_part1 ha hu, run_part1 ha hv, Result.andThen_ok, he]
    cases b1
    · simp
    · simpa using ih
theorem ok_eqS (st : St P G H Z w) (hρ : ∀ x, RepA G Z w (ρ x) (ρc x)) (op : BinOp) (ty ty2 : TypeId) (x y : Operand) {lo : LOp} (hn : eqOf? P op ty x y = some lo) (hx : (eff lo ρ t).exec H = some (v, H')) (ho : o.op = .binOp op ty x y ty2) : OpOk P (execOp ρc o) G H Z w v H' := by
  obtain ⟨fs, ks, neg, rfl, hop, hu, hsi, hg, hks⟩ := eqOf_inv hn
  have h1 := hρ x
  have h2 := hρ y
  simp only [eff] at hx
  split at hx
  case h_2 => cases hx
  rename_i xs ys e1 e2
  rw [e1] at h1; rw [e2] at h2
  split at hx
  case h_2 => cases hx
  rename_i b hb
  obtain ⟨rfl, rfl⟩ := exec_pure hx
  obtain ⟨us, hus, hs1, _, hr1⟩ := h1.agg_
  obtain ⟨vs, hvs, hs2, _, hr2⟩ := h2.agg_
  have at_ : ∀ {l : List AV} {us : Array Value}, us.size = l.length → (∀ (j : Nat) (a : AV) (u : Value), l[j]? = some a → us[j]? = some u → RepA G Z w a u) → ∀ (j : Nat) (a : AV), l[j]? = some a → ∃ u, us[0 + j]? = some u ∧ RepA G Z w a u := by
    intro l us hs hr j a ha
    have hj := (List.getElem?_eq_some_iff.1 ha).1
    have hj' : us[j]? = some (us[j]'(by omega)) := Array.getElem?_eq_getElem (by omega)
    exact ⟨_, by rw [Nat.zero_add]; exact hj', hr j a _ ha hj'⟩
  have hfo : P.fieldsOf ty = fs := by simp [Program.fieldsOf, hu]
  have he : (Op.equalIn 10000 ty (.agg us) (.agg vs)).run P w = .ok b w := by
    rw [run_equalIn_agg w 9999 ty us vs (by rw [hfo]; exact hu) hsi, hfo]
    exact eqL_ok 9998 us vs fs.toList 0 ks xs ys b hks hb (at_ hs1 hr1) (at_ hs2 hr2)
  have hgd := run_eqGuard_agg (P := P) w op ty x y us vs hg
  refine OpOk.pure st (u := .bool (b != neg)) ?_ (.f (.bool _))
  subst hop
  cases neg
  · simp only [Bool.false_eq_true, if_false] at hgd ⊢ ho
    have h3 := run_eql_struct (P := P) w ty us vs
    rw [he] at h3
    simp [execOp, ho, hus, hvs, hgd, h3]
  · simp only [if_true] at hgd ⊢ ho
    have h3 := run_neq_struct (P := P) w ty us vs
    rw [he] at h3
    simp [execOp, ho, hus, hvs, hgd, h3]

theorem ok_convInt (st : St P G H Z w) (hρ : ∀ x, RepA G Z w (ρ x) (ρc x)) (src dst : TypeId) (k k2 : IntKind) (x : Operand) (hd : P.underlying dst = some (.int k)) (hs : P.underlying src = some (.int k2)) (hx : (eff (.convInt k x) ρ t).exec H = some (v, H')) (ho : o.op = .convert src dst x) : OpOk P (execOp ρc o) G H Z w v H' := by
  have ha := hρ x
  simp only [eff] at hx
  split at hx
  case h_2 => cases hx
  rename_i k' n e1
  rw [e1] at ha
  obtain ⟨rfl, rfl⟩ := exec_pure hx
  refine OpOk.pure st (u := .int _ _) ?_ (.f (.int _ _))
  simp [execOp, ho, ha.int_, convert, run_underlying hd, run_underlying hs, Conv.intToInt]
theorem ok_convStr (st : St P G H Z w) (hρ : ∀ x, RepA G Z w (ρ x) (ρc x)) (src dst : TypeId) (x : Operand) (hd : P.underlying dst = some .string) (hs : P.underlying src = some .string) (hx : (eff (.convStr x) ρ t).exec H = some (v, H')) (ho : o.op = .convert src dst x) : OpOk P (execOp ρc o) G H Z w v H' := by
  have ha := hρ x
  simp only [eff] at hx
  split at hx
  case h_2 => cases hx
  rename_i s e1
  rw [e1] at ha
  obtain ⟨rfl, rfl⟩ := exec_pure hx
  refine OpOk.pure st (u := .string _) ?_ (.f (.str _))
  simp [execOp, ho, ha.str_, convert, run_underlying hd, run_underlying hs]

theorem ok_clo (st : St P G H Z w) (hρ : ∀ x, RepA G Z w (ρ x) (ρc x)) (f : Fn) (first caps : Array Operand) (hf : first.isEmpty = true) (hx : (eff (.clo f caps.toList) ρ t).exec H = some (v, H')) (ho : o.op = .makeFunc f first caps) : OpOk P (execOp ρc o) G H Z w v H' := by
  have hfe : first = #[] := by simpa using hf
  subst hfe
  have hrun : (execOp ρc o).run P w = .ok (.value (.func f #[] (caps.map ρc))) w := by simp [execOp, ho, Instr.makeFunc]
  simp only [eff] at hx
  split at hx
  · rename_i e
    obtain ⟨rfl, rfl⟩ := exec_pure hx
    have : caps = #[] := by simpa using e
    subst this
    exact OpOk.pure st (by simpa using hrun) (.f (.fn f))
  · obtain ⟨rfl, rfl⟩ := exec_pure hx
    refine OpOk.pure st hrun (.clo f _ _ (by simp) fun j a u ha hu => ?_)
    rw [List.getElem?_map] at ha
    rw [Array.getElem?_map] at hu
    obtain ⟨y, hy, rfl⟩ := Option.map_eq_some_iff.1 ha
    rw [Array.getElem?_toList] at hy
    rw [hy] at hu
    obtain rfl := Option.some.inj hu
    exact hρ y

theorem ok_fieldAddr (st : St P G H Z w) (hρ : ∀ x, RepA G Z w (ρ x) (ρc x)) (s : TypeId) (f : Field) (i n : Nat) (x : Operand) (hf : fieldOf? P s i = some f) (hn : sizeOf? P f.type = some n) (h0 : n ≠ 0) (hx : (eff (.fieldAddr f.offset x) ρ t).exec H = some (v, H')) (ho : o.op = .fieldAddr s x i) : OpOk P (execOp ρc o) G H Z w v H' := by
  have ha := hρ x
  have key : ∀ b o', ρc x = .pointer (some ⟨b, o', none⟩) → (execOp ρc o).run P w = .ok (.value (.pointer (some ⟨b, o' + f.offset, none⟩))) w := by
    intro b o' hp
    unfold fieldOf? at hf
    split at hf
    case h_2 => cases hf
    rename_i fs hu
    unfold sizeOf? at hn
    cases hi : P.info? f.type with
    | none => rw [hi] at hn; cases hn
    | some inf =>
      rw [hi] at hn
      have hsz : inf.size ≠ 0 := by simp at hn; omega
      simp [execOp, ho, Instr.fieldAt, run_underlying hu, hf, hp, Instr.sureAddr, fieldPlace, sizeOf, typeInfo, hi, hsz, Addr.add_mid]
  simp only [eff] at hx
  split at hx
  · rename_i cs e
    split at hx
    case isFalse => cases hx
    rename_i hle
    obtain ⟨rfl, rfl⟩ := exec_pure hx
    rw [e] at ha
    obtain ⟨b, o', us, hp, hz, hc, hc2⟩ := ha.fp_
    refine OpOk.pure st (key b o' hp) (.f (.fp _ b _ (fun j => us (f.offset + j)) hz (fun j hj => ?_) fun j a hj => ?_))
    · rw [List.length_drop] at hj
      rw [Nat.add_assoc]; exact hc _ (by omega)
    · rw [List.getElem?_drop] at hj
      exact hc2 _ a hj
  · rename_i id ver off e
    rw [e] at ha
    obtain ⟨h1, rfl⟩ := exec_rd hx
    split at h1
    case isFalse => cases h1
    rename_i hal
    obtain rfl := Option.some.inj h1
    obtain ⟨loc, hG⟩ := st.alive hal
    obtain ⟨g, o', rfl, hp⟩ := ha.ptr_ hG
    refine OpOk.pure st (key _ _ hp) ?_
    rw [Nat.add_assoc]
    exact .ptrLive _ _ _ g o' hG
  · cases hx

theorem ok_field (st : St P G H Z w) (hρ : ∀ x, RepA G Z w (ρ x) (ρc x)) (s : TypeId) (f : Field) (i : Nat) (n : Option Nat) (x : Operand) (hf : fieldOf? P s i = some f) (hn : rowOf P f.type = some n) (hx : (eff (.field f.offset n x) ρ t).exec H = some (v, H')) (ho : o.op = .field s x i) : OpOk P (execOp ρc o) G H Z w v H' := by
  have ha := hρ x
  unfold fieldOf? at hf
  split at hf
  case h_2 => cases hf
  rename_i fs hu
  unfold rowOf at hn
  split at hn
  case h_2 => cases hn
  rename_i d inf hd hi
  have hagg : (isAgg f.type).run P w = .ok d.isRow w := by
    cases d <;> simp [isAgg, run_underlying hd, TypeDesc.isRow]
  simp only [eff] at hx
  split at hx
  case h_2 => cases hx
  rename_i cs e
  rw [e] at ha
  obtain ⟨us, hv, h1, h2, h3⟩ := ha.agg_
  split at hx
  · split at hx
    case h_2 => cases hx
    rename_i a hj
    obtain ⟨rfl, rfl⟩ := exec_pure hx
    have hr : d.isRow = false := by revert hn; cases d.isRow <;> simp
    have hlt : f.offset < us.size := by have := (List.getElem?_eq_some_iff.1 hj).1; omega
    have hu' : us[f.offset]? = some us[f.offset] := Array.getElem?_eq_getElem hlt
    refine OpOk.pure st (u := us[f.offset]) ?_ (h3 _ _ _ hj hu')
    rw [hr] at hagg
    simp [execOp, ho, Instr.field, run_underlying hu, hf, hv, asAgg, part, hagg, hu']
  · rename_i _ n
    split at hx
    case isFalse => cases hx
    rename_i hle
    obtain ⟨rfl, rfl⟩ := exec_pure hx
    have hr : d.isRow = true ∧ inf.size = n := by revert hn; cases d.isRow <;> simp
    rw [hr.1] at hagg
    refine OpOk.pure st (u := .agg (us.extract f.offset (f.offset + n))) ?_ (.agg _ _ (by simp; omega) (fun j u hu' => ?_) fun j a u hj hu' => ?_)
    · simp [execOp, ho, Instr.field, run_underlying hu, hf, hv, asAgg, part, hagg, sizeOf, typeInfo, hi, hr.2]
    · exact h2 (f.offset + j) u (by
        rw [Array.getElem?_extract] at hu'
        split at hu'
        · exact hu'
        · cases hu')
    · have hlt : j < n := by
        have := (List.getElem?_eq_some_iff.1 hj).1
        simp at this; omega
      rw [List.getElem?_take_of_lt hlt, List.getElem?_drop] at hj
      refine h3 (f.offset + j) a u hj ?_
      rw [Array.getElem?_extract] at hu'
      split at hu'
      · exact hu'
      · cases hu'

theorem ok_indexAddr (st : St P G H Z w) (hρ : ∀ x, RepA G Z w (ρ x) (ρc x)) (ty e : TypeId) (sz : Nat) (x ix : Operand) (he : P.underlying ty = some (.slice e)) (hs : sizeOf? P e = some sz) (hx : (eff (.indexAddr sz x ix) ρ t).exec H = some (v, H')) (ho : o.op = .indexAddr ty x ix) : OpOk P (execOp ρc o) G H Z w v H' := by
  have ha := hρ x
  have hi := hρ ix
  unfold sizeOf? at hs
  cases hinf : P.info? e with
  | none => rw [hinf] at hs; cases hs
  | some inf =>
  rw [hinf] at hs
  have hsz : inf.size = sz := by simpa using hs
  have key : ∀ b o' n c k (i : Int), ρc x = .slice (some ⟨b, o', none⟩) n c → ρc ix = .int k i → 0 ≤ i → i < n → (execOp ρc o).run P w = .ok (.value (.pointer (some ⟨b, o' + i.toNat * sz, none⟩))) w := by
    intro b o' n c k i hp hq h0 h1
    simp [execOp, ho, Instr.indexAt, hp, hq, asIntOf, run_underlying he, h0, h1, sizeOf, typeInfo, hinf, hsz, Addr.add_mid]
  simp only [eff] at hx
  split at hx
  · rename_i sz' l i e1 e2
    rw [e1] at ha
    obtain ⟨k, hq⟩ := hi.toI_ e2
    split at hx
    case isFalse => cases hx
    rename_i hc
    obtain ⟨rfl, h0⟩ := hc
    split at hx
    case h_2 => cases hx
    rename_i cs hl
    obtain ⟨rfl, rfl⟩ := exec_pure hx
    have hlt := (List.getElem?_eq_some_iff.1 hl).1
    obtain ⟨vx, hvx⟩ : ∃ vx, ρc x = vx := ⟨_, rfl⟩
    rw [hvx] at ha
    cases ha.f_ with
    | frNil => simp at hl
    | fr _ _ b o' c us h1 h2 h3 hb hlen hcell hrep =>
      refine OpOk.pure st (key b o' _ c k i hvx hq h0 (by omega)) (.f (.fp _ b _ (us i.toNat) hb (fun j hj => ?_) fun j a hj => hrep i.toNat j cs a hl hj))
      exact hcell i.toNat j hlt (by rw [← hlen cs (List.mem_of_getElem? hl)]; exact hj)
  · rename_i id ver sz' off n i e1 e2
    rw [e1] at ha
    obtain ⟨k, hq⟩ := hi.toI_ e2
    split at hx
    case isFalse => cases hx
    rename_i hc
    obtain ⟨rfl, h0, h1⟩ := hc
    obtain ⟨h2, rfl⟩ := exec_rd hx
    split at h2
    case isFalse => cases h2
    rename_i hal
    obtain rfl := Option.some.inj h2
    obtain ⟨loc, hG⟩ := st.alive hal
    rcases ha.sl_ hG with ⟨h3, _⟩ | ⟨g, o', c, rfl, hp, _⟩
    · omega
    · refine OpOk.pure st (key _ _ _ _ _ _ hp hq h0 h1) ?_
      rw [Nat.add_assoc, ← Nat.add_mul]
      exact .ptrLive _ _ _ g o' hG
  · cases hx

theorem ok_indexS (st : St P G H Z w) (hρ : ∀ x, RepA G Z w (ρ x) (ρc x)) (ty : TypeId) (x ix : Operand) (he : P.underlying ty = some .string) (hx : (eff (.indexS x ix) ρ t).exec H = some (v, H')) (ho : o.op = .index ty x ix) : OpOk P (execOp ρc o) G H Z w v H' := by
  have ha := hρ x
  have hi := hρ ix
  simp only [eff] at hx
  split at hx
  case h_2 => cases hx
  rename_i s i e1 e2
  rw [e1] at ha
  obtain ⟨k, hq⟩ := hi.toI_ e2
  split at hx
  case isFalse => cases hx
  rename_i h0
  split at hx
  case h_2 => cases hx
  rename_i b hb
  obtain ⟨rfl, rfl⟩ := exec_pure hx
  have hb' : s[i.toNat]? = some b := by
    rw [Array.getElem?_toList] at hb
    obtain ⟨h1, h2⟩ := Array.getElem?_eq_some_iff.1 hb
    have h1' : i.toNat < s.size := h1
    rw [getElem?_pos s i.toNat h1']
    exact congrArg some h2
  refine OpOk.pure st (u := .int .u8 b.toNat) ?_ (.f (.int _ _))
  simp [execOp, ho, Instr.index, ha.str_, hq, asIntOf, run_underlying he, h0, hb']

theorem ok_extract (st : St P G H Z w) (hρ : ∀ x, RepA G Z w (ρ x) (ρc x)) (i : Nat) (x : Operand) (hx : (eff (.extract x i) ρ t).exec H = some (v, H')) (ho : o.op = .extract x i) : OpOk P (execOp ρc o) G H Z w v H' := by
  have ha := hρ x
  simp only [eff] at hx
  split at hx
  case h_2 => cases hx
  rename_i vs e
  rw [e] at ha
  split at hx
  case h_2 => cases hx
  rename_i a hj
  obtain ⟨rfl, rfl⟩ := exec_pure hx
  obtain ⟨us, hv, h1, h3⟩ := ha.tup_
  have hlt : i < us.size := by have := (List.getElem?_eq_some_iff.1 hj).1; omega
  have hu' : us[i]? = some us[i] := Array.getElem?_eq_getElem hlt
  refine OpOk.pure st (u := us[i]) ?_ (h3 _ _ _ hj hu')
  simp [execOp, ho, Instr.extract, hv, hu']

theorem ok_len (st : St P G H Z w) (hρ : ∀ x, RepA G Z w (ρ x) (ρc x)) (str : Bool) (x : Operand) (ty : TypeId) (hty : if str = true then P.underlying ty = some .string else ∃ e, P.underlying ty = some (.slice e)) (hx : (eff (.len str x) ρ t).exec H = some (v, H')) (c : Call) (ho : o.op = .call c) (hc : c.callee = .builtin .len) (hargs : c.args = #[x]) (hat : c.argTypes = #[ty]) :
    OpOk P (execOp ρc o) G H Z w v H' := by
  have ha := hρ x
  have key : ∀ n : Nat, ((∃ s : ByteArray, ρc x = .string s ∧ s.size = n ∧ P.underlying ty = some .string) ∨ ∃ A c', ρc x = .slice A n c' ∧ ∃ e, P.underlying ty = some (.slice e)) → (execOp ρc o).run P w = .ok (.value (.int .i64 n)) w := by
    rintro n (⟨s, h1, rfl, h2⟩ | ⟨A, c', h1, e, h2⟩)
    · simp [execOp, ho, resolve, hc, hargs, hat, invoke, builtin, Builtin.len_, run_underlying h2, h1, goInt]
    · simp [execOp, ho, resolve, hc, hargs, hat, invoke, builtin, Builtin.len_, run_underlying h2, h1, goInt]
  simp only [eff] at hx
  split at hx
  · rename_i s e
    split at hx
    case isFalse => cases hx
    rename_i hs
    rw [if_pos hs] at hty
    obtain ⟨rfl, rfl⟩ := exec_pure hx
    rw [e] at ha
    exact OpOk.pure st (key s.size (.inl ⟨s, ha.str_, rfl, hty⟩)) (.f (.int _ _))
  · rename_i e
    split at hx
    case isFalse => cases hx
    rename_i hs
    rw [if_neg (by simp [hs])] at hty
    obtain ⟨rfl, rfl⟩ := exec_pure hx
    rw [e] at ha
    obtain ⟨A, hv⟩ := ha.nil_
    exact OpOk.pure st (key 0 (.inr ⟨A, 0, hv, hty⟩)) (.f (.int _ _))
  · rename_i sz l e
    split at hx
    case isFalse => cases hx
    rename_i hs
    rw [if_neg (by simp [hs])] at hty
    obtain ⟨rfl, rfl⟩ := exec_pure hx
    rw [e] at ha
    obtain ⟨A, c', hv, _⟩ := ha.fr_
    exact OpOk.pure st (key l.length (.inr ⟨A, c', hv, hty⟩)) (.f (.int _ _))
  · rename_i id ver sz off n e
    split at hx
    case isFalse => cases hx
    rename_i hs
    rw [if_neg (by simp [hs])] at hty
    rw [e] at ha
    obtain ⟨h1, rfl⟩ := exec_rd hx
    split at h1
    case isFalse => cases h1
    rename_i hal
    obtain rfl := Option.some.inj h1
    obtain ⟨loc, hG⟩ := st.alive hal
    rcases ha.sl_ hG with ⟨h3, A, hp⟩ | ⟨g, o', c', rfl, hp, _⟩
    · subst h3; exact OpOk.pure st (key 0 (.inr ⟨A, 0, hp, hty⟩)) (.f (.int _ _))
    · exact OpOk.pure st (key n (.inr ⟨_, _, hp, hty⟩)) (.f (.int _ _))
  · cases hx

theorem run_max2 (k : IntKind) (x y : Int) (ts : Array TypeId) (ty : TypeId) : Sem.run P (Builtin.max_ ts ty #[.int k x, .int k y]) w = .ok (.int k (max x y)) w := by
  simp only [Builtin.max_, List.foldlM, Builtin.max2, Sem.run_pure, Sem.run_bind, Result.andThen_ok, pure_bind]
  congr 2
  simp only [Int.max_def]; split <;> split <;> omega
end
end Go.Proofs.YtaiajaibcpkceaaDoor
