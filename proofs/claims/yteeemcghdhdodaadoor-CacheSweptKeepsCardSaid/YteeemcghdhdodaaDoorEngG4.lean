/-
  The abstract machine: bytes and strings turned into one another. No statement of the seat is proved here; no conditions.
-/
import Derived.Test.YteeemcghdhdodaaDoorEngG3
import Derived.Laws.BytesString
import Derived.Lib.ConvBytes
namespace Go.Proofs.YteeemcghdhdodaaDoor
open Go.RowKit
set_option linter.unusedVariables false
set_option linter.unusedSimpArgs false

theorem u8_of (b : UInt8) : UInt8.ofNat ((b.toNat : Int)).toNat = b := by simp
theorem bytesV_enc (l : List UInt8) : bytesV (l.map encU).flatten = some l := by
  induction l with
  | nil => rfl
  | cons b l ih =>
    rw [List.map_cons, List.flatten_cons]
    show (match byteV (.int .u8 b.toNat), bytesV (l.map encU).flatten with
      | some b, some r => some (b :: r)
      | _, _ => none) = _
    rw [ih]
    simp [byteV]
theorem bytesFr_enc (l : List UInt8) : bytesFr (l.map encU) = some l := bytesV_enc l
theorem bytesA_f : ∀ l : List FV, bytesA (l.map .f) = bytesV l
  | [] => rfl
  | x :: l => by
    rw [List.map_cons, bytesA, bytesV, bytesA_f l]
theorem bytesA_enc (l : List UInt8) : bytesA ((l.map encU).flatten.map .f) = some l := by rw [bytesA_f, bytesV_enc]
section
variable {P : Program} {G : Ghost} {H : Heap} {Z : Nat → Prop} {w : World} {ρ : Operand → AV} {ρc : Operand → Value} {t : Nat} {o : Oper} {v : AV} {H' : Heap}
theorem isBytes_inv {ty : TypeId} (h : isBytes P ty = true) : ∃ e, P.underlying ty = some (.slice e) ∧ P.underlying e = some (.int .u8) := by
  unfold isBytes at h
  split at h
  · rename_i e he
    refine ⟨e, elemOf_inv he, ?_⟩
    have h1 : intKindOf? P e = some .u8 := by simpa using h
    unfold intKindOf? at h1
    split at h1
    · rename_i k hk; obtain rfl := Option.some.inj h1; exact hk
    · cases h1
  · cases h
theorem bytes_push : ∀ (l : List UInt8) (s : ByteArray), (l.map fun b => ((b.toNat : Nat) : Int)).foldl (fun r n => r.push (UInt8.ofNat n.toNat)) s = ⟨s.data ++ l.toArray⟩
  | [], s => by simp
  | b :: l, s => by
    rw [List.map_cons, List.foldl_cons, bytes_push l, u8_of]
    simp [ByteArray.push]
/-- What cells of bytes are. -/
theorem bytes_vals : ∀ (cs : List AV) (us : List Value) (l : List UInt8), bytesA cs = some l → us.length = cs.length → (∀ (i : Nat) (a : AV), cs[i]? = some a → ∃ u, us[i]? = some u ∧ RepA G Z w a u) → ∃ ns : List Int, us = ns.map (Value.int .u8) ∧ (ns.map fun n => UInt8.ofNat n.toNat) = l
  | [], us, l, h, hl, _ => by
    obtain rfl := Option.some.inj h
    have : us = [] := List.eq_nil_of_length_eq_zero hl
    exact ⟨[], by simp [this], rfl⟩
  | a :: cs, us, l, h, hl, hr => by
    cases us with
    | nil => simp at hl
    | cons u us =>
      cases a <;> try (simp [bytesA] at h; done)
      rename_i x
      rw [bytesA] at h
      split at h
      case h_2 => cases h
      rename_i b r h1 h2
      obtain rfl := Option.some.inj h
      obtain ⟨ns, g1, g2⟩ := bytes_vals cs us r h2 (by simpa using hl) (fun i a ha => hr (i + 1) a (by simpa using ha))
      unfold byteV at h1
      split at h1
      case h_2 => cases h1
      rename_i n
      obtain rfl := Option.some.inj h1
      obtain ⟨u', g3, g4⟩ := hr 0 _ rfl
      obtain rfl : u = u' := by simpa using g3
      exact ⟨n :: ns, by rw [List.map_cons, ← g1, g4.int_], by rw [List.map_cons, g2]⟩
theorem foldl_push : ∀ (ns : List Int) (s : ByteArray), ns.foldl (fun r n => r.push (UInt8.ofNat n.toNat)) s = ⟨s.data ++ (ns.map fun n => UInt8.ofNat n.toNat).toArray⟩
  | [], s => by simp
  | n :: ns, s => by
    rw [List.foldl_cons, foldl_push ns]
    simp [ByteArray.push]
theorem run_b2s_nil (A : Option Addr) (c : Nat) : (Conv.bytesToString (.slice A 0 c)).run P w = .ok (.string ⟨#[]⟩) w := by
  cases A with
  | none => simp [Conv.bytesToString, Sem.run_pure]; rfl
  | some a => exact run_bytesToString w a 0 c [] (run_loadCells_list w a [] (fun j v h => by simp at h))
theorem run_b2s (A : Option Addr) (c : Nat) {k : Nat} {cs : List AV} {l : List UInt8} (hk : k = cs.length) (hw : 0 < k → ∃ b o, A = some ⟨b, o, none⟩ ∧ Wnd (RepA G Z w) w b o cs) (hb : bytesA cs = some l) : (Conv.bytesToString (.slice A k c)).run P w = .ok (.string ⟨l.toArray⟩) w := by
  rcases Nat.eq_zero_or_pos k with h0 | h0
  · have : cs = [] := List.eq_nil_of_length_eq_zero (by omega)
    subst this
    obtain rfl := Option.some.inj hb
    rw [h0]
    exact run_b2s_nil A c
  · obtain ⟨b, o, rfl, hw2⟩ := hw h0
    obtain ⟨us, h3, h4, h5, h6⟩ := hw2.list
    obtain ⟨ns, g1, g2⟩ := bytes_vals (G := G) (Z := Z) (w := w) cs us l hb h3 (fun i a ha => by obtain ⟨u, e1, _, e2⟩ := h6 i a ha; exact ⟨u, e1, e2⟩)
    have h7 := run_bytesToString (P := P) w ⟨b, o, none⟩ us.length c ns (by
      rw [g1, List.length_map]
      have := run_loadCells_list (P := P) (w := w) ⟨b, o, none⟩ (ns.map (Value.int .u8)) (fun j v hj => by rw [← g1] at hj; rw [Addr.add_mid]; exact h4 j v hj)
      simpa using this)
    rw [h3, ← hk] at h7
    rw [h7, foldl_push, g2]
    simp
theorem ok_bytesStr (st : St P G H Z w) (hρ : ∀ x, RepA G Z w (ρ x) (ρc x)) (src dst e : TypeId) (x : Operand) (hs : P.underlying src = some (.slice e)) (he : P.underlying e = some (.int .u8)) (hd : P.underlying dst = some .string) (hx : (eff (.bytesStr x) ρ t).exec H = some (v, H')) (ho : o.op = .convert src dst x) : OpOk P (execOp ρc o) G H Z w v H' := by
  have ha := hρ x
  have fin : ∀ (A : Option Addr) (k c : Nat) (l : List UInt8), ρc x = .slice A k c → (Conv.bytesToString (.slice A k c)).run P w = .ok (.string ⟨l.toArray⟩) w → OpOk P (execOp ρc o) G H Z w (.f (.str ⟨l.toArray⟩)) H := fun A k c l h1 h2 => by
    refine OpOk.pure st (u := .string ⟨l.toArray⟩) ?_ (.f (.str _))
    have h3 := run_convert_bytes_string (P := P) w src dst e A k c hs he hd
    simp [execOp, ho, h1, h3, h2]
  simp only [eff] at hx
  split at hx
  · rename_i e1
    rw [e1] at ha
    obtain ⟨rfl, rfl⟩ := exec_pure hx
    obtain ⟨A, hv⟩ := ha.nil_
    exact fin A 0 0 [] hv (run_b2s_nil A 0)
  · rename_i sz l e1
    rw [e1] at ha
    split at hx
    case isFalse => cases hx
    rename_i hsz
    subst hsz
    split at hx
    case h_2 => cases hx
    rename_i s hs2
    obtain ⟨rfl, rfl⟩ := exec_pure hx
    obtain ⟨A, c, hv, h1, h2, hlen, hw⟩ := fr_wnd ha
    refine fin A l.length c s hv (run_b2s (G := G) (Z := Z) A c (cs := l.flatten.map .f) (by rw [List.length_map, flatten_len l hlen, Nat.mul_one]) (fun h0 => ?_) (by rw [bytesA_f]; exact hs2))
    obtain ⟨b, o', h3, _, h4⟩ := hw h0
    exact ⟨b, o', h3, h4⟩
  · rename_i id ver sz off n e1
    rw [e1] at ha
    split at hx
    case isFalse => cases hx
    rename_i hsz
    subst hsz
    obtain ⟨h1, rfl⟩ := exec_rd hx
    split at h1
    case h_2 => cases h1
    rename_i cs hcs
    split at h1
    case isFalse => cases h1
    rename_i hin
    split at h1
    case h_2 => cases h1
    rename_i s hs2
    obtain rfl := Option.some.inj h1
    obtain ⟨loc, hG, hob, hH⟩ := st.cells hcs
    rcases ha.sl_ hG with ⟨rfl, A, hv⟩ | ⟨g, o', c, rfl, hv, _⟩
    · rw [List.take_zero] at hs2
      obtain rfl := Option.some.inj hs2
      exact fin A 0 0 [] hv (run_b2s_nil A 0)
    · obtain ⟨arr, et, hh, hcc⟩ := hob
      have hw := ((Wnd.of_row hh hcc).drop off).take n
      refine fin _ n c s hv (run_b2s (G := G) (Z := Z) _ c (cs := (cs.drop off).take n) (by rw [List.length_take, List.length_drop]; omega) (fun h0 => ⟨g, o' + off * 1, rfl, by rw [Nat.mul_one]; exact hw⟩) hs2)
  · cases hx
/-- A new block that is frozen at once. -/
theorem St.newZ (st : St P G H Z w) {w' : World} (ho : Only w.heap.size w w') (hlt : w.heap.size < w'.heap.size) : St P G H (fun b => Z b ∨ b = w.heap.size) w' ∧ Step G Z w G (fun b => Z b ∨ b = w.heap.size) w' := by
  have hkeep : Keep G Z w G (fun b => Z b ∨ b = w.heap.size) w' := ⟨fun b hz => ⟨.inl hz, ho.same b (st.zlt b hz) (by have := st.zlt b hz; omega)⟩, fun _ => Nat.le_refl _, fun _ _ => .inr rfl, fun b arr e fz hl hh => ⟨arr, e, fz, by rw [ho.same b (heap_lt hh) (by have := heap_lt hh; omega)]; exact hh, rfl⟩⟩
  have hb : ∀ id b o, (G id).2 = some (some (b, o)) → w'.heap[b]? = w.heap[b]? := fun id b o h => ho.same b (st.glt _ _ _ h) (by have := st.glt _ _ _ h; omega)
  refine ⟨⟨st.ver, st.dead, fun id o h => ?_, st.inj, fun id g o h hz => ?_, fun b hz => ?_, fun id g o h => Nat.lt_of_lt_of_le (st.glt _ _ _ h) ho.size, fun id g o h => (st.ones _ _ _ h).same (hb _ _ _ h)⟩, ⟨hkeep, ho.os, ho.tape, ho.output, ho.size, fun b hb _ => ho.same b hb (by omega), fun b hz => ?_, fun b hl => .inl hl⟩⟩
  · obtain ⟨loc, h1, h2⟩ := st.obj id o h
    refine ⟨loc, h1, ?_⟩
    cases loc with
    | none => cases o <;> exact h2
    | some p =>
      obtain ⟨b, ob⟩ := p
      cases o with
      | cells cs =>
        obtain ⟨arr, e, h3, h4⟩ := h2
        exact ⟨arr, e, (hb _ _ _ h1).trans h3, h4.mono fun a v hr => hr.keep hkeep⟩
      | map m =>
        obtain ⟨h3, es, clock, h4, h5⟩ := h2
        exact ⟨h3, es, clock, (hb _ _ _ h1).trans h4, h5⟩
  · rcases hz with hz | hz
    · exact st.disj _ _ _ h hz
    · have := st.glt _ _ _ h; omega
  · rcases hz with hz | rfl
    · exact Nat.lt_of_lt_of_le (st.zlt b hz) ho.size
    · exact hlt
  · rcases hz with hz | rfl
    · exact .inl hz
    · exact .inr (.inr (Nat.le_refl _))
theorem ok_strBytes (st : St P G H Z w) (hρ : ∀ x, RepA G Z w (ρ x) (ρc x)) (src dst e : TypeId) (x : Operand) (hd : P.underlying dst = some (.slice e)) (he : P.underlying e = some (.int .u8)) (hs : P.underlying src = some .string) (hx : (eff (.strBytes x) ρ t).exec H = some (v, H')) (ho : o.op = .convert src dst x) : OpOk P (execOp ρc o) G H Z w v H' := by
  have ha := hρ x
  simp only [eff] at hx
  split at hx
  case h_2 => cases hx
  rename_i s e1
  rw [e1] at ha
  split at hx
  case isFalse => cases hx
  rename_i hsz
  obtain ⟨rfl, rfl⟩ := exec_pure hx
  have hv := ha.str_
  have hrun := Lib.run_convert_string_bytes (P := P) w src dst e s hs hd he
  have hO : Only w.heap.size w (Lib.bytesWorld w e s) := ⟨rfl, rfl, rfl, by rw [Lib.bytesWorld_size]; omega, fun b hb _ => Lib.bytesWorld_at_old w e s b hb, fun arr t' fz h => absurd (heap_lt h) (by omega)⟩
  obtain ⟨s1, s2⟩ := st.newZ hO (by rw [Lib.bytesWorld_size]; omega)
  refine ⟨G, _, _, .slice (some ⟨w.heap.size, 0, none⟩) s.size (grownCap w s.size 0 e), .inl (by simp [execOp, ho, hv, hrun]), s1, s2, .f ?_⟩
  have hlen : (s.data.toList.map encU).length = s.size := by simp
  rcases Nat.eq_zero_or_pos s.size with h0 | h0
  · have hl : s.data.toList = [] := List.eq_nil_of_length_eq_zero (by rw [Array.length_toList]; exact h0)
    rw [hl, h0]
    exact .frNil _ _ _ (grownCap_le_maxLen w 0 0 e (by unfold maxLen; omega))
  · have hfr := RepF.fr (Z := fun b => Z b ∨ b = w.heap.size) (w := Lib.bytesWorld w e s) 1 (s.data.toList.map encU) w.heap.size 0 (grownCap w s.size 0 e) (fun k _ => .int .u8 (s.data.toList.getD k 0).toNat)
      (by rw [hlen]; exact h0) (by rw [hlen]; exact grownCap_ge w s.size 0 e) (grownCap_le_maxLen w s.size 0 e (by unfold maxLen; omega)) (.inr rfl) (fun y hy => by
        obtain ⟨b, _, rfl⟩ := List.mem_map.1 hy; rfl)
      (fun k j hk hj => ⟨by
        rw [hlen] at hk
        have hj0 : j = 0 := by omega
        subst hj0
        have := Lib.bytesWorld_cell w e s k hk
        simpa using this, rfl⟩)
      (fun k j y a hk hj => by
        rw [List.getElem?_map] at hk
        obtain ⟨b, hb, rfl⟩ := Option.map_eq_some_iff.1 hk
        have hj0 : j = 0 := by
          have := (List.getElem?_eq_some_iff.1 hj).1
          simp [encU] at this; omega
        subst hj0
        obtain rfl := Option.some.inj hj
        rw [show s.data.toList.getD k 0 = b by rw [List.getD_eq_getElem?_getD, hb]; rfl]
        exact .int _ _)
    rw [hlen] at hfr
    exact hfr
theorem onesA_spec : ∀ {l : List AV} {r : List (List FV)}, onesA l = some r → l = r.flatten.map .f ∧ (∀ x ∈ r, x.length = 1) ∧ r.length = l.length
  | [], r, h => by obtain rfl := Option.some.inj h; exact ⟨rfl, by simp, rfl⟩
  | a :: l, r, h => by
    cases a <;> try (simp [onesA] at h; done)
    rename_i x
    rw [onesA] at h
    split at h
    case h_2 => cases h
    rename_i r' h1
    obtain rfl := Option.some.inj h
    obtain ⟨g1, g2, g3⟩ := onesA_spec h1
    refine ⟨by rw [List.flatten_cons, List.map_append, ← g1]; rfl, fun y hy => ?_, by simp [g3]⟩
    rcases List.mem_cons.1 hy with rfl | hy
    · rfl
    · exact g2 y hy
theorem ok_mark (st : St P G H Z w) (hρ : ∀ x, RepA G Z w (ρ x) (ρc x)) (src e : TypeId) (x : Operand) (hs : P.underlying src = some (.slice e)) (he : P.underlying e = some (.int .u8)) (hx : (eff (.mark x) ρ t).exec H = some (v, H')) (ho : o.op = .convert src src x) : OpOk P (execOp ρc o) G H Z w v H' := by
  have ha := hρ x
  simp only [eff] at hx
  split at hx
  case h_2 => cases hx
  rename_i id ver sz off n e1
  rw [e1] at ha
  split at hx
  case isFalse => cases hx
  rename_i hc
  obtain ⟨rfl, hn⟩ := hc
  obtain ⟨y, h1, rfl⟩ := exec_md hx
  split at h1
  case h_2 => cases h1
  rename_i cs hcs
  split at h1
  case isFalse => cases h1
  rename_i hin
  split at h1
  case h_2 => cases h1
  rename_i l hl
  simp only [Option.some.injEq, Prod.mk.injEq] at h1
  obtain ⟨rfl, rfl⟩ := h1
  obtain ⟨loc, hG, hob, hH⟩ := st.cells hcs
  rcases ha.sl_ hG with ⟨rfl, A, hv⟩ | ⟨g, o', c, rfl, hv, hnc, hcm, _⟩
  · exact absurd rfl hn
  obtain ⟨arr, et, hh, hcc⟩ := hob
  have hlt := heap_lt hh
  have hsh : w.shape? g = some (et, arr.size) := by simp [World.shape?, hh]
  have hO : Only g w (w.freeze ⟨g, arr.size, none⟩ 1) := by
    refine ⟨rfl, rfl, rfl, by simp [World.freeze], fun b _ hb => ?_, fun arr' e' fz' h => ?_⟩
    · simp [World.freeze, Array.getElem?_modify, Ne.symm hb]
    · rw [hh] at h
      simp only [Option.some.injEq, Obj.cells.injEq] at h
      obtain ⟨rfl, rfl, rfl⟩ := h
      exact ⟨arr, et, (arr.size, arr.size + 1), by simp [World.freeze, Array.getElem?_modify, hh], rfl⟩
  have hh' : (w.freeze ⟨g, arr.size, none⟩ 1).heap[g]? = some (.cells arr et (arr.size, arr.size + 1)) := by simp [World.freeze, Array.getElem?_modify, hh]
  have hGid : (G id).2 = some (some (g, o')) := by rw [hG]
  obtain ⟨s1, s2⟩ := st.change id g hO (ver, none) (ver, none) (.inr ⟨o', hGid⟩) (.inr fun _ h => by cases h) rfl (by rw [hH]; exact Nat.le_refl _) (fun _ => .inl rfl) (.inl rfl) (fun ⟨_, h⟩ => by cases h) (fun _ => rfl) (fun _ h => by cases h)
  have hdead : ∀ id' o2, (upd G id (ver, none) id').2 = some (some (g, o2)) → False := fun id' o2 h => by
    by_cases e : id' = id
    · subst e; rw [upd_same] at h; cases h
    · rw [upd_ne _ _ _ _ e] at h; exact e (st.inj _ _ _ _ _ h hGid)
  have hkz : ∀ {G1 : Ghost} {w1 : World} {G2 : Ghost} {w2 : World} {Z1 Z2 : Nat → Prop}, Keep G1 Z1 w1 G2 Z2 w2 → Keep G1 Z1 w1 G2 (fun b => Z2 b ∨ b = g) w2 := fun h => ⟨fun b hz => ⟨.inl (h.zin b hz).1, (h.zin b hz).2⟩, h.ver, h.same, h.room⟩
  have hkZ : Keep (upd G id (ver, none)) Z (w.freeze ⟨g, arr.size, none⟩ 1) (upd G id (ver, none)) (fun b => Z b ∨ b = g) (w.freeze ⟨g, arr.size, none⟩ 1) := hkz (Keep.refl _ _ _)
  have s1' : St P (upd G id (ver, none)) (upd H id (ver, none)) (fun b => Z b ∨ b = g) (w.freeze ⟨g, arr.size, none⟩ 1) := by
    refine ⟨s1.ver, s1.dead, fun id' ob h => ?_, s1.inj, fun id' b o2 h hz => ?_, fun b hz => ?_, s1.glt, s1.ones⟩
    · obtain ⟨loc, h1, h2⟩ := s1.obj id' ob h
      refine ⟨loc, h1, ?_⟩
      cases loc with
      | none => cases ob <;> exact h2
      | some p =>
        obtain ⟨b, o3⟩ := p
        cases ob with
        | cells cs =>
          obtain ⟨arr, e, h3, h4⟩ := h2
          exact ⟨arr, e, h3, h4.mono fun a v hr => hr.keep hkZ⟩
        | map m => exact h2
    · rcases hz with hz | rfl
      · exact s1.disj _ _ _ h hz
      · exact hdead _ _ h
    · rcases hz with hz | rfl
      · exact s1.zlt b hz
      · exact heap_lt hh'
  have s2' : Step G Z w (upd G id (ver, none)) (fun b => Z b ∨ b = g) (w.freeze ⟨g, arr.size, none⟩ 1) := ⟨hkz s2.toKeep, s2.os, s2.tape, s2.output, s2.size, s2.old, fun b hz => by
    rcases hz with hz | rfl
    · exact s2.zout b hz
    · exact .inr (.inl ⟨id, o', hGid⟩), s2.live⟩
  obtain ⟨g1, g2, g3⟩ := onesA_spec hl
  have hln : l.length = n := by rw [g3, List.length_take, List.length_drop]; omega
  have hrun : (convert src src (ρc x)).run P w = .ok (ρc x) (w.freeze ⟨g, arr.size, none⟩ 1) := by
    rw [hv]
    simp [convert, run_underlying hs, run_underlying he, markStringish, hsh, Result.andThen]
  refine ⟨_, _, _, ρc x, .inl (by simp [execOp, ho, hrun]), s1', s2', .f ?_⟩
  rw [hv]
  have hget : ∀ k, k < n → ∃ y u, l[k]? = some [y] ∧ arr[o' + (off + k)]? = some u ∧ u.oneCell' = true ∧ RepF Z w y u := fun k hk => by
    obtain ⟨z, hz⟩ : ∃ z, l[k]? = some z := ⟨_, List.getElem?_eq_getElem (by omega)⟩
    have hzl := g2 z (List.mem_of_getElem? hz)
    obtain ⟨y, rfl⟩ : ∃ y, z = [y] := by
      rcases z with _ | ⟨y, _ | ⟨y', z⟩⟩
      · simp at hzl
      · exact ⟨y, rfl⟩
      · simp at hzl
    have h2 : ∀ (l : List (List FV)) (k : Nat) (y : FV), (∀ x ∈ l, x.length = 1) → l[k]? = some [y] → l.flatten[k]? = some y := by
      intro l
      induction l with
      | nil => intro k y _ h; simp at h
      | cons z l ih =>
        intro k y hall h
        have hz1 := hall z (by simp)
        obtain ⟨q, rfl⟩ : ∃ q, z = [q] := by
          rcases z with _ | ⟨q, _ | ⟨q', z⟩⟩
          · simp at hz1
          · exact ⟨q, rfl⟩
          · simp at hz1
        cases k with
        | zero => simpa using h
        | succ k => simpa using ih k y (fun x hx => hall x (by simp [hx])) (by simpa using h)
    have h3 : ((cs.drop off).take n)[k]? = some (.f y) := by rw [g1, List.getElem?_map, h2 l k y g2 hz]; rfl
    rw [List.getElem?_take_of_lt hk, List.getElem?_drop] at h3
    obtain ⟨u, h4, h5, h6⟩ := hcc _ _ h3
    exact ⟨y, u, hz, h4, h5, h6.f_⟩
  have hkeepF : ∀ {y : FV} {u : Value}, RepF Z w y u → RepF (fun b => Z b ∨ b = g) (w.freeze ⟨g, arr.size, none⟩ 1) y u := fun h => h.keep s2'.zin
  have hfr := RepF.fr (Z := fun b => Z b ∨ b = g) (w := w.freeze ⟨g, arr.size, none⟩ 1) 1 l g (o' + off * 1) c (fun k _ => (arr[o' + (off + k)]?).getD undef)
    (by omega) (by omega) hcm (.inr rfl) g2
    (fun k j hk hj => by
      obtain ⟨y, u, h1, h2, h3, h4⟩ := hget k (by omega)
      have hj0 : j = 0 := by omega
      subst hj0
      rw [cell_of_row _ g _ arr et _ hh', show o' + off * 1 + k * 1 + 0 = o' + (off + k) by omega, h2]
      exact ⟨rfl, h3⟩)
    (fun k j z a hk hj => by
      obtain ⟨y, u, h1, h2, h3, h4⟩ := hget k (by have := (List.getElem?_eq_some_iff.1 hk).1; omega)
      rw [hk] at h1
      obtain rfl := Option.some.inj h1
      have hj0 : j = 0 := by have := (List.getElem?_eq_some_iff.1 hj).1; simp at this; omega
      subst hj0
      obtain rfl := Option.some.inj hj
      simp only [h2, Option.getD_some]
      exact hkeepF h4)
  rw [hln] at hfr
  exact hfr
end
end Go.Proofs.YteeemcghdhdodaaDoor
