/-
  The abstract machine: what a lowered operation does to an abstract state is what the operation does (part 3: rows, append). No statement of the seat is proved here; no conditions.
-/
import Derived.Test.YtaiajaibcpkceaaDoorEngF
import Derived.Deep.Upon
namespace Go.Proofs.YtaiajaibcpkceaaDoor
open Go.RowKit
set_option linter.unusedVariables false
set_option linter.unusedSimpArgs false

theorem exists_list {R : Nat → Value → Prop} : ∀ n : Nat, (∀ i, i < n → ∃ u, R i u) → ∃ us : List Value, us.length = n ∧ ∀ i, i < n → ∃ u, us[i]? = some u ∧ R i u
  | 0, _ => ⟨[], rfl, fun i h => absurd h (by omega)⟩
  | n + 1, h => by
    obtain ⟨us, h1, h2⟩ := exists_list n (fun i hi => h i (by omega))
    obtain ⟨u, hu⟩ := h n (by omega)
    refine ⟨us ++ [u], by simp [h1], fun i hi => ?_⟩
    rcases Nat.lt_or_ge i n with h' | h'
    · obtain ⟨u', h6, h7⟩ := h2 i h'
      exact ⟨u', by rw [List.getElem?_append_left (by omega)]; exact h6, h7⟩
    · obtain rfl : i = n := by omega
      exact ⟨u, by rw [List.getElem?_append_right (by omega)]; simp [h1], hu⟩

/-- Cells of a block, from an offset on, and what they stand for. -/
def Wnd (R : AV → Value → Prop) (w : World) (b o : Nat) (cs : List AV) : Prop := ∀ i a, cs[i]? = some a → ∃ u, w.cell? ⟨b, o + i, none⟩ = some u ∧ u.oneCell' = true ∧ R a u
theorem Wnd.list {R : AV → Value → Prop} {w : World} {b o : Nat} {cs : List AV} (h : Wnd R w b o cs) :
    ∃ us : List Value, us.length = cs.length ∧ w.rangeAt b o us ∧ (∀ u ∈ us, u.oneCell' = true) ∧ ∀ (i : Nat) (a : AV), cs[i]? = some a → ∃ u, us[i]? = some u ∧ u.oneCell' = true ∧ R a u := by
  obtain ⟨us, h1, h2⟩ := exists_list (R := fun i u => w.cell? ⟨b, o + i, none⟩ = some u ∧ u.oneCell' = true ∧ ∀ a, cs[i]? = some a → R a u) cs.length (fun i hi => by
    obtain ⟨u, h3, h4, h5⟩ := h i _ (List.getElem?_eq_getElem hi)
    exact ⟨u, h3, h4, fun a ha => by rw [List.getElem?_eq_getElem hi] at ha; obtain rfl := Option.some.inj ha; exact h5⟩)
  refine ⟨us, h1, fun j u hu => ?_, fun u hu => ?_, fun i a ha => ?_⟩
  · have hj := (List.getElem?_eq_some_iff.1 hu).1
    obtain ⟨u', h3, h4, _⟩ := h2 j (by omega)
    rw [hu] at h3; obtain rfl := Option.some.inj h3
    exact h4
  · obtain ⟨j, hj⟩ := List.getElem?_of_mem hu
    have hlt := (List.getElem?_eq_some_iff.1 hj).1
    obtain ⟨u', h3, _, h4, _⟩ := h2 j (by omega)
    rw [hj] at h3; obtain rfl := Option.some.inj h3
    exact h4
  · obtain ⟨u, h3, _, h4, h5⟩ := h2 i (List.getElem?_eq_some_iff.1 ha).1
    exact ⟨u, h3, h4, h5 a ha⟩
theorem Wnd.of_row {R : AV → Value → Prop} {w : World} {g o : Nat} {arr : Array Value} {e : TypeId} {fz : Nat × Nat} {cs : List AV} (hh : w.heap[g]? = some (.cells arr e fz)) (hc : CellsR R arr o cs) : Wnd R w g o cs := fun i a ha => by
  obtain ⟨u, h2, h3, h4⟩ := hc i a ha
  exact ⟨u, by rw [cell_of_row w g _ arr e fz hh]; exact h2, h3, h4⟩
theorem Wnd.drop {R : AV → Value → Prop} {w : World} {b o : Nat} {cs : List AV} (h : Wnd R w b o cs) (k : Nat) : Wnd R w b (o + k) (cs.drop k) := fun i a ha => by
  rw [List.getElem?_drop] at ha
  rw [Nat.add_assoc]; exact h (k + i) a ha
theorem Wnd.take {R : AV → Value → Prop} {w : World} {b o : Nat} {cs : List AV} (h : Wnd R w b o cs) (k : Nat) : Wnd R w b o (cs.take k) := fun i a ha => by
  rw [List.getElem?_take] at ha
  split at ha
  · exact h i a ha
  · cases ha

theorem flatten_get {α : Type} {sz : Nat} : ∀ (l : List (List α)), (∀ x ∈ l, x.length = sz) → ∀ (i : Nat) (a : α), l.flatten[i]? = some a → ∃ k j x, l[k]? = some x ∧ x[j]? = some a ∧ i = k * sz + j ∧ j < sz
  | [], _, i, a, h => by simp at h
  | y :: l, hl, i, a, h => by
    have hy := hl y (by simp)
    rw [List.flatten_cons] at h
    by_cases hi : i < sz
    · rw [List.getElem?_append_left (by omega)] at h
      exact ⟨0, i, y, rfl, h, by omega, hi⟩
    · rw [List.getElem?_append_right (by omega), hy] at h
      obtain ⟨k, j, x, h1, h2, h3, h4⟩ := flatten_get l (fun x hx => hl x (by simp [hx])) _ a h
      exact ⟨k + 1, j, x, by simpa using h1, h2, by rw [Nat.succ_mul]; omega, h4⟩
theorem flatten_len {α : Type} {sz : Nat} : ∀ (l : List (List α)), (∀ x ∈ l, x.length = sz) → l.flatten.length = l.length * sz
  | [], _ => by simp
  | y :: l, hl => by
    rw [List.flatten_cons, List.length_append, hl y (by simp), flatten_len l (fun x hx => hl x (by simp [hx])), List.length_cons, Nat.succ_mul]; omega

section
variable {P : Program} {G : Ghost} {H : Heap} {Z : Nat → Prop} {w : World} {ρ : Operand → AV} {ρc : Operand → Value} {t : Nat} {o : Oper} {v : AV} {H' : Heap}

theorem fr_wnd {sz : Nat} {l : List (List FV)} {v : Value} (h : RepA G Z w (.f (.fr sz l)) v) : ∃ A c, v = .slice A l.length c ∧ l.length ≤ c ∧ c ≤ maxLen ∧ (∀ x ∈ l, x.length = sz) ∧ (0 < l.length → ∃ b o, A = some ⟨b, o, none⟩ ∧ Z b ∧ Wnd (RepA G Z w) w b o (l.flatten.map .f)) := by
  cases h.f_ with
  | frNil _ A c hc => exact ⟨A, c, rfl, by simp, hc, by simp, fun h => absurd h (by simp)⟩
  | fr _ _ b o c us h0 h1 h2 hb hlen hcell hrep =>
    refine ⟨_, c, rfl, h1, h2, hlen, fun _ => ⟨b, o, rfl, hb, fun i a ha => ?_⟩⟩
    rw [List.getElem?_map] at ha
    obtain ⟨x, hx, rfl⟩ := Option.map_eq_some_iff.1 ha
    obtain ⟨k, j, y, h3, h4, rfl, h5⟩ := flatten_get l hlen i x hx
    have hk := (List.getElem?_eq_some_iff.1 h3).1
    obtain ⟨h6, h7⟩ := hcell k j hk h5
    exact ⟨us k j, by rw [← Nat.add_assoc]; exact h6, h7, .f (hrep k j y x h3 h4)⟩

/-- A source of cells, in this world. -/
def SrcA (P : Program) (G : Ghost) (Z : Nat → Prop) (w : World) (sz : Nat) (tx : TypeId) (xv : Value) (m : Nat) (news : List AV) : Prop :=
  ∃ us : List Value, Src P sz tx xv m us w ∧ us.length = news.length ∧ ∀ (i : Nat) (a : AV), news[i]? = some a → ∃ u, us[i]? = some u ∧ u.oneCell' = true ∧ RepA G Z w a u
theorem SrcA.len {sz : Nat} {tx : TypeId} {xv : Value} {m : Nat} {news : List AV} (h : SrcA P G Z w sz tx xv m news) : news.length = m * sz := by
  obtain ⟨us, h1, h2, _⟩ := h
  rw [← h2]; exact h1.newsLen
theorem Src.any0 {size : Nat} {tx e' : TypeId} (hk : P.underlying tx = some (.slice e')) (A : Option Addr) (c : Nat) : Src P size tx (.slice A 0 c) 0 [] w := by
  cases A with
  | none => exact Src.ofNil w hk c
  | some a => exact Src.ofSlice w hk a 0 c [] (by simp) (fun j u h => by simp at h) (fun u h => by cases h)
theorem srcF_ok {str : Bool} {sz : Nat} {tx : TypeId} {a : AV} {xv : Value} {m : Nat} {news : List AV} (h : srcF str sz a = some (m, news)) (hr : RepA G Z w a xv)
    (hty : if str = true then P.underlying tx = some .string else ∃ e, P.underlying tx = some (.slice e)) : SrcA P G Z w sz tx xv m news := by
  unfold srcF at h
  split at h
  · split at h
    case isFalse => cases h
    rename_i hs
    rw [if_neg (by simp [hs])] at hty
    simp only [Option.some.injEq, Prod.mk.injEq] at h
    obtain ⟨rfl, rfl⟩ := h
    obtain ⟨A, rfl⟩ := hr.nil_
    obtain ⟨e, he⟩ := hty
    exact ⟨[], Src.any0 he A 0, rfl, fun i a h => by simp at h⟩
  · rename_i sz' l
    split at h
    case isFalse => cases h
    rename_i hs
    obtain ⟨hs0, rfl⟩ := hs
    rw [if_neg (by simp [hs0])] at hty
    simp only [Option.some.injEq, Prod.mk.injEq] at h
    obtain ⟨rfl, rfl⟩ := h
    obtain ⟨A, c, rfl, h1, h2, hlen, hw⟩ := fr_wnd hr
    obtain ⟨e, he⟩ := hty
    rcases Nat.eq_zero_or_pos l.length with h0 | h0
    · have : l = [] := List.eq_nil_of_length_eq_zero h0
      subst this
      exact ⟨[], Src.any0 he A c, rfl, fun i a h => by simp at h⟩
    · obtain ⟨b, o', rfl, hb, hw⟩ := hw h0
      obtain ⟨us, h3, h4, h5, h6⟩ := hw.list
      refine ⟨us, Src.ofSlice w he _ _ _ us (by rw [h3, List.length_map, flatten_len l hlen]) (fun j u hu => by rw [Addr.add_mid]; exact h4 j u hu) h5, h3, h6⟩
  · rename_i s
    split at h
    case isFalse => cases h
    rename_i hs
    obtain ⟨hs0, rfl⟩ := hs
    rw [if_pos hs0] at hty
    simp only [Option.some.injEq, Prod.mk.injEq] at h
    obtain ⟨rfl, rfl⟩ := h
    obtain rfl := hr.str_
    refine ⟨byteCells s, Src.ofString w hty s, by simp [byteCells, bytesL], fun i a ha => ?_⟩
    unfold bytesL at ha
    rw [List.getElem?_map] at ha
    obtain ⟨x, hx, rfl⟩ := Option.map_eq_some_iff.1 ha
    exact ⟨.int .u8 x.toNat, by rw [byteCells, List.getElem?_map, hx]; rfl, rfl, .f (.int _ _)⟩
  · cases h
theorem sl_src (st : St P G H Z w) {id ver sz off n : Nat} {cs : List AV} {tx : TypeId} {xv : Value} (hr : RepA G Z w (.sl id ver sz off n) xv) (hc : cellsOf ver (H id) = some cs) (hin : (off + n) * sz ≤ cs.length)
    (hsl : ∃ e, P.underlying tx = some (.slice e)) : SrcA P G Z w sz tx xv n ((cs.drop (off * sz)).take (n * sz)) := by
  obtain ⟨e, he⟩ := hsl
  obtain ⟨loc, hG, hob, hH⟩ := st.cells hc
  rcases hr.sl_ hG with ⟨rfl, A, rfl⟩ | ⟨g, o', c, rfl, rfl, _⟩
  · exact ⟨[], Src.any0 he A 0, by simp, fun i a h => by simp at h⟩
  · obtain ⟨arr, et, hh, hcc⟩ := hob
    have hw := ((Wnd.of_row hh hcc).drop (off * sz)).take (n * sz)
    obtain ⟨us, h3, h4, h5, h6⟩ := hw.list
    have hl : us.length = n * sz := by rw [h3, List.length_take, List.length_drop]; rw [Nat.add_mul] at hin; omega
    exact ⟨us, Src.ofSlice w he _ _ _ us hl (fun j u hu => by rw [Addr.add_mid]; exact h4 j u hu) h5, h3, h6⟩

theorem ones_zeros {z : Array Value} {n : Nat} (h : z.toList.all (·.oneCell') = true) (i : Nat) (v : Value) (hv : (Builtin.zeroCells z n)[i]? = some v) : v.oneCell' = true := by
  unfold Builtin.zeroCells at hv
  rw [Array.getElem?_map] at hv
  obtain ⟨k, hk, rfl⟩ := Option.map_eq_some_iff.1 hv
  have hlt := (Array.getElem?_eq_some_iff.1 hk).1
  have hpos : 0 < z.size := by
    rcases Nat.eq_zero_or_pos z.size with h0 | h0
    · rw [h0] at hlt; simp at hlt
    · exact h0
  have hm : k % z.size < z.size := Nat.mod_lt _ hpos
  rw [getElem!_pos z _ hm]
  exact List.all_eq_true.1 h _ (by simp)
theorem ones_grow {os us : List Value} {z : Array Value} {k : Nat} (h1 : ∀ u ∈ os, u.oneCell' = true) (h2 : ∀ u ∈ us, u.oneCell' = true) (h3 : z.toList.all (·.oneCell') = true) : OnesA ((os ++ us).toArray ++ Builtin.zeroCells z k) := fun i v hv => by
  rcases Nat.lt_or_ge i (os ++ us).toArray.size with hi | hi
  · rw [Array.getElem?_append_left hi] at hv
    rw [List.getElem?_toArray] at hv
    rcases List.mem_append.1 (List.mem_of_getElem? hv) with h | h
    · exact h1 v h
    · exact h2 v h
  · rw [Array.getElem?_append_right hi] at hv
    exact ones_zeros h3 _ v hv
theorem ones_made {z : Array Value} {k : Nat} (h : z.toList.all (·.oneCell') = true) : OnesA (madeCells z k) := fun i v hv => by
  unfold madeCells at hv
  rw [Array.getElem?_map] at hv
  obtain ⟨j, hj, rfl⟩ := Option.map_eq_some_iff.1 hv
  by_cases hz : 0 < z.size
  · rw [getElem!_pos z _ (Nat.mod_lt _ hz)]
    exact List.all_eq_true.1 h _ (by simp)
  · have e : z = #[] := Array.eq_empty_of_size_eq_zero (by omega)
    subst e; rfl
/-- A new row for object id, under a new version. -/
theorem St.newAt (st : St P G H Z w) {id ver' : Nat} (hlt : (H id).1 < ver') {arr : Array Value} {e : TypeId} {cs : List AV} (hc : CellsR (RepA G Z w) arr 0 cs) (hon : OnesA arr) :
    St P (upd G id (ver', some (some (w.heap.size, 0)))) (upd H id (ver', some (.cells cs))) Z (w.drew.alloc (.cells arr e)) ∧ Step G Z w (upd G id (ver', some (some (w.heap.size, 0)))) Z (w.drew.alloc (.cells arr e)) := by
  refine st.change id w.heap.size ((Only.drew _ w).trans (Only.alloc w.drew _)) _ _ (.inl rfl) (.inl (by simp)) rfl (Nat.le_of_lt hlt) (fun h => ?_) (.inr (.inr ⟨0, rfl⟩)) (fun _ => ones_new w.drew hon) (fun h => by cases h) fun o ho => ⟨_, rfl, fun hk => ?_⟩
  · exact absurd h (by simp only; omega)
  · obtain rfl := Option.some.inj ho
    exact ⟨arr, e, heap_alloc_new w.drew _, hc.mono fun a v hr => hr.keep hk⟩
theorem St.virtAt (st : St P G H Z w) {id ver' : Nat} (hlt : (H id).1 < ver') :
    St P (upd G id (ver', some none)) (upd H id (ver', some (.cells []))) Z w ∧ Step G Z w (upd G id (ver', some none)) Z w := by
  refine st.change id w.heap.size (Only.refl _ w) _ _ (.inl rfl) (.inr fun o h => by cases h) rfl (Nat.le_of_lt hlt) (fun h => ?_) (.inr (.inl rfl)) (fun ⟨_, h⟩ => by cases h) (fun h => by cases h) fun o ho => ⟨_, rfl, fun hk => ?_⟩
  · exact absurd h (by simp only; omega)
  · obtain rfl := Option.some.inj ho
    rfl

def AppOk (P : Program) (s : Sem Value) (G : Ghost) (H : Heap) (Z : Nat → Prop) (w : World) (v : AV) (H' : Heap) : Prop :=
  ∃ G' w' u, s.run P w = .ok u w' ∧ St P G' H' Z w' ∧ Step G Z w G' Z w' ∧ RepA G' Z w' v u

section app
variable {ty tx tt e : TypeId} {i : TypeInfo} {z : Value} {sz bytes : Nat}
/-- It grows: a new row. -/
theorem app_grow (st : St P G H Z w) (ht : P.underlying ty = some (.slice e)) (hi : P.info? e = some i) (hz : i.zero = some z) (hsz : i.size = sz) (hzs : z.cells.size = sz) (hzo : z.cells.toList.all (·.oneCell') = true) (hby : i.bytes = bytes) (hpos : sz ≠ 0)
    {id ver' : Nat} (hlt : (H id).1 < ver') {A : Option Addr} {n c : Nat} {olds : List AV} (holds : olds.length = n * sz)
    (hbase : (n = 0) ∨ ∃ b o, A = some ⟨b, o, none⟩ ∧ Wnd (RepA G Z w) w b o olds) {xv : Value} {m : Nat} {news : List AV} (hs : SrcA P G Z w sz tx xv m news)
    (hc : c < n + m) (hnc : n ≤ c) (hb : (n + m) * bytes ≤ 140737488355328) (hml : n + m ≤ maxLen) :
    AppOk P (Builtin.append_ #[ty, tx] tt #[.slice A n c, xv]) G H Z w (.sl id ver' sz 0 (n + m)) (upd H id (ver', some (.cells (olds ++ news)))) := by
  obtain ⟨us, hsrc, hul, hus⟩ := hs
  subst hsz
  obtain ⟨os, hos1, hos2, hos3⟩ : ∃ os : List Value, os.length = n * i.size ∧ (Builtin.firstCells i.size n (.slice A n c)).run P w.drew = .ok os.toArray w.drew ∧ ∀ (j : Nat) (a : AV), olds[j]? = some a → ∃ u, os[j]? = some u ∧ u.oneCell' = true ∧ RepA G Z w a u := by
    rcases hbase with rfl | ⟨b, o, rfl, hw⟩
    · refine ⟨[], by simp, ?_, fun j a ha => ?_⟩
      · cases A with
        | none => exact run_firstCells_none w.drew i.size 0 0 c
        | some a => exact run_firstCells_some w.drew i.size 0 a 0 c [] (by simp) (fun j u h => by simp at h)
      · have : olds = [] := List.eq_nil_of_length_eq_zero (by simpa using holds)
        subst this; simp at ha
    · obtain ⟨os, h3, h4, h5, h6⟩ := hw.list
      exact ⟨os, by omega, run_firstCells_some w.drew i.size n _ n c os (by omega) (fun j u hu => by rw [Addr.add_mid]; simpa using h4 j u hu), h6⟩
  have h63 : ((n + m : Nat) : Int) ≤ 9223372036854775807 := by unfold maxLen at hml; omega
  have hrun := run_append_grow_src (P := P) w ty tx tt e i z ht hi hz A n c os hos2 xv m us hsrc hc h63 (growslice_fits hc (by rw [hby]; exact hb))
  have hge := grownCap_ge w (n + m) c e
  have hle := grownCap_le_maxLen w (n + m) c e hml
  obtain ⟨gc, hgc⟩ : ∃ gc, grownCap w (n + m) c e = gc := ⟨_, rfl⟩
  rw [hgc] at hrun hge hle
  have hul2 := hsrc.newsLen
  have hcells : CellsR (RepA G Z w) ((os ++ us).toArray ++ Builtin.zeroCells z.cells (gc - (n + m))) 0 (olds ++ news) := by
    intro j a ha
    rw [Nat.zero_add]
    have key : ∃ u, (os ++ us)[j]? = some u ∧ u.oneCell' = true ∧ RepA G Z w a u := by
      rcases Nat.lt_or_ge j olds.length with hj | hj
      · rw [List.getElem?_append_left hj] at ha
        obtain ⟨u, h1, h2⟩ := hos3 j a ha
        exact ⟨u, by rw [List.getElem?_append_left (by omega)]; exact h1, h2⟩
      · rw [List.getElem?_append_right hj] at ha
        obtain ⟨u, h1, h2⟩ := hus _ a ha
        exact ⟨u, by rw [List.getElem?_append_right (by omega), show j - os.length = j - olds.length by omega]; exact h1, h2⟩
    obtain ⟨u, h1, h2⟩ := key
    refine ⟨u, ?_, h2⟩
    have hj := (List.getElem?_eq_some_iff.1 h1).1
    rw [Array.getElem?_append_left (by simpa using hj)]
    simpa using h1
  obtain ⟨s1, s2⟩ := st.newAt hlt (e := e) hcells (ones_grow (fun u hu => by
      obtain ⟨j, hj⟩ := List.getElem?_of_mem hu
      have hjl := (List.getElem?_eq_some_iff.1 hj).1
      obtain ⟨u', h1, h2, _⟩ := hos3 j _ (List.getElem?_eq_getElem (by omega))
      rw [hj] at h1; obtain rfl := Option.some.inj h1; exact h2) hsrc.one hzo)
  refine ⟨_, _, _, hrun, s1, s2, ?_⟩
  have hsize : ((os ++ us).toArray ++ Builtin.zeroCells z.cells (gc - (n + m))).size = gc * i.size := by
    rw [Array.size_append, size_zeroCells, hzs]
    simp only [List.size_toArray, List.length_append]
    rw [hos1, hul2, ← Nat.add_mul, ← Nat.add_mul]
    congr 1; omega
  have := RepA.slLive (G := upd G id (ver', some (some (w.heap.size, 0)))) (Z := Z) (w := w.drew.alloc (.cells ((os ++ us).toArray ++ Builtin.zeroCells z.cells (gc - (n + m))) e)) id ver' i.size 0 (n + m) w.heap.size 0 gc (by simp) hge hle
    ⟨_, e, (0, 0), heap_alloc_new w.drew _, by rw [hsize]; simp⟩
  simpa using this

theorem le_maxLen {n bytes : Nat} (h : n * bytes ≤ 140737488355328) (hb : bytes ≠ 0) : n ≤ maxLen := by
  have : n * 1 ≤ n * bytes := Nat.mul_le_mul_left _ (by omega)
  unfold maxLen; omega
theorem app_any (st : St P G H Z w) (ht : P.underlying ty = some (.slice e)) (hi : P.info? e = some i) (hz : i.zero = some z) (hsz : i.size = sz) (hzs : z.cells.size = sz) (hzo : z.cells.toList.all (·.oneCell') = true) (hby : i.bytes = bytes) (hpos : sz ≠ 0) (hbp : bytes ≠ 0)
    {id ver off n : Nat} {sv xv : Value} {m : Nat} {news : List AV} (hr : RepA G Z w (.sl id ver sz off n) sv) (hs : SrcA P G Z w sz tx xv m news) {r : AV} {x : Nat × Option AObj} (hg : growA sz bytes ver off n m news id (H id) = some (r, x)) :
    AppOk P (Builtin.append_ #[ty, tx] tt #[sv, xv]) G H Z w r (upd H id x) := by
  unfold growA at hg
  split at hg
  case h_2 => cases hg
  rename_i cs hcs
  split at hg
  case isFalse => cases hg
  rename_i hc
  obtain ⟨hlen, hb⟩ := hc
  simp only [Option.some.injEq, Prod.mk.injEq] at hg
  obtain ⟨rfl, rfl⟩ := hg
  obtain ⟨loc, hG, hob, hH⟩ := st.cells hcs
  have hver : (H id).1 < ver + 1 := by rw [hH]; exact Nat.lt_succ_self ver
  have hnl := hs.len
  have hs2 := hs
  obtain ⟨us, hsrc, hul, hus⟩ := hs2
  have hml := le_maxLen hb hbp
  rcases hr.sl_ hG with ⟨rfl, A, rfl⟩ | ⟨g, o', c, rfl, rfl, hnc, hcm, arr, et, fz, hh, hroom⟩
  · have hdrop : cs.drop (off * sz) = [] := List.drop_of_length_le (by rw [hlen]; simp)
    rcases Nat.eq_zero_or_pos m with rfl | hm
    · have hus0 : us = [] := List.eq_nil_of_length_eq_zero (by rw [hsrc.newsLen]; simp)
      have hnews0 : news = [] := List.eq_nil_of_length_eq_zero (by rw [hnl]; simp)
      subst hus0 hnews0
      obtain ⟨s1, s2⟩ := st.virtAt hver
      refine ⟨_, _, _, run_append_nothing w ty tx tt e i ht hi A 0 0 (Nat.le_refl _) xv (by rw [hsz]; exact hsrc), by rw [hdrop]; exact s1, s2, ?_⟩
      exact .slCap _ _ _ _ _ _ (by simp; rfl)
    · have := app_grow (tt := tt) st ht hi hz hsz hzs hzo hby hpos hver (A := A) (n := 0) (c := 0) (olds := []) (by simp) (.inl rfl) hs (by omega) (Nat.le_refl _) hb hml
      rw [hdrop]; exact this
  · obtain ⟨arr2, et2, hh2, hcc⟩ := hob
    rw [hh] at hh2
    simp only [Option.some.injEq, Obj.cells.injEq] at hh2
    obtain ⟨rfl, rfl, rfl⟩ := hh2
    have hdl : (cs.drop (off * sz)).length = n * sz := by rw [List.length_drop, hlen, Nat.add_mul]; omega
    rcases Nat.lt_or_ge c (n + m) with hgrow | hfit
    · exact app_grow (tt := tt) st ht hi hz hsz hzs hzo hby hpos hver (A := some ⟨g, o' + off * sz, none⟩) (n := n) (c := c) hdl
        (.inr ⟨g, _, rfl, (Wnd.of_row hh hcc).drop (off * sz)⟩) hs hgrow hnc hb hml
    · have hspace : o' + off * sz + n * sz + us.length ≤ arr.size := by
        rw [hsrc.newsLen, Nat.add_assoc, ← Nat.add_mul]
        have : (n + m) * sz ≤ c * sz := Nat.mul_le_mul_right _ hfit
        rw [Nat.add_mul] at hroom
        omega
      have hcell : ∀ j, j < us.length → ∃ u, w.cell? ⟨g, o' + off * sz + n * sz + j, none⟩ = some u := fun j hj => by
        rw [cell_of_row w g _ arr et (0, 0) hh]
        exact ⟨_, Array.getElem?_eq_getElem (by omega)⟩
      have hrun := run_append_room_src (P := P) w ty tx tt e i ht hi g (o' + off * sz) n c xv m us (by rw [hsz]; exact hsrc) hfit
        (fun j hj => by rw [hsz]; obtain ⟨u, hu⟩ := hcell j hj; rw [hu]; rfl) (fun j hj => by simp [World.frozen?, hh])
      rw [hsz] at hrun
      obtain ⟨arr', k1, k2, k3, k4⟩ := setCells_heap g et (0, 0) us (o' + off * sz + n * sz) w arr hh
      have hch := st.change id g (Only.setCells g (o' + off * sz + n * sz) us w) (ver + 1, some (some (g, o' + off * sz))) (ver + 1, some (.cells (cs.drop (off * sz) ++ news))) (.inr ⟨o', by rw [hG]⟩)
        (.inl (heap_lt k1)) rfl (Nat.le_of_lt hver) (fun h => absurd h (by simp only; omega)) (.inr (.inr ⟨_, rfl⟩)) (fun _ => setCells_mem g et (0, 0) us _ w (st.ones id g o' (by rw [hG])) hsrc.one) (fun h => by cases h) (fun ob hob => by
          obtain rfl := Option.some.inj hob
          refine ⟨_, rfl, fun hk => ⟨arr', et, k1, fun j a ha => ?_⟩⟩
          rcases Nat.lt_or_ge j (n * sz) with hj | hj
          · rw [List.getElem?_append_left (by omega), List.getElem?_drop] at ha
            obtain ⟨u, h1, h2, h3⟩ := hcc _ a ha
            exact ⟨u, by rw [k3 _ (by omega), Nat.add_assoc]; exact h1, h2, h3.keep hk⟩
          · rw [List.getElem?_append_right (by omega)] at ha
            obtain ⟨u, h1, h2, h3⟩ := hus _ a ha
            have hlt := (List.getElem?_eq_some_iff.1 h1).1
            refine ⟨u, ?_, h2, h3.keep hk⟩
            rw [hdl] at h1
            have := k4 (j - n * sz) u h1 (by omega)
            rw [show o' + off * sz + j = o' + off * sz + n * sz + (j - n * sz) by omega]
            exact this)
      refine ⟨_, _, _, hrun, hch.1, hch.2, ?_⟩
      have := RepA.slLive (G := upd G id (ver + 1, some (some (g, o' + off * sz)))) (Z := Z) (w := w.setCells g (o' + off * sz + n * sz) us) id (ver + 1) sz 0 (n + m) g (o' + off * sz) c (by simp) hfit hcm
        ⟨arr', et, (0, 0), k1, by rw [k2, Nat.zero_add]; rw [Nat.add_mul] at hroom; omega⟩
      simpa using this
theorem born_any (st : St P G H Z w) (ht : P.underlying ty = some (.slice e)) (hi : P.info? e = some i) (hz : i.zero = some z) (hsz : i.size = sz) (hzs : z.cells.size = sz) (hzo : z.cells.toList.all (·.oneCell') = true) (hby : i.bytes = bytes) (hpos : sz ≠ 0) (hbp : bytes ≠ 0)
    {id : Nat} {sv xv : Value} {m : Nat} {news : List AV} (hr : RepA G Z w (.f .nil) sv) (hs : SrcA P G Z w sz tx xv m news) {r : AV} {x : Nat × Option AObj} (hg : bornA sz bytes m news id (H id) = some (r, x)) :
    AppOk P (Builtin.append_ #[ty, tx] tt #[sv, xv]) G H Z w r (upd H id x) := by
  unfold bornA at hg
  split at hg
  case h_2 => cases hg
  rename_i ver hd
  split at hg
  case isFalse => cases hg
  rename_i hb
  simp only [Option.some.injEq, Prod.mk.injEq] at hg
  obtain ⟨rfl, rfl⟩ := hg
  have hver : (H id).1 < ver + 1 := by rw [hd]; exact Nat.lt_succ_self ver
  have hnl := hs.len
  have hs2 := hs
  obtain ⟨us, hsrc, hul, hus⟩ := hs2
  have hml := le_maxLen hb hbp
  obtain ⟨A, rfl⟩ := hr.nil_
  rcases Nat.eq_zero_or_pos m with rfl | hm
  · have hus0 : us = [] := List.eq_nil_of_length_eq_zero (by rw [hsrc.newsLen]; simp)
    have hnews0 : news = [] := List.eq_nil_of_length_eq_zero (by rw [hnl]; simp)
    subst hus0 hnews0
    obtain ⟨s1, s2⟩ := st.virtAt hver
    refine ⟨_, _, _, run_append_nothing w ty tx tt e i ht hi A 0 0 (Nat.le_refl _) xv (by rw [hsz]; exact hsrc), s1, s2, ?_⟩
    exact .slCap _ _ _ _ _ _ (by simp; rfl)
  · have := app_grow (tt := tt) st ht hi hz hsz hzs hzo hby hpos hver (A := A) (n := 0) (c := 0) (olds := []) (by simp) (.inl rfl) hs (by omega) (Nat.le_refl _) (by simpa using hb) (by simpa using hml)
    simpa using this
end app

theorem isStr_inv {ty : TypeId} (h : isStr P ty = true) : P.underlying ty = some .string := by
  unfold isStr at h
  split at h
  · assumption
  · cases h
theorem elemOf_inv {ty e : TypeId} (h : elemOf? P ty = some e) : P.underlying ty = some (.slice e) := by
  unfold elemOf? at h
  split at h
  · rename_i e2 h2
    obtain rfl := Option.some.inj h
    exact h2
  · cases h
theorem elemOf_some {ty : TypeId} (h : (elemOf? P ty).isSome = true) : ∃ e, P.underlying ty = some (.slice e) := by
  obtain ⟨e, he⟩ := Option.isSome_iff_exists.1 h
  exact ⟨e, elemOf_inv he⟩

theorem ok_append (st : St P G H Z w) (hρ : ∀ x, RepA G Z w (ρ x) (ρc x)) (str : Bool) (ty tx e : TypeId) (sz bytes : Nat) (s x : Operand) (he : elemOf? P ty = some e) (hs : sizeOf? P e = some sz) (hb : bytesOf? P e = some bytes)
    (hpos : sz ≠ 0) (hbp : bytes ≠ 0) (hz : (zeroCellsOf P e).isSome = true) (hty : if str = true then P.underlying tx = some .string else ∃ e, P.underlying tx = some (.slice e))
    (hx : (eff (.append str e sz bytes s x) ρ t).exec H = some (v, H')) (c : Call) (ho : o.op = .call c) (hc : c.callee = .builtin .append) (hargs : c.args = #[s, x]) (hat : c.argTypes = #[ty, tx]) : OpOk P (execOp ρc o) G H Z w v H' := by
  have ha := hρ s
  have hb2 := hρ x
  obtain ⟨zz, hzz⟩ := Option.isSome_iff_exists.1 hz
  obtain ⟨i, z, hi, hzv, hzo, hzs, _⟩ := zeroCells_inv hzz
  have hsz : i.size = sz := by unfold sizeOf? at hs; rw [hi] at hs; simpa using hs
  have hby : i.bytes = bytes := by unfold bytesOf? at hb; rw [hi] at hb; simpa using hb
  have hzs2 : z.cells.size = sz := by omega
  have hu := elemOf_inv he
  have fin : AppOk P (Builtin.append_ #[ty, tx] o.type #[ρc s, ρc x]) G H Z w v H' → OpOk P (execOp ρc o) G H Z w v H' := by
    rintro ⟨G', w', u, h1, h2, h3, h4⟩
    refine ⟨G', Z, w', u, .inl ?_, h2, h3, h4⟩
    simp [execOp, ho, resolve, hc, hargs, hat, invoke, builtin, h1]
  simp only [eff] at hx
  split at hx
  · rename_i id ver sz' off n e1 e2
    split at hx
    case isFalse => cases hx
    rename_i hc2
    obtain ⟨hs0, rfl, hne⟩ := hc2
    rw [if_neg (by simp [hs0])] at hty
    obtain ⟨y, h1, rfl⟩ := exec_rm hx
    split at h1
    case h_2 => cases h1
    rename_i cs hcs
    split at h1
    case isFalse => cases h1
    rename_i hin
    rw [e2] at hb2
    rw [e1] at ha
    exact fin (born_any st hu hi hzv hsz hzs2 hzo hby hpos hbp ha (sl_src st hb2 hcs hin hty) h1)
  · rename_i id ver sz1 off n id2 ver2 sz2 off2 n2 e1 e2
    split at hx
    case isFalse => cases hx
    rename_i hc2
    obtain ⟨hs0, rfl, rfl, hne⟩ := hc2
    rw [if_neg (by simp [hs0])] at hty
    obtain ⟨y, h1, rfl⟩ := exec_rm hx
    split at h1
    case h_2 => cases h1
    rename_i cs hcs
    split at h1
    case isFalse => cases h1
    rename_i hin
    rw [e2] at hb2
    rw [e1] at ha
    exact fin (app_any st hu hi hzv hsz hzs2 hzo hby hpos hbp ha (sl_src st hb2 hcs hin hty) h1)
  · rename_i b e1 _
    split at hx
    case h_2 => cases hx
    rename_i m news hsrc
    obtain ⟨y, h1, rfl⟩ := exec_md hx
    rw [e1] at ha
    exact fin (born_any st hu hi hzv hsz hzs2 hzo hby hpos hbp ha (srcF_ok hsrc hb2 hty) h1)
  · rename_i id ver sz' off n b e1 _
    split at hx
    case isFalse => cases hx
    rename_i hc2
    subst hc2
    split at hx
    case h_2 => cases hx
    rename_i m news hsrc
    obtain ⟨y, h1, rfl⟩ := exec_md hx
    rw [e1] at ha
    exact fin (app_any st hu hi hzv hsz hzs2 hzo hby hpos hbp ha (srcF_ok hsrc hb2 hty) h1)
  · cases hx

theorem ok_makeSlice (st : St P G H Z w) (hρ : ∀ x, RepA G Z w (ρ x) (ρc x)) (ty e : TypeId) (sz bytes : Nat) (z : List FV) (l c : Operand) (he : elemOf? P ty = some e) (hs : sizeOf? P e = some sz) (hb : bytesOf? P e = some bytes) (hz : zeroCellsOf P e = some z) (hpos : sz ≠ 0)
    (hx : (eff (.makeSlice e sz bytes z l c) ρ t).exec H = some (v, H')) (ho : o.op = .makeSlice ty l c) : OpOk P (execOp ρc o) G H Z w v H' := by
  obtain ⟨i, zv, hi, hzv, hone, hzs, rfl⟩ := zeroCells_inv hz
  have hsz : i.size = sz := by unfold sizeOf? at hs; rw [hi] at hs; simpa using hs
  have hby : i.bytes = bytes := by unfold bytesOf? at hb; rw [hi] at hb; simpa using hb
  simp only [eff] at hx
  split at hx
  case h_2 => cases hx
  rename_i n m e1 e2
  obtain ⟨k1, h1⟩ := (hρ l).toI_ e1
  obtain ⟨k2, h2⟩ := (hρ c).toI_ e2
  split at hx
  case isFalse => cases hx
  rename_i hc
  obtain ⟨h0, hnm, hbb, hm63⟩ := hc
  obtain ⟨ver, hd, rfl, rfl⟩ := exec_newObj hx
  have hrun := run_make (P := P) w ty e i zv (elemOf_inv he) hi hzv k1 k2 n m h0 hnm (by rw [hby, Int.mul_comm]; omega) hm63
  have hcells : CellsR (RepA G Z w) (madeCells zv.cells (m.toNat * i.size)) 0 (zeros n.toNat (zv.cells.toList.map FV.ofValue)) := by
    intro j a ha
    unfold zeros at ha
    rw [List.getElem?_map] at ha
    obtain ⟨x, hx, rfl⟩ := Option.map_eq_some_iff.1 ha
    have hun : ∀ y ∈ List.replicate n.toNat (zv.cells.toList.map FV.ofValue), y.length = sz := fun y hy => by
      rw [List.eq_of_mem_replicate hy, List.length_map, Array.length_toList]; omega
    obtain ⟨k, jj, y, h3, h4, rfl, h5⟩ := flatten_get _ hun j x hx
    have hk := (List.getElem?_eq_some_iff.1 h3).1
    rw [List.length_replicate] at hk
    have hy : y = zv.cells.toList.map FV.ofValue := List.eq_of_mem_replicate (List.mem_of_getElem? h3)
    subst hy
    rw [List.getElem?_map] at h4
    obtain ⟨u, hu, rfl⟩ := Option.map_eq_some_iff.1 h4
    rw [Array.getElem?_toList] at hu
    refine ⟨u, ?_, List.all_eq_true.1 hone u (Array.mem_toList_iff.2 (Array.mem_of_getElem? hu)), .f (RepF.ofValue Z w u)⟩
    rw [Nat.zero_add]
    have hlt : k * sz + jj < m.toNat * i.size := by
      have : (k + 1) * sz ≤ m.toNat * sz := Nat.mul_le_mul_right _ (by omega)
      rw [Nat.add_mul] at this; rw [hsz]; omega
    unfold madeCells
    rw [Array.getElem?_map, Array.getElem?_eq_getElem (by simpa using hlt)]
    simp only [Array.getElem_range, Option.map_some, Option.some.injEq]
    have hmod : (k * sz + jj) % zv.cells.size = jj := by
      rw [show zv.cells.size = sz by omega, Nat.mul_comm, Nat.mul_add_mod]; exact Nat.mod_eq_of_lt h5
    rw [hmod]
    obtain ⟨hlt2, he2⟩ := Array.getElem?_eq_some_iff.1 hu
    rw [getElem!_pos zv.cells jj hlt2]; exact he2
  obtain ⟨s1, s2⟩ := st.new hd (e := e) hcells (ones_made hone)
  refine ⟨_, Z, _, .slice (some ⟨w.heap.size, 0, none⟩) n.toNat m.toNat, .inl ?_, s1, s2, ?_⟩
  · simp [execOp, ho, h1, h2, hrun]
  · have := RepA.slLive (G := upd G t (ver + 1, some (some (w.heap.size, 0)))) (Z := Z) (w := w.alloc (.cells (madeCells zv.cells (m.toNat * i.size)) e)) t (ver + 1) sz 0 n.toNat w.heap.size 0 m.toNat (by simp) (by omega) (by unfold maxLen; omega)
      ⟨_, e, (0, 0), heap_alloc_new w _, by rw [size_madeCells]; simp [hsz]⟩
    simpa using this

theorem bounds_inv (hρ : ∀ x, RepA G Z w (ρ x) (ρc x)) {n a b : Nat} {lo hi : Option Operand} (h : bounds n ρ lo hi = some (a, b)) :
    a ≤ b ∧ b ≤ n ∧ (∀ isS cap, n ≤ cap → (Instr.sliceBounds isS n cap (lo.map ρc) (hi.map ρc) none).run P w = .ok (a, b, cap) w) := by
  unfold bounds at h
  split at h
  case h_2 => cases h
  rename_i x y e1 e2
  split at h
  case isFalse => cases h
  rename_i hc
  obtain ⟨h0, h1, h2⟩ := hc
  simp only [Option.some.injEq, Prod.mk.injEq] at h
  obtain ⟨rfl, rfl⟩ := h
  refine ⟨by omega, by omega, fun isS cap hcap => ?_⟩
  have hhi : ∀ (code : BoundsCode), match hi with | some h => ∃ k, ρc h = .int k x ∧ 0 ≤ x ∧ x ≤ (cap : Int) | none => x = (n : Int) := fun code => by
    cases hi with
    | none => simp only [Option.some.injEq] at e1; exact e1.symm
    | some h =>
      obtain ⟨k, hk⟩ := (hρ h).toI_ e1
      exact ⟨k, hk, by omega, by omega⟩
  have hlo : match lo with | some l => ∃ k, ρc l = .int k y | none => y = 0 := by
    cases lo with
    | none => simp only [Option.some.injEq] at e2; exact e2.symm
    | some l => exact (hρ l).toI_ e2
  have bnd : ∀ k (i : Int) (m : Nat) code, 0 ≤ i → i ≤ m → (Instr.sliceBound (.int k i) m code).run P w = .ok i.toNat w := fun k i m code g0 g1 => by
    simp [Instr.sliceBound, asIntOf, g0, g1]
  have hx := hhi .index
  cases hi with
  | none =>
    simp only at hx
    subst hx
    cases lo with
    | none => simp only at hlo; subst hlo; simp [Instr.sliceBounds]
    | some l =>
      obtain ⟨k, hk⟩ := hlo
      simp [Instr.sliceBounds, hk, bnd k y n _ h0 (by omega)]
  | some h =>
    obtain ⟨k2, hk2, g0, g1⟩ := hx
    have hxn : ((x.toNat : Nat) : Int) = x := by omega
    cases lo with
    | none => simp only at hlo; subst hlo; simp [Instr.sliceBounds, hk2, bnd k2 x cap _ g0 g1]
    | some l =>
      obtain ⟨k, hk⟩ := hlo
      simp [Instr.sliceBounds, hk, hk2, bnd k2 x cap _ g0 g1, bnd k y x.toNat _ h0 (by omega)]

theorem ok_sliceS (st : St P G H Z w) (hρ : ∀ x, RepA G Z w (ρ x) (ρc x)) (ty : TypeId) (x : Operand) (lo hi : Option Operand) (hs : isStr P ty = true) (hx : (eff (.sliceS x lo hi) ρ t).exec H = some (v, H')) (ho : o.op = .slice ty x lo hi none) : OpOk P (execOp ρc o) G H Z w v H' := by
  have ha := hρ x
  simp only [eff] at hx
  split at hx
  case h_2 => cases hx
  rename_i s e
  split at hx
  case h_2 => cases hx
  rename_i a b hb
  obtain ⟨rfl, rfl⟩ := exec_pure hx
  obtain ⟨h1, h2, h3⟩ := bounds_inv (P := P) hρ hb
  rw [e] at ha
  refine OpOk.pure st (u := .string (s.extract a b)) ?_ (.f (.str _))
  simp [execOp, ho, Instr.sliceAt, Instr.slice, run_underlying (isStr_inv hs), ha.str_, h3 false s.size (Nat.le_refl _)]

theorem ok_slice (st : St P G H Z w) (hρ : ∀ x, RepA G Z w (ρ x) (ρc x)) (ty e : TypeId) (sz : Nat) (x : Operand) (lo hi : Option Operand) (he : elemOf? P ty = some e) (hs : sizeOf? P e = some sz) (hx : (eff (.slice sz x lo hi) ρ t).exec H = some (v, H')) (ho : o.op = .slice ty x lo hi none) : OpOk P (execOp ρc o) G H Z w v H' := by
  have ha := hρ x
  have hu := elemOf_inv he
  unfold sizeOf? at hs
  cases hinf : P.info? e with
  | none => rw [hinf] at hs; cases hs
  | some inf =>
  rw [hinf] at hs
  have hsz : inf.size = sz := by simpa using hs
  have key : ∀ A n c a b, ρc x = .slice A n c → n ≤ c → bounds n ρ lo hi = some (a, b) → (execOp ρc o).run P w = .ok (.value (.slice (if c = a then A else A.map (·.add (a * sz))) (b - a) (c - a))) w := by
    intro A n c a b hp hnc hb
    obtain ⟨h1, h2, h3⟩ := bounds_inv (P := P) hρ hb
    simp [execOp, ho, Instr.sliceAt, Instr.slice, run_underlying hu, hp, h3 true c hnc, sizeOf, typeInfo, hinf, hsz]
  simp only [eff] at hx
  split at hx
  · rename_i e1
    split at hx
    case h_2 => cases hx
    rename_i p hb
    obtain ⟨a, b⟩ := p
    obtain ⟨rfl, rfl⟩ := exec_pure hx
    rw [e1] at ha
    obtain ⟨A, hp⟩ := ha.nil_
    obtain ⟨h1, h2, _⟩ := bounds_inv (P := P) hρ hb
    refine OpOk.pure st (key A 0 0 a b hp (Nat.le_refl _) hb) ?_
    obtain rfl : b = 0 := by omega
    obtain rfl : a = 0 := by omega
    exact .f (.nil _)
  · rename_i sz' l e1
    split at hx
    case isFalse => cases hx
    rename_i hs2
    subst hs2
    split at hx
    case h_2 => cases hx
    rename_i a b hb
    obtain ⟨rfl, rfl⟩ := exec_pure hx
    rw [e1] at ha
    obtain ⟨h1, h2, _⟩ := bounds_inv (P := P) hρ hb
    obtain ⟨vx, hvx⟩ : ∃ vx, ρc x = vx := ⟨_, rfl⟩
    rw [hvx] at ha
    have hlen : ((l.take b).drop a).length = b - a := by rw [List.length_drop, List.length_take]; omega
    cases ha.f_ with
    | frNil _ A c hc =>
      refine OpOk.pure st (key A 0 c a b hvx (Nat.zero_le _) hb) ?_
      simp only [List.length_nil] at h2
      obtain rfl : b = 0 := by omega
      obtain rfl : a = 0 := by omega
      exact .f (.frNil _ _ _ (by simpa using hc))
    | fr _ _ b' o' c us g1 g2 g3 hb' hl hcell hrep =>
      refine OpOk.pure st (key _ _ c a b hvx g2 hb) ?_
      rcases Nat.eq_zero_or_pos (b - a) with h0 | h0
      · have hnil : (l.take b).drop a = [] := List.eq_nil_of_length_eq_zero (by omega)
        rw [hnil, h0]
        exact .f (.frNil _ _ _ (by omega))
      · rw [if_neg (by omega)]
        simp only [Option.map_some, Addr.add_mid]
        have := RepF.fr (Z := Z) (w := w) sz' ((l.take b).drop a) b' (o' + a * sz') (c - a) (fun k j => us (a + k) j) (by omega) (by omega) (by omega) hb'
          (fun y hy => hl y (List.mem_of_mem_take (List.mem_of_mem_drop hy))) (fun k j hk hj => by
            have := hcell (a + k) j (by omega) hj
            rw [show o' + a * sz' + k * sz' + j = o' + (a + k) * sz' + j by rw [Nat.add_mul]; omega]; exact this) (fun k j y f hk hj => by
            have hk' := (List.getElem?_eq_some_iff.1 hk).1
            rw [List.getElem?_drop, List.getElem?_take_of_lt (by omega)] at hk
            exact hrep (a + k) j y f hk hj)
        rw [hlen] at this
        exact .f this
  · rename_i id ver sz' off n e1
    split at hx
    case isFalse => cases hx
    rename_i hs2
    subst hs2
    split at hx
    case h_2 => cases hx
    rename_i a b hb
    obtain ⟨h4, rfl⟩ := exec_rd hx
    split at h4
    case isFalse => cases h4
    rename_i hal
    obtain rfl := Option.some.inj h4
    obtain ⟨loc, hG⟩ := st.alive hal
    rw [e1] at ha
    obtain ⟨h1, h2, _⟩ := bounds_inv (P := P) hρ hb
    rcases ha.sl_ hG with ⟨rfl, A, hp⟩ | ⟨g, o', c, rfl, hp, hnc, hcm, arr, et, fz, hh, hroom⟩
    · refine OpOk.pure st (key A 0 0 a b hp (Nat.le_refl _) hb) ?_
      obtain rfl : b = 0 := by omega
      obtain rfl : a = 0 := by omega
      exact .slCap _ _ _ _ _ _ hG
    · refine OpOk.pure st (key _ n c a b hp hnc hb) ?_
      by_cases hca : c = a
      · rw [if_pos hca]
        subst hca
        have : b - c = 0 := by omega
        rw [this, Nat.sub_self]
        exact .slCap _ _ _ _ _ _ hG
      · rw [if_neg hca]
        simp only [Option.map_some, Addr.add_mid]
        rw [Nat.add_assoc, ← Nat.add_mul]
        exact .slLive id ver sz' (off + a) (b - a) g o' (c - a) hG (by omega) (by omega) ⟨arr, et, fz, hh, by rw [show off + a + (c - a) = off + c by omega]; exact hroom⟩
  · cases hx

theorem ok_slice0 (st : St P G H Z w) (hρ : ∀ x, RepA G Z w (ρ x) (ρc x)) (ty e : TypeId) (sz : Nat) (x : Operand) (lo : Option Operand) (lo' hi mx : Operand) (hlo : lo = some lo' ∨ (lo = none ∧ lo' = .const (.int .i64 0))) (he : elemOf? P ty = some e) (hs : sizeOf? P e = some sz) (hx : (eff (.slice0 x lo' hi mx) ρ t).exec H = some (v, H')) (ho : o.op = .slice ty x lo (some hi) (some mx)) : OpOk P (execOp ρc o) G H Z w v H' := by
  have ha := hρ x
  have hu := elemOf_inv he
  unfold sizeOf? at hs
  cases hinf : P.info? e with
  | none => rw [hinf] at hs; cases hs
  | some inf =>
  simp only [eff] at hx
  split at hx
  case h_2 => cases hx
  rename_i e0 e1 e2
  obtain ⟨k1, h1⟩ := (hρ hi).toI_ e1
  obtain ⟨k2, h2⟩ := (hρ mx).toI_ e2
  have bnd : ∀ k (m : Nat) code, (Instr.sliceBound (.int k 0) m code).run P w = .ok 0 w := fun k m code => by
    simp [Instr.sliceBound, asIntOf]
  have key : ∀ A n c, ρc x = .slice A n c → ∃ B, (execOp ρc o).run P w = .ok (.value (.slice B 0 0)) w := by
    intro A n c hp
    rcases hlo with rfl | ⟨rfl, rfl⟩
    · obtain ⟨k0, h0⟩ := (hρ lo').toI_ e0
      exact ⟨A, by simp [execOp, ho, Instr.sliceAt, Instr.slice, run_underlying hu, hp, Instr.sliceBounds, h0, h1, h2, bnd, sizeOf, typeInfo, hinf]⟩
    · exact ⟨A, by simp [execOp, ho, Instr.sliceAt, Instr.slice, run_underlying hu, hp, Instr.sliceBounds, h1, h2, bnd, sizeOf, typeInfo, hinf]⟩
  split at hx
  · rename_i e3
    obtain ⟨rfl, rfl⟩ := exec_pure hx
    rw [e3] at ha
    obtain ⟨A, hp⟩ := ha.nil_
    obtain ⟨B, hB⟩ := key _ _ _ hp
    exact OpOk.pure st hB (.f (.nil _))
  · rename_i sz' l e3
    obtain ⟨rfl, rfl⟩ := exec_pure hx
    rw [e3] at ha
    obtain ⟨A, c, hp, _⟩ := ha.fr_
    obtain ⟨B, hB⟩ := key _ _ _ hp
    exact OpOk.pure st hB (.f (.nil _))
  · rename_i id ver sz' off n e3
    obtain ⟨h4, rfl⟩ := exec_rd hx
    split at h4
    case isFalse => cases h4
    rename_i hal
    obtain rfl := Option.some.inj h4
    obtain ⟨loc, hG⟩ := st.alive hal
    rw [e3] at ha
    rcases ha.sl_ hG with ⟨_, A, hp⟩ | ⟨g, o', c, _, hp, _⟩
    · obtain ⟨B, hB⟩ := key _ _ _ hp
      exact OpOk.pure st hB (.f (.nil _))
    · obtain ⟨B, hB⟩ := key _ _ _ hp
      exact OpOk.pure st hB (.f (.nil _))
  · cases hx
end
end Go.Proofs.YtaiajaibcpkceaaDoor
