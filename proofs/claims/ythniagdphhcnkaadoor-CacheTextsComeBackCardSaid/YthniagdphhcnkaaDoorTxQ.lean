/-
  A cache is read as it was written, and what was read is written as it stood: plain. No statement of the seat is proved here; no conditions.
-/
import Derived.Test.YthniagdphhcnkaaDoorTxP
namespace Go.Proofs.YthniagdphhcnkaaDoor
open Go.RowKit Go.Shelf
set_option linter.unusedVariables false
set_option linter.unusedSimpArgs false
set_option maxRecDepth 100000

def gw (s : ByteArray) : Prop := s ≠ ⟨#[]⟩ ∧ (32 : UInt8) ∉ s.data.toList ∧ (10 : UInt8) ∉ s.data.toList
theorem gw_all {s : ByteArray} {p : UInt8 → Bool} (h0 : 0 < s.size) (h : s.data.toList.all p = true) (h1 : p 32 = false) (h2 : p 10 = false) : gw s := by
 refine ⟨fun e => by rw [e] at h0;exact absurd h0 (by decide),fun hm => ?_,fun hm => ?_⟩
 ·have := List.all_eq_true.1 h _ hm;rw [h1] at this;cases this
 ·have := List.all_eq_true.1 h _ hm;rw [h2] at this;cases this
theorem isDig_all {s : ByteArray} (h : isDig s = true) : s.data.toList.all (hexS.contains ·) = true := by
 unfold isDig at h
 rw [Bool.and_eq_true,trimS_nil] at h
 exact h.2
theorem gw_dig {s : ByteArray} (h : isDig s = true) : gw s := gw_all (by rw [isDig_size h];decide) (isDig_all h) (by decide) (by decide)
theorem gw_it {n : Int} (h0 : 0 ≤ n) (h1 : n ≤ 9999999999) : gw (itB n) := gw_all (itB_size n h0 h1).2 (numOk_parts (num_it h0 h1).1).2.2.1 (by decide) (by decide)
theorem gw_cache : gw cacheW := ⟨by decide,by decide,by decide⟩
theorem gw_blob : gw blobW := ⟨by decide,by decide,by decide⟩
theorem gw_entry : gw entryW := ⟨by decide,by decide,by decide⟩
theorem mem_join {c d : UInt8} : ∀ {ws : List (List UInt8)},d ∈ Lib.join ws [c] → d = c ∨ ∃ x ∈ ws,d ∈ x
 | [],h => by rw [Lib.join_nil] at h;cases h
 | [x],h => by rw [Lib.join_one] at h;exact .inr ⟨x,List.mem_cons_self,h⟩
 | x :: y :: r,h => by
  rw [join_two,List.mem_append,List.mem_cons] at h
  rcases h with h | h | h
  ·exact .inr ⟨x,List.mem_cons_self,h⟩
  ·exact .inl h
  ·rcases mem_join h with h | ⟨z,hz,h⟩
   ·exact .inl h
   ·exact .inr ⟨z,List.mem_cons_of_mem _ hz,h⟩
theorem data_app (a b : ByteArray) : (a ++ b).data.toList = a.data.toList ++ b.data.toList := by rw [ByteArray.data_append];simp
theorem of_list (a : ByteArray) : (⟨a.data.toList.toArray⟩ : ByteArray) = a := bytes_ext rfl
theorem cut_ln {ws : List ByteArray} (h : ∀ x ∈ ws,gw x) (rest : ByteArray) : cutS (lnB ws ++ rest) 10 = (joinW ws,rest,true) := by
 have e : (lnB ws ++ rest).data.toList = (joinW ws).data.toList ++ 10 :: rest.data.toList := by
  unfold lnB
  rw [data_app,data_app]
  simp
 have hn : (10 : UInt8) ∉ (joinW ws).data.toList := fun hm => by
  have hm2 : (10 : UInt8) ∈ Lib.join (ws.map (·.data.toList)) [32] := hm
  rcases mem_join hm2 with h1 | ⟨x,hx,h1⟩
  ·cases h1
  ·obtain ⟨y,hy,rfl⟩ := List.mem_map.1 hx
   exact (h y hy).2.2 h1
 rw [cut_hit e hn,of_list,of_list]
theorem app_ne {ws : List ByteArray} {r : ByteArray} : lnB ws ++ r ≠ ⟨#[]⟩ := fun e => by
 have := congrArg ByteArray.size e
 rw [ByteArray.size_append,lnB_size] at this
 have h0 : (⟨#[]⟩ : ByteArray).size = 0 := rfl
 omega
theorem read_ln {ws : List ByteArray} (hne : ws ≠ []) (h : ∀ x ∈ ws,gw x) (k i : Nat) {c c' : Cache} (rest : ByteArray) (hl : lineW c (decide ((i : Int) = 0)) ws = some c') : readGo (k + 1) i c (lnB ws ++ rest) = readGo k (i + 1) c' rest := by
 rw [readGo,if_pos (.inr app_ne),cut_ln h]
 dsimp only
 rw [if_pos rfl,words_join hne (fun x hx => (h x hx).2.1),hl]
theorem no_empty {ws : List ByteArray} (h : ∀ x ∈ ws,gw x) : ¬ hasS ⟨#[]⟩ ws = true := fun e => (h _ (hasS_iff.1 e)).1 rfl
theorem nvL_its {n : List Int} (h : ∀ x ∈ n,0 ≤ x ∧ x ≤ 9999999999) : nvL (n.map itB) = n := by
 unfold nvL
 rw [numV_it h];rfl
theorem nv_one {a : Int} (h : 0 ≤ a ∧ a ≤ 9999999999) : nvL [itB a] = [a] := nvL_its (n := [a]) fun x hx => by rw [List.mem_singleton.1 hx];exact h
theorem line_head {c : Cache} (h : TxOk c) : lineW emptyC true (wHead c) = some (c.1,c.2.1,[],[]) := by
 have hg : ∀ x ∈ wHead c,gw x := fun x hx => by
  simp only [wHead,List.mem_cons,List.not_mem_nil,or_false] at hx
  rcases hx with rfl | rfl | rfl
  ·exact gw_cache
  ·exact gw_it h.room.1 h.room.2
  ·exact gw_it h.lease.1 h.lease.2
 unfold lineW
 rw [if_neg (no_empty hg),if_pos rfl,if_pos (show (wHead c)[0]? = some cacheW from rfl)]
 have : nvL ((wHead c).drop 1) = [c.1,c.2.1] := by
  refine nvL_its (n := [c.1,c.2.1]) fun x hx => ?_
  simp only [List.mem_cons,List.not_mem_nil,or_false] at hx
  rcases hx with rfl | rfl
  ·exact h.room
  ·exact h.lease
 rw [this];rfl
theorem gw_wHead {c : Cache} (h : TxOk c) : ∀ x ∈ wHead c,gw x := fun x hx => by
 simp only [wHead,List.mem_cons,List.not_mem_nil,or_false] at hx
 rcases hx with rfl | rfl | rfl
 ·exact gw_cache
 ·exact gw_it h.room.1 h.room.2
 ·exact gw_it h.lease.1 h.lease.2
theorem gw_wBlob {c : Cache} (h : TxOk c) {b : Blob} (hb : b ∈ c.2.2.1) : ∀ x ∈ wBlob b,gw x := fun x hx => by
 obtain ⟨h0,h1,h2,h3,h4⟩ := h.bl b hb
 simp only [wBlob,List.mem_cons,List.not_mem_nil,or_false] at hx
 rcases hx with rfl | rfl | rfl | rfl | rfl | rfl
 ·exact gw_blob
 ·exact gw_dig h0
 ·exact gw_it h1.1 h1.2
 ·exact gw_it h2.1 h2.2
 ·exact gw_it h3.1 h3.2
 ·exact gw_it h4.1 h4.2
theorem gw_wEnt {c : Cache} (h : TxOk c) {e : Entry} (he : e ∈ c.2.2.2) : ∀ x ∈ wEnt e,gw x := fun x hx => by
 obtain ⟨h0,h1,h2,h3⟩ := h.en e he
 simp only [wEnt,List.cons_append,List.nil_append,List.mem_cons] at hx
 rcases hx with rfl | rfl | rfl | hx
 ·exact gw_entry
 ·exact gw_dig h0
 ·exact gw_it h1.1 h1.2
 ·exact gw_dig (h3 x hx)
theorem line_blob {c : Cache} (h : TxOk c) {b : Blob} (hb : b ∈ c.2.2.1) (r l : Int) (bs : List Blob) : lineW (r,l,bs,[]) false (wBlob b) = some (r,l,bs ++ [b],[]) := by
 obtain ⟨h0,h1,h2,h3,h4⟩ := h.bl b hb
 unfold lineW
 rw [if_neg (no_empty (gw_wBlob h hb)),if_neg (by decide),if_pos ⟨rfl,rfl,rfl⟩]
 have : nvL ((wBlob b).drop 2) = [b.2.1,b.2.2.1,b.2.2.2.1,b.2.2.2.2] := by
  refine nvL_its (n := [b.2.1,b.2.2.1,b.2.2.2.1,b.2.2.2.2]) fun x hx => ?_
  simp only [List.mem_cons,List.not_mem_nil,or_false] at hx
  rcases hx with rfl | rfl | rfl | rfl
  ·exact h1
  ·exact h2
  ·exact h3
  ·exact h4
 rw [this];rfl
theorem line_ent {c : Cache} (h : TxOk c) {e : Entry} (he : e ∈ c.2.2.2) (r l : Int) (bs : List Blob) (es : List Entry) : lineW (r,l,bs,es) false (wEnt e) = some (r,l,bs,es ++ [e]) := by
 obtain ⟨h0,h1,h2,h3⟩ := h.en e he
 unfold lineW
 rw [if_neg (no_empty (gw_wEnt h he)),if_neg (by decide),if_neg (fun hh => absurd hh.1 (by
  show ¬ some entryW = some blobW
  decide)),if_pos ⟨rfl,by simp [wEnt]⟩]
 have : nvL (((wEnt e).drop 2).take 1) = [e.2.2] := nv_one h1
 rw [this];rfl
def rB (l : List Blob) (r : ByteArray) : ByteArray := l.foldr (fun b a => lnB (wBlob b) ++ a) r
def rE (l : List Entry) : ByteArray := l.foldr (fun e a => lnB (wEnt e) ++ a) ⟨#[]⟩
theorem app_nil (a : ByteArray) : a ++ (⟨#[]⟩ : ByteArray) = a := bytes_ext (by rw [data_app];simp)
theorem app_asc (a b c : ByteArray) : a ++ b ++ c = a ++ (b ++ c) := bytes_ext (by simp only [data_app,List.append_assoc])
theorem foldl_app {α : Type} (f : α → ByteArray) : ∀ (l : List α) (x r : ByteArray),l.foldl (fun a b => a ++ f b) x ++ r = x ++ l.foldr (fun b a => f b ++ a) r
 | [],_,_ => rfl
 | b :: l,x,r => by rw [List.foldl_cons,List.foldr_cons,foldl_app f l,app_asc]
theorem txtB_r (c : Cache) : txtB c = lnB (wHead c) ++ rB c.2.2.1 (rE c.2.2.2) := by
 unfold txtB txEn txBl rB rE
 have h1 := foldl_app (fun e => lnB (wEnt e)) c.2.2.2 (c.2.2.1.foldl (fun a b => a ++ lnB (wBlob b)) (txH c)) ⟨#[]⟩
 rw [app_nil] at h1
 rw [h1,foldl_app (fun b => lnB (wBlob b))];rfl
theorem rE_size : ∀ l : List Entry,l.length ≤ (rE l).size
 | [] => Nat.le_refl _
 | e :: l => by
  have := rE_size l
  show l.length + 1 ≤ (lnB (wEnt e) ++ rE l).size
  rw [ByteArray.size_append,lnB_size];omega
theorem rB_size (r : ByteArray) : ∀ l : List Blob,l.length + r.size ≤ (rB l r).size
 | [] => by simp [rB]
 | e :: l => by
  have := rB_size r l
  show l.length + 1 + r.size ≤ (lnB (wBlob e) ++ rB l r).size
  rw [ByteArray.size_append,lnB_size];omega
theorem read_E {c : Cache} (h : TxOk c) (r l : Int) (bs : List Blob) : ∀ (es : List Entry) (es0 : List Entry) (k i : Nat),(∀ e ∈ es,e ∈ c.2.2.2) → i ≠ 0 → es.length + 1 ≤ k → readGo k i (r,l,bs,es0) (rE es) = .inl (r,l,bs,es0 ++ es)
 | [],es0,k,i,_,hi,hk => by
  obtain ⟨k,rfl⟩ : ∃ m,k = m + 1 := ⟨k - 1,by simp at hk;omega⟩
  rw [readGo,if_neg (fun hh => hh.elim hi (fun h => h rfl)),List.append_nil]
 | e :: es,es0,k,i,hm,hi,hk => by
  rw [List.length_cons] at hk
  obtain ⟨k,rfl⟩ : ∃ m,k = m + 1 := ⟨k - 1,by omega⟩
  show readGo (k + 1) i _ (lnB (wEnt e) ++ rE es) = _
  have he := hm e List.mem_cons_self
  have hd : decide ((i : Int) = 0) = false := dec_f (by omega)
  rw [read_ln (by simp [wEnt]) (gw_wEnt h he) k i (c' := (r,l,bs,es0 ++ [e])) (rE es) (by rw [hd];exact line_ent h he r l bs es0),read_E h r l bs es (es0 ++ [e]) k (i + 1) (fun x hx => hm x (List.mem_cons_of_mem _ hx)) (by omega) (by omega)]
  simp
theorem read_B {c : Cache} (h : TxOk c) (r l : Int) (es : List Entry) (hE : ∀ e ∈ es,e ∈ c.2.2.2) : ∀ (bs : List Blob) (bs0 : List Blob) (k i : Nat),(∀ e ∈ bs,e ∈ c.2.2.1) → i ≠ 0 → bs.length + es.length + 1 ≤ k → readGo k i (r,l,bs0,[]) (rB bs (rE es)) = .inl (r,l,bs0 ++ bs,es)
 | [],bs0,k,i,_,hi,hk => by
  show readGo k i (r,l,bs0,[]) (rE es) = _
  rw [read_E h r l bs0 es [] k i hE hi (by simp at hk;omega),List.append_nil];rfl
 | b :: bs,bs0,k,i,hm,hi,hk => by
  rw [List.length_cons] at hk
  obtain ⟨k,rfl⟩ : ∃ m,k = m + 1 := ⟨k - 1,by omega⟩
  show readGo (k + 1) i _ (lnB (wBlob b) ++ rB bs (rE es)) = _
  have he := hm b List.mem_cons_self
  have hd : decide ((i : Int) = 0) = false := dec_f (by omega)
  rw [read_ln (by simp [wBlob]) (gw_wBlob h he) k i (c' := (r,l,bs0 ++ [b],[])) (rB bs (rE es)) (by rw [hd];exact line_blob h he r l bs0),read_B h r l es hE bs (bs0 ++ [b]) k (i + 1) (fun x hx => hm x (List.mem_cons_of_mem _ hx)) (by omega) (by omega)]
  simp
theorem read_txt {c : Cache} (h : ckCache c = 0) (hs : ¬ 2000000 < (txtB c).size) : readV (txtB c) = (c,0,0) := by
 have hk := txOk_of h
 unfold readV
 rw [if_neg hs]
 have e : readGo ((txtB c).size + 1) 0 emptyC (txtB c) = .inl c := by
  have hsz : 1 + c.2.2.1.length + c.2.2.2.length ≤ (txtB c).size := by
   have h1 := rB_size (rE c.2.2.2) c.2.2.1
   have h2 := rE_size c.2.2.2
   rw [txtB_r,ByteArray.size_append,lnB_size];omega
  generalize (txtB c).size = n at hsz
  rw [txtB_r,read_ln (by simp [wHead]) (gw_wHead hk) n 0 (c' := (c.1,c.2.1,[],[])) _ (line_head hk),read_B hk c.1 c.2.1 c.2.2.2 (fun e he => he) c.2.2.1 [] n 1 (fun e he => he) (by decide) (by omega)]
  rfl
 rw [e]
 exact if_pos h
theorem line_txt {c c' : Cache} {w : List ByteArray} (h : lineW c false w = some c') : txtB c' = txtB c ++ lnB w := by
 obtain ⟨r,l,bs,es⟩ := c
 unfold lineW at h
 rw [if_neg (show ¬ (false = true) by decide)] at h
 split at h
 ·cases h
 split at h
 ·rename_i hh
  obtain ⟨h0,h6,h7⟩ := hh
  dsimp only at h7
  obtain rfl : es = [] := List.eq_nil_of_length_eq_zero h7
  match w,h6 with
  | [x0,x1,x2,x3,x4,x5],_ =>
   obtain rfl : x0 = blobW := Option.some.inj h0
   split at h
   ·rename_i d n0 n1 n2 n3 hd hn
    obtain rfl : x1 = d := Option.some.inj hd
    obtain rfl := Option.some.inj h
    have hit := nvL_it (l := [x2,x3,x4,x5]) (by
     show nvL (List.drop 2 [blobW,x1,x2,x3,x4,x5]) ≠ []
     rw [hn];simp)
    have hn' : nvL [x2,x3,x4,x5] = [n0,n1,n2,n3] := hn
    rw [hn'] at hit
    simp only [List.map_cons,List.map_nil,List.cons.injEq,and_true] at hit
    obtain ⟨rfl,rfl,rfl,rfl⟩ := hit
    unfold txtB txEn txBl
    simp only [List.foldl_append,List.foldl_cons,List.foldl_nil]
    rfl
   ·cases h
 split at h
 ·rename_i hh
  obtain ⟨h0,h3⟩ := hh
  match w,h3 with
  | x0 :: x1 :: x2 :: rf,_ =>
   obtain rfl : x0 = entryW := Option.some.inj h0
   split at h
   ·rename_i d n0 hd hn
    obtain rfl : x1 = d := Option.some.inj hd
    obtain rfl := Option.some.inj h
    have hn' : nvL [x2] = [n0] := hn
    have hit := nvL_it (l := [x2]) (by rw [hn'];simp)
    rw [hn'] at hit
    simp only [List.map_cons,List.map_nil,List.cons.injEq,and_true] at hit
    subst hit
    unfold txtB txEn txBl
    simp only [List.foldl_append,List.foldl_cons,List.foldl_nil]
    rfl
   ·cases h
 ·cases h
theorem line_txt0 {c' : Cache} {w : List ByteArray} (h : lineW emptyC true w = some c') : txtB c' = lnB w := by
 unfold lineW at h
 rw [if_pos (show (true = true) from rfl)] at h
 split at h
 ·cases h
 split at h
 ·rename_i h0
  split at h
  ·rename_i a b hn
   obtain rfl := Option.some.inj h
   match w,h0 with
   | x0 :: r,h0 =>
    obtain rfl : x0 = cacheW := Option.some.inj h0
    have hn' : nvL r = [a,b] := hn
    have hit := nvL_it (l := r) (by rw [hn'];simp)
    rw [hn'] at hit
    rw [← hit]
    rfl
  ·cases h
 ·cases h
theorem cut_app {t : ByteArray} (h : (cutS t 10).2.2 = true) : t = lnB (splitS (cutS t 10).1 32) ++ (cutS t 10).2.1 := by
 unfold lnB
 rw [join_words]
 refine bytes_ext ?_
 rw [cut_true h,data_app,data_app]
 simp
theorem go_txt : ∀ (k i : Nat) (c x : Cache) (t : ByteArray),i ≠ 0 → readGo k i c t = .inl x → txtB x = txtB c ++ t
 | 0,i,c,x,t,_,h => by cases h
 | k + 1,i,c,x,t,hi,h => by
  rw [readGo] at h
  split at h
  ·split at h
   ·rename_i hc
    split at h
    ·rename_i c' hl
     rw [dec_f (show ¬ ((i : Int) = 0) by omega)] at hl
     rw [go_txt k (i + 1) c' x _ (by omega) h,line_txt hl,app_asc,← cut_app hc]
    ·cases h
   ·cases h
  ·rename_i hz
   have ht : t = ⟨#[]⟩ := Classical.byContradiction fun e => hz (.inr e)
   obtain rfl : c = x := by injection h
   rw [ht,app_nil]
theorem go_txt0 {k : Nat} {x : Cache} {t : ByteArray} (h : readGo k 0 emptyC t = .inl x) : txtB x = t := by
 cases k with
 | zero => cases h
 | succ k =>
  rw [readGo,if_pos (.inl rfl)] at h
  split at h
  ·rename_i hc
   split at h
   ·rename_i c' hl
    have hl' : lineW emptyC true (splitS (cutS t 10).1 32) = some c' := hl
    rw [go_txt k 1 c' x _ (by decide) h,line_txt0 hl',← cut_app hc]
   ·cases h
  ·cases h
theorem txt_read {t : ByteArray} (h : (readV t).2.2 = 0) : TextV (readV t).1 = (t,0) := by
 unfold readV at h ⊢
 split at h
 ·cases h
 rename_i hs
 rw [if_neg hs]
 cases hq : readGo (t.size + 1) 0 emptyC t with
 | inr n => rw [hq] at h;cases h
 | inl x =>
  rw [hq] at h
  unfold outV at h ⊢
  dsimp only at h ⊢
  by_cases hk : ckCache x = 0
  ·rw [if_pos hk]
   unfold TextV
   dsimp only
   rw [if_pos hk,go_txt0 hq,if_neg hs]
  ·rw [if_neg hk] at h;exact absurd h hk
theorem read_bad {t : ByteArray} (h : (readV t).2.2 ≠ 0) : (readV t).1 = emptyC := by
 unfold readV at h ⊢
 split at h
 ·rename_i hs;rw [if_pos hs]
 rename_i hs
 rw [if_neg hs]
 cases hq : readGo (t.size + 1) 0 emptyC t with
 | inr n => rfl
 | inl x =>
  rw [hq] at h
  unfold outV at h ⊢
  dsimp only at h ⊢
  by_cases hk : ckCache x = 0
  ·rw [if_pos hk] at h;exact absurd rfl h
  ·rw [if_neg hk]
end Go.Proofs.YthniagdphhcnkaaDoor
