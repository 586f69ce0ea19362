/-
  Trees of files: plain functions. No statement of the seat is proved here; no conditions.
-/
import Derived.Test.YtjfchihkhpinmaaGreatDoorOrd
namespace Go.Proofs.YtjfchihkhpinmaaGreatDoor
open Go.RowKit
set_option linter.unusedVariables false

structure LtOk {α : Type}(lt : α→α→Bool):Prop where
 irr:∀ a,lt a a=false
 trans:∀ {a b c},lt a b=true→lt b c=true→lt a c=true
section
variable {α : Type}{lt : α→α→Bool}
theorem LtOk.asymm (ho:LtOk lt){a b : α}(h:lt a b=true):lt b a=false:=by
 cases h2:lt b a with
 | false=>rfl
 | true=>have:=ho.trans h h2;rw[ho.irr]at this;cases this
abbrev Srt (lt : α→α→Bool) (l:List α):Prop:=l.Pairwise fun a b=>lt a b=true
abbrev Dis (lt : α→α→Bool) (l:List α):Prop:=l.Pairwise fun a b=>lt a b=true∨lt b a=true
structure IsSrt (lt : α→α→Bool) (l l':List α):Prop where
 perm:l'.Perm l
 srt:Srt lt l'
theorem Srt.dis {l:List α}(h:Srt lt l):Dis lt l:=List.Pairwise.imp (fun h=> .inl h) h
theorem Dis.perm {l l':List α}(h:Dis lt l) (p:l.Perm l'):Dis lt l':=(List.Perm.pairwise_iff (fun h=>h.symm) p).1 h
theorem IsSrt.dis {l l':List α}(h:IsSrt lt l l'):Dis lt l:=h.srt.dis.perm h.perm
theorem IsSrt.uniq (ho:LtOk lt){l a b:List α}(ha:IsSrt lt l a) (hb:IsSrt lt l b):a=b:=
 List.Perm.eq_of_pairwise (le:=fun x y=>lt x y=true) (fun x y _ _ h1 h2=>by rw[ho.asymm h1]at h2;cases h2) ha.srt hb.srt (ha.perm.trans hb.perm.symm)
theorem IsSrt.len {l l':List α}(h:IsSrt lt l l'):l'.length=l.length:=h.perm.length_eq
def insS (lt : α→α→Bool) (x : α):List α→List α
 | []=>[x]
 | y::l=>if lt x y=true then x::y::l else y::insS lt x l
theorem insS_perm {x : α} : ∀ {l:List α},(insS lt x l).Perm (x::l)
 | []=>List.Perm.refl _
 | y::l=>by
  unfold insS
  split
  ·exact List.Perm.refl _
  ·exact(List.Perm.cons y insS_perm).trans (List.Perm.swap x y l)
theorem QCt (ho:LtOk lt){x : α} : ∀ {l:List α},Srt lt l→(∀ y∈l,lt x y=true∨lt y x=true)→Srt lt (insS lt x l)
 | [],_,_=>List.pairwise_singleton _ _
 | y::l,h,hd=>by
  rw[Srt,List.pairwise_cons]at h
  unfold insS
  split
  ·rename_i hx
   refine List.pairwise_cons.2 ⟨fun z hz=> ?_,List.pairwise_cons.2 h⟩
   rcases List.mem_cons.1 hz with rfl|hz
   ·exact hx
   ·exact ho.trans hx (h.1 z hz)
  ·rename_i hx
   refine List.pairwise_cons.2 ⟨fun z hz=> ?_,QCt ho h.2 fun z hz=>hd z (List.mem_cons_of_mem _ hz)⟩
   rcases List.mem_cons.1 (insS_perm.mem_iff.1 hz)with rfl|hz
   ·exact(hd y List.mem_cons_self).resolve_left hx
   ·exact h.1 z hz
def srtS (lt : α→α→Bool):List α→List α
 | []=>[]
 | x::l=>insS lt x (srtS lt l)
theorem OB (ho:LtOk lt):∀ {l:List α},Dis lt l→IsSrt lt l (srtS lt l)
 | [],_=>⟨List.Perm.refl _,List.Pairwise.nil⟩
 | x::l,h=>by
  rw[Dis,List.pairwise_cons]at h
  have ih:=OB ho h.2
  exact⟨insS_perm.trans (List.Perm.cons x ih.perm),QCt ho ih.srt fun y hy=>h.1 y (ih.perm.mem_iff.1 hy)⟩
theorem IsSrt.eq (ho:LtOk lt){l l':List α}(h:IsSrt lt l l'):l'=srtS lt l:=h.uniq ho (OB ho h.dis)
theorem QCU:∀ {l:List α},(srtS lt l).length=l.length
 | []=>rfl
 | x::l=>by rw[srtS,insS_perm.length_eq,List.length_cons,List.length_cons,QCU]
end
def cutL:List UInt8→Option (List UInt8 × List UInt8)
 | []=>none
 | b::l=>if b=47 then some ([],l)else(cutL l).map fun x=>(b::x.1,x.2)
theorem Jb:∀ {p:List UInt8},cutL p=none↔(47:UInt8)∉p
 | []=>by simp [cutL]
 | b::l=>by
  unfold cutL
  by_cases h:b=47
  ·rw[if_pos h];simp [h]
  ·rw[if_neg h,Option.map_eq_none_iff,Jb,List.mem_cons]
   exact⟨fun h1 h2=>h2.elim (fun e=>h e.symm) h1,fun h1 h2=>h1 (.inr h2)⟩
theorem XP:∀ {p n r:List UInt8},cutL p=some (n,r)→p=n++47::r∧(47:UInt8)∉n
 | [],n,r,h=>by cases h
 | b::l,n,r,h=>by
  unfold cutL at h
  by_cases hb:b=47
  ·rw[if_pos hb]at h
   obtain⟨rfl,rfl⟩:=Prod.mk.inj (Option.some.inj h)
   exact⟨by rw[hb];rfl,by simp⟩
  ·rw[if_neg hb]at h
   obtain⟨⟨n',r'⟩,h1,h2⟩:=Option.map_eq_some_iff.1 h
   obtain⟨rfl,rfl⟩:=Prod.mk.inj h2
   obtain⟨h3,h4⟩:=XP h1
   exact⟨by rw[h3];rfl,fun hm=>(List.mem_cons.1 hm).elim (fun e=>hb e.symm) h4⟩
theorem KB:∀ {n r:List UInt8},(47:UInt8)∉n→cutL (n++47::r)=some (n,r)
 | [],r,_=>by simp [cutL]
 | b::n,r,h=>by
  rw[List.cons_append,cutL,if_neg (fun e=>h (by rw[e];exact List.mem_cons_self)),KB (fun hm=>h (List.mem_cons_of_mem _ hm))];rfl
abbrev FT:=List UInt8 × Bool × List UInt8
abbrev Nd:=List UInt8 × (FT ⊕ List FT)
def addD (n:List UInt8) (y:FT):List Nd→List Nd
 | (m,.inr fs)::t=>if m=n then(n,.inr (y::fs))::t else(n,.inr [y])::(m,.inr fs)::t
 | t=>(n,.inr [y])::t
def grp:List FT→List Nd
 | []=>[]
 | x::l=>match cutL x.1 with
  | none=>(x.1,.inl x)::grp l
  | some (n,r)=>addD n (r,x.2) (grp l)
def exN:Nd→List FT
 | (_,.inl f)=>[f]
 | (n,.inr fs)=>fs.map fun y=>(n++47::y.1,y.2)
theorem Vh (n:List UInt8) (y:FT) (m:List UInt8) (fs:List FT) (t:List Nd):addD n y ((m,.inr fs)::t)=if m=n then(n,.inr (y::fs))::t else(n,.inr [y])::(m,.inr fs)::t:=rfl
theorem addD_ex (n:List UInt8) (y:FT):∀ t:List Nd,(addD n y t).flatMap exN=(n++47::y.1,y.2)::t.flatMap exN
 | []=>rfl
 | (m,.inl f)::t=>rfl
 | (m,.inr fs)::t=>by
  rw[Vh]
  by_cases h:m=n
  ·rw[if_pos h,h];rfl
  ·rw[if_neg h];rfl
theorem KM:∀ l:List FT,(grp l).flatMap exN=l
 | []=>rfl
 | x::l=>by
  unfold grp
  cases h:cutL x.1 with
  | none=>simp only[List.flatMap_cons,exN,KM l];rfl
  | some nr=>
   obtain⟨n,r⟩:=nr
   simp only[addD_ex,KM l]
   rw[← (XP h).1]
def NdOk:Nd→Prop
 | (n,.inl f)=>f.1=n∧(47:UInt8)∉n
 | (n,.inr fs)=>fs≠[]∧(47:UInt8)∉n
theorem addD_ok {n:List UInt8}{y:FT}(hn:(47:UInt8)∉n):∀ {t:List Nd},(∀ d∈t,NdOk d)→∀ d∈addD n y t,NdOk d
 | [],_=>fun d hd=>by
  obtain rfl:=List.mem_singleton.1 hd;exact⟨by simp,hn⟩
 | (m,.inl f)::t,h=>fun d hd=>by
  rcases List.mem_cons.1 hd with rfl|hd
  ·exact⟨by simp,hn⟩
  ·exact h d hd
 | (m,.inr fs)::t,h=>fun d hd=>by
  rw[Vh]at hd
  by_cases e:m=n
  ·rw[if_pos e]at hd
   rcases List.mem_cons.1 hd with rfl|hd
   ·exact⟨by simp,hn⟩
   ·exact h d (List.mem_cons_of_mem _ hd)
  ·rw[if_neg e]at hd
   rcases List.mem_cons.1 hd with rfl|hd
   ·exact⟨by simp,hn⟩
   ·exact h d hd
theorem Zr:∀ (l:List FT),∀ d∈grp l,NdOk d
 | []=>fun d hd=>by cases hd
 | x::l=>fun d hd=>by
  unfold grp at hd
  cases h:cutL x.1 with
  | none=>
   rw[h]at hd
   rcases List.mem_cons.1 hd with rfl|hd
   ·exact⟨rfl,Jb.1 h⟩
   ·exact Zr l d hd
  | some nr=>
   obtain⟨n,r⟩:=nr
   rw[h]at hd
   exact addD_ok (XP h).2 (Zr l) d hd
theorem QCR {α β : Type}{f : α→List β} : ∀ {L:List α}{a : α},a∈L→(f a).Sublist (L.flatMap f)
 | b::L,a,h=>by
  rw[List.flatMap_cons]
  rcases List.mem_cons.1 h with rfl|h
  ·exact List.sublist_append_left _ _
  ·exact(QCR h).trans (List.sublist_append_right _ _)
theorem ZY {l:List FT}{d:Nd}(h:d∈grp l):(exN d).Sublist l:=by
 have:=QCR (f:=exN) h
 rwa [KM]at this
inductive PathO (PO:List UInt8→Prop):List UInt8→Prop
 | one (p:List UInt8) (h:(47:UInt8)∉p) (ho:PO p):PathO PO p
 | more (n r:List UInt8) (h:(47:UInt8)∉n) (ho:PO n) (hr:PathO PO r):PathO PO (n++47::r)
theorem PathO.cut {PO:List UInt8→Prop}{n r:List UInt8}(hn:(47:UInt8)∉n) (h:PathO PO (n++47::r)):PO n∧PathO PO r:=by
 generalize hp:n++47::r=p at h
 cases h with
 | one _ h1 h2=>exact absurd (by rw[← hp];simp) h1
 | more n' r' h1 h2 h3=>
  have e:=KB (r:=r) hn
  rw[hp,KB h1]at e
  obtain⟨rfl,rfl⟩:=Prod.mk.inj (Option.some.inj e)
  exact⟨h2,h3⟩
theorem PathO.flat {PO:List UInt8→Prop}{p:List UInt8}(hp:(47:UInt8)∉p) (h:PathO PO p):PO p:=by
 cases h with
 | one _ _ h2=>exact h2
 | more n r=>exact absurd (by simp) hp
structure Gd (PO:List UInt8→Prop) (l:List FT):Prop where
 srt:l.Pairwise fun a b=>Op.bytesLess a.1 b.1=true
 ok:∀ x∈l,PathO PO x.1
 noc:∀ x∈l,∀ y∈l,¬ (x.1++ [47]) <+: y.1
theorem bl_app (P:List UInt8){a b:List UInt8} : Op.bytesLess (P++a) (P++b)=Op.bytesLess a b:=by
 induction P with
 | nil=>rfl
 | cons c P ih=>simp only[List.cons_append,Op.bytesLess,UInt8.lt_irrefl,decide_false,Bool.false_or,beq_self_eq_true,Bool.true_and,ih]
theorem bl_mid:∀ {P a b h:List UInt8},(Op.bytesLess (P++a) h=true∨h=P++a)→(Op.bytesLess h (P++b)=true∨h=P++b)→P <+: h
 | [],a,b,h,_,_=>List.nil_prefix
 | c::P,a,b,h,h1,h2=>by
  rcases h1 with h1|rfl
  ·rcases h2 with h2|rfl
   ·cases h with
    | nil=>simp [Op.bytesLess]at h1
    | cons d t=>
     simp only[List.cons_append,Op.bytesLess,Bool.or_eq_true,Bool.and_eq_true,decide_eq_true_eq,beq_iff_eq]at h1 h2
     have hcd:c=d:=by
      rcases h1 with h1|h1
      ·rcases h2 with h2|h2
       ·exact absurd (UInt8.lt_trans h1 h2) (UInt8.lt_irrefl _)
       ·rw[h2.1]at h1;exact absurd h1 (UInt8.lt_irrefl _)
      ·exact h1.1
     subst hcd
     rw[List.cons_prefix_cons]
     refine⟨rfl,bl_mid (a:=a) (b:=b) (.inl ?_) (.inl ?_)⟩
     ·rcases h1 with h1|h1
      ·exact absurd h1 (UInt8.lt_irrefl _)
      ·exact h1.2
     ·rcases h2 with h2|h2
      ·exact absurd h2 (UInt8.lt_irrefl _)
      ·exact h2.2
   ·exact List.prefix_append _ _
  ·exact List.prefix_append _ _
theorem Gd.sub {PO:List UInt8→Prop}{l l':List FT}(h:Gd PO l) (hs:l'.Sublist l):Gd PO l':=
 ⟨h.srt.sublist hs,fun x hx=>h.ok x (hs.mem hx),fun x hx y hy=>h.noc x (hs.mem hx) y (hs.mem hy)⟩
theorem Gd.dir {PO:List UInt8→Prop}{l:List FT}(h:Gd PO l){n:List UInt8}{fs:List FT}(hm:(n,.inr fs)∈grp l):Gd PO fs∧PO n:=by
 have hs:=ZY hm
 have hok:=Zr l _ hm
 have hG:=h.sub hs
 refine⟨⟨?_,fun x hx=> ?_,fun x hx y hy hp=> ?_⟩,?_⟩
 ·have:=hG.srt
  rw[exN,List.pairwise_map]at this
  exact this.imp fun {a b} hab=>by
   have e:∀ (p:List UInt8),n++47::p=(n++ [47])++p:=fun p=>by simp
   have hab:Op.bytesLess (n++47::a.1) (n++47::b.1)=true:=hab
   rw[e a.1,e b.1,bl_app]at hab
   exact hab
 ·exact(PathO.cut hok.2 (hG.ok (n++47::x.1,x.2) (List.mem_map.2 ⟨x,hx,rfl⟩))).2
 ·refine hG.noc (n++47::x.1,x.2) (List.mem_map.2 ⟨x,hx,rfl⟩) (n++47::y.1,y.2) (List.mem_map.2 ⟨y,hy,rfl⟩) ?_
  obtain⟨t,ht⟩:=hp
  exact⟨t,by show(n++47::x.1)++ [47]++t=n++47::y.1;rw[← ht];simp⟩
 ·cases fs with
  | nil=>exact absurd rfl hok.1
  | cons x r=>exact(PathO.cut hok.2 (hG.ok (n++47::x.1,x.2) (List.mem_map.2 ⟨x,List.mem_cons_self,rfl⟩))).1
theorem Gd.file {PO:List UInt8→Prop}{l:List FT}(h:Gd PO l){n:List UInt8}{f:FT}(hm:(n,.inl f)∈grp l):f∈l∧f.1=n∧PO n:=by
 have hf:f∈l:=(ZY hm).mem (List.mem_singleton.2 rfl)
 obtain⟨h1,h2⟩:=Zr l _ hm
 exact⟨hf,h1,by have:=h.ok f hf;rw[h1]at this;exact this.flat h2⟩
def nmL (p:List UInt8):List UInt8:=match cutL p with
 | none=>p
 | some (n,_)=>n
theorem QDv {n m:List UInt8}{y:FT} : ∀ {t:List Nd},m∈(addD n y t).map (·.1)→m=n∨m∈t.map (·.1)
 | [],h=> .inl (List.mem_singleton.1 h)
 | (k,.inl f)::t,h=>by
  rcases List.mem_cons.1 h with h|h
  ·exact .inl h
  ·exact .inr h
 | (k,.inr fs)::t,h=>by
  rw[Vh]at h
  by_cases e:k=n
  ·rw[if_pos e]at h
   rcases List.mem_cons.1 h with h|h
   ·exact .inl h
   ·exact .inr (List.mem_cons_of_mem _ h)
  ·rw[if_neg e]at h
   rcases List.mem_cons.1 h with h|h
   ·exact .inl h
   ·exact .inr h
theorem JY:∀ {l:List FT}{m:List UInt8},m∈(grp l).map (·.1)→∃ x∈l,nmL x.1=m
 | [],m,h=>by cases h
 | x::l,m,h=>by
  unfold grp at h
  cases hc:cutL x.1 with
  | none=>
   rw[hc]at h
   rcases List.mem_cons.1 h with h|h
   ·exact⟨x,List.mem_cons_self,by unfold nmL;rw[hc];exact h.symm⟩
   ·obtain⟨y,hy,e⟩:=JY h
    exact⟨y,List.mem_cons_of_mem _ hy,e⟩
  | some nr=>
   obtain⟨n,r⟩:=nr
   rw[hc]at h
   rcases QDv h with h|h
   ·exact⟨x,List.mem_cons_self,by unfold nmL;rw[hc];exact h.symm⟩
   ·obtain⟨y,hy,e⟩:=JY h
    exact⟨y,List.mem_cons_of_mem _ hy,e⟩
theorem grp_head {y:FT}{l:List FT}{n r:List UInt8}(h:cutL y.1=some (n,r)):∃ fs t,grp (y::l)=(n,.inr fs)::t:=by
 unfold grp
 rw[h]
 show ∃ fs t,addD n (r,y.2) (grp l)=(n,.inr fs)::t
 match grp l with
 | []=>exact⟨_,_,rfl⟩
 | (m,.inl f)::t=>exact⟨_,_,rfl⟩
 | (m,.inr fs)::t=>
  rw[Vh]
  by_cases e:m=n
  ·rw[if_pos e];exact⟨_,_,rfl⟩
  ·rw[if_neg e];exact⟨_,_,rfl⟩
theorem Ox {PO:List UInt8→Prop} : ∀ {l:List FT},Gd PO l→((grp l).map (·.1)).Nodup
 | [],_=>List.nodup_nil
 | x::l,h=>by
  have hl:=h.sub (List.sublist_cons_self x l)
  have ih:=Ox hl
  have hs:=List.pairwise_cons.1 h.srt
  unfold grp
  cases hc:cutL x.1 with
  | none=>
   refine List.nodup_cons.2 ⟨fun hm=> ?_,ih⟩
   obtain⟨y,hy,e⟩:=JY hm
   have hlt:=hs.1 y hy
   unfold nmL at e
   cases hy2:cutL y.1 with
   | none=>rw[hy2]at e;dsimp only at e;rw[e,Xk]at hlt;cases hlt
   | some nr=>
    obtain⟨n,r⟩:=nr
    rw[hy2]at e
    dsimp only at e
    refine h.noc x List.mem_cons_self y (List.mem_cons_of_mem _ hy) ⟨r,?_⟩
    rw[(XP hy2).1,e];simp
  | some nr=>
   obtain⟨n,r⟩:=nr
   have hx:=XP hc
   show((addD n (r,x.2) (grp l)).map (·.1)).Nodup
   have hno:n∈(grp l).map (·.1)→∃ fs t,grp l=(n,.inr fs)::t:=fun hm=>by
    obtain⟨y,hy,e⟩:=JY hm
    unfold nmL at e
    cases hy2:cutL y.1 with
    | none=>
     rw[hy2]at e
     dsimp only at e
     exact absurd ⟨r,by rw[e,hx.1];simp⟩ (h.noc y (List.mem_cons_of_mem _ hy) x List.mem_cons_self)
    | some nr'=>
     obtain⟨n',r'⟩:=nr'
     rw[hy2]at e
     dsimp only at e
     subst e
     cases l with
     | nil=>cases hy
     | cons z l=>
      have hz:(n'++ [47]) <+: z.1:=by
       refine bl_mid (a:=r) (b:=r') (.inl ?_) ?_
       ·have:=hs.1 z List.mem_cons_self
        rw[hx.1]at this
        simpa using this
       ·rcases List.mem_cons.1 hy with rfl|hy
        ·exact .inr (by rw[(XP hy2).1];simp)
        ·have:=(List.pairwise_cons.1 hl.srt).1 y hy
         rw[(XP hy2).1]at this
         exact .inl (by simpa using this)
      obtain⟨s,hs2⟩:=hz
      exact grp_head (r:=s) (by rw[← hs2];simpa using KB (r:=s) hx.2)
   match hg:grp l with
   | []=>exact List.nodup_cons.2 ⟨by simp,List.nodup_nil⟩
   | (m,.inl f)::t=>
    rw[hg]at ih hno
    refine List.nodup_cons.2 ⟨fun hm=> ?_,ih⟩
    obtain⟨fs,t',e⟩:=hno hm
    cases e
   | (m,.inr fs)::t=>
    rw[hg]at ih hno
    rw[Vh]
    by_cases e:m=n
    ·rw[if_pos e]
     subst e
     exact ih
    ·rw[if_neg e]
     refine List.nodup_cons.2 ⟨fun hm=> ?_,ih⟩
     obtain⟨fs',t',e'⟩:=hno hm
     exact e (Prod.mk.inj (List.cons.inj e').1).1
def ltN (a b:Nd):Bool:=Op.bytesLess a.1 b.1
theorem ltN_ok:LtOk ltN:=⟨fun a=>Xk _,fun h1 h2=>Zi h1 h2⟩
theorem grp_disN {PO:List UInt8→Prop}{l:List FT}(h:Gd PO l):Dis ltN (grp l):=by
 have:=Ox h
 rw[List.Nodup,List.pairwise_map]at this
 exact this.imp fun {a b} hab=>by
  cases h1:Op.bytesLess a.1 b.1 with
  | true=>exact .inl h1
  | false=>exact .inr ((WX h1).resolve_left hab)
def nds (l:List FT):List Nd:=srtS ltN (grp l)
theorem Ma {PO:List UInt8→Prop}{l:List FT}(h:Gd PO l):IsSrt ltN (grp l) (nds l):=OB ltN_ok (grp_disN h)
theorem QCT {α : Type}{lt : α→α→Bool}{a : α} : ∀ {l:List α},a∈srtS lt l↔a∈l
 | []=>Iff.rfl
 | _::_=>by rw[srtS,insS_perm.mem_iff,List.mem_cons,List.mem_cons,QCT]
theorem Vg {l:List FT}{d:Nd} : d∈nds l↔d∈grp l:=QCT
def JW:List UInt8:=[102,105,108,101,32]
def Mh:List UInt8:=[100,105,114,32]
section
variable (dg:List UInt8→ByteArray)
def Xm (tx:List FT→List UInt8):Nd→List UInt8
 | (n,.inl f)=>JW++(n++32::((dg f.2.2).data.toList++ [32,if f.2.1=true then 120 else 45,10]))
 | (n,.inr fs)=>Mh++(n++32::((dg (tx fs)).data.toList++ [10]))
def txt:Nat→List FT→List UInt8
 | 0,_=>[]
 | k+1,l=>(nds l).flatMap (Xm dg (txt k))
def cont:Nat→List FT→List (List UInt8)
 | 0,_=>[]
 | k+1,l=>txt dg (k+1) l::(nds l).flatMap fun d=>match d.2 with
  | .inl f=>[f.2.2]
  | .inr fs=>cont k fs
end
def fl:Nat→List UInt8→List FT→List FT
 | 0,_,_=>[]
 | k+1,pre,l=>(nds l).flatMap fun d=>match d.2 with
  | .inl f=>[(pre++d.1,f.2)]
  | .inr fs=>fl k (pre++d.1++ [47]) fs
def Short (k:Nat) (l:List FT):Prop:=∀ x∈l,x.1.length<k
theorem Short.dir {k:Nat}{l:List FT}(h:Short (k+1) l){n:List UInt8}{fs:List FT}(hm:(n,.inr fs)∈grp l):Short k fs:=fun x hx=>by
 have:=h (n++47::x.1,x.2) ((ZY hm).mem (List.mem_map.2 ⟨x,hx,rfl⟩))
 simp only[List.length_append,List.length_cons]at this
 omega
theorem QBL {α β : Type}{f : α→List β}{l l':List α}(h:l.Perm l'):(l.flatMap f).Perm (l'.flatMap f):=h.flatMap_right f
theorem WN {α β : Type}{f g : α→List β} : ∀ {l:List α},(∀ a∈l,(f a).Perm (g a))→(l.flatMap f).Perm (l.flatMap g)
 | [],_=>List.Perm.refl _
 | a::l,h=>by
  rw[List.flatMap_cons,List.flatMap_cons]
  exact List.Perm.append (h a List.mem_cons_self) (WN fun b hb=>h b (List.mem_cons_of_mem _ hb))
theorem QAB {PO:List UInt8→Prop} : ∀ {k:Nat}{pre:List UInt8}{l:List FT},Gd PO l→Short k l→(fl k pre l).Perm (l.map fun x=>(pre++x.1,x.2))
 | 0,pre,l,_,hs=>by
  cases l with
  | nil=>exact List.Perm.refl _
  | cons x l=>exact absurd (hs x List.mem_cons_self) (Nat.not_lt_zero _)
 | k+1,pre,l,h,hs=>by
  have h1:(fl (k+1) pre l).Perm ((grp l).flatMap fun d=>match d.2 with
   | .inl f=>[(pre++d.1,f.2)]
   | .inr fs=>fl k (pre++d.1++ [47]) fs):=QBL (Ma h).perm
  refine h1.trans ?_
  have e:(l.map fun x=>(pre++x.1,x.2))=(grp l).flatMap fun d=>(exN d).map fun x=>(pre++x.1,x.2):=by
   conv=>lhs;rw[← KM l]
   rw[List.map_flatMap]
  rw[e]
  refine WN fun d hd=> ?_
  obtain⟨n,f|fs⟩:=d
  ·obtain⟨_,h2,_⟩:=h.file hd
   show [(pre++n,f.2)].Perm [(pre++f.1,f.2)]
   rw[h2]
  ·obtain⟨hG,_⟩:=h.dir hd
   show(fl k (pre++n++ [47]) fs).Perm ((fs.map fun y=>(n++47::y.1,y.2)).map fun x=>(pre++x.1,x.2))
   rw[List.map_map]
   have:=QAB (pre:=pre++n++ [47]) hG (hs.dir hd)
   refine this.trans (List.Perm.of_eq (List.map_congr_left fun x _=> ?_))
   show(pre++n++ [47]++x.1,x.2)=(pre++(n++47::x.1),x.2)
   simp
theorem fl_len {PO:List UInt8→Prop}{k:Nat}{pre:List UInt8}{l:List FT}(h:Gd PO l) (hs:Short k l):(fl k pre l).length=l.length:=by
 rw[(QAB h hs).length_eq,List.length_map]
def ltF (a b:FT):Bool:=Op.bytesLess a.1 b.1
theorem ltF_ok:LtOk ltF:=⟨fun _=>Xk _,fun h1 h2=>Zi h1 h2⟩
theorem fl_sort {PO:List UInt8→Prop}{k:Nat}{l l':List FT}(h:Gd PO l) (hs:Short k l) (hp:l'.Perm (fl k [] l)) (hsrt:Srt ltF l'):l'=l:=by
 have e:(l.map fun x:FT=>([]++x.1,x.2))=l:=by
  conv=>rhs;rw[← List.map_id l]
  rfl
 have h2:=QAB (pre:=[]) h hs
 rw[e]at h2
 exact IsSrt.uniq ltF_ok ⟨hp.trans h2,hsrt⟩ ⟨List.Perm.refl _,h.srt⟩
theorem cont_dir (dg:List UInt8→ByteArray){k:Nat}{l:List FT}{n:List UInt8}{fs:List FT}(hm:(n,.inr fs)∈nds l):∀ c∈cont dg k fs,c∈cont dg (k+1) l:=fun c hc=>
 List.mem_cons_of_mem _ (List.mem_flatMap.2 ⟨_,hm,hc⟩)
theorem cont_file (dg:List UInt8→ByteArray){k:Nat}{l:List FT}{n:List UInt8}{f:FT}(hm:(n,.inl f)∈nds l):f.2.2∈cont dg (k+1) l:=
 List.mem_cons_of_mem _ (List.mem_flatMap.2 ⟨_,hm,List.mem_singleton.2 rfl⟩)
theorem QC5 (dg:List UInt8→ByteArray){k:Nat}{l:List FT} : txt dg (k+1) l∈cont dg (k+1) l:=List.mem_cons_self
def snN (acc:List Nd) (x:FT):List Nd:=match cutL x.1 with
 | none=>acc++ [(x.1,.inl x)]
 | some (n,r)=>match acc.getLast? with
  | some (m,.inr fs)=>if m=n then acc.dropLast++ [(n,.inr (fs++ [(r,x.2)]))]else acc++ [(n,.inr [(r,x.2)])]
  | _=>acc++ [(n,.inr [(r,x.2)])]
theorem Jf {a b:Nd}{acc:List Nd}{x:FT} : snN (a::b::acc) x=a::snN (b::acc) x:=by
 unfold snN
 cases cutL x.1 with
 | none=>rfl
 | some nr=>
  obtain⟨n,r⟩:=nr
  have e1:(a::b::acc).getLast? = (b::acc).getLast?:=by simp [List.getLast?_cons_cons]
  have e2:(a::b::acc).dropLast=a::(b::acc).dropLast:=rfl
  simp only[e1,e2]
  split
  ·split<;>rfl
  ·rfl
theorem OH {n:List UInt8}{f:FT}{acc:List Nd}{x:FT} : snN ((n,.inl f)::acc) x=(n,.inl f)::snN acc x:=by
 cases acc with
 | nil=>
  unfold snN
  cases cutL x.1 with
  | none=>rfl
  | some nr=>rfl
 | cons b acc=>exact Jf
theorem grp_nil {l:List FT}(h:grp l = []):l = []:=by have:=KM l;rw[h]at this;exact this.symm
theorem addD_sn {n:List UInt8}{y:FT}{d:Nd}{t:List Nd}{x:FT} : addD n y (snN (d::t) x)=snN (addD n y (d::t)) x:=by
 obtain⟨m,f|fs⟩:=d
 ·rw[OH]
  show(n,.inr [y])::(m,.inl f)::snN t x=snN ((n,.inr [y])::(m,.inl f)::t) x
  rw[Jf,OH]
 ·cases t with
  | cons b t=>
   rw[Jf,Vh,Vh]
   by_cases e:m=n
   ·rw[if_pos e,if_pos e,Jf]
   ·rw[if_neg e,if_neg e,Jf,Jf]
  | nil=>
   unfold snN
   cases hc:cutL x.1 with
   | none=>
    show addD n y ((m,.inr fs):: [(x.1,.inl x)])=addD n y [(m,.inr fs)]++ [(x.1,.inl x)]
    rw[Vh,Vh]
    by_cases e:m=n
    ·rw[if_pos e,if_pos e];rfl
    ·rw[if_neg e,if_neg e];rfl
   | some nr=>
    obtain⟨k,r⟩:=nr
    simp only[List.getLast?_singleton,List.dropLast_singleton,List.nil_append]
    by_cases e2:m=k
    ·rw[if_pos e2,Vh,Vh]
     by_cases e:m=n
     ·have e3:k=n:=e2.symm.trans e
      rw[if_pos e3,if_pos e]
      simp only[List.getLast?_singleton,List.dropLast_singleton,List.nil_append]
      rw[if_pos e3.symm,e3];rfl
     ·have e3 : ¬ k=n:=fun h=>e (e2.trans h)
      rw[if_neg e3,if_neg e]
      simp only[List.getLast?_cons_cons,List.getLast?_singleton,List.dropLast_cons_cons,List.dropLast_singleton]
      rw[if_pos e2];rfl
    ·rw[if_neg e2]
     show addD n y ((m,.inr fs):: [(k,.inr [(r,x.2)])])=_
     rw[Vh,Vh]
     by_cases e:m=n
     ·rw[if_pos e,if_pos e]
      simp only[List.getLast?_singleton]
      rw[if_neg (fun h=>e2 (e.trans h))];rfl
     ·rw[if_neg e,if_neg e]
      simp only[List.getLast?_cons_cons,List.getLast?_singleton]
      rw[if_neg e2];rfl
theorem QCw:∀ {l:List FT}{x:FT},grp (l++ [x])=snN (grp l) x
 | [],x=>by
  show grp [x]=snN [] x
  unfold grp snN
  cases cutL x.1 with
  | none=>rfl
  | some nr=>rfl
 | y::l,x=>by
  rw[List.cons_append]
  have ih:=QCw (l:=l) (x:=x)
  rw[grp]
  cases hc:cutL y.1 with
  | none=>
   have e:grp (y::l)=(y.1,.inl y)::grp l:=by rw[grp,hc]
   rw[e,OH]
   show(y.1,.inl y)::grp (l++ [x])=_
   rw[ih]
  | some nr=>
   obtain⟨n,r⟩:=nr
   have e:grp (y::l)=addD n (r,y.2) (grp l):=by rw[grp,hc]
   rw[e]
   show addD n (r,y.2) (grp (l++ [x]))=_
   rw[ih]
   cases hg:grp l with
   | cons d t=>exact addD_sn
   | nil=>
    show addD n (r,y.2) (snN [] x)=snN [(n,.inr [(r,y.2)])] x
    unfold snN
    cases hx:cutL x.1 with
    | none=>rfl
    | some nr'=>
     obtain⟨k,s⟩:=nr'
     show addD n (r,y.2) [(k,.inr [(s,x.2)])]=_
     rw[Vh]
     simp only[List.getLast?_singleton,List.dropLast_singleton,List.nil_append]
     by_cases e:k=n
     ·rw[if_pos e,if_pos e.symm,e];rfl
     ·rw[if_neg e,if_neg (fun h=>e h.symm)];rfl
def hasP (n p:List UInt8):Bool:=decide ((n++ [47]) <+: p)
def YP (n:List UInt8) (l:List FT):List FT:=(l.filter fun x=>hasP n x.1).map fun x=>(x.1.drop (n.length+1),x.2)
theorem hasP_in {n r:List UInt8} : hasP n (n++47::r)=true:=decide_eq_true ⟨r,by simp⟩
theorem hasP_cut {n p:List UInt8}(hn:(47:UInt8)∉n):hasP n p=true↔∃ r,cutL p=some (n,r):=by
 unfold hasP
 rw[decide_eq_true_eq]
 refine⟨fun ⟨r,hr⟩=>⟨r,by rw[← hr];simpa using KB (r:=r) hn⟩,fun ⟨r,hr⟩=>⟨r,by rw[(XP hr).1];simp⟩⟩
theorem ex_name {d:Nd}(h:NdOk d):∀ x∈exN d,nmL x.1=d.1:=fun x hx=>by
 obtain⟨n,f|fs⟩:=d
 ·obtain rfl:=List.mem_singleton.1 hx
  unfold nmL
  obtain⟨h1,h2⟩:=h
  rw[h1,Jb.2 h2]
 ·obtain⟨y,hy,rfl⟩:=List.mem_map.1 hx
  unfold nmL
  rw[KB h.2]
theorem Mr {n:List UInt8}{fs:List FT}(hn:(47:UInt8)∉n):∀ {t:List Nd},(∀ d∈t,NdOk d)→(t.map (·.1)).Nodup→(n,.inr fs)∈t→(t.flatMap exN).filter (fun x=>hasP n x.1)=fs.map fun y=>(n++47::y.1,y.2)
 | d::t,hk,hd,hm=>by
  rw[List.flatMap_cons,List.filter_append]
  have hnd:=List.nodup_cons.1 hd
  have hno:∀ {e:Nd},NdOk e→e.1≠n→(exN e).filter (fun x=>hasP n x.1) = []:=fun {e} he hne=>by
   refine List.filter_eq_nil_iff.2 fun x hx hp=> ?_
   obtain⟨r,hr⟩:=(hasP_cut hn).1 hp
   have:=ex_name he x hx
   unfold nmL at this
   rw[hr]at this
   exact hne this.symm
  rcases List.mem_cons.1 hm with rfl|hm
  ·have h1:(exN (n,.inr fs)).filter (fun x=>hasP n x.1)=exN (n,.inr fs):=List.filter_eq_self.2 fun x hx=>by
    obtain⟨y,hy,rfl⟩:=List.mem_map.1 hx
    exact hasP_in
   have h2:(t.flatMap exN).filter (fun x=>hasP n x.1) = []:=by
    refine List.filter_eq_nil_iff.2 fun x hx hp=> ?_
    obtain⟨e,he,hxe⟩:=List.mem_flatMap.1 hx
    have hee:e.1≠n:=fun h=>hnd.1 (List.mem_map.2 ⟨e,he,h⟩)
    have:=List.filter_eq_nil_iff.1 (hno (hk e (List.mem_cons_of_mem _ he)) hee) x hxe
    exact this hp
   rw[h1,h2,List.append_nil];rfl
  ·have hne:d.1≠n:=fun h=>hnd.1 (List.mem_map.2 ⟨_,hm,h.symm⟩)
   rw[hno (hk d List.mem_cons_self) hne,List.nil_append]
   exact Mr hn (fun e he=>hk e (List.mem_cons_of_mem _ he)) hnd.2 hm
theorem below_dir {PO:List UInt8→Prop}{l:List FT}(h:Gd PO l){n:List UInt8}{fs:List FT}(hm:(n,.inr fs)∈grp l):YP n l=fs∧∀ x∈l,x.1≠n:=by
 have hn:=(Zr l _ hm).2
 refine⟨?_,fun x hx e=> ?_⟩
 ·have:=Mr hn (Zr l) (Ox h) hm
  rw[KM]at this
  unfold YP
  rw[this,List.map_map]
  conv=>rhs;rw[← List.map_id fs]
  refine List.map_congr_left fun y _=> ?_
  show((n++47::y.1).drop (n.length+1),y.2)=y
  rw[show n++47::y.1=(n++ [47])++y.1 by simp,List.drop_left' (by simp)]
 ·obtain⟨hne,_⟩:=Zr l _ hm
  cases fs with
  | nil=>exact hne rfl
  | cons y r=>
   have hy:(n++47::y.1,y.2)∈l:=(ZY hm).mem (show _∈(y::r).map (fun y=>((n++47::y.1,y.2):FT))from List.mem_map.2 ⟨y,List.mem_cons_self,rfl⟩)
   exact h.noc x hx _ hy ⟨y.1,by rw[e];simp⟩
theorem QDq {PO:List UInt8→Prop}{l:List FT}(h:Gd PO l){n:List UInt8}{f:FT}(hm:(n,.inl f)∈grp l):(∀ x∈l,hasP n x.1=false)∧∀ x∈l,x.1=n→x=f:=by
 obtain⟨hf,h1,h2⟩:=h.file hm
 refine⟨fun x hx=> ?_,fun x hx e=> ?_⟩
 ·cases hp:hasP n x.1 with
  | false=>rfl
  | true=>
   unfold hasP at hp
   rw[decide_eq_true_eq]at hp
   exact absurd (h1▸hp) (h.noc f hf x hx)
 ·have hs:=h.srt
  rcases Decidable.em (x=f)with h3|h3
  ·exact h3
  ·exfalso
   obtain⟨i,hi⟩:=List.mem_iff_getElem?.1 hx
   obtain⟨j,hj⟩:=List.mem_iff_getElem?.1 hf
   rw[List.pairwise_iff_getElem]at hs
   obtain⟨hi1,hi2⟩:=List.getElem?_eq_some_iff.1 hi
   obtain⟨hj1,hj2⟩:=List.getElem?_eq_some_iff.1 hj
   rcases Nat.lt_trichotomy i j with hij|hij|hij
   ·have:=hs i j hi1 hj1 hij
    rw[hi2,hj2,e,h1,Xk]at this;cases this
   ·subst hij;exact h3 (hi2.symm.trans hj2)
   ·have:=hs j i hj1 hi1 hij
    rw[hi2,hj2,e,h1,Xk]at this;cases this
def Xi (n:List UInt8) (out:List (List UInt8 × Nat)):Nat:=(out.takeWhile fun y=>Op.bytesLess y.1 n).length
def insC (n:List UInt8) (out:List (List UInt8 × Nat)):List (List UInt8 × Nat):=match out[Xi n out]? with
 | some (m,c)=>if m=n then out.set (Xi n out) (m,c+1)else out.take (Xi n out)++(n,1)::out.drop (Xi n out)
 | none=>out.take (Xi n out)++(n,1)::out.drop (Xi n out)
def Vd (l:List FT):List (List UInt8 × Nat):=l.foldl (fun out x=>insC (nmL x.1) out) []
theorem UU {l:List FT}{x:FT} : Vd (l++ [x])=insC (nmL x.1) (Vd l):=by unfold Vd;rw[List.foldl_append];rfl
theorem QCp (n:List UInt8) (out:List (List UInt8 × Nat)):Xi n out≤out.length:=(List.takeWhile_sublist _).length_le
theorem tw_mem {α : Type}{p : α→Bool} : ∀ {l:List α}{i:Nat}{y : α},i<(l.takeWhile p).length→l[i]? = some y→p y=true
 | [],i,y,h,_=>by simp at h
 | a::l,i,y,h,hy=>by
  rw[List.takeWhile_cons]at h
  split at h
  ·rename_i ha
   cases i with
   | zero=>obtain rfl:=Option.some.inj hy;exact ha
   | succ i=>exact tw_mem (l:=l) (i:=i) (by simpa using h) (by simpa using hy)
  ·simp at h
theorem tw_at {α : Type}{p : α→Bool} : ∀ {l:List α}{y : α},l[(l.takeWhile p).length]? = some y→p y=false
 | [],y,h=>by simp at h
 | a::l,y,h=>by
  rw[List.takeWhile_cons]at h
  split at h
  ·exact tw_at (l:=l) (by simpa using h)
  ·rename_i ha
   obtain rfl:=Option.some.inj h
   exact Bool.eq_false_iff.2 ha
theorem QCo {n:List UInt8}{out:List (List UInt8 × Nat)}{i:Nat}{y:List UInt8 × Nat}(h:i<Xi n out) (hy:out[i]? = some y):Op.bytesLess y.1 n=true:=tw_mem (p:=fun y:List UInt8 × Nat=>Op.bytesLess y.1 n) h hy
theorem QCq {n:List UInt8}{out:List (List UInt8 × Nat)}{y:List UInt8 × Nat}(hy:out[Xi n out]? = some y):Op.bytesLess y.1 n=false:=tw_at (p:=fun y:List UInt8 × Nat=>Op.bytesLess y.1 n) hy
theorem kName_eq {n:List UInt8}{out:List (List UInt8 × Nat)}{k:Nat}(hk:k≤out.length) (h1:∀ (i:Nat) y,i<k→out[i]? = some y→Op.bytesLess y.1 n=true) (h2:∀ y,out[k]? = some y→Op.bytesLess y.1 n=false):k=Xi n out:=by
 rcases Nat.lt_trichotomy k (Xi n out)with h|h|h
 ·have hy:=List.getElem?_eq_getElem (l:=out) (i:=k) (by have:=QCp n out;omega)
  have:=QCo h hy
  rw[h2 _ hy]at this;cases this
 ·exact h
 ·have hy:=List.getElem?_eq_getElem (l:=out) (i:=Xi n out) (by omega)
  have:=QCq hy
  rw[h1 _ _ h hy]at this;cases this
theorem mem_set' {α : Type}{l:List α}{i:Nat}{a b : α}(h:b∈l.set i a):b=a∨b∈l:=(List.mem_or_eq_of_mem_set h).symm
abbrev SrtC (out:List (List UInt8 × Nat)):Prop:=(out.map (·.1)).Pairwise fun a b=>Op.bytesLess a b=true
theorem QCv {n:List UInt8}{out:List (List UInt8 × Nat)} : (insC n out).map (·.1)=if n∈out.map (·.1)∧(out[Xi n out]?.map (·.1))=some n then out.map (·.1)else(out.map (·.1)).take (Xi n out)++n::(out.map (·.1)).drop (Xi n out):=by
 unfold insC
 cases hy:out[Xi n out]? with
 | none=>
  simp only[Option.map_none]
  rw[if_neg (fun h=>by cases h.2),List.map_append,List.map_cons,List.map_take,List.map_drop]
 | some y=>
  obtain⟨m,c⟩:=y
  simp only[Option.map_some,Option.some.injEq]
  by_cases e:m=n
  ·rw[if_pos e,if_pos ⟨by rw[← e];exact List.mem_map.2 ⟨_,List.mem_of_getElem? hy,rfl⟩,e⟩,List.map_set]
   apply List.ext_getElem?
   intro i
   rw[List.getElem?_set]
   split
   ·rename_i hi
    subst hi
    rw[List.getElem?_map,hy,List.length_map,if_pos ((List.getElem?_eq_some_iff.1 hy).1)];rfl
   ·rfl
  ·rw[if_neg e,if_neg (fun h=>e h.2),List.map_append,List.map_cons,List.map_take,List.map_drop]
theorem insC_mem {n m:List UInt8}{out:List (List UInt8 × Nat)} : m∈(insC n out).map (·.1)↔m=n∨m∈out.map (·.1):=by
 rw[QCv]
 split
 ·rename_i h
  exact⟨.inr,fun h2=>h2.elim (fun e=>e▸h.1) id⟩
 ·rw[List.mem_append,List.mem_cons]
  constructor
  ·rintro(h|h|h)
   ·exact .inr (List.mem_of_mem_take h)
   ·exact .inl h
   ·exact .inr (List.mem_of_mem_drop h)
  ·rintro(h|h)
   ·exact .inr (.inl h)
   ·rw[← List.take_append_drop (Xi n out) (out.map (·.1)),List.mem_append]at h
    exact h.elim .inl fun h=> .inr (.inr h)
theorem insC_srt {n:List UInt8}{out:List (List UInt8 × Nat)}(h:SrtC out):SrtC (insC n out):=by
 unfold SrtC at h ⊢
 rw[QCv]
 split
 ·exact h
 ·rename_i hne
  have h2:=h
  rw[← List.take_append_drop (Xi n out) (out.map (·.1)),List.pairwise_append]at h2
  obtain⟨a1,a2,a3⟩:=h2
  have hlt:∀ a∈(out.map (·.1)).take (Xi n out),Op.bytesLess a n=true:=fun a ha=>by
   obtain⟨i,hi⟩:=List.mem_iff_getElem?.1 ha
   rw[List.getElem?_take]at hi
   split at hi
   ·rename_i hlt
    rw[List.getElem?_map]at hi
    obtain⟨y,hy,rfl⟩:=Option.map_eq_some_iff.1 hi
    exact QCo hlt hy
   ·cases hi
  have hgt:∀ a∈(out.map (·.1)).drop (Xi n out),Op.bytesLess n a=true:=fun a ha=>by
   cases hy:out[Xi n out]? with
   | none=>
    rw[List.drop_of_length_le (by rw[List.length_map];exact List.getElem?_eq_none_iff.1 hy)]at ha
    cases ha
   | some y=>
    have h0:=QCq hy
    have hyn:y.1≠n:=fun e=>hne ⟨by rw[← e];exact List.mem_map.2 ⟨_,List.mem_of_getElem? hy,rfl⟩,by rw[hy,Option.map_some,e]⟩
    have hny:=(WX h0).resolve_left hyn
    have hyl:=(List.getElem?_eq_some_iff.1 hy).1
    have hd:(out.map (·.1)).drop (Xi n out)=y.1::(out.map (·.1)).drop (Xi n out+1):=by
     rw[List.drop_eq_getElem_cons (by rw[List.length_map];exact hyl)]
     congr 1
     rw[List.getElem_map]
     exact congrArg (·.1) (List.getElem?_eq_some_iff.1 hy).2
    rw[hd]at ha a2
    rcases List.mem_cons.1 ha with rfl|ha
    ·exact hny
    ·exact Zi hny ((List.pairwise_cons.1 a2).1 a ha)
  refine List.pairwise_append.2 ⟨a1,List.pairwise_cons.2 ⟨hgt,a2⟩,fun a ha b hb=> ?_⟩
  rcases List.mem_cons.1 hb with rfl|hb
  ·exact hlt a ha
  ·exact a3 a ha b hb
theorem QDa:∀ (l:List FT),SrtC (Vd l)∧∀ m,m∈(Vd l).map (·.1)↔∃ x∈l,nmL x.1=m:=fun l=>by
 have key:∀ (l:List FT) (out:List (List UInt8 × Nat)),SrtC out→SrtC (l.foldl (fun out x=>insC (nmL x.1) out) out)∧∀ m,m∈(l.foldl (fun out x=>insC (nmL x.1) out) out).map (·.1)↔m∈out.map (·.1)∨∃ x∈l,nmL x.1=m:=by
  intro l
  induction l with
  | nil=>exact fun out h=>⟨h,fun m=>⟨.inl,fun h=>h.elim id fun ⟨x,hx,_⟩=>by cases hx⟩⟩
  | cons x l ih=>
   intro out h
   obtain⟨h1,h2⟩:=ih (insC (nmL x.1) out) (insC_srt h)
   refine⟨h1,fun m=>(h2 m).trans ?_⟩
   rw[insC_mem]
   constructor
   ·rintro((h|h)|⟨y,hy,e⟩)
    ·exact .inr ⟨x,List.mem_cons_self,h.symm⟩
    ·exact .inl h
    ·exact .inr ⟨y,List.mem_cons_of_mem _ hy,e⟩
   ·rintro(h|⟨y,hy,e⟩)
    ·exact .inl (.inr h)
    ·rcases List.mem_cons.1 hy with rfl|hy
     ·exact .inl (.inl e.symm)
     ·exact .inr ⟨y,hy,e⟩
 obtain⟨h1,h2⟩:=key l [] List.Pairwise.nil
 exact⟨h1,fun m=>(h2 m).trans ⟨fun h=>h.elim (fun h=>by cases h) id,.inr⟩⟩
theorem names_nds {PO:List UInt8→Prop}{l:List FT}(h:Gd PO l):(Vd l).map (·.1)=(nds l).map (·.1):=by
 obtain⟨h1,h2⟩:=QDa l
 have hs:((nds l).map (·.1)).Pairwise fun a b=>Op.bytesLess a b=true:=by
  rw[List.pairwise_map];exact(Ma h).srt
 have nd:∀ {L:List (List UInt8)},L.Pairwise (fun a b=>Op.bytesLess a b=true)→L.Nodup:=fun {L} hL=>hL.imp fun {a b} hab e=>by rw[e,Xk]at hab;cases hab
 refine List.Perm.eq_of_pairwise (le:=fun a b=>Op.bytesLess a b=true) (fun a b _ _ h3 h4=>by have:=Zi h3 h4;rw[Xk]at this;cases this) h1 hs ((List.perm_ext_iff_of_nodup (nd h1) (nd hs)).2 fun m=> ?_)
 rw[h2]
 constructor
 ·rintro⟨x,hx,rfl⟩
  rw[← KM l]at hx
  obtain⟨d,hd,hxd⟩:=List.mem_flatMap.1 hx
  exact List.mem_map.2 ⟨d,Vg.2 hd,(ex_name (Zr l d hd) x hxd).symm⟩
 ·intro hm
  obtain⟨d,hd,rfl⟩:=List.mem_map.1 hm
  exact JY (List.mem_map.2 ⟨d,Vg.1 hd,rfl⟩)
end Go.Proofs.YtjfchihkhpinmaaGreatDoor
