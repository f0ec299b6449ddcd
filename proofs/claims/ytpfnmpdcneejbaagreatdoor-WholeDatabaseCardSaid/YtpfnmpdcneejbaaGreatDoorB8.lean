/- stratagemtop.WholeDatabase returns true for every input. No condition beyond the card's own. -/
import Derived.Test.YtpfnmpdcneejbaaGreatDoorB2
import Derived.Test.YtpfnmpdcneejbaaGreatDoorB7
import Derived.Laws.Pointers
import Derived.Test.YtpfnmpdcneejbaaGreatDoorB6
import Derived.Test.YtpfnmpdcneejbaaGreatDoorB4
import Derived.Test.YtpfnmpdcneejbaaGreatDoorB5
import Derived.Test.YtpfnmpdcneejbaaGreatDoorB1
import Derived.Deep.Slices
import Derived.Deep.Fields
import Derived.ChangeSame
import Derived.SizedLaws
import Derived.Lib.SmallJoins
import Derived.Below
import Derived.OpenShut
import Derived.Carry
import Derived.Test.YtpfnmpdcneejbaaGreatDoorCards
import Derived.Test.YtpfnmpdcneejbaaGreatDoorTie
import Derived.WalkKit
import Derived.ProofKit
import Derived.Deep.DeepHandedRow
import Derived.Lib.LaidTab
import Derived.Lib.ItoaNum
set_option linter.unusedVariables false
set_option linter.unusedSectionVars false
set_option linter.unusedSimpArgs false
open List renaming getElem?_eq_getElem→gE_, length_map→lM_, length_append→lA_, mem_cons_of_mem→mC_, length_cons→lC_, mem_cons_self→mS_, mem_of_getElem?→mG_, getElem?_eq_some_iff→gS_, getD_eq_getElem?_getD→gD_, mem_singleton→mI_, take_of_length_le→tL_
open Option.some renaming inj→sI_
open Bool renaming and_eq_true→bA_
open Array renaming getD_eq_getD_getElem?→aD_, getElem?_eq_getElem→aE_
namespace Go.Proofs.YtpfnmpdcneejbaaGreatDoor.Am
open Go.RowKit
theorem bT5 {n m:Nat}(h:Nat.ble n m=true):n<=m:=Nat.le_of_ble_eq_true h
def HRow (w:World)(vs:Shp)(m:MM)(X:Nat->Prop)(z:Nat)(B:Blk)(v:Value):Prop :=
 B.box=false/\FrL B.els/\((B.els=[]/\v=.slice none 0 0) \/
  ∃b cap n ty,v=.slice (some ⟨b,0,none⟩) B.els.length cap/\m.O b/\(X b\/z<=b)/\B.els.length<=cap/\cap<=maxLen/\w.shape? b=some (ty,n)/\cap*B.sz=n/\BlkOk w vs m B (some b))
structure Zayq (w:World)(vs:Shp)(m:MM)(X:Nat->Prop)(z:Nat)(rows:List Blk)(vals:List Value):Prop where
 len:vals.length=rows.length
 row:∀(k:Nat) (B:Blk) (v:Value),rows[k]?=some B->vals[k]?=some v->HRow w vs m X z B v
 dis:∀(k k':Nat) (v v':Value) (b:Nat),vals[k]?=some v->vals[k']?=some v'->v.ownBlock=some b->v'.ownBlock=some b->k=k'
theorem HRow.blk {w:World}{vs:Shp}{m:MM}{X:Nat->Prop}{z:Nat}{B:Blk}{v:Value}(h:HRow w vs m X z B v){b:Nat}(hb:v.ownBlock=some b):m.O b/\(X b\/z<=b)/\BlkOk w vs m B (some b):=by
 obtain⟨_,_,⟨_,rfl⟩|⟨b',cap,n,ty,rfl,h1,h2,_,_,_,_,h3⟩⟩:=h
 ·cases hb
 ·injection hb with hb
  subst hb
  exact⟨h1,h2,h3⟩
section
variable {C : Cx} {n : Nat} {w0 : World} {X : XX} {τ : Nat -> AV} {η : Nat -> Ent} {m : MM} {a : Act} {w : World}
theorem Rep.recast (h:Rep C n w0 X τ η m a w){O':Nat->Prop}{η':Nat->Ent}{m':MM}(hm:Mono w (shp η) m w (shp η') m')(hmem:Mem C.N w η' m')(ho:m'.O=O')
  (hown:∀i b,(η' i).blk≠none->m' i=some b->X b\/w0.heap.size<=b) (hkk:∀i,n<=i->η' i=η i/\m' i=m i):Rep C n w0 ⟨X.X,O',X.ks,X.M⟩ τ η' m' a w:=by
 refine⟨λt=>(h.tm t).mono hm,h.sz,h.df,hmem,h.kin,ho,hown,h.gl,λi hi=>?_⟩
 obtain⟨k1,k2,k3,k4⟩:=h.kk i hi
 obtain⟨e1,e2⟩:=hkk i k1
 exact⟨k1,by rw[e1];exact k2,by rw[e2];exact k3,λb hb=>k4 b (by rw[<-e2];exact hb)⟩
def Zacx (els els':List (List AV))(p:AV->AV->Prop):Prop :=
 els'.length=els.length/\∀(k:Nat) (e e':List AV),els[k]?=some e->els'[k]?=some e'->e'.length=e.length/\∀(j:Nat) (x x':AV),e[j]?=some x->e'[j]?=some x'->x'=x\/p x x'
theorem BlkOk.cells2 {w:World}{vs vs':Shp}{m m':MM}{B:Blk}{els':List (List AV)}{o:Option Nat}(h:BlkOk w vs m B o)(hm:Mono w vs m w vs' m'){p:AV->AV->Prop}(hr:Zacx B.els els' p)(hp:∀x x' u,p x x'->RV w vs m x u->RV w vs' m' x' u):BlkOk w vs' m' { B with els:=els' } o:=by
 cases o with
 | none=>exact⟨List.length_eq_zero_iff.1 (by show els'.length=0;rw[hr.1,h.1];rfl),h.2⟩
 | some b =>
  obtain⟨arr,a1,a2,a3⟩:=h
  refine⟨arr,a1.congr rfl rfl hr.1 rfl,by show els'.length*_<=_;rw[hr.1];exact a2,λk e' he'=>?_⟩
  have hlt:k<B.els.length:=by rw[<-hr.1];exact(gS_.1 he').1
  have hge:=gE_ hlt
  obtain⟨l1,l2⟩:=hr.2 k _ e' hge he'
  obtain⟨q1,q2⟩:=a3 k _ hge
  refine⟨by rw[l1,q1],λj x' hx'=>?_⟩
  have hj:j<(B.els[k]).length:=by rw[<-l1];exact(gS_.1 hx').1
  have hgj:=gE_ hj
  obtain⟨u,u1,u2,u3⟩:=q2 j _ hgj
  refine⟨u,u1,u2,?_⟩
  rcases l2 j _ x' hgj hx' with e|e
  ·rw[e];exact u3.mono hm
  ·exact hp _ _ u e u3
theorem Rep.focus (h:Rep C n w0 X τ η m a w){T F vT:Nat}{BT B:Blk}{v:Value}{els':List (List AV)}(hT:η T=⟨vT,some BT⟩)(hF:(η F).blk=none)(hTF:T≠F)(hTn:T<n)(hFn:F<n)
  (hrow:HRow w (shp η) m X.X w0.heap.size B v) (hr:Zacx BT.els els' (λx x'=>x=.c v/\x'=.own F ((η F).ver+1) 0 B.els.length)) :
  ∃m':MM,m'.O=(λb=>X.O b/\v.ownBlock≠some b)/\Mono w (shp η) m w (shp (Zeo (Zeo η T ⟨vT,some { BT with els:=els' }⟩) F ⟨(η F).ver+1,some B⟩)) m' /\
   (∀b,Zdf (shp η) m b->m'.O b\/v.ownBlock=some b\/∃i,i≠F/\(η i).blk≠none/\m i=some b) /\
   Rep C n w0 ⟨X.X,λb=>X.O b/\v.ownBlock≠some b,X.ks,X.M⟩ τ (Zeo (Zeo η T ⟨vT,some { BT with els:=els' }⟩) F ⟨(η F).ver+1,some B⟩) m' a w:=by
 refine⟨⟨λi=>if i=F then v.ownBlock else m i,λb=>X.O b/\v.ownBlock≠some b⟩,rfl,?_⟩
 generalize hη':Zeo (Zeo η T ⟨vT,some { BT with els:=els' }⟩) F ⟨(η F).ver+1,some B⟩=η'
 generalize hm':(⟨λi=>if i=F then v.ownBlock else m i,λb=>X.O b/\v.ownBlock≠some b⟩:MM)=m'
 have eF:η' F=⟨(η F).ver+1,some B⟩:=by rw[<-hη'];simp[Zeo]
 have eT:η' T=⟨vT,some { BT with els:=els' }⟩:=by rw[<-hη'];simp[Zeo,hTF]
 have eO:∀i,i≠F->i≠T->η' i=η i:=λi h1 h2=>by rw[<-hη'];simp[Zeo,h1,h2]
 have mF:m' F=v.ownBlock:=by rw[<-hm'];simp
 have mO:∀i,i≠F->m' i=m i:=λi h1=>by rw[<-hm'];simp[h1]
 have mOO:m'.O=λb=>X.O b/\v.ownBlock≠some b:=by rw[<-hm']
 have hXO:=h.oo
 have live:∀i,i≠F->((η' i).blk≠none↔(η i).blk≠none):=λi h1=>by
  by_cases h2:i=T
  ·subst h2;rw[eT,hT];simp
  ·rw[eO i h1 h2]
 have hm:Mono w (shp η) m w (shp η') m':=by
  refine⟨Nat.le_refl _,λ_ _ _=>rfl,λb hb ho=>?_,λi=>?_,λi hi=>?_⟩
  ·rintro(h1|⟨i,h1,h2⟩)
   ·rw[mOO]at h1
    exact ho (.inl (by rw[hXO];exact h1.1))
   ·by_cases e:i=F
    ·subst e
     rw[mF]at h2
     exact ho (.inl (hrow.blk h2).1)
    ·rw[mO i e]at h2
     exact ho (.inr ⟨i,Zau.2 ((live i e).1 (Zau.1 h1)),h2⟩)
  ·by_cases e:i=F
   ·subst e;simp[shp,eF]
   ·by_cases e2:i=T
    ·subst e2;simp[shp,eT,hT]
    ·simp[shp,eO i e e2]
  ·by_cases e:i=F
   ·subst e;simp[shp,eF]at hi
   ·refine⟨?_,λ_=>⟨mO i e,λb _=>rfl⟩⟩
    by_cases e2:i=T
    ·subst e2;simp[shp,eT,hT]
    ·simp[shp,eO i e e2]
 have hrv:∀x x' u,(x=.c v/\x'=.own F ((η F).ver+1) 0 B.els.length)->RV w (shp η) m x u->RV w (shp η') m' x' u:=by
  rintro x x' u ⟨rfl,rfl⟩ hx
  have:=Zjp hx
  subst this
  have hs:shp η' F=((η F).ver+1,some B.sz):=by simp[shp,eF]
  obtain⟨_,_,⟨h1,rfl⟩|⟨b,cap,nn,ty,rfl,h1,h2,h3,h4,h5,h6,h7⟩⟩:=hrow
  ·rw[h1]
   exact .ownN hs (by rw[mF];rfl)
  ·have:=RV.own (w:=w) (vs:=shp η') (m:=m') (k:=0) (len:=B.els.length) (cap:=cap) hs (by rw[mF];rfl) h3 h4 h5 (by rw[Nat.zero_add];exact h6)
   simpa using this
 have hmem:Mem C.N w η' m':=by
  refine⟨λi B' hB'=>?_,λi i' b h1 h2 h3 h4=>?_,λi b h1 h2=>?_,λi b h1 h2=>?_,λb hb=>?_,h.mem.big⟩
  ·by_cases e:i=F
   ·subst e
    rw[eF]at hB'
    injection hB' with hB'
    subst hB'
    rw[mF]
    obtain⟨hb0,_,⟨h1,rfl⟩|⟨b,cap,nn,ty,rfl,h1,h2,h3,h4,h5,h6,h7⟩⟩:=hrow
    ·exact⟨h1,hb0⟩
    ·exact h7.mono hm (λ_ _=>rfl)
   ·rw[mO i e]
    by_cases e2:i=T
    ·subst e2
     rw[eT]at hB'
     injection hB' with hB'
     subst hB'
     exact(h.mem.ok i BT (by rw[hT])).cells2 hm hr hrv
    ·rw[eO i e e2]at hB'
     exact(h.mem.ok i B' hB').mono hm (λ_ _=>rfl)
  ·by_cases e:i=F <;> by_cases e':i'=F
   ·rw[e,e']
   ·subst e
    rw[mF]at h3
    rw[mO i' e']at h4
    exact absurd (hrow.blk h3).1 (h.mem.sep i' b ((live i' e').1 h2) h4)
   ·subst e'
    rw[mF]at h4
    rw[mO i e]at h3
    exact absurd (hrow.blk h4).1 (h.mem.sep i b ((live i e).1 h1) h3)
   ·rw[mO i e]at h3
    rw[mO i' e']at h4
    exact h.mem.inj i i' b ((live i e).1 h1) ((live i' e').1 h2) h3 h4
  ·by_cases e:i=F
   ·subst e
    rw[mF]at h2
    exact(h.mem.olt b (hrow.blk h2).1).2
   ·rw[mO i e]at h2
    exact h.mem.low i b ((live i e).1 h1) h2
  ·rw[mOO]
   rintro⟨h3,h4⟩
   by_cases e:i=F
   ·subst e
    rw[mF]at h2
    exact h4 h2
   ·rw[mO i e]at h2
    exact h.mem.sep i b ((live i e).1 h1) h2 (by rw[hXO];exact h3)
  ·rw[mOO]at hb
   exact h.mem.olt b (by rw[hXO];exact hb.1)
 refine⟨hm,λb hb=>?_,h.recast hm hmem mOO (λi b h1 h2=>?_) (λi hi=>⟨eO i (by omega) (by omega),mO i (by omega)⟩)⟩
 ·rcases hb with h1|⟨i,h1,h2⟩
  ·by_cases e:v.ownBlock=some b
   ·exact .inr (.inl e)
   ·refine .inl ?_
    rw[mOO]
    exact⟨by rw[<-hXO];exact h1,e⟩
  ·refine .inr (.inr ⟨i,?_,Zau.1 h1,h2⟩)
   intro e
   subst e
   exact(Zau.1 h1) hF
 ·by_cases e:i=F
  ·subst e
   rw[mF]at h2
   exact(hrow.blk h2).2.1
  ·rw[mO i e]at h2
   exact h.own i b ((live i e).1 h1) h2
theorem Zarp {F vF len:Nat}{B:Blk}{u u':Value}(hF:η F=⟨vF,some B⟩)(hsz:0<B.sz)(h1:RV w (shp η) m (.own F vF 0 len) u)(h2:RV w (shp η) m (.own F vF 0 len) u'):u=u':=by
 rcases Zor h1 hF with⟨_,e0,em,rfl⟩|⟨k',A,e,_⟩|⟨b,cap,ty,nn,e1,e2,e3,e4,e5,rfl⟩
 ·rcases Zor h2 hF with⟨_,_,_,rfl⟩|⟨k',A,e,_⟩|⟨b,cap,ty,nn,f1,_⟩
  ·rfl
  ·cases e
  ·rw[em]at f1;cases f1
 ·cases e
 ·rcases Zor h2 hF with⟨_,_,em,rfl⟩|⟨k',A,e,_⟩|⟨b',cap',ty',nn',f1,f2,f3,f4,f5,rfl⟩
  ·rw[em]at e1;cases e1
  ·cases e
  ·rw[e1]at f1
   injection f1 with f1
   subst f1
   rw[e4]at f4
   injection f4 with f4
   injection f4 with _ f4
   have:cap=cap':=by
    rw[Nat.zero_add]at e5 f5
    exact Nat.eq_of_mul_eq_mul_right hsz (by rw[e5,f5,f4])
   rw[this]
theorem Rep.unfocus (h:Rep C n w0 X τ η m a w){T F vT vF k j:Nat}{BT B:Blk}{e:List AV}(hT:η T=⟨vT,some BT⟩)(hF:η F=⟨vF,some B⟩)(hTF:T≠F)(hTn:T<n)(hFn:F<n)(hbox:B.box=false)(hfr:FrL B.els)(hsz:0<B.sz)
  (he:BT.els[k]?=some e) (hx:e[j]?=some (.own F vF 0 B.els.length)) :
  ∃v:Value,∃m':MM,(m'.O=λb=>X.O b\/v.ownBlock=some b)/\(∀b,v.ownBlock=some b->¬ X.O b) /\
   ∀els',Zacx BT.els els' (λx x'=>x=.own F vF 0 B.els.length/\x'=.c v) ->
    Mono w (shp η) m w (shp (Zeo (Zeo η T ⟨vT,some { BT with els:=els' }⟩) F ⟨vF+1,none⟩)) m'/\HRow w (shp (Zeo (Zeo η T ⟨vT,some { BT with els:=els' }⟩) F ⟨vF+1,none⟩)) m' X.X w0.heap.size B v /\
    Rep C n w0 ⟨X.X,λb=>X.O b\/v.ownBlock=some b,X.ks,X.M⟩ τ (Zeo (Zeo η T ⟨vT,some { BT with els:=els' }⟩) F ⟨vF+1,none⟩) m' a w:=by
 obtain⟨v,hv⟩:∃v,RV w (shp η) m (.own F vF 0 B.els.length) v:=by
  have hok:=h.mem.ok T BT (by rw[hT])
  cases hmT:m T with
  | none =>
   rw[hmT]at hok
   rw[hok.1]at he
   simp at he
  | some b =>
   rw[hmT]at hok
   obtain⟨arr,_,_,a3⟩:=hok
   obtain⟨u,_,_,u3⟩:=(a3 k e he).2 j _ hx
   exact⟨u,u3⟩
 have hXO:=h.oo
 have hlF:(η F).blk≠none:=by rw[hF];simp
 have hvb:∀b,v.ownBlock=some b->m F=some b:=λb hb=>by
  rcases Zor hv hF with⟨_,_,_,rfl⟩|⟨k',A,e,_⟩|⟨b',cap,ty,nn,e1,e2,e3,e4,e5,rfl⟩
  ·cases hb
  ·cases e
  ·injection hb with hb
   subst hb
   exact e1
 refine⟨v,⟨m.f,λb=>X.O b\/v.ownBlock=some b⟩,rfl,λb hb ho=>h.mem.sep F b hlF (hvb b hb) (by rw[hXO];exact ho),λels' hr=>?_⟩
 generalize hη':Zeo (Zeo η T ⟨vT,some { BT with els:=els' }⟩) F ⟨vF+1,none⟩=η'
 generalize hm':(⟨m.f,λb=>X.O b\/v.ownBlock=some b⟩:MM)=m'
 have eF:η' F=⟨vF+1,none⟩:=by rw[<-hη'];simp[Zeo]
 have eT:η' T=⟨vT,some { BT with els:=els' }⟩:=by rw[<-hη'];simp[Zeo,hTF]
 have eO:∀i,i≠F->i≠T->η' i=η i:=λi h1 h2=>by rw[<-hη'];simp[Zeo,h1,h2]
 have mO:∀i,m' i=m i:=λi=>by rw[<-hm']
 have mOO:m'.O=λb=>X.O b\/v.ownBlock=some b:=by rw[<-hm']
 have live:∀i,(η' i).blk≠none->i≠F/\(η i).blk≠none:=λi h1=>by
  by_cases e:i=F
  ·subst e;rw[eF]at h1;simp at h1
  ·refine⟨e,?_⟩
   by_cases h2:i=T
   ·subst h2;rw[hT];simp
   ·rw[eO i e h2]at h1;exact h1
 have hm:Mono w (shp η) m w (shp η') m':=by
  refine⟨Nat.le_refl _,λ_ _ _=>rfl,λb hb ho=>?_,λi=>?_,λi hi=>?_⟩
  ·rintro(h1|⟨i,h1,h2⟩)
   ·rw[mOO]at h1
    rcases h1 with h1|h1
    ·exact ho (.inl (by rw[hXO];exact h1))
    ·exact ho (.inr ⟨F,Zau.2 hlF,hvb b h1⟩)
   ·rw[mO i]at h2
    exact ho (.inr ⟨i,Zau.2 (live i (Zau.1 h1)).2,h2⟩)
  ·by_cases e:i=F
   ·subst e;simp[shp,eF,hF]
   ·by_cases e2:i=T
    ·subst e2;simp[shp,eT,hT]
    ·simp[shp,eO i e e2]
  ·by_cases e:i=F
   ·subst e;simp[shp,eF,hF]at hi
   ·refine⟨?_,λ_=>⟨mO i,λb _=>rfl⟩⟩
    by_cases e2:i=T
    ·subst e2;simp[shp,eT,hT]
    ·simp[shp,eO i e e2]
 have hrv:∀x x' u,(x=.own F vF 0 B.els.length/\x'=.c v)->RV w (shp η) m x u->RV w (shp η') m' x' u:=by
  rintro x x' u ⟨rfl,rfl⟩ hx
  rw[Zarp hF hsz hx hv]
  exact .c v
 have hmem:Mem C.N w η' m':=by
  refine⟨λi B' hB'=>?_,λi i' b h1 h2 h3 h4=>?_,λi b h1 h2=>?_,λi b h1 h2=>?_,λb hb=>?_,h.mem.big⟩
  ·obtain⟨e,_⟩:=live i (by rw[hB'];simp)
   rw[mO i]
   by_cases e2:i=T
   ·subst e2
    rw[eT]at hB'
    injection hB' with hB'
    subst hB'
    exact(h.mem.ok i BT (by rw[hT])).cells2 hm hr hrv
   ·rw[eO i e e2]at hB'
    exact(h.mem.ok i B' hB').mono hm (λ_ _=>rfl)
  ·rw[mO i]at h3
   rw[mO i']at h4
   exact h.mem.inj i i' b (live i h1).2 (live i' h2).2 h3 h4
  ·rw[mO i]at h2
   exact h.mem.low i b (live i h1).2 h2
  ·rw[mO i]at h2
   rw[mOO]
   rintro(h3|h3)
   ·exact h.mem.sep i b (live i h1).2 h2 (by rw[hXO];exact h3)
   ·exact(live i h1).1 (h.mem.inj i F b (live i h1).2 hlF h2 (hvb b h3))
  ·rw[mOO]at hb
   rcases hb with hb|hb
   ·exact h.mem.olt b (by rw[hXO];exact hb)
   ·exact⟨h.mem.lt hlF (hvb b hb),h.mem.low F b hlF (hvb b hb)⟩
 refine⟨hm,⟨hbox,hfr,?_⟩,h.recast hm hmem mOO (λi b h1 h2=>h.own i b (live i h1).2 (by rw[<-mO i];exact h2)) (λi hi=>⟨eO i (by omega) (by omega),mO i⟩)⟩
 rcases Zor hv hF with⟨_,e0,_,e1⟩|⟨k',A,e,_⟩|⟨b,cap,ty,nn,e1,e2,e3,e4,e5,e6⟩
 ·exact .inl ⟨List.length_eq_zero_iff.1 e0,e1⟩
 ·cases e
 ·refine .inr ⟨b,cap,nn,ty,?_,?_,h.own F b hlF e1,e2,e3,e4,by rw[Nat.zero_add]at e5;exact e5,?_⟩
  ·rw[e6,Nat.zero_mul]
  ·rw[mOO]
   exact .inr (by rw[e6];rfl)
  ·have:=h.mem.ok F B (by rw[hF])
   rw[e1]at this
   exact this.mono hm (λ_ _=>rfl)
end
theorem Zaw0 {w w':World}{vs vs':Shp}{m m':MM}{x:AV}{v:Value}(hx:Fr x)(hsize:w.heap.size<=w'.heap.size)(hc:∀b,b<w.heap.size->¬ Zdf vs m b->w'.heap[b]?=w.heap[b]?)(ho:∀b,b<w.heap.size->Zdf vs' m' b->Zdf vs m b)(h:RV w vs m x v):RV w' vs' m' x v:=by
 have h1:RV w nov (mO (Zdf vs m)) x v:=Zxi hx (λb hb=>Zhu.1 hb) h
 have hm:Mono w nov (mO (Zdf vs m)) w' nov (mO (λb=>Zdf vs m b\/w.heap.size<=b)) :=
  ⟨hsize,λb hb hn=>hc b hb (λq=>hn (Zhu.2 q)),λb hb hn q=>(Zhu.1 q).elim (λq=>hn (Zhu.2 q)) (λq=>by omega),λ_=>Nat.le_refl _,λi _=>⟨rfl,λhne=>absurd rfl hne⟩⟩
 refine Zxi hx (λb hb=>Zhu.2 ?_) (h1.mono hm)
 rcases Nat.lt_or_ge b w.heap.size with q|q
 ·exact .inl (ho b q hb)
 ·exact .inr q
theorem HRow.move {w w':World}{vs vs':Shp}{m m':MM}{X X':Nat->Prop}{z z':Nat}{B:Blk}{v:Value}(h:HRow w vs m X z B v)(hsize:w.heap.size<=w'.heap.size)(hc:∀b,b<w.heap.size->¬ Zdf vs m b\/v.ownBlock=some b->w'.heap[b]?=w.heap[b]?)
  (ho:∀b,b<w.heap.size->Zdf vs' m' b->Zdf vs m b) (hO:∀b,v.ownBlock=some b->m'.O b) (hX:∀b,v.ownBlock=some b->X b\/z<=b->X' b\/z'<=b):HRow w' vs' m' X' z' B v:=by
 obtain⟨h1,h2,h3⟩:=h
 refine⟨h1,h2,?_⟩
 rcases h3 with h3|⟨b,cap,n,ty,rfl,g1,g2,g3,g4,g5,g6,arr,a1,a2,a3⟩
 ·exact .inl h3
 ·have hlt:=a1.lt
  have he:=hc b hlt (.inr rfl)
  refine .inr ⟨b,cap,n,ty,rfl,hO b rfl,hX b rfl g2,g3,g4,?_,g6,arr,a1.mono he,a2,λk e hk=>⟨(a3 k e hk).1,λj x hx=>?_⟩⟩
  ·unfold World.shape? at g5 ⊢
   rw[he]
   exact g5
  ·obtain⟨u,u1,u2,u3⟩:=(a3 k e hk).2 j x hx
   exact⟨u,u1,u2,Zaw0 (h2 e (mG_ hk) x (mG_ hx)) hsize (λb hb hn=>hc b hb (.inl hn)) ho u3⟩
section
variable {C : Cx} {n : Nat} {w0 : World} {X : XX} {τ τ' : Nat -> AV} {η η' : Nat -> Ent} {m m' : MM} {a a' : Act} {w w' : World}
def ownX (X:XX)(η:Nat->Ent)(m:MM):XX:=⟨λb=>∃i,(η i).blk≠none/\m i=some b,X.O,X.ks,X.M⟩
theorem Rep.rebase (h:Rep C n w0 X τ η m a w):Rep C n w (ownX X η m) τ η m a w :=
 ⟨h.tm,h.sz,h.df,h.mem,⟨rfl,rfl,rfl,Nat.le_refl _,λ_ _ _=>rfl⟩,h.oo,λi b h1 h2=>.inl ⟨i,h1,h2⟩,h.gl,λi hi=>let ⟨k1,k2,k3,_⟩:=h.kk i hi;⟨k1,k2,k3,λ_ _=>rfl⟩⟩
theorem Rep.unbase (h0:Rep C n w0 X τ η m a w)(h1:Rep C n w (ownX X η m) τ' η' m' a' w'):Rep C n w0 X τ' η' m' a' w':=by
 refine⟨h1.tm,h1.sz,h1.df,h1.mem,⟨h1.kin.os.trans h0.kin.os,h1.kin.tape.trans h0.kin.tape,h1.kin.output.trans h0.kin.output,Nat.le_trans h0.kin.size h1.kin.size,λb hb hx=>?_⟩,h1.oo,λi b h2 h3=>?_,h1.gl,λi hi=>?_⟩
 ·refine(h1.kin.block b (Nat.lt_of_lt_of_le hb h0.kin.size) ?_).trans (h0.kin.block b hb hx)
  rintro⟨i,q1,q2⟩
  rcases h0.own i b q1 q2 with q|q
  ·exact hx q
  ·omega
 ·rcases h1.own i b h2 h3 with⟨i',q1,q2⟩|q
  ·exact h0.own i' b q1 q2
  ·exact .inr (Nat.le_trans h0.kin.size q)
 ·obtain⟨k1,k2,k3,k4⟩:=h1.kk i hi
  obtain⟨_,_,j3,j4⟩:=h0.kk i hi
  refine⟨k1,k2,k3,λb hb=>(k4 b hb).trans (j4 b ?_)⟩
  rw[j3,<-hb,k3]
  rfl
theorem Rep.owned (h1:Rep C n w (ownX X η m) τ' η' m' a' w')(hO:m.O=X.O){b:Nat}(hb:b<w.heap.size)(ho:Zdf (shp η') m' b):Zdf (shp η) m b:=by
 rcases ho with q|⟨i,q1,q2⟩
 ·rw[h1.oo]at q
  exact .inl (by rw[hO];exact q)
 ·rcases h1.own i b (Zau.1 q1) q2 with⟨i',r1,r2⟩|r
  ·exact .inr ⟨i',Zau.2 r1,r2⟩
  ·omega
end
def Zpe {α:Type}(l:List α)(k:Nat)(x:α):List α:=if k<l.length then l.set k x else l++[x]
theorem Zoq {α:Type}{l:List α}{k:Nat}{x:α}:(Zpe l k x).length=if k<l.length then l.length else l.length+1:=by
 unfold Zpe
 split <;> simp
theorem Zq8 {α:Type}{l:List α}{k:Nat}{x:α}(hk:k<=l.length)(i:Nat):(Zpe l k x)[i]?=if i=k then some x else l[i]?:=by
 unfold Zpe
 split
 ·rename_i h
  by_cases e:i=k
  ·subst e;rw[if_pos rfl,List.getElem?_set_self h]
  ·rw[if_neg e,List.getElem?_set_ne (λq=>e q.symm)]
 ·rename_i h
  have:k=l.length:=by omega
  subst this
  by_cases e:i=l.length
  ·subst e;simp
  ·rw[if_neg e]
   rcases Nat.lt_or_ge i l.length with q|q
   ·rw[List.getElem?_append_left q]
   ·rw[List.getElem?_eq_none q,List.getElem?_eq_none (by simp;omega)]
theorem Zarw {α β:Type}{l:List α}{k:Nat}{x:α}(f:α->β):(Zpe l k x).map f=Zpe (l.map f) k (f x):=by
 unfold Zpe
 rw[lM_]
 split
 ·rw[List.map_set]
 ·simp
def othO (O:Nat->Prop)(vals:List Value)(k:Nat):Nat->Prop:=λb=>O b\/∃i v,i≠k/\vals[i]?=some v/\v.ownBlock=some b
abbrev Zxo (X:XX)(O:Nat->Prop):XX:=⟨X.X,O,X.ks,X.M⟩
structure RInv (C:Cx)(w0:World)(X:XX)(s:St)(rows:List Blk)(vals:List Value)(m:MM)(a:Act)(w:World):Prop where
 rep:Zzn C w0 (Zxo X (othO X.O vals vals.length)) s m a w
 rows:Zayq w (shp (hpF s.hp)) m X.X w0.heap.size rows vals
 out:∀(i:Nat) (v:Value),vals[i]?=some v->∀b,v.ownBlock=some b->¬ X.O b
theorem Zvw {hp:List Ent}{T:Nat}{e:Ent}(h:T<hp.length):hpF (hp.set T e)=Zeo (hpF hp) T e:=by
 funext i
 show(hp.set T e).getD i _=_
 by_cases q:i=T
 ·subst q;simp[Zeo,gD_,List.getElem?_set_self h]
 ·simp[Zeo,q,hpF,gD_,List.getElem?_set_ne (λx=>q x.symm)]
theorem Zaee {η:Nat->Ent}{T:Nat}{e e':Ent}:Zeo (Zeo η T e) T e'=Zeo η T e':=by
 funext i
 by_cases q:i=T <;> simp[Zeo,q]
theorem Zak6 {η:Nat->Ent}{T F:Nat}{e e':Ent}(h:T≠F):Zeo (Zeo η T e) F e'=Zeo (Zeo η F e') T e:=by
 funext i
 by_cases q:i=T
 ·subst q;simp[Zeo,h]
 ·by_cases q':i=F
  ·subst q'
   simp[Zeo,q]
  ·simp[Zeo,q,q']
theorem Zarg {C:Cx}{s s':St}{w0:World}{X:XX}{m:MM}{a:Act}{w:World}(h:leK s s' True)(hr:Zzn C w0 X s m a w) :
  ∃m',Zzn C w0 X s' m' a w/\∀b,b<w.heap.size->Zdf (shp (hpF s'.hp)) m' b->Zdf (shp (hpF s.hp)) m b:=by
 obtain⟨e,_,g⟩:=Zx1 (C:=C) h
 obtain⟨m',hm'⟩:=g w (ownX X (hpF s.hp) m) m a w (Rep.rebase hr)
 refine⟨m',?_,λb hb ho=>Rep.owned hm' hr.oo hb ho⟩
 unfold Zzn at hr hm' ⊢
 rw[e]at hm' ⊢
 exact Rep.unbase hr hm'
theorem RInv.back {C:Cx}{w0:World}{X:XX}{s0 s':St}{m0 m':MM}{a a':Act}{w w':World}{rows:List Blk}{vals:List Value}{k T F ty sz:Nat}{box:Bool}{tm1:List AV}{hp1:List Ent}{B':Blk}{E:List AV->List (List AV)}
  (hr:Zzn C w0 (Zxo X (othO X.O vals k)) s0 m0 a w) (hlen:vals.length=rows.length) (hk:k<=vals.length) (hrows:∀(i:Nat) (B:Blk) (v:Value),i≠k->rows[i]?=some B->vals[i]?=some v->HRow w (shp (hpF s0.hp)) m0 X.X w0.heap.size B v)
  (hdis:∀(k k':Nat) (v v':Value) (b:Nat),vals[k]?=some v->vals[k']?=some v'->v.ownBlock=some b->v'.ownBlock=some b->k=k') (hout:∀(i:Nat) (v:Value),vals[i]?=some v->∀b,v.ownBlock=some b->¬ X.O b)
  (h1:Zzn C w (ownX (Zxo X (othO X.O vals k)) (hpF s0.hp) m0) s' m' a' w') (hsl:s'.tm.length=s0.tm.length) (hT:T<hp1.length) (hF:F<hp1.length) (hTF:T≠F) (hTn:T<tm1.length) (hFn:F<tm1.length) (hbox:B'.box=false) (hfr:FrL B'.els) (hsz:0<B'.sz)
  (hle:leK s' ⟨tm1,(hp1.set T ⟨0,some ⟨ty,sz,box,E (Zpe (vals.map .c) k (.own F 0 0 B'.els.length))⟩⟩).set F ⟨0,some B'⟩⟩ True)
  (hle2:∀vs:List Value,leK ⟨tm1,(hp1.set T ⟨0,some ⟨ty,sz,box,E (vs.map .c)⟩⟩).set F ⟨1,none⟩⟩ ⟨tm1,hp1.set T ⟨0,some ⟨ty,sz,box,E (vs.map .c)⟩⟩⟩ True)
  (hE:∀(cs cs':List AV) (p:AV->AV->Prop),cs.length=(Zpe rows k B').length->cs'.length=cs.length->(∀(k:Nat) (c c':AV),cs[k]?=some c->cs'[k]?=some c'->c'=c\/p c c')->Zacx (E cs) (E cs') p)
  (hEk:∀(cs:List AV) (i:Nat) (c:AV),cs.length=(Zpe rows k B').length->cs[i]?=some c->∃(k':Nat) (e:List AV) (j:Nat),(E cs)[k']?=some e/\e[j]?=some c) :
  tm1.length=s0.tm.length/\∃vals' m4,vals'.length=(Zpe rows k B').length/\RInv C w0 X ⟨tm1,hp1.set T ⟨0,some ⟨ty,sz,box,E (vals'.map .c)⟩⟩⟩ (Zpe rows k B') vals' m4 a' w':=by
 obtain⟨el,_,g⟩:=Zx1 (C:=C) hle
 obtain⟨m2,hm2⟩:=g _ _ _ _ _ h1
 have hn:tm1.length=s0.tm.length:=el.trans hsl
 refine⟨hn,?_⟩
 have hsize:=hm2.kin.size
 generalize hη1:hpF ((hp1.set T ⟨0,some ⟨ty,sz,box,E (Zpe (vals.map .c) k (.own F 0 0 B'.els.length))⟩⟩).set F ⟨0,some B'⟩)=η1 at hm2
 have e1:η1=Zeo (Zeo (hpF hp1) T ⟨0,some ⟨ty,sz,box,E (Zpe (vals.map .c) k (.own F 0 0 B'.els.length))⟩⟩) F ⟨0,some B'⟩:=by
  rw[<-hη1,Zvw (by simpa using hF),Zvw hT]
 have hm2':Rep C tm1.length w (ownX (Zxo X (othO X.O vals k)) (hpF s0.hp) m0) (tmF tm1) η1 m2 a' w':=by
  rw[<-hη1]
  unfold Zzn at hm2
  simp only at hm2
  rw[hη1]at hm2 ⊢
  exact hm2
 have ho2:∀b,b<w.heap.size->Zdf (shp η1) m2 b->Zdf (shp (hpF s0.hp)) m0 b:=λb hb ho=>Rep.owned hm2' hr.oo hb ho
 have hrow2:∀(i:Nat) (B:Blk) (v:Value),i≠k->rows[i]?=some B->vals[i]?=some v->HRow w' (shp η1) m2 X.X w0.heap.size B v:=λi B v hi hB hv=>by
  refine(hrows i B v hi hB hv).move hsize (λb hb hq=>hm2'.kin.block b hb ?_) ho2 (λb hb=>?_) (λb _ q=>q)
  ·rintro⟨i',q1,q2⟩
   rcases hq with hq|hq
   ·exact hq (.inr ⟨i',Zau.2 q1,q2⟩)
   ·refine hr.mem.sep i' b q1 q2 ?_
    rw[hr.oo]
    exact .inr ⟨i,v,hi,hv,hq⟩
  ·rw[hm2'.oo]
   exact .inr ⟨i,v,hi,hv,hb⟩
 have h3:Rep C tm1.length w0 (Zxo X (othO X.O vals k)) (tmF tm1) η1 m2 a' w':=by
  have hr':Rep C tm1.length w0 (Zxo X (othO X.O vals k)) (tmF s0.tm) (hpF s0.hp) m0 a w:=by rw[hn];exact hr
  exact Rep.unbase hr' hm2'
 have eT:η1 T=⟨0,some ⟨ty,sz,box,E (Zpe (vals.map .c) k (.own F 0 0 B'.els.length))⟩⟩:=by rw[e1];simp[Zeo,hTF]
 have eF:η1 F=⟨0,some B'⟩:=by rw[e1];simp[Zeo]
 have hkm:k<=(vals.map AV.c).length:=by simpa using hk
 have hcl:(Zpe (vals.map AV.c) k (.own F 0 0 B'.els.length)).length=(Zpe rows k B').length:=by
  rw[Zoq,Zoq,lM_,hlen]
 obtain⟨k',e,j,hke,hej⟩:=hEk _ k _ hcl (by rw[Zq8 hkm,if_pos rfl])
 obtain⟨v',m3,q1,q2,q3⟩:=h3.unfocus eT eF hTF hTn hFn hbox hfr hsz hke hej
 have hCR:Zacx (E (Zpe (vals.map .c) k (.own F 0 0 B'.els.length))) (E ((Zpe vals k v').map .c)) (λx x'=>x=.own F 0 0 B'.els.length/\x'=.c v'):=by
  rw[Zarw]
  refine hE _ _ _ hcl (by rw[Zoq,Zoq]) (λi c c' hc hc'=>?_)
  rw[Zq8 hkm]at hc hc'
  by_cases ei:i=k
  ·rw[if_pos ei]at hc hc'
   injection hc with hc
   injection hc' with hc'
   exact .inr ⟨hc.symm,hc'.symm⟩
  ·rw[if_neg ei]at hc hc'
   rw[hc]at hc'
   injection hc' with hc'
   exact .inl hc'.symm
 obtain⟨r1,r2,r3⟩:=q3 _ hCR
 generalize hη2:Zeo (Zeo η1 T ⟨0,some { (⟨ty,sz,box,E (Zpe (vals.map .c) k (.own F 0 0 B'.els.length))⟩:Blk)with els:=E ((Zpe vals k v').map .c) }⟩) F ⟨0+1,none⟩=η2 at r1 r2 r3
 have e2:η2=hpF ((hp1.set T ⟨0,some ⟨ty,sz,box,E ((Zpe vals k v').map .c)⟩⟩).set F ⟨1,none⟩):=by
  rw[Zvw (by simpa using hF),Zvw hT,<-hη2,e1,Zak6 hTF,Zaee,Zak6 (λq=>hTF q.symm),Zaee]
 have hO:(λb=>othO X.O vals k b\/v'.ownBlock=some b)=othO X.O (Zpe vals k v') (Zpe vals k v').length:=by
  funext b
  refine propext ⟨?_,?_⟩
  ·rintro((h|⟨i,v,h1,h2,h3⟩)|h)
   ·exact .inl h
   ·have:(Zpe vals k v')[i]?=some v:=by rw[Zq8 hk,if_neg h1];exact h2
    exact .inr ⟨i,v,Nat.ne_of_lt (gS_.1 this).1,this,h3⟩
   ·have:(Zpe vals k v')[k]?=some v':=by rw[Zq8 hk,if_pos rfl]
    exact .inr ⟨k,v',Nat.ne_of_lt (gS_.1 this).1,this,h⟩
  ·rintro(h|⟨i,v,h1,h2,h3⟩)
   ·exact .inl (.inl h)
   ·rw[Zq8 hk]at h2
    by_cases ei:i=k
    ·rw[if_pos ei]at h2
     injection h2 with h2
     exact .inr (by rw[h2];exact h3)
    ·rw[if_neg ei]at h2
     exact .inl (.inr ⟨i,v,ei,h2,h3⟩)
 have r3':Zzn C w0 (Zxo X (othO X.O (Zpe vals k v') (Zpe vals k v').length)) ⟨tm1,(hp1.set T ⟨0,some ⟨ty,sz,box,E ((Zpe vals k v').map .c)⟩⟩).set F ⟨1,none⟩⟩ m3 a' w':=by
  unfold Zzn
  rw[<-hO,<-e2]
  exact r3
 obtain⟨m4,s1,s2⟩:=Zarg (hle2 (Zpe vals k v')) r3'
 rw[<-e2]at s2
 have back:∀(B:Blk) (v:Value),(∀b,v.ownBlock=some b->othO X.O (Zpe vals k v') (Zpe vals k v').length b)->HRow w' (shp η2) m3 X.X w0.heap.size B v->HRow w' (shp (hpF (hp1.set T ⟨0,some ⟨ty,sz,box,E ((Zpe vals k v').map .c)⟩⟩))) m4 X.X w0.heap.size B v:=λB v hv hB =>
  hB.move (Nat.le_refl _) (λ_ _ _=>rfl) s2 (λb hb=>by rw[s1.oo];exact hv b hb) (λb _ q=>q)
 refine⟨Zpe vals k v',m4,by rw[Zoq,Zoq,hlen],s1,⟨by rw[Zoq,Zoq,hlen],λi B v hB hv=>?_,λi i' v u b hv hu hb hb'=>?_⟩,λi v hv b hb=>?_⟩
 ·rw[Zq8 (by omega)]at hB
  rw[Zq8 hk]at hv
  by_cases ei:i=k
  ·rw[if_pos ei]at hB hv
   injection hB with hB
   injection hv with hv
   subst hB hv
   refine back _ _ (λb hb=>?_) r2
   rw[<-hO]
   exact .inr hb
  ·rw[if_neg ei]at hB hv
   refine back _ _ (λb hb=>?_) ((hrow2 i B v ei hB hv).move (Nat.le_refl _) (λ_ _ _=>rfl) (λb hb ho=>?_) (λb hb=>?_) (λb _ q=>q))
   ·rw[<-hO]
    exact .inl (.inr ⟨i,v,ei,hv,hb⟩)
   ·exact Classical.byContradiction λhn=>r1.nown b hb hn ho
   ·rw[q1]
    exact .inl (.inr ⟨i,v,ei,hv,hb⟩)
 ·rw[Zq8 hk]at hv hu
  by_cases ei:i=k <;> by_cases ei':i'=k
  ·rw[ei,ei']
  ·rw[if_pos ei]at hv
   rw[if_neg ei']at hu
   injection hv with hv
   subst hv
   exact absurd (.inr ⟨i',u,ei',hu,hb'⟩) (q2 b hb)
  ·rw[if_neg ei]at hv
   rw[if_pos ei']at hu
   injection hu with hu
   subst hu
   exact absurd (.inr ⟨i,v,ei,hv,hb⟩) (q2 b hb')
  ·rw[if_neg ei]at hv
   rw[if_neg ei']at hu
   exact hdis i i' v u b hv hu hb hb'
 ·rw[Zq8 hk]at hv
  by_cases ei:i=k
  ·rw[if_pos ei]at hv
   injection hv with hv
   subst hv
   exact λho=>q2 b hb (.inl ho)
  ·rw[if_neg ei]at hv
   exact hout i v hv b hb
theorem HRow.sl {w:World}{vs vs':Shp}{m m':MM}{X:Nat->Prop}{z:Nat}{B:Blk}{v:Value}(h:HRow w vs m X z B v)(hno:∀b,v.ownBlock=some b->¬ Zdf vs' m' b)(hmax:B.els.length<=140737488355328)(ho:∀b,Zdf vs' m' b->Zdf vs m b):RV w vs' m' (.sl B.sz B.els) v:=by
 obtain⟨h1,h2,⟨h3,rfl⟩|⟨b,cap,n,ty,rfl,g1,g2,g3,g4,g5,g6,g7⟩⟩:=h
 ·rw[h3]
  exact RV.sl (l:=[]) (b:=0) (off:=0) (f:=λ_ _=>undef) (λh=>absurd rfl h) (Nat.le_refl _) (by simp) (λk e h=>by simp at h) (λk j e x h=>by simp at h) (λk j e x h=>by simp at h) (λe he=>by cases he)
 ·obtain⟨arr,a1,a2,a3⟩:=g7.unmap g5
  have hcell:∀(q j:Nat) (e:List AV) (x:AV),B.els[q]?=some e->e[j]?=some x->∃u,arr.getD (q*B.sz+j) undef=u/\arr[q*B.sz+j]?=some u/\u.oneCell'=true/\RV w vs m x u:=λq j e x he hj=>by
   obtain⟨u,u1,u2,u3⟩:=(a3 _ e he).2 j x hj
   exact⟨u,by simp[aD_,u1],u1,u2,u3⟩
  refine RV.sl (sz:=B.sz) (l:=B.els) (A:=some ⟨b,0,none⟩) (cap:=cap) (b:=b) (off:=0) (f:=λq j=>arr.getD (q*B.sz+j) undef)
   (λ_=>⟨rfl,hno b rfl,lt_of_block a1⟩) g3 hmax (λq e he=>(a3 _ e he).1) (λq j e x he hj=>?_) (λq j e x he hj=>?_) h2
  ·obtain⟨u,q1,q2,q3,_⟩:=hcell q j e x he hj
   refine⟨?_,by rw[q1];exact q3⟩
   rw[q1,Nat.zero_add]
   simp[World.cell?,a1,q2]
  ·obtain⟨u,q1,_,_,q4⟩:=hcell q j e x he hj
   rw[q1]
   exact Zxi (h2 e (mG_ he) x (mG_ hj)) ho q4
theorem RInv.close {C:Cx}{w0:World}{X:XX}{rows:List Blk}{vals:List Value}{m:MM}{a:Act}{w:World}{T ty sz:Nat}{box:Bool}{tm:List AV}{hp:List Ent}{E:List AV->List (List AV)}(h:RInv C w0 X ⟨tm,hp.set T ⟨0,some ⟨ty,sz,box,E (vals.map .c)⟩⟩⟩ rows vals m a w)
  (hT:T<hp.length) (hTn:T<tm.length) (hE:∀(cs cs':List AV) (p:AV->AV->Prop),cs.length=rows.length->cs'.length=cs.length->(∀(k:Nat) (c c':AV),cs[k]?=some c->cs'[k]?=some c'->c'=c\/p c c')->Zacx (E cs) (E cs') p) (hmax:∀B∈rows,B.els.length<=140737488355328) :
  ∃m',Zzn C w0 X ⟨tm,hp.set T ⟨0,some ⟨ty,sz,box,E (rows.map (λB=>.sl B.sz B.els))⟩⟩⟩ m' a w:=by
 have hr:Rep C tm.length w0 (Zxo X (othO X.O vals vals.length)) (tmF tm) (hpF (hp.set T ⟨0,some ⟨ty,sz,box,E (vals.map .c)⟩⟩)) m a w:=h.rep
 have hrows:=h.rows
 simp only at hrows
 generalize hη:hpF (hp.set T ⟨0,some ⟨ty,sz,box,E (vals.map .c)⟩⟩)=η at hr hrows
 have eη:η=Zeo (hpF hp) T ⟨0,some ⟨ty,sz,box,E (vals.map .c)⟩⟩:=by rw[<-hη,Zvw hT]
 have eη':hpF (hp.set T ⟨0,some ⟨ty,sz,box,E (rows.map (λB=>.sl B.sz B.els))⟩⟩)=Zeo η T ⟨0,some ⟨ty,sz,box,E (rows.map (λB=>.sl B.sz B.els))⟩⟩:=by rw[Zvw hT,eη,Zaee]
 have hηT:η T=⟨0,some ⟨ty,sz,box,E (vals.map .c)⟩⟩:=by rw[eη];simp[Zeo]
 generalize hη2:Zeo η T ⟨0,some ⟨ty,sz,box,E (rows.map (λB=>.sl B.sz B.els))⟩⟩=η' at eη'
 have hs:shp η'=shp η:=by rw[<-hη2];exact Zapi hηT rfl
 refine⟨⟨m.f,X.O⟩,?_⟩
 unfold Zzn
 simp only
 rw[eη']
 have hOm:∀b,Zdf (shp η) (⟨m.f,X.O⟩:MM) b->Zdf (shp η) m b:=λb hb=>by
  rcases hb with q|q
  ·exact .inl (by rw[hr.oo];exact .inl q)
  ·exact .inr q
 have hm:Mono w (shp η) m w (shp η') (⟨m.f,X.O⟩:MM):=by
  rw[hs]
  exact⟨Nat.le_refl _,λ_ _ _=>rfl,λb _ hn q=>hn (hOm b q),λ_=>Nat.le_refl _,λ_ _=>⟨rfl,λ_=>⟨rfl,λ_ _=>rfl⟩⟩⟩
 have hlive:∀i,(η' i).blk≠none↔(η i).blk≠none:=λi=>by
  by_cases e:i=T
  ·subst e;rw[hηT,<-hη2];simp[Zeo]
  ·rw[<-hη2];simp[Zeo,e]
 have hno:∀(i:Nat) (v:Value),vals[i]?=some v->∀b,v.ownBlock=some b->¬ Zdf (shp η') (⟨m.f,X.O⟩:MM) b:=λi v hv b hb=>by
  rintro(q|⟨i',q1,q2⟩)
  ·exact h.out i v hv b hb q
  ·rw[hs]at q1
   refine hr.mem.sep i' b (Zau.1 q1) q2 ?_
   rw[hr.oo]
   exact .inr ⟨i,v,Nat.ne_of_lt (gS_.1 hv).1,hv,hb⟩
 have hCR:=hE (vals.map .c) (rows.map (λB=>.sl B.sz B.els)) (λx x'=>∃(i:Nat) (v:Value) (B:Blk),x=.c v/\x'=.sl B.sz B.els/\vals[i]?=some v/\rows[i]?=some B) (by simp[h.rows.len]) (by simp[h.rows.len]) (λk c c' hc hc'=>by
  rw[List.getElem?_map]at hc hc'
  cases hv:vals[k]? with
  | none=>rw[hv]at hc;cases hc
  | some v =>
   cases hB:rows[k]? with
   | none=>rw[hB]at hc';cases hc'
   | some B =>
    rw[hv]at hc
    rw[hB]at hc'
    injection hc with hc
    injection hc' with hc'
    exact .inr ⟨k,v,B,hc.symm,hc'.symm,hv,hB⟩)
 have hrv:∀x x' u,(∃(i:Nat) (v:Value) (B:Blk),x=.c v/\x'=.sl B.sz B.els/\vals[i]?=some v/\rows[i]?=some B)->RV w (shp η) m x u->RV w (shp η') (⟨m.f,X.O⟩:MM) x' u:=by
  rintro x x' u ⟨i,v,B,rfl,rfl,hv,hB⟩ hx
  rw[Zjp hx]
  exact(hrows.row i B v hB hv).sl (hno i v hv) (hmax B (mG_ hB)) (λb q=>by rw[hs]at q;exact hOm b q)
 refine hr.recast hm ⟨λi B' hB'=>?_,λi i' b h1 h2 h3 h4=>hr.mem.inj i i' b ((hlive i).1 h1) ((hlive i').1 h2) h3 h4,λi b h1 h2=>hr.mem.low i b ((hlive i).1 h1) h2,λi b h1 h2 q=>hr.mem.sep i b ((hlive i).1 h1) h2 (by rw[hr.oo];exact .inl q),λb hb=>hr.mem.olt b (by rw[hr.oo];exact .inl hb),hr.mem.big⟩ rfl (λi b h1 h2=>hr.own i b ((hlive i).1 h1) h2) (λi hi=>⟨by rw[<-hη2];simp[Zeo,show i≠T from λq=>absurd hi (by rw[q];omega)],rfl⟩)
 by_cases e:i=T
 ·subst e
  rw[<-hη2]at hB'
  simp only[Zeo,if_true]at hB'
  injection hB' with hB'
  subst hB'
  exact(hr.mem.ok i _ (by rw[hηT])).cells2 hm hCR hrv
 ·rw[<-hη2]at hB'
  simp only[Zeo,e,if_false]at hB'
  exact(hr.mem.ok i B' hB').mono hm (λ_ _=>rfl)
theorem RInv.foc {C:Cx}{w0:World}{X:XX}{rows:List Blk}{vals:List Value}{m:MM}{a:Act}{w:World}{k T F ty sz:Nat}{box:Bool}{tm:List AV}{hp:List Ent}{B:Blk}{E:List AV->List (List AV)}(h:RInv C w0 X ⟨tm,hp.set T ⟨0,some ⟨ty,sz,box,E (vals.map .c)⟩⟩⟩ rows vals m a w)
  (hB:rows[k]?=some B) (hT:T<hp.length) (hF:hp[F]?=some ⟨0,none⟩) (hTF:T≠F) (hTn:T<tm.length) (hFn:F<tm.length)
  (hE:∀(cs cs':List AV) (p:AV->AV->Prop),cs.length=rows.length->cs'.length=cs.length->(∀(k:Nat) (c c':AV),cs[k]?=some c->cs'[k]?=some c'->c'=c\/p c c')->Zacx (E cs) (E cs') p) :
  ∃m0,Zzn C w0 (Zxo X (othO X.O vals k)) ⟨tm,(hp.set T ⟨0,some ⟨ty,sz,box,E ((vals.map .c).set k (.own F 1 0 B.els.length))⟩⟩).set F ⟨1,some B⟩⟩ m0 a w /\
   ∀(i:Nat) (B':Blk) (v:Value),i≠k->rows[i]?=some B'->vals[i]?=some v->HRow w (shp (hpF ((hp.set T ⟨0,some ⟨ty,sz,box,E ((vals.map .c).set k (.own F 1 0 B.els.length))⟩⟩).set F ⟨1,some B⟩))) m0 X.X w0.heap.size B' v:=by
 have hr:Rep C tm.length w0 (Zxo X (othO X.O vals vals.length)) (tmF tm) (hpF (hp.set T ⟨0,some ⟨ty,sz,box,E (vals.map .c)⟩⟩)) m a w:=h.rep
 have hrows:=h.rows
 simp only at hrows
 have hFl:F<hp.length:=(gS_.1 hF).1
 have hF':hpF hp F=⟨0,none⟩:=by
  show hp.getD F _=_
  rw[gD_,hF]
  rfl
 generalize hη:hpF (hp.set T ⟨0,some ⟨ty,sz,box,E (vals.map .c)⟩⟩)=η at hr hrows
 have eη:η=Zeo (hpF hp) T ⟨0,some ⟨ty,sz,box,E (vals.map .c)⟩⟩:=by rw[<-hη,Zvw hT]
 have hηT:η T=⟨0,some ⟨ty,sz,box,E (vals.map .c)⟩⟩:=by rw[eη];simp[Zeo]
 have hηF:η F=⟨0,none⟩:=by
  rw[eη]
  show(if F=T then _ else hpF hp F)=_
  rw[if_neg (λq=>hTF q.symm),hF']
 have hk:k<vals.length:=by rw[h.rows.len];exact(gS_.1 hB).1
 obtain⟨v,hv⟩:∃v,vals[k]?=some v:=⟨_,gE_ hk⟩
 have hCR:=hE (vals.map .c) ((vals.map .c).set k (.own F ((η F).ver+1) 0 B.els.length)) (λx x'=>x=.c v/\x'=.own F ((η F).ver+1) 0 B.els.length) (by simp[h.rows.len]) (by simp) (λi c c' hc hc'=>by
  by_cases e:i=k
  ·subst e
   rw[List.getElem?_map,hv]at hc
   rw[List.getElem?_set_self (by simpa using hk)]at hc'
   injection hc with hc
   injection hc' with hc'
   exact .inr ⟨hc.symm,hc'.symm⟩
  ·rw[List.getElem?_set_ne (λq=>e q.symm),hc]at hc'
   injection hc' with hc'
   exact .inl hc'.symm)
 obtain⟨m0,q1,q2,q3,q4⟩:=hr.focus hηT (by rw[hηF]) hTF hTn hFn (hrows.row k B v hB hv) hCR
 have eS:Zeo (Zeo η T ⟨0,some { (⟨ty,sz,box,E (vals.map .c)⟩:Blk)with els:=E ((vals.map .c).set k (.own F ((η F).ver+1) 0 B.els.length)) }⟩) F ⟨(η F).ver+1,some B⟩=hpF ((hp.set T ⟨0,some ⟨ty,sz,box,E ((vals.map .c).set k (.own F 1 0 B.els.length))⟩⟩).set F ⟨1,some B⟩):=by
  rw[Zvw (by simpa using hFl),Zvw hT,hηF,eη,Zaee]
 rw[eS]at q2 q4
 have hO:(λb=>(Zxo X (othO X.O vals vals.length)).O b/\v.ownBlock≠some b)=othO X.O vals k:=by
  funext b
  refine propext ⟨?_,?_⟩
  ·rintro⟨h1|⟨i,u,h1,h2,h3⟩,h4⟩
   ·exact .inl h1
   ·refine .inr ⟨i,u,λe=>?_,h2,h3⟩
    subst e
    rw[hv]at h2
    injection h2 with h2
    exact h4 (by rw[h2];exact h3)
  ·rintro(h1|⟨i,u,h1,h2,h3⟩)
   ·exact⟨.inl h1,λq=>h.out k v hv b q h1⟩
   ·exact⟨.inr ⟨i,u,Nat.ne_of_lt (gS_.1 h2).1,h2,h3⟩,λq=>h1 (h.rows.dis i k u v b h2 hv h3 q)⟩
 rw[hO]at q1 q4
 refine⟨m0,q4,λi B' u hi hB' hu=>?_⟩
 refine(hrows.row i B' u hB' hu).move (Nat.le_refl _) (λ_ _ _=>rfl) (λb hb ho=>?_) (λb hb=>?_) (λb _ q=>q)
 ·exact Classical.byContradiction λhn=>q2.nown b hb hn ho
 ·rw[q1]
  exact .inr ⟨i,u,hi,hu,hb⟩
theorem Zaqr {C:Cx}{Q:Exit->St->Prop}{s:St}{α:Type}{c:Code}(T ty sz:Nat)(box:Bool)(tm:α->List AV)(hp:α->List Ent)(E:α->List AV->List (List AV))(rows:α->List Blk)(R:α->Prop)(μ:α->Nat)(x0:α)(hR:R x0)
  (hT:∀x,T<(hp x).length/\T<(tm x).length)
  (hE:∀(x:α) (cs cs':List AV) (p:AV->AV->Prop),cs.length=(rows x).length->cs'.length=cs.length->(∀(k:Nat) (c c':AV),cs[k]?=some c->cs'[k]?=some c'->c'=c\/p c c')->Zacx (E x cs) (E x cs') p)
  (hEk:∀(x:α) (cs:List AV) (k:Nat) (c:AV),cs.length=(rows x).length->cs[k]?=some c->∃(k':Nat) (e:List AV) (j:Nat),(E x cs)[k']?=some e/\e[j]?=some c)
  (h00:∀B∈rows x0,B.box=false/\B.els=[])
  (h0:leK s ⟨tm x0,(hp x0).set T ⟨0,some ⟨ty,sz,box,E x0 ((rows x0).map (λ_=>.c (.slice none 0 0)))⟩⟩⟩ True)
  (round:∀x,R x->∀vals:List Value,vals.length=(rows x).length ->
   (∃k B F,(rows x)[k]?=some B/\T≠F/\F<(tm x).length/\(hp x)[F]?=some ⟨0,none⟩ /\
    AWP C c (Zai1 (λs'=>∃x' B' F',R x'/\μ x'<μ x/\rows x'=Zpe (rows x) k B'/\(T≠F'/\F'<(tm x').length/\F'<(hp x').length/\B'.box=false/\FrL B'.els/\0<B'.sz) /\
     leK s' ⟨tm x',((hp x').set T ⟨0,some ⟨ty,sz,box,E x' (Zpe (vals.map .c) k (.own F' 0 0 B'.els.length))⟩⟩).set F' ⟨0,some B'⟩⟩ True /\
     ∀vs:List Value,leK ⟨tm x',((hp x').set T ⟨0,some ⟨ty,sz,box,E x' (vs.map .c)⟩⟩).set F' ⟨1,none⟩⟩ ⟨tm x',(hp x').set T ⟨0,some ⟨ty,sz,box,E x' (vs.map .c)⟩⟩⟩ True) (λ_ _=>False))
     ⟨tm x,((hp x).set T ⟨0,some ⟨ty,sz,box,E x ((vals.map .c).set k (.own F 1 0 B.els.length))⟩⟩).set F ⟨1,some B⟩⟩) \/
   AWP C c (Zai1 (λs'=>∃x' B' F',R x'/\μ x'<μ x/\rows x'=Zpe (rows x) (rows x).length B'/\(T≠F'/\F'<(tm x').length/\F'<(hp x').length/\B'.box=false/\FrL B'.els/\0<B'.sz) /\
     leK s' ⟨tm x',((hp x').set T ⟨0,some ⟨ty,sz,box,E x' (Zpe (vals.map .c) (rows x).length (.own F' 0 0 B'.els.length))⟩⟩).set F' ⟨0,some B'⟩⟩ True /\
     ∀vs:List Value,leK ⟨tm x',((hp x').set T ⟨0,some ⟨ty,sz,box,E x' (vs.map .c)⟩⟩).set F' ⟨1,none⟩⟩ ⟨tm x',(hp x').set T ⟨0,some ⟨ty,sz,box,E x' (vs.map .c)⟩⟩⟩ True)
    (λe s'=>∃(tm':List AV) (hp':List Ent),(∀B∈rows x,B.els.length<=140737488355328)/\T<hp'.length/\T<tm'.length/\leK s' ⟨tm',hp'.set T ⟨0,some ⟨ty,sz,box,E x (vals.map .c)⟩⟩⟩ True/\Q e ⟨tm',hp'.set T ⟨0,some ⟨ty,sz,box,E x ((rows x).map (λB=>.sl B.sz B.els))⟩⟩⟩))
    ⟨tm x,(hp x).set T ⟨0,some ⟨ty,sz,box,E x (vals.map .c)⟩⟩⟩):AWP C (.loop c) Q s:=by
 unfold AWP
 intro w0 X m a w hr
 obtain⟨g1,_,g2⟩:=Zx1 (C:=C) h0
 obtain⟨m0,hr0⟩:=g2 w0 X m a w hr
 have hmapc:(rows x0).map (λ_=>AV.c (.slice none 0 0))=((rows x0).map (λ_=>Value.slice none 0 0)).map .c:=by rw[List.map_map];rfl
 have hO0:∀k,othO X.O ((rows x0).map (λ_=>Value.slice none 0 0)) k=X.O:=λk=>by
  funext b
  refine propext ⟨?_,λq=>Or.inl q⟩
  rintro(h|⟨i,v,_,h2,h3⟩)
  ·exact h
  ·rw[List.getElem?_map]at h2
   cases e:(rows x0)[i]? <;> rw[e]at h2 <;> cases h2
   cases h3
 have hnil:∀{i:Nat} {v:Value},((rows x0).map (λ_=>Value.slice none 0 0))[i]?=some v->v=.slice none 0 0:=λ{i v} hv=>by
  rw[List.getElem?_map]at hv
  cases e:(rows x0)[i]? <;> rw[e]at hv <;> cases hv
  rfl
 have inv0:RInv C w0 X ⟨tm x0,(hp x0).set T ⟨0,some ⟨ty,sz,box,E x0 (((rows x0).map (λ_=>Value.slice none 0 0)).map .c)⟩⟩⟩ (rows x0) ((rows x0).map (λ_=>Value.slice none 0 0)) m0 a w:=by
  refine⟨?_,⟨by simp,λi B v hB hv=>?_,λi i' v v' b hv hv' hb _=>?_⟩,λi v hv b hb=>?_⟩
  ·rw[hO0,<-hmapc]
   exact hr0
  ·obtain⟨q1,q2⟩:=h00 B (mG_ hB)
   exact⟨q1,(by rw[q2];intro e he;cases he),.inl ⟨q2,hnil hv⟩⟩
  ·rw[hnil hv]at hb;cases hb
  ·rw[hnil hv]at hb;cases hb
 refine wp_loop_ghost (λn a w=>∃x vals m,R x/\μ x=n/\(tm x).length=s.tm.length/\RInv C w0 X ⟨tm x,(hp x).set T ⟨0,some ⟨ty,sz,box,E x (vals.map .c)⟩⟩⟩ (rows x) vals m a w) (μ x0) ⟨x0,_,m0,hR,rfl,g1,inv0⟩ ?_
 rintro n a w ⟨x,vals,m,hRx,rfl,hl,hx⟩
 rcases round x hRx vals hx.rows.len with⟨k,B,F,hB,hTF,hFn,hF,hawp⟩|hawp
 ·obtain⟨m1,r1,r2⟩:=hx.foc hB (hT x).1 hF hTF (hT x).2 hFn (hE x)
  have hk:k<vals.length:=by rw[hx.rows.len];exact(gS_.1 hB).1
  unfold AWP at hawp
  refine wp_mono (hawp w _ m1 a w (Rep.rebase r1)) ?_
  rintro e a' w' ⟨s',m',h1,h2,h3⟩
  cases e with
  | normal =>
   obtain⟨x',B',F',hR',hlt,hrw,⟨c1,c2,c3,c4,c5,c6⟩,hle,hle2⟩:=h2
   have hE':=hE x'
   have hEk':=hEk x'
   rw[hrw]at hE' hEk'
   obtain⟨k1,vals',m4,k2,k3⟩:=RInv.back r1 hx.rows.len (Nat.le_of_lt hk) r2 hx.rows.dis hx.out h3 h1 (hT x').1 c3 c1 (hT x').2 c2 c4 c5 c6 hle hle2 hE' hEk'
   exact⟨μ x',hlt,x',vals',m4,hR',rfl,k1.trans hl,by rw[hrw];exact k3⟩
  | _=>exact h2.elim
 ·have hO:othO X.O vals vals.length=othO X.O vals (rows x).length:=by rw[hx.rows.len]
  have r1:=hx.rep
  unfold AWP at hawp
  refine wp_mono (hawp w _ m a w (Rep.rebase r1)) ?_
  rintro e a' w' ⟨s',m',h1,h2,h3⟩
  cases e with
  | normal =>
   obtain⟨x',B',F',hR',hlt,hrw,⟨c1,c2,c3,c4,c5,c6⟩,hle,hle2⟩:=h2
   have hE':=hE x'
   have hEk':=hEk x'
   rw[hrw,<-hx.rows.len]at hE' hEk'
   rw[<-hx.rows.len]at hle
   obtain⟨k1,vals',m4,k2,k3⟩:=RInv.back r1 hx.rows.len (Nat.le_refl _) (λi B' v _ hB hv=>hx.rows.row i B' v hB hv) hx.rows.dis hx.out h3 h1 (hT x').1 c3 c1 (hT x').2 c2 c4 c5 c6 hle hle2 hE' hEk'
   exact⟨μ x',hlt,x',vals',m4,hR',rfl,k1.trans hl,by rw[hrw,<-hx.rows.len];exact k3⟩
  | _ =>
   obtain⟨tm',hp',d1,d2,d3,hle,hq⟩:=h2
   obtain⟨el,_,g⟩:=Zx1 (C:=C) hle
   obtain⟨m2,hm2⟩:=g _ _ _ _ _ h3
   have hn:tm'.length=(tm x).length:=el.trans h1
   have hinv:RInv C w0 X ⟨tm',hp'.set T ⟨0,some ⟨ty,sz,box,E x (vals.map .c)⟩⟩⟩ (rows x) vals m2 a' w':=by
    have hm2':Rep C tm'.length w (ownX (Zxo X (othO X.O vals vals.length)) _ m) (tmF tm') (hpF (hp'.set T ⟨0,some ⟨ty,sz,box,E x (vals.map .c)⟩⟩)) m2 a' w':=hm2
    refine⟨?_,⟨hx.rows.len,λi B v hB hv=>?_,hx.rows.dis⟩,hx.out⟩
    ·have r1':Rep C tm'.length w0 (Zxo X (othO X.O vals vals.length)) (tmF (tm x)) (hpF ((hp x).set T ⟨0,some ⟨ty,sz,box,E x (vals.map .c)⟩⟩)) m a w:=by rw[hn];exact r1
     exact Rep.unbase r1' hm2'
    ·refine(hx.rows.row i B v hB hv).move hm2'.kin.size (λb hb hq=>hm2'.kin.block b hb ?_) (λb hb ho=>Rep.owned hm2' r1.oo hb ho) (λb hb=>?_) (λb _ q=>q)
     ·rintro⟨i',q1,q2⟩
      rcases hq with hq|hq
      ·exact hq (.inr ⟨i',Zau.2 q1,q2⟩)
      ·refine r1.mem.sep i' b q1 q2 ?_
       rw[r1.oo]
       exact .inr ⟨i,v,Nat.ne_of_lt (gS_.1 hv).1,hv,hq⟩
     ·rw[hm2'.oo]
      exact .inr ⟨i,v,Nat.ne_of_lt (gS_.1 hv).1,hv,hb⟩
   obtain⟨m5,h5⟩:=hinv.close d2 d3 (hE x) d1
   exact⟨_,m5,by rw[hn];exact hl,hq,h5⟩
theorem Zasj {C:Cx}{Q:Exit->St->Prop}{c:Code}{tm:List AV}{hp:List Ent}(h:Zdo tm (λtm=>Zdo hp (λhp=>True->AWP C c Q ⟨tm,hp⟩))):AWP C c Q ⟨tm,hp⟩:=Zcl (Zcl h) trivial
def Zafg (tt:List (List Zam))(e:Zam):List (List Zam):=tt.set e.To.toNat ((tt[e.To.toNat]?.getD [])++[e])
def Zp6 (es:List Zam)(tt:List (List Zam)):List (List Zam):=es.foldl Zafg tt
theorem Zz1 (es:List Zam):∀tt,(Zp6 es tt).length=tt.length:=by
 induction es with
 | nil=>exact λ_=>rfl
 | cons e r ih=>intro tt;rw[Zp6,List.foldl_cons];exact(ih _).trans (by simp[Zafg])
def Zst (n:Nat)(l:List Zam):List Blk:=(Zp6 l (List.replicate n [])).map (λr=>⟨94,3,false,r.map Zao⟩)
theorem Zapc (n:Nat)(l:List Zam):(Zst n l).length=n:=by rw[Zst,lM_,Zz1,List.length_replicate]
theorem Zamk {n:Nat}{l:List Zam}{e:Zam}(h:e.To.toNat<n) :
  ∃r:List Zam,(Zst n l)[e.To.toNat]?=some ⟨94,3,false,r.map Zao⟩/\Zst n (l++[e])=Zpe (Zst n l) e.To.toNat ⟨94,3,false,r.map Zao++[Zao e]⟩:=by
 have hl:=Zz1 l (List.replicate n [])
 rw[List.length_replicate]at hl
 have hr:=gE_ (l:=Zp6 l (List.replicate n [])) (i:=e.To.toNat) (by omega)
 refine⟨_,by rw[Zst,List.getElem?_map,hr];rfl,?_⟩
 have:Zp6 (l++[e]) (List.replicate n [])=Zafg (Zp6 l (List.replicate n [])) e:=by rw[Zp6,List.foldl_append];rfl
 rw[Zst,this,Zafg,hr,List.map_set]
 unfold Zpe
 rw[if_pos (by rw[Zapc];exact h)]
 simp[Zst]
theorem Zad4 {n:Nat}{l:List Zam}{B:Blk}(h:B∈Zst n l):B.els.length<=l.length:=by
 have go:∀(l:List Zam) (tt:List (List Zam)) (m:Nat),(∀r∈tt,r.length<=m)->∀r∈Zp6 l tt,r.length<=m+l.length:=by
  intro l
  induction l with
  | nil=>exact λ_ _ h=>h
  | cons e r ih =>
   intro tt m h q hq
   have:=ih (Zafg tt e) (m+1) (λx hx=>?_) q hq
   ·rw[lC_];omega
   ·rcases List.mem_or_eq_of_mem_set hx with hx|rfl
    ·have:=h x hx;omega
    ·rw[lA_]
     cases hg:tt[e.To.toNat]? with
     | none=>simp
     | some y=>have:=h y (mG_ hg);simp;omega
 obtain⟨r,hr,rfl⟩:=List.mem_map.1 h
 have:=go l (List.replicate n []) 0 (λx hx=>by rw[(List.mem_replicate.1 hx).2];simp) r hr
 simpa using this
def eS (cs:List AV):List (List AV):=cs.map (λc=>[c])
theorem Zaq4 {cs cs':List AV}{p:AV->AV->Prop}(hl:cs'.length=cs.length)(h:∀(k:Nat)(c c':AV),cs[k]?=some c->cs'[k]?=some c'->c'=c\/p c c'):Zacx (eS cs) (eS cs') p:=by
 refine⟨by simp[eS,hl],λk e e' he he'=>?_⟩
 obtain⟨c,hc,rfl⟩:=Zsk he
 obtain⟨c',hc',rfl⟩:=Zsk he'
 refine⟨rfl,λj x x' hx hx'=>?_⟩
 match j,hx,hx' with
 | 0,hx,hx'=>simp at hx hx';rw[<-hx,<-hx'];exact h k c c' hc hc'
 | j+1,hx,_=>simp at hx
theorem Zat6 {cs:List AV}{k:Nat}{c:AV}(h:cs[k]?=some c):∃(k':Nat)(e:List AV)(j:Nat),(eS cs)[k']?=some e/\e[j]?=some c:=⟨k,[c],0,by simp[eS,h],rfl⟩
theorem Zass (cs:List AV)(k:Nat)(x:AV):eS (cs.set k x)=(eS cs).set k [x]:=by simp[eS,List.map_set]
theorem Zat7 (n:Nat)(l:List Zam):eS ((Zst n l).map (λB=>.sl B.sz B.els))=(Zp6 l (List.replicate n [])).map (λr=>[.sl 3 (r.map Zao)]):=by
 simp only[eS,Zst,List.map_map]
 rfl
theorem Zav4 (n:Nat):eS ((Zst n []).map (λ_=>.c (.slice none 0 0)))=List.replicate n [.c (.slice none 0 0)]:=by
 simp[eS,Zst,Zp6]
theorem Zaog (vs:List Value):FrL (eS (vs.map .c)):=by
 intro e he x hx
 obtain⟨c,hc,rfl⟩:=Zsk (List.getElem?_of_mem he).choose_spec
 obtain⟨v,_,rfl⟩:=List.mem_map.1 (mG_ hc)
 rw[mI_]at hx
 rw[hx]
 exact .c _
theorem Zapb {η η':Nat->Ent}(n:Nat):RowK η η' (List.replicate n [.c (.slice none 0 0)]) (eS ((Zst n []).map (λ_=>.c (.slice none 0 0)))):=by
 rw[Zav4]
 exact RowK.same rfl (λe he x hx=>by rw[(List.mem_replicate.1 he).2,mI_]at hx;rw[hx];exact .c _)
theorem Zapa {η η':Nat->Ent}{vs:List Value}{k kk F ver ver' len len':Nat}{B B':Blk}{x:AV}(hkk:kk=k)(h1:η F=⟨ver,some B⟩)(h2:η' F=⟨ver',some B'⟩)(hs:B.sz=B'.sz)(hk:k<vs.length)(hl:len=len') :
  RowK η η' ((eS ((vs.map .c).set k x)).set kk [.own F ver 0 len]) (eS (Zpe (vs.map .c) k (.own F ver' 0 len'))):=by
 subst hl
 rw[hkk]
 have hk':k<(vs.map AV.c).length:=by simpa using hk
 have e1:(eS ((vs.map .c).set k x)).set k [.own F ver 0 len]=eS ((vs.map .c).set k (.own F ver 0 len)):=by rw[<-Zass,List.set_set]
 rw[e1]
 unfold Zpe
 rw[if_pos hk']
 refine .wv (by simp[eS]) (λi e e' he he'=>?_)
 obtain⟨c,a2,rfl⟩:=Zsk he
 obtain⟨c',b2,rfl⟩:=Zsk he'
 refine⟨rfl,λj x x' hx hx' N=>?_⟩
 match j with
 | 0 =>
  simp at hx hx'
  rw[<-hx,<-hx']
  by_cases ei:i=k
  ·subst ei
   rw[List.getElem?_set_self hk']at a2 b2
   injection a2 with a2
   injection b2 with b2
   rw[<-a2,<-b2]
   exact Zati h1 h2 hs
  ·rw[List.getElem?_set_ne (λq=>ei q.symm)]at a2 b2
   rw[a2]at b2
   injection b2 with b2
   subst b2
   rw[List.getElem?_map]at a2
   obtain⟨v,_,rfl⟩:=Option.map_eq_some_iff.1 a2
   exact Zaqd (.c _)
 | j+1=>simp at hx
theorem Zav9 {x:AV}(h:Fr x):fr0 x:=by cases x <;> first|trivial|exact h
def opM {α β:Type}(o:Option α)(x:Option β)(k:α->Option β):Option β :=
 match o with
 | none=>x
 | some y=>k y
theorem Zakf {α β:Type}{x:Option β}{k:α->Option β}{z:β}(h:opM none x k=some z):x=some z:=h
theorem Zakg {α β:Type}{y:α}{x:Option β}{k:α->Option β}{z:β}(h:opM (some y) x k=some z):k y=some z:=h
section
variable {C : Cx} {n : Nat} {o : Oper} {τ : Nat -> AV} {η : Nat -> Ent} {op : BinOp} {xt yt : TypeId} {x : Operand} {r : Bool}
theorem Zaon {e:List AV}{j:Nat}(ho:o.op=.binOp op xt x (.const (.pointer none)) yt)(hd:InB n o.dst)(hx:evA τ x=.pim e j)(hu:C.P.underlying xt=some (.pointer (C.P.pointee xt)))(h:(op=.eql/\r=false)\/(op=.neq/\r=true)):LF C n o τ η ⟨.c (.bool r),[],[]⟩:=by
 refine Zbq hd (λτ' η' g1 _=>?_)
 intro w0 X m a w hr
 have h1:=hr.ev x
 rw[g1 x (by simp[ho,Op.operands]),hx]at h1
 obtain⟨b,off,f,hv,_⟩:=Zacg h1
 refine⟨_,?_,.c _⟩
 have e1:=run_eql_pointer_nil (P:=C.P) w xt (some ⟨b,off+j,none⟩) hu
 have e2:=run_neq_pointer_nil (P:=C.P) w xt (some ⟨b,off+j,none⟩) hu
 have hc:a.eval (.const (.pointer none))=.pointer none:=rfl
 rcases h with⟨rfl,rfl⟩|⟨rfl,rfl⟩
 ·simp[execOp,ho,hv,hc,eqGuard,e1]
 ·simp[execOp,ho,hv,hc,eqGuard,e2]
end
end Go.Proofs.YtpfnmpdcneejbaaGreatDoor.Am
namespace Go.Proofs.YtpfnmpdcneejbaaGreatDoor.Am
set_option maxHeartbeats 16000000
set_option maxRecDepth 100000
open Go.RowKit
def Zaca : Option Zde->AV
 | none=>.c (.pointer none)
 | some x=>.pim [.sl 1 (x.vars.map cI),.sl 1 (x.pattern.map cI),.c (.int .i64 x.system.States),.c (.int .i64 x.system.Init),.sl 1 (x.system.Costs.map cI),.sl 3 (x.system.Edges.map Zao),.sl 1 (x.system.Goals.map cB),.sl 1 (x.table.map cI)] 0
instance {z:Option Zde}:FrV (Zaca z):=⟨by cases z with
 | none=>exact .c _
 | some x=>exact FrV.h (x:=.pim [.sl 1 (x.vars.map cI),.sl 1 (x.pattern.map cI),.c (.int .i64 x.system.States),.c (.int .i64 x.system.Init),.sl 1 (x.system.Costs.map cI),.sl 3 (x.system.Edges.map Zao),.sl 1 (x.system.Goals.map cB),.sl 1 (x.table.map cI)] 0)⟩
def Zcz (a0:Zbh)(g:Nat):Nat->Int->(List Int)->(List Za1)->Option ((List Int)×(List Za1))|0,_,_,_=>none|k37+1,v34,v35,v36=>sel (decide (v34<((a0.Goals.map cB).length:Int))) (ix a0.Goals v34 (λy38=>ixn v35 ((v34).toNat) (λ_=>grd (v34<((v35.length:Nat):Int)) (sel y38 (ixn (v35.set ((v34).toNat) 1125899906842624) ((v34).toNat) (λ_=>ob1 (Zcb g v36 ({ dist:=0,state:=v34:Za1 })) (λc41=>Zcz a0 g k37 (IntKind.i64.wrap (v34+1)) ((v35.set ((v34).toNat) 1125899906842624).set ((v34).toNat) 0) c41))) (Zcz a0 g k37 (IntKind.i64.wrap (v34+1)) (v35.set ((v34).toNat) 1125899906842624) v36))))) (some (v35,v36))
def Zc0 (a1:List Int)(g:Nat)(y158:List Zam)(z155:Za1):Nat->Int->(List Int)->(List Za1)->Option ((List Int)×(List Za1))|0,_,_,_=>none|k200+1,v197,v198,v199=>sel (decide (v197<((y158.map Zao).length:Int))) (ix y158 v197 (λy201=>ix a1 y201.Label (λy202=>ixn v198 ((y201.From).toNat) (λy203=>grd (0<=y201.From) (grd (y201.From<((v198.length:Nat):Int)) (sel (decide ((IntKind.i64.wrap (z155.dist+y202))<y203)) (ixn v198 ((y201.From).toNat) (λ_=>ob1 (Zcb g v199 ({ dist:=(IntKind.i64.wrap (z155.dist+y202)),state:=y201.From:Za1 })) (λc205=>Zc0 a1 g y158 z155 k200 (IntKind.i64.wrap (v197+1)) (v198.set ((y201.From).toNat) (IntKind.i64.wrap (z155.dist+y202))) c205))) (Zc0 a1 g y158 z155 k200 (IntKind.i64.wrap (v197+1)) v198 v199))))))) (some (v198,v199))
def Zc1 (a0:Zbh)(a1:List Int)(g:Nat):Nat->(List Int)->(List Za1)->Option (List Int)|0,_,_=>none|k152+1,v150,v151=>ob2 (Zbs v151) (λz153 c154=>grd (c154.length=v151.length) (sel (decide (z153>0)) (ob2 (Ze9 g c154) (λz155 c156=>ixn v150 ((z155.state).toNat) (λy157=>grd (0<=z155.state) (grd (z155.state<((v150.length:Nat):Int)) (sel (decide (z155.dist>y157)) (Zc1 a0 a1 g k152 v150 c156) (ixn (Zp6 a0.Edges (List.replicate a0.States.toNat [])) ((z155.state).toNat) (λy158=>grd (z155.state<((a0.States.toNat:Nat):Int)) (ob1 (Zc0 a1 g y158 z155 ((((y158.map Zao).length:Int)).toNat+1) 0 v150 c156:Option ((List Int)×(List Za1))) (λ(v181,v182)=>Zc1 a0 a1 g k152 v181 v182))))))))) (grd (v150.length<=140737488355328) (some v150))))
def Zhq (g:Nat)(a0:Zbh)(a1:List Int):Option (List Int):=grd (0<=a0.States) (grd (a0.States*24<=281474976710656) (grd (a0.Edges.length*24<=140737488355328) (grd (a0.Edges.all (λe=>decide (0<=e.To)&&decide (e.To<a0.States))) (grd (a0.States*8<=281474976710656) (ob1 (Zcz a0 g ((((a0.Goals.map cB).length:Int)).toNat+1) 0 (List.replicate a0.States.toNat 0) []:Option ((List Int)×(List Za1))) (λ(v20,v21)=>Zc1 a0 a1 g g v20 v21))))))
theorem Zru (g:Nat)(a0:Zbh)(a1:List Int){r1:List Int}(h:Zhq g a0 a1=some r1):ACall cx 22 [.agg [.c (.int .i64 a0.States),.c (.int .i64 a0.Init),.sl 1 (a0.Costs.map cI),.sl 3 (a0.Edges.map Zao),.sl 1 (a0.Goals.map cB)],.sl 1 (a1.map cI)] (.sl 1 (r1.map cI)):=by
 refine aOf Tryz.func22 rfl (by decide) rfl (bT5 rfl) ?_;intro _;unfold Zhq at h;refine aSR λ_=>dr (aSR λ_=>?_);obtain⟨q1,h⟩:=Zaf h;obtain⟨q2,h⟩:=Zaf h;refine⟨_,Zsn rfl rfl (bT5 rfl) (Zbz 95 _ rfl) rfl (Zbz 58 _ rfl) rfl rfl rfl (by first|assumption|omega) (by first|assumption|(show _*(24:Int)<=_;omega)|omega) (by omega) rfl (by simp only[Value.cells];simp[Value.oneCell']) (by decide),?_⟩;intro _;refine dr ?_;obtain⟨qe,h⟩:=Zaf h;obtain⟨qa,h⟩:=Zaf h;refine Zat (α:=Unit) (λ_=>mkS 127 [(1,.sl 1 (a1.map cI)),(2,.ptr 2 0 0 0),(5,.own 19 0 0 a0.States.toNat)] [(2,⟨61,5,true,[[.c (.int .i64 a0.States),.c (.int .i64 a0.Init),.sl 1 (a0.Costs.map cI),.sl 3 (a0.Edges.map Zao),.sl 1 (a0.Goals.map cB)]]⟩),(19,⟨58,1,false,(Zp6 a0.Edges (List.replicate a0.States.toNat [])).map Zav⟩)]) (λ_=>True) ?_ ?_
 ·refine aSR λ_=>dr (aBk ?_);refine Zaqr (α:=Nat) 19 58 1 false (λi=>(mkS 127 [(1,.sl 1 (a1.map cI)),(2,.ptr 2 0 0 0),(5,.own 19 0 0 a0.States.toNat),(21,.sl 3 (a0.Edges.map Zao)),(22,.c (.int .i64 ((a0.Edges.map Zao).length:Int))),(23,.c (.int .i64 ((i:Nat):Int)))] []).tm) (λi=>(mkS 127 [] [(2,⟨61,5,true,[[.c (.int .i64 a0.States),.c (.int .i64 a0.Init),.sl 1 (a0.Costs.map cI),.sl 3 (a0.Edges.map Zao),.sl 1 (a0.Goals.map cB)]]⟩)]).hp) (λi cs=>eS cs) (λi=>Zst a0.States.toNat (a0.Edges.take i)) (λi=>i<=a0.Edges.length) (λi=>a0.Edges.length-i) 0 (Nat.zero_le _)
   (λx=>⟨bT5 rfl,bT5 rfl⟩) (λx cs cs' p h1 h2 h=>Zaq4 h2 h) (λx cs k c h1 h=>Zat6 h) (λB hB=>?_) ?_ ?_
  ·obtain⟨r,hr,rfl⟩:=List.mem_map.1 hB;have hr':r=[]:=(List.mem_replicate.1 (show r∈List.replicate a0.States.toNat []from hr)).2;rw[hr'];exact⟨rfl,rfl⟩
  ·repeat (first|exact True.intro|refine And.intro (Zapb a0.States.toNat) ?_|refine ci ?_)
  ·intro i hi vals hv;by_cases hlt:i<a0.Edges.length
   ·have hat:=gE_ hlt;have hat0:a0.Edges[((i:Nat):Int).toNat]?=some a0.Edges[i]:=(by rw[Int.toNat_natCast];exact hat);have hwr:IntKind.i64.wrap ((i:Int)+1)=(i:Int)+1:=Zpd (by omega) (by omega);have htk:a0.Edges.take (i+1)=a0.Edges.take i++[a0.Edges[i]]:=(by rw[List.take_add_one,hat];rfl);have hok:=List.all_eq_true.1 qa a0.Edges[i] (List.getElem_mem hlt);simp only[bA_,decide_eq_true_eq]at hok;obtain⟨r,f2,f4⟩:=Zamk (l:=a0.Edges.take i) (e:=a0.Edges[i]) (n:=a0.States.toNat) (by omega);have hk:a0.Edges[i].To.toNat<vals.length:=(by rw[hv];exact(gS_.1 f2).1);have hr:=Zad4 (mG_ f2);simp only[lM_,List.length_take]at hr;refine .inl ⟨_,_,60,f2,by decide,bT5 rfl,rfl,?_⟩;refine Zasj λ_=>aSR λ_=>dr (aSq (aCd λ_=>?_));refine⟨λ_=>?_,λhc=>absurd hc (by simp;omega)⟩;refine aSk (aSq (aBk (aSR λ_=>Exists.intro (Zao a0.Edges[i]) (And.intro (Zad hat0) λ_=>pr (dr (aRg λ_=>?_))))));have hcell:(eS ((List.map AV.c vals).set a0.Edges[i].To.toNat (AV.own 60 1 0 (List.map Zao r).length)))[0+a0.Edges[i].To.toNat]?=some [AV.own 60 1 0 (List.map Zao r).length]:=by
     rw[Nat.zero_add,Zass,List.getElem?_set_self (by simpa [eS] using hk)]
    refine Exists.intro _ (And.intro hcell λ_=>Exists.intro _ (And.intro hcell λ_=>?_));(repeat (refine And.intro (by first|rfl|(simp;done)|omega|(simp;omega)|(simp only[lM_,lC_,List.length_nil];omega)) ?_));refine dr (aRg λ_=>dr ?_);have hfr:FrL (r.map Zao++[Zao a0.Edges[i]]):=by
     have:=Zlg (r++[a0.Edges[i]]);rw[List.map_append]at this;exact this
    refine⟨i+1,⟨94,3,false,r.map Zao++[Zao a0.Edges[i]]⟩,60,hlt,by show a0.Edges.length-(i+1)<a0.Edges.length-i;omega,?_,⟨by decide,bT5 rfl,bT5 rfl,rfl,hfr,bT5 rfl⟩,?_,?_⟩
    ·show Zst _ (a0.Edges.take (i+1))=_;rw[htk];exact f4
    ·repeat (first|exact True.intro|refine And.intro (Zapa (Nat.zero_add _) rfl rfl rfl hk (by simp)) ?_|refine And.intro (RowK.same rfl hfr) ?_|exact hwr|refine ci ?_)
    ·intro vs;repeat (first|exact True.intro|refine And.intro (RowK.same rfl (Zaog vs)) ?_|refine ci ?_)
   ·refine .inr (Zasj λ_=>aSR λ_=>dr (aSq (aCd λ_=>?_)));refine⟨λhc=>absurd hc (by simp;omega),λ_=>?_⟩;refine aEx ?_;have hie:i=a0.Edges.length:=(by omega);subst hie;have heq:eS ((Zst a0.States.toNat (a0.Edges.take a0.Edges.length)).map (λB=>.sl B.sz B.els))=(Zp6 a0.Edges (List.replicate a0.States.toNat [])).map Zav:=by
     rw[tL_ (Nat.le_refl _)];exact Zat7 a0.States.toNat a0.Edges
    refine⟨(mkS 127 [(1,.sl 1 (a1.map cI)),(2,.ptr 2 0 0 0),(5,.own 19 0 0 a0.States.toNat)] []).tm,(mkS 127 [] [(2,⟨61,5,true,[[.c (.int .i64 a0.States),.c (.int .i64 a0.Init),.sl 1 (a0.Costs.map cI),.sl 3 (a0.Edges.map Zao),.sl 1 (a0.Goals.map cB)]]⟩)]).hp,λB hB=>?_,bT5 rfl,bT5 rfl,?_,(),trivial,?_⟩
    ·have:=Zad4 hB;rw[List.length_take]at this;omega
    ·repeat (first|exact True.intro|refine And.intro (RowK.same rfl (Zaog vals)) ?_|refine ci ?_)
    ·repeat (first|exact True.intro|refine And.intro (RowK.same heq (by rw[heq];exact Zri _)) ?_|refine ci ?_)
 ·rintro - -;intro _;refine aSR λ_=>?_;obtain⟨q3,h⟩:=Zaf h;refine⟨_,Zsn rfl rfl (bT5 rfl) (Zbz 22 _ rfl) rfl (Zbz 3 _ rfl) rfl rfl rfl (by first|assumption|omega) (by first|assumption|(show _*(8:Int)<=_;omega)|omega) (by omega) rfl (by simp only[Value.cells];simp[Value.oneCell']) (by decide),?_⟩;intro _;refine dr (aSR λ_=>dr ?_);obtain⟨o4,h,hK5⟩:=Zae h;refine Zat (α:=(List Int)×(List Za1)) (λ(v20,v21)=>mkS 127 [(1,.sl 1 (a1.map cI)),(5,.own 19 0 0 a0.States.toNat),(8,.own 42 0 0 v20.length),(9,.ptr 44 0 0 0)] [(19,⟨58,1,false,(Zp6 a0.Edges (List.replicate a0.States.toNat [])).map Zav⟩),(42,⟨3,1,false,v20.map cI⟩),(43,⟨101,2,false,v21.map Za3⟩),(44,⟨98,1,true,[[.own 43 0 0 v21.length]]⟩)]) (λv=>o4=v) ?_ ?_
  ·refine aSR λ_=>dr (aBk ?_);refine Zaj (α:=Nat×Int×(List Int)×(List Za1)) (λx=>mkS 127 [(1,.sl 1 (a1.map cI)),(5,.own 19 0 0 a0.States.toNat),(8,.own 42 0 0 x.2.2.1.length),(9,.ptr 44 0 0 0),(46,.sl 1 (a0.Goals.map cB)),(47,.c (.int .i64 ((a0.Goals.map cB).length:Int))),(48,.c (.int .i64 x.2.1))] [(19,⟨58,1,false,(Zp6 a0.Edges (List.replicate a0.States.toNat [])).map Zav⟩),(42,⟨3,1,false,x.2.2.1.map cI⟩),(43,⟨101,2,false,x.2.2.2.map Za3⟩),(44,⟨98,1,true,[[.own 43 0 0 x.2.2.2.length]]⟩)]) (λx=>Zcz a0 g x.1 x.2.1 x.2.2.1 x.2.2.2=some o4) (λx=>x.1) ((((a0.Goals.map cB).length:Int)).toNat+1,0,(List.replicate a0.States.toNat 0),[]) h ?_ ?_
   ·exact Zas
   ·intro x6 h;intro _;obtain⟨k37,m7,h⟩:=Zak (f:=λn=>Zcz a0 g n x6.2.1 x6.2.2.1 x6.2.2.2) rfl h;replace h:Zcz a0 g (k37+1) x6.2.1 x6.2.2.1 x6.2.2.2=some o4:=h;rw[Zcz]at h;refine aSR λ_=>dr (aSq (aCd λ_=>?_));refine spl h (λc8 h=>?_) (λc8 h=>?_)
    ·refine aSk (aSq (aBk (aSR λ_=>?_)));obtain⟨y38,w9,q10,h⟩:=Za9 h;refine Exists.intro (cB y38) (And.intro (Zad w9) λ_=>pr (dr (aSR λ_=>?_)));obtain⟨y39,w11,h⟩:=Zcm h;refine Exists.intro (cI y39) (And.intro (by first|exact Zad w11|(have w:=Zad (f:=cI) w11;simpa [cI,Value.cells] using w)) ?_);intro _;obtain⟨q12,h⟩:=Zaf h;refine pr (pr (dr (aSR λ_=>dr (aCd λ_=>?_))));refine spl h (λc13 h=>?_) (λc13 h=>?_)
     ·refine aSR λ_=>?_;obtain⟨y40,w14,h⟩:=Zcm h;refine Exists.intro (cI y40) (And.intro (by first|exact Zad w14|(have w:=Zad (f:=cI) w14;simpa [cI,Value.cells] using w)) ?_);intro _;refine pr (pr (dr (aRg λ_=>?_)));obtain⟨c41,u15,h⟩:=Zae h;refine clg [(14,44),(0,43)] [] [(43,⟨1,none⟩)] [(44,⟨0,some ⟨98,1,true,[[.own 43 2 0 c41.length]]⟩⟩),(43,⟨2,some ⟨101,2,false,c41.map Za3⟩⟩)] (.tup []) rfl rfl (Zlo g x6.2.2.2 ({ dist:=0,state:=x6.2.1:Za1 }) u15) λ_=>dr (aRg λ_=>dr ⟨(k37,(IntKind.i64.wrap (x6.2.1+1)),((x6.2.2.1.set ((x6.2.1).toNat) 1125899906842624).set ((x6.2.1).toNat) 0),c41),h,ltS m7,?_⟩);exact Zas
     ·refine aSk (aRg λ_=>dr ⟨(k37,(IntKind.i64.wrap (x6.2.1+1)),(x6.2.2.1.set ((x6.2.1).toNat) 1125899906842624),x6.2.2.2),h,ltS m7,?_⟩);exact Zas
    ·refine aEx ⟨(x6.2.2.1,x6.2.2.2),(sI_ h).symm,?_⟩;exact Zas
  ·rintro⟨v20,v21⟩ ho;have ho:=ho.symm;subst ho;intro _;replace h:=hK5;refine aSq (aBk ?_);refine Zaj (α:=Nat×(List Int)×(List Za1)) (λx=>mkS 127 [(1,.sl 1 (a1.map cI)),(5,.own 19 0 0 a0.States.toNat),(8,.own 42 0 0 x.2.1.length),(9,.ptr 44 0 0 0)] [(19,⟨58,1,false,(Zp6 a0.Edges (List.replicate a0.States.toNat [])).map Zav⟩),(42,⟨3,1,false,x.2.1.map cI⟩),(43,⟨101,2,false,x.2.2.map Za3⟩),(44,⟨98,1,true,[[.own 43 0 0 x.2.2.length]]⟩)]) (λx=>Zc1 a0 a1 g x.1 x.2.1 x.2.2=some r1) (λx=>x.1) (g,v20,v21) h ?_ ?_
   ·exact Zas
   ·intro x16 h;intro _;obtain⟨k152,m17,h⟩:=Zak (f:=λn=>Zc1 a0 a1 g n x16.2.1 x16.2.2) rfl h;replace h:Zc1 a0 a1 g (k152+1) x16.2.1 x16.2.2=some r1:=h;rw[Zc1]at h;refine aSq (aSR λ_=>?_);obtain⟨z153,c154,u18,h⟩:=Zdv h;refine clg [(5,43)] [] [] [(43,⟨0,some ⟨101,2,false,c154.map Za3⟩⟩)] (.c (.int .i64 z153)) rfl rfl (Zha x16.2.2 u18) ?_;obtain⟨q19,h⟩:=Zaf h;intro _;refine dr (aCd λ_=>?_);refine spl h (λc20 h=>?_) (λc20 h=>?_)
    ·refine aSk (aBk (aSR λ_=>?_));obtain⟨z155,c156,u21,h⟩:=Zdv h;refine clg [(16,44),(0,43)] [] [(43,⟨1,none⟩)] [(44,⟨0,some ⟨98,1,true,[[.own 43 2 0 c156.length]]⟩⟩),(43,⟨2,some ⟨101,2,false,c156.map Za3⟩⟩)] (.ifc 101 (.agg [.c (.int .i64 z155.dist),.c (.int .i64 z155.state)])) rfl rfl (Zrq g c154 u21) λ_=>?_;refine⟨_,Zsm rfl (bT5 rfl) rfl (λ_ _=>by kernel_rfl),?_⟩;intro _;refine dr (aSq (aSR λ_=>?_));obtain⟨y157,w22,h⟩:=Zcm h;refine Exists.intro (cI y157) (And.intro (by first|exact Zad w22|(have w:=Zad (f:=cI) w22;simpa [cI,Value.cells] using w)) ?_);intro _;obtain⟨q23,h⟩:=Zaf h;obtain⟨q24,h⟩:=Zaf h;refine pr (pr (dr (aCd λ_=>?_)));refine spl h (λc25 h=>?_) (λc25 h=>?_)
     ·refine aEx ⟨(k152,x16.2.1,c156),h,ltS m17,?_⟩;exact Zas
     ·refine aSk (aSR λ_=>?_);obtain⟨y158,w26,h⟩:=Zcm h;refine Exists.intro (Zav y158) (And.intro (by first|exact Zad w26|(have w:=Zad (f:=Zav) w26;simpa [Zav,Value.cells] using w)) ?_);intro _;obtain⟨q27,h⟩:=Zaf h;refine pr (pr (dr ?_));obtain⟨o28,h,hK29⟩:=Zae h;refine Zac5 (α:=(List Int)×(List Za1)) (λ(v181,v182)=>mkS 127 [(1,.sl 1 (a1.map cI)),(5,.own 19 0 0 a0.States.toNat),(8,.own 42 0 0 v181.length),(9,.ptr 44 0 0 0)] [(19,⟨58,1,false,(Zp6 a0.Edges (List.replicate a0.States.toNat [])).map Zav⟩),(42,⟨3,1,false,v181.map cI⟩),(43,⟨101,2,false,v182.map Za3⟩),(44,⟨98,1,true,[[.own 43 0 0 v182.length]]⟩)]) (λv=>o28=v) ?_ ?_
      ·refine aBk ?_;refine Zaj (α:=Nat×Int×(List Int)×(List Za1)) (λx=>mkS 127 [(1,.sl 1 (a1.map cI)),(5,.own 19 0 0 a0.States.toNat),(8,.own 42 0 0 x.2.2.1.length),(9,.ptr 44 0 0 0),(12,.ptr 12 0 0 0),(91,.sl 3 (y158.map Zao)),(92,.c (.int .i64 ((y158.map Zao).length:Int))),(93,.c (.int .i64 x.2.1))] [(12,⟨101,2,true,[[.c (.int .i64 z155.dist),.c (.int .i64 z155.state)]]⟩),(19,⟨58,1,false,(Zp6 a0.Edges (List.replicate a0.States.toNat [])).map Zav⟩),(42,⟨3,1,false,x.2.2.1.map cI⟩),(43,⟨101,2,false,x.2.2.2.map Za3⟩),(44,⟨98,1,true,[[.own 43 0 0 x.2.2.2.length]]⟩)]) (λx=>Zc0 a1 g y158 z155 x.1 x.2.1 x.2.2.1 x.2.2.2=some o28) (λx=>x.1) ((((y158.map Zao).length:Int)).toNat+1,0,x16.2.1,c156) h ?_ ?_
       ·exact Zas
       ·intro x30 h;intro _;obtain⟨k200,m31,h⟩:=Zak (f:=λn=>Zc0 a1 g y158 z155 n x30.2.1 x30.2.2.1 x30.2.2.2) rfl h;replace h:Zc0 a1 g y158 z155 (k200+1) x30.2.1 x30.2.2.1 x30.2.2.2=some o28:=h;rw[Zc0]at h;refine aSR λ_=>dr (aSq (aCd λ_=>?_));refine spl h (λc32 h=>?_) (λc32 h=>?_)
        ·refine aSk (aSq (aBk (aSR λ_=>?_)));obtain⟨y201,w33,q34,h⟩:=Za9 h;refine Exists.intro (Zao y201) (And.intro (Zad w33) λ_=>pr (dr (aSR λ_=>?_)));obtain⟨y202,w35,q36,h⟩:=Za9 h;refine Exists.intro (cI y202) (And.intro (Zad w35) λ_=>pr (dr (aSR λ_=>?_)));obtain⟨y203,w37,h⟩:=Zcm h;refine Exists.intro (cI y203) (And.intro (by first|exact Zad w37|(have w:=Zad (f:=cI) w37;simpa [cI,Value.cells] using w)) ?_);intro _;obtain⟨q38,h⟩:=Zaf h;obtain⟨q39,h⟩:=Zaf h;refine pr (pr (dr (aCd λ_=>?_)));refine spl h (λc40 h=>?_) (λc40 h=>?_)
         ·refine aSR λ_=>?_;obtain⟨y204,w41,h⟩:=Zcm h;refine Exists.intro (cI y204) (And.intro (by first|exact Zad w41|(have w:=Zad (f:=cI) w41;simpa [cI,Value.cells] using w)) ?_);intro _;refine pr (pr (dr (aRg λ_=>?_)));obtain⟨c205,u42,h⟩:=Zae h;refine clg [(14,44),(0,43)] [] [(43,⟨1,none⟩)] [(44,⟨0,some ⟨98,1,true,[[.own 43 2 0 c205.length]]⟩⟩),(43,⟨2,some ⟨101,2,false,c205.map Za3⟩⟩)] (.tup []) rfl rfl (Zlo g x30.2.2.2 ({ dist:=(IntKind.i64.wrap (z155.dist+y202)),state:=y201.From:Za1 }) u42) λ_=>dr (aRg λ_=>dr ⟨(k200,(IntKind.i64.wrap (x30.2.1+1)),(x30.2.2.1.set ((y201.From).toNat) (IntKind.i64.wrap (z155.dist+y202))),c205),h,ltS m31,?_⟩);exact Zas
         ·refine aSk (aRg λ_=>dr ⟨(k200,(IntKind.i64.wrap (x30.2.1+1)),x30.2.2.1,x30.2.2.2),h,ltS m31,?_⟩);exact Zas
        ·refine aEx ⟨(x30.2.2.1,x30.2.2.2),(sI_ h).symm,?_⟩;exact Zas
      ·rintro⟨v181,v182⟩ ho;have ho:=ho.symm;subst ho;intro _;replace h:=hK29;refine⟨(k152,v181,v182),h,ltS m17,?_⟩;exact Zas
    ·refine aEx (aSR λ_=>dr (aRt ?_));obtain⟨q43,h⟩:=Zaf h;exact zz4
def Zk9 (a0:Int):Option (Bool):=sel (decide (a0<0)) (some true) (some (decide (a0>1048576)))
theorem Zacu (a0:Int){r1:Bool}(h:Zk9 a0=some r1):ACall cx 19 [.c (.int .i64 a0)] (.c (.bool r1)):=by
 refine aOf Tryz.func19 rfl (by decide) rfl (bT5 rfl) ?_;intro _;unfold Zk9 at h;refine aSR λ_=>dr (aSR λ_=>?_);refine spf h (λc1 h=>?_) (λc1 h=>?_)
 ·exact zz0
 ·exact zz0
def Zl5 (g:Nat)(a0:Zah)(a1:List Int)(a2:List Int):Option ((Option Zde)×Er):=ob1 (Zf4 a0) (λz1=>erM z1 (ob1 (sel (decide (((a2.map cI).length:Int)>0)) (sel (((a2.map cI).length:Int) != ((a0.Ops.map Za0).length:Int)) (some (.inr (none,(Er.no 11)))) (some (.inl ()))) (some (.inl ())):Option (Unit⊕((Option Zde)×Er))) (Zj9 (λ_=>ob1 (Zdg a2 Zk9) (λz6=>sel z6 (some (none,(Er.no 1))) (ob2 (Zhr g a0 a1) (λz7 z8=>erM z8 (sel (((a2.map cI).length:Int) == 0) (ob1 (Znb a0.Vars) (λz10=>ob1 (Znb a1) (λz11=>ob1 (Zhq g z7 z7.Costs) (λz12=>grd (z10.length<=140737488355328) (grd (z11.length<=140737488355328) (some ((some ({ vars:=z10,pattern:=z11,system:=z7,table:=z12:Zde })),Er.nil))))))) (ob1 (Znb a0.Vars) (λz13=>ob1 (Znb a1) (λz14=>ob1 (Zhq g z7 a2) (λz15=>grd (z13.length<=140737488355328) (grd (z14.length<=140737488355328) (some ((some ({ vars:=z13,pattern:=z14,system:=z7,table:=z15:Zde })),Er.nil)))))))) (λe9=>some (none,(Er.no e9))))))) (λ(r3,r4)=>some (r3,r4)))) (λe2=>some (none,(Er.no e2))))
theorem Zy8 (g:Nat)(a0:Zah)(a1:List Int)(a2:List Int){r1:Option Zde}{r2:Er}(h:Zl5 g a0 a1 a2=some (r1,r2)):ACall cx 7 [.agg [.sl 1 (a0.Vars.map cI),.sl 1 (a0.Init.map cI),.sl 2 (a0.Goal.map cF),.sl 4 (a0.Ops.map Za0)],.sl 1 (a1.map cI),.sl 1 (a2.map cI)] (.tup [Zaca r1,eA r2]):=by
 refine aOf Tryz.func7 rfl (by decide) rfl (bT5 rfl) ?_;intro _;unfold Zl5 at h;refine aSR λ_=>dr (aSq (aSR λ_=>?_));obtain⟨z1,u1,h⟩:=Zae h;refine cl rfl (Zkp a0 u1) λ_=>dr (aSq ?_);rcases z1 with _|e2
 ·replace h:=Zdn h;refine aRg λ_=>dr (aCd λ_=>Znf (aSk ?_));obtain⟨o2,h,hK3⟩:=Zae h;refine Zat (α:=Unit) (λ_=>mkS 56 [(1,.sl 1 (a1.map cI)),(2,.sl 1 (a2.map cI)),(3,.ptr 3 0 0 0)] [(3,⟨26,4,true,[[.sl 1 (a0.Vars.map cI),.sl 1 (a0.Init.map cI),.sl 2 (a0.Goal.map cF),.sl 4 (a0.Ops.map Za0)]]⟩)]) (λv=>o2=(.inl v)) ?_ ?_
  ·refine aSR λ_=>?_;refine spl h (λc4 h=>?_) (λc4 h=>?_)
   ·intro _;refine dr (aCd λ_=>?_);refine spl h (λc5 h=>?_) (λc5 h=>?_)
    ·refine aSR λ_=>dr (aRt ?_);have j6:=sI_ h;subst j6;replace h:=(Za4 hK3);exact zz1
    ·exact zz10
   ·intro _;refine dr (aCd λ_=>Znf ?_);exact zz10
  ·rintro _ ho;have ho:=ho.symm;subst ho;intro _;replace h:=(Zcx hK3);refine aSq (aSR λ_=>?_);obtain⟨z6,u7,h⟩:=Zae h;refine clb [] rfl rfl (Zm1 a2 Zk9 (.clo (.func 19) [] []) (Fr.clo Zd2 FrE.h) ⟨_,_,_,rfl⟩ (λx0 y0 hx=>⟨19,[],_,rfl,Zacu x0 hx⟩) u7) ?_;intro _;refine dr (aCd λ_=>?_);refine spl h (λc8 h=>?_) (λc8 h=>?_)
   ·exact zz6
   ·refine aSk (aSR λ_=>?_);obtain⟨z7,z8,u9,h⟩:=Zdv h;refine cl rfl (Zv9 g a0 a1 u9) λ_=>dr (aSq (aSq ?_));rcases z8 with _|e9
    ·replace h:=Zdn h;refine aRg λ_=>dr (aCd λ_=>Znf (aSk (aSq (aSR λ_=>dr (aCd λ_=>?_)))));refine spl h (λc10 h=>?_) (λc10 h=>?_)
     ·refine aRg λ_=>dr (aSR λ_=>?_);obtain⟨z10,u11,h⟩:=Zae h;refine clg [(0,47)] [] [] [(47,⟨2,some ⟨3,1,false,z10.map cI⟩⟩)] (.own 47 2 0 z10.length) rfl rfl (Zro a0.Vars u11) λ_=>?_;obtain⟨z11,u12,h⟩:=Zae h;refine clg [(0,49)] [] [] [(49,⟨2,some ⟨3,1,false,z11.map cI⟩⟩)] (.own 49 2 0 z11.length) rfl rfl (Zro a1 u12) λ_=>?_;obtain⟨z12,u13,h⟩:=Zae h;refine cl rfl (Zru g z7 z7.Costs u13) λ_=>dr (aRt ?_);obtain⟨q14,h⟩:=Zaf h;obtain⟨q15,h⟩:=Zaf h;exact zz1
     ·refine aSk (aSR λ_=>?_);obtain⟨z13,u16,h⟩:=Zae h;refine clg [(0,47)] [] [] [(47,⟨2,some ⟨3,1,false,z13.map cI⟩⟩)] (.own 47 2 0 z13.length) rfl rfl (Zro a0.Vars u16) λ_=>?_;obtain⟨z14,u17,h⟩:=Zae h;refine clg [(0,49)] [] [] [(49,⟨2,some ⟨3,1,false,z14.map cI⟩⟩)] (.own 49 2 0 z14.length) rfl rfl (Zro a1 u17) λ_=>?_;obtain⟨z15,u18,h⟩:=Zae h;refine cl rfl (Zru g z7 a2 u18) λ_=>dr (aRt ?_);obtain⟨q19,h⟩:=Zaf h;obtain⟨q20,h⟩:=Zaf h;exact zz1
    ·exact zz7
 ·exact zz7
def Zbw (a0:Zde):Option (List Int):=ob1 (Znb a0.table) (λz1=>grd (z1.length<=140737488355328) (some z1))
theorem Zhw (a0:Zde){r1:List Int}(h:Zbw a0=some r1):ACall cx 10 [.pim [.sl 1 (a0.vars.map cI),.sl 1 (a0.pattern.map cI),.c (.int .i64 a0.system.States),.c (.int .i64 a0.system.Init),.sl 1 (a0.system.Costs.map cI),.sl 3 (a0.system.Edges.map Zao),.sl 1 (a0.system.Goals.map cB),.sl 1 (a0.table.map cI)] 0] (.sl 1 (r1.map cI)):=by
 refine aOf Tryz.func10 rfl (by decide) rfl (bT5 rfl) ?_;intro _;unfold Zbw at h;refine aSR λ_=>dr (aSq (aSq (Zzq [1] λ_=>?_)));intro _;refine⟨rfl,_,Zaon rfl (bT5 rfl) rfl (by kernel_rfl) (.inl ⟨rfl,rfl⟩),?_⟩;intro _;refine dr (aCd λ_=>Znf (aSk (aSR λ_=>?_)));obtain⟨z1,u1,h⟩:=Zae h;refine clg [(0,9)] [] [] [(9,⟨2,some ⟨3,1,false,z1.map cI⟩⟩)] (.own 9 2 0 z1.length) rfl rfl (Zro a0.table u1) λ_=>dr (aRt ?_);obtain⟨q2,h⟩:=Zaf h;exact zz4
def Za2 (a0:Zde)(a1:List Int):Nat->Int->Int->Option (Int)|0,_,_=>none|k28+1,v26,v27=>sel (decide (v27<((a0.pattern.map cI).length:Int))) (ix a0.pattern v27 (λy29=>ix a0.vars y29 (λy30=>ix a1 y29 (λy31=>Za2 a0 a1 k28 (IntKind.i64.wrap ((IntKind.i64.wrap (v26*y30))+y31)) (IntKind.i64.wrap (v27+1)))))) (some v26)
def Zbx (a0:Zde)(a1:List Int):Option (Int):=ob1 (Zjw a0.vars a1) (λz1=>sel (!z1) (some 1125899906842624) (ob1 (Za2 a0 a1 ((((a0.pattern.map cI).length:Int)).toNat+1) 0 0:Option (Int)) (λv16=>ix a0.table v16 (λy32=>some y32))))
theorem Zmg (a0:Zde)(a1:List Int){r1:Int}(h:Zbx a0 a1=some r1):ACall cx 8 [.pim [.sl 1 (a0.vars.map cI),.sl 1 (a0.pattern.map cI),.c (.int .i64 a0.system.States),.c (.int .i64 a0.system.Init),.sl 1 (a0.system.Costs.map cI),.sl 3 (a0.system.Edges.map Zao),.sl 1 (a0.system.Goals.map cB),.sl 1 (a0.table.map cI)] 0,.sl 1 (a1.map cI)] (.c (.int .i64 r1)):=by
 refine aOf Tryz.func8 rfl (by decide) rfl (bT5 rfl) ?_;intro _;unfold Zbx at h;refine aSR λ_=>dr (aSq (aSq (Zzq [1] λ_=>?_)));intro _;refine⟨rfl,_,Zaon rfl (bT5 rfl) rfl (by kernel_rfl) (.inl ⟨rfl,rfl⟩),?_⟩;intro _;refine dr (aCd λ_=>Znf (aSk (aSq (aSR λ_=>?_))));obtain⟨z1,u1,h⟩:=Zae h;refine cl rfl (Zuq a0.vars a1 u1) λ_=>dr (aCd λ_=>?_);refine spl h (λc2 h=>?_) (λc2 h=>?_)
 ·exact zz2
 ·refine aSk (aSR λ_=>dr ?_);obtain⟨o3,h,hK4⟩:=Zae h;refine Zat (α:=Int) (λv16=>mkS 48 [(0,.pim [.sl 1 (a0.vars.map cI),.sl 1 (a0.pattern.map cI),.c (.int .i64 a0.system.States),.c (.int .i64 a0.system.Init),.sl 1 (a0.system.Costs.map cI),.sl 3 (a0.system.Edges.map Zao),.sl 1 (a0.system.Goals.map cB),.sl 1 (a0.table.map cI)] 0),(5,.c (.int .i64 v16))] []) (λv=>o3=v) ?_ ?_
  ·refine aSR λ_=>dr (aBk ?_);refine Zaj (α:=Nat×Int×Int) (λx=>mkS 48 [(0,.pim [.sl 1 (a0.vars.map cI),.sl 1 (a0.pattern.map cI),.c (.int .i64 a0.system.States),.c (.int .i64 a0.system.Init),.sl 1 (a0.system.Costs.map cI),.sl 3 (a0.system.Edges.map Zao),.sl 1 (a0.system.Goals.map cB),.sl 1 (a0.table.map cI)] 0),(1,.sl 1 (a1.map cI)),(5,.c (.int .i64 x.2.1)),(20,.sl 1 (a0.pattern.map cI)),(21,.c (.int .i64 ((a0.pattern.map cI).length:Int))),(22,.c (.int .i64 x.2.2))] []) (λx=>Za2 a0 a1 x.1 x.2.1 x.2.2=some o3) (λx=>x.1) ((((a0.pattern.map cI).length:Int)).toNat+1,0,0) h ?_ ?_
   ·exact Zas
   ·intro x5 h;intro _;obtain⟨k28,m6,h⟩:=Zak (f:=λn=>Za2 a0 a1 n x5.2.1 x5.2.2) rfl h;replace h:Za2 a0 a1 (k28+1) x5.2.1 x5.2.2=some o3:=h;rw[Za2]at h;refine aSR λ_=>dr (aSq (aCd λ_=>?_));refine spl h (λc7 h=>?_) (λc7 h=>?_)
    ·refine aSk (aSq (aBk (aSR λ_=>?_)));obtain⟨y29,w8,q9,h⟩:=Za9 h;refine Exists.intro (cI y29) (And.intro (Zad w8) λ_=>pr (dr (aRg λ_=>?_)));obtain⟨y30,w10,q11,h⟩:=Za9 h;refine Exists.intro (cI y30) (And.intro (Zad w10) λ_=>?_);obtain⟨y31,w12,q13,h⟩:=Za9 h;refine Exists.intro (cI y31) (And.intro (Zad w12) λ_=>pr (pr (dr (aRg λ_=>dr ⟨(k28,(IntKind.i64.wrap ((IntKind.i64.wrap (x5.2.1*y30))+y31)),(IntKind.i64.wrap (x5.2.2+1))),h,ltS m6,?_⟩))));exact Zas
    ·refine aEx ⟨x5.2.1,(sI_ h).symm,?_⟩;exact Zas
  ·rintro v16 ho;have ho:=ho.symm;subst ho;intro _;replace h:=hK4;refine aSR λ_=>?_;obtain⟨y32,w14,q15,h⟩:=Za9 h;refine Exists.intro (cI y32) (And.intro (Zad w14) λ_=>pr (dr (aRt ?_)));exact zz4
def Zj3 (_:Zbh)(g:Nat)(_y38:Bool)(v34:Int):((List Int)×(List Za1))->(((List Int)×(List Za1))->Option ((List Int)×(List Za1)))->Option ((List Int)×(List Za1)):=λ(v35,v36) rc=>ixv _y38 (λy38=>ixn v35 ((v34).toNat) (λ_=>grd (v34<((v35.length:Nat):Int)) (sel y38 (ixn (v35.set ((v34).toNat) 1125899906842624) ((v34).toNat) (λ_=>ob1 (Zcb g v36 ({ dist:=0,state:=v34:Za1 })) (λc41=>rc (((v35.set ((v34).toNat) 1125899906842624).set ((v34).toNat) 0),c41)))) (rc ((v35.set ((v34).toNat) 1125899906842624),v36)))))
def Zm4 (_:Zbh)(_:Nat):((List Int)×(List Za1))->Option ((List Int)×(List Za1)):=λ(v35,v36)=>some (v35,v36)
theorem Zsa (a0:Zbh)(g:Nat)(v35:List Int)(v36:List Za1)(hl:a0.Goals.length<9223372036854775807):Zcz a0 g (((a0.Goals.map cB).length:Int).toNat+1) 0 v35 v36=Rg (Zj3 a0 g) (Zm4 a0 g) a0.Goals 0 (v35,v36):=Zdy (L:=λk i p=>match p with|(v35,v36)=>Zcz a0 g k i v35 v36) hl (λ_ _ ⟨_,_⟩=>rfl) (v35,v36)
def Zj4 (a1:List Int)(g:Nat)(_:List Zam)(z155:Za1)(_y201:Zam)(_:Int):((List Int)×(List Za1))->(((List Int)×(List Za1))->Option ((List Int)×(List Za1)))->Option ((List Int)×(List Za1)):=λ(v198,v199) rc=>ixv _y201 (λy201=>ix a1 y201.Label (λy202=>ixn v198 ((y201.From).toNat) (λy203=>grd (0<=y201.From) (grd (y201.From<((v198.length:Nat):Int)) (sel (decide ((IntKind.i64.wrap (z155.dist+y202))<y203)) (ixn v198 ((y201.From).toNat) (λ_=>ob1 (Zcb g v199 ({ dist:=(IntKind.i64.wrap (z155.dist+y202)),state:=y201.From:Za1 })) (λc205=>rc ((v198.set ((y201.From).toNat) (IntKind.i64.wrap (z155.dist+y202))),c205)))) (rc (v198,v199)))))))
def Zm5 (_:List Int)(_:Nat)(_:List Zam)(_:Za1):((List Int)×(List Za1))->Option ((List Int)×(List Za1)):=λ(v198,v199)=>some (v198,v199)
theorem Zsb (a1:List Int)(g:Nat)(y158:List Zam)(z155:Za1)(v198:List Int)(v199:List Za1)(hl:y158.length<9223372036854775807):Zc0 a1 g y158 z155 (((y158.map Zao).length:Int).toNat+1) 0 v198 v199=Rg (Zj4 a1 g y158 z155) (Zm5 a1 g y158 z155) y158 0 (v198,v199):=Zdy (L:=λk i p=>match p with|(v198,v199)=>Zc0 a1 g y158 z155 k i v198 v199) hl (λ_ _ ⟨_,_⟩=>rfl) (v198,v199)
def Zdw (a0:Zde)(a1:List Int)(_y29:Int)(_:Int):((Int))->(((Int))->Option (Int))->Option (Int):=λv26 rc=>ixv _y29 (λy29=>ix a0.vars y29 (λy30=>ix a1 y29 (λy31=>rc ((IntKind.i64.wrap ((IntKind.i64.wrap (v26*y30))+y31))))))
def Zge (_:Zde)(_:List Int):((Int))->Option (Int):=λv26=>some v26
theorem Zkc (a0:Zde)(a1:List Int)(v26:Int)(hl:a0.pattern.length<9223372036854775807):Za2 a0 a1 (((a0.pattern.map cI).length:Int).toNat+1) v26 0=Rg (Zdw a0 a1) (Zge a0 a1) a0.pattern 0 v26:=Zdy (L:=λk i v26=>Za2 a0 a1 k v26 i) hl (λ_ _ _=>rfl) v26
end Go.Proofs.YtpfnmpdcneejbaaGreatDoor.Am
namespace Go.Proofs.YtpfnmpdcneejbaaGreatDoor.Am
open Go.RowKit
structure Zanb (x:Zbh)(N:Nat)(costs:List Int):Prop where
 st:x.States=(N:Int)
 gl:x.Goals.length=N
 nb:N<=81
 el:x.Edges.length<=65536
 ed:∀e∈x.Edges,∃a b:Nat,e.From=(a:Int)/\e.To=(b:Int)/\a<N/\b<N/\0<=e.Label/\e.Label<costs.length
 cs:∀c∈costs,0<=c/\c<=1048576
def MX : Int:=84934657
def sumM : List Int->Nat
 | []=>0
 | x :: r=>(min x MX).toNat+sumM r
theorem Zak2 : ∀(l:List Int)(a:Nat)(y v:Int),l[a]?=some y->sumM (l.set a v)+(min y MX).toNat=sumM l+(min v MX).toNat
 | [],a,y,v,h=>by simp at h
 | z :: l,0,y,v,h=>by
  simp only[List.getElem?_cons_zero,Option.some.injEq]at h
  subst h
  simp only[List.set_cons_zero,sumM]
  omega
 | z :: l,a+1,y,v,h=>by
  rw[List.getElem?_cons_succ]at h
  have:=Zak2 l a y v h
  simp only[List.set_cons_succ,sumM]
  omega
theorem Zapz : ∀l:List Int,sumM l<=l.length*84934657
 | []=>Nat.zero_le _
 | x :: r=>by
  have:=Zapz r
  have h:(min x MX).toNat<=84934657:=by unfold MX;omega
  rw[sumM,lC_,Nat.succ_mul]
  omega
structure DI (x:Zbh)(N:Nat)(out:List Int)(q:List Za1):Prop where
 len:out.length=N
 rng:∀y∈out,0<=y/\(y=Zka\/y<=1048576*(finN out:Int))
 goal:∀i:Nat,x.Goals[i]?=some true->out[i]?=some 0
 heap:Heap q q.length
 qok:∀y∈q,∃(i:Nat) (z:Int),y.state=(i:Int)/\out[i]?=some z/\0<=y.dist/\z<=y.dist/\y.dist<=1048576*(finN out:Int)
def Low (costs out:List Int)(e:Zam)(z:Int):Prop:=∀y,out[e.From.toNat]?=some y->y<=z+costs.getD e.Label.toNat 0
def Stl (x:Zbh)(costs out:List Int)(q:List Za1)(ex:Nat->Prop):Prop:=∀(i:Nat) (z:Int),out[i]?=some z->z≠Zka->¬ ex i->(⟨z,(i:Int)⟩:Za1)∈q\/∀e∈x.Edges,e.To=(i:Int)->Low costs out e z
theorem Zaop {costs out:List Int}{e:Zam}{z d old:Int}{f:Nat}(h:Low costs out e z)(hf:out[f]?=some old)(hd:d<=old):Low costs (out.set f d) e z:=λy hy=>by
 by_cases q:e.From.toNat=f
 ·rw[q,List.getElem?_set_self (gS_.1 hf).1]at hy
  have:=h old (by rw[q];exact hf)
  cases hy
  omega
 ·rw[List.getElem?_set_ne (λw=>q w.symm)]at hy
  exact h y hy
theorem Zaur {l:List Int}{i:Nat}{v y:Int}(h:y∈l.set i v):y∈l\/y=v:=List.mem_or_eq_of_mem_set h
section
variable {x : Zbh} {N : Nat} {costs : List Int} (hx : Zanb x N costs)
include hx
theorem Zsg {out:List Int}(hl:out.length=N):1048576*(finN out:Int)<=84934656:=by
 have:=Zahq out
 have:=hx.nb
 omega
theorem DI.step {out:List Int}{q q':List Za1}(h:DI x N out q){f:Nat}{old d:Int}(hf:out[f]?=some old)(h0:0<=d)(hd:d<old)(hdb:d<=1048576*(finN out:Int)+1048576)(hh:Heap q' q'.length)(hm:∀y,y∈q'↔y∈q\/y=⟨d,(f:Int)⟩):DI x N (out.set f d) q'/\1048576*(finN out:Int)<=1048576*(finN (out.set f d):Int)/\d<=1048576*(finN (out.set f d):Int):=by
 have hsm:=Zsg hx h.len
 have hne:d≠Zka:=by unfold Zka;omega
 have hfin:=Zade out f old d hf hne
 have hle:1048576*(finN out:Int)<=1048576*(finN (out.set f d):Int):=by split at hfin <;> omega
 have hdn:d<=1048576*(finN (out.set f d):Int):=by
  split at hfin
  ·omega
  ·rename_i hnf
   have:=(h.rng old (mG_ hf)).2
   rcases this with e|e
   ·exact absurd e hnf
   ·omega
 refine⟨⟨by rw[List.length_set];exact h.len,λy hy=>?_,λi hi=>?_,hh,λy hy=>?_⟩,hle,hdn⟩
 ·rcases Zaur hy with hy|rfl
  ·obtain⟨a,b⟩:=h.rng y hy
   exact⟨a,b.imp_right (λe=>by omega)⟩
  ·exact⟨h0,.inr hdn⟩
 ·have:=h.goal i hi
  have hif:i≠f:=λe=>by
   subst e
   rw[this]at hf
   cases hf
   omega
  rw[List.getElem?_set_ne (λe=>hif e.symm)]
  exact this
 ·have hlt:=(gS_.1 hf).1
  rcases(hm y).1 hy with hy|rfl
  ·obtain⟨i,z,a,b,c1,c2,c3⟩:=h.qok y hy
   by_cases e:i=f
   ·subst e
    rw[b]at hf
    cases hf
    exact⟨i,d,a,List.getElem?_set_self hlt,c1,by omega,by omega⟩
   ·exact⟨i,z,a,by rw[List.getElem?_set_ne (λw=>e w.symm)];exact b,c1,c2,by omega⟩
  ·exact⟨f,d,rfl,List.getElem?_set_self hlt,h0,Int.le_refl _,hdn⟩
theorem Stl.step {out:List Int}{q q':List Za1}{ex:Nat->Prop}(h:Stl x costs out q ex){f:Nat}{old d:Int}(hf:out[f]?=some old)(hd:d<old)(hm:∀y,y∈q'↔y∈q\/y=⟨d,(f:Int)⟩):Stl x costs (out.set f d) q' ex:=λi z hz hne hex=>by
 by_cases e:i=f
 ·subst e
  rw[List.getElem?_set_self (gS_.1 hf).1]at hz
  cases hz
  exact .inl ((hm _).2 (.inr rfl))
 ·rw[List.getElem?_set_ne (λw=>e w.symm)]at hz
  rcases h i z hz hne hex with h1|h1
  ·exact .inl ((hm _).2 (.inl h1))
  ·exact .inr λe he ht=>Zaop (h1 e he ht) hf (by omega)
theorem Zxe {g:Nat}(hg:1000000000000000000<=g){es:List Zam}{a:Nat}{dist:Int}:∀(r:List Zam)(n:Int)(out:List Int)(q:List Za1),(∀e∈r,e∈x.Edges/\e.To=(a:Int))->DI x N out q->Stl x costs out q (λi=>i=a)->out[a]?=some dist->dist<=1048576*(finN out:Int)->(dn:List Zam)->(∀e∈dn,Low costs out e dist)->2*sumM out+q.length<=1000000000000 ->
  ∃out' q',Rg (Zj4 costs g es ⟨dist,(a:Int)⟩) (Zm5 costs g es ⟨dist,(a:Int)⟩) r n (out,q)=some (out',q')/\DI x N out' q'/\Stl x costs out' q' (λi=>i=a)/\out'[a]?=some dist/\(∀e∈dn++r,Low costs out' e dist)/\2*sumM out'+q'.length<=2*sumM out+q.length
 | [],n,out,q,_,h1,h2,h3,_,dn,h4,_=>⟨out,q,rfl,h1,h2,h3,by rw[List.append_nil];exact h4,Nat.le_refl _⟩
 | e :: r,n,out,q,hr,h1,h2,h3,h5,dn,h4,hb=>by
  obtain⟨he,hto⟩:=hr e (mS_ ..)
  obtain⟨f,b,e1,e2,e3,e4,l0,l1⟩:=hx.ed e he
  have hsm:=Zsg hx h1.len
  obtain⟨d0,d1⟩:=h1.rng dist (mG_ h3)
  obtain⟨c0,c1⟩:=hx.cs _ (Zvs l0 l1)
  obtain⟨c,hc⟩:∃c,costs.getD e.Label.toNat 0=c:=⟨_,rfl⟩
  rw[hc]at c0 c1
  obtain⟨old,hold⟩:∃y,out[f]?=some y:=⟨_,gE_ (by rw[h1.len];exact e3)⟩
  have hfN:f<out.length:=(gS_.1 hold).1
  have hr':=λu (hu:u∈r)=>hr u (mC_ _ hu)
  have hdn:dn++e :: r=(dn++[e])++r:=by simp
  rw[Rg,Zj4,ixv,Zlh (d:=0) l0 l1,hc,e1,Int.toNat_natCast,Zdp hold,Zan (by omega),Zan (by omega),w64 (by show _<=dist+c;omega) (by show dist+c<=_;omega),Zar,hdn]
  by_cases hlt:dist+c<old
  ·rw[if_pos hlt,Zdp hold]
   obtain⟨q',p1,p2,p3,p4⟩:=Zao5 (g:=g) (⟨dist+c,(f:Int)⟩:Za1) (l:=q) (by omega) (by omega) h1.heap
   have hfa:f≠a:=λw=>by
    subst w
    rw[h3]at hold
    cases hold
    omega
   have hst:=h1.step hx hold (show 0<=dist+c by omega) hlt (by omega) p2 p4
   have hsum:=Zak2 out f old (dist+c) hold
   have hold0:=(h1.rng old (mG_ hold))
   have hdec:sumM (out.set f (dist+c))+1<=sumM out:=by
    have:(min (dist+c) MX).toNat+1<=(min old MX).toNat:=by
     have h8:=Zsg hx hst.1.len
     have h9:=hst.2.2
     unfold MX
     omega
    omega
   obtain⟨out',q'',k1,k2,k3,k4,k5,k6⟩:=Zxe hg r (n+1) (out.set f (dist+c)) q' hr' hst.1 (h2.step hx hold hlt p4) (by rw[List.getElem?_set_ne hfa];exact h3) (by have:=hst.2.1;omega) (dn++[e]) (λu hu=>by
    rcases List.mem_append.1 hu with hu|hu
    ·exact Zaop (h4 u hu) hold (by omega)
    ·rw[mI_]at hu
     subst hu
     intro y hy
     rw[e1,Int.toNat_natCast,List.getElem?_set_self hfN]at hy
     cases hy
     rw[hc]
     exact Int.le_refl _) (by omega)
   rw[p1,Zac]
   exact⟨out',q'',k1,k2,k3,k4,k5,by omega⟩
  ·rw[if_neg hlt]
   exact Zxe hg r (n+1) out q hr' h1 h2 h3 h5 (dn++[e]) (λu hu=>by
    rcases List.mem_append.1 hu with hu|hu
    ·exact h4 u hu
    ·rw[mI_]at hu
     subst hu
     intro y hy
     rw[e1,Int.toNat_natCast,hold]at hy
     cases hy
     rw[hc]
     omega) hb
end
theorem Zafh {N:Nat}:∀(es:List Zam)(tt:List (List Zam)),tt.length=N->(∀e∈es,∃b:Nat,e.To=(b:Int)/\b<N)->∀(a:Nat)(r:List Zam),(Zp6 es tt)[a]?=some r->∃r0,tt[a]?=some r0/\∀e,e∈r↔e∈r0\/(e∈es/\e.To=(a:Int))
 | [],tt,_,_,a,r,h=>⟨r,h,λe=>by simp⟩
 | e :: es,tt,hl,he,a,r,h=>by
  obtain⟨b,hb,hbn⟩:=he e (mS_ ..)
  obtain⟨r1,g1,g2⟩:=Zafh es (Zafg tt e) (by simp[Zafg,hl]) (λu hu=>he u (mC_ _ hu)) a r h
  have hbr:=gE_ (l:=tt) (i:=b) (by omega)
  unfold Zafg at g1
  rw[hb,Int.toNat_natCast,hbr,Option.getD_some]at g1
  by_cases q:a=b
  ·subst q
   rw[List.getElem?_set_self (by omega)]at g1
   cases g1
   refine⟨_,hbr,λu=>?_⟩
   rw[g2,List.mem_append,mI_,List.mem_cons]
   constructor
   ·rintro((h|rfl)|⟨h,h'⟩)
    ·exact .inl h
    ·exact .inr ⟨.inl rfl,hb⟩
    ·exact .inr ⟨.inr h,h'⟩
   ·rintro(h|⟨rfl|h,h'⟩)
    ·exact .inl (.inl h)
    ·exact .inl (.inr rfl)
    ·exact .inr ⟨h,h'⟩
  ·rw[List.getElem?_set_ne (λw=>q w.symm)]at g1
   refine⟨r1,g1,λu=>?_⟩
   rw[g2,List.mem_cons]
   constructor
   ·rintro(h|⟨h,h'⟩)
    ·exact .inl h
    ·exact .inr ⟨.inr h,h'⟩
   ·rintro(h|⟨rfl|h,h'⟩)
    ·exact .inl h
    ·exact absurd (by rw[hb]at h';omega) q
    ·exact .inr ⟨h,h'⟩
theorem Zaai {x:Zbh}{N:Nat}{costs:List Int}(hx:Zanb x N costs){g:Nat}(hg:1000000000000000000<=g):∀(k:Nat)(out:List Int)(q:List Za1),DI x N out q->Stl x costs out q (λ_=>False)->2*sumM out+q.length<k->2*sumM out+q.length<=1000000000000 ->
  ∃d,Zc1 x costs g k out q=some d/\DI x N d []/\Stl x costs d [] (λ_=>False)
 | 0,_,_,_,_,h,_=>absurd h (Nat.not_lt_zero _)
 | k+1,out,q,h1,h2,hk,hb=>by
  have hsm:=Zsg hx h1.len
  have hol:=h1.len
  have hnb:=hx.nb
  rw[Zc1,Zbs,Zc6,Zan rfl,Zar]
  by_cases hq:((q.length:Nat):Int)>0
  ·rw[if_pos hq]
   obtain⟨y,q',p1,p2,p3,p4,-⟩:=Zawt (g:=g) (l:=q) (by omega) (by omega) (by omega) h1.heap
   have hy:y∈q:=(p4 y).2 (.inl rfl)
   obtain⟨a,z,s1,s2,s3,s4,s5⟩:=h1.qok y hy
   have haN:a<out.length:=(gS_.1 s2).1
   have h1':DI x N out q':=⟨h1.len,h1.rng,h1.goal,p2,λu hu=>h1.qok u ((p4 u).2 (.inr hu))⟩
   rw[p1,Zc6,s1,Int.toNat_natCast,Zdp s2,Zan (by omega),Zan (by omega),Zar]
   by_cases hgt:y.dist>z
   ·rw[if_pos hgt]
    refine Zaai hx hg k out q' h1' (λi u hu hne hex=>?_) (by omega) (by omega)
    rcases h2 i u hu hne hex with h|h
    ·rcases(p4 _).1 h with e|h
     ·exfalso
      rw[<-e]at s1 hgt
      have e1:i=a:=by have:((i:Nat):Int)=(a:Int):=s1;omega
      subst e1
      rw[s2]at hu
      cases hu
      have:z>z:=hgt
      omega
     ·exact .inl h
    ·exact .inr h
   ·rw[if_neg hgt]
    have hyz:y.dist=z:=by omega
    have hto:=Zafh (N:=N) x.Edges (List.replicate x.States.toNat []) (by rw[List.length_replicate,hx.st,Int.toNat_natCast]) (λe he=>by obtain⟨_,b,_,e2,_,e4,_⟩:=hx.ed e he;exact⟨b,e2,e4⟩) a
    have hlen:=Zz1 x.Edges (List.replicate x.States.toNat [])
    rw[List.length_replicate,hx.st,Int.toNat_natCast]at hlen
    rw[hx.st,Int.toNat_natCast]at hto ⊢
    obtain⟨r,hr⟩:∃r,(Zp6 x.Edges (List.replicate N []))[a]?=some r:=⟨_,gE_ (by omega)⟩
    obtain⟨r0,g1,g2⟩:=hto r hr
    have hr0:r0=[]:=by
     rw[List.getElem?_replicate]at g1
     split at g1 <;> simp at g1
     exact g1
    subst hr0
    have hmem:∀e,e∈r↔e∈x.Edges/\e.To=(a:Int):=λe=>by rw[g2];simp
    have hrl:r.length<9223372036854775807:=by
     have:=Zad4 (n:=N) (l:=x.Edges) (B:=⟨94,3,false,r.map Zao⟩) (List.mem_map.2 ⟨r,mG_ hr,rfl⟩)
     have:=hx.el
     simp only[lM_]at *
     omega
    have hyy:y=⟨z,(a:Int)⟩:=by
     obtain⟨d,s⟩:=y
     simp only at s1 hyz
     rw[s1,hyz]
    have hznf:z≠Zka:=by unfold Zka;omega
    obtain⟨out',q'',k1,k2,k3,k4,k5,k6⟩:=Zxe hx hg (es:=r) (a:=a) (dist:=z) r 0 out q' (λe he=>(hmem e).1 he) h1' (λi u hu hne hex=>by
     rcases h2 i u hu hne (λh=>h)with h|h
     ·rcases(p4 _).1 h with e|h
      ·exfalso
       rw[hyy]at e
       injection e with _ e
       exact hex (by omega)
      ·exact .inl h
     ·exact .inr h) s2 (by omega) [] (λe he=>by cases he) (by omega)
    have e2:=Zsb costs g r ⟨z,(a:Int)⟩ out q' hrl
    rw[Zdp hr,Zan (by omega),hyy,e2,k1,Zac]
    exact Zaai hx hg k out' q'' k2 (λi u hu hne _=>by
     by_cases hia:i=a
     ·subst hia
      rw[k4]at hu
      cases hu
      exact .inr λe he ht=>k5 e (by rw[List.nil_append];exact(hmem e).2 ⟨he,ht⟩)
     ·exact k3 i u hu hne hia) (by omega) (by omega)
  ·rw[if_neg hq,Zan (by omega)]
   have hq0:q=[]:=List.eq_nil_of_length_eq_zero (by omega)
   subst hq0
   exact⟨out,rfl,h1,h2⟩
theorem Zaac {x:Zbh}{N:Nat}{costs:List Int}(hx:Zanb x N costs){g:Nat}(hg:1000000000000000000<=g):∀(r:List Bool)(n:Nat)(out:List Int)(q:List Za1),x.Goals.drop n=r->n<=N->out.length=N ->
  (∀(i:Nat) (b:Bool),i<n->x.Goals[i]?=some b->out[i]?=some (if b=true then 0 else Zka))->Heap q q.length->q.length<=n->(∀y,y∈q↔∃i:Nat,i<n/\x.Goals[i]?=some true/\y=⟨0,(i:Int)⟩) ->
  ∃out' q',Rg (Zj3 x g) (Zm4 x g) r n (out,q)=some (out',q')/\out'.length=N/\(∀(i:Nat) (b:Bool),x.Goals[i]?=some b->out'[i]?=some (if b=true then 0 else Zka))/\Heap q' q'.length/\q'.length<=N/\(∀y,y∈q'↔∃i:Nat,x.Goals[i]?=some true/\y=⟨0,(i:Int)⟩)
 | [],n,out,q,hr,hnN,hl,h1,h2,h3,h4=>by
  have hn:x.Goals.length<=n:=by
   have:=congrArg List.length hr
   simp at this
   omega
  have hlt:∀(i:Nat) (b:Bool),x.Goals[i]?=some b->i<n:=λi b h=>Nat.lt_of_lt_of_le (gS_.1 h).1 hn
  exact⟨out,q,rfl,hl,λi b h=>h1 i b (hlt i b h) h,h2,by omega,λy=>by
   rw[h4]
   exact⟨λ⟨i,_,a,b⟩=>⟨i,a,b⟩,λ⟨i,a,b⟩=>⟨i,hlt i _ a,a,b⟩⟩⟩
 | b :: r,n,out,q,hr,hnN,hl,h1,h2,h3,h4=>by
  have hb:x.Goals[n]?=some b:=by
   have:=congrArg (λl=>l[0]?) hr
   simpa using this
  have hnl:=(gS_.1 hb).1
  have hgl:=hx.gl
  have hnb:=hx.nb
  have hr':x.Goals.drop (n+1)=r:=by
   rw[<-List.drop_drop,hr]
   rfl
  have ho:out[n]?=some out[n]:=gE_ (by omega)
  have ho2:(out.set n 1125899906842624)[n]?=some 1125899906842624:=List.getElem?_set_self (by omega)
  have hc:((n:Int)+1)=((n+1:Nat):Int):=rfl
  rw[Rg,Zj3,ixv,Int.toNat_natCast,Zdp ho,Zan (by omega),hc]
  cases b with
  | true =>
   obtain⟨q',p1,p2,p3,p4⟩:=Zao5 (g:=g) (⟨0,(n:Int)⟩:Za1) (l:=q) (by omega) (by omega) h2
   rw[Zby,Zdp ho2,p1,Zac]
   refine Zaac hx hg r (n+1) _ q' hr' (by omega) (by simp[hl]) (λi b hi hg=>?_) p2 (by omega) (λy=>?_)
   ·by_cases e:i=n
    ·subst e
     rw[hb]at hg
     cases hg
     rw[List.getElem?_set_self (by simp;omega)]
     rfl
    ·rw[List.getElem?_set_ne (λw=>e w.symm),List.getElem?_set_ne (λw=>e w.symm)]
     exact h1 i b (by omega) hg
   ·rw[p4,h4]
    constructor
    ·rintro(⟨i,a1,a2,a3⟩|rfl)
     ·exact⟨i,by omega,a2,a3⟩
     ·exact⟨n,by omega,hb,rfl⟩
    ·rintro⟨i,a1,a2,a3⟩
     by_cases e:i=n
     ·subst e;exact .inr a3
     ·exact .inl ⟨i,by omega,a2,a3⟩
  | false =>
   rw[Zbb]
   refine Zaac hx hg r (n+1) _ q hr' (by omega) (by simp[hl]) (λi b hi hg=>?_) h2 (by omega) (λy=>?_)
   ·by_cases e:i=n
    ·subst e
     rw[hb]at hg
     cases hg
     exact ho2
    ·rw[List.getElem?_set_ne (λw=>e w.symm)]
     exact h1 i b (by omega) hg
   ·rw[h4]
    constructor
    ·rintro⟨i,a1,a2,a3⟩
     exact⟨i,by omega,a2,a3⟩
    ·rintro⟨i,a1,a2,a3⟩
     by_cases e:i=n
     ·subst e
      rw[hb]at a2
      cases a2
     ·exact⟨i,by omega,a2,a3⟩
theorem Zat5 {x:Zbh}{N:Nat}{costs:List Int}(hx:Zanb x N costs){g:Nat}(hg:1000000000000000000<=g) :
  ∃d,Zhq g x costs=some d/\d.length=N/\(∀y∈d,0<=y/\y<=Zka)/\(∀i:Nat,x.Goals[i]?=some true->d[i]?=some 0)/\(∀y∈d,y≠Zka->y<=1048576*(finN d:Int)) /\
   ∀e∈x.Edges,∀u v,d[e.To.toNat]?=some u->d[e.From.toNat]?=some v->u<Zka->v<=u+costs.getD e.Label.toNat 0:=by
 have hnb:=hx.nb
 have hgl:=hx.gl
 have hel:=hx.el
 obtain⟨out,q,k1,k2,k3,k4,k5,k6⟩:=Zaac hx hg x.Goals 0 (List.replicate N 0) [] (List.drop_zero ..) (Nat.zero_le _) (List.length_replicate ..) (λi b hi=>absurd hi (Nat.not_lt_zero _)) (λi _ hi=>absurd hi (Nat.not_lt_zero _)) (Nat.le_refl _) (λy=>by simp)
 have hbool:∀i:Nat,i<N->∃b,x.Goals[i]?=some b:=λi hi=>⟨_,gE_ (by omega)⟩
 have hval:∀y∈out,y=0\/y=Zka:=λy hy=>by
  obtain⟨i,hi⟩:=List.getElem?_of_mem hy
  obtain⟨b,hb⟩:=hbool i (by have:=(gS_.1 hi).1;omega)
  have:=k3 i b hb
  rw[hi]at this
  cases this
  cases b
  ·exact .inr rfl
  ·exact .inl rfl
 have hdi:DI x N out q:=⟨k2,λy hy=>by
   rcases hval y hy with rfl|rfl
   ·exact⟨Int.le_refl _,.inr (by omega)⟩
   ·exact⟨by unfold Zka;omega,.inl rfl⟩,λi hi=>k3 i true hi,k4,λy hy=>by
   obtain⟨i,h1,rfl⟩:=(k6 y).1 hy
   exact⟨i,0,rfl,k3 i true h1,Int.le_refl _,Int.le_refl _,by show(0:Int)<=_;omega⟩⟩
 have hst:Stl x costs out q (λ_=>False):=λi z hz hne _=>by
  obtain⟨b,hb⟩:=hbool i (by have:=(gS_.1 hz).1;omega)
  have:=k3 i b hb
  rw[hz]at this
  cases this
  cases b
  ·exact absurd rfl hne
  ·exact .inl ((k6 _).2 ⟨i,hb,rfl⟩)
 have hsum:=Zapz out
 have hsum2:sumM out<=81*84934657:=Nat.le_trans hsum (Nat.mul_le_mul_right _ (by omega))
 obtain⟨d,d1,d2,d3⟩:=Zaai hx hg g out q hdi hst (by omega) (by omega)
 have hsm:=Zsg hx d2.len
 refine⟨d,?_,d2.len,λy hy=>?_,d2.goal,λy hy hne=>?_,λe he u v hu hv hlt=>?_⟩
 ·have hall:(x.Edges.all (λe=>decide (0<=e.To)&&decide (e.To<x.States)))=true:=List.all_eq_true.2 λe he=>by
   obtain⟨_,b,_,e2,_,e4,_⟩:=hx.ed e he
   have:=hx.st
   simp only[bA_,decide_eq_true_iff]
   omega
  rw[Zhq,Zan (by rw[hx.st];omega),Zan (by rw[hx.st];omega),Zan (by omega),Zan hall,Zan (by rw[hx.st];omega),Zsa x g _ [] (by omega),hx.st,Int.toNat_natCast]
  rw[show((0:Nat):Int)=0 from rfl]at k1
  rw[k1,Zac]
  exact d1
 ·obtain⟨a,b⟩:=d2.rng y hy
  refine⟨a,?_⟩
  rcases b with rfl|b
  ·exact Int.le_refl _
  ·unfold Zka;omega
 ·exact((d2.rng y hy).2).resolve_left hne
 ·obtain⟨_,b,_,e2,_⟩:=hx.ed e he
  rw[e2,Int.toNat_natCast]at hu
  rcases d3 b u hu (by omega) (λh=>h)with h|h
  ·cases h
  ·exact h e he e2 v hv
theorem Zx4 {t:Zah}{p:List Int}:∀(r:List Int)(n:Nat)(last:Int),p.drop n=r->n<=200->Prev p n last->n+r.length<=200->Rg (Zj5 t p) (Zm6 t p) r n ()=some (if Zyl t.Vars.length last r=true then .nil else .no 2)
 | [],_,_,_,_,_,_=>rfl
 | y :: r,n,last,hd,hn,hP,hb=>by
  obtain⟨hy,hd',hlt⟩:=Zc5 hd
  rw[lC_]at hb
  rw[Rg,Zj5,ixv,Zar,Zar,Zar,lM_,Zyl]
  have hl:-1<=last:=by rcases hP with⟨-,rfl⟩|⟨m,-,-,h⟩ <;> omega
  by_cases h0:y<0
  ·rw[if_pos h0,if_neg (by simp;intro h;omega)]
  ·rw[if_neg h0]
   by_cases h1:y<t.Vars.length
   ·have ih:=Zx4 (t:=t) (p:=p) r (n+1) y hd' (by omega) (.inr ⟨n,rfl,hy,by omega⟩) (by omega)
    rw[if_neg (by omega)]
    rcases hP with⟨rfl,rfl⟩|⟨m,rfl,hm,h2⟩
    ·rw[if_neg (by omega),decide_eq_true (by omega),decide_eq_true h1,Bool.true_and,Bool.true_and]
     exact ih
    ·rw[if_pos (by omega),w64 (by omega) (by omega),show(((m+1:Nat):Int)-1)=(m:Int)from by omega,Zfv hm,Zar]
     by_cases h3:last>=y
     ·rw[if_pos h3,if_neg (by simp;intro h;omega)]
     ·rw[if_neg h3,decide_eq_true (by omega),decide_eq_true h1,Bool.true_and,Bool.true_and]
      exact ih
   ·rw[if_pos (by omega),if_neg (by simp;intro _ h;omega)]
structure WOk (t:Zah)(p:List Int)(o:GOp)(w:List Int):Prop where
 asc:Zyl t.Vars.length (-1) w=true
 len:w.length<=1000
 mem:∀y,y∈w↔∃e∈o.Effs,e.Var∈p/\∃f∈e.When,f.1=y/\OutP o p y
section
variable {t : Zah} (hgood : Ze5 t = true) (hd : Dm t.Vars) (hb : Zb6 t.Vars <= 81) (hol : t.Ops.length <= 1000) {p : List Int} (hp : Pat t.Vars p)
include hgood hd hb hol hp
theorem pj1 : ∀(r:List GOp)(n:Nat)(fr:List (List Int))(cs:List Int),t.Ops.drop n=r->fr.length=t.Ops.length->cs=(t.Ops.take n).map (·.Cost)->(∀(i:Nat)(o:GOp),i<n->t.Ops[i]?=some o->∃w,fr[i]?=some w/\WOk t p o w) ->
  ∃fr',Rg (Zil t p) (Zlp t p) r n (fr,cs)=some (.inl (fr',t.Ops.map (·.Cost)))/\fr'.length=t.Ops.length/\∀(i:Nat) (o:GOp),t.Ops[i]?=some o->∃w,fr'[i]?=some w/\WOk t p o w
 | [],n,fr,cs,hr,hl,hc,h=>by
  have hn:t.Ops.length<=n:=by
   have:=congrArg List.length hr
   simp at this
   omega
  refine⟨fr,?_,hl,λi o ho=>h i o (Nat.lt_of_lt_of_le (gS_.1 ho).1 hn) ho⟩
  rw[hc,tL_ hn]
  rfl
 | o :: r,n,fr,cs,hr,hl,hc,h=>by
  obtain⟨ho,hr',hn⟩:=Zc5 hr
  have h4:=hp.four
  have ok:=Zn6 hgood
  have hvl:=ok.len
  obtain⟨w,w1,w2,w3⟩:=Zamc hgood (mG_ ho) (p:=p) (by omega)
  have hwl:=Zajg (by omega) (by omega) w2
  have hwp:=Zac4 hd w2
  have hfn:fr[n]?=some fr[n]:=gE_ (by omega)
  have hfs:(fr.set n w)[n]?=some w:=List.getElem?_set_self (by omega)
  have hcl:cs.length=n:=by rw[hc,lM_,List.length_take];omega
  have hcnt:=Zxb hd (Zxr w2) (by omega) (by omega)
  obtain⟨fr',k1,k2,k3⟩:=pj1 r (n+1) (fr.set n w) (cs++[o.Cost]) hr' (by rw[List.length_set];exact hl) (by rw[hc,List.take_add_one,ho];simp) (λi o' hi ho'=>by
   by_cases e:i=n
   ·subst e
    rw[ho]at ho'
    cases ho'
    exact⟨w,hfs,w2,by omega,w3⟩
   ·rw[List.getElem?_set_ne (λq=>e q.symm)]
    exact h i o' (by omega) ho')
  refine⟨fr',?_,k2,k3⟩
  rw[Rg,Zil,ixv,Zan (by omega),w1,Zac,Int.toNat_natCast,Zdp hfn,Zan (by omega),Zdp hfs,hcnt,Zc6,Bool.not_true,Zbb]
  exact k1
theorem pj2 {c l:List Int}(hcl:c.length=t.Vars.length)(hll:l.length=t.Vars.length):∀(r:List Zaa)(n:Int)(b:Bool),FRng t.Vars r->∃b',Rg (Zim t p c l) (Zlq t p c l) r n b=some b'/\∀s,s.length=t.Vars.length->(∀y∈p,c[y.toNat]?=s[y.toNat]?)->Zay s r=true->b=true->b'=true
 | [],n,b,_=>⟨b,rfl,λ_ _ _ _ h=>h⟩
 | f :: r,n,b,hr=>by
  obtain⟨f0,f1,-,-⟩:=hr f (mS_ ..)
  have hr':FRng t.Vars r:=λu hu=>hr u (mC_ _ hu)
  have h4:=hp.four
  rw[Rg,Zim,ixv]
  cases b with
  | false =>
   rw[Zbb]
   obtain⟨b',k1,-⟩:=pj2 hcl hll r (n+1) false hr'
   exact⟨b',k1,λ_ _ _ _ h=>by cases h⟩
  | true =>
   rw[Zby,Zw4 p f.1 (by omega),Zac]
   have tl:∀s,Zay s (f :: r)=true->Zay s r=true:=λs h=>Za7.2 λu hu=>Za7.1 h u (mC_ _ hu)
   by_cases a:f.1∈p
   ·have hc:c[f.1.toNat]?=some c[f.1.toNat]:=gE_ (by omega)
    rw[decide_eq_true a,Bool.not_true,Zbb,Zdp hc,Zan (by omega),Zan (by omega)]
    obtain⟨b',k1,k2⟩:=pj2 hcl hll r (n+1) (c[f.1.toNat] == f.2) hr'
    refine⟨b',k1,λs hs ha hh _=>k2 s hs ha (tl s hh) ?_⟩
    have h2:=(Zes.1 (Za7.1 hh f (mS_ ..))).2.2
    rw[gD_,<-ha f.1 a,hc]at h2
    exact beq_iff_eq.2 h2
   ·rw[decide_eq_false a,Bool.not_false,Zby]
    obtain⟨b',k1,k2⟩:=pj2 hcl hll r (n+1) true hr'
    exact⟨b',k1,λs hs ha hh _=>k2 s hs ha (tl s hh) rfl⟩
omit hgood hd hb hol hp in
theorem pj3 (a j:Int)(z:List Int):∀(r:List Int)(n:Int)(E:List Zam),E.length<=65536->∃res,Rg (Zin a j z) (Zlr a j z) r n E=some res/\((∃x,res=.inr (x,.no 5))\/(res=.inl (E++r.map λy=>⟨a,j,y⟩)/\(E++r.map λy=>(⟨a,j,y⟩:Zam)).length<=65536))
 | [],n,E,h=>⟨_,rfl,.inr ⟨by rw[List.map_nil,List.append_nil],by rw[List.map_nil,List.append_nil];exact h⟩⟩
 | y :: r,n,E,h=>by
  rw[Rg,Zin,ixv]
  by_cases e:((E.length:Nat):Int)=65536
  ·rw[show(((E.length:Nat):Int) == 65536)=true from beq_iff_eq.2 e,Zby]
   exact⟨_,rfl,.inl ⟨_,rfl⟩⟩
  ·rw[show(((E.length:Nat):Int) == 65536)=false from beq_eq_false_iff_ne.2 e,Zbb,Zan (by omega)]
   obtain⟨res,k1,k2⟩:=pj3 a j z r (n+1) (E++[⟨a,j,y⟩]) (by rw[lA_,List.length_singleton];omega)
   refine⟨res,k1,k2.imp_right λq=>?_⟩
   rw[List.append_assoc]at q
   exact q
def EdOk (t:Zah)(p:List Int)(E:List Zam):Prop:=∀e∈E,∃a b:Nat,e.From=(a:Int)/\e.To=(b:Int)/\a<Zb6 (szs t.Vars p)/\b<Zb6 (szs t.Vars p)/\0<=e.Label/\e.Label<t.Ops.length
theorem pj4 {g:Nat}(hg:1000000<=g){fr:List (List Int)}(hfl:fr.length=t.Ops.length)(hfr:∀(i:Nat)(o:GOp),t.Ops[i]?=some o->∃w,fr[i]?=some w/\WOk t p o w)(c:List Int)(gs:List Bool)(b:Bool){a:Nat}(ha:a<Zb6 (szs t.Vars p)):∀(m j:Nat)(E:List Zam),j+m=t.Ops.length->E.length<=65536->EdOk t p E ->
  ∃res,Rn (Zio t p c g fr a gs b) (Zls t p c g fr a gs b) m j E=some res/\((∃x,res=.inr (x,.no 5))\/∃E',res=.inl (c,gs++[b],E')/\E'.length<=65536/\EdOk t p E'/\(∀e∈E,e∈E') /\
   ∀(i:Nat) (o:GOp) s,j<=i->t.Ops[i]?=some o->Za6 t.Vars s=true->pfF t.Vars s p 0=a->Zay s o.Pre=true->(⟨(a:Int),(i:Int),pfF t.Vars (Zp8 s o) p 0⟩:Zam)∈E')
 | 0,j,E,hj,he,hE=>⟨_,rfl,.inr ⟨E,rfl,he,hE,λ_ h=>h,λi o s hi ho=>by have:=(gS_.1 ho).1;omega⟩⟩
 | m+1,j,E,hj,he,hE=>by
  have ho:t.Ops[j]?=some t.Ops[j]:=gE_ (by omega)
  obtain⟨o,hoe⟩:∃o,t.Ops[j]=o:=⟨_,rfl⟩
  rw[hoe]at ho
  obtain⟨w,hw,hwo⟩:=hfr j o ho
  obtain⟨L,l1,l2,l3,l4⟩:=Zamu hgood hd (by omega) hp hg ho hwo.asc hwo.len hwo.mem ha
  have e3:=Zqn (a:Int) (j:Int) L E (by omega)
  obtain⟨res,r1,r2⟩:=pj3 (a:Int) (j:Int) L L 0 E he
  rw[Rn,Zio,Int.toNat_natCast,Zdp hw,l1,Zac,Zan (by omega),Zan (by omega),e3,r1,Zac]
  rcases r2 with⟨x,rfl⟩|⟨rfl,r3⟩
  ·exact⟨_,rfl,.inl ⟨x,rfl⟩⟩
  ·rw[Zbv]
   have hE':EdOk t p (E++L.map λy=>⟨(a:Int),(j:Int),y⟩):=λe h=>by
    rcases List.mem_append.1 h with h|h
    ·exact hE e h
    ·obtain⟨y,hy,rfl⟩:=List.mem_map.1 h
     have:=l3 y hy
     exact⟨a,y.toNat,rfl,by show y=_;omega,ha,by omega,by show(0:Int)<=(j:Int);omega,by show(j:Int)<_;omega⟩
   obtain⟨res,k1,k2⟩:=pj4 hg hfl hfr c gs b ha m (j+1) _ (by omega) r3 hE'
   refine⟨res,k1,k2.imp_right ?_⟩
   rintro⟨E',q1,q2,q3,q4,q5⟩
   refine⟨E',q1,q2,q3,λe h=>q4 e (List.mem_append_left _ h),λi o' s hi ho' hs hk hh=>?_⟩
   by_cases q:i=j
   ·subst q
    rw[ho]at ho'
    cases ho'
    exact q4 _ (List.mem_append_right _ (List.mem_map.2 ⟨_,l4 s hs hk hh,rfl⟩))
   ·exact q5 i o' s (by omega) ho' hs hk hh
theorem pj5 {g:Nat}(hg:1000000<=g){fr:List (List Int)}(hfl:fr.length=t.Ops.length)(hfr:∀(i:Nat)(o:GOp),t.Ops[i]?=some o->∃w,fr[i]?=some w/\WOk t p o w)(z5:Int):∀(m a:Nat)(l:List Int)(gs:List Bool)(E:List Zam),a+m=Zb6 (szs t.Vars p)->Za6 t.Vars l=true->gs.length=a->E.length<=65536->EdOk t p E ->
  ∃x er,Rn (Zgk t p g fr (t.Ops.map (·.Cost)) (Zb6 (szs t.Vars p):Nat) z5) (Zip t p g fr (t.Ops.map (·.Cost)) (Zb6 (szs t.Vars p):Nat) z5) m a (l,gs,E)=some (x,er)/\(er=.nil->x.States=(Zb6 (szs t.Vars p):Nat)/\x.Costs=t.Ops.map (·.Cost)/\x.Goals.length=Zb6 (szs t.Vars p)/\x.Edges.length<=65536/\EdOk t p x.Edges/\(∀e∈E,e∈x.Edges)/\(∀(i:Nat) (b:Bool),gs[i]?=some b->x.Goals[i]?=some b) /\
   ∀s (k:Nat),Za6 t.Vars s=true->pfF t.Vars s p 0=k->a<=k->(Zay s t.Goal=true->x.Goals[k]?=some true)/\∀(i:Nat) (o:GOp),t.Ops[i]?=some o->Zay s o.Pre=true->(⟨(k:Int),(i:Int),pfF t.Vars (Zp8 s o) p 0⟩:Zam)∈x.Edges)
 | 0,a,l,gs,E,ha,hl,hgl,he,hE=>by
  have hpp:=hp.few
  refine⟨({ States:=(Zb6 (szs t.Vars p):Nat),Init:=z5,Costs:=t.Ops.map (·.Cost),Edges:=E,Goals:=gs }:Zbh),.nil,?_,λ_=>⟨rfl,rfl,by show gs.length=_;omega,he,hE,λ_ h=>h,λ_ _ h=>h,λs k hs hk hak=>?_⟩⟩
  ·rw[Rn,Zip,Zan (by rw[lM_];omega),Zan (by omega),Zan (by omega)]
  ·obtain⟨k',h1,h2⟩:=hp.pf hs
   omega
 | m+1,a,l,gs,E,ha,hl,hgl,he,hE=>by
  have hpp:=hp.few
  have hnm:Nm t.Vars p:=λy hy=>hp.mem hy
  have ok:=Zn6 hgood
  have hvl:=ok.len
  have hll:=(Zcs hl).len
  have hgr:FRng t.Vars t.Goal:=λf hf=>Zsr _ _ (by omega) (Zvt hgood) f hf
  have hgn:=Zkj ok.len (Zvt hgood)
  obtain⟨c,hc⟩:∃c,putV t.Vars p l a=c:=⟨_,rfl⟩
  have hcs:Za6 t.Vars c=true:=by rw[<-hc];exact Ztf hd p.reverse l a (λy hy=>hnm y (List.mem_reverse.1 hy)) (by omega) hl
  have hcl:=(Zcs hcs).len
  obtain⟨b,b1,b2⟩:=pj2 hgood hd hb hol hp hcl hll t.Goal 0 true hgr
  obtain⟨res,r1,r2⟩:=pj4 hgood hd hb hol hp hg hfl hfr c gs b (a:=a) (by omega) t.Ops.length 0 E (by omega) he hE
  have e4:=Zqo t p c g fr (a:Int) gs b E (m:=t.Ops.length) (by rw[lM_]) (by omega)
  have agree:∀s,Za6 t.Vars s=true->pfF t.Vars s p 0=a->∀y∈p,c[y.toNat]?=s[y.toNat]?:=λs hs hk y hy=>by
   have hins:=hp.ins hs
   have hsl:=(Zcs hs).len
   have hg':=Zvy (s:=s) hd p.reverse l (λy hy=>hnm y (List.mem_reverse.1 hy)) (λy hy=>hins y (List.mem_reverse.1 hy)) (by rw[List.reverse_reverse,hk];omega) hll
   rw[List.reverse_reverse,hk]at hg'
   have:=hg'.2.1 y (List.mem_reverse.2 hy)
   obtain⟨y0,y1⟩:=hnm y hy
   rw[<-hc]
   refine Eq.trans this ?_
   rw[gE_ (by omega),gD_,gE_ (by omega)]
   rfl
  have hstep:∀rc,Zgk t p g fr (t.Ops.map (·.Cost)) (Zb6 (szs t.Vars p):Nat) z5 a (l,gs,E) rc=Zj9 (λ(x:List Int×List Bool×List Zam)=>rc (x.1,x.2.1,x.2.2)) (λ(x:Zbh×Er)=>some (x.1,x.2)) res:=λrc=>by
   rw[Zgk]
   show ob1 (ob1 (Zzm t p l a) _) _=_
   rw[Zadz hd hnm hll,hc,Zac,Zan (by omega),Zqm t p c l true (by omega),b1,Zac,Zan (by omega),e4]
   rw[show((0:Nat):Int)=0 from rfl]at r1
   rw[r1,Zac]
  rw[Rn,hstep]
  rcases r2 with⟨x,rfl⟩|⟨E',rfl,q2,q3,q4,q5⟩
  ·rw[Ziz]
   exact⟨x,.no 5,rfl,λh=>by cases h⟩
  ·rw[Zbv]
   obtain⟨x,er,k1,k2⟩:=pj5 hg hfl hfr z5 m (a+1) c (gs++[b]) E' (by omega) hcs (by rw[lA_,List.length_singleton,hgl]) q2 q3
   refine⟨x,er,k1,λh=>?_⟩
   obtain⟨x1,x2,x3,x4,x5,x6,x7,x8⟩:=k2 h
   refine⟨x1,x2,x3,x4,x5,λe h=>x6 e (q4 e h),λi b' hb'=>x7 i b' (by rw[List.getElem?_append_left (gS_.1 hb').1];exact hb'),λs k hs hk hak=>?_⟩
   by_cases e:k=a
   ·subst e
    refine⟨λhh=>?_,λi o ho hh=>x6 _ (q5 i o s (Nat.zero_le _) ho hs hk hh)⟩
    have hbt:=b2 s (Zcs hs).len (agree s hs hk) hh rfl
    refine x7 k true ?_
    rw[<-hgl,List.getElem?_append_right (Nat.le_refl _),Nat.sub_self,hbt]
    rfl
   ·exact x8 s k hs hk (by omega)
end
structure SysP (t:Zah)(p:List Int)(x:Zbh):Prop where
 ok:Zanb x (Zb6 (szs t.Vars p)) x.Costs
 costs:x.Costs=t.Ops.map (·.Cost)
 goal:∀s (k:Nat),Za6 t.Vars s=true->pfF t.Vars s p 0=k->Zay s t.Goal=true->x.Goals[k]?=some true
 edge:∀s (k i:Nat) (o:GOp),Za6 t.Vars s=true->pfF t.Vars s p 0=k->t.Ops[i]?=some o->Zay s o.Pre=true->(⟨(k:Int),(i:Int),pfF t.Vars (Zp8 s o) p 0⟩:Zam)∈x.Edges
theorem Zamg {t:Zah}(ht:ShT t)(hgood:Ze5 t=true)(hd:Dm t.Vars)(hb:Zb6 t.Vars<=81)(hol:t.Ops.length<=1000){p:List Int}(hp3:p.length<=4){g:Nat}(hg:1000000<=g) :
  ∃x er,Zhr g t p=some (x,er)/\(er=.nil->Pat t.Vars p/\SysP t p x):=by
 have hck:=Zx4 (t:=t) (p:=p) p 0 (-1) (List.drop_zero ..) (by omega) (.inl ⟨rfl,rfl⟩) (by omega)
 rw[Zhr,Zla,Zvo t ht,(Znk t).1 hgood,Zac,erM,Zsc t p (by omega)]
 rw[show((0:Nat):Int)=0 from rfl]at hck
 rw[hck,Zac]
 by_cases hasc:Zyl t.Vars.length (-1) p=true
 ·rw[if_pos hasc,erM]
  have hp:Pat t.Vars p:=⟨hasc,hp3,hd⟩
  have hpp:=hp.few
  have hnm:Nm t.Vars p:=λy hy=>hp.mem hy
  have hin:=Zw3 hgood
  have ok:=Zn6 hgood
  have hvl:=ok.len
  have hz:Za6 t.Vars (List.replicate t.Vars.length 0)=true:=Zth (List.length_replicate ..) λi hi=>by
   have hk:=hd _ (List.getElem_mem hi)
   rw[gD_,List.getElem?_replicate,if_pos hi,gD_,gE_ hi]
   show 0<=(0:Int)/\0<t.Vars[i]
   omega
  obtain⟨fr,f1,f2,f3⟩:=pj1 hgood hd hb hol hp t.Ops 0 (List.replicate t.Ops.length []) [] (List.drop_zero ..) (List.length_replicate ..) rfl (λi o hi=>absurd hi (Nat.not_lt_zero _))
  obtain⟨x,er,k1,k2⟩:=pj5 hgood hd hb hol hp hg f2 f3 (pfF t.Vars t.Init p 0) (Zb6 (szs t.Vars p)) 0 (List.replicate t.Vars.length 0) [] [] (Nat.zero_add _) hz rfl (Nat.zero_le _) (λe h=>by cases h)
  have e5:=Zqp t p g fr (t.Ops.map (·.Cost)) ((Zb6 (szs t.Vars p):Nat):Int) (pfF t.Vars t.Init p 0) (List.replicate t.Vars.length 0) [] [] (m:=Zb6 (szs t.Vars p)) rfl (by omega)
  have e1:=Zql t p (List.replicate t.Ops.length []) [] (by omega)
  refine⟨x,er,?_,λh=>⟨hp,?_⟩⟩
  ·rw[Zxb hd hnm (by omega) (by omega),Zc6,Bool.not_true,Zbb,Zakr hd (Zcs hin).len hnm (hp.ins hin) (by omega) (by omega),Zac]
   rw[lM_]at e1 ⊢
   rw[Zan (by omega),Zan (by omega),Int.toNat_natCast]
   rw[Int.toNat_natCast]at e1
   rw[show((0:Nat):Int)=0 from rfl]at f1
   rw[e1,f1,Zac,Zbv,lM_]
   show grd _ (grd _ (Zcf t p g fr (t.Ops.map (·.Cost)) _ _ _ _ _ _ _))=_
   rw[Zan (by omega),Zan (by omega),Int.toNat_natCast (t.Vars.length),e5]
   exact k1
  ·obtain⟨x1,x2,x3,x4,x5,-,-,x8⟩:=k2 h
   refine⟨⟨x1,x3,by omega,x4,λe he=>?_,λc hc=>?_⟩,x2,λs k hs hk hh=>(x8 s k hs hk (Nat.zero_le _)).1 hh,λs k i o hs hk ho hh=>(x8 s k hs hk (Nat.zero_le _)).2 i o ho hh⟩
   ·obtain⟨a,b,h1,h2,h3,h4,h5,h6⟩:=x5 e he
    exact⟨a,b,h1,h2,h3,h4,h5,by rw[x2,lM_];exact h6⟩
   ·rw[x2]at hc
    obtain⟨o,ho,rfl⟩:=List.mem_map.1 hc
    exact Zn5 hgood ho
 ·rw[if_neg hasc,erM]
  exact⟨_,_,rfl,λh=>by cases h⟩
theorem Zaqu {t:Zah}(ht:ShT t)(hgood:Ze5 t=true)(hd:Dm t.Vars)(hb:Zb6 t.Vars<=81)(hol:t.Ops.length<=1000){p:List Int}(hp3:p.length<=4){g:Nat}(hg:1000000000000000000<=g) :
  ∃z er,Zl5 g t p []=some (z,er)/\(er=.nil->∃db:Zde,z=some db/\db.vars=t.Vars/\db.pattern=p/\Pat t.Vars p/\TFix t p db.table):=by
 have hvl:=(Zn6 hgood).len
 obtain⟨x,er,k1,k2⟩:=Zamg ht hgood hd hb hol hp3 (g:=g) (by omega)
 have hcont:Zdg [] Zk9=some false:=rfl
 rw[Zl5,Zvo t ht,(Znk t).1 hgood,Zac,erM]
 show ∃z er,ob1 (some (.inl ()):Option (Unit⊕((Option Zde)×Er))) _=some (z,er)/\_
 rw[Zac,Zbv,hcont,Zac,Zbb,k1,Zc6]
 cases er with
 | no e=>exact⟨_,_,rfl,λh=>by cases h⟩
 | nil =>
  obtain⟨hp,hx⟩:=k2 rfl
  obtain⟨d,d1,d2,d3,d4,d5,d6⟩:=Zat5 hx.ok hg
  rw[erM,show(((([]:List Int).map cI).length:Int) == 0)=true from rfl,Zby,show Znb t.Vars=some t.Vars from Zan (by omega),Zac,show Znb p=some p from Zan (by omega),Zac,d1,Zac,Zan (by omega),Zan (by omega)]
  refine⟨_,_,rfl,λ_=>⟨_,rfl,rfl,rfl,hp,⟨d2,d3,λs hs hh=>?_,d5⟩,λs o u v hs ho hh hu hv hlt=>?_⟩⟩
  ·obtain⟨k,hk,-⟩:=hp.pf hs
   rw[hk,Int.toNat_natCast]
   exact d4 k (hx.goal s k hs hk hh)
  ·obtain⟨k,hk,-⟩:=hp.pf hs
   obtain⟨i,hi⟩:=List.getElem?_of_mem ho
   have he:=hx.edge s k i o hs hk hi hh
   rw[hk,Int.toNat_natCast]at hv
   have:=d6 _ he u v hu (by show d[(k:Int).toNat]?=_;rw[Int.toNat_natCast];exact hv) hlt
   have hc:x.Costs.getD (i:Int).toNat 0=o.Cost:=by
    rw[hx.costs,Int.toNat_natCast,gD_,List.getElem?_map,hi]
    rfl
   rw[<-hc]
   exact this
end Go.Proofs.YtpfnmpdcneejbaaGreatDoor.Am
namespace Go.Proofs.YtpfnmpdcneejbaaGreatDoor.Am
set_option maxHeartbeats 16000000
set_option maxRecDepth 100000
open Go.RowKit
def Zly (a0:List Int)(a1:List Int):Nat->Int->Option (Bool)|0,_=>none|k7+1,v6=>sel (decide (v6<((a0.map cI).length:Int))) (ix a0 v6 (λy8=>ix a1 v6 (λy9=>sel (y8 != y9) (some false) (Zly a0 a1 k7 (IntKind.i64.wrap (v6+1)))))) (some true)
def Zac0 (a0:List Int)(a1:List Int):Option (Bool):=sel (((a0.map cI).length:Int) != ((a1.map cI).length:Int)) (some false) (Zly a0 a1 ((((a0.map cI).length:Int)).toNat+1) 0)
theorem Zaqh (a0:List Int)(a1:List Int){r1:Bool}(h:Zac0 a0 a1=some r1):ACall cx 15 [.sl 1 (a0.map cI),.sl 1 (a1.map cI)] (.c (.bool r1)):=by
 refine aOf Tryz.func15 rfl (by decide) rfl (bT5 rfl) ?_;intro _;unfold Zac0 at h;refine aSR λ_=>dr (aSq (aSR λ_=>dr (aCd λ_=>?_)));refine spl h (λc1 h=>?_) (λc1 h=>?_)
 ·exact zz2
 ·refine aSk (aSq (aSR λ_=>dr (aBk ?_)));refine Zaj (α:=Nat×Int) (λx=>mkS 26 [(0,.sl 1 (a0.map cI)),(1,.sl 1 (a1.map cI)),(12,.c (.int .i64 ((a0.map cI).length:Int))),(13,.c (.int .i64 x.2))] []) (λx=>Zly a0 a1 x.1 x.2=some r1) (λx=>x.1) ((((a0.map cI).length:Int)).toNat+1,0) h ?_ ?_
  ·exact Zas
  ·intro x2 h;intro _;obtain⟨k7,m3,h⟩:=Zak (f:=λn=>Zly a0 a1 n x2.2) rfl h;replace h:Zly a0 a1 (k7+1) x2.2=some r1:=h;rw[Zly]at h;refine aSR λ_=>dr (aSq (aCd λ_=>?_));refine spl h (λc4 h=>?_) (λc4 h=>?_)
   ·refine aSk (aSq (aBk (aSR λ_=>dr (aSR λ_=>?_))));obtain⟨y8,w5,q6,h⟩:=Za9 h;refine Exists.intro (cI y8) (And.intro (Zad w5) λ_=>?_);obtain⟨y9,w7,q8,h⟩:=Za9 h;refine Exists.intro (cI y9) (And.intro (Zad w7) λ_=>pr (pr (dr (aCd λ_=>?_))));refine spl h (λc9 h=>?_) (λc9 h=>?_)
    ·exact zz2
    ·refine aSk (aRg λ_=>dr ⟨(k7,(IntKind.i64.wrap (x2.2+1))),h,ltS m3,?_⟩);exact Zas
   ·exact zz9
def Zgf (g:Nat):Option (Bool):=ob2 (Znu g ({ Vars:=[2],Init:=[0],Goal:=[(0,1)],Ops:=[{ Name:=(⟨#[]⟩:ByteArray),Cost:=2,Pre:=[],Effs:=[{ When:=[],Var:=0,Val:=1:Zaq }]:GOp }]:Zah }) 2 10) (λz1 z2=>ob2 (Zt8 z1) (λz3 z4=>erM z2 (erM z4 (sel (z3.toList == (⟨#[108,111,119,101,114,32,50,10,110,111,103,111,111,100,32,48,58,32,48,61,49,10]⟩:ByteArray).toList) (ob1 (Zei g ({ Vars:=[2],Init:=[0],Goal:=[(0,1)],Ops:=[{ Name:=(⟨#[]⟩:ByteArray),Cost:=2,Pre:=[],Effs:=[{ When:=[],Var:=0,Val:=1:Zaq }]:GOp }]:Zah }) z1 100) (λz7=>erM z7 (some true) (λ_=>some false))) (some false)) (λ_=>some false)) (λ_=>some false)))
theorem zz13 {P:Prop}(w:P:=by replace h:=Zlf h;refine aRg ?_;intro _;refine Znf ?_;exact zz0):P:=w
theorem Zno (g:Nat){r1:Bool}(h:Zgf g=some r1):ACall cx 16 [] (.c (.bool r1)):=by
 refine aOf Tryz.func16 rfl (by decide) rfl (bT5 rfl) ?_;intro _;unfold Zgf at h;refine aSR λ_=>dr (aSR λ_=>dr (aSq ?_));refine Zasl (mkS 41 [(1,.ptr 1 0 0 0)] [(1,⟨26,4,true,[[.sl 1 ([2].map cI),.sl 1 ([0].map cI),.sl 2 ([(0,1)].map cF),.sl 4 ([{ Name:=(⟨#[]⟩:ByteArray),Cost:=2,Pre:=[],Effs:=[{ When:=[],Var:=0,Val:=1:Zaq }]:GOp }].map Za0)]]⟩)]) ?_ ?_
 ·exact Zas
 ·intro _;refine aRg λ_=>?_;obtain⟨z1,z2,u1,h⟩:=Zdv h;refine cl rfl (Zy4 g ({ Vars:=[2],Init:=[0],Goal:=[(0,1)],Ops:=[{ Name:=(⟨#[]⟩:ByteArray),Cost:=2,Pre:=[],Effs:=[{ When:=[],Var:=0,Val:=1:Zaq }]:GOp }]:Zah }) 2 10 u1) λ_=>dr (aSR λ_=>?_);obtain⟨z3,z4,u2,h⟩:=Zdv h;refine cl rfl (Zag1 z1 u2) λ_=>dr (aSq ?_);rcases z2 with _|e5
  ·replace h:=Zdn h;rcases z4 with _|e6
   ·replace h:=Zdn h;refine aRg λ_=>Zll λ_=>Zll λ_=>?_;refine spl h (λc3 h=>?_) (λc3 h=>?_)
    ·intro _;obtain⟨z7,u4,h⟩:=Zae h;refine cl rfl (Zrb g ({ Vars:=[2],Init:=[0],Goal:=[(0,1)],Ops:=[{ Name:=(⟨#[]⟩:ByteArray),Cost:=2,Pre:=[],Effs:=[{ When:=[],Var:=0,Val:=1:Zaq }]:GOp }]:Zah }) z1 100 u4) ?_;rcases z7 with _|e8
     ·replace h:=Zdn h;exact zz0
     ·replace h:=Zlf h;exact zz0
    ·exact zz0
   ·replace h:=Zlf h;refine aRg λ_=>Zll λ_=>Znf ?_;exact zz0
  ·exact zz13
def Za5 (g:Nat):Option (Bool):=ob2 (Zl5 g ({ Vars:=[2],Init:=[0],Goal:=[(0,1)],Ops:=[{ Name:=(⟨#[]⟩:ByteArray),Cost:=2,Pre:=[],Effs:=[{ When:=[],Var:=0,Val:=1:Zaq }]:GOp }]:Zah }) [0] []) (λz1 z2=>erM z2 (opM z1 (none) (λz4=>ob1 (Zbw z4) (λz5=>ob1 (Zac0 z5 [2,0]) (λz6=>sel z6 (ob1 (Zgf g) (λz7=>some z7)) (some false))))) (λ_=>some false))
theorem Zb7 (g:Nat){r1:Bool}(h:Za5 g=some r1):ACall cx 6 [] (.c (.bool r1)):=by
 refine aOf Tryz.func6 rfl (by decide) rfl (bT5 rfl) ?_;intro _;unfold Za5 at h;refine aSR λ_=>dr (aSR λ_=>dr (aSR λ_=>?_));obtain⟨z1,z2,u1,h⟩:=Zdv h;refine clf [(4,⟨2,none⟩),(5,⟨2,none⟩),(7,⟨2,none⟩),(9,⟨2,none⟩),(11,⟨2,none⟩),(15,⟨2,none⟩)] rfl rfl (Zy8 g ({ Vars:=[2],Init:=[0],Goal:=[(0,1)],Ops:=[{ Name:=(⟨#[]⟩:ByteArray),Cost:=2,Pre:=[],Effs:=[{ When:=[],Var:=0,Val:=1:Zaq }]:GOp }]:Zah }) [0] [] u1) λ_=>dr (aSq ?_);rcases z2 with _|e3
 ·replace h:=Zdn h;rcases z1 with _|z4
  ·replace h:=Zakf h;refine aRg λ_=>Zll ?_;cases h
  ·replace h:=Zakg h;refine aRg λ_=>Zll λ_=>?_;obtain⟨z5,u2,h⟩:=Zae h;refine cl rfl (Zhw z4 u2) λ_=>?_;obtain⟨z6,u3,h⟩:=Zae h;refine clb [24] rfl rfl (Zaqh z5 [2,0] u3) λ_=>?_;refine spl h (λc4 h=>?_) (λc4 h=>?_)
   ·intro _;obtain⟨z7,u5,h⟩:=Zae h;refine cl rfl (Zno g u5) ?_;exact zz0
   ·exact zz0
 ·exact zz13
def Zag8 (a0:Er):Option (Int):=erM a0 (some 0) (λe1=>some e1)
theorem Zatj (a0:Er){r1:Int}(h:Zag8 a0=some r1):ACall cx 28 [eA a0] (.c (.int .i64 r1)):=by
 refine aOf Tryz.func28 rfl (by decide) rfl (bT5 rfl) ?_;intro _;unfold Zag8 at h;refine aSR λ_=>dr (aSq (aSq ?_));rcases a0 with _|e1
 ·replace h:=Zdn h;refine aRg ?_;exact zz5
 ·replace h:=Zlf h;refine aRg λ_=>dr (aCd λ_=>Znf (aSk (aSq (aSR λ_=>⟨_,Zsm rfl (bT5 rfl) rfl Zats,λ_=>dr (aSR ?_)⟩))));exact zz5
def Zana (a0:Er)(a1:Int):Option (Bool):=erM a0 (some false) (λe1=>ob1 (Zag8 (Er.no e1)) (λz2=>some (z2 == a1)))
theorem Zavq (a0:Er)(a1:Int){r1:Bool}(h:Zana a0 a1=some r1):ACall cx 12 [eA a0,.c (.int .i64 a1)] (.c (.bool r1)):=by
 refine aOf Tryz.func12 rfl (by decide) rfl (bT5 rfl) ?_;intro _;unfold Zana at h;refine aSR λ_=>dr (aSq ?_);rcases a0 with _|e1
 ·replace h:=Zdn h;refine aRg λ_=>Znf ?_;exact zz0
 ·replace h:=Zlf h;refine aRg λ_=>Zll λ_=>?_;obtain⟨z2,u1,h⟩:=Zae h;refine cl rfl (Zatj (Er.no e1) u1) ?_;exact zz0
def Zs0 (g:Nat)(a0:Zah):Option (Int):=ob1 (Zh4 g a0 []) (λz1=>ob1 (Zqf a0.Vars a0.Init) (λz2=>ix z1 z2 (λy3=>some y3)))
theorem Zaqf (g:Nat)(a0:Zah){r1:Int}(h:Zs0 g a0=some r1):ACall cx 13 [.agg [.sl 1 (a0.Vars.map cI),.sl 1 (a0.Init.map cI),.sl 2 (a0.Goal.map cF),.sl 4 (a0.Ops.map Za0)]] (.c (.int .i64 r1)):=by
 refine aOf Tryz.func13 rfl (by decide) rfl (bT5 rfl) ?_;intro _;unfold Zs0 at h;refine aSR λ_=>dr (aSR λ_=>?_);obtain⟨z1,u1,h⟩:=Zae h;refine cl rfl (Zacp g a0 [] u1) λ_=>?_;obtain⟨z2,u2,h⟩:=Zae h;refine cl rfl (Zai8 a0.Vars a0.Init u2) λ_=>?_;obtain⟨y3,w3,q4,h⟩:=Za9 h;refine Exists.intro (cI y3) (And.intro (Zad w3) λ_=>pr (dr (aRt ?_)));exact zz4
def Zdz (g:Nat)(a0:Zah)(a1:List Int):Option (Bool):=ob1 (ob1 (Zuv a0) (λz11=>sel (!z11) (ob1 (Za5 g) (λz18=>some (.inr z18))) (sel (decide (((a0.Ops.map Za0).length:Int)>6)) (ob1 (Za5 g) (λz17=>some (.inr z17))) (ob1 (Zs1 a0.Vars 36) (λz12=>sel (decide (z12>36)) (ob1 (Za5 g) (λz16=>some (.inr z16))) (sel (decide (((a1.map cI).length:Int)>3)) (ob1 (Za5 g) (λz15=>some (.inr z15))) (ob1 (Za5 g) (λz13=>sel (!z13) (ob1 (Za5 g) (λz14=>some (.inr z14))) (some (.inl ()))))))))):Option (Unit⊕Bool)) (Zj9 (λ_=>ob2 (Zl5 g a0 a1 []) (λz19 z20=>erM z20 (opM z19 (none) (λz22=>ob1 (Zbx z22 a0.Init) (λz23=>ob1 (sel (z23 == 1125899906842624) (some (-1)) (some z23):Option (Int)) (λv24=>ob1 (Zbw z22) (λz26=>ob2 (Zev g a0 a1 z26 v24) (λz27 z28=>erM z28 (ob1 (Zei g a0 z27 1048576) (λz30=>ob1 (Zana z30 10) (λz31=>sel z31 (some true) (ob1 (Zs0 g a0) (λz32=>erM z30 (sel (decide (v24<0)) (sel (z32 == 1125899906842624) (some true) (sel (decide (v24>=0)) (some (decide (z32>=v24))) (some false))) (sel (decide (v24>=0)) (some (decide (z32>=v24))) (some false))) (λ_=>some false)))))) (λ_=>some false))))))) (λ_=>some true))) (λr9=>some r9))
theorem Zm8 (g:Nat)(a0:Zah)(a1:List Int){r1:Bool}(h:Zdz g a0 a1=some r1):ACall cx 3 [.agg [.sl 1 (a0.Vars.map cI),.sl 1 (a0.Init.map cI),.sl 2 (a0.Goal.map cF),.sl 4 (a0.Ops.map Za0)],.sl 1 (a1.map cI)] (.c (.bool r1)):=by
 refine aOf Tryz.func3 rfl (by decide) rfl (bT5 rfl) ?_;intro _;unfold Zdz at h;refine aSR λ_=>dr ?_;obtain⟨o1,h,hK2⟩:=Zae h;refine Zat (α:=Unit) (λ_=>mkS 89 [(1,.sl 1 (a1.map cI)),(2,.ptr 2 0 0 0)] [(2,⟨26,4,true,[[.sl 1 (a0.Vars.map cI),.sl 1 (a0.Init.map cI),.sl 2 (a0.Goal.map cF),.sl 4 (a0.Ops.map Za0)]]⟩)]) (λv=>o1=(.inl v)) ?_ ?_
 ·refine aSR λ_=>?_;obtain⟨z11,u3,h⟩:=Zae h;refine cl rfl (Zaqi a0 u3) λ_=>?_;refine spf h (λc4 h=>?_) (λc4 h=>?_)
  ·intro _;refine spf h (λc5 h=>?_) (λc5 h=>?_)
   ·intro _;obtain⟨z12,u6,h⟩:=Zae h;refine cl rfl (Zai7 a0.Vars 36 u6) λ_=>?_;refine spf h (λc7 h=>?_) (λc7 h=>?_)
    ·intro _;refine spf h (λc8 h=>?_) (λc8 h=>?_)
     ·intro _;obtain⟨z13,u9,h⟩:=Zae h;refine cl rfl (Zb7 g u9) λ_=>dr (aCd λ_=>?_);refine spl h (λc10 h=>?_) (λc10 h=>?_)
      ·refine aSR λ_=>?_;obtain⟨z14,u11,h⟩:=Zae h;refine cl rfl (Zb7 g u11) λ_=>dr (aRt ?_);have j12:=sI_ h;subst j12;replace h:=(Za4 hK2);exact zz4
      ·exact zz10
     ·intro _;refine dr (aCd λ_=>Zll (aSR λ_=>?_));obtain⟨z15,u13,h⟩:=Zae h;refine cl rfl (Zb7 g u13) λ_=>dr (aRt ?_);have j14:=sI_ h;subst j14;replace h:=(Za4 hK2);exact zz4
    ·intro _;refine dr (aCd λ_=>Zll (aSR λ_=>?_));obtain⟨z16,u15,h⟩:=Zae h;refine cl rfl (Zb7 g u15) λ_=>dr (aRt ?_);have j16:=sI_ h;subst j16;replace h:=(Za4 hK2);exact zz4
   ·intro _;refine dr (aCd λ_=>Zll (aSR λ_=>?_));obtain⟨z17,u17,h⟩:=Zae h;refine cl rfl (Zb7 g u17) λ_=>dr (aRt ?_);have j18:=sI_ h;subst j18;replace h:=(Za4 hK2);exact zz4
  ·intro _;refine dr (aCd λ_=>Zll (aSR λ_=>?_));obtain⟨z18,u19,h⟩:=Zae h;refine cl rfl (Zb7 g u19) λ_=>dr (aRt ?_);have j20:=sI_ h;subst j20;replace h:=(Za4 hK2);exact zz4
 ·rintro _ ho;have ho:=ho.symm;subst ho;intro _;replace h:=(Zcx hK2);refine aSR λ_=>?_;obtain⟨z19,z20,u21,h⟩:=Zdv h;refine clf [] rfl rfl (Zy8 g a0 a1 [] u21) λ_=>dr (aSq (aSq ?_));rcases z20 with _|e21
  ·replace h:=Zdn h;refine aRg λ_=>dr (aCd λ_=>Znf (aSk (aSq ?_)));rcases z19 with _|z22
   ·replace h:=Zakf h;cases h
   ·replace h:=Zakg h;refine aRg λ_=>?_;obtain⟨z23,u22,h⟩:=Zae h;refine cl rfl (Zmg z22 a0.Init u22) λ_=>dr (aSR λ_=>dr ?_);obtain⟨o23,h,hK24⟩:=Zae h;refine Zat (α:=Int) (λv24=>mkS 89 [(1,.sl 1 (a1.map cI)),(2,.ptr 2 0 0 0),(5,.pim [.sl 1 (z22.vars.map cI),.sl 1 (z22.pattern.map cI),.c (.int .i64 z22.system.States),.c (.int .i64 z22.system.Init),.sl 1 (z22.system.Costs.map cI),.sl 3 (z22.system.Edges.map Zao),.sl 1 (z22.system.Goals.map cB),.sl 1 (z22.table.map cI)] 0),(8,.c (.int .i64 v24))] [(2,⟨26,4,true,[[.sl 1 (a0.Vars.map cI),.sl 1 (a0.Init.map cI),.sl 2 (a0.Goal.map cF),.sl 4 (a0.Ops.map Za0)]]⟩)]) (λv=>o23=v) ?_ ?_
    ·refine aSR λ_=>dr (aCd λ_=>?_);refine spl h (λc25 h=>?_) (λc25 h=>?_)
     ·refine aRg λ_=>dr ⟨(-1),(sI_ h).symm,?_⟩;exact Zas
     ·refine aSk ⟨z23,(sI_ h).symm,?_⟩;exact Zas
    ·rintro v24 ho;have ho:=ho.symm;subst ho;intro _;replace h:=hK24;refine aSR λ_=>?_;obtain⟨z26,u26,h⟩:=Zae h;refine cl rfl (Zhw z22 u26) λ_=>?_;obtain⟨z27,z28,u27,h⟩:=Zdv h;refine cl rfl (Zt5 g a0 a1 z26 v24 u27) λ_=>dr (aSq (aSq ?_));rcases z28 with _|e29
     ·replace h:=Zdn h;refine aRg λ_=>dr (aCd λ_=>Znf (aSk (aSR λ_=>?_)));obtain⟨z30,u28,h⟩:=Zae h;refine cl rfl (Zrb g a0 z27 1048576 u28) λ_=>dr (aSq (aSR λ_=>?_));obtain⟨z31,u29,h⟩:=Zae h;refine cl rfl (Zavq z30 10 u29) λ_=>dr (aCd λ_=>?_);refine spl h (λc30 h=>?_) (λc30 h=>?_)
      ·exact zz2
      ·refine aSk (aSR λ_=>?_);obtain⟨z32,u31,h⟩:=Zae h;refine cl rfl (Zaqf g a0 u31) λ_=>dr (aSq ?_);rcases z30 with _|e33
       ·replace h:=Zdn h;refine aRg λ_=>Zll λ_=>?_;refine spl h (λc32 h=>?_) (λc32 h=>?_)
        ·intro _;refine spf h (λc33 h=>?_) (λc33 h=>?_)
         ·intro _;refine spl h (λc34 h=>?_) (λc34 h=>?_)
          ·exact zz0
          ·exact zz0
         ·exact zz0
        ·intro _;refine spl h (λc35 h=>?_) (λc35 h=>?_)
         ·exact zz0
         ·exact zz0
       ·exact zz13
     ·exact zz14
  ·exact zz14
end Go.Proofs.YtpfnmpdcneejbaaGreatDoor.Am
namespace Go.Proofs.YtpfnmpdcneejbaaGreatDoor.Am
open Go.RowKit
theorem Zahg {ns:List Zaw}{s:List Int}{d d':Int}(h:Zm0 ns s d=true)(hd:d<=d'):Zm0 ns s d'=true:=by
 unfold Zm0 at h ⊢
 obtain⟨n,hn,e⟩:=List.any_eq_true.1 h
 rw[bA_,decide_eq_true_iff]at e
 exact List.any_eq_true.2 ⟨n,hn,by rw[decide_eq_true (by omega),e.2];rfl⟩
def Qc (c:Zab)(s:List Int)(d:Int):Prop:=(0<=c.Bound/\c.Bound<=d)\/Zm0 c.Nogoods s d=true
theorem Zavs {t:Zah}(hgood:Ze5 t=true){c:Zab}(ha:Acc t c):DQ t (Qc c):=by
 refine⟨λs hs hh=>?_,λs hs o ho hp x hx hq=>?_⟩
 ·by_cases hb:c.Bound=0
  ·exact .inl (by omega)
  ·exact .inr (ha.goal hb s hs hh)
 ·have hcost:=Zn5 hgood ho
  rcases hq with hq|hq
  ·exact .inl (by omega)
  ·unfold Zm0 at hq
   obtain⟨n,hn,e⟩:=List.any_eq_true.1 hq
   rw[bA_,decide_eq_true_iff]at e
   have hi:inF o n.1 s=true:=by rw[inF,hp,e.2];rfl
   cases hsk:Zamo c n o with
   | true =>
    have:=of_decide_eq_true hsk
    exact .inl (by omega)
   | false =>
    have h2:=ha.step n hn o ho hsk s hs hi
    refine .inr (Zahg h2 ?_)
    unfold Zalv
    split <;> omega
theorem Zatv {t:Zah}(hsm:Zjl t=true){c:Zab}(hcp:Zwd t.Vars c)(ha:Acc t c)(g:Nat)(hg:1000000000000000000<=g):∃x,Zs0 g t=some x/\(c.Bound<0->x=Zka)/\(0<=c.Bound->c.Bound<=x)/\∀(plan s':List Int)(z:Int),plan.length<=1000->runF t plan t.Init 0=some (s',z)->Zay s' t.Goal=true->x<=z/\z<Zka:=by
 have hgood:=(Zfo hsm).1
 have hal:=Zs3 t hsm
 obtain⟨d,e1,hd⟩:=Zav3 hsm (Zavs hgood ha) g hg []
 have hinit:Za6 t.Vars t.Init=true:=by
  unfold Ze5 at hgood
  simp only[bA_]at hgood
  exact hgood.2.2.1
 obtain⟨k,k1,k2⟩:=Zad2 hsm hinit
 obtain⟨x,hx⟩:∃x,d[k]?=some x:=⟨_,gE_ (by rw[hd.len];exact(gS_.1 k2).1)⟩
 obtain⟨x0,x1,xq⟩:=hd.ok k t.Init x k2 hx
 have hno:∀z,Zm0 c.Nogoods t.Init z=false:=λz=>by
  rw[Bool.eq_false_iff]
  intro h
  unfold Zm0 at h
  obtain⟨n,hn,e⟩:=List.any_eq_true.1 h
  rw[bA_,ha.init n hn]at e
  exact absurd e.2 (by decide)
 have hq:x≠Zka->0<=c.Bound/\c.Bound<=x:=λhne=>(xq hne).resolve_right (λh=>by rw[hno]at h;cases h)
 have hb1:=hcp.b1
 obtain⟨d',f1,f2⟩:=Zav7 hsm g hg []
 have hdd:d=d':=sI_ (e1.symm.trans f1)
 subst hdd
 refine⟨x,by rw[Zs0,e1,Zac,k1,Zac,Zfv hx],λhb=>Decidable.byContradiction λhne=>by have:=hq hne;omega,λhb=>?_,λplan s' z hl hr hg'=>?_⟩
 ·by_cases hi:x=Zka
  ·rw[hi];unfold Zka;omega
  ·exact(hq hi).2
 ·obtain⟨g1,g2,g3⟩:=Zaky hsm f2 plan t.Init 0 s' z hl hinit hr hg'
  have:=g3 k x k2 hx
  exact⟨by omega,by unfold Zka;omega⟩
theorem Zavu : Za5 1000000000000000000=some true:=by kernel_rfl
theorem Zawc {γ:Type}{b1 b2 b4:Bool}{m:Int}{K:Unit⊕Bool->Option γ}{x:Option γ}(h1:b1=true->b2=false->¬ m>36->b4=false->K (.inl ())=x)(h2:K (.inr true)=x) :
  ob1 (ob1 (some b1) (λz11=>sel (!z11) (ob1 (some true) (λz18=>some (.inr z18))) (sel b2 (ob1 (some true) (λz17=>some (.inr z17))) (ob1 (some m) (λz12=>sel (decide (z12>36)) (ob1 (some true) (λz16=>some (.inr z16))) (sel b4 (ob1 (some true) (λz15=>some (.inr z15))) (ob1 (some true) (λz13=>sel (!z13) (ob1 (some true) (λz14=>some (.inr z14))) (some (.inl ())))))))))) K=x:=by
 cases b1
 ·exact h2
 ·cases b2
  ·rw[Zac,Bool.not_true,Zbb,Zbb,Zac,Zar]
   by_cases h:m>36
   ·rw[if_pos h];exact h2
   ·rw[if_neg h]
    cases b4
    ·exact h1 rfl rfl h rfl
    ·exact h2
  ·exact h2
theorem Zaco {db:Zde}{v s:List Int}(hv:db.vars=v)(hd:Dm v)(hs:s.length=v.length):∀(r:List Int)(n:Int)(a:Int),Nm v r->InS v s r->0<=a->(a+1)*((Zb6 (szs v r):Nat):Int)<=1000000 ->
  Rg (Zdw db s) (Zge db s) r n a=some (pfF v s r a)
 | [],_,_,_,_,_,_=>rfl
 | y :: r,n,a,hn,hi,ha,hb=>by
  obtain⟨k,hk,k1,k2⟩:=hd.get hn (mS_ ..)
  obtain⟨y0,y1⟩:=hn y (mS_ ..)
  obtain⟨s0,s1⟩:=hi y (mS_ ..)
  have hak:0<=a*(k:Int):=Int.mul_nonneg ha (by omega)
  have hb1:(a+1)*(k:Int)=a*(k:Int)+k:=by rw[Int.add_mul,Int.one_mul]
  rw[Ztk,Zb6,hk,Int.toNat_natCast,Int.natCast_mul,<-Int.mul_assoc,hb1]at hb
  rw[hk]at s1
  have hpos:=Zaiy hd hn.tail
  have hm:(a*(k:Int)+s.getD y.toNat 0+1)*((Zb6 (szs v r):Nat):Int)<=1000000:=Int.le_trans (Int.mul_le_mul_of_nonneg_right (by omega) (Int.natCast_nonneg _)) hb
  have hle:a*(k:Int)+s.getD y.toNat 0+1<=1000000:=by
   refine Int.le_trans ?_ hm
   have:=Int.mul_le_mul_of_nonneg_left (c:=a*(k:Int)+s.getD y.toNat 0+1) (show(1:Int)<=((Zb6 (szs v r):Nat):Int)by omega) (by omega)
   omega
  rw[Rg,Zdw,ixv,hv,Zlh (d:=0) y0 y1,Zlh (d:=0) y0 (by omega),hk,w64 (z:=a*(k:Int)) (by omega) (by omega),w64 (z:=a*(k:Int)+s.getD y.toNat 0) (by omega) (by omega),pfF,hk]
  exact Zaco hv hd hs r (n+1) _ hn.tail hi.tail (by omega) hm
theorem Zamw (t:Zah)(ht:ShT t)(p:List Int):Zdz 1000000000000000000 t p=some true:=by
 rw[Zdz,Zavu,Zavi t ht,Zaor t.Vars ht.vars 36 (by decide)]
 refine Zawc (λhte hops hmany hpl=>?_) rfl
 have hops':=of_decide_eq_false hops
 have hpl':=of_decide_eq_false hpl
 rw[lM_]at hops' hpl'
 have hsm:=Zack hte
 have hfit:fitF t=true:=by
  unfold fitF
  rw[hte,Bool.true_and,bA_,decide_eq_true_iff,decide_eq_true_iff]
  refine⟨by omega,?_⟩
  have hdm:∀k∈t.Vars,2<=k/\k<=4:=by
   have h1:=hte
   unfold Zai0 at h1
   simp only[bA_,List.all_eq_true,decide_eq_true_iff]at h1
   exact h1.2.1
  have h36:=Ztc 36 t.Vars 1 (λk hk=>by have:=hdm k hk;omega) (by decide) (by decide)
  have h81:=Ztc 81 t.Vars 1 (λk hk=>by have:=hdm k hk;omega) (by decide) (by decide)
  rw[show((36:Nat):Int)=36 from rfl,show((1:Nat):Int)=1 from rfl,Nat.one_mul]at h36
  rw[show((81:Nat):Int)=81 from rfl,show((1:Nat):Int)=1 from rfl,Nat.one_mul]at h81
  rw[h36]at hmany
  have hp36:Zb6 t.Vars<=36:=by
   split at hmany
   ·assumption
   ·omega
  rw[h81,if_pos (by omega)]
  omega
 have hf:=Zav6 hfit
 have hgood:=hf.good
 have hin:=Zw3 hgood
 have hdm:Dm t.Vars:=hf.dom
 have hck:=(Znk t).1 hgood
 have h81:=hf.prod
 obtain⟨z,er,hz,hzk⟩:=Zaqu ht hgood hdm h81 (by have:=hf.ops;omega) (p:=p) (by omega) (g:=1000000000000000000) (Nat.le_refl _)
 rw[Zbv,hz,Zc6]
 cases er with
 | no e=>rfl
 | nil =>
  obtain⟨db,rfl,hv,hpp,hp,hT⟩:=hzk rfl
  have hfew:=hp.few
  have hdl:=hT.g.len
  have hinl:=(Zcs hin).len
  have hvl:=(Zn6 hgood).len
  obtain⟨k,hk,hkl⟩:=hp.pf hin
  obtain⟨y,hy⟩:∃y,db.table[k]?=some y:=⟨_,gE_ (by omega)⟩
  have hy':db.table[(pfF t.Vars t.Init p 0).toNat]?=some y:=by rw[hk,Int.toNat_natCast];exact hy
  have hyr:=hT.g.rng y (mG_ hy)
  have hyb:=hT.g.bnd y (mG_ hy)
  have hfin:=Zahq db.table
  have hval:Zbx db t.Init=some y:=by
   rw[Zbx,hv,Zacl t.Vars t.Init (by show _<=_;omega),Zac,hin,Bool.not_true,Zbb,Zkc db t.Init 0 (by rw[hpp];omega),hpp,Zaco hv hdm hinl p 0 0 (λu hu=>hp.mem hu) (hp.ins hin) (Int.le_refl 0) (by omega),Zac,hk,Zfv hy]
  have htab:Zbw db=some db.table:=by
   rw[Zbw,show Znb db.table=some db.table from Zan (by omega),Zac,Zan (by omega)]
  have hsh:∀c:Zab,Zwd t.Vars c->ShC c:=λc hcp=>⟨by have:=hcp.len;unfold Sh;omega,λn hn=>Zjj (by have:=hf.cap.len;omega) (hcp.prop n hn)⟩
  rw[erM]
  show ob1 (Zbx db t.Init) _=_
  rw[hval,Zac]
  have key:∀b:Int,(b=-1\/(0<=b/\b<=1099511627776))->(b=-1->y=Zka)->(0<=b->b<=y) ->
    ∃c,Zev 1000000000000000000 t p db.table b=some (c,.nil)/\((∃x,Zei 1000000000000000000 t c 1048576=some .nil/\Zs0 1000000000000000000 t=some x/\(b<0->x=Zka)/\(0<=b->b<=x))\/Zei 1000000000000000000 t c 1048576=some (.no 10)):=λb hb hb1 hb2=>by
   have hcp:=Zap2 hf hp hT hb
   have hA:=Zave hf hp hT hb hy' ⟨hb1,hb2⟩
   refine⟨_,Zavf (by decide) t ht hck hp hdl.symm (by omega) ⟨by omega,by omega⟩ hT.g.rng,?_⟩
   have hvq:=Zap8 t ht _ (hsh _ hcp) 1048576 1000000000000000000 (by decide)
   rcases Zatp hf hcp hA 1048576 with h|h
   ·obtain⟨x,x1,x2,x3,-⟩:=Zatv hsm hcp hA 1000000000000000000 (Nat.le_refl _)
    exact .inl ⟨x,by rw[hvq,h],x1,x2,x3⟩
   ·exact .inr (by rw[hvq,h])
  by_cases hi:y=1125899906842624
  ·obtain⟨c,c1,c2⟩:=key (-1) (.inl rfl) (λ_=>hi) (λh=>absurd h (by decide))
   rw[show(y == 1125899906842624)=true from beq_iff_eq.2 hi,Zby,Zac,htab,Zac,c1,Zc6,erM]
   rcases c2 with⟨x,v1,v2,v3,-⟩|v1
   ·rw[v1,Zac]
    show ob1 (some false) _=_
    rw[Zac,Zbb,v2,Zac,v3 (by decide)]
    rfl
   ·rw[v1,Zac]
    rfl
  ·have hb:=hyb hi
   obtain⟨c,c1,c2⟩:=key y (.inr ⟨hyr.1,by omega⟩) (λh=>by have:=hyr.1;omega) (λ_=>Int.le_refl _)
   rw[show(y == 1125899906842624)=false from beq_eq_false_iff_ne.2 hi,Zbb,Zac,htab,Zac,c1,Zc6,erM]
   rcases c2 with⟨x,v1,v2,-,v4⟩|v1
   ·have hyx:=v4 hyr.1
    have hy0:=hyr.1
    rw[v1,Zac]
    show ob1 (some false) _=_
    rw[Zac,Zbb,v2,Zac,erM,Zar,if_neg (by omega),Zar,if_pos hy0,decide_eq_true (show x>=y from hyx)]
   ·rw[v1,Zac]
    rfl
end Go.Proofs.YtpfnmpdcneejbaaGreatDoor.Am
namespace Go.Proofs.YtpfnmpdcneejbaaGreatDoor
open Go.RowKit Go.ChangeShapes Go.WideShapes Go.Deep Go.Joins
def I64 (x:Int):Prop:=-9223372036854775808<=x/\x<=9223372036854775807
theorem I64.of {x:Int}(h:(Lit.int .i64 x).wf=true):I64 x:=by
 have:=bounds_i64 h
 exact this
section
variable {H : Type} {enc : TypeId × Value -> H} {P : Program} {w : World} {base : Nat} {spare : Nat -> Bool} {held : Bool}
def Zabh (P:Program)(t:TypeId)(d:DataW H):Prop:=∀n∈d.weights P t,n<=reachBytes
theorem Zags {ts:List TypeId}{ds:List (DataW H)}(h:(DataW.weightsEach P ts ds).all (·<=reachBytes)=true){j:Nat}{t:TypeId}{d:DataW H}(ht:ts[j]?=some t)(hd:ds[j]?=some d):Zabh P t d :=
 λn hn=>of_decide_eq_true (List.all_eq_true.1 h n (DataW.weights_mem_each ht hd n hn))
theorem Zaio {t:TypeId}{fs:Array Field}{parts:List (DataW H)}(h:Zabh P t (.agg parts))(hu:P.underlying t=some (.struct fs)){j:Nat}{f:Field}{d:DataW H}(hf:fs[j]?=some f)(hd:parts[j]?=some d):Zabh P f.type d :=
 λn hn=>h n (by
  simp only[DataW.weights,hu]
  exact DataW.weights_mem_each (j:=j) (by simp[List.getElem?_map,hf]) hd n hn)
theorem Zt4 {e:TypeId}:∀{l:List (DataW H)}{d:DataW H},d∈l->∀n∈d.weights P e,n∈DataW.weightsAll P e l
 | x :: l,d,hd,n,hn=>by
  simp only[DataW.weightsAll,List.mem_append]
  rcases List.mem_cons.1 hd with rfl|h
  ·exact Or.inl hn
  ·exact Or.inr (Zt4 h n hn)
theorem Zamn {t e:TypeId}{elems sp:List (DataW H)}(h:Zabh P t (.slice elems sp))(hu:P.underlying t=some (.slice e)){d:DataW H}(hd:d∈elems):Zabh P e d :=
 λn hn=>h n (by
  simp only[DataW.weights,hu,List.mem_cons,List.mem_append]
  exact Or.inr (Or.inl (Zt4 hd n hn)))
theorem Zapm {t e:TypeId}{elems sp:List (DataW H)}(h:Zabh P t (.slice elems sp))(hu:P.underlying t=some (.slice e)):elems.length*P.bytesOf e<=140737488355328:=by
 have h1:=h ((elems.length+sp.length)*P.bytesOf e) (by simp[DataW.weights,hu])
 have h2:elems.length*P.bytesOf e<=(elems.length+sp.length)*P.bytesOf e:=Nat.mul_le_mul_right _ (by omega)
 have h3:reachBytes<=140737488355328:=by decide
 omega
end
theorem Zagv {w:World}{p:Addr}{v:Value}(h:w.cell? p=some v):p.spot=none:=by
 unfold World.cell? at h
 split at h
 ·split at h
  ·cases h
  ·rename_i hs;simpa using hs
 ·cases h
theorem Zaer {w:World}{a:Addr}{k:Nat}{v:Value}(h0:∃u,w.cell? (a.add 0)=some u)(h:w.cell? (a.add k)=some v):a=⟨a.block,a.off,none⟩/\w.cell? ⟨a.block,a.off+k,none⟩=some v:=by
 obtain⟨u,hu⟩:=h0
 have hs:=Zagv hu
 obtain⟨b,off,sp⟩:=a
 simp[Addr.add]at hs
 subst hs
 refine⟨rfl,?_⟩
 rw[<-h]
 congr 1
 unfold Addr.add
 split
 ·subst k;rfl
 ·rfl
theorem Zaun {α:Type}(n:Nat)(R:Nat->α->Prop)(h:∀i,i<n->∃x,R i x):∃l:List α,l.length=n/\∀k x,l[k]?=some x->R k x:=by
 induction n with
 | zero=>exact⟨[],rfl,λk x hx=>by simp at hx⟩
 | succ n ih =>
  obtain⟨l,hl,hr⟩:=ih (λi hi=>h i (by omega))
  obtain⟨x,hx⟩:=h n (by omega)
  refine⟨l++[x],by simp[hl],λk y hy=>?_⟩
  by_cases hk:k<n
  ·rw[List.getElem?_append_left (by omega)]at hy
   exact hr k y hy
  ·rw[List.getElem?_append_right (by omega)]at hy
   have hk':k-l.length=0:=by
    have:=(gS_.1 hy).1
    simp at this
    omega
   rw[hk']at hy
   simp at hy
   subst hy
   obtain rfl:k=n:=by omega
   exact hx
variable {H : Type} {enc : TypeId × Value -> H} {w : World} {base : Nat} {spare : Nat -> Bool} {held : Bool}
end Go.Proofs.YtpfnmpdcneejbaaGreatDoor
namespace Go.Proofs.YtpfnmpdcneejbaaGreatDoor.Am
open Go.RowKit Go.ChangeShapes Go.WideShapes Go.Deep Go.Joins
abbrev mZ : MM:=mO (λ_=>False)
theorem noZ (b:Nat):¬ Zdf nov mZ b:=λh=>Zhu.1 h
section
variable {H : Type} {enc : TypeId × Value -> H} {P : Program} {w : World} {base : Nat} {spare : Nat -> Bool} {held : Bool}
def Zqd (w:World)(es:List AV)(cs:List Value):Prop:=es.length=cs.length/\(∀(j:Nat) (y:AV) (u:Value),es[j]?=some y->cs[j]?=some u->RV w nov mZ y u/\u.oneCell'=true)/\∀y∈es,Fr y
def Zse (enc:TypeId×Value->H)(P:Program)(w:World)(base:Nat)(spare:Nat->Bool)(held:Bool)(t:TypeId){α:Type}(en:α->List AV)(R:α->Prop):Prop :=
 ∀(fuel:Nat) (cs:List Value) (x:DataW H×List MemPlace),DataW.trod enc P w base spare held fuel t cs=some x->Zabh P t x.1->∃a,R a/\Zqd w (en a) cs
theorem Zs7 {y:AV}{u:Value}(h:RV w nov mZ y u)(h1:u.oneCell'=true)(hf:Fr y):Zqd w [y] [u]:=by
 refine⟨rfl,λj z v hz hv=>?_,λz hz=>by simp at hz;subst hz;exact hf⟩
 cases j with
 | zero=>simp at hz hv;subst hz hv;exact⟨h,h1⟩
 | succ j=>simp at hz
theorem Zp9 {t:TypeId}{k:IntKind}(ht:P.underlying t=some (.int k)):Zse enc P w base spare held t (λz:Int=>[.c (.int k z)]) (λz=>(Lit.int k z).wf=true):=by
 intro fuel cs x h _
 obtain⟨z,rfl,_,wz⟩:=DataW.trod_int ht h
 exact⟨z,wz,Zs7 (.c _) rfl (.c _)⟩
theorem Zq6 {t e:TypeId}{α:Type}{en:α->List AV}{R:α->Prop}{sz by_:Nat}(ht:P.underlying t=some (.slice e))(hc:P.cellsOf e=sz)(hb:P.bytesOf e=by_)(hby:0<by_)(hsz:0<sz)(he:Zse enc P w base spare held e en R) :
  Zse enc P w base spare held t (λl:List α=>[.sl sz (l.map en)]) (λl=>l.length*by_<=140737488355328/\∀x∈l,R x):=by
 intro fuel cs x h hs
 rcases open_slice ht h with⟨rfl,_⟩|⟨a,len,cap,m,n,D,Pl,rfl,_,hl,hm,hmm,rfl,hi⟩
 ·refine⟨[],⟨by simp,by simp⟩,Zs7 ?_ rfl (.sl (λe he=>by cases he))⟩
  exact RV.sl (l:=[]) (b:=0) (off:=0) (f:=λ_ _=>undef) (λh=>absurd rfl h) (Nat.zero_le _) (by simp) (λk e h=>by simp at h) (λk j e x h=>by simp at h) (λk j e x h=>by simp at h) (λe he=>by cases he)
 ·have hlen:=Zapm hs ht
  rw[hb]at hlen
  simp only[lM_,List.length_range]at hlen
  have hml:len<=m:=by rw[hmm];split <;> omega
  have hcell:∀i,i<len->∃z:α,R z/\∃cs',Zqd w (en z) cs'/\cs'.length=sz/\∀j,j<sz->w.cell? (a.add (i*sz+j))=cs'[j]?:=by
   intro i hi'
   obtain⟨cs',hcc,ht'⟩:=hi i (by omega)
   rw[hc]at hcc
   obtain⟨z,hz,hcr⟩:=he n cs' _ ht' (Zamn hs ht (List.mem_map.2 ⟨i,by simpa using hi',rfl⟩))
   obtain⟨_,hcl',hat⟩:=World.cells?_some hcc
   exact⟨z,hz,cs',hcr,hcl',λj hj=>by rw[<-hat j hj,Go.Deep.add_add]⟩
  obtain⟨l,hl',hat⟩:=Zaun len _ hcell
  have hR:∀x∈l,R x:=λx hx=>by
   obtain⟨k,hk⟩:=List.getElem?_of_mem hx
   exact(hat k x hk).1
  have hfr:FrL (l.map en):=by
   intro e he
   obtain⟨x,hx,rfl⟩:=List.mem_map.1 he
   obtain⟨k,hk⟩:=List.getElem?_of_mem hx
   obtain⟨_,cs',hcr,_⟩:=hat k x hk
   exact hcr.2.2
  refine⟨l,⟨by rw[hl'];exact hlen,hR⟩,Zs7 ?_ rfl (.sl hfr)⟩
  have key:∀(k j:Nat) (e:List AV) (y:AV),(l.map en)[k]?=some e->e[j]?=some y->e.length=sz/\∃u,w.cell? ⟨a.block,a.off+(k*sz+j),none⟩=some u/\u.oneCell'=true/\RV w nov mZ y u/\a=⟨a.block,a.off,none⟩/\a.block<w.heap.size:=by
   intro k j e y hk hj
   rw[List.getElem?_map]at hk
   cases hx:l[k]? with
   | none=>rw[hx]at hk;cases hk
   | some z =>
    rw[hx]at hk
    simp at hk
    subst hk
    obtain⟨_,cs',⟨c1,c2,_⟩,c4,c5⟩:=hat k z hx
    have hjl:j<sz:=by rw[<-c4,<-c1];exact(gS_.1 hj).1
    have hcj:=c5 j hjl
    have hget:cs'[j]?=some (cs'[j]'(by omega)):=gE_ _
    rw[hget]at hcj
    obtain⟨r1,r2⟩:=c2 j y _ hj hget
    have h0:0<len:=by have:=(gS_.1 hx).1;omega
    obtain⟨_,_,cs0,⟨_,_,_⟩,d4,d5⟩:=hcell 0 h0
    have hz0:=d5 0 hsz
    rw[gE_ (by omega)]at hz0
    obtain⟨e1,e2⟩:=Zaer ⟨_,by simpa using hz0⟩ hcj
    exact⟨by rw[c1,c4],_,e2,r2,r1,e1,Zp7 (p:=⟨a.block,a.off+(k*sz+j),none⟩) e2⟩
  have hlen2:(l.map en).length=len:=by simp[hl']
  have:=RV.sl (w:=w) (vs:=nov) (m:=mZ) (sz:=sz) (l:=l.map en) (A:=some a) (cap:=cap) (b:=a.block) (off:=a.off) (f:=λk j=>(w.cell? ⟨a.block,a.off+(k*sz+j),none⟩).getD undef)
   (λhne=>?_) (by omega) (by rw[hlen2];exact Nat.le_trans (Nat.le_mul_of_pos_right _ hby) hlen) (λk e hk=>?_) (λk j e y hk hj=>?_) (λk j e y hk hj=>?_) hfr
  ·rw[hlen2]at this
   exact this
  ·have h0:0<(l.map en).length:=List.length_pos_iff.2 hne
   have hk:=gE_ h0
   obtain⟨x0,hx0,hx0'⟩:∃x0,l[0]?=some x0/\(l.map en)[0]=en x0:=by
    have h1:0<l.length:=by simpa using h0
    exact⟨l[0],gE_ h1,by simp⟩
   obtain⟨_,cs',⟨c1,_,_⟩,c4,_⟩:=hat 0 x0 hx0
   have hel:0<((l.map en)[0]).length:=by rw[hx0',c1,c4];exact hsz
   obtain⟨_,_,_,_,_,q1,q2⟩:=key 0 0 _ _ hk (gE_ hel)
   exact⟨by rw[<-q1],noZ _,q2⟩
  ·rw[List.getElem?_map]at hk
   cases hx:l[k]? with
   | none=>rw[hx]at hk;cases hk
   | some z =>
    rw[hx]at hk
    simp at hk
    subst hk
    obtain⟨_,cs',⟨c1,_,_⟩,c4,_⟩:=hat k z hx
    rw[c1,c4]
  ·obtain⟨_,u,q1,q2,_⟩:=key k j e y hk hj
   rw[q1]
   exact⟨rfl,q2⟩
  ·obtain⟨_,u,q1,_,q3,_⟩:=key k j e y hk hj
   rw[q1]
   exact q3
def Zajb (enc:TypeId×Value->H)(P:Program)(w:World)(base:Nat)(spare:Nat->Bool)(held:Bool)(fs:List Field)(off tot:Nat){α:Type}(en:α->List AV)(R:α->Prop):Prop :=
 ∀(fuel:Nat) (cs:List Value) (xs:List (DataW H×List MemPlace)),cs.length=tot->xs.length=fs.length->(∀(i:Nat) (f:Field),fs[i]?=some f->DataW.trod enc P w base spare held fuel f.type ((cs.drop f.offset).take (P.cellsOf f.type))=xs[i]?) ->
  (∀(i:Nat) (f:Field) (x:DataW H×List MemPlace),fs[i]?=some f->xs[i]?=some x->Zabh P f.type x.1)->∃a,R a/\Zqd w (en a) (cs.drop off)
theorem Zaey {a b:List AV}{xs ys:List Value}(h1:Zqd w a xs)(h2:Zqd w b ys):Zqd w (a++b) (xs++ys):=by
 refine⟨by rw[lA_,lA_,h1.1,h2.1],λj y u hy hu=>?_,λy hy=>?_⟩
 ·rcases Nat.lt_or_ge j a.length with hlt|hge
  ·rw[List.getElem?_append_left hlt]at hy
   rw[List.getElem?_append_left (by rw[<-h1.1];exact hlt)]at hu
   exact h1.2.1 j y u hy hu
  ·rw[List.getElem?_append_right hge]at hy
   rw[List.getElem?_append_right (by rw[<-h1.1];exact hge)]at hu
   rw[h1.1]at hy
   exact h2.2.1 _ y u hy hu
 ·rcases List.mem_append.1 hy with h|h
  ·exact h1.2.2 y h
  ·exact h2.2.2 y h
theorem Zq5 {f:Field}{off tot:Nat}{α:Type}{en:α->List AV}{R:α->Prop}(ho:f.offset=off)(htot:off+P.cellsOf f.type=tot)(h:Zse enc P w base spare held f.type en R):Zajb enc P w base spare held [f] off tot en R:=by
 intro fuel cs xs hcl hx ht hs
 obtain⟨x,rfl⟩:=List.length_eq_one_iff.1 hx
 have h1:=ht 0 f rfl
 obtain⟨a,ha,hc⟩:=h fuel _ x h1 (hs 0 f x rfl rfl)
 refine⟨a,ha,?_⟩
 rw[ho,tL_ (by simp;omega)]at hc
 exact hc
theorem Zic {f:Field}{fs:List Field}{off off' tot:Nat}{α β:Type}{en:α->List AV}{R:α->Prop}{en':β->List AV}{R':β->Prop}(ho:f.offset=off)(hoff:off+P.cellsOf f.type=off')(h:Zse enc P w base spare held f.type en R)(h':Zajb enc P w base spare held fs off' tot en' R') :
  Zajb enc P w base spare held (f :: fs) off tot (λp:α×β=>en p.1++en' p.2) (λp=>R p.1/\R' p.2):=by
 intro fuel cs xs hcl hx ht hs
 cases xs with
 | nil=>simp at hx
 | cons x xs =>
  obtain⟨a,ha,hc⟩:=h fuel _ x (ht 0 f rfl) (hs 0 f x rfl rfl)
  obtain⟨b,hb,hc'⟩:=h' fuel cs xs hcl (by simpa using hx) (λi g hg=>by simpa using ht (i+1) g (by simpa using hg)) (λi g y hg hy=>hs (i+1) g y (by simpa using hg) (by simpa using hy))
  refine⟨(a,b),⟨ha,hb⟩,?_⟩
  rw[ho]at hc
  have:cs.drop off=(cs.drop off).take (P.cellsOf f.type)++cs.drop off':=by
   rw[<-hoff,<-List.drop_drop,List.take_append_drop]
  rw[this]
  exact Zaey hc hc'
theorem Zon {t:TypeId}{fs:Array Field}{α:Type}{en:α->List AV}{R:α->Prop}(ht:P.underlying t=some (.struct fs))(h:Zajb enc P w base spare held fs.toList 0 (P.cellsOf t) en R):Zse enc P w base spare held t en R:=by
 intro fuel cs x hx hs
 obtain⟨xs,n,_,rfl,hcl,hxl,hf⟩:=DataW.trod_struct ht hx
 obtain⟨a,ha,hc⟩:=h n cs xs hcl (by simpa using hxl) (λi f hi=>hf i f (by simpa using hi)) (λi f y hi hy=>Zaio hs ht (j:=i) (by simpa using hi) (by simp[List.getElem?_map,hy]))
 exact⟨a,ha,by simpa using hc⟩
theorem Zavt {es:List AV}{us:Array Value}(h:Zqd w es us.toList):RV w nov mZ (.agg es) (.agg us) :=
 .agg (by rw[h.1];simp) (λj y u hy hu=>(h.2.1 j y u hy (by simpa using hu)).1)
theorem Zawo {y:AV}{u:Value}(h:Zqd w [y] [u]):RV w nov mZ y u:=(h.2.1 0 y u rfl rfl).1
end
end Go.Proofs.YtpfnmpdcneejbaaGreatDoor.Am
namespace Go.Proofs.YtpfnmpdcneejbaaGreatDoor
open Go.RowKit Go.WideShapes Go.ChangeShapes Go.ChangeAt
section
variable {H : Type} {enc : TypeId × Value -> H} {P : Program}
theorem Zad0 {f:Func}{s:ChangeSpec}{apart fresh handsOn again:Bool}{W W':World}{args:Array Value}{v:Value}{ds gs:List (DataW H)}{before pa pv:List MemPlace}
  (hW:DataW.Whole enc P f.params.toList s.vars apart W args.toList ds gs before)
  (hres:∀(b:Nat) (sp:Nat->Bool) (hd:Bool),DataW.TrodAll enc P W' b sp hd f.resultTypes.toList (v.resultList f.resultTypes.size) (s.fn H (ds++gs)).results [])
  (hargs:∀sp:Nat->Bool,(∀p∈before,sp p.block=true)->DataW.TrodAll enc P W' 0 sp true f.params.toList args.toList (s.fn H (ds++gs)).args pa)
  (hvars:∀sp:Nat->Bool,(∀p∈before,sp p.block=true)->DataW.TrodVars enc P W' sp s.vars (s.fn H (ds++gs)).vars pv)
  (hps:before=pa++pv) (hb:Below W.heap.size W W')
  (hok:∀(j:Nat) (t:TypeId) (r:Value),f.resultTypes[j]?=some t->(v.resultList f.resultTypes.size)[j]?=some r->Value.okWide P W' .any 0 t r) :
  s.post enc P f apart fresh handsOn again W args v W':=by
 have hlt:∀p∈before,p.block<W.heap.size:=λp hp=>hW.lt p hp
 have hold:∀p∈before,(λb=>decide (b<W.heap.size)) p.block=true:=λp hp=>by simpa using hlt p hp
 refine⟨ds,gs,before,[],pa,pv,hW,hres _ _ _,hargs _ hold,hvars _ hold,World.keptBut_mono (λp hp=>⟨hp,?_⟩) (hb.frame (·∈before)),λ_=>?_⟩
 ·rw[hps,List.mem_append]at hp
  exact Or.inr hp
 ·obtain⟨_,_,_,_,_,hz,hn⟩:=hW
  refine⟨hok,_,_,([]++pa)++pv,⟨[]++pa,pv,trodAll_append (hargs _ (λ_ _=>rfl)) (hres _ _ _),hvars _ (λ_ _=>rfl),rfl,?_,?_⟩,?_⟩
  ·intro b off hp
   have hin:MemPlace.cell b off∈before:=by rw[hps];simpa using hp
   rw[hb.frozen (hlt _ hin)]
   exact hz b off hin
  ·intro ha
   have:=hn ha
   rw[hps]at this
   simpa using this
  ·intro p hp _
   rw[hps]
   simpa using hp
theorem Zag0 (hl:laidOutB P=true){W W':World}(hb:Below W.heap.size W W')(sp:Nat->Bool)(ts:List TypeId):∀(vs:List Value)(ds:List (DataW H))(ps:List MemPlace),(∀t∈ts,P.readableRec t=true/\t<P.types.size) ->
  DataW.TrodAll enc P W 0 (λ_=>true) true ts vs ds ps->(∀x∈ps,x.block<W.heap.size)->(∀x∈ps,sp x.block=true)->DataW.TrodAll enc P W' 0 sp true ts vs ds ps:=by
 induction ts with
 | nil =>
  intro vs ds ps _ h _ _
  obtain⟨rfl,rfl,rfl⟩:=trodAll_nil h
  exact trodAll_mk0
 | cons t ts ih =>
  intro vs ds ps hts h hlt hsp
  obtain⟨v0,vs0,d0,ds0,p0,q0,rfl,rfl,rfl,h0,r0⟩:=trodAll_cons h
  obtain⟨hr,hrow⟩:=hts t (by simp)
  exact trodAll_cons_mk (WideElems.Trod_stays hl hr hrow h0 (λx hx=>hb.same (hlt x (by simp[hx]))) (λx hx=>hsp x (by simp[hx])))
   (ih _ _ _ (λt ht=>hts t (by simp[ht])) r0 (λx hx=>hlt x (by simp[hx])) (λx hx=>hsp x (by simp[hx])))
theorem Zarf (hl:laidOutB P=true){f:Func}{s:ChangeSpec}{T:TypeId}{W W':World}{args:Array Value}{ds:List (DataW H)}{before:List MemPlace}
  (hvars:s.vars=[]) (hrt:f.resultTypes=#[T]) (hT:P.underlying T=some .bool) (hts:f.params.toList.all (λt=>P.readableRec t&&decide (t<P.types.size))=true)
  (hW:DataW.Whole enc P f.params.toList s.vars false W args.toList ds [] before) (hA:DataW.TrodAll enc P W 0 (λ_=>true) true f.params.toList args.toList ds before)
  (e1:(s.fn H (ds++[])).results=[.lit (.bool true)]) (e2:(s.fn H (ds++[])).args=ds) (e3:(s.fn H (ds++[])).vars=[]) (hb:Below W.heap.size W W') :
  s.post enc P f false true false false W args (.bool true) W':=by
 have hlt:∀x∈before,x.block<W.heap.size:=λx hx=>hW.lt x hx
 refine Zad0 (pa:=before) (pv:=[]) hW ?_ ?_ ?_ (by simp) hb ?_
 ·intro b sp hd
  rw[e1,hrt]
  exact trodAll_cons_mk (shut_bool hT true) trodAll_mk0
 ·intro sp hsp
  rw[e2]
  exact Zag0 hl hb sp _ _ _ _ (λt ht=>by simpa using List.all_eq_true.1 hts t ht) hA hlt hsp
 ·intro sp hsp
  rw[e3,hvars]
  rfl
 ·exact ok_one hrt rfl (okWide_bool_mk hT true)
end
end Go.Proofs.YtpfnmpdcneejbaaGreatDoor
namespace Go.Proofs.YtpfnmpdcneejbaaGreatDoor.Am
open Go.RowKit Go.ChangeShapes Go.WideShapes Go.Deep Go.Joins
section
variable {H : Type} {enc : TypeId × Value -> H} {w : World} {base : Nat} {spare : Nat -> Bool} {held : Bool}
theorem Zxa {P:Program}{t:TypeId}{α β:Type}{en:α->List AV}{en2:β->List AV}{R:α->Prop}{R2:β->Prop}(f:α->β)(h:Zse enc P w base spare held t en R)(he:∀a,en2 (f a)=en a)(hR:∀a,R a->R2 (f a)):Zse enc P w base spare held t en2 R2:=by
 intro fuel cs x hx hs
 obtain⟨a,ha,hc⟩:=h fuel cs x hx hs
 exact⟨f a,hR a ha,by rw[he];exact hc⟩
theorem Zamb {P:Program}{t:TypeId}(ht:P.underlying t=some .string):Zse enc P w base spare held t (λs:ByteArray=>[.c (.string s)]) (λs=>s.size<=140737488355328):=by
 intro fuel cs x h hsz
 obtain⟨s,rfl,rfl,-⟩:=DataW.trod_string ht h
 refine⟨s,?_,Zs7 (.c _) rfl (.c _)⟩
 have h1:s.data.toList.length<=140737488355328:=Nat.le_trans (hsz s.data.toList.length (mI_.2 rfl)) (by decide)
 rw[Array.length_toList]at h1
 exact h1
abbrev I64F (p:Zaa):Prop:=(Lit.int .i64 p.1).wf=true/\(Lit.int .i64 p.2).wf=true
abbrev FactsR (l:List Zaa):Prop:=l.length*16<=140737488355328/\∀p∈l,I64F p
abbrev EffR (e:Zaq):Prop:=FactsR e.When
abbrev OpR (o:GOp):Prop:=o.Name.size<=140737488355328/\FactsR o.Pre/\o.Effs.length*40<=140737488355328/\∀e∈o.Effs,EffR e
abbrev Zale (l:List Int):Prop:=l.length*8<=140737488355328/\∀z∈l,(Lit.int .i64 z).wf=true
abbrev TaskR (t:Zah):Prop:=Zale t.Vars/\Zale t.Init/\FactsR t.Goal/\t.Ops.length*72<=140737488355328/\∀o∈t.Ops,OpR o
set_option maxRecDepth 100000 in
theorem Zay1 : Zse enc Tryz.prog w base spare held 53 cF I64F :=
 Zon Tryz.underlying53 (Zic (off':=1) rfl (by kernel_rfl) (Zp9 Tryz.underlying3) (Zq5 rfl (by kernel_rfl) (Zp9 Tryz.underlying3)))
set_option maxRecDepth 100000 in
theorem Zaot : Zse enc Tryz.prog w base spare held 23 (λl:List Zaa=>[.sl 2 (l.map cF)]) FactsR :=
 Zq6 Tryz.underlying23 (by kernel_rfl) (by kernel_rfl) (by decide) (by decide) Zay1
set_option maxRecDepth 100000 in
theorem Zauu : Zse enc Tryz.prog w base spare held 22 (λl:List Int=>[.sl 1 (l.map cI)]) Zale :=
 Zq6 Tryz.underlying22 (by kernel_rfl) (by kernel_rfl) (by decide) (by decide) (Zp9 Tryz.underlying3)
set_option maxRecDepth 100000 in
theorem oEff : Zse enc Tryz.prog w base spare held 51 Zag EffR :=
 Zxa (λp:List Zaa×(Int×Int)=>{ When:=p.1,Var:=p.2.1,Val:=p.2.2:Zaq })
  (Zon Tryz.underlying51 (Zic (off':=1) (en:=λl:List Zaa=>[AV.sl 2 (l.map cF)]) (R:=FactsR) (en':=λz:Int×Int=>[AV.c (.int .i64 z.1)]++[AV.c (.int .i64 z.2)]) (R':=λz:Int×Int=>(Lit.int .i64 z.1).wf=true/\(Lit.int .i64 z.2).wf=true) rfl (by kernel_rfl) Zaot
   (Zic (off':=2) (en:=λz:Int=>[AV.c (.int .i64 z)]) (R:=λz:Int=>(Lit.int .i64 z).wf=true) (en':=λz:Int=>[AV.c (.int .i64 z)]) (R':=λz:Int=>(Lit.int .i64 z).wf=true) rfl (by kernel_rfl) (Zp9 Tryz.underlying3) (Zq5 rfl (by kernel_rfl) (Zp9 Tryz.underlying3)))))
  (λ_=>rfl) (λ_ h=>h.1)
set_option maxRecDepth 100000 in
theorem oOp : Zse enc Tryz.prog w base spare held 49 Za0 OpR :=
 Zxa (λp:ByteArray×(Int×(List Zaa×List Zaq))=>{ Name:=p.1,Cost:=p.2.1,Pre:=p.2.2.1,Effs:=p.2.2.2:GOp })
  (Zon Tryz.underlying49 (Zic (off':=1) (en:=λs:ByteArray=>[AV.c (.string s)]) (R:=λs=>s.size<=140737488355328) (en':=λp:Int×(List Zaa×List Zaq)=>[AV.c (.int .i64 p.1)]++([AV.sl 2 (p.2.1.map cF)]++[AV.sl 3 (p.2.2.map Zag)])) (R':=λp:Int×(List Zaa×List Zaq)=>(Lit.int .i64 p.1).wf=true/\(FactsR p.2.1/\(p.2.2.length*40<=140737488355328/\∀e∈p.2.2,EffR e))) rfl (by kernel_rfl) (Zamb Tryz.underlying9)
   (Zic (off':=2) (en:=λz:Int=>[AV.c (.int .i64 z)]) (R:=λz:Int=>(Lit.int .i64 z).wf=true) (en':=λp:List Zaa×List Zaq=>[AV.sl 2 (p.1.map cF)]++[AV.sl 3 (p.2.map Zag)]) (R':=λp:List Zaa×List Zaq=>FactsR p.1/\(p.2.length*40<=140737488355328/\∀e∈p.2,EffR e)) rfl (by kernel_rfl) (Zp9 Tryz.underlying3)
    (Zic (off':=3) (en:=λl:List Zaa=>[AV.sl 2 (l.map cF)]) (R:=FactsR) (en':=λl:List Zaq=>[AV.sl 3 (l.map Zag)]) (R':=λl:List Zaq=>l.length*40<=140737488355328/\∀e∈l,EffR e) rfl (by kernel_rfl) Zaot
     (Zq5 rfl (by kernel_rfl) (Zq6 Tryz.underlying47 (by kernel_rfl) (by kernel_rfl) (by decide) (by decide) oEff))))))
  (λ_=>rfl) (λ_ h=>⟨h.1,h.2.2.1,h.2.2.2⟩)
set_option maxRecDepth 100000 in
theorem Zay2 : Zse enc Tryz.prog w base spare held 26 Ziy TaskR :=
 Zxa (λp:List Int×(List Int×(List Zaa×List GOp))=>{ Vars:=p.1,Init:=p.2.1,Goal:=p.2.2.1,Ops:=p.2.2.2:Zah })
  (Zon Tryz.underlying26 (Zic (off':=1) (en:=λl:List Int=>[AV.sl 1 (l.map cI)]) (R:=Zale) (en':=λp:List Int×(List Zaa×List GOp)=>[AV.sl 1 (p.1.map cI)]++([AV.sl 2 (p.2.1.map cF)]++[AV.sl 4 (p.2.2.map Za0)])) (R':=λp:List Int×(List Zaa×List GOp)=>Zale p.1/\(FactsR p.2.1/\(p.2.2.length*72<=140737488355328/\∀o∈p.2.2,OpR o))) rfl (by kernel_rfl) Zauu
   (Zic (off':=2) (en:=λl:List Int=>[AV.sl 1 (l.map cI)]) (R:=Zale) (en':=λp:List Zaa×List GOp=>[AV.sl 2 (p.1.map cF)]++[AV.sl 4 (p.2.map Za0)]) (R':=λp:List Zaa×List GOp=>FactsR p.1/\(p.2.length*72<=140737488355328/\∀o∈p.2,OpR o)) rfl (by kernel_rfl) Zauu
    (Zic (off':=3) (en:=λl:List Zaa=>[AV.sl 2 (l.map cF)]) (R:=FactsR) (en':=λl:List GOp=>[AV.sl 4 (l.map Za0)]) (R':=λl:List GOp=>l.length*72<=140737488355328/\∀o∈l,OpR o) rfl (by kernel_rfl) Zaot
     (Zq5 rfl (by kernel_rfl) (Zq6 Tryz.underlying24 (by kernel_rfl) (by kernel_rfl) (by decide) (by decide) oOp))))))
  (λ_=>rfl) (λ_ h=>h)
theorem Zalh {P:Program}{t:TypeId}{fs:Array Field}{α:Type}{en:α->List AV}{R:α->Prop}{r:Reach}{b0:Nat}{v:Value}{d:DataW H}{p:List MemPlace}(ht:P.underlying t=some (.struct fs))(hv:Value.okWide P w r b0 t v)(ho:Zse enc P w base spare held t en R)(h:DataW.Trod enc P w base spare held t v d p)(hs:Zabh P t d) :
  ∃a,R a/\RV w nov mZ (.agg (en a)) v:=by
 obtain⟨cs,rfl,hsz⟩:=okWide_struct ht hv
 obtain⟨fuel,hf⟩:=h
 obtain⟨a,ha,hc⟩:=ho fuel _ _ hf hs
 exact⟨a,ha,Zavt hc⟩
theorem Zatr {P:Program}{t:TypeId}{α:Type}{y:α->AV}{R:α->Prop}{v:Value}{d:DataW H}{p:List MemPlace}(hv:v.cells=#[v])(ho:Zse enc P w base spare held t (λa=>[y a]) R)(h:DataW.Trod enc P w base spare held t v d p)(hs:Zabh P t d) :
  ∃a,R a/\RV w nov mZ (y a) v:=by
 obtain⟨fuel,hf⟩:=h
 rw[hv]at hf
 obtain⟨a,ha,hc⟩:=ho fuel _ _ hf hs
 exact⟨a,ha,Zawo hc⟩
end
theorem TaskR.sh {t:Zah}(h:TaskR t):ShT t:=by
 obtain⟨⟨h1,-⟩,⟨h2,-⟩,⟨h3,-⟩,h4,h5⟩:=h
 refine⟨?_,?_,?_,?_,λo ho=>?_⟩
 ·show _<=_;omega
 ·show _<=_;omega
 ·show _<=_;omega
 ·show _<=_;omega
 ·obtain⟨g1,⟨g2,-⟩,g3,g4⟩:=h5 o ho
  refine⟨by omega,?_,?_,λe he=>?_⟩
  ·show _<=_;omega
  ·show _<=_;omega
  ·have:=(g4 e he).1
   show _<=_;omega
theorem FactsR.sh {l:List Zaa}(h:FactsR l):Sh l:=by have:=h.1;show _<=_;omega
end Go.Proofs.YtpfnmpdcneejbaaGreatDoor.Am
namespace Go.Proofs.YtpfnmpdcneejbaaGreatDoor
open Go.ChangeShapes Go.WideShapes Go.ChangeAt Go.RowKit
theorem own : ownKnob Tryz.prog.godebug=none:=by kernel_rfl
theorem Zauj : laidOutB Tryz.prog=true:=by kernel_rfl
def Zay9 : Array Value:=#[.int .u8 0,.int .u8 1,.int .u8 28,.int .u8 2,.int .u8 29,.int .u8 14,.int .u8 24,.int .u8 3,.int .u8 30,.int .u8 22,.int .u8 20,.int .u8 15,.int .u8 25,.int .u8 17,.int .u8 4,.int .u8 8,.int .u8 31,.int .u8 27,.int .u8 13,.int .u8 23,.int .u8 21,.int .u8 19,.int .u8 16,.int .u8 7,.int .u8 26,.int .u8 12,.int .u8 18,.int .u8 6,.int .u8 11,.int .u8 5,.int .u8 10,.int .u8 9]
def Zaza : Array Value:=#[.int .u8 0,.int .u8 1,.int .u8 56,.int .u8 2,.int .u8 57,.int .u8 49,.int .u8 28,.int .u8 3,.int .u8 61,.int .u8 58,.int .u8 42,.int .u8 50,.int .u8 38,.int .u8 29,.int .u8 17,.int .u8 4,.int .u8 62,.int .u8 47,.int .u8 59,.int .u8 36,.int .u8 45,.int .u8 43,.int .u8 51,.int .u8 22,.int .u8 53,.int .u8 39,.int .u8 33,.int .u8 30,.int .u8 24,.int .u8 18,.int .u8 12,.int .u8 5,.int .u8 63,.int .u8 55,.int .u8 48,.int .u8 27,.int .u8 60,.int .u8 41,.int .u8 37,.int .u8 16,.int .u8 46,.int .u8 35,.int .u8 44,.int .u8 21,.int .u8 52,.int .u8 32,.int .u8 23,.int .u8 11,.int .u8 54,.int .u8 26,.int .u8 40,.int .u8 15,.int .u8 34,.int .u8 20,.int .u8 31,.int .u8 10,.int .u8 25,.int .u8 14,.int .u8 19,.int .u8 9,.int .u8 13,.int .u8 8,.int .u8 7,.int .u8 6]
def Zaw7 : Array Value:=#[.int .u64 1,.int .u64 10,.int .u64 100,.int .u64 1000,.int .u64 10000,.int .u64 100000,.int .u64 1000000,.int .u64 10000000,.int .u64 100000000,.int .u64 1000000000,.int .u64 10000000000,.int .u64 100000000000,.int .u64 1000000000000,.int .u64 10000000000000,.int .u64 100000000000000,.int .u64 1000000000000000,.int .u64 10000000000000000,.int .u64 100000000000000000,.int .u64 1000000000000000000,.int .u64 10000000000000000000]
def putCells (cs:Array Value):Obj->Obj
 | .cells _ t frozen=>.cells cs t frozen
 | o=>o
noncomputable def Zaaf (os:Os):World :=
 { World.holding Tryz.prog os ⟨#[],#[],[]⟩with heap:=(((World.holding Tryz.prog os ⟨#[],#[],[]⟩).heap.modify 0 (putCells Zaw7)).modify 1 (putCells Zay9)).modify 2 (putCells Zaza) }
end Go.Proofs.YtpfnmpdcneejbaaGreatDoor
namespace Go.Proofs.YtpfnmpdcneejbaaGreatDoor.rowDatabase
open Go.ChangeShapes Go.WideShapes Go.ChangeAt Go.RowKit Am
theorem table {W:World}(h:laidMetH Tryz.prog Rows.wholeDatabaseRow.laid W):Zaeq W:=by
 obtain⟨ps,⟨_,_,_,_,_,_,_,_,_,_,⟨_,_,_,_,_,_,_,_,_,_,hr,_⟩,_⟩,_⟩:=h
 obtain⟨g',t',cs,fuel,p,q,hg',ht',hvar,hd,_,_⟩:=hr
 obtain rfl:=sI_ (gPow.symm.trans hg')
 obtain rfl:=sI_ ((show(Tryz.prog.globals[0]?).map (·.type)=some 231 by kernel_rfl).symm.trans ht')
 unfold Zaeq Lib.TabIs
 rw[hvar,<-Lib.cells_of_tab (zs:=Lib.pow10Tab) Tryz.underlying231 Tryz.underlying199 (by kernel_rfl) (by kernel_rfl) hd]
set_option maxRecDepth 100000 in
theorem contract (H:Type)(enc:TypeId×Value->H)(W:World)(base:Nat)(args:Array Value)(ds gs:List (DataW H))(before:List MemPlace)
  (hval:∀(j:Nat) t v,Tryz.f3.params[j]?=some t->args[j]?=some v->Value.okWide Tryz.prog W .any base t v)
  (hW:DataW.Whole enc Tryz.prog Tryz.f3.params.toList Rows.wholeDatabaseSpec.vars false W args.toList ds gs before) (hL:laidMetH Tryz.prog Rows.wholeDatabaseRow.laid W)
  (hsz:(DataW.weightsEach Tryz.prog (Tryz.f3.params.toList++(OpenSpec.ofChange Rows.wholeDatabaseSpec).bare.plain.varTypes Tryz.prog) (ds++gs)).all (·<=reachBytes)=true) :
  Calls Tryz.prog 3 args W λe W'=>∃v,e=.returned v/\Rows.wholeDatabaseSpec.post enc Tryz.prog Tryz.f3 false true false false W args v W':=by
 have hW':=hW
 obtain⟨p,q,hA0,hV,rfl,hfz,hnd⟩:=hW
 have hA:DataW.TrodAll enc Tryz.prog W 0 (λ_=>true) true Tryz.f3.params.toList args.toList ds p:=hA0
 rw[Tryz.params3]at hA hval
 obtain⟨v0,vs0,d0,ds0,p0,q0,hargs,rfl,rfl,h0,r0⟩:=trodAll_cons hA
 obtain⟨v1,vs1,d1,ds1,p1,q1,rfl,rfl,rfl,h1,r1⟩:=trodAll_cons r0
 obtain⟨rfl,rfl,rfl⟩:=trodAll_nil r1
 obtain rfl:args=#[v0,v1]:=Array.ext' hargs
 obtain⟨rfl,rfl⟩:=trodVars_none hV
 simp only[List.append_nil]at hW' hA0 hsz
 rw[Tryz.params3]at hsz
 obtain⟨t,ht,k0⟩:=Zalh Tryz.underlying26 (hval 0 26 v0 rfl rfl) Zay2 h0 (Zags hsz (j:=0) rfl rfl)
 obtain⟨a1,len1,cap1,rfl⟩:=okWide_slice Tryz.underlying22 (hval 1 22 v1 rfl rfl)
 obtain⟨x,hx0,k1⟩:=Zatr rfl Zauu h1 (Zags hsz (j:=1) rfl rfl)
 refine(Zawg (Zm8 1000000000000000000 t x (Zamw t ht.sh x)) ⟨table hL,trivial⟩ rfl (λj x v hx hv=>?_)).mono λe W' ⟨he,hb⟩=>?_
 ·match j,hx,hv with
  | 0,hx,hv=>simp at hx hv;subst hx hv;exact k0
  | 1,hx,hv=>simp at hx hv;subst hx hv;exact k1
  | j+2,hx,hv=>simp at hx
 ·subst he
  exact⟨_,rfl,Zarf Zauj rfl (by kernel_rfl) Tryz.underlying4 (by kernel_rfl) hW' hA0 rfl rfl rfl hb⟩
theorem laid_met (os:Os):laidMet Tryz.prog Rows.wholeDatabaseRow.laid ((Zaaf os).forCall (λ_ _=>0) ⟨#[],#[.agg #[.slice none 0 0,.slice none 0 0,.slice none 0 0,.slice none 0 0],.slice none 0 0],[]⟩).memory :=
 laidMet_of_run' 8 (by kernel_rfl) (by kernel_rfl)
theorem reads (os:Os){H:Type}(enc:TypeId×Value->H):∃places,DataW.whole enc Tryz.prog ((Zaaf os).forCall (λ_ _=>0) ⟨#[],#[.agg #[.slice none 0 0,.slice none 0 0,.slice none 0 0,.slice none 0 0],.slice none 0 0],[]⟩).memory Tryz.f3.params.toList Rows.wholeDatabaseSpec.vars false (#[.agg #[.slice none 0 0,.slice none 0 0,.slice none 0 0,.slice none 0 0],.slice none 0 0]:Array Value).toList 8=some ([.agg [.nil,.nil,.nil,.nil],.nil],[],places) :=
 ⟨[],by kernel_rfl⟩
set_option maxRecDepth 100000 in
theorem lifted (os:Os)(started:os.Started)(H:Type)(enc:TypeId×Value->H)(F:Stop.Interp) :
  ReturnsInHanded {} Tryz.checked os 3 .any ((OpenSpec.ofChange Rows.wholeDatabaseSpec).preRow enc Tryz.prog Tryz.f3 Rows.wholeDatabaseRow.domain false Rows.wholeDatabaseRow.laid) (((OpenSpec.ofChange Rows.wholeDatabaseSpec).at F).post enc Tryz.prog Tryz.f3 false true false false):=by
 obtain⟨places,hx⟩:=reads os enc
 refine returnsInHanded_of_row (C:=Tryz.checked) (s:=OpenSpec.ofChange Rows.wholeDatabaseSpec) own started (by kernel_rfl) Tryz.func3
  (witness_row_at (enc:=enc) (C:=Tryz.checked) false (Zaaf os) #[.agg #[.slice none 0 0,.slice none 0 0,.slice none 0 0,.slice none 0 0],.slice none 0 0] rfl (by kernel_rfl) (by kernel_rfl) (by kernel_rfl)
   (OpenSpec.preRow_of_cond 8 hx (by kernel_rfl) (λk hk=>by cases hk) (by kernel_rfl) (laid_met os))) ?_
 intro W base args ds gs before hval hW _ _ hsz hL _ _
 exact contract H enc W base args ds gs before hval hW hL hsz
theorem said : Rows.WholeDatabaseSaid :=
 OpenClaim.holds_of_cond 3 Tryz.f3 rfl rfl rfl rfl rfl rfl rfl ⟨rfl,rfl,rfl,rfl,rfl⟩ rfl rfl rfl rfl rfl (by kernel_rfl) Tryz.func3 (by kernel_rfl)
  (of_decide_eq_true (by kernel_rfl)) (by unfold Func.isWrapper;first|(rw[if_pos (by decide +kernel)];kernel_rfl)|(rw[if_neg (by decide +kernel)];exact⟨rfl,rfl⟩))
  (λos started H enc _ F=>by rw[OpenClaim.pre_eq_preRow];exact lifted os started H enc F)
theorem plain (f:FuncId)(fn:Func)(hf:Tryz.pinned.checked.prog.funcNamed Rows.wholeDatabaseRow.func=some f)(hfn:Tryz.pinned.checked.prog.funcs[f]?=some fn) :
  true=Tryz.pinned.checked.prog.looks []/\∀(j:Nat) t,fn.params[j]?=some t->Tryz.pinned.checked.prog.wantsStandIn t=false:=by
 obtain rfl:f=3:=sI_ ((show Tryz.prog.funcNamed Rows.wholeDatabaseRow.func=some 3 by kernel_rfl).symm.trans hf) |>.symm
 obtain rfl:fn=Tryz.f3:=(sI_ (Tryz.func3.symm.trans hfn)).symm
 refine⟨by kernel_rfl,λj t ht=>?_⟩
 have hall:Tryz.f3.params.toList.all (λt=>!Tryz.prog.wantsStandIn t)=true:=by kernel_rfl
 have:=List.all_eq_true.1 hall t (by simpa using Array.mem_of_getElem? ht)
 have h2:Tryz.prog.wantsStandIn t=false:=by simpa using this
 exact h2
theorem card : Rows.WholeDatabaseCardSaid :=
 Claim7.holds_tied_plain_at .later [] _ _ _ _ said (λ_ h=>by cases h) (by kernel_rfl) (λ_ h=>by cases h) wholeDatabase_row_tie rfl ⟨rfl,rfl⟩ (by kernel_rfl) rfl plain (by kernel_rfl)
end Go.Proofs.YtpfnmpdcneejbaaGreatDoor.rowDatabase
