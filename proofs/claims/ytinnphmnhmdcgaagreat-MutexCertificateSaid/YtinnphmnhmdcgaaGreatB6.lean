/- Texts of the proof, part 6 of 8. -/
import Derived.Test.YtinnphmnhmdcgaaGreatB5
import Derived.Test.YtinnphmnhmdcgaaGreatB1
import Derived.Test.YtinnphmnhmdcgaaGreatB2
import Derived.Maps.Keyed
import Derived.WideKeyRuns
import Derived.Test.YtinnphmnhmdcgaaGreatB4
import Derived.Test.YtinnphmnhmdcgaaGreatB3
set_option linter.unusedVariables false
set_option linter.unusedSectionVars false
open List renaming getElem?_eq_getElem→gE_, length_map→lM_, length_append→lA_, mem_cons_of_mem→mC_, length_cons→lC_, mem_cons_self→mS_, mem_of_getElem?→mG_, getElem?_eq_some_iff→gS_, getD_eq_getElem?_getD→gD_, length_nil→lN_, mem_singleton→mI_, take_of_length_le→tL_
open Option.some renaming inj→sI_
open Bool renaming and_eq_true→bA_
open Option renaming bind_some→oB_
open Array renaming getElem?_eq_getElem→aE_
namespace Go.Proofs.YtinnphmnhmdcgaaGreat.Am
open Go.RowKit
theorem bT2 {n m:Nat}(h:Nat.ble n m=true):n≤m:=Nat.le_of_ble_eq_true h
noncomputable def cxS (T:Tab):Cx:={ cx with Pw:=fun _ X=>∀ b∈T.map (·.1),X.X b }
def cT (z:GTable)(lo:Nat)(T:Tab):List AV:=[.sl 1 (z.t.Vars.map cI),.sl 1 (z.t.Init.map cI),.sl 2 (z.t.Goal.map cF),.sl 4 (z.t.Ops.map cGOp),.sl 1 (z.first.map cI),.sl 1 (rwT lo 4 T)]
theorem cv_z {z:GTable}{lo:Nat}{T:Tab}(h:z.reached=T.map (·.2)):Cv (.pim (cT z lo T) 0) (.pim [.sl 1 (z.t.Vars.map cI),.sl 1 (z.t.Init.map cI),.sl 2 (z.t.Goal.map cF),.sl 4 (z.t.Ops.map cGOp),.sl 1 (z.first.map cI),.sl 1 (z.reached.map cL_cB)] 0):=by
 rw[h]
 exact cv_pimL (.cons cv_refl (.cons cv_refl (.cons cv_refl (.cons cv_refl (.cons cv_refl (.cons cv_tab .nil))))))
section
variable {ch : Chg}
theorem ub_map {α:Type}{sz:Nat}{f:α→List AV}{l:List α}(hs:0<sz)(hf:∀ x,∀ y∈f x,UB ch y y)(hfr:FrL (l.map f)):UB ch (.sl sz (l.map f)) (.sl sz (l.map f)):=by
 refine .sl hs rfl (fun k e e' h1 h2=>by rw[h1]at h2;injection h2 with h2;rw[h2]) (fun k e e' h1 h2 j x x' g1 g2=>?_) hfr
 rw[h1]at h2
 injection h2 with h2
 subst h2
 rw[g1]at g2
 injection g2 with g2
 subst g2
 obtain⟨y,_,rfl⟩:=get_map h1
 exact hf y x (mG_ g1)
theorem ub_i {k:IntKind}{z:Int}:UB ch (.c (.int k z)) (.c (.int k z)):=.c (fun q e=>by cases e)
theorem ub_s {s:ByteArray}:UB ch (.c (.string s)) (.c (.string s)):=.c (fun q e=>by cases e)
theorem ub_cI (l:List Int):UB ch (.sl 1 (l.map cI)) (.sl 1 (l.map cI)):=ub_map (by decide) (fun x y hy=>by
 simp[cI]at hy;subst hy;exact ub_i) FrI.h
theorem ub_cF (l:List Fact):UB ch (.sl 2 (l.map cF)) (.sl 2 (l.map cF)):=ub_map (by decide) (fun x y hy=>by
 simp[cF]at hy;rcases hy with rfl|rfl <;> exact ub_i) FrI.h
theorem ub_cE (l:List GEffect):UB ch (.sl 3 (l.map cGEffect)) (.sl 3 (l.map cGEffect)):=ub_map (by decide) (fun x y hy=>by
 simp only[cGEffect,List.mem_cons,List.not_mem_nil,or_false]at hy
 rcases hy with rfl|rfl|rfl
 ·exact ub_cF _
 ·exact ub_i
 ·exact ub_i) FrI.h
theorem ub_cO (l:List GOp):UB ch (.sl 4 (l.map cGOp)) (.sl 4 (l.map cGOp)):=ub_map (by decide) (fun x y hy=>by
 simp only[cGOp,List.mem_cons,List.not_mem_nil,or_false]at hy
 rcases hy with rfl|rfl|rfl|rfl
 ·exact ub_s
 ·exact ub_i
 ·exact ub_cF _
 ·exact ub_cE _) FrI.h
theorem ub_z {z:GTable}{lo:Nat}{T:Tab}{i j b:Nat}{r:List Bool}(hn:(T.map (·.1)).Nodup)(hi:T[i]?=some (b,r)):UB [(b,r,r.set j true)] (.pim (cT z lo T) 0) (.pim (cT z lo (setT T i j)) 0):=by
 refine .pim (by simp[cT]) rfl (fun k x x' h1 h2=>?_)
 match k,h1,h2 with
 | 0,h1,h2=>simp[cT]at h1 h2;subst h1 h2;exact ub_cI _
 | 1,h1,h2=>simp[cT]at h1 h2;subst h1 h2;exact ub_cI _
 | 2,h1,h2=>simp[cT]at h1 h2;subst h1 h2;exact ub_cF _
 | 3,h1,h2=>simp[cT]at h1 h2;subst h1 h2;exact ub_cO _
 | 4,h1,h2=>simp[cT]at h1 h2;subst h1 h2;exact ub_cI _
 | 5,h1,h2=>simp[cT]at h1 h2;subst h1 h2;exact ub_tab hn hi
 | k+6,h1,_=>simp[cT]at h1
def nbB : AV→Bool
 | .c (.bool _)=>true
 | .c _=>true
 | _=>false
def allC (hp:List Ent):Bool:=hp.all fun e=>match e.blk with
 | none=>true
 | some B=>B.els.all fun c=>c.all nbB
theorem allC_us {hp:List Ent}(h:allC hp=true):∀ i B,(hpF hp i).blk=some B→∀ e∈B.els,∀ x∈e,US ch x x:=by
 intro i B hB e he x hx
 unfold allC at h
 rw[List.all_eq_true]at h
 rcases Nat.lt_or_ge i hp.length with hlt|hge
 ·have h1:=h _ (List.getElem_mem hlt)
  have h2:hpF hp i=hp[i]:=by
   show hp.getD i _=_
   rw[gD_,gE_ hlt]
   rfl
  rw[← h2,hB]at h1
  simp only[List.all_eq_true]at h1
  have h3:=h1 e he x hx
  cases x <;> first|exact .c|(simp[nbB]at h3)
 ·have h2:hpF hp i=⟨0,none⟩:=by
   show hp.getD i _=_
   rw[gD_,List.getElem?_eq_none hge]
   rfl
  rw[h2]at hB
  cases hB
theorem tmF_dead {k t:Nat}:tmF (List.replicate k AV.dead) t=.dead:=by
 show(List.replicate k AV.dead).getD t .dead=_
 rw[gD_,List.getElem?_replicate]
 split <;> rfl
end
theorem rwT_at {lo ty k b:Nat}{r:List Bool}{T:Tab}(h:T[k]?=some (b,r)):(rwT lo ty T)[k]?=some [.rowb lo ty b r]:=by
 unfold rwT
 rw[List.getElem?_map,h]
 rfl
theorem setT_at {T:Tab}{k:Nat}(h:k<T.length):∃ b r,T[k]?=some (b,r):=⟨_,_,gE_ h⟩
theorem setT_row {T:Tab}{i j m:Nat}(h:∀ (k:Nat)(q:Nat×List Bool),T[k]?=some q→q.2.length=m):∀ (k:Nat)(q:Nat×List Bool),(setT T i j)[k]?=some q→q.2.length=m:=by
 intro k q hq
 unfold setT at hq
 split at hq
 ·rename_i b r hi
  rw[List.getElem?_set]at hq
  split at hq
  ·rename_i e
   subst e
   split at hq
   ·injection hq with hq
    subst hq
    have:=h _ _ hi
    simpa using this
   ·cases hq
  ·exact h k q hq
 ·exact h k q hq
def τT (z:GTable)(lo:Nat)(T:Tab):Nat→AV:=tmF (.pim (cT z lo T) 0 :: List.replicate 31 .dead)
theorem us_T {ch:Chg}{z:GTable}{lo:Nat}{T:Tab}{τ:Nat→AV}(h:UB ch (τ 0) (.pim (cT z lo T) 0)):∀ t,US ch (τ t) (τT z lo T t)
 | 0=>.ub h
 | t+1=>by
  have:τT z lo T (t+1)=.dead:=tmF_dead (k:=31) (t:=t)
  rw[this]
  exact .dead
theorem set_tail {z:GTable}{lo:Nat}{T:Tab}{ops:Array Oper}{Q:Exit→Act→World→Prop}{tm:List AV}{hp:List Ent}{w0:World}{X:XX}{mm:MM}{a:Act}{w:World}{b1 b2 m:Nat}{r1 r2:List Bool}{ia ib:Int}{o1 o2 o3 o4:Oper}
  (h1:ops[24]?=some o1) (p1:o1.op=.indexAddr 41 (.tmp 14) (.tmp 17)) (d1:o1.dst=some 30) (q1:o1.guard=none)
  (h2:ops[25]?=some o2) (p2:o2.op=.store 4 (.tmp 30) (.const (.bool true))) (d2:o2.dst=none) (q2:o2.guard=none)
  (h3:ops[26]?=some o3) (p3:o3.op=.indexAddr 41 (.tmp 26) (.tmp 29)) (d3:o3.dst=some 31) (q3:o3.guard=none)
  (h4:ops[27]?=some o4) (p4:o4.op=.store 4 (.tmp 31) (.const (.bool true))) (d4:o4.dst=none) (q4:o4.guard=none)
  (hl:tm.length=32) (e0:tmF tm 0=.pim (cT z lo T) 0) (e14:tmF tm 14=.rowb lo 4 b1 r1) (e17:tmF tm 17=.c (.int .i64 ib)) (e26:tmF tm 26=.rowb lo 4 b2 r2) (e29:tmF tm 29=.c (.int .i64 ia))
  (hall:allC hp=true) (hn:(T.map (·.1)).Nodup) (hr:∀ (k:Nat) (q:Nat×List Bool),T[k]?=some q→q.2.length=m) (t1:T[ia.toNat]?=some (b1,r1)) (t2:T[ib.toNat]?=some (b2,r2)) (g0:0≤ia) (g1:ia<m) (g2:0≤ib) (g3:ib<m) (hrep:RepS (cxS T) w0 X ⟨tm,hp⟩ mm a w)
  (hQ:∀ m' a' w',Rep (cxS T) 32 w0 X (τT z lo (setT (setT T ia.toNat ib.toNat) ib.toNat ia.toNat)) (hpF hp) m' a' w'→Q .normal a' w'):wpOps (cxS T).P ops Q [24,25,26,27] a w:=by
 have hrep:Rep (cxS T) 32 w0 X (tmF tm) (hpF hp) mm a w:=by
  unfold RepS at hrep
  rw[hl]at hrep
  exact hrep
 have l1:r1.length=m:=hr _ _ t1
 have l2:r2.length=m:=hr _ _ t2
 have x1:X b1:=hrep.pw b1 (List.mem_map.2 ⟨_,mG_ t1,rfl⟩)
 have x2:X b2:=hrep.pw b2 (List.mem_map.2 ⟨_,mG_ t2,rfl⟩)
 have hlf1:=lf_rowAt (C:=cxS T) (n:=32) (o:=o1) (τ:=tmF tm) (η:=hpF hp) p1 (by rw[d1];exact bT2 rfl) e14 e17 (tyTab_ok 41 _ rfl) rfl (tyTab_ok 4 _ rfl) rfl g2 (by omega)
 obtain⟨r3,t3,l3,hu⟩:=ub_row (lo:=lo) (ty:=4) (j:=ib.toNat) hn t1 t2
 refine wpOps_lf h1 q1 hrep hlf1 (fun m1 a1 w1 hr1=>?_)
 rw[d1]at hr1
 refine wpOps_storeB (t0:=14) (j:=ib.toNat) (τ':=fun t=>if t=0 then .pim (cT z lo (setT T ia.toNat ib.toNat)) 0 else if t=26 then .rowb lo 4 b2 r3 else if t=29 then .c (.int .i64 ia)else .dead) h2 q2 hr1 p2 d2 (by simp[evA,putA]) rfl (tyTab_ok 4 _ rfl) rfl rfl (by simp only[putA];exact e14) (by omega) (.inl x1) rfl (fun t=>?_) (allC_us hall) (fun w2 hr2=>?_)
 ·by_cases c0:t=0
  ·subst c0
   simp only[putA,if_true]
   rw[show(if 0=30 then _ else tmF tm 0:AV)=tmF tm 0 from rfl,e0]
   exact .ub (ub_z hn t1)
  ·by_cases c1:t=26
   ·subst c1
    simp only[if_neg c0,if_true]
    rw[show putA (tmF tm) (some 30) _ 26=tmF tm 26 from rfl,e26]
    exact .ub hu
   ·by_cases c2:t=29
    ·subst c2
     simp only[if_neg c0,if_neg c1,if_true]
     rw[show putA (tmF tm) (some 30) _ 29=tmF tm 29 from rfl,e29]
     exact .c
    ·simp only[if_neg c0,if_neg c1,if_neg c2]
     exact .dead
 have hn1:((setT T ia.toNat ib.toNat).map (·.1)).Nodup:=by rw[setT_fst];exact hn
 have hlf3:=lf_rowAt (C:=cxS T) (n:=32) (o:=o3) (τ:=fun t=>if t=0 then .pim (cT z lo (setT T ia.toNat ib.toNat)) 0 else if t=26 then .rowb lo 4 b2 r3 else if t=29 then .c (.int .i64 ia)else .dead) (η:=hpF hp) p3 (by rw[d3];exact bT2 rfl) rfl rfl (tyTab_ok 41 _ rfl) rfl (tyTab_ok 4 _ rfl) rfl g0 (by omega)
 refine wpOps_lf h3 q3 hr2 hlf3 (fun m3 a3 w3 hr3=>?_)
 rw[d3]at hr3
 refine wpOps_storeB (t0:=26) (j:=ia.toNat) (τ':=τT z lo (setT (setT T ia.toNat ib.toNat) ib.toNat ia.toNat)) h4 q4 hr3 p4 d4 (by simp[evA,putA]) rfl (tyTab_ok 4 _ rfl) rfl rfl rfl (by omega) (.inl x2) rfl (us_T (by
  show UB _ (.pim (cT z lo (setT T ia.toNat ib.toNat)) 0) _
  exact ub_z hn1 t3)) (allC_us hall) (fun w4 hr4=>?_)
 exact hQ _ _ _ hr4
def M_set (z:GTable)(a b:Fact):Option (List (List Bool)):=ob1 (M_stratagem_mutex_Table_number z a) (fun ia=>ob1 (M_stratagem_mutex_Table_number z b) (fun ib=>grd (0≤ia∧ia<z.reached.length∧0≤ib∧ib<z.reached.length∧∀ r∈z.reached,r.length=z.reached.length) (some (setR (setR z.reached ia.toNat ib.toNat) ib.toNat ia.toNat))))
set_option maxHeartbeats 4000000 in
set_option maxRecDepth 100000 in
theorem A_set (z:GTable)(lo:Nat)(T:Tab)(a b:Fact){ia ib:Int}{m:Nat}(hz:z.reached=T.map (·.2))(u1:M_stratagem_mutex_Table_number z a=some ia)(u2:M_stratagem_mutex_Table_number z b=some ib)(hn:(T.map (·.1)).Nodup)(hm:T.length=m)(hr:∀ (k:Nat)(q:Nat×List Bool),T[k]?=some q→q.2.length=m)
  (g0:0≤ia) (g1:ia<m) (g2:0≤ib) (g3:ib<m):ASet (cxS T) 42 [.pim (cT z lo T) 0,.agg [.c (.int .i64 a.1),.c (.int .i64 a.2)],.agg [.c (.int .i64 b.1),.c (.int .i64 b.2)]] (chT T (setT (setT T ia.toNat ib.toNat) ib.toNat ia.toNat)):=by
 obtain⟨b1,r1,t1⟩:=setT_at (T:=T) (k:=ia.toNat) (by omega)
 obtain⟨b2,r2,t2⟩:=setT_at (T:=T) (k:=ib.toNat) (by omega)
 have A1:ACall (cxS T) 73 _ _:=A_stratagem_mutex_Table_number z a u1
 have A2:ACall (cxS T) 73 _ _:=A_stratagem_mutex_Table_number z b u2
 have hcv:∀ {η η':Nat→Ent} {x y:List AV},BWL η η' x y→BWL η η' (.pim (cT z lo T) 0 :: x) (.pim [.sl 1 (z.t.Vars.map cI),.sl 1 (z.t.Init.map cI),.sl 2 (z.t.Goal.map cF),.sl 4 (z.t.Ops.map cGOp),.sl 1 (z.first.map cI),.sl 1 (z.reached.map cL_cB)] 0 :: y):=fun h=>.cons (.cv (cv_z hz) FrV.h) h
 unfold cT at hcv ⊢
 refine aset_of Tryz.func42 rfl (by decide) rfl rfl (bT2 rfl) rfl (k:=5) (e':=cT z lo (setT (setT T ia.toNat ib.toNat) ib.toNat ia.toNat)) rfl rfl (by rw[setT_fst,setT_fst]) (fun i q q' h1 h2=>by rw[hr i q h1];exact setT_row (setT_row hr) i q' h2) (fun w O b hb=>hb) ?_
 intro _
 refine aSq ?_
 refine aRg ?_
 intro _
 refine dr ?_
 refine awp_regionS [] 24 rfl ?_
 intro _
 refine clf [] rfl rfl A1 ?_ (hb:=hcv (.cons (bw_fr2 rfl FrV.h) .nil))
 intro _
 refine Exists.intro [.rowb lo _ b1 r1] (And.intro (rwT_at t1) ?_)
 intro _
 refine clf [] rfl rfl A2 ?_ (hb:=hcv (.cons (bw_fr2 rfl FrV.h) .nil))
 intro _
 refine clf [] rfl rfl A2 ?_ (hb:=hcv (.cons (bw_fr2 rfl FrV.h) .nil))
 intro _
 refine Exists.intro [.rowb lo _ b2 r2] (And.intro (rwT_at t2) ?_)
 intro _
 refine clf [] rfl rfl A1 ?_ (hb:=hcv (.cons (bw_fr2 rfl FrV.h) .nil))
 intro _
 refine pr ?_
 refine pr ?_
 refine⟨fun _=>⟨by kernel_rfl,by kernel_rfl,by kernel_rfl⟩,?_⟩
 intro w0 X m a w hrep
 refine set_tail rfl rfl rfl rfl rfl rfl rfl rfl rfl rfl rfl rfl rfl rfl rfl rfl rfl rfl rfl rfl rfl rfl rfl hn hr t1 t2 g0 g1 g2 g3 hrep (fun m' a' w' hr'=>?_)
 exact⟨⟨.pim (cT z lo (setT (setT T ia.toNat ib.toNat) ib.toNat ia.toNat)) 0 :: List.replicate 31 .dead,_⟩,m',rfl,⟨.inl rfl,rfl⟩,hr'⟩
def okF (t:GTask)(R:List (List Bool))(p:List Fact):Bool:=p.all fun a=>p.all fun b=>isF t R a b
theorem okF_iff {t:GTask}{R:List (List Bool)}{p:List Fact}:okF t R p=true↔∀ a∈p,∀ b∈p,isF t R a b=true:=by simp[okF]
def prefF (t:GTask)(R:List (List Bool))(p:List Fact):List Fact→Nat→Bool
 | [],_=>true
 | a :: r,n=>(p.take (n+1)).all (isF t R a)&&prefF t R p r (n+1)
theorem prefF_iff {t:GTask}{R:List (List Bool)}{p:List Fact}:∀ (r:List Fact)(n:Nat),p.drop n=r→(prefF t R p r n=true↔∀ i,n≤i→∀ a,p[i]?=some a→∀ b∈p.take (i+1),isF t R a b=true)
 | [],n,hd=>by
  rw[prefF]
  refine⟨fun _ i hi a ha=>?_,fun _=>rfl⟩
  have h1:=List.drop_eq_nil_iff.1 hd
  have h2:=lt_some ha
  omega
 | a :: r,n,hd=>by
  obtain⟨h1,h2,h3⟩:=drop_cons hd
  rw[prefF,bA_,List.all_eq_true,prefF_iff r (n+1) h2]
  constructor
  ·rintro⟨g1,g2⟩ i hi x hx b hb
   by_cases e:i=n
   ·subst e
    rw[h1]at hx
    obtain rfl:=sI_ hx
    exact g1 b hb
   ·exact g2 i (by omega) x hx b hb
  ·intro h
   exact⟨fun b hb=>h n (Nat.le_refl _) a h1 b hb,fun i hi x hx b hb=>h i (by omega) x hx b hb⟩
def SyR (t:GTask)(R:List (List Bool)):Prop:=∀ a b,InV t.Vars a→InV t.Vars b→isF t R a b=isF t R b a
theorem prefF_all {t:GTask}{R:List (List Bool)}(hs:SyR t R){p:List Fact}(hp:∀ f∈p,InV t.Vars f):prefF t R p p 0=okF t R p:=by
 rw[Bool.eq_iff_iff,okF_iff,prefF_iff p 0 (List.drop_zero ..)]
 constructor
 ·intro h a ha b hb
  obtain⟨i,hi⟩:=List.mem_iff_getElem?.1 ha
  obtain⟨j,hj⟩:=List.mem_iff_getElem?.1 hb
  rcases Nat.le_total j i with hji|hji
  ·exact h i (Nat.zero_le _) a hi b (List.mem_iff_getElem?.2 ⟨j,by rw[List.getElem?_take_of_lt (by omega)];exact hj⟩)
  ·rw[hs a b (hp a ha) (hp b hb)]
   exact h j (Nat.zero_le _) b hj a (List.mem_iff_getElem?.2 ⟨i,by rw[List.getElem?_take_of_lt (by omega)];exact hi⟩)
 ·intro h i _ a ha b hb
  exact h a (mG_ ha) b (List.mem_of_mem_take hb)
theorem mholds_loop {t:GTask}{z:GTable}(h:Tb t z)(p:List Fact)(hp:∀ f∈p,InV t.Vars f)(hl:p.length≤1000):∀ (r:List Fact)(n:Nat),p.drop n=r→Rg (M_stratagem_mutex_Table_holds_L2_B z p) (M_stratagem_mutex_Table_holds_L2_E z p) r n ()=some (prefF t z.reached p r n)
 | [],n,_=>rfl
 | a :: r,n,hd=>by
  obtain⟨h1,h2,h3⟩:=drop_cons hd
  have hw:IntKind.i64.wrap ((n:Int)+1)=((n+1:Nat):Int):=w64s (by omega)
  have hcur:(p.take ((IntKind.i64.wrap ((n:Int)+1)).toNat)).drop 0=p.take (n+1):=by rw[hw,Int.toNat_natCast,List.drop_zero]
  have e:=M_stratagem_mutex_Table_holds_L1_eq z p n a (by rw[hcur,List.length_take];omega)
  have ha:=hp a (mG_ h1)
  rw[Rg,M_stratagem_mutex_Table_holds_L2_B,ixv,grd_t (by rw[hw];omega),grd_t (by omega),grd_t (by rw[hw,lM_];omega),e,hcur,rg_all (p:=isF t z.reached a) (c:=some (.inr false)),prefF]
  ·cases hb:(p.take (n+1)).all (isF t z.reached a)with
   | true =>
    rw[if_pos rfl,M_stratagem_mutex_Table_holds_L1_E,ob1_some,osum_inl,Bool.true_and]
    exact mholds_loop h p hp hl r (n+1) h2
   | false=>rfl
  ·intro b hb i rc
   rw[M_stratagem_mutex_Table_holds_L1_B,ixv,is_eq h ha (hp b (List.mem_of_mem_take hb)),ob1_some]
   cases isF t z.reached a b <;> rfl
theorem mholds_eq {t:GTask}{z:GTable}(h:Tb t z)(hs:SyR t z.reached){p:List Fact}(hp:∀ f∈p,InV t.Vars f)(hl:p.length≤1000):M_stratagem_mutex_Table_holds z p=some (okF t z.reached p):=by
 rw[M_stratagem_mutex_Table_holds,M_stratagem_mutex_Table_holds_L2_eq z p (by omega),← prefF_all hs hp]
 exact mholds_loop h p hp hl p 0 (List.drop_zero ..)
def cellN (R:List (List Bool))(i j:Nat):Bool:=(R.getD i []).getD j false
theorem cell_set {R:List (List Bool)}{i j:Nat}(hi:i<R.length)(hj:j<(R.getD i []).length)(x y:Nat):cellN (setR R i j) x y=(cellN R x y||(decide (x=i)&&decide (y=j))):=by
 unfold cellN setR
 have h:R[i]?=some (R[i]):=gE_ hi
 rw[gD_,h,Option.getD_some]at hj
 rw[h]
 by_cases hx:x=i
 ·subst hx
  rw[gD_ (l:=R.set _ _),List.getElem?_set_self hi,Option.getD_some,gD_ (l:=R),h,Option.getD_some]
  by_cases hy:y=j
  ·subst hy
   rw[gD_,List.getElem?_set_self hj]
   simp
  ·rw[gD_,List.getElem?_set_ne (by omega),← gD_]
   simp[hy]
 ·rw[gD_ (l:=R.set _ _),List.getElem?_set_ne (by omega),← gD_]
  simp[hx]
structure RkR (t:GTask)(R:List (List Bool)):Prop where
 len:(R.length:Int)=sumI t.Vars
 row:∀ r∈R,r.length=R.length
theorem RkR.at {t:GTask}{R:List (List Bool)}(h:RkR t R){i:Nat}(hi:i<R.length):(R.getD i []).length=R.length:=by
 rw[gD_,gE_ hi,Option.getD_some]
 exact h.row _ (List.getElem_mem hi)
theorem RkR.set {t:GTask}{R:List (List Bool)}(h:RkR t R)(i j:Nat):RkR t (setR R i j):=by
 refine⟨by rw[setR_len];exact h.len,fun r hr=>?_⟩
 rw[setR_len]
 unfold setR at hr
 split at hr
 ·rename_i q hq
  rcases List.mem_or_eq_of_mem_set hr with h1|h1
  ·exact h.row r h1
  ·rw[h1,List.length_set];exact h.row q (mG_ hq)
 ·exact h.row r hr
def putF (t:GTask)(R:List (List Bool))(a b:Fact):List (List Bool):=setR (setR R (numF t.Vars a).toNat (numF t.Vars b).toNat) (numF t.Vars b).toNat (numF t.Vars a).toNat
theorem RkR.put {t:GTask}{R:List (List Bool)}(h:RkR t R)(a b:Fact):RkR t (putF t R a b):=(h.set _ _).set _ _
theorem put_is {t:GTask}{R:List (List Bool)}(h:RkR t R)(hv:∀ k∈t.Vars,1≤k){a b c d:Fact}(ha:InV t.Vars a)(hb:InV t.Vars b)(hc:InV t.Vars c)(hd:InV t.Vars d):isF t (putF t R a b) c d=true↔isF t R c d=true∨(c=a∧d=b)∨(c=b∧d=a):=by
 have ia:=numF_at hv ha
 have ib:=numF_at hv hb
 have ic:=numF_at hv hc
 have id:=numF_at hv hd
 have hl:=h.len
 have e:∀ {x y:Fact},InV t.Vars x→InV t.Vars y→((numF t.Vars x).toNat=(numF t.Vars y).toNat↔x=y):=fun {x y} hx hy=>by
  have:=numF_at hv hx
  have:=numF_at hv hy
  exact⟨fun h=>numF_inj hv hx hy (by omega),fun h=>by rw[h]⟩
 have h1:=cell_set (R:=setR R (numF t.Vars a).toNat (numF t.Vars b).toNat) (i:=(numF t.Vars b).toNat) (j:=(numF t.Vars a).toNat) (by rw[setR_len];omega) (by rw[(h.set _ _).at (by rw[setR_len];omega),setR_len];omega) (numF t.Vars c).toNat (numF t.Vars d).toNat
 rw[cell_set (R:=R) (i:=(numF t.Vars a).toNat) (j:=(numF t.Vars b).toNat) (by omega) (by rw[h.at (by omega)];omega)]at h1
 have h2:isF t (putF t R a b) c d=cellN (setR (setR R (numF t.Vars a).toNat (numF t.Vars b).toNat) (numF t.Vars b).toNat (numF t.Vars a).toNat) (numF t.Vars c).toNat (numF t.Vars d).toNat:=rfl
 have h3:isF t R c d=cellN R (numF t.Vars c).toNat (numF t.Vars d).toNat:=rfl
 rw[h2,h1,h3]
 simp only[Bool.or_eq_true,bA_,decide_eq_true_iff,e hc ha,e hd hb,e hc hb,e hd ha,or_assoc]
theorem put_sym {t:GTask}{R:List (List Bool)}(h:RkR t R)(hv:∀ k∈t.Vars,1≤k)(hs:SyR t R){a b:Fact}(ha:InV t.Vars a)(hb:InV t.Vars b):SyR t (putF t R a b):=fun c d hc hd=>by
 rw[Bool.eq_iff_iff,put_is h hv ha hb hc hd,put_is h hv ha hb hd hc,hs c d hc hd]
 constructor
 ·rintro(g|⟨g1,g2⟩|⟨g1,g2⟩)
  ·exact .inl g
  ·exact .inr (.inr ⟨g2,g1⟩)
  ·exact .inr (.inl ⟨g2,g1⟩)
 ·rintro(g|⟨g1,g2⟩|⟨g1,g2⟩)
  ·exact .inl g
  ·exact .inr (.inr ⟨g2,g1⟩)
  ·exact .inr (.inl ⟨g2,g1⟩)
theorem set_eq {t:GTask}{z:GTable}(h:Tb t z){a b:Fact}(ha:InV t.Vars a)(hb:InV t.Vars b):M_set z a b=some (putF t z.reached a b):=by
 have ia:=numF_at h.pos ha
 have ib:=numF_at h.pos hb
 have hl:=h.len
 rw[M_set,number_eq h ha,ob1_some,number_eq h hb,ob1_some,grd_t ⟨ia.1,by omega,ib.1,by omega,h.row⟩]
 rfl
def tbl (t:GTask)(R:List (List Bool)):GTable:={ t:=t,first:=offG 0 t.Vars,reached:=R }
structure Sz (t:GTask):Prop where
 pos:∀ k∈t.Vars,1≤k
 small:sumI t.Vars≤512
 vlen:t.Vars.length≤64
theorem tb_of {t:GTask}(hz:Sz t){R:List (List Bool)}(h:RkR t R):Tb t (tbl t R):=⟨rfl,rfl,h.len,h.row,hz.pos,hz.small,hz.vlen⟩
theorem capO_of {l:List (List Fact)}(h:l.length≤1024):capO l=some l:=if_pos h
theorem joinX_le' (x:List Fact):∀ (b out:List (List Fact)),(joinX x b out).length+(b.filter fun y=>(joinO x y).isNone).length≤out.length+b.length
 | [],out=>by rw[joinX];simp
 | y :: r,out=>by
  have h:=joinX_le' x r
  rw[joinX,lC_,List.filter_cons]
  cases hj:joinO x y with
  | none =>
   have:=h out
   simp only[Option.isNone_none,if_true,lC_]
   omega
  | some z =>
   have h1:=h (addN out z)
   have h2:(addN out z).length≤out.length+1:=by unfold addN;split <;> simp
   simp only[Option.isNone_some,Bool.false_eq_true,if_false]
   omega
def badX (b:List (List Fact))(x:List Fact):Bool:=b.any fun y=>(joinO x y).isNone
theorem joinXX_le' : ∀ (a b out:List (List Fact)),(joinXX a b out).length+(a.filter (badX b)).length≤out.length+a.length*b.length
 | [],b,out=>by rw[joinXX];simp
 | x :: r,b,out=>by
  have h1:=joinXX_le' r b (joinX x b out)
  have h2:=joinX_le' x b out
  have h3:(if badX b x=true then 1 else 0)≤(b.filter fun y=>(joinO x y).isNone).length:=by
   split
   ·rename_i hb
    unfold badX at hb
    obtain⟨y,hy,e⟩:=List.any_eq_true.1 hb
    exact List.length_pos_of_mem (List.mem_filter.2 ⟨hy,e⟩)
   ·exact Nat.zero_le _
  rw[joinXX,lC_,Nat.add_mul,List.filter_cons]
  split at h3
  ·rename_i hb
   rw[if_pos hb,lC_]
   omega
  ·rename_i hb
   rw[if_neg hb]
   omega
theorem joinLL_bad (a b:List (List Fact)):(joinLL a b).length+(a.filter (badX b)).length≤a.length*b.length:=by
 have:=joinXX_le' a b []
 rw[lN_,Nat.zero_add]at this
 exact this
theorem joinLL_le (a b:List (List Fact)):(joinLL a b).length≤a.length*b.length:=by
 have:=joinLL_bad a b
 omega
theorem joinLL_one (x:List Fact)(b:List (List Fact)):(joinLL [x] b).length+(b.filter fun y=>(joinO x y).isNone).length≤b.length:=by
 have:=joinX_le' x b []
 rw[lN_,Nat.zero_add]at this
 exact this
theorem silOne_len' (f:Fact):∀ (m:Nat)(i:Int),i≤f.2→f.2<i+m→(silOne f m i).length+1≤m
 | 0,i,h1,h2=>by omega
 | m+1,i,h1,h2=>by
  rw[silOne,lA_]
  by_cases hi:i=f.2
  ·have:=silOne_len f m (i+1)
   rw[if_neg (by simpa using hi),lN_]
   omega
  ·have:=silOne_len' f m (i+1) (by omega) (by omega)
   rw[if_pos hi,List.length_singleton]
   omega
theorem silF_dom {vars:List Int}:∀ (w:List Fact),(∀ f∈w,0≤f.2∧f.2<vars.getD f.1.toNat 0∧vars.getD f.1.toNat 0≤4)→(silF vars w).length≤3*w.length∧((silF vars w).length=3*w.length→∀ f∈w,vars.getD f.1.toNat 0=4)
 | [],_=>⟨Nat.le_refl _,fun _ f hf=>nomatch hf⟩
 | f :: r,h=>by
  obtain⟨i1,i2⟩:=silF_dom r fun g hg=>h g (mC_ _ hg)
  obtain⟨h1,h2,h3⟩:=h f (mS_ ..)
  have:=silOne_len' f (vars.getD f.1.toNat 0).toNat 0 h1 (by omega)
  unfold silF at i1 i2 ⊢
  rw[List.flatMap_cons,lA_,lC_]
  refine⟨by omega,fun e g hg=>?_⟩
  rcases List.mem_cons.1 hg with rfl|hg
  ·omega
  ·exact i2 (by omega) g hg
def condE (f:Fact)(e:GEffect):Bool:=decide (e.Val≠f.2)&&decide (0<e.When.length)
def condS (f:Fact)(e:GEffect):Bool:=decide (e.Val=f.2)&&decide (0<e.When.length)
def prodS (vars:List Int):List (List Fact)→List GEffect→List (List Fact)
 | l,[]=>l
 | l,e :: K=>prodS vars (joinLL l (silF vars e.When)) K
def Six (vars:List Int)(es:List GEffect):Prop:=∀ e∈es,(silF vars e.When).length≤6
theorem prodS_le {vars:List Int}:∀ (K:List GEffect)(l:List (List Fact)),Six vars K→(prodS vars l K).length≤l.length*6 ^ K.length
 | [],l,_=>by simp[prodS]
 | e :: K,l,h=>by
  have h1:=prodS_le K (joinLL l (silF vars e.When)) fun u hu=>h u (mC_ _ hu)
  have h2:=joinLL_le l (silF vars e.When)
  have h3:=Nat.mul_le_mul_left l.length (h e (mS_ ..))
  rw[prodS,lC_,Nat.pow_succ,Nat.mul_comm (6 ^ K.length),← Nat.mul_assoc]
  exact Nat.le_trans h1 (Nat.mul_le_mul_right _ (Nat.le_trans h2 h3))
theorem quiet_nil {vars:List Int}{f:Fact}:∀ (es:List GEffect),Six vars es→quietG vars f es []=some []
 | [],_=>rfl
 | e :: r,h=>by
  have hr:=quiet_nil (f:=f) r fun u hu=>h u (mC_ _ hu)
  have he:=h e (mS_ ..)
  rw[quietG]
  split
  ·exact hr
  ·have:joinLL [] (silF vars e.When)=[]:=rfl
   rw[capO_of (by omega),oB_,this,capO_of (by decide),oB_,hr]
theorem joinLL_nil' (a:List (List Fact)):joinLL a []=[]:=by
 have:=joinLL_le a []
 rw[lN_,Nat.mul_zero]at this
 exact List.length_eq_zero_iff.1 (Nat.le_zero.1 this)
theorem quiet_sub {vars:List Int}{f:Fact}:∀ (es:List GEffect)(l:List (List Fact)),Six vars es→l.length*6 ^ (es.filter (condE f)).length≤1024→∃ j,quietG vars f es l=some j∧∀ z∈j,z∈prodS vars l (es.filter (condE f))
 | [],l,_,_=>⟨l,rfl,fun z hz=>hz⟩
 | e :: r,l,h,hl=>by
  have hr:Six vars r:=fun u hu=>h u (mC_ _ hu)
  have he:=h e (mS_ ..)
  rw[quietG]
  by_cases hv:e.Val=f.2
  ·have hc:condE f e=false:=by simp[condE,hv]
   rw[if_pos hv]
   rw[List.filter_cons,hc,if_neg (by decide)]at hl ⊢
   exact quiet_sub r l hr hl
  ·rw[if_neg hv]
   by_cases hw:e.When=[]
   ·have e1:silF vars []=[]:=rfl
    rw[hw,e1,capO_of (by decide),oB_,joinLL_nil',capO_of (by decide),oB_]
    exact⟨[],quiet_nil r hr,fun z hz=>nomatch hz⟩
   ·have hp:=List.length_pos_iff.2 hw
    have hc:condE f e=true:=by simp[condE,hv,hp]
    rw[List.filter_cons,hc,if_pos rfl]at hl ⊢
    rw[lC_,Nat.pow_succ]at hl
    have h2:=joinLL_le l (silF vars e.When)
    have h3:=Nat.mul_le_mul_left l.length he
    have h4:(joinLL l (silF vars e.When)).length*6 ^ (r.filter (condE f)).length≤1024:=by
     refine Nat.le_trans (Nat.mul_le_mul_right _ (Nat.le_trans h2 h3)) ?_
     rw[Nat.mul_assoc,Nat.mul_comm 6]
     exact hl
    have h5:(joinLL l (silF vars e.When)).length≤1024:=Nat.le_trans (Nat.le_mul_of_pos_right _ (Nat.pow_pos (by decide))) h4
    rw[capO_of (by omega),oB_,capO_of h5,oB_,prodS]
    exact quiet_sub r _ hr h4
def casA (vars:List Int):List GEffect→List (List Fact)
 | []=>[[]]
 | e :: K=>prodS vars [[]] (e :: K)++casA vars K
def casB (vars:List Int)(f:Fact):List GEffect→List (List Fact)
 | []=>[]
 | e :: r=>(if condS f e=true then prodS vars [e.When] (r.filter (condE f))else[])++casB vars f r
theorem casA_in (vars:List Int):∀ (K:List GEffect)(z:List Fact),z∈prodS vars [[]] K→z∈casA vars K
 | [],z,h=>h
 | e :: K,z,h=>List.mem_append.2 (.inl h)
theorem casA_up (vars:List Int)(f:Fact)(e:GEffect)(r:List GEffect)(z:List Fact)(h:z∈casA vars (r.filter (condE f))):z∈casA vars ((e :: r).filter (condE f)):=by
 rw[List.filter_cons]
 split
 ·exact List.mem_append.2 (.inr h)
 ·exact h
theorem pow6 {k:Nat}(h:k≤3):1*6 ^ k≤1024:=by
 have:k=0∨k=1∨k=2∨k=3:=by omega
 rcases this with rfl|rfl|rfl|rfl <;> decide
theorem condLen (f:Fact)(e:GEffect)(r:List GEffect):(r.filter (condE f)).length≤((e :: r).filter (condE f)).length:=by
 rw[List.filter_cons]
 split <;> simp
theorem cases_sub {vars:List Int}{f:Fact}:∀ (es:List GEffect),Six vars es→(es.filter (condE f)).length≤3→∃ out,casesG vars f es=some out∧out.Nodup∧∀ z∈out,z∈casA vars (es.filter (condE f))∨z∈casB vars f es
 | [],_,_=>⟨[],rfl,List.nodup_nil,fun z hz=>nomatch hz⟩
 | e :: r,h,hk=>by
  have hr:Six vars r:=fun u hu=>h u (mC_ _ hu)
  have hk':=Nat.le_trans (condLen f e r) hk
  obtain⟨out,ho,hn,hz⟩:=cases_sub r hr hk'
  have up:∀ z∈out,z∈casA vars ((e :: r).filter (condE f))∨z∈casB vars f (e :: r):=fun z hzm=>by
   rcases hz z hzm with g|g
   ·exact .inl (casA_up vars f e r z g)
   ·exact .inr (List.mem_append.2 (.inr g))
  rw[casesG,ho,oB_]
  split
  ·rename_i hv
   obtain⟨j,hj,hj2⟩:=quiet_sub (f:=f) r [e.When] hr (by rw[List.length_singleton];exact pow6 hk')
   rw[hj,Option.map_some]
   refine⟨_,rfl,foldT_nodup _ _ hn,fun z hzm=>?_⟩
   rcases(foldN_mem z j out).1 hzm with g|g
   ·exact up z g
   ·by_cases hw:e.When=[]
    ·have:=hj2 z g
     rw[hw]at this
     exact .inl (casA_up vars f e r z (casA_in vars _ z this))
    ·have hp:=List.length_pos_iff.2 hw
     refine .inr (List.mem_append.2 (.inl ?_))
     rw[if_pos (by simp[condS,hv,hp])]
     exact hj2 z g
  ·exact⟨out,rfl,hn,up⟩
def casN : Nat→Nat
 | 0=>1
 | k+1=>6 ^ (k+1)+casN k
theorem casA_le {vars:List Int}:∀ (K:List GEffect),Six vars K→(casA vars K).length≤casN K.length
 | [],_=>Nat.le_refl _
 | e :: K,h=>by
  have h1:=prodS_le (e :: K) [[]] h
  have h2:=casA_le K fun u hu=>h u (mC_ _ hu)
  rw[List.length_singleton,Nat.one_mul]at h1
  rw[casA,lA_,lC_,casN]
  rw[lC_]at h1
  omega
theorem six_filter {vars:List Int}{es:List GEffect}(h:Six vars es)(p:GEffect→Bool):Six vars (es.filter p):=fun e he=>h e (List.mem_filter.1 he).1
theorem casB_le {vars:List Int}{f:Fact}{k:Nat}:∀ (es:List GEffect),Six vars es→(es.filter (condE f)).length≤k→(casB vars f es).length≤(es.filter (condS f)).length*6 ^ k
 | [],_,_=>Nat.zero_le _
 | e :: r,h,hk=>by
  have hr:Six vars r:=fun u hu=>h u (mC_ _ hu)
  have hk':=Nat.le_trans (condLen f e r) hk
  have ih:=casB_le r hr hk'
  have h1:=prodS_le (r.filter (condE f)) [e.When] (six_filter hr _)
  rw[List.length_singleton,Nat.one_mul]at h1
  have h2:=Nat.pow_le_pow_right (show 0<6 by decide) hk'
  rw[casB,lA_,List.filter_cons]
  split
  ·rw[lC_,Nat.succ_mul]
   omega
  ·rw[lN_]
   omega
def casL (vars:List Int)(f:Fact)(es:List GEffect):List (List Fact):=casA vars (es.filter (condE f))++casB vars f es++prodS vars [[f]] (es.filter (condE f))
def casM (k j:Nat):Nat:=casN k+j*6 ^ k+6 ^ k
theorem casL_le {vars:List Int}{f:Fact}{es:List GEffect}(h:Six vars es):(casL vars f es).length≤casM (es.filter (condE f)).length (es.filter (condS f)).length:=by
 have h1:=casA_le (es.filter (condE f)) (six_filter h _)
 have h2:=casB_le (f:=f) es h (Nat.le_refl _)
 have h3:=prodS_le (es.filter (condE f)) [[f]] (six_filter h _)
 rw[List.length_singleton,Nat.one_mul]at h3
 unfold casL casM
 rw[lA_,lA_]
 omega
theorem casM_le {k j:Nat}(h:k+j≤3):casM k j≤475:=by
 have:k=0∨k=1∨k=2∨k=3:=by omega
 rcases this with rfl|rfl|rfl|rfl <;> simp only[casM,casN,Nat.reducePow] <;> omega
theorem casesO_sub {vars:List Int}{f:Fact}{o:GOp}{es:List GEffect}(he:o.Effs.filter (fun e=>e.Var == f.1)=es)(h:Six vars es)(hk:(es.filter (condE f)).length+(es.filter (condS f)).length≤3):∃ c,casesO vars o f=some c∧c.Nodup∧∀ z∈c,z∈casL vars f es:=by
 obtain⟨out,ho,hn,hz⟩:=cases_sub (f:=f) es h (by omega)
 obtain⟨j,hj,hj2⟩:=quiet_sub (f:=f) es [[f]] h (by rw[List.length_singleton];exact pow6 (by omega))
 have hm:∀ z∈j.foldl addN out,z∈casL vars f es:=fun z hzm=>by
  unfold casL
  rcases(foldN_mem z j out).1 hzm with g|g
  ·exact List.mem_append.2 (.inl (List.mem_append.2 (hz z g)))
  ·exact List.mem_append.2 (.inr (hj2 z g))
 have hl:=nodupT_le _ _ (foldT_nodup j _ hn) hm
 have:=casL_le (f:=f) h
 have:=casM_le hk
 refine⟨j.foldl addN out,?_,foldT_nodup _ _ hn,hm⟩
 rw[casesO,casesE,he,ho,oB_,hj,Option.map_some,oB_,capO_of (by omega)]
theorem nodup_full {α:Type} [DecidableEq α]:∀ (l u:List α),l.Nodup→(∀ x∈l,x∈u)→u.length≤l.length→∀ x∈u,x∈l
 | [],u,_,_,h,x,hx=>by have:=List.length_pos_of_mem hx;simp at h;subst h;cases hx
 | y :: l,u,hn,hs,h,x,hx=>by
  rw[List.nodup_cons]at hn
  by_cases e:x=y
  ·rw[e];exact mS_ ..
  ·have hy:=hs y (mS_ ..)
   have hl:=List.length_erase_of_mem hy
   have hp:=List.length_pos_of_mem hy
   rw[lC_]at h
   refine mC_ _ (nodup_full l (u.erase y) hn.2 (fun z hz=>(List.mem_erase_of_ne (fun e=>hn.1 (by rw[← e];exact hz))).2 (hs z (mC_ _ hz))) (by omega) x ((List.mem_erase_of_ne e).2 hx))
def Has (c:List (List Fact))(u w:Int):Prop:=∀ y:Int,0≤y→y<4→y≠w→∃ x∈c,(u,y)∈x
theorem has_bad {vars:List Int}{pre:List Fact}{c1 c2:List (List Fact)}{u w1 w2:Int}(hpre:propF vars (-1) pre=true)(h1:PropL vars c1)(hw1:0≤w1∧w1<4)(H1:Has c1 u w1)(H2:Has c2 u w2)(hl:(joinLL [pre] c1).length=c1.length):3≤((joinLL [pre] c1).filter (badX c2)).length:=by
 have hone:=joinLL_one pre c1
 have hall:∀ x∈c1,∃ z,joinO pre x=some z:=fun x hx=>by
  cases e:joinO pre x with
  | some z=>exact⟨z,rfl⟩
  | none =>
   have hm:x∈c1.filter fun y=>(joinO pre y).isNone:=List.mem_filter.2 ⟨hx,by simp[e]⟩
   have:=List.length_pos_of_mem hm
   omega
 have hp:PropL vars (joinLL [pre] c1):=joinLL_prop (fun x hx=>by rw[mI_.1 hx];exact hpre) h1
 have key:∀ y:Int,0≤y→y<4→y≠w1→∃ z∈(joinLL [pre] c1).filter (badX c2),(u,y)∈z:=fun y y0 y1 y2=>by
  obtain⟨x,hx,hu⟩:=H1 y y0 y1 y2
  obtain⟨z,hz⟩:=hall x hx
  have hzu:=((joinO_some hz).2 (u,y)).2 (.inr hu)
  obtain⟨y',a0,a1,a2,a3⟩:∃ y':Int,0≤y'∧y'<4∧y'≠w2∧y'≠y:=by
   by_cases e0:(0:Int)≠w2∧(0:Int)≠y
   ·exact⟨0,by decide,by decide,e0.1,e0.2⟩
   ·by_cases e1:(1:Int)≠w2∧(1:Int)≠y
    ·exact⟨1,by decide,by decide,e1.1,e1.2⟩
    ·exact⟨2,by decide,by decide,by omega,by omega⟩
  obtain⟨x2,hx2,hu2⟩:=H2 y' a0 a1 a2
  refine⟨z,List.mem_filter.2 ⟨(joinLL_mem z _ _).2 ⟨pre,mI_.2 rfl,x,hx,hz⟩,?_⟩,hzu⟩
  exact List.any_eq_true.2 ⟨x2,hx2,by rw[joinO_not hzu hu2 rfl (fun e=>a3 e.symm)];rfl⟩
 have hne:∀ {z z':List Fact} {y y':Int},z∈(joinLL [pre] c1).filter (badX c2)→(u,y)∈z→(u,y')∈z'→y≠y'→z≠z':=fun {z z' y y'} hz hy hy' hne e=>by
  subst e
  have ha:=((vF_iff' z).1 (propF_vF' (hp z (List.mem_filter.1 hz).1))).2
  have:=asc_inj ha hy hy' rfl
  exact hne (congrArg Prod.snd this)
 obtain⟨a,b,c,ha,hb,hc,n1,n2,n3⟩:∃ a b c:Int,(0≤a∧a<4∧a≠w1)∧(0≤b∧b<4∧b≠w1)∧(0≤c∧c<4∧c≠w1)∧a≠b∧a≠c∧b≠c:=by
  have:w1=0∨w1=1∨w1=2∨w1=3:=by omega
  rcases this with rfl|rfl|rfl|rfl
  ·exact⟨1,2,3,by decide⟩
  ·exact⟨0,2,3,by decide⟩
  ·exact⟨0,1,3,by decide⟩
  ·exact⟨0,1,2,by decide⟩
 obtain⟨za,ma,ua⟩:=key a ha.1 ha.2.1 ha.2.2
 obtain⟨zb,mb,ub⟩:=key b hb.1 hb.2.1 hb.2.2
 obtain⟨zc,mc,uc⟩:=key c hc.1 hc.2.1 hc.2.2
 have:=nodupT_le [za,zb,zc] _ (by
  have e1:=hne ma ua ub n1
  have e2:=hne ma ua uc n2
  have e3:=hne mb ub uc n3
  simp[e1,e2,e3]) (fun x hx=>by
   simp only[List.mem_cons,List.not_mem_nil,or_false]at hx
   rcases hx with rfl|rfl|rfl
   ·exact ma
   ·exact mb
   ·exact mc)
 exact this
theorem four_prod : ∀ (vars:List Int)(I:List Nat),(∀ k∈vars,1≤k)→I.Nodup→(∀ i∈I,vars.getD i 0=4)→4 ^ I.length≤prodN vars
 | [],I,_,_,hI=>by
  cases I with
  | nil=>exact Nat.le_refl _
  | cons i r=>have:=hI i (mS_ ..);simp at this
 | k :: r,I,hv,hn,hI=>by
  have hk:=hv k (mS_ ..)
  have hn2:((I.erase 0).map (· - 1)).Nodup:=by
   refine List.pairwise_map.2 ((List.Nodup.erase 0 hn).imp_of_mem fun {a b} ha hb hab e=>hab ?_)
   have:=((List.Nodup.mem_erase_iff hn).1 ha).1
   have:=((List.Nodup.mem_erase_iff hn).1 hb).1
   omega
  have ih:=four_prod r ((I.erase 0).map (· - 1)) (fun x hx=>hv x (mC_ _ hx)) hn2 (fun i hi=>by
   obtain⟨j,hj,rfl⟩:=List.mem_map.1 hi
   obtain⟨h1,h2⟩:=(List.Nodup.mem_erase_iff hn).1 hj
   have:=hI j h2
   obtain⟨q,rfl⟩:∃ q,j=q+1:=⟨j-1,by omega⟩
   simpa using this)
  rw[lM_]at ih
  rw[prodN]
  by_cases h0:0∈I
  ·have h4:=hI 0 h0
   simp at h4
   have hl:=List.length_erase_of_mem h0
   have hp:=List.length_pos_of_mem h0
   rw[hl]at ih
   obtain⟨m,hm⟩:∃ m,I.length=m+1:=⟨I.length-1,by omega⟩
   rw[hm]at ih ⊢
   rw[Nat.pow_succ,Nat.mul_comm,h4]
   exact Nat.mul_le_mul_left 4 ih
  ·rw[List.erase_of_not_mem h0]at ih
   exact Nat.le_trans ih (Nat.le_mul_of_pos_left _ (by omega))
theorem len_two {α:Type}:∀ {l:List α},l.length=2→∃ a b,l=[a,b]
 | [],h=>by simp at h
 | [_],h=>by simp at h
 | [a,b],_=>⟨a,b,rfl⟩
 | _ :: _ :: _ :: _,h=>by simp at h
theorem casM_all : ∀ k1:Fin 4,∀ j1:Fin 4,∀ k2:Fin 4,∀ j2:Fin 4,k1.val+j1.val+(k2.val+j2.val)≤3→casM k1 j1*casM k2 j2≤1024∨(k1.val=2∧j1.val=0∧k2.val=1∧j2.val=0)∨(k1.val=1∧j1.val=0∧k2.val=2∧j2.val=0):=by decide
theorem casM_two {k1 j1 k2 j2:Nat}(h:k1+j1+(k2+j2)≤3):casM k1 j1*casM k2 j2≤1024∨(k1=2∧j1=0∧k2=1∧j2=0)∨(k1=1∧j1=0∧k2=2∧j2=0) :=
 casM_all ⟨k1,by omega⟩ ⟨j1,by omega⟩ ⟨k2,by omega⟩ ⟨j2,by omega⟩ h
structure WhenT (vars:List Int)(w:List Fact):Prop where
 prop:propF vars (-1) w=true
 two:w.length≤2
 dom:∀ n∈vars,n≤4
theorem WhenT.fact {vars:List Int}{w:List Fact}(h:WhenT vars w):∀ f∈w,0≤f.1∧f.1<vars.length∧0≤f.2∧f.2<vars.getD f.1.toNat 0∧vars.getD f.1.toNat 0≤4:=fun f hf=>by
 obtain⟨hv,hr⟩:=(propF_iff vars w (-1)).1 h.prop
 have hn:=((vF_iff' w).1 hv).1 f hf
 have h1:=hr f hf
 refine⟨hn.1,h1.1,hn.2,h1.2,?_⟩
 rw[gD_]
 cases hg:vars[f.1.toNat]? with
 | none=>simp
 | some n=>exact h.dom n (mG_ hg)
theorem WhenT.sil {vars:List Int}{w:List Fact}(h:WhenT vars w):(silF vars w).length≤6∧(6≤(silF vars w).length→w.length=2∧∀ f∈w,vars.getD f.1.toNat 0=4):=by
 obtain⟨h1,h2⟩:=silF_dom w fun f hf=>(h.fact f hf).2.2
 have:=h.two
 exact⟨by omega,fun h6=>⟨by omega,h2 (by omega)⟩⟩
theorem joinO_nil {vars:List Int}{y:List Fact}(h:propF vars (-1) y=true):joinO [] y=some y:=joinO_is rfl (propF_vF' h) (propF_vF' h) (fun x=>by simp)
theorem sil_one {vars:List Int}{w:List Fact}{g:Fact}(hg:g∈w)(h4:vars.getD g.1.toNat 0=4){y:Int}(y0:0≤y)(y1:y<4)(y2:y≠g.2):[(g.1,y)]∈silF vars w:=silF_mem.2 ⟨g,hg,y,y0,by rw[h4];exact y1,y2,rfl⟩
theorem sil_nil {vars:List Int}{w:List Fact}(h:propF vars (-1) w=true){z:List Fact}(hz:z∈silF vars w):z∈joinLL [[]] (silF vars w):=(joinLL_mem z _ _).2 ⟨[],mI_.2 rfl,z,hz,joinO_nil (silF_prop h z hz)⟩
theorem full_one {vars:List Int}{f:Fact}{es:List GEffect}{e3:GEffect}{c:List (List Fact)}(hs:Six vars es)(hK:es.filter (condE f)=[e3])(hj:(es.filter (condS f)).length=0)(w3:WhenT vars e3.When)(hn:c.Nodup)(hc:∀ z∈c,z∈casL vars f es)(hl:13≤c.length):e3.When.length=2∧∀ g∈e3.When,vars.getD g.1.toNat 0=4∧Has c g.1 g.2:=by
 have hB:=casB_le (f:=f) es hs (Nat.le_refl _)
 rw[hj,Nat.zero_mul]at hB
 have hlen:=nodupT_le _ _ hn hc
 have s3:=w3.sil
 have p1:=joinLL_le [[]] (silF vars e3.When)
 have p2:=joinLL_le [[f]] (silF vars e3.When)
 rw[List.length_singleton,Nat.one_mul]at p1 p2
 have hL:(casL vars f es).length=(joinLL [[]] (silF vars e3.When)).length+1+(casB vars f es).length+(joinLL [[f]] (silF vars e3.When)).length:=by
  unfold casL
  rw[hK,lA_,lA_]
  simp only[casA,prodS,lA_,List.length_singleton]
 obtain⟨g1,g2⟩:=s3.2 (by omega)
 refine⟨g1,fun g hg=>⟨g2 g hg,fun y y0 y1 y2=>⟨[(g.1,y)],?_,mI_.2 rfl⟩⟩⟩
 refine nodup_full _ _ hn hc (by omega) _ ?_
 unfold casL
 rw[hK]
 refine List.mem_append.2 (.inl (List.mem_append.2 (.inl (List.mem_append.2 (.inl ?_)))))
 exact sil_nil w3.prop (sil_one hg (g2 g hg) y0 y1 y2)
theorem full_two {vars:List Int}{f:Fact}{es:List GEffect}{e1 e2:GEffect}{c:List (List Fact)}(hs:Six vars es)(hK:es.filter (condE f)=[e1,e2])(hj:(es.filter (condS f)).length=0)(w1:WhenT vars e1.When)(w2:WhenT vars e2.When)(hn:c.Nodup)(hc:∀ z∈c,z∈casL vars f es)(hl:79≤c.length):e1.When.length=2∧e2.When.length=2∧(∀ g∈e1.When,vars.getD g.1.toNat 0=4∧Has c g.1 g.2)∧(∀ g∈e2.When,vars.getD g.1.toNat 0=4∧Has c g.1 g.2)∧∀ g∈e1.When,∀ h∈e2.When,g.1≠h.1:=by
 have hB:=casB_le (f:=f) es hs (Nat.le_refl _)
 rw[hj,Nat.zero_mul]at hB
 have hlen:=nodupT_le _ _ hn hc
 have s1:=w1.sil
 have s2:=w2.sil
 have p1:=joinLL_le [[]] (silF vars e1.When)
 have p2:=joinLL_le [[]] (silF vars e2.When)
 have p3:=joinLL_bad (joinLL [[]] (silF vars e1.When)) (silF vars e2.When)
 have p4:=joinLL_le [[f]] (silF vars e1.When)
 have p5:=joinLL_le (joinLL [[f]] (silF vars e1.When)) (silF vars e2.When)
 rw[List.length_singleton,Nat.one_mul]at p1 p2 p4
 have hL:(casL vars f es).length=(joinLL (joinLL [[]] (silF vars e1.When)) (silF vars e2.When)).length+((joinLL [[]] (silF vars e2.When)).length+1)+(casB vars f es).length+(joinLL (joinLL [[f]] (silF vars e1.When)) (silF vars e2.When)).length:=by
  unfold casL
  rw[hK,lA_,lA_]
  simp only[casA,prodS,lA_,List.length_singleton]
 have q3:(joinLL [[]] (silF vars e1.When)).length*(silF vars e2.When).length≤6*6:=Nat.mul_le_mul (by omega) (by omega)
 have q5:(joinLL [[f]] (silF vars e1.When)).length*(silF vars e2.When).length≤6*6:=Nat.mul_le_mul (by omega) (by omega)
 have hb:((joinLL [[]] (silF vars e1.When)).filter (badX (silF vars e2.When))).length=0:=by omega
 have h36:36≤(joinLL [[]] (silF vars e1.When)).length*(silF vars e2.When).length:=by omega
 have h6a:6≤(joinLL [[]] (silF vars e1.When)).length:=by
  refine Nat.le_of_not_lt fun h=>?_
  have:(joinLL [[]] (silF vars e1.When)).length*(silF vars e2.When).length≤5*6:=Nat.mul_le_mul (by omega) (by omega)
  omega
 have h6b:6≤(silF vars e2.When).length:=by
  refine Nat.le_of_not_lt fun h=>?_
  have:(joinLL [[]] (silF vars e1.When)).length*(silF vars e2.When).length≤6*5:=Nat.mul_le_mul (by omega) (by omega)
  omega
 obtain⟨g1,d1⟩:=s1.2 (by omega)
 obtain⟨g2,d2⟩:=s2.2 h6b
 have hgood:∀ x∈joinLL [[]] (silF vars e1.When),∀ y∈silF vars e2.When,∃ z,joinO x y=some z:=fun x hx y hy=>by
  cases e:joinO x y with
  | some z=>exact⟨z,rfl⟩
  | none =>
   have:=List.length_pos_of_mem (List.mem_filter.2 ⟨hx,show badX (silF vars e2.When) x=true from List.any_eq_true.2 ⟨y,hy,by rw[e];rfl⟩⟩)
   omega
 have hfull:=nodup_full _ _ hn hc (by omega)
 refine⟨g1,g2,fun g hg=>⟨d1 g hg,fun y y0 y1 y2=>?_⟩,fun g hg=>⟨d2 g hg,fun y y0 y1 y2=>⟨[(g.1,y)],?_,mI_.2 rfl⟩⟩,fun g hg h hh e=>?_⟩
 ·have hx:=sil_nil w1.prop (sil_one hg (d1 g hg) y0 y1 y2)
  obtain⟨s,hsm⟩:∃ s,s∈silF vars e2.When:=by
   cases hq:silF vars e2.When with
   | nil=>rw[hq]at h6b;simp at h6b
   | cons s r=>exact⟨s,mS_ ..⟩
  obtain⟨z,hz⟩:=hgood _ hx s hsm
  refine⟨z,hfull z ?_,((joinO_some hz).2 _).2 (.inl (mI_.2 rfl))⟩
  unfold casL
  rw[hK]
  refine List.mem_append.2 (.inl (List.mem_append.2 (.inl (List.mem_append.2 (.inl ?_)))))
  exact(joinLL_mem z _ _).2 ⟨_,hx,s,hsm,hz⟩
 ·refine hfull _ ?_
  unfold casL
  rw[hK]
  refine List.mem_append.2 (.inl (List.mem_append.2 (.inl (List.mem_append.2 (.inr (List.mem_append.2 (.inl ?_)))))))
  exact sil_nil w2.prop (sil_one hg (d2 g hg) y0 y1 y2)
 ·obtain⟨y,y',a0,a1,a2,b0,b1,b2,hne⟩:∃ y y':Int,0≤y∧y<4∧y≠g.2∧0≤y'∧y'<4∧y'≠h.2∧y≠y':=by
   obtain⟨y,c0,c1,c2⟩:∃ y:Int,0≤y∧y<2∧y≠g.2:=by
    by_cases e0:(0:Int)≠g.2
    ·exact⟨0,by decide,by decide,e0⟩
    ·exact⟨1,by decide,by decide,by omega⟩
   by_cases e0:(2:Int)≠h.2
   ·exact⟨y,2,c0,by omega,c2,by decide,by decide,e0,by omega⟩
   ·exact⟨y,3,c0,by omega,c2,by decide,by decide,by omega,by omega⟩
  obtain⟨z,hz⟩:=hgood _ (sil_nil w1.prop (sil_one hg (d1 g hg) a0 a1 a2)) _ (sil_one hh (d2 h hh) b0 b1 b2)
  rw[joinO_not (x:=(g.1,y)) (y:=(h.1,y')) (mI_.2 rfl) (mI_.2 rfl) e hne]at hz
  cases hz
theorem common {vars:List Int}{a b c:List Fact}(hv:∀ k∈vars,1≤k)(hp:prodN vars≤512)(wa:WhenT vars a)(wb:WhenT vars b)(wc:WhenT vars c)(la:a.length=2)(lb:b.length=2)(lc:c.length=2)(da:∀ g∈a,vars.getD g.1.toNat 0=4)(db:∀ g∈b,vars.getD g.1.toNat 0=4)(dc:∀ g∈c,vars.getD g.1.toNat 0=4)(hab:∀ g∈a,∀ h∈b,g.1≠h.1):∃ g∈c,∃ h∈a++b,g.1=h.1:=by
 obtain⟨a1,a2,rfl⟩:=len_two la
 obtain⟨b1,b2,rfl⟩:=len_two lb
 obtain⟨c1,c2,rfl⟩:=len_two lc
 refine Classical.byContradiction fun hno=>?_
 have hc:∀ h∈[a1,a2]++[b1,b2],c1.1≠h.1:=fun h hh e=>hno ⟨c1,by simp,h,hh,e⟩
 have A:=((vF_iff' _).1 (propF_vF' wa.prop)).2
 have B:=((vF_iff' _).1 (propF_vF' wb.prop)).2
 have A1:a1.1<a2.1:=by simpa [Asc] using A
 have B1:b1.1<b2.1:=by simpa [Asc] using B
 have fa1:=wa.fact a1 (by simp)
 have fa2:=wa.fact a2 (by simp)
 have fb1:=wb.fact b1 (by simp)
 have fb2:=wb.fact b2 (by simp)
 have fc1:=wc.fact c1 (by simp)
 have x1:=hab a1 (by simp) b1 (by simp)
 have x2:=hab a1 (by simp) b2 (by simp)
 have x3:=hab a2 (by simp) b1 (by simp)
 have x4:=hab a2 (by simp) b2 (by simp)
 have y1:=hc a1 (by simp)
 have y2:=hc a2 (by simp)
 have y3:=hc b1 (by simp)
 have y4:=hc b2 (by simp)
 have hne:∀ {x y:Fact},0≤x.1→0≤y.1→x.1≠y.1→x.1.toNat≠y.1.toNat:=fun h1 h2 h e=>h (by omega)
 have h5:=four_prod vars [c1.1.toNat,a1.1.toNat,a2.1.toNat,b1.1.toNat,b2.1.toNat] hv (by
  have z1:=hne fc1.1 fa1.1 y1
  have z2:=hne fc1.1 fa2.1 y2
  have z3:=hne fc1.1 fb1.1 y3
  have z4:=hne fc1.1 fb2.1 y4
  have z5:=hne fa1.1 fa2.1 (by omega)
  have z6:=hne fa1.1 fb1.1 x1
  have z7:=hne fa1.1 fb2.1 x2
  have z8:=hne fa2.1 fb1.1 x3
  have z9:=hne fa2.1 fb2.1 x4
  have z0:=hne fb1.1 fb2.1 (by omega)
  simp[z1,z2,z3,z4,z5,z6,z7,z8,z9,z0]) (fun i hi=>by
  simp only[List.mem_cons,List.not_mem_nil,or_false]at hi
  rcases hi with rfl|rfl|rfl|rfl|rfl
  ·exact dc c1 (by simp)
  ·exact da a1 (by simp)
  ·exact da a2 (by simp)
  ·exact db b1 (by simp)
  ·exact db b2 (by simp))
 have:(4:Nat) ^ 5=1024:=rfl
 simp only[lC_,lN_]at h5
 omega
theorem cond_cnt (f:Fact):∀ es:List GEffect,(es.filter (condE f)).length+(es.filter (condS f)).length=condN es
 | []=>rfl
 | e :: r=>by
  have ih:=cond_cnt f r
  rw[condN_cons,List.filter_cons,List.filter_cons]
  unfold condE condS at ih ⊢
  by_cases hw:0<e.When.length
  ·by_cases hv:e.Val=f.2
   ·simp[hw,hv];simp at ih;omega
   ·simp[hw,hv];simp at ih;omega
  ·simp[hw];simp at ih;omega
theorem cond_two {v1 v2:Int}(h:v1≠v2):∀ es:List GEffect,condN (es.filter fun e=>e.Var == v1)+condN (es.filter fun e=>e.Var == v2)≤condN es
 | []=>Nat.le_refl _
 | e :: r=>by
  have ih:=cond_two h r
  rw[condN_cons,List.filter_cons,List.filter_cons]
  by_cases e1:e.Var=v1
  ·have e2:¬ e.Var=v2:=fun e=>h (e1.symm.trans e)
   rw[if_pos (by simpa using e1),if_neg (by simpa using e2),condN_cons]
   omega
  ·by_cases e2:e.Var=v2
   ·rw[if_neg (by simpa using e1),if_pos (by simpa using e2),condN_cons]
    omega
   ·rw[if_neg (by simpa using e1),if_neg (by simpa using e2)]
    omega
theorem cond_sub (p:GEffect→Bool):∀ es:List GEffect,condN (es.filter p)≤condN es
 | []=>Nat.le_refl _
 | e :: r=>by
  have ih:=cond_sub p r
  rw[condN_cons,List.filter_cons]
  split
  ·rw[condN_cons];omega
  ·omega
structure TameO (vars:List Int)(o:GOp):Prop where
 dom:∀ n∈vars,1≤n∧n≤4
 prod:prodN vars≤512
 when:WhenP vars o.Effs
 two:∀ e∈o.Effs,e.When.length≤2
 three:condN o.Effs≤3
 pre:propF vars (-1) o.Pre=true
section
variable {vars : List Int} {o : GOp} (T : TameO vars o)
include T
theorem TameO.whenT {e:GEffect}(he:e∈o.Effs):WhenT vars e.When:=⟨T.when e he,T.two e he,fun n hn=>(T.dom n hn).2⟩
theorem TameO.six (p:GEffect→Bool):Six vars (o.Effs.filter p):=fun _ he=>(T.whenT (List.mem_filter.1 he).1).sil.1
theorem reg_one' (f:Fact):∃ j,regG vars o [f] [o.Pre]=some j:=by
 have hk:=cond_cnt f (o.Effs.filter fun e=>e.Var == f.1)
 have hs:=cond_sub (fun e=>e.Var == f.1) o.Effs
 have:=T.three
 obtain⟨c,h1,h2,h3⟩:=casesO_sub (vars:=vars) (f:=f) rfl (T.six _) (by omega)
 have hl:=nodupT_le _ _ h2 h3
 have hL:=casL_le (f:=f) (T.six (fun e=>e.Var == f.1))
 have hM:=casM_le (k:=((o.Effs.filter fun e=>e.Var == f.1).filter (condE f)).length) (j:=((o.Effs.filter fun e=>e.Var == f.1).filter (condS f)).length) (by omega)
 have hj:=joinLL_le [o.Pre] c
 rw[List.length_singleton,Nat.one_mul]at hj
 exact⟨joinLL [o.Pre] c,by rw[regG,h1,oB_,capO_of (by omega),oB_,regG]⟩
theorem reg_two {f1 f2:Fact}(hf1:propF vars (-1) [f1]=true)(hne:f1.1≠f2.1):∃ j,regG vars o [f1,f2] [o.Pre]=some j:=by
 have hk1:=cond_cnt f1 (o.Effs.filter fun e=>e.Var == f1.1)
 have hk2:=cond_cnt f2 (o.Effs.filter fun e=>e.Var == f2.1)
 have hs:=cond_two hne o.Effs
 have h3:=T.three
 have S1:=T.six fun e=>e.Var == f1.1
 have S2:=T.six fun e=>e.Var == f2.1
 obtain⟨c1,a1,a2,a3⟩:=casesO_sub (vars:=vars) (f:=f1) rfl S1 (by omega)
 obtain⟨c2,b1,b2,b3⟩:=casesO_sub (vars:=vars) (f:=f2) rfl S2 (by omega)
 have l1:=Nat.le_trans (nodupT_le _ _ a2 a3) (casL_le (f:=f1) S1)
 have l2:=Nat.le_trans (nodupT_le _ _ b2 b3) (casL_le (f:=f2) S2)
 have hM:=casM_le (k:=((o.Effs.filter fun e=>e.Var == f1.1).filter (condE f1)).length) (j:=((o.Effs.filter fun e=>e.Var == f1.1).filter (condS f1)).length) (by omega)
 have hj:=joinLL_le [o.Pre] c1
 rw[List.length_singleton,Nat.one_mul]at hj
 have hJ:=joinLL_bad (joinLL [o.Pre] c1) c2
 have hp1:=(casesO_prop T.when hf1 a1).1
 have memW:∀ {p q:GEffect→Bool} {e:GEffect},e∈(o.Effs.filter p).filter q→WhenT vars e.When:=fun he=>T.whenT (List.mem_filter.1 (List.mem_filter.1 he).1).1
 suffices h:(joinLL (joinLL [o.Pre] c1) c2).length≤1024 by
  exact⟨_,by rw[regG,a1,oB_,capO_of (by omega),oB_,regG,b1,oB_,capO_of h,oB_,regG]⟩
 rcases casM_two (k1:=((o.Effs.filter fun e=>e.Var == f1.1).filter (condE f1)).length) (j1:=((o.Effs.filter fun e=>e.Var == f1.1).filter (condS f1)).length) (k2:=((o.Effs.filter fun e=>e.Var == f2.1).filter (condE f2)).length) (j2:=((o.Effs.filter fun e=>e.Var == f2.1).filter (condS f2)).length) (by omega)with h|⟨h1,h2,h4,h5⟩|⟨h1,h2,h4,h5⟩
 ·refine Nat.le_trans ?_ h
  refine Nat.le_trans (joinLL_le _ _) (Nat.mul_le_mul (Nat.le_trans hj l1) l2)
 ·rw[h1,h2]at l1
  rw[h4,h5]at l2
  replace l1:c1.length≤79:=l1
  replace l2:c2.length≤13:=l2
  obtain⟨e1,e2,hK⟩:=len_two h1
  obtain⟨e3,hK3⟩:=List.length_eq_one_iff.1 h4
  by_cases c7:(joinLL [o.Pre] c1).length≤78
  ·have:=Nat.mul_le_mul c7 l2
   omega
  ·by_cases c8:c2.length≤12
   ·have:(joinLL [o.Pre] c1).length*c2.length≤79*12:=Nat.mul_le_mul (by omega) c8
    omega
   ·have W1:WhenT vars e1.When:=memW (by rw[hK];simp)
    have W2:WhenT vars e2.When:=memW (by rw[hK];simp)
    have W3:WhenT vars e3.When:=memW (by rw[hK3];simp)
    obtain⟨u1,u2,u3,u4,u5⟩:=full_two S1 hK h2 W1 W2 a2 a3 (by omega)
    obtain⟨v1,v2⟩:=full_one S2 hK3 h5 W3 b2 b3 (by omega)
    obtain⟨g,hg,h,hh,e⟩:=common (fun k hk=>(T.dom k hk).1) T.prod W1 W2 W3 u1 u2 v1 (fun g hg=>(u3 g hg).1) (fun g hg=>(u4 g hg).1) (fun g hg=>(v2 g hg).1) u5
    have H2:=(v2 g hg).2
    obtain⟨H1,H4,hr⟩:Has c1 h.1 h.2∧vars.getD h.1.toNat 0=4∧(0≤h.2∧h.2<vars.getD h.1.toNat 0):=by
     rcases List.mem_append.1 hh with hh|hh
     ·exact⟨(u3 h hh).2,(u3 h hh).1,(W1.fact h hh).2.2.1,(W1.fact h hh).2.2.2.1⟩
     ·exact⟨(u4 h hh).2,(u4 h hh).1,(W2.fact h hh).2.2.1,(W2.fact h hh).2.2.2.1⟩
    rw[e]at H2
    have hb:=has_bad T.pre hp1 (by omega) H1 H2 (by omega)
    have:(joinLL [o.Pre] c1).length*c2.length≤79*13:=Nat.mul_le_mul (by omega) l2
    omega
 ·rw[h1,h2]at l1
  rw[h4,h5]at l2
  replace l1:c1.length≤13:=l1
  replace l2:c2.length≤79:=l2
  obtain⟨e1,e2,hK⟩:=len_two h4
  obtain⟨e3,hK3⟩:=List.length_eq_one_iff.1 h1
  by_cases c7:(joinLL [o.Pre] c1).length≤12
  ·have:=Nat.mul_le_mul c7 l2
   omega
  ·by_cases c8:c2.length≤78
   ·have:(joinLL [o.Pre] c1).length*c2.length≤13*78:=Nat.mul_le_mul (by omega) c8
    omega
   ·have W1:WhenT vars e1.When:=memW (by rw[hK];simp)
    have W2:WhenT vars e2.When:=memW (by rw[hK];simp)
    have W3:WhenT vars e3.When:=memW (by rw[hK3];simp)
    obtain⟨u1,u2,u3,u4,u5⟩:=full_two S2 hK h5 W1 W2 b2 b3 (by omega)
    obtain⟨v1,v2⟩:=full_one S1 hK3 h2 W3 a2 a3 (by omega)
    obtain⟨g,hg,h,hh,e⟩:=common (fun k hk=>(T.dom k hk).1) T.prod W1 W2 W3 u1 u2 v1 (fun g hg=>(u3 g hg).1) (fun g hg=>(u4 g hg).1) (fun g hg=>(v2 g hg).1) u5
    have H1:=(v2 g hg).2
    have H4:=(v2 g hg).1
    have hr:=(W3.fact g hg).2.2
    have H2:Has c2 h.1 h.2:=by
     rcases List.mem_append.1 hh with hh|hh
     ·exact(u3 h hh).2
     ·exact(u4 h hh).2
    rw[← e]at H2
    have hb:=has_bad T.pre hp1 (by omega) H1 H2 (by omega)
    have:(joinLL [o.Pre] c1).length*c2.length≤13*79:=Nat.mul_le_mul (by omega) (by omega)
    omega
end
end Go.Proofs.YtinnphmnhmdcgaaGreat.Am
namespace Go.Proofs.YtinnphmnhmdcgaaGreat.Am
section
variable {κ ν : Type} [DecidableEq κ]
def getM : List (κ×ν)→κ→Option ν
 | [],_=>none
 | (b,u) :: r,a=>if b=a then some u else getM r a
def setM : List (κ×ν)→κ→ν→List (κ×ν)
 | [],a,v=>[(a,v)]
 | (b,u) :: r,a,v=>if b=a then(a,v) :: r else(b,u) :: setM r a v
theorem getM_none {a:κ}:∀ {M:List (κ×ν)},(∀ p∈M,p.1≠a)→getM M a=none
 | [],_=>rfl
 | (b,u) :: r,h=>by rw[getM,if_neg (h _ (mS_ ..))];exact getM_none fun p hp=>h p (mC_ _ hp)
theorem getM_at {a:κ}:∀ {M:List (κ×ν)}{j:Nat}{v:ν},M[j]?=some (a,v)→(∀ i,i<j→∀ p,M[i]?=some p→p.1≠a)→getM M a=some v
 | [],j,v,h,_=>by simp at h
 | (b,u) :: r,0,v,h,_=>by simp at h;obtain⟨rfl,rfl⟩:=h;rw[getM,if_pos rfl]
 | (b,u) :: r,j+1,v,h,hne=>by
  rw[getM,if_neg (hne 0 (Nat.zero_lt_succ _) (b,u) rfl)]
  exact getM_at (by simpa using h) fun i hi p hp=>hne (i+1) (Nat.succ_lt_succ hi) p (by simpa using hp)
theorem setM_none {a:κ}{v:ν}:∀ {M:List (κ×ν)},(∀ p∈M,p.1≠a)→setM M a v=M++[(a,v)]
 | [],_=>rfl
 | (b,u) :: r,h=>by rw[setM,if_neg (h _ (mS_ ..)),setM_none fun p hp=>h p (mC_ _ hp)];rfl
theorem setM_at {a:κ}{v:ν}:∀ {M:List (κ×ν)}{j:Nat}{u:ν},M[j]?=some (a,u)→(∀ i,i<j→∀ p,M[i]?=some p→p.1≠a)→setM M a v=M.set j (a,v)
 | [],j,v,h,_=>by simp at h
 | (b,u) :: r,0,_,h,_=>by simp at h;obtain⟨rfl,rfl⟩:=h;rw[setM,if_pos rfl];rfl
 | (b,u) :: r,j+1,_,h,hne=>by
  rw[setM,if_neg (hne 0 (Nat.zero_lt_succ _) (b,u) rfl),setM_at (by simpa using h) fun i hi p hp=>hne (i+1) (Nat.succ_lt_succ hi) p (by simpa using hp)]
  rfl
end
end Go.Proofs.YtinnphmnhmdcgaaGreat.Am
namespace Go.Proofs.YtinnphmnhmdcgaaGreat.Am
open Go.RowKit Go.MapKept
def KvA (x:AV)(v:Value):Prop:=∀ w vs m u,RV w vs m x u→u=v
structure KeyA (P:Program)(k:TypeId)(K:Value→Prop):Prop where
 check:∀ (w:World) (em:Bool) (v:Value),K v→(Instr.checkKey em 10000 k v).run P w=.ok () w
 find:∀ (w:World) (x:Value),K x→∀ es:List MapEntry,(∀ e∈es,K e.key) →
  ((Instr.findKey k x es).run P w=.ok none w∧∀ e∈es,e.key≠x)∨∃ j e,(Instr.findKey k x es).run P w=.ok (some (j,e.val)) w∧es[j]?=some e∧e.key=x
 stays:∀ (w:World) (v:Value),K v→(Instr.keyThatStays v v).run P w=.ok v w
def mE {κ ν:Type}(ek:κ→Value)(ev:ν→AV)(M:List (κ×ν)):List (List AV):=M.map fun p=>[.c (ek p.1),ev p.2]
def mB {κ ν:Type}(ek:κ→Value)(ev:ν→AV)(M:List (κ×ν)):Blk:=⟨1000000,2,true,mE ek ev M⟩
theorem flatE_at : ∀ (es:List MapEntry)(k:Nat)(e:MapEntry),es[k]?=some e→(flatE es)[k*2]?=some e.key∧(flatE es)[k*2+1]?=some e.val
 | [],k,e,h=>by simp at h
 | x :: r,0,e,h=>by simp at h;subst h;exact⟨rfl,rfl⟩
 | x :: r,k+1,e,h=>by
  have:=flatE_at r k e (by simpa using h)
  rw[show(k+1)*2=k*2+1+1 from by omega]
  exact this
theorem flatE_len (es:List MapEntry):(flatE es).length=es.length*2:=by
 induction es with
 | nil=>rfl
 | cons x r ih=>show(x.key :: x.val :: flatE r).length=_;simp[ih];omega
section
variable {C : Cx} {n : Nat} {w0 : World} {X : XX} {τ : Nat → AV} {η : Nat → Ent} {m : MM} {a : Act} {w : World} {κ ν : Type} {ek : κ → Value} {ev : ν → AV} {M : List (κ × ν)}
theorem Rep.mapAt (h:Rep C n w0 X τ η m a w){i ver:Nat}(hi:η i=⟨ver,some (mB ek ev M)⟩){v:Value}(hv:RV w (shp η) m (.mp i ver) v) :
  ∃ b es clock,v=.map (some b)∧m i=some b∧w.heap[b]?=some (.map es clock)∧es.toList.Pairwise (fun x y=>x.key≠y.key)∧es.size=M.length ∧
   ∀ (j:Nat) (p:κ×ν),M[j]?=some p→∃ e,es[j]?=some e∧e.key=ek p.1∧RV w (shp η) m (ev p.2) e.val:=by
 obtain⟨b,e1,rfl⟩:=rv_mp hv hi
 have hok:=h.mem.ok i _ (by rw[hi])
 rw[e1]at hok
 obtain⟨arr,a1,a2,a3⟩:=hok
 obtain⟨es,c,h1,h2,h3,_,h5⟩:=a1.2 rfl
 have hl:es.size=M.length:=by rw[← h3];simp[mB,mE]
 refine⟨b,es,c,rfl,e1,h1,h5,hl,fun j p hp=>?_⟩
 have hlt:j<es.size:=by rw[hl];exact(gS_.1 hp).1
 have hej:=aE_ hlt
 refine⟨es[j],hej,?_⟩
 obtain⟨f1,f2⟩:=flatE_at es.toList j es[j] (by simp)
 have hel:(mB ek ev M).els[j]?=some [.c (ek p.1),ev p.2]:=by simp[mB,mE,hp]
 obtain⟨_,q⟩:=a3 j _ hel
 obtain⟨u,u1,_,u3⟩:=q 0 (.c (ek p.1)) rfl
 obtain⟨u',u1',_,u3'⟩:=q 1 (ev p.2) rfl
 subst h2
 have hk:(mB ek ev M).sz=2:=rfl
 rw[hk]at u1 u1'
 simp only[Nat.add_zero,List.getElem?_toArray]at u1 u1'
 rw[f1]at u1
 rw[f2]at u1'
 injection u1 with u1
 injection u1' with u1'
 rw[u1,u1']
 exact⟨rv_c u3,u3'⟩
theorem map_find [DecidableEq κ]{K:Value→Prop}{k:TypeId}(hK:KeyA C.P k K)(hinj:∀ x y:κ,ek x=ek y→x=y)(hKe:∀ x:κ,K (ek x)){es:Array MapEntry}(hpw:es.toList.Pairwise (fun x y=>x.key≠y.key))(hl:es.size=M.length)
  (hrd:∀ (j:Nat) (p:κ×ν),M[j]?=some p→∃ e,es[j]?=some e∧e.key=ek p.1∧RV w (shp η) m (ev p.2) e.val) (x:κ) :
  ((Instr.findKey k (ek x) es.toList).run C.P w=.ok none w∧getM M x=none∧(∀ p∈M,p.1≠x)∧∀ e∈es.toList,e.key≠ek x) ∨
   ∃ j e u,(Instr.findKey k (ek x) es.toList).run C.P w=.ok (some (j,e.val)) w∧es[j]?=some e∧e.key=ek x∧M[j]?=some (x,u)∧RV w (shp η) m (ev u) e.val∧getM M x=some u∧∀ i,i<j→∀ p,M[i]?=some p→p.1≠x:=by
 have hkeys:∀ (j:Nat) (e:MapEntry),es[j]?=some e→∃ p,M[j]?=some p∧e.key=ek p.1∧RV w (shp η) m (ev p.2) e.val:=fun j e he=>by
  have hlt:j<M.length:=by rw[← hl];exact(Array.getElem?_eq_some_iff.1 he).1
  obtain⟨e',g1,g2,g3⟩:=hrd j _ (gE_ hlt)
  rw[he]at g1
  injection g1 with g1
  subst g1
  exact⟨_,gE_ hlt,g2,g3⟩
 have hall:∀ e∈es.toList,K e.key:=fun e he=>by
  obtain⟨j,hj⟩:=List.getElem?_of_mem he
  obtain⟨p,_,q,_⟩:=hkeys j e (by simpa using hj)
  rw[q]
  exact hKe _
 rcases hK.find w (ek x) (hKe x) es.toList hall with⟨h1,h2⟩|⟨j,e,h1,h2,h3⟩
 ·have hne:∀ p∈M,p.1≠x:=fun p hp e=>by
   obtain⟨j,hj⟩:=List.getElem?_of_mem hp
   obtain⟨e',g1,g2,_⟩:=hrd j p hj
   exact h2 e' (mG_ (by simpa using g1)) (by rw[g2,e])
  exact .inl ⟨h1,getM_none hne,hne,h2⟩
 ·have h2':es[j]?=some e:=by simpa using h2
  obtain⟨⟨x',u⟩,g1,g2,g3⟩:=hkeys j e h2'
  have:=hinj x' x (by rw[← g2,h3])
  subst this
  have hfirst:∀ i,i<j→∀ p,M[i]?=some p→p.1≠x':=fun i hij p hp e0=>by
   obtain⟨e',q1,q2,_⟩:=hrd i p hp
   have hi':es.toList[i]?=some e':=by simpa using q1
   have:=List.pairwise_iff_getElem.1 hpw i j (gS_.1 hi').1 (gS_.1 h2).1 hij
   rw[(gS_.1 hi').2,(gS_.1 h2).2,q2,h3,e0]at this
   exact this rfl
  exact .inr ⟨j,e,u,h1,h2',h3,g1,g3,getM_at g1 hfirst,hfirst⟩
end
section
variable {C : Cx} {n : Nat} {o : Oper} {τ : Nat → AV} {η : Nat → Ent} {κ ν : Type} [DecidableEq κ] {ek : κ → Value} {ev : ν → AV} {M : List (κ × ν)} {t k e : TypeId} {K : Value → Prop}
theorem lf_mapget {x y:Operand}{i ver:Nat}{q:κ}{te:TI}(z:ν)(hK:KeyA C.P k K)(hinj:∀ x y:κ,ek x=ek y→x=y)(hKe:∀ x:κ,K (ek x))
  (ho:o.op=.lookup t x y false) (hd:InB n o.dst) (hx:evA τ x=.mp i ver) (hi:η i=⟨ver,some (mB ek ev M)⟩) (hy:KvA (evA τ y) (ek q)) (ht:C.P.underlying t=some (.map k e)) (hte:TyOk C.P e te) (hz:∀ w vs m,RV w vs m (ev z) te.zero) :
  LF C n o τ η ⟨ev ((getM M q).getD z),[],[i]⟩:=by
 refine lf_pure hd (fun τ' η' g1 g2=>?_)
 intro w0 X mm a w h
 have hi':η' i=⟨ver,some (mB ek ev M)⟩:=(g2 i (mI_.2 rfl)).trans hi
 have e1:=h.ev x
 have e2:=h.ev y
 rw[g1 x (by simp[ho,Op.operands]),hx]at e1
 rw[g1 y (by simp[ho,Op.operands])]at e2
 obtain⟨b,es,clock,hu,hb,hh,hpw,hl,hrd⟩:=h.mapAt hi' e1
 have hy':=hy _ _ _ _ e2
 have hchk:=hK.check w es.isEmpty (ek q) (hKe q)
 rcases map_find (C:=C) hK hinj hKe hpw hl hrd q with⟨h1,h2,_,_⟩|⟨j,e',u,h1,_,_,_,h5,h6,_⟩
 ·refine⟨te.zero,?_,by rw[h2];exact hz _ _ _⟩
  simp[execOp,ho,hu,hy',Instr.lookup,run_underlying ht,MapKept.run_getObj_map hh,hchk,h1,hte.zeroV,Result.andThen]
 ·refine⟨e'.val,?_,by rw[h6];exact h5⟩
  simp[execOp,ho,hu,hy',Instr.lookup,run_underlying ht,MapKept.run_getObj_map hh,hchk,h1,Result.andThen]
end
section
variable {C : Cx} {n : Nat} {w0 : World} {X : XX} {τ : Nat → AV} {η : Nat → Ent} {m : MM} {a : Act} {w : World}
theorem Rep.wr (h:Rep C n w0 X τ η m a w){i ver b:Nat}{B:Blk}{els':List (List AV)}{w':World}(hi:η i=⟨ver,some B⟩)(hb:m i=some b)(hg:w.grownBy w' (some b))(hsh:∀ b',w'.shape? b'=w.shape? b')
  (hnew:Mono w (shp η) m w' (shp η) m→BlkOk w' (shp η) m { B with els:=els' } (some b)):Rep C n w0 X τ (updE η i ⟨ver,some { B with els:=els' }⟩) m a w':=by
 have hl:(η i).blk≠none:=by rw[hi];simp
 have hs:shp (updE η i ⟨ver,some { B with els:=els' }⟩)=shp η:=shp_upd hi rfl
 have hm0:Mono w (shp η) m w' (shp η) m:=by
  refine⟨hg.size,fun b' hb' ho=>hg.block b' hb' (fun e=>?_),fun _ _ h=>h,fun _=>Nat.le_refl _,fun _ _=>⟨rfl,fun _=>⟨rfl,fun b' _=>hsh b'⟩⟩⟩
  injection e with e
  subst e
  exact ho (.inr ⟨i,blk_live.2 hl,hb⟩)
 have hm:Mono w (shp η) m w' (shp (updE η i ⟨ver,some { B with els:=els' }⟩)) m:=by rw[hs];exact hm0
 refine h.move hm (h.mem.upd hm (fun _ _=>rfl) (fun i' b' hi' hl' hb'=>hg.block b' (h.mem.lt hl' hb') (fun e=>?_)) (fun B' hB'=>?_) (fun i' b' hi' hl' hb' _ e=>?_) (fun b' _ hb'=>h.mem.low i b' hl hb') rfl (fun b' _ hb'=>h.mem.sep i b' hl hb')) (h.kin.grown hg (fun b' e=>?_)) rfl (fun i' b' hl' hb'=>?_) (fun k _=>by by_cases e:k=i <;> simp[updE,e,hi])
 ·injection e with e
  subst e
  exact hi' (h.mem.inj i' i b' hl' hl hb' hb)
 ·injection hB' with hB'
  subst hB'
  rw[hb,hs]
  exact hnew hm0
 ·exact hi' (h.mem.inj i' i b' hl' hl hb' e)
 ·injection e with e
  subst e
  exact h.own i b hl hb
 ·by_cases e:i'=i
  ·subst e;exact h.own i' b' hl hb'
  ·exact h.own i' b' (by simpa [updE,e] using hl') hb'
theorem Rep.freshM (h:Rep C n w0 X τ η m a w){i ver:Nat}(hin:i<n)(hv:(η i).ver<ver) :
  Rep C n w0 X τ (updE η i ⟨ver,some ⟨1000000,2,true,[]⟩⟩) (newM m i (some w.heap.size)) a (w.alloc (.map #[] 0)):=by
 have hg:=World.grownBy_alloc w (.map #[] 0) none
 have hm:Mono w (shp η) m (w.alloc (.map #[] 0)) (shp (updE η i ⟨ver,some ⟨1000000,2,true,[]⟩⟩)) (newM m i (some w.heap.size)):=mono_fresh h.mem hg hv (fun b e=>by injection e with e;omega)
 refine h.move hm (h.mem.upd hm (fun i' hi=>newM_other _ _ hi) (fun i' b _ hl hb=>hg.block b (h.mem.lt hl hb) (by simp)) (fun B' hB'=>?_) (fun i' b _ hl hb _=>?_) (fun b _ hb=>?_) rfl (fun b _ hb ho=>?_)) (h.kin.grown hg (fun b e=>by cases e)) rfl (fun i' b hl hb=>?_) (fun k hk=>by simp[updE,show k≠i from by omega])
 ·injection hB' with hB'
  subst hB'
  rw[newM_same]
  exact⟨#[],⟨fun e=>(by cases e),fun _=>⟨#[],0,heap_alloc_new w _,rfl,rfl,rfl,List.Pairwise.nil⟩⟩,by simp,fun k e he=>by simp at he⟩
 ·rw[newM_same]
  intro e
  injection e with e
  have:=h.mem.lt hl hb
  omega
 ·rw[newM_same]at hb
  injection hb with hb
  have:=h.mem.big
  omega
 ·rw[newM_same]at hb
  injection hb with hb
  have:=(h.mem.olt b ho).1
  omega
 ·by_cases hi:i'=i
  ·subst hi
   rw[newM_same]at hb
   injection hb with hb
   have:=h.kin.size
   exact .inr (by omega)
  ·rw[newM_other _ _ hi]at hb
   exact h.own i' b (by simpa [updE,hi] using hl) hb
end
section
variable {C : Cx} {n : Nat} {o : Oper} {τ : Nat → AV} {η : Nat → Ent} {κ ν : Type} {ek : κ → Value} {ev : ν → AV} {M : List (κ × ν)} {t k e : TypeId} {K : Value → Prop}
theorem lf_mapnew {d ver:Nat}(ek:κ→Value)(ev:ν→AV)(ho:o.op=.makeMap t none)(hd:o.dst=some d)(hn:d<n)(hv:(η d).ver=ver):LF C n o τ η ⟨.mp d (ver+1),[(d,⟨ver+1,some (mB ek ev [])⟩)],[]⟩:=by
 intro τ' η' g1 g2
 have hv':(η' d).ver=ver:=by rw[g2 d (.inr (by simp[Foot.ids]))];exact hv
 intro w0 X m a w h
 have hr:=h.freshM (i:=d) (ver:=ver+1) hn (by omega)
 have hrun:(execOp a.eval o).run C.P w=.ok (.value (.map (some w.heap.size))) (w.alloc (.map #[] 0)):=by
  simp[execOp,ho,Instr.makeMap,newObj,Sem.run]
 unfold Oper.wp
 rw[hrun]
 refine⟨_,hr.put (by rw[hd];exact hn) ?_⟩
 exact .mp (sz:=2) (by simp[shp,updE]) (newM_same _ _ _)
theorem lf_mapset [DecidableEq κ]{x y z:Operand}{i ver:Nat}{q:κ}{v:ν}(hK:KeyA C.P k K)(hinj:∀ x y:κ,ek x=ek y→x=y)(hKe:∀ x:κ,K (ek x))
  (ho:o.op=.mapUpdate t x y z) (hd:o.dst=none) (hx:evA τ x=.mp i ver) (hi:η i=⟨ver,some (mB ek ev M)⟩) (hy:KvA (evA τ y) (ek q)) (hz:evA τ z=ev v) (ht:C.P.underlying t=some (.map k e)) :
  LF C n o τ η ⟨.dead,[(i,⟨ver,some (mB ek ev (setM M q v))⟩)],[]⟩:=by
 intro τ' η' g1 g2
 intro w0 X mm a w h
 have hi':η' i=⟨ver,some (mB ek ev M)⟩:=(g2 i (.inr (by simp[Foot.ids]))).trans hi
 have e1:=h.ev x
 have e2:=h.ev y
 have e3:=h.ev z
 rw[g1 x (by simp[ho,Op.operands]),hx]at e1
 rw[g1 y (by simp[ho,Op.operands])]at e2
 rw[g1 z (by simp[ho,Op.operands]),hz]at e3
 obtain⟨b,es,clock,hu,hb,hh,hpw,hl,hrd⟩:=h.mapAt hi' e1
 have hy':=hy _ _ _ _ e2
 have hchk:=hK.check w false (ek q) (hKe q)
 have fin:∀ (es':Array MapEntry) (c':Nat),(execOp a.eval o).run C.P w=.ok .skip { w with heap:=w.heap.setIfInBounds b (.map es' c') }→es'.toList.Pairwise (fun x y=>x.key≠y.key)→es'.size=(setM M q v).length →
   (∀ (j:Nat) (p:κ×ν),(setM M q v)[j]?=some p→∃ e,es'[j]?=some e∧e.key=ek p.1∧RV w (shp η') mm (ev p.2) e.val) →
   o.wp C.P a w (fun a' w'=>∃ m',Rep C n w0 X (putA τ' o.dst .dead) (updAll η' [(i,⟨ver,some (mB ek ev (setM M q v))⟩)]) m' a' w') (fun _ _ _=>False):=by
  intro es' c' hrun hpw' hl' hrd'
  obtain⟨s1,s2⟩:=heap_set (o':=.map es' c') hh
  have hg:w.grownBy { w with heap:=w.heap.setIfInBounds b (.map es' c') } (some b):=⟨rfl,rfl,rfl,by simp,fun i _ hi=>s2 i (fun e=>hi (by rw[e]))⟩
  have hr:=h.wr (els':=mE ek ev (setM M q v)) hi' hb hg (fun b'=>by
   unfold World.shape?
   by_cases eb:b'=b
   ·subst eb;simp only[s1,hh]
   ·simp only[s2 b' eb]) (fun hm=>by
   refine⟨(flatE es'.toList).toArray,⟨fun e=>(by cases e),fun _=>⟨es',c',s1,rfl,by simp[mE,hl'],rfl,hpw'⟩⟩,by simp[mE,mB,flatE_len,hl'],fun j e he=>?_⟩
   have he':((setM M q v).map fun p=>[AV.c (ek p.1),ev p.2])[j]?=some e:=he
   rw[List.getElem?_map]at he'
   obtain⟨p,hp,hpe⟩:=Option.map_eq_some_iff.1 he'
   subst hpe
   obtain⟨e',q1,q2,q3⟩:=hrd' j p hp
   obtain⟨f1,f2⟩:=flatE_at es'.toList j e' (by simpa using q1)
   refine⟨rfl,fun c y hc=>?_⟩
   match c with
   | 0=>simp at hc;subst hc;exact⟨e'.key,by simpa [mB] using f1,fun e=>(by cases e),by rw[q2];exact .c _⟩
   | 1=>simp at hc;subst hc;exact⟨e'.val,by simpa [mB] using f2,fun e=>(by cases e),q3.mono hm⟩
   | c+2=>simp at hc)
  unfold Oper.wp
  rw[hrun]
  refine⟨mm,?_⟩
  rw[hd]
  exact hr
 rcases map_find (C:=C) hK hinj hKe hpw hl hrd q with⟨h1,_,hne,hne2⟩|⟨j,e',u,h1,h2,h3,h4,h5,_,h7⟩
 ·refine fin (es.push ⟨ek q,a.eval z,clock⟩) (clock+1) ?_ ?_ ?_ ?_
  ·simp[execOp,ho,hu,hy',Instr.mapUpdate,run_underlying ht,MapKept.run_getObj_map hh,hchk,h1,MapKept.run_setObj_map _ hh,Result.andThen]
  ·rw[Array.toList_push]
   exact List.pairwise_append.2 ⟨hpw,List.pairwise_singleton _ _,fun x hx y hy=>by rw[mI_.1 hy];exact hne2 x hx⟩
  ·rw[setM_none hne];simp[hl]
  ·intro j p hp
   rw[setM_none hne]at hp
   rcases Nat.lt_or_ge j M.length with hj|hj
   ·rw[List.getElem?_append_left hj]at hp
    obtain⟨e',q1,q2,q3⟩:=hrd j p hp
    have hjs:j<es.size:=by rw[hl];exact hj
    exact⟨e',by rw[Array.getElem?_push,if_neg (by omega)];exact q1,q2,q3⟩
   ·rw[List.getElem?_append_right hj]at hp
    have hj0:j-M.length=0:=by
     have:=(gS_.1 hp).1
     simp at this
     omega
    rw[hj0]at hp
    simp at hp
    subst hp
    exact⟨⟨ek q,a.eval z,clock⟩,by rw[Array.getElem?_push,if_pos (by omega)],rfl,e3⟩
 ·have hjl:j<es.size:=(Array.getElem?_eq_some_iff.1 h2).1
  refine fin (es.modify j (fun x=>{ x with key:=ek q,val:=a.eval z })) clock ?_ ?_ ?_ ?_
  ·have hst:=hK.stays w (ek q) (hKe q)
   simp[execOp,ho,hu,hy',Instr.mapUpdate,run_underlying ht,MapKept.run_getObj_map hh,hchk,h1,h2,h3,hst,MapKept.run_setObj_map _ hh,Result.andThen]
  ·have:((es.modify j (fun x=>{ x with key:=ek q,val:=a.eval z })).toList.map (·.key))=es.toList.map (·.key):=by
    apply List.ext_getElem?
    intro i
    simp only[List.getElem?_map,Array.getElem?_toList,Array.getElem?_modify]
    by_cases hij:j=i
    ·subst hij
     rw[if_pos rfl,h2]
     simp[h3]
    ·rw[if_neg hij]
   have h8:(es.toList.map (·.key)).Pairwise (·≠·):=List.pairwise_map.2 hpw
   rw[← this]at h8
   exact List.pairwise_map.1 h8
  ·rw[setM_at h4 h7];simp[hl]
  ·intro i p hp
   rw[setM_at h4 h7]at hp
   by_cases hij:j=i
   ·subst hij
    rw[List.getElem?_set_self (by omega)]at hp
    simp at hp
    subst hp
    exact⟨{ e' with key:=ek q,val:=a.eval z },by rw[Array.getElem?_modify,if_pos rfl,h2];rfl,rfl,e3⟩
   ·rw[List.getElem?_set_ne hij]at hp
    obtain⟨e'',q1,q2,q3⟩:=hrd i p hp
    exact⟨e'',by rw[Array.getElem?_modify,if_neg hij];exact q1,q2,q3⟩
end
def vI (x:Int):AV:=.c (.int .i64 x)
def vB (x:Bool):AV:=.c (.bool x)
def vS (x:ByteArray):AV:=.c (.string x)
class FrM {ν:Type}(ev:ν→AV):Prop where
 h:∀ x,Fr (ev x)
instance : FrM vI:=⟨fun _=>.c _⟩
instance : FrM vB:=⟨fun _=>.c _⟩
instance : FrM vS:=⟨fun _=>.c _⟩
theorem FrL_mE {κ ν:Type}{ek:κ→Value}{ev:ν→AV}(hv:∀ x,Fr (ev x))(M:List (κ×ν)):FrL (mE ek ev M):=by
 intro e he x hx
 obtain⟨p,_,rfl⟩:=List.mem_map.1 he
 rcases List.mem_cons.1 hx with rfl|hx
 ·exact .c _
 ·rw[mI_.1 hx];exact hv _
instance {κ ν:Type}{ek:κ→Value}{ev:ν→AV}[a:FrM ev]{M:List (κ×ν)}:FrI (mE ek ev M):=⟨FrL_mE a.h M⟩
instance {κ ν:Type}{ek:κ→Value}{ev:ν→AV}[a:FrM ev]{M:List (κ×ν)}:FrI (mB ek ev M).els:=⟨FrL_mE a.h M⟩
end Go.Proofs.YtinnphmnhmdcgaaGreat.Am
namespace Go.Proofs.YtinnphmnhmdcgaaGreat.Am
open Go.RowKit Go.MapKept Go.WideShapes
def K3 (v:Value):Prop:=∃ a b c:Int,v=.agg #[.int .i64 a,.int .i64 b,.int .i64 c]
section
variable {P : Program} {k e : TypeId} {te : TI}
theorem run_part3 (hte:TyOk P e te)(hk:te.kind=.int .i64)(w:World)(xs:Array Value)(i:Nat)(x:Value)(hx:xs[i]?=some x):(part e xs i).run P w=.ok x w:=by
 have ha:=hte.isAgg (w:=w)
 rw[hk]at ha
 simp[part,ha,TK.agg,hx]
theorem run_check3 (hu:P.underlying k=some (.array 3 e))(he:P.underlying e=some (.int .i64))(hte:TyOk P e te)(hk:te.kind=.int .i64)(hsz:te.sz=1)(em:Bool)(n:Nat)(w:World)(a b c:Int):(Instr.checkKey em (n+1+1) k (.agg #[.int .i64 a,.int .i64 b,.int .i64 c])).run P w=.ok () w:=by
 have p0:(part e #[.int .i64 a,.int .i64 b,.int .i64 c] 0).run P w=.ok (.int .i64 a) w:=run_part3 hte hk w _ _ _ rfl
 have p1:(part e #[.int .i64 a,.int .i64 b,.int .i64 c] 1).run P w=.ok (.int .i64 b) w:=run_part3 hte hk w _ _ _ rfl
 have p2:(part e #[.int .i64 a,.int .i64 b,.int .i64 c] 2).run P w=.ok (.int .i64 c) w:=run_part3 hte hk w _ _ _ rfl
 have hs:=hte.size (w:=w)
 rw[hsz]at hs
 have hin:∀ x:Int,(Instr.checkKey em (n+1) e (.int .i64 x)).run P w=.ok () w:=fun x=>by
  rw[Instr.checkKey]
  simp[run_underlying he]
 rw[Instr.checkKey]
 simp[run_underlying hu,p0,p1,p2,hs,hin,Std.Legacy.Range.forIn_eq_forIn_range',Std.Legacy.Range.size,List.range',List.forIn_cons]
theorem run_eq3 (hu:P.underlying k=some (.array 3 e))(he:P.underlying e=some (.int .i64))(hte:TyOk P e te)(hk:te.kind=.int .i64)(hsz:te.sz=1)(n:Nat)(w:World)(a b c a' b' c':Int):(Op.equalIn (n+1+1) k (.agg #[.int .i64 a,.int .i64 b,.int .i64 c]) (.agg #[.int .i64 a',.int .i64 b',.int .i64 c'])).run P w=.ok (a == a'&&(b == b'&&c == c')) w:=by
 have p0:(part e #[.int .i64 a,.int .i64 b,.int .i64 c] 0).run P w=.ok (.int .i64 a) w:=run_part3 hte hk w _ _ _ rfl
 have p1:(part e #[.int .i64 a,.int .i64 b,.int .i64 c] 1).run P w=.ok (.int .i64 b) w:=run_part3 hte hk w _ _ _ rfl
 have p2:(part e #[.int .i64 a,.int .i64 b,.int .i64 c] 2).run P w=.ok (.int .i64 c) w:=run_part3 hte hk w _ _ _ rfl
 have q0:(part e #[.int .i64 a',.int .i64 b',.int .i64 c'] 0).run P w=.ok (.int .i64 a') w:=run_part3 hte hk w _ _ _ rfl
 have q1:(part e #[.int .i64 a',.int .i64 b',.int .i64 c'] 1).run P w=.ok (.int .i64 b') w:=run_part3 hte hk w _ _ _ rfl
 have q2:(part e #[.int .i64 a',.int .i64 b',.int .i64 c'] 2).run P w=.ok (.int .i64 c') w:=run_part3 hte hk w _ _ _ rfl
 have hs:=hte.size (w:=w)
 rw[hsz]at hs
 have hin:∀ x y:Int,(Op.equalIn (n+1) e (.int .i64 x) (.int .i64 y)).run P w=.ok (x == y) w:=fun x y=>by
  rw[Op.equalIn]
  simp[run_underlying he]
 rw[Op.equalIn]
 have i0:=hin a a'
 have i1:=hin b b'
 have i2:=hin c c'
 cases h0:(a == a') <;> cases h1:(b == b') <;> cases h2:(c == c') <;> rw[h0]at i0 <;> rw[h1]at i1 <;> rw[h2]at i2 <;>
  simp[run_underlying hu,p0,p1,p2,q0,q1,q2,hs,i0,i1,i2,Std.Legacy.Range.forIn_eq_forIn_range',Std.Legacy.Range.size,List.range',List.forIn_cons]
theorem keyA_int3 (hu:P.underlying k=some (.array 3 e))(he:P.underlying e=some (.int .i64))(hte:TyOk P e te)(hk:te.kind=.int .i64)(hsz:te.sz=1):KeyA P k K3 where
 check w em v h:=by
  obtain⟨a,b,c,rfl⟩:=h
  exact run_check3 hu he hte hk hsz em 9998 w a b c
 find w x h es hes:=by
  have hwide:(match P.underlying k with|some (.array _ _)|some (.struct _)=>true|_=>false)=true:=by rw[hu]
  rw[run_findKey_eq w hwide]
  have go:∀ (es:List MapEntry) (i:Nat),(∀ e∈es,K3 e.key)→((Instr.findAsking k x es i).run P w=.ok none w∧∀ e∈es,e.key≠x)∨∃ j e,(Instr.findAsking k x es i).run P w=.ok (some (i+j,e.val)) w∧es[j]?=some e∧e.key=x:=by
   intro es
   induction es with
   | nil=>intro i _;exact .inl ⟨rfl,fun e he=>by cases he⟩
   | cons y r ih =>
    intro i hes
    obtain⟨a,b,c,rfl⟩:=h
    obtain⟨a',b',c',hy⟩:=hes y (mS_ ..)
    have heq:(Op.equal k (.agg #[.int .i64 a,.int .i64 b,.int .i64 c]) y.key).run P w=.ok (a == a'&&(b == b'&&c == c')) w:=by rw[hy];exact run_eq3 hu he hte hk hsz 9998 w a b c a' b' c'
    rw[Instr.findAsking]
    simp only[Sem.run_bind,heq,Result.andThen_ok]
    cases ht:(a == a'&&(b == b'&&c == c'))with
    | true =>
     simp only[bA_,beq_iff_eq]at ht
     obtain⟨rfl,rfl,rfl⟩:=ht
     exact .inr ⟨0,y,rfl,rfl,hy⟩
    | false =>
     rcases ih (i+1) (fun e he=>hes e (mC_ _ he))with⟨h1,h2⟩|⟨j,e0,h1,h2,h3⟩
     ·refine .inl ⟨h1,fun e he=>?_⟩
      rcases List.mem_cons.1 he with rfl|he
      ·rw[hy]
       intro e2
       injection e2 with e2
       injection e2 with e2
       simp at e2
       obtain⟨rfl,rfl,rfl⟩:=e2
       simp at ht
      ·exact h2 e he
     ·exact .inr ⟨j+1,e0,by rw[show i+(j+1)=i+1+j from by omega];exact h1,h2,h3⟩
  rcases go es 0 hes with h1|⟨j,e0,h1,h2,h3⟩
  ·exact .inl h1
  ·exact .inr ⟨j,e0,by rw[Nat.zero_add]at h1;exact h1,h2,h3⟩
 stays w v h:=by
  obtain⟨a,b,c,rfl⟩:=h
  have hs:∀ n:Nat,Instr.sameBits (n+1) (.agg #[.int .i64 a,.int .i64 b,.int .i64 c]) (.agg #[.int .i64 a,.int .i64 b,.int .i64 c])=true:=fun n=>by
   rw[Instr.sameBits]
   simp[Instr.sameBits]
  have:=hs 9999
  simp[Instr.keyThatStays,this]
end
def k3 (q:Int×Int×Int):Value:=.agg #[.int .i64 q.1,.int .i64 q.2.1,.int .i64 q.2.2]
theorem k3_inj (x y:Int×Int×Int)(h:k3 x=k3 y):x=y:=by
 obtain⟨a,b,c⟩:=x
 obtain⟨a',b',c'⟩:=y
 unfold k3 at h
 injection h with h
 simp at h
 obtain⟨rfl,rfl,rfl⟩:=h
 rfl
theorem k3_is (x:Int×Int×Int):K3 (k3 x):=⟨_,_,_,rfl⟩
theorem kv3 {a b c:Int}:KvA (.agg [.c (.int .i64 a),.c (.int .i64 b),.c (.int .i64 c)]) (k3 (a,b,c)):=by
 intro w vs m u h
 obtain⟨us,rfl,hl,hr⟩:=rv_agg h
 have hs:us.size=3:=hl.symm
 have h0:=rv_c (hr 0 _ (us[0]'(by omega)) rfl (aE_ (by omega)))
 have h1:=rv_c (hr 1 _ (us[1]'(by omega)) rfl (aE_ (by omega)))
 have h2:=rv_c (hr 2 _ (us[2]'(by omega)) rfl (aE_ (by omega)))
 have:us=#[.int .i64 a,.int .i64 b,.int .i64 c]:=by
  apply Array.ext
  ·rw[hs];rfl
  ·intro i g1 g2
   have g3:i<3:=by omega
   match i,g3 with
   | 0,_=>exact h0
   | 1,_=>exact h1
   | 2,_=>exact h2
 rw[this]
 rfl
end Go.Proofs.YtinnphmnhmdcgaaGreat.Am
namespace Go.Proofs.YtinnphmnhmdcgaaGreat.Am
open Go.RowKit
def oGCause : Option GCause→AV
 | none=>.c (.pointer none)
 | some x=>.pim [.sl 1 (x.states.map cL_cF)] 0
instance {z:Option GCause}:FrV (oGCause z):=⟨by cases z with
 | none=>exact .c _
 | some x=>exact FrV.h (x:=.pim [.sl 1 (x.states.map cL_cF)] 0)⟩
instance : FrM oGCause:=⟨fun _=>FrV.h⟩
def M_stratagem_mutex_Table_made_L1 (a0:GTable)(a1:List Fact)(g:Nat):Nat→Int→(List ((Int×Int×Int)×(Option GCause)))→Option (Bool×Er×(List ((Int×Int×Int)×(Option GCause))))|0,_,_=>none|k47+1,v45,v46=>sel (decide (v45<((a0.t.Ops.map cGOp).length:Int))) (ix a0.t.Ops v45 (fun y48=>ob1 (M_mutex_touches y48 a1) (fun z49=>sel (!z49) (M_stratagem_mutex_Table_made_L1 a0 a1 g k47 (IntKind.i64.wrap (v45+1)) v46) (ix a1 0 (fun y50=>ob1 (M_stratagem_mutex_Table_number a0 y50) (fun z51=>ix a1 (IntKind.i64.wrap (((a1.map cF).length:Int)-1)) (fun y52=>ob1 (M_stratagem_mutex_Table_number a0 y52) (fun z53=>ob1 (opM ((getM v46 (z51,z53,v45)).getD none) (ob2 (M_g_Regress g a0.t v45 a1) (fun z65 z66=>erM z66 (some (.inl (({ states:=z65:GCause }).states,(setM v46 (z51,z53,v45) (some ({ states:=z65:GCause })))))) (fun e67=>some (.inr (false,(Er.no e67),v46))))) (fun z64=>some (.inl (z64.states,v46))):Option (((List (List Fact))×(List ((Int×Int×Int)×(Option GCause))))⊕(Bool×Er×(List ((Int×Int×Int)×(Option GCause)))))) (osum (fun(v58,v59)=>ob1 (M_s_ContainsFunc_Fact v58 (M_stratagem_mutex_Table_holds a0)) (fun z68=>sel z68 (some (true,Er.nil,v59)) (M_stratagem_mutex_Table_made_L1 a0 a1 g k47 (IntKind.i64.wrap (v45+1)) v59))) (fun(r60,r61,r62)=>some (r60,r61,r62))))))))))) (some (false,Er.nil,v46))
def M_stratagem_mutex_Table_made (g:Nat)(a0:GTable)(a1:List Fact)(a2:List ((Int×Int×Int)×(Option GCause))):Option (Bool×Er×(List ((Int×Int×Int)×(Option GCause)))):=M_stratagem_mutex_Table_made_L1 a0 a1 g ((((a0.t.Ops.map cGOp).length:Int)).toNat+1) 0 a2
set_option maxHeartbeats 16000000 in
set_option maxRecDepth 100000 in
theorem A_stratagem_mutex_Table_made (g:Nat)(a0:GTable)(a1:List Fact)(a2:List ((Int×Int×Int)×(Option GCause))){r1:Bool}{r2:Er}{r3:List ((Int×Int×Int)×(Option GCause))}(h:M_stratagem_mutex_Table_made g a0 a1 a2=some (r1,r2,r3)):ACallG cx 44 [.pim [.sl 1 (a0.t.Vars.map cI),.sl 1 (a0.t.Init.map cI),.sl 2 (a0.t.Goal.map cF),.sl 4 (a0.t.Ops.map cGOp),.sl 1 (a0.first.map cI),.sl 1 (a0.reached.map cL_cB)] 0,.sl 2 (a1.map cF),.mp 78 0] [(78,mB k3 oGCause a2)] [78] (.tup [.c (.bool r1),eA r2]) [(78,mB k3 oGCause r3)]:=by
 refine acallg_of 79 Tryz.func44 rfl (by decide) rfl (bT2 rfl) rfl rfl ?_;intro _;unfold M_stratagem_mutex_Table_made at h;refine aSR ?_;intro _;refine dr (aSq (aSR ?_));intro _;refine dr (aBk ?_);refine awp_loop (α:=Nat×Int×(List ((Int×Int×Int)×(Option GCause)))) (fun x=>mkG 76 79 [(0,.pim [.sl 1 (a0.t.Vars.map cI),.sl 1 (a0.t.Init.map cI),.sl 2 (a0.t.Goal.map cF),.sl 4 (a0.t.Ops.map cGOp),.sl 1 (a0.first.map cI),.sl 1 (a0.reached.map cL_cB)] 0),(1,.sl 2 (a1.map cF)),(2,.mp 78 0),(18,.sl 4 (a0.t.Ops.map cGOp)),(19,.c (.int .i64 ((a0.t.Ops.map cGOp).length:Int))),(20,.c (.int .i64 x.2.1))] [(78,mB k3 oGCause x.2.2)]) (fun x=>M_stratagem_mutex_Table_made_L1 a0 a1 g x.1 x.2.1 x.2.2=some (r1,r2,r3)) (fun x=>x.1) ((((a0.t.Ops.map cGOp).length:Int)).toNat+1,0,a2) h ?_ ?_
 ·exact ca_0
 ·intro x1 h;intro _;obtain⟨k47,m2,h⟩:=succ_of (f:=fun n=>M_stratagem_mutex_Table_made_L1 a0 a1 g n x1.2.1 x1.2.2) rfl h;replace h:M_stratagem_mutex_Table_made_L1 a0 a1 g (k47+1) x1.2.1 x1.2.2=some (r1,r2,r3):=h;rw[M_stratagem_mutex_Table_made_L1]at h;refine aSR ?_;intro _;refine dr (aSq (aCd ?_));intro _;refine spl h (fun c3 h=>?_) (fun c3 h=>?_)
  ·refine aSk (aSq (aBk (aSR ?_)));intro _;obtain⟨y48,w4,q5,h⟩:=ix_ok h;refine Exists.intro (cGOp y48) (And.intro (map_at' w4) ?_);intro _;refine pr (dr (aSq (aSR ?_)));intro _;obtain⟨z49,u6,h⟩:=ob1_ok h;refine cl rfl (A_mutex_touches y48 a1 u6) ?_;intro _;refine dr (aCd ?_);intro _;refine spl h (fun c7 h=>?_) (fun c7 h=>?_)
   ·refine aEx (aRg ?_);intro _;refine dr ?_;refine⟨(k47,(IntKind.i64.wrap (x1.2.1+1)),x1.2.2),h,ltS m2,?_⟩;exact ca_0
   ·refine aSk (aSR ?_);intro _;obtain⟨y50,w8,q9,h⟩:=ix_ok h;refine Exists.intro (cF y50) (And.intro (map_at' w8) ?_);intro _;obtain⟨z51,u10,h⟩:=ob1_ok h;refine cl rfl (A_stratagem_mutex_Table_number a0 y50 u10) ?_;intro _;obtain⟨y52,w11,q12,h⟩:=ix_ok h;refine Exists.intro (cF y52) (And.intro (map_at' w11) ?_);intro _;obtain⟨z53,u13,h⟩:=ob1_ok h;refine cl rfl (A_stratagem_mutex_Table_number a0 y52 u13) ?_;intro _;refine pr (pr (dr (aSR ?_)));intro _;refine⟨_,lf_mapget (q:=(z51,z53,x1.2.1)) none (keyA_int3 Tryz.underlying111 Tryz.underlying3 (tyTab_ok 3 _ rfl) rfl rfl) k3_inj k3_is rfl (bT2 rfl) rfl rfl kv3 Tryz.underlying82 (tyTab_ok 112 _ rfl) (fun _ _ _=>.c _),?_⟩;intro _;refine dr ?_;obtain⟨o14,h,hK15⟩:=ob1_ok h;refine awp_cut (α:=(List (List Fact))×(List ((Int×Int×Int)×(Option GCause)))) (fun(v58,v59)=>mkG 76 79 [(0,.pim [.sl 1 (a0.t.Vars.map cI),.sl 1 (a0.t.Init.map cI),.sl 2 (a0.t.Goal.map cF),.sl 4 (a0.t.Ops.map cGOp),.sl 1 (a0.first.map cI),.sl 1 (a0.reached.map cL_cB)] 0),(1,.sl 2 (a1.map cF)),(2,.mp 78 0),(11,.pim [.sl 1 (v58.map cL_cF)] 0),(18,.sl 4 (a0.t.Ops.map cGOp)),(19,.c (.int .i64 ((a0.t.Ops.map cGOp).length:Int))),(20,.c (.int .i64 x1.2.1))] [(78,mB k3 oGCause v59)]) (fun v=>o14=(.inl v)) ?_ ?_
    ·refine aSq ?_;rcases hz16:((getM x1.2.2 (z51,z53,x1.2.1)).getD none)with _|z64
     ·rw[hz16]at h;replace h:=opM_none h;refine aRg ?_;intro _;refine⟨_,lf_nilQ rfl (bT2 rfl) rfl (by kernel_rfl) (.inl ⟨rfl,rfl⟩),?_⟩;intro _;refine dr (aCd ?_);intro _;refine litT (aSR ?_);intro _;obtain⟨z65,z66,u17,h⟩:=ob2_ok h;refine cl rfl (A_g_Regress g a0.t x1.2.1 a1 u17) ?_;intro _;refine dr (aSq (aSq ?_));rcases z66 with _|e67
      ·replace h:=erM_nil h;refine aRg ?_;intro _;refine dr (aCd ?_);intro _;refine litF (aSk (aSR ?_));intro _;refine dr ?_;refine awp_wk (mkG 76 79 [(0,.pim [.sl 1 (a0.t.Vars.map cI),.sl 1 (a0.t.Init.map cI),.sl 2 (a0.t.Goal.map cF),.sl 4 (a0.t.Ops.map cGOp),.sl 1 (a0.first.map cI),.sl 1 (a0.reached.map cL_cB)] 0),(1,.sl 2 (a1.map cF)),(2,.mp 78 0),(10,.ptr 10 0 0 0),(11,.pim [.sl 1 ((({ states:=z65:GCause }).states).map cL_cF)] 0),(18,.sl 4 (a0.t.Ops.map cGOp)),(19,.c (.int .i64 ((a0.t.Ops.map cGOp).length:Int))),(20,.c (.int .i64 x1.2.1))] [(10,⟨111,3,true,[[.c (.int .i64 z51),.c (.int .i64 z53),.c (.int .i64 x1.2.1)]]⟩),(78,mB k3 oGCause x1.2.2)]) ?_ ?_
       ·exact ca_0
       ·intro _;refine aRg ?_;intro _;refine⟨_,lf_mapset (q:=(z51,z53,x1.2.1)) (v:=(some ({ states:=z65:GCause }))) (keyA_int3 Tryz.underlying111 Tryz.underlying3 (tyTab_ok 3 _ rfl) rfl rfl) k3_inj k3_is rfl rfl rfl rfl kv3 rfl Tryz.underlying82,?_⟩;intro _;refine dr ?_;refine⟨(({ states:=z65:GCause }).states,(setM x1.2.2 (z51,z53,x1.2.1) (some ({ states:=z65:GCause })))),(sI_ h).symm,?_⟩;exact ca_0
      ·replace h:=erM_no h;refine aRg ?_;intro _;refine dr (aCd ?_);intro _;refine litT (aSR ?_);intro _;refine dr (aRt ?_);have j18:=sI_ h;subst j18;replace h:=(osum_r hK15);intro _;obtain⟨rfl,rfl,rfl⟩:=inj3 h;all_goals (refine Exists.intro [] (And.intro rfl (And.intro ?_ ?_)));all_goals (exact zg_0)
     ·rw[hz16]at h;replace h:=opM_some h;refine aRg ?_;intro _;refine⟨_,lf_nilP rfl (bT2 rfl) rfl (by kernel_rfl) (.inl ⟨rfl,rfl⟩),?_⟩;intro _;refine dr (aCd ?_);intro _;refine litF (aSk ?_);refine⟨(z64.states,x1.2.2),(sI_ h).symm,?_⟩;exact ca_0
    ·rintro⟨v58,v59⟩ ho;have ho:=ho.symm;subst ho;intro _;replace h:=(osum_l hK15);refine aSR ?_;intro _;refine⟨_,lf_func rfl (bT2 rfl) rfl rfl,?_⟩;intro _;obtain⟨z68,u19,h⟩:=ob1_ok h;refine clb [] rfl rfl (A_s_ContainsFunc_Fact v58 (M_stratagem_mutex_Table_holds a0) (.clo (.func 78) [.pim [.sl 1 (a0.t.Vars.map cI),.sl 1 (a0.t.Init.map cI),.sl 2 (a0.t.Goal.map cF),.sl 4 (a0.t.Ops.map cGOp),.sl 1 (a0.first.map cI),.sl 1 (a0.reached.map cL_cB)] 0] []) (Fr.clo FrE.h FrE.h) ⟨_,_,_,rfl⟩ (fun x0 y0 hx=>⟨78,_,_,rfl,A_stratagem_mutex_Table_holds a0 x0 hx⟩) u19) ?_;intro _;refine dr (aCd ?_);intro _;refine spl h (fun c20 h=>?_) (fun c20 h=>?_)
     ·refine aSR ?_;intro _;refine dr (aRt ?_);intro _;obtain⟨rfl,rfl,rfl⟩:=inj3 h;all_goals (refine Exists.intro [] (And.intro rfl (And.intro ?_ ?_)));all_goals (exact zg_0)
     ·refine aSk (aRg ?_);intro _;refine dr ?_;refine⟨(k47,(IntKind.i64.wrap (x1.2.1+1)),v59),h,ltS m2,?_⟩;exact ca_0
  ·refine aEx (aSR ?_);intro _;refine dr (aRt ?_);intro _;obtain⟨rfl,rfl,rfl⟩:=inj3 h;all_goals (refine Exists.intro [] (And.intro rfl (And.intro ?_ ?_)));all_goals (exact zg_0)
end Go.Proofs.YtinnphmnhmdcgaaGreat.Am
namespace Go.Proofs.YtinnphmnhmdcgaaGreat.Am
def M_stratagem_mutex_Table_made_L1_B (a0:GTable)(a1:List Fact)(g:Nat)(_y48:GOp)(v45:Int):((List ((Int×Int×Int)×(Option GCause))))→(((List ((Int×Int×Int)×(Option GCause))))→Option (Bool×Er×(List ((Int×Int×Int)×(Option GCause)))))→Option (Bool×Er×(List ((Int×Int×Int)×(Option GCause)))):=fun v46 rc=>ixv _y48 (fun y48=>ob1 (M_mutex_touches y48 a1) (fun z49=>sel (!z49) (rc (v46)) (ix a1 0 (fun y50=>ob1 (M_stratagem_mutex_Table_number a0 y50) (fun z51=>ix a1 (IntKind.i64.wrap (((a1.map cF).length:Int)-1)) (fun y52=>ob1 (M_stratagem_mutex_Table_number a0 y52) (fun z53=>ob1 (opM ((getM v46 (z51,z53,v45)).getD none) (ob2 (M_g_Regress g a0.t v45 a1) (fun z65 z66=>erM z66 (some (.inl (({ states:=z65:GCause }).states,(setM v46 (z51,z53,v45) (some ({ states:=z65:GCause })))))) (fun e67=>some (.inr (false,(Er.no e67),v46))))) (fun z64=>some (.inl (z64.states,v46))):Option (((List (List Fact))×(List ((Int×Int×Int)×(Option GCause))))⊕(Bool×Er×(List ((Int×Int×Int)×(Option GCause)))))) (osum (fun(v58,v59)=>ob1 (M_s_ContainsFunc_Fact v58 (M_stratagem_mutex_Table_holds a0)) (fun z68=>sel z68 (some (true,Er.nil,v59)) (rc (v59)))) (fun(r60,r61,r62)=>some (r60,r61,r62))))))))))
def M_stratagem_mutex_Table_made_L1_E (_:GTable)(_:List Fact)(_:Nat):((List ((Int×Int×Int)×(Option GCause))))→Option (Bool×Er×(List ((Int×Int×Int)×(Option GCause)))):=fun v46=>some (false,Er.nil,v46)
theorem M_stratagem_mutex_Table_made_L1_eq (a0:GTable)(a1:List Fact)(g:Nat)(v46:List ((Int×Int×Int)×(Option GCause)))(hl:a0.t.Ops.length<9223372036854775807):M_stratagem_mutex_Table_made_L1 a0 a1 g (((a0.t.Ops.map cGOp).length:Int).toNat+1) 0 v46=Rg (M_stratagem_mutex_Table_made_L1_B a0 a1 g) (M_stratagem_mutex_Table_made_L1_E a0 a1 g) a0.t.Ops 0 v46:=rg_e1 (L:=fun k i v46=>M_stratagem_mutex_Table_made_L1 a0 a1 g k i v46) hl (fun _ _ _=>rfl) v46
end Go.Proofs.YtinnphmnhmdcgaaGreat.Am
namespace Go.Proofs.YtinnphmnhmdcgaaGreat.Am
open Go.RowKit
theorem cfEff {l:List GEffect}{f:GEffect→Option Bool}{p:GEffect→Bool}(hl:Sh l)(h:∀ y∈l,f y=some (p y)):M_s_ContainsFunc_Effect l f=some (l.any p):=by
 have key:∀ (r:List GEffect) (n:Nat),(∀ y∈r,f y=some (p y))→∃ z,Rg (M_s_IndexFunc_Effect_L1_B l f) (M_s_IndexFunc_Effect_L1_E l f) r n ()=some z∧(0≤z↔r.any p=true):=by
  intro r
  induction r with
  | nil=>intro n _;exact⟨-1,rfl,by simp⟩
  | cons y r ih =>
   intro n hr
   rw[Rg]
   simp only[M_s_IndexFunc_Effect_L1_B,ixv,hr y (by simp),ob1_some]
   cases hp:p y
   ·obtain⟨z,h1,h2⟩:=ih (n+1) (fun w hw=>hr w (by simp[hw]))
    exact⟨z,h1,by rw[h2,List.any_cons,hp,Bool.false_or]⟩
   ·exact⟨n,rfl,by simp[hp]⟩
 obtain⟨z,h1,h2⟩:=key l 0 h
 rw[M_s_ContainsFunc_Effect,M_s_IndexFunc_Effect,M_s_IndexFunc_Effect_L1_eq _ _ hl.lt]
 rw[show((0:Nat):Int)=0 from rfl]at h1
 rw[h1,ob1_some]
 congr 1
 rw[Bool.eq_iff_iff,decide_eq_true_iff,ge_iff_le,h2]
theorem cfFact {l:List Fact}{f:Fact→Option Bool}{p:Fact→Bool}(hl:Sh l)(h:∀ y∈l,f y=some (p y)):M_s_ContainsFunc_FactL l f=some (l.any p):=by
 have key:∀ (r:List Fact) (n:Nat),(∀ y∈r,f y=some (p y))→∃ z,Rg (M_s_IndexFunc_FactL_L1_B l f) (M_s_IndexFunc_FactL_L1_E l f) r n ()=some z∧(0≤z↔r.any p=true):=by
  intro r
  induction r with
  | nil=>intro n _;exact⟨-1,rfl,by simp⟩
  | cons y r ih =>
   intro n hr
   rw[Rg]
   simp only[M_s_IndexFunc_FactL_L1_B,ixv,hr y (by simp),ob1_some]
   cases hp:p y
   ·obtain⟨z,h1,h2⟩:=ih (n+1) (fun w hw=>hr w (by simp[hw]))
    exact⟨z,h1,by rw[h2,List.any_cons,hp,Bool.false_or]⟩
   ·exact⟨n,rfl,by simp[hp]⟩
 obtain⟨z,h1,h2⟩:=key l 0 h
 rw[M_s_ContainsFunc_FactL,M_s_IndexFunc_FactL,M_s_IndexFunc_FactL_L1_eq _ _ hl.lt]
 rw[show((0:Nat):Int)=0 from rfl]at h1
 rw[h1,ob1_some]
 congr 1
 rw[Bool.eq_iff_iff,decide_eq_true_iff,ge_iff_le,h2]
def touchF (o:GOp)(p:List Fact):Bool:=o.Effs.any fun e=>p.any fun f=>f.1 == e.Var
theorem touches_eq (o:GOp)(p:List Fact)(ho:Sh o.Effs)(hp:Sh p):M_mutex_touches o p=some (touchF o p):=by
 rw[M_mutex_touches,cfEff (p:=fun e=>p.any fun f=>f.1 == e.Var) ho fun e _=>?_,ob1_some]
 ·rfl
 ·rw[M_mutex_touches_1,cfFact (f:=M_mutex_touches_1_1 e) (p:=fun f=>f.1 == e.Var) hp fun f _=>rfl,ob1_some]
def pset (a b:Fact):List Fact:=if a=b then[a]else[a,b]
theorem pset_0 {β:Type}(a b:Fact)(k:Fact→Option β):ix (pset a b) 0 k=k a:=by
 unfold pset
 split <;> exact ix_at (n:=0) rfl
theorem pset_1 {β:Type}(a b:Fact)(k:Fact→Option β):ix (pset a b) (IntKind.i64.wrap ((((pset a b).map cF).length:Int)-1)) k=k b:=by
 unfold pset
 split
 ·rename_i h
  subst h
  exact ix_at (n:=0) rfl
 ·exact ix_at (n:=1) rfl
theorem pset_mem {a b x:Fact}:x∈pset a b↔x=a∨x=b:=by
 unfold pset
 split
 ·rename_i h;simp[h]
 ·simp
structure SetP (t:GTask)(a b:Fact):Prop where
 ia:InV t.Vars a
 ib:InV t.Vars b
 le:a=b∨a.1<b.1
theorem inV_at {vars:List Int}{p:List Fact}(h:propF vars (-1) p=true):∀ f∈p,InV vars f:=fun _ hf=>inV_iff.1 (propF_one h hf)
theorem SetP.prop {t:GTask}{a b:Fact}(h:SetP t a b):propF t.Vars (-1) (pset a b)=true:=by
 obtain⟨a0,a1,a2,a3⟩:=h.ia
 obtain⟨b0,b1,b2,b3⟩:=h.ib
 rw[propF_iff,vF_iff']
 refine⟨⟨fun x hx=>?_,?_⟩,fun x hx=>?_⟩
 ·rcases pset_mem.1 hx with rfl|rfl
  ·exact⟨a0,a2⟩
  ·exact⟨b0,b2⟩
 ·unfold pset
  split
  ·exact List.pairwise_singleton ..
  ·rename_i hne
   have:=h.le.resolve_left hne
   simp[Asc,this]
 ·rcases pset_mem.1 hx with rfl|rfl
  ·exact⟨a1,a3⟩
  ·exact⟨b1,b3⟩
theorem SetP.sh {t:GTask}{a b:Fact}(_:SetP t a b):(pset a b).length≤2:=by
 unfold pset
 split <;> simp
structure Fit3 (t:GTask):Prop where
 good:goodF t=true
 small:smallF t=true
 ops:t.Ops.length≤10
 vlen:t.Vars.length≤6
 dom:∀ k∈t.Vars,2≤k∧k≤4
 prod:prodN t.Vars≤512
 tame:∀ o∈t.Ops,(∀ e∈o.Effs,e.When.length≤2)∧condN o.Effs≤3
theorem sumI_le {m:Int}:∀ {r:List Int},(∀ k∈r,k≤m)→sumI r≤m*r.length
 | [],_=>by simp[sumI]
 | k :: r,h=>by
  have:=sumI_le (r:=r) fun k hk=>h k (mC_ _ hk)
  have:=h k (by simp)
  rw[sumI,lC_,Int.natCast_succ,Int.mul_add]
  omega
theorem Fit3.sz {t:GTask}(F:Fit3 t):Sz t:=by
 have:=sumI_le (r:=t.Vars) (m:=4) fun k hk=>(F.dom k hk).2
 have:=F.vlen
 exact⟨fun k hk=>by have:=F.dom k hk;omega,by omega,by omega⟩
theorem Fit3.op {t:GTask}(F:Fit3 t){o:GOp}(ho:o∈t.Ops):TameO t.Vars o:=by
 have oo:=good_op F.good ho
 exact⟨fun n hn=>by have:=F.dom n hn;omega,F.prod,oo.when,(F.tame o ho).1,(F.tame o ho).2,oo.pre⟩
def regS (t:GTask)(o:GOp)(p:List Fact):List (List Fact):=(regO t.Vars o p).getD []
theorem reg_ok {t:GTask}(F:Fit3 t){a b:Fact}(h:SetP t a b){o:GOp}(ho:o∈t.Ops):regO t.Vars o (pset a b)=some (regS t o (pset a b))∧PropL t.Vars (regS t o (pset a b))∧(regS t o (pset a b)).length≤1024:=by
 obtain⟨j,hj⟩:∃ j,regG t.Vars o (pset a b) [o.Pre]=some j:=by
  unfold pset
  split
  ·exact reg_one' (F.op ho) a
  ·rename_i hne
   have:=h.le.resolve_left hne
   exact reg_two (F.op ho) (inV_iff.2 h.ia) (by omega)
 obtain⟨l1,_,l3⟩:=pre_prop F.good h.prop ho hj
 have e:regO t.Vars o (pset a b)=some (sortLL (minF j)):=by rw[regO,hj,Option.map_some]
 have e2:regS t o (pset a b)=sortLL (minF j):=by rw[regS,e,Option.getD_some]
 rw[e2]
 refine⟨e,fun z hz=>l1 z (List.mem_filter.1 ((sortLL_mem z _).1 hz)).1,?_⟩
 rw[sortLL_length]
 exact Nat.le_trans (List.length_filter_le _ _) l3
def madeO (t:GTask)(R:List (List Bool))(p:List Fact)(o:GOp):Bool:=touchF o p&&(regS t o p).any (okF t R)
def madeF (t:GTask)(R:List (List Bool))(p:List Fact):Bool:=t.Ops.any (madeO t R p)
abbrev Cau := List ((Int×Int×Int)×Option GCause)
def CauP (t:GTask)(M:Cau):Prop:=∀ (a b:Fact) (n:Nat) (o:GOp) (c:GCause),SetP t a b→t.Ops[n]?=some o→(getM M (numF t.Vars a,numF t.Vars b,(n:Int))).getD none=some c→c.states=regS t o (pset a b)
theorem getM_setM {κ ν:Type} [DecidableEq κ](a k:κ)(v:ν):∀ M:List (κ×ν),getM (setM M a v) k=if a=k then some v else getM M k
 | []=>by rw[setM,getM,getM,getM]
 | (b,u) :: r=>by
  rw[setM]
  by_cases e:b=a
  ·rw[if_pos e,getM,getM]
   by_cases e2:a=k
   ·rw[if_pos e2,if_pos e2]
   ·rw[if_neg e2,if_neg e2,if_neg (fun h=>e2 (e.symm.trans h))]
  ·rw[if_neg e,getM,getM_setM a k v r,getM]
   by_cases e2:b=k
   ·rw[if_pos e2,if_pos e2,if_neg (fun h=>e (e2.trans h.symm))]
   ·rw[if_neg e2,if_neg e2]
theorem cau_set {t:GTask}(hv:∀ k∈t.Vars,1≤k){M:Cau}(h:CauP t M){a b:Fact}(hs:SetP t a b){n:Nat}{o:GOp}(ho:t.Ops[n]?=some o):CauP t (setM M (numF t.Vars a,numF t.Vars b,(n:Int)) (some { states:=regS t o (pset a b) })):=fun a' b' n' o' c' hs' ho' e=>by
 rw[getM_setM]at e
 split at e
 ·rename_i hk
  have h1:numF t.Vars a=numF t.Vars a':=congrArg Prod.fst hk
  have h2:numF t.Vars b=numF t.Vars b':=congrArg (fun q=>q.2.1) hk
  have h3:(n:Int)=(n':Int):=congrArg (fun q=>q.2.2) hk
  obtain rfl:=numF_inj hv hs.ia hs'.ia h1
  obtain rfl:=numF_inj hv hs.ib hs'.ib h2
  obtain rfl:n=n':=by omega
  rw[ho]at ho'
  obtain rfl:=sI_ ho'
  rw[Option.getD_some]at e
  rw[← sI_ e]
 ·exact h a' b' n' o' c' hs' ho' e
section
variable {t : GTask} (F : Fit3 t) (ht : ShT t) {R : List (List Bool)} (hR : RkR t R) (hS : SyR t R) (g : Nat) (hg : 70 ≤ g)
include F ht hR hS hg
theorem made_loop {a b:Fact}(hs:SetP t a b):∀ (r:List GOp)(n:Nat)(M:Cau),t.Ops.drop n=r→CauP t M→∃ M',CauP t M'∧Rg (M_stratagem_mutex_Table_made_L1_B (tbl t R) (pset a b) g) (M_stratagem_mutex_Table_made_L1_E (tbl t R) (pset a b) g) r n M=some (r.any (madeO t R (pset a b)),Er.nil,M')
 | [],n,M,_,hM=>⟨M,hM,rfl⟩
 | o :: r,n,M,hd,hM=>by
  obtain⟨h1,h2,h3⟩:=drop_cons hd
  have hom:=mG_ h1
  have oo:=good_op F.good hom
  have hp2:=hs.sh
  have hT:=tb_of F.sz hR
  have ih:=fun M' hM'=>made_loop hs r (n+1) M' h2 hM'
  obtain⟨r1,r2,r3⟩:=reg_ok F hs hom
  have hoe:=oo.effs
  rw[List.any_cons]
  rw[Rg,M_stratagem_mutex_Table_made_L1_B,ixv,touches_eq o _ (by omega) (by omega),ob1_some]
  cases htc:touchF o (pset a b)with
  | false =>
   have e:madeO t R (pset a b) o=false:=by rw[madeO,htc,Bool.false_and]
   rw[Bool.not_false,sel_tt,e,Bool.false_or]
   exact ih M hM
  | true =>
   have hmade:madeO t R (pset a b) o=(regS t o (pset a b)).any (okF t R):=by rw[madeO,htc,Bool.true_and]
   have hany:M_s_ContainsFunc_Fact (regS t o (pset a b)) (M_stratagem_mutex_Table_holds (tbl t R))=some ((regS t o (pset a b)).any (okF t R)) :=
    containsFunc_eq (by omega) fun z hz=>by
     have hz1:=r2 z hz
     have:=propF_len' hz1
     have:=F.vlen
     exact mholds_eq hT hS (inV_at hz1) (by omega)
   rw[Bool.not_true,sel_ff,pset_0,number_eq hT hs.ia,ob1_some,pset_1,number_eq hT hs.ib,ob1_some]
   cases hc:(getM M (numF t.Vars a,numF t.Vars b,(n:Int))).getD none with
   | some c =>
    have hst:=hM a b n o c hs h1 hc
    rw[opM,ob1_some,osum_inl,hst]
    dsimp only
    rw[hany,ob1_some,hmade]
    cases hb:(regS t o (pset a b)).any (okF t R)with
    | true=>exact⟨M,hM,rfl⟩
    | false=>rw[sel_ff,Bool.false_or];exact ih M hM
   | none =>
    have hreg:M_g_Regress g (tbl t R).t n (pset a b)=some (regS t o (pset a b),Er.nil):=by
     rw[show(tbl t R).t=t from rfl,regress_eq t ht F.good (pset a b) hs.prop g hg n o (by omega) (by rw[Int.toNat_natCast];exact h1),r1]
     rfl
    rw[opM,hreg,ob2_some]
    have hM':=cau_set F.sz.pos hM hs h1
    show ∃ M',CauP t M'∧ob1 (some (Sum.inl _)) _=_
    rw[ob1_some,osum_inl]
    dsimp only
    rw[hany,ob1_some,hmade]
    cases hb:(regS t o (pset a b)).any (okF t R)with
    | true=>exact⟨_,hM',rfl⟩
    | false=>rw[sel_ff,Bool.false_or];exact ih _ hM'
theorem made_eq {a b:Fact}(hs:SetP t a b)(M:Cau)(hM:CauP t M):∃ M',CauP t M'∧M_stratagem_mutex_Table_made g (tbl t R) (pset a b) M=some (madeF t R (pset a b),Er.nil,M'):=by
 obtain⟨M',h1,h2⟩:=made_loop F ht hR hS g hg hs t.Ops 0 M rfl hM
 have ho:=F.ops
 refine⟨M',h1,?_⟩
 rw[M_stratagem_mutex_Table_made,M_stratagem_mutex_Table_made_L1_eq _ _ _ _ (by show t.Ops.length<_;omega)]
 exact h2
end
def fillF (x:List Fact):Int→List Int→List Int
 | _,[]=>[]
 | i,_ :: r=>max 0 (findF x i) :: fillF x (i+1) r
theorem fill_state {vars:List Int}(hd:∀ n∈vars,1≤n){x:List Fact}(hx:∀ f∈x,0≤f.2∧0≤f.1∧f.1<vars.length∧f.2<vars.getD f.1.toNat 0):∀ (r:List Int)(n:Nat),vars.drop n=r→stateF r (fillF x n r)=true
 | [],n,_=>rfl
 | k :: r,n,h=>by
  obtain⟨h1,h2,h3⟩:=drop_cons h
  have hk:=hd k (mG_ h1)
  rw[fillF,stateF,bA_,decide_eq_true_iff]
  refine⟨⟨by omega,?_⟩,fill_state hd hx r (n+1) h2⟩
  have:findF x n=-1∨∃ f∈x,f.1=n∧findF x n=f.2:=by
   clear hx
   induction x with
   | nil=>exact Or.inl rfl
   | cons f x ih =>
    rw[findF]
    by_cases e:f.1=n
    ·rw[if_pos e];exact Or.inr ⟨f,mS_ ..,e,rfl⟩
    ·rw[if_neg e]
     rcases ih with h|⟨u,hu,h⟩
     ·exact Or.inl h
     ·exact Or.inr ⟨u,mC_ _ hu,h⟩
  rcases this with h|⟨f,hf,e1,e2⟩
  ·rw[h];omega
  ·have h4:=(hx f hf).2.2.2
   rw[e1,Int.toNat_natCast,gD_,h1,Option.getD_some]at h4
   omega
theorem fill_get (x:List Fact):∀ (r:List Int)(n:Int)(i:Nat),i<r.length→(fillF x n r).getD i 0=max 0 (findF x (n+i))
 | [],n,i,h=>by cases h
 | k :: r,n,0,h=>by simp[fillF]
 | k :: r,n,i+1,h=>by
  rw[fillF,List.getD_cons_succ,fill_get x r (n+1) i (by simpa using h)]
  congr 2;omega
theorem fill_holds {vars:List Int}{x:List Fact}(hx:propF vars (-1) x=true):holdsF (fillF x 0 vars) x=true:=by
 obtain⟨hv,hr⟩:=(propF_iff vars x (-1)).1 hx
 obtain⟨hn,ha⟩:=(vF_iff' x).1 hv
 have hlen:∀ (r:List Int) (i:Int),(fillF x i r).length=r.length:=by
  intro r;induction r with
  | nil=>intro i;rfl
  | cons k r ih=>intro i;rw[fillF,lC_,ih,lC_]
 rw[holdsF_iff]
 intro f hf
 have h1:=hn f hf
 have h2:=hr f hf
 refine hold1_iff.2 ⟨h1.1,by rw[hlen];exact h2.1,?_⟩
 rw[fill_get x vars 0 f.1.toNat (by omega),show(0:Int)+(f.1.toNat:Int)=f.1 from by omega,(findF_mem ha h1.2).2 hf]
 omega
def clashP (p x:List Fact):Bool:=x.any fun f=>decide (0≤findF p f.1)&&decide (findF p f.1≠f.2)
def lowF (p:List Fact):List Fact→Int→Int
 | [],v=>v
 | f :: r,v=>lowF p r (if f.1<v∧findF p f.1<0 then f.1 else v)
def lowL (p:List Fact):List (List Fact)→Int→Int
 | [],v=>v
 | x :: r,v=>lowL p r (lowF p x v)
def kids (f:Int→Bool×Int):Nat→Int→Int→Bool×Int
 | 0,_,c=>(true,c)
 | m+1,x,c=>if(f x).1=true then kids f m (x+1) (c+(f x).2)else(false,c+(f x).2)
def restP (p:List Fact)(l:List (List Fact)):List (List Fact):=l.filter fun x=>!clashP p x
def decA (vars:List Int):Nat→List Fact→List (List Fact)→Bool×Int
 | 0,_,_=>(false,1)
 | d+1,p,l =>
  if l.any (fun x=>subF x p)then(true,1)
  else if lowL p (restP p l) vars.length=vars.length then(false,1)
  else kids (fun x=>decA vars d (pwithF p (lowL p (restP p l) vars.length,x)) (restP p l)) (vars.getD (lowL p (restP p l) vars.length).toNat 0).toNat 0 1
theorem lowF_spec (p:List Fact):∀ (l:List Fact)(v:Int),lowF p l v≤v∧(∀ f∈l,findF p f.1<0→lowF p l v≤f.1)∧(lowF p l v=v∨∃ f∈l,f.1=lowF p l v∧findF p f.1<0)
 | [],v=>⟨Int.le_refl _,(nofun),.inl rfl⟩
 | f :: r,v=>by
  rw[lowF]
  by_cases h:f.1<v∧findF p f.1<0
  ·rw[if_pos h]
   obtain⟨h1,h2,h3⟩:=lowF_spec p r f.1
   refine⟨by omega,fun u hu hn=>?_,?_⟩
   ·rcases List.mem_cons.1 hu with rfl|hu
    ·exact h1
    ·exact h2 u hu hn
   ·rcases h3 with h3|⟨u,hu,e⟩
    ·exact .inr ⟨f,mS_ ..,h3.symm,h.2⟩
    ·exact .inr ⟨u,mC_ _ hu,e⟩
  ·rw[if_neg h]
   obtain⟨h1,h2,h3⟩:=lowF_spec p r v
   refine⟨h1,fun u hu hn=>?_,?_⟩
   ·rcases List.mem_cons.1 hu with rfl|hu
    ·have:¬ u.1<v:=fun hlt=>h ⟨hlt,hn⟩
     omega
    ·exact h2 u hu hn
   ·rcases h3 with h3|⟨u,hu,e⟩
    ·exact .inl h3
    ·exact .inr ⟨u,mC_ _ hu,e⟩
theorem lowL_spec (p:List Fact):∀ (l:List (List Fact))(v:Int),lowL p l v≤v∧(∀ x∈l,∀ f∈x,findF p f.1<0→lowL p l v≤f.1)∧(lowL p l v=v∨∃ x∈l,∃ f∈x,f.1=lowL p l v∧findF p f.1<0)
 | [],v=>⟨Int.le_refl _,(nofun),.inl rfl⟩
 | x :: r,v=>by
  rw[lowL]
  obtain⟨g1,g2,g3⟩:=lowF_spec p x v
  obtain⟨h1,h2,h3⟩:=lowL_spec p r (lowF p x v)
  refine⟨by omega,fun y hy f hf hn=>?_,?_⟩
  ·rcases List.mem_cons.1 hy with rfl|hy
   ·have:=g2 f hf hn;omega
   ·exact h2 y hy f hf hn
  ·rcases h3 with h3|⟨y,hy,f,hf,e⟩
   ·rcases g3 with g3|⟨f,hf,e,hn⟩
    ·exact .inl (by omega)
    ·exact .inr ⟨x,mS_ ..,f,hf,by omega,hn⟩
   ·exact .inr ⟨y,mC_ _ hy,f,hf,e⟩
theorem kids_true (f:Int→Bool×Int):∀ (m:Nat)(x c:Int),(kids f m x c).1=true↔∀ y:Int,x≤y→y<x+m→(f y).1=true
 | 0,x,c=>⟨fun _ y h1 h2=>by omega,fun _=>rfl⟩
 | m+1,x,c=>by
  rw[kids]
  by_cases h:(f x).1=true
  ·rw[if_pos h,kids_true f m]
   constructor
   ·intro hh y h1 h2
    rcases Int.lt_or_eq_of_le h1 with h3|rfl
    ·exact hh y (by omega) (by omega)
    ·exact h
   ·intro hh y h1 h2;exact hh y (by omega) (by omega)
  ·rw[if_neg h]
   exact⟨fun hh=>(by cases hh),fun hh=>absurd (hh x (Int.le_refl _) (by omega)) h⟩
theorem findF_none {p:List Fact}{v:Int}(hn:Nonneg p):findF p v<0↔∀ z∈p,z.1≠v:=by
 induction p with
 | nil=>exact⟨fun _=>(nofun),fun _=>(by rw[findF];omega)⟩
 | cons f r ih =>
  have hr:Nonneg r:=fun x hx=>hn x (mC_ _ hx)
  have hf:=hn f (mS_ ..)
  rw[findF]
  by_cases e:f.1=v
  ·rw[if_pos e];exact⟨fun h=>by omega,fun h=>absurd e (h f (mS_ ..))⟩
  ·rw[if_neg e,ih hr]
   exact⟨fun h z hz=>by rcases List.mem_cons.1 hz with rfl|hz;exact e;exact h z hz,fun h z hz=>h z (mC_ _ hz)⟩
theorem findF_some {p:List Fact}{v:Int}(h:0≤findF p v):(v,findF p v)∈p:=by
 induction p with
 | nil=>rw[findF]at h;omega
 | cons f r ih =>
  rw[findF]at h ⊢
  by_cases e:f.1=v
  ·rw[if_pos e];rw[← e];exact mS_ ..
  ·rw[if_neg e]at h ⊢;exact mC_ _ (ih h)
theorem prop_vf {vars:List Int}{p:List Fact}(h:propF vars (-1) p=true):Nonneg p∧Asc p∧∀ x∈p,x.1<vars.length∧x.2<vars.getD x.1.toNat 0:=by
 obtain⟨hv,hr⟩:=(propF_iff vars p (-1)).1 h
 obtain⟨hn,ha⟩:=(vF_iff' p).1 hv
 exact⟨hn,ha,hr⟩
theorem pwith_prop {vars:List Int}{p:List Fact}(h:propF vars (-1) p=true){v x:Int}(v0:0≤v)(v1:v<vars.length)(hf:findF p v<0)(x0:0≤x)(x1:x<vars.getD v.toNat 0):propF vars (-1) (pwithF p (v,x))=true:=by
 obtain⟨hn,ha,hr⟩:=prop_vf h
 refine(propF_iff _ _ _).2 ⟨(vF_iff' _).2 ⟨fun z hz=>?_,pwithF_asc p (v,x) ha ((findF_none hn).1 hf)⟩,fun z hz=>?_⟩
 ·rcases(pwithF_mem p (v,x) z).1 hz with hz|rfl
  ·exact hn z hz
  ·exact⟨v0,x0⟩
 ·rcases(pwithF_mem p (v,x) z).1 hz with hz|rfl
  ·exact hr z hz
  ·exact⟨v1,x1⟩
theorem holds_pwith {s:List Int}{p:List Fact}{v x:Int}:holdsF s (pwithF p (v,x))=true↔holdsF s p=true∧hold1 s (v,x)=true:=by
 rw[holdsF_iff,holdsF_iff]
 constructor
 ·intro h;exact⟨fun z hz=>h z ((pwithF_mem _ _ _).2 (.inl hz)),h _ ((pwithF_mem _ _ _).2 (.inr rfl))⟩
 ·rintro⟨h1,h2⟩ z hz
  rcases(pwithF_mem _ _ _).1 hz with hz|rfl
  ·exact h1 z hz
  ·exact h2
theorem clash_not {s:List Int}{p x:List Fact}(hp:holdsF s p=true)(h:clashP p x=true):¬ holdsF s x=true:=by
 intro hx
 unfold clashP at h
 obtain⟨f,hf,e⟩:=List.any_eq_true.1 h
 simp only[bA_,decide_eq_true_iff]at e
 have h1:=hold1_iff.1 (holdsF_iff.1 hp _ (findF_some e.1))
 have h2:=hold1_iff.1 (holdsF_iff.1 hx f hf)
 exact e.2 (h1.2.2.symm.trans h2.2.2)
theorem rest_some {s:List Int}{p:List Fact}(hp:holdsF s p=true)(l:List (List Fact)):some1 s (restP p l)↔some1 s l:=by
 unfold some1 restP
 constructor
 ·rintro⟨z,hz,h⟩;exact⟨z,(List.mem_filter.1 hz).1,h⟩
 ·rintro⟨z,hz,h⟩
  refine⟨z,List.mem_filter.2 ⟨hz,?_⟩,h⟩
  cases hc:clashP p z with
  | false=>rfl
  | true=>exact absurd h (clash_not hp hc)
structure DecP (vars:List Int)(d:Nat)(p:List Fact)(l:List (List Fact)):Prop where
 dom:∀ n∈vars,1≤n
 prop:propF vars (-1) p=true
 all:PropL vars l
 deep:vars.length<d+p.length
theorem DecP.low {vars:List Int}{d:Nat}{p:List Fact}{l:List (List Fact)}(h:DecP vars d p l)(hl:lowL p (restP p l) vars.length≠vars.length):0≤lowL p (restP p l) vars.length∧lowL p (restP p l) vars.length<vars.length∧findF p (lowL p (restP p l) vars.length)<0:=by
 obtain⟨h1,-,h3⟩:=lowL_spec p (restP p l) vars.length
 rcases h3 with h3|⟨x,hx,f,hf,e,hn⟩
 ·exact absurd h3 hl
 ·obtain⟨hxn,-,-⟩:=prop_vf (h.all x (List.mem_filter.1 hx).1)
  have:=(hxn f hf).1
  exact⟨by omega,by omega,by rw[← e];exact hn⟩
theorem DecP.kid {vars:List Int}{d:Nat}{p:List Fact}{l:List (List Fact)}(h:DecP vars (d+1) p l)(hl:lowL p (restP p l) vars.length≠vars.length){x:Int}(x0:0≤x)(x1:x<vars.getD (lowL p (restP p l) vars.length).toNat 0):DecP vars d (pwithF p (lowL p (restP p l) vars.length,x)) (restP p l):=by
 obtain⟨h1,h2,h3⟩:=h.low hl
 exact⟨h.dom,pwith_prop h.prop h1 h2 h3 x0 x1,fun z hz=>h.all z (List.mem_filter.1 hz).1,by rw[pwithF_len];have:=h.deep;omega⟩
theorem DecP.zero {vars:List Int}{p:List Fact}{l:List (List Fact)}(h:DecP vars 0 p l):False:=by
 have h1:=propF_len' h.prop
 have h2:=h.deep
 omega
theorem some_state {vars:List Int}(hd:∀ n∈vars,1≤n){p:List Fact}(h:propF vars (-1) p=true):∃ s,stateF vars s=true∧holdsF s p=true:=by
 obtain⟨hn,-,hr⟩:=prop_vf h
 exact⟨fillF p 0 vars,fill_state hd (fun f hf=>⟨(hn f hf).2,(hn f hf).1,hr f hf⟩) vars 0 rfl,fill_holds h⟩
theorem decA_true {vars:List Int}:∀ (d:Nat)(p:List Fact)(l:List (List Fact)),DecP vars d p l→((decA vars d p l).1=true↔∀ s,stateF vars s=true→holdsF s p=true→some1 s l)
 | 0,p,l,h=>h.zero.elim
 | d+1,p,l,h=>by
  rw[decA]
  by_cases hc:l.any (fun x=>subF x p)=true
  ·rw[if_pos hc]
   refine⟨fun _ s _ hp=>?_,fun _=>rfl⟩
   obtain⟨x,hx,hs⟩:=List.any_eq_true.1 hc
   exact⟨x,hx,holdsF_iff.2 fun f hf=>holdsF_iff.1 hp f (subF_iff.1 hs f hf)⟩
  ·rw[if_neg hc]
   by_cases hl:lowL p (restP p l) vars.length=vars.length
   ·rw[if_pos hl]
    refine⟨fun hh=>(by cases hh),fun hh=>?_⟩
    obtain⟨s,s1,s2⟩:=some_state h.dom h.prop
    obtain⟨x,hx,-⟩:=(rest_some s2 l).2 (hh s s1 s2)
    obtain⟨hxl,hxc⟩:=List.mem_filter.1 hx
    obtain⟨hxn,-,hxr⟩:=prop_vf (h.all x hxl)
    obtain⟨hpn,hpa,-⟩:=prop_vf h.prop
    refine absurd ((List.any_eq_true (p:=fun x=>subF x p)).2 ⟨x,hxl,subF_iff.2 fun f hf=>?_⟩) hc
    have h0:0≤findF p f.1:=by
     refine Int.not_lt.1 fun hn=>?_
     have h1:=(lowL_spec p (restP p l) vars.length).2.1 x hx f hf hn
     have h2:=(hxr f hf).1
     omega
    have h3:findF p f.1=f.2:=by
     refine Decidable.byContradiction fun hne=>?_
     have:clashP p x=true:=List.any_eq_true.2 ⟨f,hf,by simp only[bA_,decide_eq_true_iff];exact⟨h0,hne⟩⟩
     rw[this]at hxc
     cases hxc
    exact(findF_mem hpa (hxn f hf).2).1 h3
   ·rw[if_neg hl,kids_true]
    obtain⟨h1,h2,h3⟩:=h.low hl
    have hdom:=h.dom
    constructor
    ·intro hh s s1 s2
     have st:=stateF_st s1
     have hr:=st.rng (lowL p (restP p l) vars.length).toNat (by omega)
     have hx:=hh (s.getD (lowL p (restP p l) vars.length).toNat 0) hr.1 (by omega)
     have hk:=h.kid hl hr.1 hr.2
     have:=(decA_true d _ _ hk).1 hx s s1 (holds_pwith.2 ⟨s2,hold1_iff.2 ⟨h1,by rw[st.len];exact h2,rfl⟩⟩)
     exact(rest_some s2 l).1 this
    ·intro hh y y0 y1
     have y2:y<vars.getD (lowL p (restP p l) vars.length).toNat 0:=by omega
     refine(decA_true d _ _ (h.kid hl y0 y2)).2 fun s s1 s2=>?_
     have s3:=(holds_pwith.1 s2).1
     exact(rest_some s3 l).2 (hh s s1 s3)
def cntS (S:List (List Int))(p:List Fact):Nat:=(S.filter fun s=>holdsF s p).length
theorem cnt_split (v:Int)(p:List Fact)(S:List (List Int)):∀ (m:Nat)(i:Int)(f:Int→Nat),(∀ y,f y≤(S.filter fun s=>holdsF s p&&hold1 s (v,y)).length)→((List.range m).map fun k:Nat=>f (i+k)).sum≤(S.filter fun s=>holdsF s p&&decide (i≤s.getD v.toNat 0)).length
 | 0,i,f,h=>by simp
 | m+1,i,f,h=>by
  rw[List.range_succ_eq_map,List.map_cons,List.sum_cons,List.map_map]
  have ih:=cnt_split v p S m (i+1) f h
  have e:((fun k:Nat=>f (i+k)) ∘ Nat.succ)=fun k:Nat=>f (i+1+k):=by
   funext k;simp only[Function.comp,Nat.succ_eq_add_one];congr 1;omega
  rw[e]
  have h0:=h (i+(0:Nat))
  refine Nat.le_trans (Nat.add_le_add h0 ih) ?_
  clear ih h0 e h
  induction S with
  | nil=>simp
  | cons s S ihS =>
   simp only[List.filter_cons]
   cases hp:holdsF s p with
   | false=>simpa using ihS
   | true =>
    simp only[Bool.true_and]
    by_cases h1:hold1 s (v,i+(0:Nat))=true
    ·have h2:=(hold1_iff.1 h1).2.2
     simp only at h2
     rw[if_pos h1,if_neg (by rw[decide_eq_true_iff];omega),if_pos (by rw[decide_eq_true_iff];omega)]
     simp only[lC_];omega
    ·rw[if_neg h1]
     by_cases h2:i+1≤s.getD v.toNat 0
     ·rw[if_pos (by rw[decide_eq_true_iff];exact h2),if_pos (by rw[decide_eq_true_iff];omega)]
      simp only[lC_];omega
     ·rw[if_neg (by rw[decide_eq_true_iff];exact h2)]
      split
      ·simp only[lC_];omega
      ·exact ihS
end Go.Proofs.YtinnphmnhmdcgaaGreat.Am
namespace Go.Proofs.YtinnphmnhmdcgaaGreat.Am
set_option maxHeartbeats 16000000
set_option maxRecDepth 100000
open Go.RowKit
def M_p_Covered_1 (b0:List Int)(a0:List Fact):Option (Bool):=ob1 (M_task_Facts b0 a0) (fun z1=>some (!z1))
theorem A_p_Covered_1 (b0:List Int)(a0:List Fact){r1:Bool}(h:M_p_Covered_1 b0 a0=some r1):ACall cx 113 [.sl 2 (a0.map cF),.pim [.sl 1 (b0.map cI)] 0] (.c (.bool r1)):=by
 refine aOf Tryz.func113 rfl (by decide) rfl (bT2 rfl) ?_;intro _;unfold M_p_Covered_1 at h;refine aSR ?_;intro _;refine dr (aSR ?_);intro _;obtain⟨z1,u1,h⟩:=ob1_ok h;refine cl rfl (A_task_Facts b0 a0 u1) ?_;intro _;refine dr (aRt ?_);intro _;obtain rfl:=inj1 h;exact ca_0
def M_p_conflict_L1 (a0:List Fact)(a1:List Fact):Nat→Int→Option (Bool)|0,_=>none|k7+1,v6=>sel (decide (v6<((a1.map cF).length:Int))) (ix a1 v6 (fun y8=>ob1 (M_p_find a0 y8.1) (fun z9=>sel (decide (z9≥0)) (sel (z9 != y8.2) (some true) (M_p_conflict_L1 a0 a1 k7 (IntKind.i64.wrap (v6+1)))) (M_p_conflict_L1 a0 a1 k7 (IntKind.i64.wrap (v6+1)))))) (some false)
def M_p_conflict (a0:List Fact)(a1:List Fact):Option (Bool):=M_p_conflict_L1 a0 a1 ((((a1.map cF).length:Int)).toNat+1) 0
theorem A_p_conflict (a0:List Fact)(a1:List Fact){r1:Bool}(h:M_p_conflict a0 a1=some r1):ACall cx 132 [.sl 2 (a0.map cF),.sl 2 (a1.map cF)] (.c (.bool r1)):=by
 refine aOf Tryz.func132 rfl (by decide) rfl (bT2 rfl) ?_;intro _;unfold M_p_conflict at h;refine aSR ?_;intro _;refine dr (aSq (aSR ?_));intro _;refine dr (aBk ?_);refine awp_loop (α:=Nat×Int) (fun x=>mkS 27 [(0,.sl 2 (a0.map cF)),(8,.sl 2 (a1.map cF)),(9,.c (.int .i64 ((a1.map cF).length:Int))),(10,.c (.int .i64 x.2))] []) (fun x=>M_p_conflict_L1 a0 a1 x.1 x.2=some r1) (fun x=>x.1) ((((a1.map cF).length:Int)).toNat+1,0) h ?_ ?_
 ·exact ca_0
 ·intro x1 h;intro _;obtain⟨k7,m2,h⟩:=succ_of (f:=fun n=>M_p_conflict_L1 a0 a1 n x1.2) rfl h;replace h:M_p_conflict_L1 a0 a1 (k7+1) x1.2=some r1:=h;rw[M_p_conflict_L1]at h;refine aSR ?_;intro _;refine dr (aSq (aCd ?_));intro _;refine spl h (fun c3 h=>?_) (fun c3 h=>?_)
  ·refine aSk (aSq (aBk (aSR ?_)));intro _;obtain⟨y8,w4,q5,h⟩:=ix_ok h;refine Exists.intro (cF y8) (And.intro (map_at' w4) ?_);intro _;refine pr (dr (aSR ?_));intro _;obtain⟨z9,u6,h⟩:=ob1_ok h;refine cl rfl (A_p_find a0 y8.1 u6) ?_;intro _;refine dr (aSR ?_);intro _;refine spl h (fun c7 h=>?_) (fun c7 h=>?_)
   ·intro _;refine dr (aCd ?_);intro _;refine spl h (fun c8 h=>?_) (fun c8 h=>?_)
    ·refine aSR ?_;intro _;refine dr (aRt ?_);intro _;obtain rfl:=inj1 h;exact ca_0
    ·refine aSk (aRg ?_);intro _;refine dr ?_;refine⟨(k7,(IntKind.i64.wrap (x1.2+1))),h,ltS m2,?_⟩;exact ca_0
   ·intro _;refine dr (aCd ?_);intro _;refine litF (aSk (aRg ?_));intro _;refine dr ?_;refine⟨(k7,(IntKind.i64.wrap (x1.2+1))),h,ltS m2,?_⟩;exact ca_0
  ·refine aEx (aSR ?_);intro _;refine dr (aRt ?_);intro _;obtain rfl:=inj1 h;exact ca_0
def M_pc_decide_L1 (a0:GCover)(a1:List Fact)(a2:List (List Fact)):Nat→Int→(List (List Fact))→Option ((List (List Fact))⊕(Bool×GCover))|0,_,_=>none|k29+1,v27,v28=>sel (decide (v27<((a2.map cL_cF).length:Int))) (ix a2 v27 (fun y30=>ob1 (M_p_contains a1 y30) (fun z31=>sel z31 (some (.inr (true,{ vars:=a0.vars,used:=(IntKind.i64.wrap (a0.used+1)),steps:=a0.steps,full:=a0.full:GCover }))) (ob1 (M_p_conflict a1 y30) (fun z32=>sel (!z32) (grd ((v28.length+1)*24≤140737488355328) (M_pc_decide_L1 a0 a1 a2 k29 (IntKind.i64.wrap (v27+1)) (v28++[y30]))) (M_pc_decide_L1 a0 a1 a2 k29 (IntKind.i64.wrap (v27+1)) v28)))))) (some (.inl v28))
def M_pc_decide_L2 (a1:List Fact)(y189:List Fact):Nat→Int→Int→Option (Int)|0,_,_=>none|k198+1,v196,v197=>sel (decide (v197<((y189.map cF).length:Int))) (ix y189 v197 (fun y199=>sel (decide (y199.1<v196)) (ob1 (M_p_find a1 y199.1) (fun z200=>sel (decide (z200<0)) (M_pc_decide_L2 a1 y189 k198 y199.1 (IntKind.i64.wrap (v197+1))) (M_pc_decide_L2 a1 y189 k198 v196 (IntKind.i64.wrap (v197+1))))) (M_pc_decide_L2 a1 y189 k198 v196 (IntKind.i64.wrap (v197+1))))) (some v196)
def M_pc_decide_L3 (a1:List Fact)(v15:List (List Fact)):Nat→Int→Int→Option (Int)|0,_,_=>none|k174+1,v172,v173=>sel (decide (v173<((v15.length:Nat):Int))) (ob1 (ixn v15 ((v173).toNat) (fun y189=>grd (0≤v173) (grd (v173<((v15.length:Nat):Int)) (M_pc_decide_L2 a1 y189 ((((y189.map cF).length:Int)).toNat+1) v172 0))):Option (Int)) (fun v187=>M_pc_decide_L3 a1 v15 k174 v187 (IntKind.i64.wrap (v173+1)))) (some v172)
def M_pc_decide_L4 (a1:List Fact)(rec:GCover→(List Fact)→(List (List Fact))→Option (Bool×GCover))(v116:Int)(y201:Int):Nat→(List (List Fact))→Int→(List Int)→Int→Int→Bool→Option (Bool×GCover)|0,_,_,_,_,_,_=>none|k221+1,v215,v216,v217,v218,v219,v220=>sel (decide (v216<y201)) (ob1 (M_with a1 (v116,v216)) (fun z222=>grd (z222.length≤140737488355328) (ob2 (rec ({ vars:=v217,used:=v218,steps:=v219,full:=v220:GCover }) z222 v215) (fun z223 c224=>sel (!z223) (some (false,c224)) (M_pc_decide_L4 a1 rec v116 y201 k221 v215 (IntKind.i64.wrap (v216+1)) c224.vars c224.used c224.steps c224.full))))) (some (true,{ vars:=v217,used:=v218,steps:=v219,full:=v220:GCover }))
def M_pc_decide : Nat→GCover→(List Fact)→(List (List Fact))→Option (Bool×GCover)|0,_,_,_=>none|g+1,a0,a1,a2=>sel (decide (a0.used≥a0.steps)) (some (false,{ vars:=a0.vars,used:=a0.used,steps:=a0.steps,full:=true:GCover })) (ob1 (M_pc_decide_L1 a0 a1 a2 ((((a2.map cL_cF).length:Int)).toNat+1) 0 []:Option ((List (List Fact))⊕(Bool×GCover))) (osum (fun v15=>ob1 (M_pc_decide_L3 a1 v15 ((((v15.length:Nat):Int)).toNat+1) ((a0.vars.map cI).length:Int) 0:Option (Int)) (fun v116=>sel (v116 == ((a0.vars.map cI).length:Int)) (some (false,{ vars:=a0.vars,used:=(IntKind.i64.wrap (a0.used+1)),steps:=a0.steps,full:=a0.full:GCover })) (ix a0.vars v116 (fun y201=>grd (v15.length≤140737488355328) (M_pc_decide_L4 a1 (M_pc_decide g) v116 y201 ((y201).toNat+1) v15 0 a0.vars (IntKind.i64.wrap (a0.used+1)) a0.steps a0.full))))) (fun(r16,r17)=>some (r16,r17))))
theorem A_pc_decide : ∀ (g:Nat)(a0:GCover)(a1:List Fact)(a2:List (List Fact)){r1:Bool}{r2:GCover}(_:M_pc_decide g a0 a1 a2=some (r1,r2)),ACallG cx 114 [.ptr 112 0 0 0,.sl 2 (a1.map cF),.sl 1 (a2.map cL_cF)] [(112,⟨153,4,true,[[.sl 1 (a0.vars.map cI),.c (.int .i64 a0.used),.c (.int .i64 a0.steps),.c (.bool a0.full)]]⟩)] [112] (.c (.bool r1)) [(112,⟨153,4,true,[[.sl 1 (r2.vars.map cI),.c (.int .i64 r2.used),.c (.int .i64 r2.steps),.c (.bool r2.full)]]⟩)]
 := by
 intro g
 induction g with
 | zero=>intros;rename_i h;rw[M_pc_decide]at h;cases h
 | succ g ih =>
  intro a0 a1 a2 r1 r2 h;refine acallg_of 115 Tryz.func114 rfl (by decide) rfl (bT2 rfl) rfl rfl ?_;intro _;rw[M_pc_decide]at h;refine aSR ?_;intro _;refine dr (aSq (aSR ?_));intro _;refine dr (aCd ?_);intro _;refine spl h (fun c1 h=>?_) (fun c1 h=>?_)
  ·refine aSR ?_;intro _;refine dr (aSR ?_);intro _;refine dr (aRt ?_);intro _;obtain⟨rfl,rfl⟩:=inj2 h;all_goals (refine Exists.intro [] (And.intro rfl (And.intro ?_ ?_)));all_goals (repeat (first|exact True.intro|exact gb_nil rfl rfl|refine gb_some ⟨rfl,rfl,rfl⟩ ?_|refine And.intro ?_ ?_|refine gw_ren rfl rfl rfl rfl rfl ?_|exact gw_oren rfl rfl rfl rfl rfl|exact gw_opren rfl rfl rfl rfl rfl|exact gw_onil rfl rfl|exact gw_mren rfl rfl rfl rfl|refine gw_pren rfl rfl rfl rfl rfl|exact gw_thaw rfl rfl rfl|refine gw_tup ?_|exact GWL.nil|exact gwll_nil|exact gw_c|exact GW.sl|exact GW.nil|exact gwll_same rfl FrI.h|refine GWL.cons ?_ ?_|refine gwll_cons ?_ ?_|(refine gw_own3 rfl rfl rfl FrI.h ?_ ?_ ?_)|exact GW.fr FrV.h|exact gw_fr2 rfl FrV.h|exact GW.fr (by assumption)|refine gw_agg ?_|refine gw_clo ?_|refine gw_ptr rfl rfl rfl ?_|(refine gw_own rfl rfl rfl ?_ FrI.h ?_ ?_)|assumption|omega|rfl|(rw[lM_,← lA_];assumption)|(refine gwll_same ?_ FrI.h;(simp[cGTask,cI,cF,cGOp,cGEffect,cL_cF,cL_cL_cF,cL_cI,cGCover,cGCertificate,cN,cGChecker] <;> fail))|(rw[List.map_set];refine gwll_set (by first|rfl|omega|simp) ?_ ?_)|refine gwll_set (by first|rfl|omega|simp) ?_ ?_|(rw[List.map_replicate];refine gwll_rep ?_)|refine gwll_rep ?_|(rw[List.map_append];refine gwll_append ?_ ?_)|refine gwll_append ?_ ?_|(simp[cGTask,cI,cF,cGOp,cGEffect,cL_cF,cL_cL_cF,cL_cI,cGCover,cGCertificate,cN,cGChecker,take_len_map] <;> fail)|(rw[List.drop_zero,tL_] <;> first|rfl|(simp[cGTask,cI,cF,cGOp,cGEffect,cL_cF,cL_cL_cF,cL_cI,cGCover,cGCertificate,cN,cGChecker] <;> fail))|(simp;omega)|(simp only[lM_,lA_,List.drop_zero,lC_,lN_,Nat.zero_add,Nat.add_zero]at *;omega)))
  ·refine aSk (aSR ?_);intro _;refine dr (aSR ?_);intro _;refine dr ?_;obtain⟨o2,h,hK3⟩:=ob1_ok h;refine awp_cut (α:=List (List Fact)) (fun v15=>mkG 112 115 [(0,.ptr 112 0 0 0),(1,.sl 2 (a1.map cF)),(7,.own 51 0 0 v15.length)] [(51,⟨23,1,false,v15.map cL_cF⟩),(112,⟨153,4,true,[[.sl 1 (a0.vars.map cI),.c (.int .i64 (IntKind.i64.wrap (a0.used+1))),.c (.int .i64 a0.steps),.c (.bool a0.full)]]⟩)]) (fun v=>o2=(.inl v)) ?_ ?_
   ·refine aSR ?_;intro _;refine dr (aBk ?_);refine awp_loop (α:=Nat×Int×(List (List Fact))) (fun x=>mkG 112 115 [(0,.ptr 112 0 0 0),(1,.sl 2 (a1.map cF)),(7,.own 51 0 0 x.2.2.length),(35,.sl 1 (a2.map cL_cF)),(36,.c (.int .i64 ((a2.map cL_cF).length:Int))),(37,.c (.int .i64 x.2.1))] [(51,⟨23,1,false,x.2.2.map cL_cF⟩),(112,⟨153,4,true,[[.sl 1 (a0.vars.map cI),.c (.int .i64 (IntKind.i64.wrap (a0.used+1))),.c (.int .i64 a0.steps),.c (.bool a0.full)]]⟩)]) (fun x=>M_pc_decide_L1 a0 a1 a2 x.1 x.2.1 x.2.2=some o2) (fun x=>x.1) ((((a2.map cL_cF).length:Int)).toNat+1,0,[]) h ?_ ?_
    ·exact ca_0
    ·intro x4 h;intro _;obtain⟨k29,m5,h⟩:=succ_of (f:=fun n=>M_pc_decide_L1 a0 a1 a2 n x4.2.1 x4.2.2) rfl h;replace h:M_pc_decide_L1 a0 a1 a2 (k29+1) x4.2.1 x4.2.2=some o2:=h;rw[M_pc_decide_L1]at h;refine aSR ?_;intro _;refine dr (aSq (aCd ?_));intro _;refine spl h (fun c6 h=>?_) (fun c6 h=>?_)
     ·refine aSk (aSq (aBk (aSR ?_)));intro _;obtain⟨y30,w7,q8,h⟩:=ix_ok h;refine Exists.intro (cL_cF y30) (And.intro (map_at' w7) ?_);intro _;refine pr (dr (aSq (aSR ?_)));intro _;obtain⟨z31,u9,h⟩:=ob1_ok h;refine cl rfl (A_p_contains a1 y30 u9) ?_;intro _;refine dr (aCd ?_);intro _;refine spl h (fun c10 h=>?_) (fun c10 h=>?_)
      ·refine aSR ?_;intro _;refine dr (aRt ?_);have j11:=sI_ h;subst j11;replace h:=(osum_r hK3);intro _;obtain⟨rfl,rfl⟩:=inj2 h;all_goals (refine Exists.intro [] (And.intro rfl (And.intro ?_ ?_)));all_goals (repeat (first|exact True.intro|exact gb_nil rfl rfl|refine gb_some ⟨rfl,rfl,rfl⟩ ?_|refine And.intro ?_ ?_|refine gw_ren rfl rfl rfl rfl rfl ?_|exact gw_oren rfl rfl rfl rfl rfl|exact gw_opren rfl rfl rfl rfl rfl|exact gw_onil rfl rfl|exact gw_mren rfl rfl rfl rfl|refine gw_pren rfl rfl rfl rfl rfl|exact gw_thaw rfl rfl rfl|refine gw_tup ?_|exact GWL.nil|exact gwll_nil|exact gw_c|exact GW.sl|exact GW.nil|exact gwll_same rfl FrI.h|refine GWL.cons ?_ ?_|refine gwll_cons ?_ ?_|(refine gw_own3 rfl rfl rfl FrI.h ?_ ?_ ?_)|exact GW.fr FrV.h|exact gw_fr2 rfl FrV.h|exact GW.fr (by assumption)|refine gw_agg ?_|refine gw_clo ?_|refine gw_ptr rfl rfl rfl ?_|(refine gw_own rfl rfl rfl ?_ FrI.h ?_ ?_)|assumption|omega|rfl|(rw[lM_,← lA_];assumption)|(refine gwll_same ?_ FrI.h;(simp[cGTask,cI,cF,cGOp,cGEffect,cL_cF,cL_cL_cF,cL_cI,cGCover,cGCertificate,cN,cGChecker] <;> fail))|(rw[List.map_set];refine gwll_set (by first|rfl|omega|simp) ?_ ?_)|refine gwll_set (by first|rfl|omega|simp) ?_ ?_|(rw[List.map_replicate];refine gwll_rep ?_)|refine gwll_rep ?_|(rw[List.map_append];refine gwll_append ?_ ?_)|refine gwll_append ?_ ?_|(simp[cGTask,cI,cF,cGOp,cGEffect,cL_cF,cL_cL_cF,cL_cI,cGCover,cGCertificate,cN,cGChecker,take_len_map] <;> fail)|(rw[List.drop_zero,tL_] <;> first|rfl|(simp[cGTask,cI,cF,cGOp,cGEffect,cL_cF,cL_cL_cF,cL_cI,cGCover,cGCertificate,cN,cGChecker] <;> fail))|(simp;omega)|(simp only[lM_,lA_,List.drop_zero,lC_,lN_,Nat.zero_add,Nat.add_zero]at *;omega)))
      ·refine aSk (aSR ?_);intro _;obtain⟨z32,u12,h⟩:=ob1_ok h;refine cl rfl (A_p_conflict a1 y30 u12) ?_;intro _;refine dr (aCd ?_);intro _;refine spl h (fun c13 h=>?_) (fun c13 h=>?_)
       ·refine aRg ?_;intro _;obtain⟨q14,h⟩:=grd_ok h;refine pl (pl ?_);refine And.intro (by first|with_reducible assumption|(show(x4.2.2.length+1)*24≤140737488355328;with_reducible assumption)|omega|(simp;omega)) ?_;refine pe (dr (aRg ?_));intro _;refine dr ?_;refine⟨(k29,(IntKind.i64.wrap (x4.2.1+1)),(x4.2.2++[y30])),h,ltS m5,?_⟩;exact ca_0
       ·refine aSk (aRg ?_);intro _;refine dr ?_;refine⟨(k29,(IntKind.i64.wrap (x4.2.1+1)),x4.2.2),h,ltS m5,?_⟩;exact ca_0
     ·refine aEx ?_;refine⟨x4.2.2,(sI_ h).symm,?_⟩;exact ca_0
   ·rintro v15 ho;have ho:=ho.symm;subst ho;intro _;replace h:=(osum_l hK3);refine aSR ?_;intro _;refine dr ?_;obtain⟨o15,h,hK16⟩:=ob1_ok h;refine awp_cut (α:=Int) (fun v116=>mkG 112 115 [(0,.ptr 112 0 0 0),(1,.sl 2 (a1.map cF)),(7,.own 51 0 0 v15.length),(10,.c (.int .i64 v116))] [(51,⟨23,1,false,v15.map cL_cF⟩),(112,⟨153,4,true,[[.sl 1 (a0.vars.map cI),.c (.int .i64 (IntKind.i64.wrap (a0.used+1))),.c (.int .i64 a0.steps),.c (.bool a0.full)]]⟩)]) (fun v=>o15=v) ?_ ?_
    ·refine aSR ?_;intro _;refine dr (aBk ?_);refine awp_loop (α:=Nat×Int×Int) (fun x=>mkG 112 115 [(0,.ptr 112 0 0 0),(1,.sl 2 (a1.map cF)),(7,.own 51 0 0 v15.length),(10,.c (.int .i64 x.2.1)),(58,.own 51 0 0 v15.length),(59,.c (.int .i64 ((v15.length:Nat):Int))),(60,.c (.int .i64 x.2.2))] [(51,⟨23,1,false,v15.map cL_cF⟩),(112,⟨153,4,true,[[.sl 1 (a0.vars.map cI),.c (.int .i64 (IntKind.i64.wrap (a0.used+1))),.c (.int .i64 a0.steps),.c (.bool a0.full)]]⟩)]) (fun x=>M_pc_decide_L3 a1 v15 x.1 x.2.1 x.2.2=some o15) (fun x=>x.1) ((((v15.length:Nat):Int)).toNat+1,((a0.vars.map cI).length:Int),0) h ?_ ?_
     ·exact ca_0
     ·intro x17 h;intro _;obtain⟨k174,m18,h⟩:=succ_of (f:=fun n=>M_pc_decide_L3 a1 v15 n x17.2.1 x17.2.2) rfl h;replace h:M_pc_decide_L3 a1 v15 (k174+1) x17.2.1 x17.2.2=some o15:=h;rw[M_pc_decide_L3]at h;refine aSR ?_;intro _;refine dr (aSq (aCd ?_));intro _;refine spl h (fun c19 h=>?_) (fun c19 h=>?_)
      ·refine aSk ?_;obtain⟨o20,h,hK21⟩:=ob1_ok h;refine awp_cut (α:=Int) (fun v187=>mkG 112 115 [(0,.ptr 112 0 0 0),(1,.sl 2 (a1.map cF)),(7,.own 51 0 0 v15.length),(10,.c (.int .i64 v187)),(58,.own 51 0 0 v15.length),(59,.c (.int .i64 ((v15.length:Nat):Int))),(60,.c (.int .i64 x17.2.2))] [(51,⟨23,1,false,v15.map cL_cF⟩),(112,⟨153,4,true,[[.sl 1 (a0.vars.map cI),.c (.int .i64 (IntKind.i64.wrap (a0.used+1))),.c (.int .i64 a0.steps),.c (.bool a0.full)]]⟩)]) (fun v=>o20=v) ?_ ?_
       ·refine aBk (aSR ?_);intro _;obtain⟨y189,w22,h⟩:=ixn_ok h;refine Exists.intro (cL_cF y189) (And.intro (by first|exact map_at' w22|(have w:=map_at' (f:=cL_cF) w22;simpa [cL_cF,Value.cells] using w)) ?_);intro _;obtain⟨q23,h⟩:=grd_ok h;obtain⟨q24,h⟩:=grd_ok h;refine pr (pr (dr (aSR ?_)));intro _;refine dr (aBk ?_);refine awp_loop (α:=Nat×Int×Int) (fun x=>mkG 112 115 [(0,.ptr 112 0 0 0),(1,.sl 2 (a1.map cF)),(7,.own 51 0 0 v15.length),(10,.c (.int .i64 x.2.1)),(58,.own 51 0 0 v15.length),(59,.c (.int .i64 ((v15.length:Nat):Int))),(60,.c (.int .i64 x17.2.2)),(64,.sl 2 (y189.map cF)),(65,.c (.int .i64 ((y189.map cF).length:Int))),(66,.c (.int .i64 x.2.2))] [(51,⟨23,1,false,v15.map cL_cF⟩),(112,⟨153,4,true,[[.sl 1 (a0.vars.map cI),.c (.int .i64 (IntKind.i64.wrap (a0.used+1))),.c (.int .i64 a0.steps),.c (.bool a0.full)]]⟩)]) (fun x=>M_pc_decide_L2 a1 y189 x.1 x.2.1 x.2.2=some o20) (fun x=>x.1) ((((y189.map cF).length:Int)).toNat+1,x17.2.1,0) h ?_ ?_
        ·exact ca_0
        ·intro x25 h;intro _;obtain⟨k198,m26,h⟩:=succ_of (f:=fun n=>M_pc_decide_L2 a1 y189 n x25.2.1 x25.2.2) rfl h;replace h:M_pc_decide_L2 a1 y189 (k198+1) x25.2.1 x25.2.2=some o20:=h;rw[M_pc_decide_L2]at h;refine aSR ?_;intro _;refine dr (aSq (aCd ?_));intro _;refine spl h (fun c27 h=>?_) (fun c27 h=>?_)
         ·refine aSk (aSq (aBk (aSR ?_)));intro _;obtain⟨y199,w28,q29,h⟩:=ix_ok h;refine Exists.intro (cF y199) (And.intro (map_at' w28) ?_);intro _;refine pr (dr (aSR ?_));intro _;refine spl h (fun c30 h=>?_) (fun c30 h=>?_)
          ·intro _;obtain⟨z200,u31,h⟩:=ob1_ok h;refine cl rfl (A_p_find a1 y199.1 u31) ?_;intro _;refine dr (aCd ?_);intro _;refine spl h (fun c32 h=>?_) (fun c32 h=>?_)
           ·refine aRg ?_;intro _;refine dr (aRg ?_);intro _;refine dr ?_;refine⟨(k198,y199.1,(IntKind.i64.wrap (x25.2.2+1))),h,ltS m26,?_⟩;exact ca_0
           ·refine aSk (aRg ?_);intro _;refine dr ?_;refine⟨(k198,x25.2.1,(IntKind.i64.wrap (x25.2.2+1))),h,ltS m26,?_⟩;exact ca_0
          ·intro _;refine dr (aCd ?_);intro _;refine litF (aSk (aRg ?_));intro _;refine dr ?_;refine⟨(k198,x25.2.1,(IntKind.i64.wrap (x25.2.2+1))),h,ltS m26,?_⟩;exact ca_0
         ·refine aEx ?_;refine⟨x25.2.1,(sI_ h).symm,?_⟩;exact ca_0
       ·rintro v187 ho;have ho:=ho.symm;subst ho;intro _;replace h:=hK21;refine aRg ?_;intro _;refine dr ?_;refine⟨(k174,v187,(IntKind.i64.wrap (x17.2.2+1))),h,ltS m18,?_⟩;exact ca_0
      ·refine aEx ?_;refine⟨x17.2.1,(sI_ h).symm,?_⟩;exact ca_0
    ·rintro v116 ho;have ho:=ho.symm;subst ho;intro _;replace h:=hK16;refine aSq (aSR ?_);intro _;refine dr (aCd ?_);intro _;refine spl h (fun c33 h=>?_) (fun c33 h=>?_)
     ·refine aSR ?_;intro _;refine dr (aRt ?_);intro _;obtain⟨rfl,rfl⟩:=inj2 h;all_goals (refine Exists.intro [] (And.intro rfl (And.intro ?_ ?_)));all_goals (repeat (first|exact True.intro|exact gb_nil rfl rfl|refine gb_some ⟨rfl,rfl,rfl⟩ ?_|refine And.intro ?_ ?_|refine gw_ren rfl rfl rfl rfl rfl ?_|exact gw_oren rfl rfl rfl rfl rfl|exact gw_opren rfl rfl rfl rfl rfl|exact gw_onil rfl rfl|exact gw_mren rfl rfl rfl rfl|refine gw_pren rfl rfl rfl rfl rfl|exact gw_thaw rfl rfl rfl|refine gw_tup ?_|exact GWL.nil|exact gwll_nil|exact gw_c|exact GW.sl|exact GW.nil|exact gwll_same rfl FrI.h|refine GWL.cons ?_ ?_|refine gwll_cons ?_ ?_|(refine gw_own3 rfl rfl rfl FrI.h ?_ ?_ ?_)|exact GW.fr FrV.h|exact gw_fr2 rfl FrV.h|exact GW.fr (by assumption)|refine gw_agg ?_|refine gw_clo ?_|refine gw_ptr rfl rfl rfl ?_|(refine gw_own rfl rfl rfl ?_ FrI.h ?_ ?_)|assumption|omega|rfl|(rw[lM_,← lA_];assumption)|(refine gwll_same ?_ FrI.h;(simp[cGTask,cI,cF,cGOp,cGEffect,cL_cF,cL_cL_cF,cL_cI,cGCover,cGCertificate,cN,cGChecker] <;> fail))|(rw[List.map_set];refine gwll_set (by first|rfl|omega|simp) ?_ ?_)|refine gwll_set (by first|rfl|omega|simp) ?_ ?_|(rw[List.map_replicate];refine gwll_rep ?_)|refine gwll_rep ?_|(rw[List.map_append];refine gwll_append ?_ ?_)|refine gwll_append ?_ ?_|(simp[cGTask,cI,cF,cGOp,cGEffect,cL_cF,cL_cL_cF,cL_cI,cGCover,cGCertificate,cN,cGChecker,take_len_map] <;> fail)|(rw[List.drop_zero,tL_] <;> first|rfl|(simp[cGTask,cI,cF,cGOp,cGEffect,cL_cF,cL_cL_cF,cL_cI,cGCover,cGCertificate,cN,cGChecker] <;> fail))|(simp;omega)|(simp only[lM_,lA_,List.drop_zero,lC_,lN_,Nat.zero_add,Nat.add_zero]at *;omega)))
     ·refine aSk (aSq (aSR ?_));intro _;obtain⟨y201,w34,q35,h⟩:=ix_ok h;refine Exists.intro (cI y201) (And.intro (map_at' w34) ?_);intro _;refine pr (dr (aBk ?_));obtain⟨q36,h⟩:=grd_ok h;refine awp_loop (α:=Nat×(List (List Fact))×Int×(List Int)×Int×Int×Bool) (fun x=>mkG 112 115 [(0,.ptr 112 0 0 0),(1,.sl 2 (a1.map cF)),(7,.sl 1 (x.2.1.map cL_cF)),(10,.c (.int .i64 v116)),(98,.c (.int .i64 y201)),(99,.c (.int .i64 x.2.2.1))] [(112,⟨153,4,true,[[.sl 1 (x.2.2.2.1.map cI),.c (.int .i64 x.2.2.2.2.1),.c (.int .i64 x.2.2.2.2.2.1),.c (.bool x.2.2.2.2.2.2)]]⟩)]) (fun x=>M_pc_decide_L4 a1 (M_pc_decide g) v116 y201 x.1 x.2.1 x.2.2.1 x.2.2.2.1 x.2.2.2.2.1 x.2.2.2.2.2.1 x.2.2.2.2.2.2=some (r1,r2)) (fun x=>x.1) ((y201).toNat+1,v15,0,a0.vars,(IntKind.i64.wrap (a0.used+1)),a0.steps,a0.full) h ?_ ?_
      ·exact ca_0
      ·intro x37 h;intro _;obtain⟨k221,m38,h⟩:=succ_of (f:=fun n=>M_pc_decide_L4 a1 (M_pc_decide g) v116 y201 n x37.2.1 x37.2.2.1 x37.2.2.2.1 x37.2.2.2.2.1 x37.2.2.2.2.2.1 x37.2.2.2.2.2.2) rfl h;replace h:M_pc_decide_L4 a1 (M_pc_decide g) v116 y201 (k221+1) x37.2.1 x37.2.2.1 x37.2.2.2.1 x37.2.2.2.2.1 x37.2.2.2.2.2.1 x37.2.2.2.2.2.2=some (r1,r2):=h;rw[M_pc_decide_L4]at h;refine aSR ?_;intro _;refine dr (aSq (aCd ?_));intro _;refine spl h (fun c39 h=>?_) (fun c39 h=>?_)
       ·refine aSk (aSq (aBk (aSR ?_)));intro _;refine dr (aSR ?_);intro _;obtain⟨z222,u40,h⟩:=ob1_ok h;refine clg [(0,107)] [] [] [(107,⟨2,some ⟨39,2,false,z222.map cF⟩⟩)] (.own 107 2 0 z222.length) rfl rfl (A_with a1 (v116,x37.2.2.1) u40) ?_;intro _;obtain⟨q41,h⟩:=grd_ok h;obtain⟨z223,c224,u42,h⟩:=ob2_ok h;refine clg [(112,112)] [107] [(107,⟨3,none⟩)] [(112,⟨0,some ⟨153,4,true,[[.sl 1 (c224.vars.map cI),.c (.int .i64 c224.used),.c (.int .i64 c224.steps),.c (.bool c224.full)]]⟩⟩)] (.c (.bool z223)) rfl rfl (ih ({ vars:=x37.2.2.2.1,used:=x37.2.2.2.2.1,steps:=x37.2.2.2.2.2.1,full:=x37.2.2.2.2.2.2:GCover }) z222 x37.2.1 u42) ?_;intro _;refine dr (aCd ?_);intro _;refine spl h (fun c43 h=>?_) (fun c43 h=>?_)
        ·refine aSR ?_;intro _;refine dr (aRt ?_);intro _;obtain⟨rfl,rfl⟩:=inj2 h;all_goals (refine Exists.intro [] (And.intro rfl (And.intro ?_ ?_)));all_goals (repeat (first|exact True.intro|exact gb_nil rfl rfl|refine gb_some ⟨rfl,rfl,rfl⟩ ?_|refine And.intro ?_ ?_|refine gw_ren rfl rfl rfl rfl rfl ?_|exact gw_oren rfl rfl rfl rfl rfl|exact gw_opren rfl rfl rfl rfl rfl|exact gw_onil rfl rfl|exact gw_mren rfl rfl rfl rfl|refine gw_pren rfl rfl rfl rfl rfl|exact gw_thaw rfl rfl rfl|refine gw_tup ?_|exact GWL.nil|exact gwll_nil|exact gw_c|exact GW.sl|exact GW.nil|exact gwll_same rfl FrI.h|refine GWL.cons ?_ ?_|refine gwll_cons ?_ ?_|(refine gw_own3 rfl rfl rfl FrI.h ?_ ?_ ?_)|exact GW.fr FrV.h|exact gw_fr2 rfl FrV.h|exact GW.fr (by assumption)|refine gw_agg ?_|refine gw_clo ?_|refine gw_ptr rfl rfl rfl ?_|(refine gw_own rfl rfl rfl ?_ FrI.h ?_ ?_)|assumption|omega|rfl|(rw[lM_,← lA_];assumption)|(refine gwll_same ?_ FrI.h;(simp[cGTask,cI,cF,cGOp,cGEffect,cL_cF,cL_cL_cF,cL_cI,cGCover,cGCertificate,cN,cGChecker] <;> fail))|(rw[List.map_set];refine gwll_set (by first|rfl|omega|simp) ?_ ?_)|refine gwll_set (by first|rfl|omega|simp) ?_ ?_|(rw[List.map_replicate];refine gwll_rep ?_)|refine gwll_rep ?_|(rw[List.map_append];refine gwll_append ?_ ?_)|refine gwll_append ?_ ?_|(simp[cGTask,cI,cF,cGOp,cGEffect,cL_cF,cL_cL_cF,cL_cI,cGCover,cGCertificate,cN,cGChecker,take_len_map] <;> fail)|(rw[List.drop_zero,tL_] <;> first|rfl|(simp[cGTask,cI,cF,cGOp,cGEffect,cL_cF,cL_cL_cF,cL_cI,cGCover,cGCertificate,cN,cGChecker] <;> fail))|(simp;omega)|(simp only[lM_,lA_,List.drop_zero,lC_,lN_,Nat.zero_add,Nat.add_zero]at *;omega)))
        ·refine aSk (aRg ?_);intro _;refine dr ?_;refine⟨(k221,x37.2.1,(IntKind.i64.wrap (x37.2.2.1+1)),c224.vars,c224.used,c224.steps,c224.full),h,ltS m38,?_⟩;exact ca_0
       ·refine aEx (aSR ?_);intro _;refine dr (aRt ?_);intro _;obtain⟨rfl,rfl⟩:=inj2 h;all_goals (refine Exists.intro [] (And.intro rfl (And.intro ?_ ?_)));all_goals (repeat (first|exact True.intro|exact gb_nil rfl rfl|refine gb_some ⟨rfl,rfl,rfl⟩ ?_|refine And.intro ?_ ?_|refine gw_ren rfl rfl rfl rfl rfl ?_|exact gw_oren rfl rfl rfl rfl rfl|exact gw_opren rfl rfl rfl rfl rfl|exact gw_onil rfl rfl|exact gw_mren rfl rfl rfl rfl|refine gw_pren rfl rfl rfl rfl rfl|exact gw_thaw rfl rfl rfl|refine gw_tup ?_|exact GWL.nil|exact gwll_nil|exact gw_c|exact GW.sl|exact GW.nil|exact gwll_same rfl FrI.h|refine GWL.cons ?_ ?_|refine gwll_cons ?_ ?_|(refine gw_own3 rfl rfl rfl FrI.h ?_ ?_ ?_)|exact GW.fr FrV.h|exact gw_fr2 rfl FrV.h|exact GW.fr (by assumption)|refine gw_agg ?_|refine gw_clo ?_|refine gw_ptr rfl rfl rfl ?_|(refine gw_own rfl rfl rfl ?_ FrI.h ?_ ?_)|assumption|omega|rfl|(rw[lM_,← lA_];assumption)|(refine gwll_same ?_ FrI.h;(simp[cGTask,cI,cF,cGOp,cGEffect,cL_cF,cL_cL_cF,cL_cI,cGCover,cGCertificate,cN,cGChecker] <;> fail))|(rw[List.map_set];refine gwll_set (by first|rfl|omega|simp) ?_ ?_)|refine gwll_set (by first|rfl|omega|simp) ?_ ?_|(rw[List.map_replicate];refine gwll_rep ?_)|refine gwll_rep ?_|(rw[List.map_append];refine gwll_append ?_ ?_)|refine gwll_append ?_ ?_|(simp[cGTask,cI,cF,cGOp,cGEffect,cL_cF,cL_cL_cF,cL_cI,cGCover,cGCertificate,cN,cGChecker,take_len_map] <;> fail)|(rw[List.drop_zero,tL_] <;> first|rfl|(simp[cGTask,cI,cF,cGOp,cGEffect,cL_cF,cL_cL_cF,cL_cI,cGCover,cGCertificate,cN,cGChecker] <;> fail))|(simp;omega)|(simp only[lM_,lA_,List.drop_zero,lC_,lN_,Nat.zero_add,Nat.add_zero]at *;omega)))
def M_p_Covered (g:Nat)(a0:List Int)(a1:List Fact)(a2:List (List Fact))(a3:Int):Option (Bool×Int×Er):=ob1 (ob1 (M_task_Facts a0 a1) (fun z7=>sel (!z7) (some (.inr (false,0,(Er.no 2)))) (ob1 (M_s_ContainsFunc_Fact a2 (M_p_Covered_1 a0)) (fun z8=>sel z8 (some (.inr (false,0,(Er.no 2)))) (some (.inl ()))))):Option (Unit⊕(Bool×Int×Er))) (osum (fun _=>ob2 (M_pc_decide g ({ vars:=a0,used:=0,steps:=a3,full:=false:GCover }) a1 a2) (fun z9 c10=>sel c10.full (some (false,0,(Er.no 10))) (some (z9,c10.used,Er.nil)))) (fun(r3,r4,r5)=>some (r3,r4,r5)))
theorem A_p_Covered (g:Nat)(a0:List Int)(a1:List Fact)(a2:List (List Fact))(a3:Int){r1:Bool}{r2:Int}{r3:Er}(h:M_p_Covered g a0 a1 a2 a3=some (r1,r2,r3)):ACall cx 97 [.sl 1 (a0.map cI),.sl 2 (a1.map cF),.sl 1 (a2.map cL_cF),.c (.int .i64 a3)] (.tup [.c (.bool r1),.c (.int .i64 r2),eA r3]):=by
 refine aOf Tryz.func97 rfl (by decide) rfl (bT2 rfl) ?_;intro _;unfold M_p_Covered at h;refine aSR ?_;intro _;refine dr ?_;obtain⟨o1,h,hK2⟩:=ob1_ok h;refine awp_cut (α:=Unit) (fun _=>mkS 41 [(1,.sl 2 (a1.map cF)),(2,.sl 1 (a2.map cL_cF)),(3,.c (.int .i64 a3)),(4,.ptr 4 0 0 0)] [(4,⟨22,1,true,[[.sl 1 (a0.map cI)]]⟩)]) (fun v=>o1=(.inl v)) ?_ ?_
 ·refine aSR ?_;intro _;obtain⟨z7,u3,h⟩:=ob1_ok h;refine cl rfl (A_task_Facts a0 a1 u3) ?_;intro _;refine spf h (fun c4 h=>?_) (fun c4 h=>?_)
  ·intro _;refine⟨_,lf_func rfl (bT2 rfl) rfl rfl,?_⟩;intro _;obtain⟨z8,u5,h⟩:=ob1_ok h;refine clb [4] rfl rfl (A_s_ContainsFunc_Fact a2 (M_p_Covered_1 a0) (.clo (.func 113) [] [.pim [.sl 1 (a0.map cI)] 0]) (Fr.clo FrC_nil FrE.h) ⟨_,_,_,rfl⟩ (fun x0 y0 hx=>⟨113,[],_,rfl,A_p_Covered_1 a0 x0 hx⟩) u5) ?_;intro _;refine dr (aCd ?_);intro _;refine spl h (fun c6 h=>?_) (fun c6 h=>?_)
   ·refine aSR ?_;intro _;refine dr (aRt ?_);have j7:=sI_ h;subst j7;replace h:=(osum_r hK2);intro _;obtain⟨rfl,rfl,rfl⟩:=inj3 h;exact ca_0
   ·refine aSk ?_;refine⟨(),(sI_ h).symm,?_⟩;exact ca_0
  ·intro _;refine dr (aCd ?_);intro _;refine litT (aSR ?_);intro _;refine dr (aRt ?_);have j8:=sI_ h;subst j8;replace h:=(osum_r hK2);intro _;obtain⟨rfl,rfl,rfl⟩:=inj3 h;exact ca_0
 ·rintro _ ho;have ho:=ho.symm;subst ho;intro _;replace h:=(osum_l hK2);refine aSR ?_;intro _;refine dr (aSR ?_);intro _;obtain⟨z9,c10,u9,h⟩:=ob2_ok h;refine clg [(112,26)] [] [] [(26,⟨1,some ⟨153,4,true,[[.sl 1 (c10.vars.map cI),.c (.int .i64 c10.used),.c (.int .i64 c10.steps),.c (.bool c10.full)]]⟩⟩)] (.c (.bool z9)) rfl rfl (A_pc_decide g ({ vars:=a0,used:=0,steps:=a3,full:=false:GCover }) a1 a2 u9) ?_;intro _;refine dr (aSq (aSR ?_));intro _;refine dr (aCd ?_);intro _;refine spl h (fun c10 h=>?_) (fun c10 h=>?_)
  ·refine aSR ?_;intro _;refine dr (aRt ?_);intro _;obtain⟨rfl,rfl,rfl⟩:=inj3 h;exact ca_0
  ·refine aSk (aSR ?_);intro _;refine dr (aRt ?_);intro _;obtain⟨rfl,rfl,rfl⟩:=inj3 h;exact ca_0
def M_p_conflict_L1_B (a0:List Fact)(_:List Fact)(_y8:Fact)(_:Int):Unit→(Unit→Option (Bool))→Option (Bool):=fun _ rc=>ixv _y8 (fun y8=>ob1 (M_p_find a0 y8.1) (fun z9=>sel (decide (z9≥0)) (sel (z9 != y8.2) (some true) (rc ())) (rc ())))
def M_p_conflict_L1_E (_:List Fact)(_:List Fact):Unit→Option (Bool):=fun _=>some false
theorem M_p_conflict_L1_eq (a0:List Fact)(a1:List Fact)  (hl:a1.length<9223372036854775807):M_p_conflict_L1 a0 a1 (((a1.map cF).length:Int).toNat+1) 0=Rg (M_p_conflict_L1_B a0 a1) (M_p_conflict_L1_E a0 a1) a1 0 ():=rg_e1 (L:=fun k i _=>M_p_conflict_L1 a0 a1 k i) hl (fun _ _ _=>rfl) ()
def M_pc_decide_L1_B (a0:GCover)(a1:List Fact)(_:List (List Fact))(_y30:List Fact)(_:Int):((List (List Fact)))→(((List (List Fact)))→Option ((List (List Fact))⊕(Bool×GCover)))→Option ((List (List Fact))⊕(Bool×GCover)):=fun v28 rc=>ixv _y30 (fun y30=>ob1 (M_p_contains a1 y30) (fun z31=>sel z31 (some (.inr (true,{ vars:=a0.vars,used:=(IntKind.i64.wrap (a0.used+1)),steps:=a0.steps,full:=a0.full:GCover }))) (ob1 (M_p_conflict a1 y30) (fun z32=>sel (!z32) (grd ((v28.length+1)*24≤140737488355328) (rc ((v28++[y30])))) (rc (v28))))))
def M_pc_decide_L1_E (_:GCover)(_:List Fact)(_:List (List Fact)):((List (List Fact)))→Option ((List (List Fact))⊕(Bool×GCover)):=fun v28=>some (.inl v28)
theorem M_pc_decide_L1_eq (a0:GCover)(a1:List Fact)(a2:List (List Fact))(v28:List (List Fact))(hl:a2.length<9223372036854775807):M_pc_decide_L1 a0 a1 a2 (((a2.map cL_cF).length:Int).toNat+1) 0 v28=Rg (M_pc_decide_L1_B a0 a1 a2) (M_pc_decide_L1_E a0 a1 a2) a2 0 v28:=rg_e1 (L:=fun k i v28=>M_pc_decide_L1 a0 a1 a2 k i v28) hl (fun _ _ _=>rfl) v28
def M_pc_decide_L2_B (a1:List Fact)(_:List Fact)(_y199:Fact)(_:Int):((Int))→(((Int))→Option (Int))→Option (Int):=fun v196 rc=>ixv _y199 (fun y199=>sel (decide (y199.1<v196)) (ob1 (M_p_find a1 y199.1) (fun z200=>sel (decide (z200<0)) (rc (y199.1)) (rc (v196)))) (rc (v196)))
def M_pc_decide_L2_E (_:List Fact)(_:List Fact):((Int))→Option (Int):=fun v196=>some v196
theorem M_pc_decide_L2_eq (a1:List Fact)(y189:List Fact)(v196:Int)(hl:y189.length<9223372036854775807):M_pc_decide_L2 a1 y189 (((y189.map cF).length:Int).toNat+1) v196 0=Rg (M_pc_decide_L2_B a1 y189) (M_pc_decide_L2_E a1 y189) y189 0 v196:=rg_e1 (L:=fun k i v196=>M_pc_decide_L2 a1 y189 k v196 i) hl (fun _ _ _=>rfl) v196
def M_pc_decide_L3_B (a1:List Fact)(v15:List (List Fact))(v173:Int):((Int))→(((Int))→Option (Int))→Option (Int):=fun v172 rc=>ob1 (ixn v15 ((v173).toNat) (fun y189=>grd (0≤v173) (grd (v173<((v15.length:Nat):Int)) (M_pc_decide_L2 a1 y189 ((((y189.map cF).length:Int)).toNat+1) v172 0))):Option (Int)) (fun v187=>rc (v187))
def M_pc_decide_L3_E (_:List Fact)(_:List (List Fact)):((Int))→Option (Int):=fun v172=>some v172
theorem M_pc_decide_L3_eq (a1:List Fact)(v15:List (List Fact))(v172:Int){m:Nat}(hm:((v15.length:Nat):Int)=(m:Int))(hl:m<9223372036854775807):M_pc_decide_L3 a1 v15 ((((v15.length:Nat):Int)).toNat+1) v172 0=Rn (M_pc_decide_L3_B a1 v15) (M_pc_decide_L3_E a1 v15) m 0 v172:=rn_e (L:=fun k i v172=>M_pc_decide_L3 a1 v15 k v172 i) hm hl (fun _ _ _=>rfl) v172
def M_pc_decide_L4_B (a1:List Fact)(rec:GCover→(List Fact)→(List (List Fact))→Option (Bool×GCover))(v116:Int)(_:Int)(v216:Int):((List (List Fact))×(List Int)×(Int)×(Int)×(Bool))→(((List (List Fact))×(List Int)×(Int)×(Int)×(Bool))→Option (Bool×GCover))→Option (Bool×GCover):=fun(v215,v217,v218,v219,v220) rc=>ob1 (M_with a1 (v116,v216)) (fun z222=>grd (z222.length≤140737488355328) (ob2 (rec ({ vars:=v217,used:=v218,steps:=v219,full:=v220:GCover }) z222 v215) (fun z223 c224=>sel (!z223) (some (false,c224)) (rc (v215,c224.vars,c224.used,c224.steps,c224.full)))))
def M_pc_decide_L4_E (_:List Fact)(_:GCover→(List Fact)→(List (List Fact))→Option (Bool×GCover))(_:Int)(_:Int):((List (List Fact))×(List Int)×(Int)×(Int)×(Bool))→Option (Bool×GCover):=fun(_,v217,v218,v219,v220)=>some (true,{ vars:=v217,used:=v218,steps:=v219,full:=v220:GCover })
theorem M_pc_decide_L4_eq (a1:List Fact)(rec:GCover→(List Fact)→(List (List Fact))→Option (Bool×GCover))(v116:Int)(y201:Int)(v215:List (List Fact))(v217:List Int)(v218:Int)(v219:Int)(v220:Bool){m:Nat}(hm:y201=(m:Int))(hl:m<9223372036854775807):M_pc_decide_L4 a1 rec v116 y201 ((y201).toNat+1) v215 0 v217 v218 v219 v220=Rn (M_pc_decide_L4_B a1 rec v116 y201) (M_pc_decide_L4_E a1 rec v116 y201) m 0 (v215,v217,v218,v219,v220):=rn_e (L:=fun k i p=>match p with|(v215,v217,v218,v219,v220)=>M_pc_decide_L4 a1 rec v116 y201 k v215 i v217 v218 v219 v220) hm hl (fun _ _ ⟨_,_,_,_,_⟩=>rfl) (v215,v217,v218,v219,v220)
end Go.Proofs.YtinnphmnhmdcgaaGreat.Am
namespace Go.Proofs.YtinnphmnhmdcgaaGreat.Am
open Go.RowKit
theorem conflict_eq (p x:List Fact)(hp:Sh p)(hx:Sh x):M_p_conflict p x=some (clashP p x):=by
 rw[M_p_conflict,M_p_conflict_L1_eq p x hx.lt,rg_all (p:=fun f=>!(decide (0≤findF p f.1)&&decide (findF p f.1≠f.2))) (c:=some true)]
 ·rw[M_p_conflict_L1_E,clashP]
  have:(x.all fun f=>!(decide (0≤findF p f.1)&&decide (findF p f.1≠f.2)))=!(x.any fun f=>decide (0≤findF p f.1)&&decide (findF p f.1≠f.2)):=by rw[List.not_any_eq_all_not]
  rw[this]
  cases x.any fun f=>decide (0≤findF p f.1)&&decide (findF p f.1≠f.2) <;> rfl
 ·intro y _ i rc
  rw[M_p_conflict_L1_B,ixv,find_eq p y.1 hp,ob1_some,sel_dec]
  by_cases h:0≤findF p y.1
  ·rw[if_pos h,decide_eq_true h,Bool.true_and]
   by_cases e:findF p y.1=y.2
   ·rw[show(findF p y.1 != y.2)=false from by simp[e],sel_ff,if_pos (by simp[e])]
   ·rw[show(findF p y.1 != y.2)=true from by simp[e],sel_tt,if_neg (by simp[e])]
  ·rw[if_neg h,decide_eq_false h,Bool.false_and,Bool.not_false,if_pos rfl]
theorem dec1 (c:GCover)(hu:IntKind.i64.wrap (c.used+1)=c.used+1)(p:List Fact)(hp:Sh p)(hpv:vF (-1) p=true)(l:List (List Fact)):∀ (r:List (List Fact))(i:Int)(v:List (List Fact)),(∀ x∈r,Sh x∧vF (-1) x=true)→v.length+r.length≤1000000 →
  Rg (M_pc_decide_L1_B c p l) (M_pc_decide_L1_E c p l) r i v=some (if r.any (fun x=>subF x p)=true then .inr (true,{ vars:=c.vars,used:=c.used+1,steps:=c.steps,full:=c.full:GCover })else .inl (v++restP p r))
 | [],i,v,_,_=>by rw[Rg,M_pc_decide_L1_E];simp[restP]
 | x :: r,i,v,hr,hl=>by
  obtain⟨hx,hxv⟩:=hr x (mS_ ..)
  rw[lC_]at hl
  have hr2:∀ x∈r,Sh x∧vF (-1) x=true:=fun y hy=>hr y (mC_ _ hy)
  rw[Rg,M_pc_decide_L1_B,ixv,contains_eq p x hp hx hpv hxv,ob1_some,List.any_cons]
  cases hs:subF x p with
  | true=>rw[sel_tt,Bool.true_or,if_pos rfl,hu]
  | false =>
   rw[sel_ff,Bool.false_or,conflict_eq p x hp hx,ob1_some]
   cases hc:clashP p x with
   | true =>
    rw[Bool.not_true,sel_ff,dec1 c hu p hp hpv l r _ v hr2 (by omega)]
    simp only[restP,List.filter_cons,hc,Bool.not_true,Bool.false_eq_true,if_false]
   | false =>
    rw[Bool.not_false,sel_tt,grd_t (by omega),dec1 c hu p hp hpv l r _ (v++[x]) hr2 (by simp;omega)]
    simp only[restP,List.filter_cons,hc,Bool.not_false,if_true,List.append_assoc,List.singleton_append]
theorem dec2 (p:List Fact)(hp:Sh p)(x:List Fact):∀ (r:List Fact)(i v:Int),Rg (M_pc_decide_L2_B p x) (M_pc_decide_L2_E p x) r i v=some (lowF p r v)
 | [],i,v=>rfl
 | f :: r,i,v=>by
  rw[Rg,M_pc_decide_L2_B,ixv,sel_dec,lowF]
  by_cases h1:f.1<v
  ·rw[if_pos h1,find_eq p f.1 hp,ob1_some,sel_dec]
   by_cases h2:findF p f.1<0
   ·rw[if_pos h2,if_pos ⟨h1,h2⟩,dec2 p hp x r]
   ·rw[if_neg h2,if_neg (fun h=>h2 h.2),dec2 p hp x r]
  ·rw[if_neg h1,if_neg (fun h=>h1 h.1),dec2 p hp x r]
theorem dec3 (p:List Fact)(hp:Sh p)(l:List (List Fact))(hl:∀ x∈l,Sh x):∀ (m n:Nat)(v:Int),n+m=l.length→Rn (M_pc_decide_L3_B p l) (M_pc_decide_L3_E p l) m n v=some (lowL p (l.drop n) v)
 | 0,n,v,h=>by rw[Rn,M_pc_decide_L3_E,List.drop_eq_nil_of_le (by omega)];rfl
 | m+1,n,v,h=>by
  obtain⟨y,hy,hd⟩:=drop_at (show n<l.length by omega)
  rw[Rn,M_pc_decide_L3_B,Int.toNat_natCast,ixn_at hy,grd_t (by omega),grd_t (by omega),M_pc_decide_L2_eq p y v (hl y (mG_ hy)).lt,dec2 p hp y,ob1_some,show((n:Int)+1)=((n+1:Nat):Int)from rfl,dec3 p hp l hl m (n+1) _ (by omega),hd,lowL]
def limR (vars:List Int)(steps u:Int)(r:Bool×Int):Bool×GCover :=
 if u+r.2≤steps then(r.1,{ vars:=vars,used:=u+r.2,steps:=steps,full:=false })else(false,{ vars:=vars,used:=max u steps,steps:=steps,full:=true })
theorem kids_ge (f:Int→Bool×Int)(hf:∀ y,0≤(f y).2):∀ (m:Nat)(x c:Int),c≤(kids f m x c).2
 | 0,x,c=>Int.le_refl _
 | m+1,x,c=>by
  rw[kids]
  have:=hf x
  split
  ·have:=kids_ge f hf m (x+1) (c+(f x).2);omega
  ·show c≤c+(f x).2;omega
theorem decA_pos (vars:List Int):∀ (d:Nat)(p:List Fact)(l:List (List Fact)),1≤(decA vars d p l).2
 | 0,_,_=>Int.le_refl _
 | d+1,p,l=>by
  rw[decA]
  split
  ·exact Int.le_refl _
  ·split
   ·exact Int.le_refl _
   ·exact kids_ge _ (fun y=>by have:=decA_pos vars d (pwithF p (lowL p (restP p l) vars.length,y)) (restP p l);omega) _ _ _
theorem dec4 (vars:List Int)(steps u:Int)(p:List Fact)(hp:p.length≤64)(v y:Int)(l:List (List Fact))(rec:GCover→List Fact→List (List Fact)→Option (Bool×GCover))(f:Int→Bool×Int)(hf:∀ y,1≤(f y).2)(top:Int)
  (hrec:∀ x w:Int,0≤x→x<top→0≤w→rec { vars:=vars,used:=w,steps:=steps,full:=false } (pwithF p (v,x)) l=some (limR vars steps w (f x))) (hu:0≤u):∀ (m n:Nat) (c:Int),((n+m:Nat):Int)≤top→1≤c→u+c≤steps →
  Rn (M_pc_decide_L4_B p rec v y) (M_pc_decide_L4_E p rec v y) m n (l,vars,u+c,steps,false)=some (limR vars steps u (kids f m n c))
 | 0,n,c,_,_,hc=>by rw[Rn,M_pc_decide_L4_E,kids,limR,if_pos hc]
 | m+1,n,c,ht,h1,hc=>by
  have hfn:=hf n
  rw[Rn,M_pc_decide_L4_B,M_with,grd_t (by omega),ob1_some,grd_t (by rw[pwithF_len];omega),hrec n (u+c) (by omega) (by omega) (by omega),kids]
  by_cases hk:u+c+(f n).2≤steps
  ·rw[limR,if_pos hk,ob2_some]
   cases hb:(f n).1 with
   | false=>rw[Bool.not_false,sel_tt,if_neg (by simp),limR,if_pos (by show u+(c+(f n).2)≤steps;omega),Int.add_assoc]
   | true =>
    rw[Bool.not_true,sel_ff,if_pos rfl]
    have:=dec4 vars steps u p hp v y l rec f hf top hrec hu m (n+1) (c+(f n).2) (by omega) (by omega) (by omega)
    rw[← Int.add_assoc]at this
    exact this
  ·rw[limR,if_neg hk,ob2_some,Bool.not_false,sel_tt]
   have hge:c+(f n).2≤(if(f n).1=true then kids f m (n+1) (c+(f n).2)else(false,c+(f n).2)).2:=by
    split
    ·exact kids_ge f (fun y=>by have:=hf y;omega) m _ _
    ·exact Int.le_refl _
   rw[limR,if_neg (by omega),show max (u+c) steps=max u steps from by omega]
theorem decide_eq (vars:List Int)(hv:vars.length≤64)(hd:∀ n∈vars,n≤64)(steps:Int)(hst:steps≤9223372036854775806):∀ (d:Nat)(p:List Fact)(l:List (List Fact)),DecP vars d p l→l.length≤100000→∀ (g:Nat)(u:Int),d≤g→0≤u →
  M_pc_decide g { vars:=vars,used:=u,steps:=steps,full:=false } p l=some (limR vars steps u (decA vars d p l))
 | 0,p,l,h,_,_,_,_,_=>h.zero.elim
 | d+1,p,l,h,hl,g,u,hg,hu=>by
  obtain⟨g,rfl⟩:∃ k,g=k+1:=⟨g-1,by omega⟩
  have hpl:=prop_len hv h.prop
  have hps:=prop_sh hv h.prop
  rw[M_pc_decide]
  simp only
  rw[sel_dec]
  by_cases hus:u≥steps
  ·have:=decA_pos vars (d+1) p l
   rw[if_pos hus,limR,if_neg (by omega),show max u steps=u from by omega]
  ·have hw:IntKind.i64.wrap (u+1)=u+1:=wrap_eq (by omega) (by omega)
   have hall:∀ x∈l,Sh x∧vF (-1) x=true:=fun x hx=>⟨prop_sh hv (h.all x hx),propF_vF' (h.all x hx)⟩
   rw[if_neg hus,M_pc_decide_L1_eq _ p l [] (by omega),dec1 _ hw p hps (propF_vF' h.prop) l l 0 [] hall (by simp;omega),ob1_some,decA]
   by_cases hc:l.any (fun x=>subF x p)=true
   ·rw[if_pos hc,if_pos hc,osum_inr,limR,if_pos (by show u+1≤steps;omega)]
   ·have hrl:(restP p l).length≤l.length:=List.length_filter_le _ _
    have e3:Rn (M_pc_decide_L3_B p (restP p l)) (M_pc_decide_L3_E p (restP p l)) (restP p l).length 0 (vars.length:Int)=some (lowL p (restP p l) vars.length):=dec3 p hps (restP p l) (fun x hx=>(hall x (List.mem_filter.1 hx).1).1) _ 0 _ (Nat.zero_add _)
    rw[if_neg hc,if_neg hc,osum_inl,List.nil_append,M_pc_decide_L3_eq p (restP p l) _ rfl (by omega),lM_,e3,ob1_some]
    by_cases hlo:lowL p (restP p l) vars.length=vars.length
    ·rw[if_pos hlo,hlo,beq_self_eq_true,sel_tt,hw,limR,if_pos (by show u+1≤steps;omega)]
    ·obtain⟨h1,h2,h3⟩:=h.low hlo
     have hmem:vars.getD (lowL p (restP p l) vars.length).toNat 0∈vars:=by
      rw[gD_,gE_ (by omega),Option.getD_some]
      exact List.getElem_mem _
     have hdo:=h.dom _ hmem
     have hd2:=hd _ hmem
     rw[if_neg hlo,show(lowL p (restP p l) vars.length == (vars.length:Int))=false from by simp[hlo],sel_ff,ix_getD (d:=0) h1 h2,grd_t (by omega),M_pc_decide_L4_eq p _ _ _ _ _ _ _ _ (m:=(vars.getD (lowL p (restP p l) vars.length).toNat 0).toNat) (by omega) (by omega),hw]
     exact dec4 vars steps u p hpl _ _ (restP p l) _ (fun x=>decA vars d (pwithF p (lowL p (restP p l) vars.length,x)) (restP p l)) (fun y=>decA_pos vars d _ _) (vars.getD (lowL p (restP p l) vars.length).toNat 0)
      (fun x w x0 x1 w0=>decide_eq vars hv hd steps hst d _ _ (h.kid hlo x0 x1) (by omega) g w (by omega) w0) hu _ 0 1 (by omega) (by omega) (by omega)
def covA (vars:List Int)(p:List Fact)(l:List (List Fact)):Bool×Int:=decA vars (vars.length+1) p l
structure DomP (vars:List Int):Prop where
 len:vars.length≤64
 dom:∀ n∈vars,1≤n∧n≤64
theorem good_dom {t:GTask}(h:goodF t=true):DomP t.Vars:=by
 unfold goodF at h
 simp only[bA_,decide_eq_true_iff,List.all_eq_true]at h
 exact⟨h.1.1,h.2.1⟩
theorem cov_pre {vars:List Int}(h:DomP vars){p:List Fact}(hp:propF vars (-1) p=true){l:List (List Fact)}(hl:PropL vars l):DecP vars (vars.length+1) p l:=⟨fun n hn=>(h.dom n hn).1,hp,hl,by omega⟩
theorem covA_true {vars:List Int}(h:DomP vars){p:List Fact}(hp:propF vars (-1) p=true){l:List (List Fact)}(hl:PropL vars l):(covA vars p l).1=true↔∀ s,stateF vars s=true→holdsF s p=true→some1 s l:=decA_true _ p l (cov_pre h hp hl)
def covR (r:Bool×Int)(steps:Int):Bool×Int×Er:=if r.2≤steps then(r.1,r.2,.nil)else(false,0,.no 10)
theorem covered_eq {vars:List Int}(h:DomP vars){p:List Fact}(hp:propF vars (-1) p=true){l:List (List Fact)}(hl:PropL vars l)(hlen:l.length≤100000)(steps:Int)(hst:steps≤9223372036854775806)(g:Nat)(hg:65≤g):M_p_Covered g vars p l steps=some (covR (covA vars p l) steps):=by
 have hv:=h.len
 rw[M_p_Covered,facts_eq vars p (prop_sh hv hp),hp,ob1_some,Bool.not_true,sel_ff,containsFunc_eq (p:=fun x=>!propF vars (-1) x) (show _≤_ by omega) (fun y hy=>by
  rw[M_p_Covered_1,facts_eq vars y (prop_sh hv (hl y hy)),ob1_some])]
 have hany:(l.any fun x=>!propF vars (-1) x)=false:=by
  rw[Bool.eq_false_iff]
  intro hh
  obtain⟨x,hx,e⟩:=List.any_eq_true.1 hh
  rw[hl x hx]at e
  cases e
 rw[hany,ob1_some,sel_ff,ob1_some,osum_inl,decide_eq vars hv (fun n hn=>(h.dom n hn).2) steps hst _ p l (cov_pre h hp hl) hlen g 0 (by omega) (Int.le_refl _)]
 show ob2 (some (limR vars steps 0 (covA vars p l))) _=_
 unfold limR covR
 rw[Int.zero_add]
 split <;> rfl
end Go.Proofs.YtinnphmnhmdcgaaGreat.Am
namespace Go.Proofs.YtinnphmnhmdcgaaGreat.Am
set_option maxHeartbeats 16000000
set_option maxRecDepth 100000
open Go.RowKit
def M_ce_formed_L1 (a0:List Fact):Nat→Int→Option (Bool)|0,_=>none|k6+1,v5=>sel (decide (v5<((a0.map cF).length:Int))) (ix a0 v5 (fun y7=>sel (decide (y7.1<0)) (some false) (sel (decide (y7.1≥64)) (some false) (sel (decide (y7.2<0)) (some false) (sel (decide (y7.2≥64)) (some false) (sel (decide (v5>0)) (ix a0 (IntKind.i64.wrap (v5-1)) (fun y8=>sel (decide (y8.1≥y7.1)) (some false) (M_ce_formed_L1 a0 k6 (IntKind.i64.wrap (v5+1))))) (M_ce_formed_L1 a0 k6 (IntKind.i64.wrap (v5+1))))))))) (some true)
def M_ce_formed (a0:List Fact):Option (Bool):=M_ce_formed_L1 a0 ((((a0.map cF).length:Int)).toNat+1) 0
theorem A_ce_formed (a0:List Fact){r1:Bool}(h:M_ce_formed a0=some r1):ACall cx 112 [.sl 2 (a0.map cF)] (.c (.bool r1)):=by
 refine aOf Tryz.func112 rfl (by decide) rfl (bT2 rfl) ?_;intro _;unfold M_ce_formed at h;refine aSR ?_;intro _;refine dr (aSq (aSR ?_));intro _;refine dr (aBk ?_);refine awp_loop (α:=Nat×Int) (fun x=>mkS 46 [(0,.sl 2 (a0.map cF)),(5,.sl 2 (a0.map cF)),(6,.c (.int .i64 ((a0.map cF).length:Int))),(7,.c (.int .i64 x.2))] []) (fun x=>M_ce_formed_L1 a0 x.1 x.2=some r1) (fun x=>x.1) ((((a0.map cF).length:Int)).toNat+1,0) h ?_ ?_
 ·exact ca_0
 ·intro x1 h;intro _;obtain⟨k6,m2,h⟩:=succ_of (f:=fun n=>M_ce_formed_L1 a0 n x1.2) rfl h;replace h:M_ce_formed_L1 a0 (k6+1) x1.2=some r1:=h;rw[M_ce_formed_L1]at h;refine aSR ?_;intro _;refine dr (aSq (aCd ?_));intro _;refine spl h (fun c3 h=>?_) (fun c3 h=>?_)
  ·refine aSk (aSq (aBk (aSR ?_)));intro _;obtain⟨y7,w4,q5,h⟩:=ix_ok h;refine Exists.intro (cF y7) (And.intro (map_at' w4) ?_);intro _;refine pr (dr (aSR ?_));intro _;refine spf h (fun c6 h=>?_) (fun c6 h=>?_)
   ·intro _;refine spf h (fun c7 h=>?_) (fun c7 h=>?_)
    ·intro _;refine spf h (fun c8 h=>?_) (fun c8 h=>?_)
     ·intro _;refine spf h (fun c9 h=>?_) (fun c9 h=>?_)
      ·intro _;refine spl h (fun c10 h=>?_) (fun c10 h=>?_)
       ·intro _;obtain⟨y8,w11,q12,h⟩:=ix_ok h;refine Exists.intro (cF y8) (And.intro (map_at' w11) ?_);intro _;refine pr (dr (aCd ?_));intro _;refine spl h (fun c13 h=>?_) (fun c13 h=>?_)
        ·refine aSR ?_;intro _;refine dr (aRt ?_);intro _;obtain rfl:=inj1 h;exact ca_0
        ·refine aSk (aRg ?_);intro _;refine dr ?_;refine⟨(k6,(IntKind.i64.wrap (x1.2+1))),h,ltS m2,?_⟩;exact ca_0
       ·intro _;refine dr (aCd ?_);intro _;refine litF (aSk (aRg ?_));intro _;refine dr ?_;refine⟨(k6,(IntKind.i64.wrap (x1.2+1))),h,ltS m2,?_⟩;exact ca_0
      ·intro _;refine dr (aCd ?_);intro _;refine litT (aSR ?_);intro _;refine dr (aRt ?_);intro _;obtain rfl:=inj1 h;exact ca_0
     ·intro _;refine dr (aCd ?_);intro _;refine litT (aSR ?_);intro _;refine dr (aRt ?_);intro _;obtain rfl:=inj1 h;exact ca_0
    ·intro _;refine dr (aCd ?_);intro _;refine litT (aSR ?_);intro _;refine dr (aRt ?_);intro _;obtain rfl:=inj1 h;exact ca_0
   ·intro _;refine dr (aCd ?_);intro _;refine litT (aSR ?_);intro _;refine dr (aRt ?_);intro _;obtain rfl:=inj1 h;exact ca_0
  ·refine aEx (aSR ?_);intro _;refine dr (aRt ?_);intro _;obtain rfl:=inj1 h;exact ca_0
def M_ce_Check_L1 (a0:GCertificate):Nat→Int→Option (Unit⊕Er)|0,_=>none|k20+1,v19=>sel (decide (v19<((a0.Nogoods.map cN).length:Int))) (ix a0.Nogoods v19 (fun y21=>ob1 (M_ce_formed y21.1) (fun z22=>sel (!z22) (some (.inr (Er.no 2))) (M_ce_Check_L1 a0 k20 (IntKind.i64.wrap (v19+1)))))) (some (.inl ()))
def M_ce_Check_L2 (a0:GCertificate):Nat→Int→Option (Er)|0,_=>none|k27+1,v26=>sel (decide (v26<((a0.Nogoods.map cN).length:Int))) (ix a0.Nogoods v26 (fun y28=>sel (decide (y28.2<0)) (some (Er.no 1)) (sel (decide (a0.Bound≥0)) (sel (decide (y28.2≥a0.Bound)) (some (Er.no 1)) (sel (decide (a0.Bound<0)) (sel (y28.2 != 0) (some (Er.no 1)) (M_ce_Check_L2 a0 k27 (IntKind.i64.wrap (v26+1)))) (M_ce_Check_L2 a0 k27 (IntKind.i64.wrap (v26+1))))) (sel (decide (a0.Bound<0)) (sel (y28.2 != 0) (some (Er.no 1)) (M_ce_Check_L2 a0 k27 (IntKind.i64.wrap (v26+1)))) (M_ce_Check_L2 a0 k27 (IntKind.i64.wrap (v26+1))))))) (some Er.nil)
def M_ce_Check (a0:GCertificate):Option (Er):=ob1 (sel (decide (a0.Bound<(-1))) (some (.inr (Er.no 1))) (sel (decide (a0.Bound>1099511627776)) (some (.inr (Er.no 1))) (some (.inl ()))):Option (Unit⊕Er)) (osum (fun _=>sel (decide (((a0.Nogoods.map cN).length:Int)>4096)) (some (Er.no 5)) (ob1 (M_ce_Check_L1 a0 ((((a0.Nogoods.map cN).length:Int)).toNat+1) 0:Option (Unit⊕Er)) (osum (fun _=>M_ce_Check_L2 a0 ((((a0.Nogoods.map cN).length:Int)).toNat+1) 0) (fun r12=>some r12)))) (fun r1=>some r1))
theorem A_ce_Check (a0:GCertificate){r1:Er}(h:M_ce_Check a0=some r1):ACall cx 96 [.agg [.c (.int .i64 a0.Bound),.sl 2 (a0.Nogoods.map cN)]] (eA r1):=by
 refine aOf Tryz.func96 rfl (by decide) rfl (bT2 rfl) ?_;intro _;unfold M_ce_Check at h;refine aSR ?_;intro _;refine dr ?_;obtain⟨o1,h,hK2⟩:=ob1_ok h;refine awp_cut (α:=Unit) (fun _=>mkS 68 [(1,.ptr 1 0 0 0)] [(1,⟨51,2,true,[[.c (.int .i64 a0.Bound),.sl 2 (a0.Nogoods.map cN)]]⟩)]) (fun v=>o1=(.inl v)) ?_ ?_
 ·refine aSR ?_;intro _;refine spf h (fun c3 h=>?_) (fun c3 h=>?_)
  ·intro _;refine dr (aCd ?_);intro _;refine spl h (fun c4 h=>?_) (fun c4 h=>?_)
   ·refine aSR ?_;intro _;refine dr (aRt ?_);have j5:=sI_ h;subst j5;replace h:=(osum_r hK2);intro _;obtain rfl:=inj1 h;exact ca_0
   ·refine aSk ?_;refine⟨(),(sI_ h).symm,?_⟩;exact ca_0
  ·intro _;refine dr (aCd ?_);intro _;refine litT (aSR ?_);intro _;refine dr (aRt ?_);have j6:=sI_ h;subst j6;replace h:=(osum_r hK2);intro _;obtain rfl:=inj1 h;exact ca_0
 ·rintro _ ho;have ho:=ho.symm;subst ho;intro _;replace h:=(osum_l hK2);refine aSq (aSR ?_);intro _;refine dr (aCd ?_);intro _;refine spl h (fun c7 h=>?_) (fun c7 h=>?_)
  ·refine aSR ?_;intro _;refine dr (aRt ?_);intro _;obtain rfl:=inj1 h;exact ca_0
  ·refine aSk ?_;obtain⟨o8,h,hK9⟩:=ob1_ok h;refine awp_cut (α:=Unit) (fun _=>mkS 68 [(1,.ptr 1 0 0 0)] [(1,⟨51,2,true,[[.c (.int .i64 a0.Bound),.sl 2 (a0.Nogoods.map cN)]]⟩)]) (fun v=>o8=(.inl v)) ?_ ?_
   ·refine aSR ?_;intro _;refine dr (aBk ?_);refine awp_loop (α:=Nat×Int) (fun x=>mkS 68 [(1,.ptr 1 0 0 0),(22,.sl 2 (a0.Nogoods.map cN)),(23,.c (.int .i64 ((a0.Nogoods.map cN).length:Int))),(24,.c (.int .i64 x.2))] [(1,⟨51,2,true,[[.c (.int .i64 a0.Bound),.sl 2 (a0.Nogoods.map cN)]]⟩)]) (fun x=>M_ce_Check_L1 a0 x.1 x.2=some o8) (fun x=>x.1) ((((a0.Nogoods.map cN).length:Int)).toNat+1,0) h ?_ ?_
    ·exact ca_0
    ·intro x10 h;intro _;obtain⟨k20,m11,h⟩:=succ_of (f:=fun n=>M_ce_Check_L1 a0 n x10.2) rfl h;replace h:M_ce_Check_L1 a0 (k20+1) x10.2=some o8:=h;rw[M_ce_Check_L1]at h;refine aSR ?_;intro _;refine dr (aSq (aCd ?_));intro _;refine spl h (fun c12 h=>?_) (fun c12 h=>?_)
     ·refine aSk (aSq (aBk (aSR ?_)));intro _;obtain⟨y21,w13,q14,h⟩:=ix_ok h;refine Exists.intro (cN y21) (And.intro (map_at' w13) ?_);intro _;refine pr (dr (aSR ?_));intro _;obtain⟨z22,u15,h⟩:=ob1_ok h;refine cl rfl (A_ce_formed y21.1 u15) ?_;intro _;refine dr (aCd ?_);intro _;refine spl h (fun c16 h=>?_) (fun c16 h=>?_)
      ·refine aSR ?_;intro _;refine dr (aRt ?_);have j17:=sI_ h;subst j17;replace h:=(osum_r hK9);intro _;obtain rfl:=inj1 h;exact ca_0
      ·refine aSk (aRg ?_);intro _;refine dr ?_;refine⟨(k20,(IntKind.i64.wrap (x10.2+1))),h,ltS m11,?_⟩;exact ca_0
     ·refine aEx ?_;refine⟨(),(sI_ h).symm,?_⟩;exact ca_0
   ·rintro _ ho;have ho:=ho.symm;subst ho;intro _;replace h:=(osum_l hK9);refine aSq (aSR ?_);intro _;refine dr (aBk ?_);refine awp_loop (α:=Nat×Int) (fun x=>mkS 68 [(1,.ptr 1 0 0 0),(35,.sl 2 (a0.Nogoods.map cN)),(36,.c (.int .i64 ((a0.Nogoods.map cN).length:Int))),(37,.c (.int .i64 x.2))] [(1,⟨51,2,true,[[.c (.int .i64 a0.Bound),.sl 2 (a0.Nogoods.map cN)]]⟩)]) (fun x=>M_ce_Check_L2 a0 x.1 x.2=some r1) (fun x=>x.1) ((((a0.Nogoods.map cN).length:Int)).toNat+1,0) h ?_ ?_
    ·exact ca_0
    ·intro x18 h;intro _;obtain⟨k27,m19,h⟩:=succ_of (f:=fun n=>M_ce_Check_L2 a0 n x18.2) rfl h;replace h:M_ce_Check_L2 a0 (k27+1) x18.2=some r1:=h;rw[M_ce_Check_L2]at h;refine aSR ?_;intro _;refine dr (aSq (aCd ?_));intro _;refine spl h (fun c20 h=>?_) (fun c20 h=>?_)
     ·refine aSk (aSq (aBk (aSR ?_)));intro _;obtain⟨y28,w21,q22,h⟩:=ix_ok h;refine Exists.intro (cN y28) (And.intro (map_at' w21) ?_);intro _;refine pr (dr (aSR ?_));intro _;refine spf h (fun c23 h=>?_) (fun c23 h=>?_)
      ·intro _;refine spl h (fun c24 h=>?_) (fun c24 h=>?_)
       ·intro _;refine spf h (fun c25 h=>?_) (fun c25 h=>?_)
        ·intro _;refine spl h (fun c26 h=>?_) (fun c26 h=>?_)
         ·intro _;refine dr (aCd ?_);intro _;refine spl h (fun c27 h=>?_) (fun c27 h=>?_)
          ·refine aSR ?_;intro _;refine dr (aRt ?_);intro _;obtain rfl:=inj1 h;exact ca_0
          ·refine aSk (aRg ?_);intro _;refine dr ?_;refine⟨(k27,(IntKind.i64.wrap (x18.2+1))),h,ltS m19,?_⟩;exact ca_0
         ·intro _;refine dr (aCd ?_);intro _;refine litF (aSk (aRg ?_));intro _;refine dr ?_;refine⟨(k27,(IntKind.i64.wrap (x18.2+1))),h,ltS m19,?_⟩;exact ca_0
        ·intro _;refine dr (aCd ?_);intro _;refine litT (aSR ?_);intro _;refine dr (aRt ?_);intro _;obtain rfl:=inj1 h;exact ca_0
       ·intro _;refine spl h (fun c28 h=>?_) (fun c28 h=>?_)
        ·intro _;refine dr (aCd ?_);intro _;refine spl h (fun c29 h=>?_) (fun c29 h=>?_)
         ·refine aSR ?_;intro _;refine dr (aRt ?_);intro _;obtain rfl:=inj1 h;exact ca_0
         ·refine aSk (aRg ?_);intro _;refine dr ?_;refine⟨(k27,(IntKind.i64.wrap (x18.2+1))),h,ltS m19,?_⟩;exact ca_0
        ·intro _;refine dr (aCd ?_);intro _;refine litF (aSk (aRg ?_));intro _;refine dr ?_;refine⟨(k27,(IntKind.i64.wrap (x18.2+1))),h,ltS m19,?_⟩;exact ca_0
      ·intro _;refine dr (aCd ?_);intro _;refine litT (aSR ?_);intro _;refine dr (aRt ?_);intro _;obtain rfl:=inj1 h;exact ca_0
     ·refine aEx (aSR ?_);intro _;refine dr (aRt ?_);intro _;obtain rfl:=inj1 h;exact ca_0
def M_ce_Proper_L1 (a0:List Int)(a1:GCertificate):Nat→Int→Option (Er)|0,_=>none|k9+1,v8=>sel (decide (v8<((a1.Nogoods.map cN).length:Int))) (ix a1.Nogoods v8 (fun y10=>ob1 (M_task_Facts a0 y10.1) (fun z11=>sel (!z11) (some (Er.no 2)) (M_ce_Proper_L1 a0 a1 k9 (IntKind.i64.wrap (v8+1)))))) (some Er.nil)
def M_ce_Proper (a0:List Int)(a1:GCertificate):Option (Er):=ob1 (M_ce_Check a1) (fun z1=>erM z1 (M_ce_Proper_L1 a0 a1 ((((a1.Nogoods.map cN).length:Int)).toNat+1) 0) (fun e2=>some (Er.no e2)))
theorem A_ce_Proper (a0:List Int)(a1:GCertificate){r1:Er}(h:M_ce_Proper a0 a1=some r1):ACall cx 82 [.sl 1 (a0.map cI),.agg [.c (.int .i64 a1.Bound),.sl 2 (a1.Nogoods.map cN)]] (eA r1):=by
 refine aOf Tryz.func82 rfl (by decide) rfl (bT2 rfl) ?_;intro _;unfold M_ce_Proper at h;refine aSR ?_;intro _;refine dr (aSq (aSR ?_));intro _;obtain⟨z1,u1,h⟩:=ob1_ok h;refine cl rfl (A_ce_Check a1 u1) ?_;intro _;refine dr (aSq ?_);rcases z1 with _|e2
 ·replace h:=erM_nil h;refine aRg ?_;intro _;refine dr (aCd ?_);intro _;refine litF (aSk (aSq (aSR ?_)));intro _;refine dr (aBk ?_);refine awp_loop (α:=Nat×Int) (fun x=>mkS 27 [(0,.sl 1 (a0.map cI)),(14,.sl 2 (a1.Nogoods.map cN)),(15,.c (.int .i64 ((a1.Nogoods.map cN).length:Int))),(16,.c (.int .i64 x.2))] []) (fun x=>M_ce_Proper_L1 a0 a1 x.1 x.2=some r1) (fun x=>x.1) ((((a1.Nogoods.map cN).length:Int)).toNat+1,0) h ?_ ?_
  ·exact ca_0
  ·intro x2 h;intro _;obtain⟨k9,m3,h⟩:=succ_of (f:=fun n=>M_ce_Proper_L1 a0 a1 n x2.2) rfl h;replace h:M_ce_Proper_L1 a0 a1 (k9+1) x2.2=some r1:=h;rw[M_ce_Proper_L1]at h;refine aSR ?_;intro _;refine dr (aSq (aCd ?_));intro _;refine spl h (fun c4 h=>?_) (fun c4 h=>?_)
   ·refine aSk (aSq (aBk (aSR ?_)));intro _;obtain⟨y10,w5,q6,h⟩:=ix_ok h;refine Exists.intro (cN y10) (And.intro (map_at' w5) ?_);intro _;refine pr (dr (aSR ?_));intro _;obtain⟨z11,u7,h⟩:=ob1_ok h;refine cl rfl (A_task_Facts a0 y10.1 u7) ?_;intro _;refine dr (aCd ?_);intro _;refine spl h (fun c8 h=>?_) (fun c8 h=>?_)
    ·refine aSR ?_;intro _;refine dr (aRt ?_);intro _;obtain rfl:=inj1 h;exact ca_0
    ·refine aSk (aRg ?_);intro _;refine dr ?_;refine⟨(k9,(IntKind.i64.wrap (x2.2+1))),h,ltS m3,?_⟩;exact ca_0
   ·refine aEx (aSR ?_);intro _;refine dr (aRt ?_);intro _;obtain rfl:=inj1 h;exact ca_0
 ·replace h:=erM_no h;refine aRg ?_;intro _;refine dr (aCd ?_);intro _;refine litT (aSR ?_);intro _;refine dr (aRt ?_);intro _;obtain rfl:=inj1 h;exact ca_0
def M_ck_counting_L1 (a0:GChecker)(a1:Int):Nat→Int→(List (List Fact))→Option (List (List Fact))|0,_,_=>none|k7+1,v5,v6=>sel (decide (v5<((a0.c.Nogoods.map cN).length:Int))) (ix a0.c.Nogoods v5 (fun y8=>sel (decide (y8.2≤a1)) (grd ((v6.length+1)*24≤140737488355328) (M_ck_counting_L1 a0 a1 k7 (IntKind.i64.wrap (v5+1)) (v6++[y8.1]))) (M_ck_counting_L1 a0 a1 k7 (IntKind.i64.wrap (v5+1)) v6))) (grd (v6.length≤140737488355328) (some v6))
def M_ck_counting (a0:GChecker)(a1:Int):Option (List (List Fact)):=M_ck_counting_L1 a0 a1 ((((a0.c.Nogoods.map cN).length:Int)).toNat+1) 0 []
theorem A_ck_counting (a0:GChecker)(a1:Int){r1:List (List Fact)}(h:M_ck_counting a0 a1=some r1):ACallG cx 98 [.ptr 29 0 0 0,.c (.int .i64 a1)] [(29,⟨124,7,true,[[.sl 1 (a0.t.Vars.map cI),.sl 1 (a0.t.Init.map cI),.sl 2 (a0.t.Goal.map cF),.sl 4 (a0.t.Ops.map cGOp),.c (.int .i64 a0.c.Bound),.sl 2 (a0.c.Nogoods.map cN),.c (.int .i64 a0.steps)]]⟩)] [29] (.sl 1 (r1.map cL_cF)) [(29,⟨124,7,true,[[.sl 1 (a0.t.Vars.map cI),.sl 1 (a0.t.Init.map cI),.sl 2 (a0.t.Goal.map cF),.sl 4 (a0.t.Ops.map cGOp),.c (.int .i64 a0.c.Bound),.sl 2 (a0.c.Nogoods.map cN),.c (.int .i64 a0.steps)]]⟩)]:=by
 refine acallg_of 31 Tryz.func98 rfl (by decide) rfl (bT2 rfl) rfl rfl ?_;intro _;unfold M_ck_counting at h;refine aSR ?_;intro _;refine dr (aSR ?_);intro _;refine dr (aSq (aSR ?_));intro _;refine dr (aBk ?_);refine awp_loop (α:=Nat×Int×(List (List Fact))) (fun x=>mkG 29 31 [(1,.c (.int .i64 a1)),(5,.own 26 0 0 x.2.2.length),(12,.sl 2 (a0.c.Nogoods.map cN)),(13,.c (.int .i64 ((a0.c.Nogoods.map cN).length:Int))),(14,.c (.int .i64 x.2.1))] [(26,⟨23,1,false,x.2.2.map cL_cF⟩),(29,⟨124,7,true,[[.sl 1 (a0.t.Vars.map cI),.sl 1 (a0.t.Init.map cI),.sl 2 (a0.t.Goal.map cF),.sl 4 (a0.t.Ops.map cGOp),.c (.int .i64 a0.c.Bound),.sl 2 (a0.c.Nogoods.map cN),.c (.int .i64 a0.steps)]]⟩)]) (fun x=>M_ck_counting_L1 a0 a1 x.1 x.2.1 x.2.2=some r1) (fun x=>x.1) ((((a0.c.Nogoods.map cN).length:Int)).toNat+1,0,[]) h ?_ ?_
 ·exact ca_0
 ·intro x1 h;intro _;obtain⟨k7,m2,h⟩:=succ_of (f:=fun n=>M_ck_counting_L1 a0 a1 n x1.2.1 x1.2.2) rfl h;replace h:M_ck_counting_L1 a0 a1 (k7+1) x1.2.1 x1.2.2=some r1:=h;rw[M_ck_counting_L1]at h;refine aSR ?_;intro _;refine dr (aSq (aCd ?_));intro _;refine spl h (fun c3 h=>?_) (fun c3 h=>?_)
  ·refine aSk (aSq (aBk (aSR ?_)));intro _;obtain⟨y8,w4,q5,h⟩:=ix_ok h;refine Exists.intro (cN y8) (And.intro (map_at' w4) ?_);intro _;refine pr (dr (aSR ?_));intro _;refine dr (aCd ?_);intro _;refine spl h (fun c6 h=>?_) (fun c6 h=>?_)
   ·refine aRg ?_;intro _;obtain⟨q7,h⟩:=grd_ok h;refine pl (pl ?_);refine And.intro (by first|with_reducible assumption|(show(x1.2.2.length+1)*24≤140737488355328;with_reducible assumption)|omega|(simp;omega)) ?_;refine pe (dr (aRg ?_));intro _;refine dr ?_;refine⟨(k7,(IntKind.i64.wrap (x1.2.1+1)),(x1.2.2++[y8.1])),h,ltS m2,?_⟩;exact ca_0
   ·refine aSk (aRg ?_);intro _;refine dr ?_;refine⟨(k7,(IntKind.i64.wrap (x1.2.1+1)),x1.2.2),h,ltS m2,?_⟩;exact ca_0
  ·refine aEx (aSR ?_);intro _;refine dr (aRt ?_);obtain⟨q8,h⟩:=grd_ok h;intro _;obtain rfl:=inj1 h;all_goals (refine Exists.intro [] (And.intro rfl (And.intro ?_ ?_)));all_goals (repeat (first|exact True.intro|exact gb_nil rfl rfl|refine gb_some ⟨rfl,rfl,rfl⟩ ?_|refine And.intro ?_ ?_|refine gw_ren rfl rfl rfl rfl rfl ?_|exact gw_oren rfl rfl rfl rfl rfl|exact gw_opren rfl rfl rfl rfl rfl|exact gw_onil rfl rfl|exact gw_mren rfl rfl rfl rfl|refine gw_pren rfl rfl rfl rfl rfl|exact gw_thaw rfl rfl rfl|refine gw_tup ?_|exact GWL.nil|exact gwll_nil|exact gw_c|exact GW.sl|exact GW.nil|exact gwll_same rfl FrI.h|refine GWL.cons ?_ ?_|refine gwll_cons ?_ ?_|(refine gw_own3 rfl rfl rfl FrI.h ?_ ?_ ?_)|exact GW.fr FrV.h|exact gw_fr2 rfl FrV.h|exact GW.fr (by assumption)|refine gw_agg ?_|refine gw_clo ?_|refine gw_ptr rfl rfl rfl ?_|(refine gw_own rfl rfl rfl ?_ FrI.h ?_ ?_)|assumption|omega|rfl|(rw[lM_,← lA_];assumption)|(refine gwll_same ?_ FrI.h;(simp[cGTask,cI,cF,cGOp,cGEffect,cL_cF,cL_cL_cF,cL_cI,cGCover,cGCertificate,cN,cGChecker] <;> fail))|(rw[List.map_set];refine gwll_set (by first|rfl|omega|simp) ?_ ?_)|refine gwll_set (by first|rfl|omega|simp) ?_ ?_|(rw[List.map_replicate];refine gwll_rep ?_)|refine gwll_rep ?_|(rw[List.map_append];refine gwll_append ?_ ?_)|refine gwll_append ?_ ?_|(simp[cGTask,cI,cF,cGOp,cGEffect,cL_cF,cL_cL_cF,cL_cI,cGCover,cGCertificate,cN,cGChecker,take_len_map] <;> fail)|(rw[List.drop_zero,tL_] <;> first|rfl|(simp[cGTask,cI,cF,cGOp,cGEffect,cL_cF,cL_cL_cF,cL_cI,cGCover,cGCertificate,cN,cGChecker] <;> fail))|(simp;omega)|(simp only[lM_,lA_,List.drop_zero,lC_,lN_,Nat.zero_add,Nat.add_zero]at *;omega)))
def M_ck_covered (g:Nat)(a0:GChecker)(a1:List Fact)(a2:Int):Option (Bool×Er×GChecker):=ob1 (M_ck_counting a0 a2) (fun z1=>ob3 (M_p_Covered g a0.t.Vars a1 z1 a0.steps) (fun z2 z3 z4=>erM z4 (some (z2,Er.nil,{ t:=a0.t,c:=a0.c,steps:=(IntKind.i64.wrap (a0.steps-z3)):GChecker })) (fun e5=>some (false,(Er.no e5),a0))))
theorem A_ck_covered (g:Nat)(a0:GChecker)(a1:List Fact)(a2:Int){r1:Bool}{r2:Er}{r3:GChecker}(h:M_ck_covered g a0 a1 a2=some (r1,r2,r3)):ACallG cx 83 [.ptr 41 0 0 0,.sl 2 (a1.map cF),.c (.int .i64 a2)] [(41,⟨124,7,true,[[.sl 1 (a0.t.Vars.map cI),.sl 1 (a0.t.Init.map cI),.sl 2 (a0.t.Goal.map cF),.sl 4 (a0.t.Ops.map cGOp),.c (.int .i64 a0.c.Bound),.sl 2 (a0.c.Nogoods.map cN),.c (.int .i64 a0.steps)]]⟩)] [41] (.tup [.c (.bool r1),eA r2]) [(41,⟨124,7,true,[[.sl 1 (r3.t.Vars.map cI),.sl 1 (r3.t.Init.map cI),.sl 2 (r3.t.Goal.map cF),.sl 4 (r3.t.Ops.map cGOp),.c (.int .i64 r3.c.Bound),.sl 2 (r3.c.Nogoods.map cN),.c (.int .i64 r3.steps)]]⟩)]:=by
 refine acallg_of 44 Tryz.func83 rfl (by decide) rfl (bT2 rfl) rfl rfl ?_;intro _;unfold M_ck_covered at h;refine aSR ?_;intro _;refine dr (aSR ?_);intro _;obtain⟨z1,u1,h⟩:=ob1_ok h;refine clk [(29,41)] [(41,⟨0,some ⟨124,7,true,[[.sl 1 (a0.t.Vars.map cI),.sl 1 (a0.t.Init.map cI),.sl 2 (a0.t.Goal.map cF),.sl 4 (a0.t.Ops.map cGOp),.c (.int .i64 a0.c.Bound),.sl 2 (a0.c.Nogoods.map cN),.c (.int .i64 a0.steps)]]⟩⟩)] (.sl 1 (z1.map cL_cF)) rfl rfl (A_ck_counting a0 a2 u1) ?_;intro _;obtain⟨z2,z3,z4,u2,h⟩:=ob3_ok h;refine cl rfl (A_p_Covered g a0.t.Vars a1 z1 a0.steps u2) ?_;intro _;refine dr (aSq (aSq ?_));rcases z4 with _|e5
 ·replace h:=erM_nil h;refine aRg ?_;intro _;refine dr (aCd ?_);intro _;refine litF (aSk (aSR ?_));intro _;refine dr (aSR ?_);intro _;refine dr (aRt ?_);intro _;obtain⟨rfl,rfl,rfl⟩:=inj3 h;all_goals (refine Exists.intro [] (And.intro rfl (And.intro ?_ ?_)));all_goals (repeat (first|exact True.intro|exact gb_nil rfl rfl|refine gb_some ⟨rfl,rfl,rfl⟩ ?_|refine And.intro ?_ ?_|refine gw_ren rfl rfl rfl rfl rfl ?_|exact gw_oren rfl rfl rfl rfl rfl|exact gw_opren rfl rfl rfl rfl rfl|exact gw_onil rfl rfl|exact gw_mren rfl rfl rfl rfl|refine gw_pren rfl rfl rfl rfl rfl|exact gw_thaw rfl rfl rfl|refine gw_tup ?_|exact GWL.nil|exact gwll_nil|exact gw_c|exact GW.sl|exact GW.nil|exact gwll_same rfl FrI.h|refine GWL.cons ?_ ?_|refine gwll_cons ?_ ?_|(refine gw_own3 rfl rfl rfl FrI.h ?_ ?_ ?_)|exact GW.fr FrV.h|exact gw_fr2 rfl FrV.h|exact GW.fr (by assumption)|refine gw_agg ?_|refine gw_clo ?_|refine gw_ptr rfl rfl rfl ?_|(refine gw_own rfl rfl rfl ?_ FrI.h ?_ ?_)|assumption|omega|rfl|(rw[lM_,← lA_];assumption)|(refine gwll_same ?_ FrI.h;(simp[cGTask,cI,cF,cGOp,cGEffect,cL_cF,cL_cL_cF,cL_cI,cGCover,cGCertificate,cN,cGChecker] <;> fail))|(rw[List.map_set];refine gwll_set (by first|rfl|omega|simp) ?_ ?_)|refine gwll_set (by first|rfl|omega|simp) ?_ ?_|(rw[List.map_replicate];refine gwll_rep ?_)|refine gwll_rep ?_|(rw[List.map_append];refine gwll_append ?_ ?_)|refine gwll_append ?_ ?_|(simp[cGTask,cI,cF,cGOp,cGEffect,cL_cF,cL_cL_cF,cL_cI,cGCover,cGCertificate,cN,cGChecker,take_len_map] <;> fail)|(rw[List.drop_zero,tL_] <;> first|rfl|(simp[cGTask,cI,cF,cGOp,cGEffect,cL_cF,cL_cL_cF,cL_cI,cGCover,cGCertificate,cN,cGChecker] <;> fail))|(simp;omega)|(simp only[lM_,lA_,List.drop_zero,lC_,lN_,Nat.zero_add,Nat.add_zero]at *;omega)))
 ·replace h:=erM_no h;refine aRg ?_;intro _;refine dr (aCd ?_);intro _;refine litT (aSR ?_);intro _;refine dr (aRt ?_);intro _;obtain⟨rfl,rfl,rfl⟩:=inj3 h;all_goals (refine Exists.intro [] (And.intro rfl (And.intro ?_ ?_)));all_goals (repeat (first|exact True.intro|exact gb_nil rfl rfl|refine gb_some ⟨rfl,rfl,rfl⟩ ?_|refine And.intro ?_ ?_|refine gw_ren rfl rfl rfl rfl rfl ?_|exact gw_oren rfl rfl rfl rfl rfl|exact gw_opren rfl rfl rfl rfl rfl|exact gw_onil rfl rfl|exact gw_mren rfl rfl rfl rfl|refine gw_pren rfl rfl rfl rfl rfl|exact gw_thaw rfl rfl rfl|refine gw_tup ?_|exact GWL.nil|exact gwll_nil|exact gw_c|exact GW.sl|exact GW.nil|exact gwll_same rfl FrI.h|refine GWL.cons ?_ ?_|refine gwll_cons ?_ ?_|(refine gw_own3 rfl rfl rfl FrI.h ?_ ?_ ?_)|exact GW.fr FrV.h|exact gw_fr2 rfl FrV.h|exact GW.fr (by assumption)|refine gw_agg ?_|refine gw_clo ?_|refine gw_ptr rfl rfl rfl ?_|(refine gw_own rfl rfl rfl ?_ FrI.h ?_ ?_)|assumption|omega|rfl|(rw[lM_,← lA_];assumption)|(refine gwll_same ?_ FrI.h;(simp[cGTask,cI,cF,cGOp,cGEffect,cL_cF,cL_cL_cF,cL_cI,cGCover,cGCertificate,cN,cGChecker] <;> fail))|(rw[List.map_set];refine gwll_set (by first|rfl|omega|simp) ?_ ?_)|refine gwll_set (by first|rfl|omega|simp) ?_ ?_|(rw[List.map_replicate];refine gwll_rep ?_)|refine gwll_rep ?_|(rw[List.map_append];refine gwll_append ?_ ?_)|refine gwll_append ?_ ?_|(simp[cGTask,cI,cF,cGOp,cGEffect,cL_cF,cL_cL_cF,cL_cI,cGCover,cGCertificate,cN,cGChecker,take_len_map] <;> fail)|(rw[List.drop_zero,tL_] <;> first|rfl|(simp[cGTask,cI,cF,cGOp,cGEffect,cL_cF,cL_cL_cF,cL_cI,cGCover,cGCertificate,cN,cGChecker] <;> fail))|(simp;omega)|(simp only[lM_,lA_,List.drop_zero,lC_,lN_,Nat.zero_add,Nat.add_zero]at *;omega)))
def M_ck_step_L1 (g:Nat)(v2:Int)(z7:List (List Fact)):Nat→Int→(List Int)→(List Int)→(List Fact)→(List GOp)→Int→(List Nogood)→Int→Option (Er×GChecker)|0,_,_,_,_,_,_,_,_=>none|k36+1,v28,v29,v30,v31,v32,v33,v34,v35=>sel (decide (v28<((z7.map cL_cF).length:Int))) (ix z7 v28 (fun y37=>ob3 (M_ck_covered g ({ t:={ Vars:=v29,Init:=v30,Goal:=v31,Ops:=v32:GTask },c:={ Bound:=v33,Nogoods:=v34:GCertificate },steps:=v35:GChecker }) y37 v2) (fun z38 z39 c40=>erM z39 (sel (!z38) (some ((Er.no 19),c40)) (M_ck_step_L1 g v2 z7 k36 (IntKind.i64.wrap (v28+1)) c40.t.Vars c40.t.Init c40.t.Goal c40.t.Ops c40.c.Bound c40.c.Nogoods c40.steps)) (fun e41=>some ((Er.no e41),c40))))) (some (Er.nil,{ t:={ Vars:=v29,Init:=v30,Goal:=v31,Ops:=v32:GTask },c:={ Bound:=v33,Nogoods:=v34:GCertificate },steps:=v35:GChecker }))
def M_ck_step (g:Nat)(a0:GChecker)(a1:Nogood)(a2:Int):Option (Er×GChecker):=ob1 (sel (decide (a0.c.Bound≥0)) (ix a0.t.Ops a2 (fun y6=>sel (decide ((IntKind.i64.wrap (a1.2+y6.Cost))≥a0.c.Bound)) (some (.inr (Er.nil,a0))) (some (.inl (IntKind.i64.wrap (a1.2+y6.Cost)))))) (some (.inl 0)):Option (Int⊕(Er×GChecker))) (osum (fun v2=>ob2 (M_g_Regress g a0.t a2 a1.1) (fun z7 z8=>erM z8 (M_ck_step_L1 g v2 z7 ((((z7.map cL_cF).length:Int)).toNat+1) 0 a0.t.Vars a0.t.Init a0.t.Goal a0.t.Ops a0.c.Bound a0.c.Nogoods a0.steps) (fun e9=>some ((Er.no e9),a0)))) (fun(r3,r4)=>some (r3,r4)))
theorem A_ck_step (g:Nat)(a0:GChecker)(a1:Nogood)(a2:Int){r1:Er}{r2:GChecker}(h:M_ck_step g a0 a1 a2=some (r1,r2)):ACallG cx 84 [.ptr 73 0 0 0,.agg [.sl 2 (a1.1.map cF),.c (.int .i64 a1.2)],.c (.int .i64 a2)] [(73,⟨124,7,true,[[.sl 1 (a0.t.Vars.map cI),.sl 1 (a0.t.Init.map cI),.sl 2 (a0.t.Goal.map cF),.sl 4 (a0.t.Ops.map cGOp),.c (.int .i64 a0.c.Bound),.sl 2 (a0.c.Nogoods.map cN),.c (.int .i64 a0.steps)]]⟩)] [73] (eA r1) [(73,⟨124,7,true,[[.sl 1 (r2.t.Vars.map cI),.sl 1 (r2.t.Init.map cI),.sl 2 (r2.t.Goal.map cF),.sl 4 (r2.t.Ops.map cGOp),.c (.int .i64 r2.c.Bound),.sl 2 (r2.c.Nogoods.map cN),.c (.int .i64 r2.steps)]]⟩)]:=by
 refine acallg_of 76 Tryz.func84 rfl (by decide) rfl (bT2 rfl) rfl rfl ?_;intro _;unfold M_ck_step at h;refine aSR ?_;intro _;refine dr (aSR ?_);intro _;refine dr ?_;obtain⟨o1,h,hK2⟩:=ob1_ok h;refine awp_cut (α:=Int) (fun v2=>mkG 73 76 [(0,.ptr 73 0 0 0),(2,.c (.int .i64 a2)),(4,.ptr 4 0 0 0),(7,.c (.int .i64 v2))] [(4,⟨48,2,true,[[.sl 2 (a1.1.map cF),.c (.int .i64 a1.2)]]⟩),(73,⟨124,7,true,[[.sl 1 (a0.t.Vars.map cI),.sl 1 (a0.t.Init.map cI),.sl 2 (a0.t.Goal.map cF),.sl 4 (a0.t.Ops.map cGOp),.c (.int .i64 a0.c.Bound),.sl 2 (a0.c.Nogoods.map cN),.c (.int .i64 a0.steps)]]⟩)]) (fun v=>o1=(.inl v)) ?_ ?_
 ·refine aSR ?_;intro _;refine dr (aCd ?_);intro _;refine spl h (fun c3 h=>?_) (fun c3 h=>?_)
  ·refine aSR ?_;intro _;obtain⟨y6,w4,q5,h⟩:=ix_ok h;refine Exists.intro (cGOp y6) (And.intro (map_at' w4) ?_);intro _;refine pr (dr (aSR ?_));intro _;refine dr (aCd ?_);intro _;refine spl h (fun c6 h=>?_) (fun c6 h=>?_)
   ·refine aSR ?_;intro _;refine dr (aRt ?_);have j7:=sI_ h;subst j7;replace h:=(osum_r hK2);intro _;obtain⟨rfl,rfl⟩:=inj2 h;all_goals (refine Exists.intro [] (And.intro rfl (And.intro ?_ ?_)));all_goals (repeat (first|exact True.intro|exact gb_nil rfl rfl|refine gb_some ⟨rfl,rfl,rfl⟩ ?_|refine And.intro ?_ ?_|refine gw_ren rfl rfl rfl rfl rfl ?_|exact gw_oren rfl rfl rfl rfl rfl|exact gw_opren rfl rfl rfl rfl rfl|exact gw_onil rfl rfl|exact gw_mren rfl rfl rfl rfl|refine gw_pren rfl rfl rfl rfl rfl|exact gw_thaw rfl rfl rfl|refine gw_tup ?_|exact GWL.nil|exact gwll_nil|exact gw_c|exact GW.sl|exact GW.nil|exact gwll_same rfl FrI.h|refine GWL.cons ?_ ?_|refine gwll_cons ?_ ?_|(refine gw_own3 rfl rfl rfl FrI.h ?_ ?_ ?_)|exact GW.fr FrV.h|exact gw_fr2 rfl FrV.h|exact GW.fr (by assumption)|refine gw_agg ?_|refine gw_clo ?_|refine gw_ptr rfl rfl rfl ?_|(refine gw_own rfl rfl rfl ?_ FrI.h ?_ ?_)|assumption|omega|rfl|(rw[lM_,← lA_];assumption)|(refine gwll_same ?_ FrI.h;(simp[cGTask,cI,cF,cGOp,cGEffect,cL_cF,cL_cL_cF,cL_cI,cGCover,cGCertificate,cN,cGChecker] <;> fail))|(rw[List.map_set];refine gwll_set (by first|rfl|omega|simp) ?_ ?_)|refine gwll_set (by first|rfl|omega|simp) ?_ ?_|(rw[List.map_replicate];refine gwll_rep ?_)|refine gwll_rep ?_|(rw[List.map_append];refine gwll_append ?_ ?_)|refine gwll_append ?_ ?_|(simp[cGTask,cI,cF,cGOp,cGEffect,cL_cF,cL_cL_cF,cL_cI,cGCover,cGCertificate,cN,cGChecker,take_len_map] <;> fail)|(rw[List.drop_zero,tL_] <;> first|rfl|(simp[cGTask,cI,cF,cGOp,cGEffect,cL_cF,cL_cL_cF,cL_cI,cGCover,cGCertificate,cN,cGChecker] <;> fail))|(simp;omega)|(simp only[lM_,lA_,List.drop_zero,lC_,lN_,Nat.zero_add,Nat.add_zero]at *;omega)))
   ·refine aSk ?_;refine⟨(IntKind.i64.wrap (a1.2+y6.Cost)),(sI_ h).symm,?_⟩;exact ca_0
  ·refine aSk ?_;refine⟨0,(sI_ h).symm,?_⟩;exact ca_0
 ·rintro v2 ho;have ho:=ho.symm;subst ho;intro _;replace h:=(osum_l hK2);refine aSR ?_;intro _;obtain⟨z7,z8,u8,h⟩:=ob2_ok h;refine cl rfl (A_g_Regress g a0.t a2 a1.1 u8) ?_;intro _;refine dr (aSq (aSq ?_));rcases z8 with _|e9
  ·replace h:=erM_nil h;refine aRg ?_;intro _;refine dr (aCd ?_);intro _;refine litF (aSk (aSq (aSR ?_)));intro _;refine dr (aBk ?_);refine awp_loop (α:=Nat×Int×(List Int)×(List Int)×(List Fact)×(List GOp)×Int×(List Nogood)×Int) (fun x=>mkG 73 76 [(0,.ptr 73 0 0 0),(7,.c (.int .i64 v2)),(53,.sl 1 (z7.map cL_cF)),(54,.c (.int .i64 ((z7.map cL_cF).length:Int))),(55,.c (.int .i64 x.2.1))] [(73,⟨124,7,true,[[.sl 1 (x.2.2.1.map cI),.sl 1 (x.2.2.2.1.map cI),.sl 2 (x.2.2.2.2.1.map cF),.sl 4 (x.2.2.2.2.2.1.map cGOp),.c (.int .i64 x.2.2.2.2.2.2.1),.sl 2 (x.2.2.2.2.2.2.2.1.map cN),.c (.int .i64 x.2.2.2.2.2.2.2.2)]]⟩)]) (fun x=>M_ck_step_L1 g v2 z7 x.1 x.2.1 x.2.2.1 x.2.2.2.1 x.2.2.2.2.1 x.2.2.2.2.2.1 x.2.2.2.2.2.2.1 x.2.2.2.2.2.2.2.1 x.2.2.2.2.2.2.2.2=some (r1,r2)) (fun x=>x.1) ((((z7.map cL_cF).length:Int)).toNat+1,0,a0.t.Vars,a0.t.Init,a0.t.Goal,a0.t.Ops,a0.c.Bound,a0.c.Nogoods,a0.steps) h ?_ ?_
   ·exact ca_0
   ·intro x9 h;intro _;obtain⟨k36,m10,h⟩:=succ_of (f:=fun n=>M_ck_step_L1 g v2 z7 n x9.2.1 x9.2.2.1 x9.2.2.2.1 x9.2.2.2.2.1 x9.2.2.2.2.2.1 x9.2.2.2.2.2.2.1 x9.2.2.2.2.2.2.2.1 x9.2.2.2.2.2.2.2.2) rfl h;replace h:M_ck_step_L1 g v2 z7 (k36+1) x9.2.1 x9.2.2.1 x9.2.2.2.1 x9.2.2.2.2.1 x9.2.2.2.2.2.1 x9.2.2.2.2.2.2.1 x9.2.2.2.2.2.2.2.1 x9.2.2.2.2.2.2.2.2=some (r1,r2):=h;rw[M_ck_step_L1]at h;refine aSR ?_;intro _;refine dr (aSq (aCd ?_));intro _;refine spl h (fun c11 h=>?_) (fun c11 h=>?_)
    ·refine aSk (aSq (aBk (aSR ?_)));intro _;obtain⟨y37,w12,q13,h⟩:=ix_ok h;refine Exists.intro (cL_cF y37) (And.intro (map_at' w12) ?_);intro _;refine pr (dr (aSR ?_));intro _;obtain⟨z38,z39,c40,u14,h⟩:=ob3_ok h;refine clg [(41,73)] [] [] [(73,⟨0,some ⟨124,7,true,[[.sl 1 (c40.t.Vars.map cI),.sl 1 (c40.t.Init.map cI),.sl 2 (c40.t.Goal.map cF),.sl 4 (c40.t.Ops.map cGOp),.c (.int .i64 c40.c.Bound),.sl 2 (c40.c.Nogoods.map cN),.c (.int .i64 c40.steps)]]⟩⟩)] (.tup [.c (.bool z38),eA z39]) rfl rfl (A_ck_covered g ({ t:={ Vars:=x9.2.2.1,Init:=x9.2.2.2.1,Goal:=x9.2.2.2.2.1,Ops:=x9.2.2.2.2.2.1:GTask },c:={ Bound:=x9.2.2.2.2.2.2.1,Nogoods:=x9.2.2.2.2.2.2.2.1:GCertificate },steps:=x9.2.2.2.2.2.2.2.2:GChecker }) y37 v2 u14) ?_;intro _;refine dr (aSq (aSq ?_));rcases z39 with _|e41
     ·replace h:=erM_nil h;refine aRg ?_;intro _;refine dr (aCd ?_);intro _;refine litF (aSk (aSR ?_));intro _;refine dr (aCd ?_);intro _;refine spl h (fun c15 h=>?_) (fun c15 h=>?_)
      ·refine aSR ?_;intro _;refine dr (aRt ?_);intro _;obtain⟨rfl,rfl⟩:=inj2 h;all_goals (refine Exists.intro [] (And.intro rfl (And.intro ?_ ?_)));all_goals (repeat (first|exact True.intro|exact gb_nil rfl rfl|refine gb_some ⟨rfl,rfl,rfl⟩ ?_|refine And.intro ?_ ?_|refine gw_ren rfl rfl rfl rfl rfl ?_|exact gw_oren rfl rfl rfl rfl rfl|exact gw_opren rfl rfl rfl rfl rfl|exact gw_onil rfl rfl|exact gw_mren rfl rfl rfl rfl|refine gw_pren rfl rfl rfl rfl rfl|exact gw_thaw rfl rfl rfl|refine gw_tup ?_|exact GWL.nil|exact gwll_nil|exact gw_c|exact GW.sl|exact GW.nil|exact gwll_same rfl FrI.h|refine GWL.cons ?_ ?_|refine gwll_cons ?_ ?_|(refine gw_own3 rfl rfl rfl FrI.h ?_ ?_ ?_)|exact GW.fr FrV.h|exact gw_fr2 rfl FrV.h|exact GW.fr (by assumption)|refine gw_agg ?_|refine gw_clo ?_|refine gw_ptr rfl rfl rfl ?_|(refine gw_own rfl rfl rfl ?_ FrI.h ?_ ?_)|assumption|omega|rfl|(rw[lM_,← lA_];assumption)|(refine gwll_same ?_ FrI.h;(simp[cGTask,cI,cF,cGOp,cGEffect,cL_cF,cL_cL_cF,cL_cI,cGCover,cGCertificate,cN,cGChecker] <;> fail))|(rw[List.map_set];refine gwll_set (by first|rfl|omega|simp) ?_ ?_)|refine gwll_set (by first|rfl|omega|simp) ?_ ?_|(rw[List.map_replicate];refine gwll_rep ?_)|refine gwll_rep ?_|(rw[List.map_append];refine gwll_append ?_ ?_)|refine gwll_append ?_ ?_|(simp[cGTask,cI,cF,cGOp,cGEffect,cL_cF,cL_cL_cF,cL_cI,cGCover,cGCertificate,cN,cGChecker,take_len_map] <;> fail)|(rw[List.drop_zero,tL_] <;> first|rfl|(simp[cGTask,cI,cF,cGOp,cGEffect,cL_cF,cL_cL_cF,cL_cI,cGCover,cGCertificate,cN,cGChecker] <;> fail))|(simp;omega)|(simp only[lM_,lA_,List.drop_zero,lC_,lN_,Nat.zero_add,Nat.add_zero]at *;omega)))
      ·refine aSk (aRg ?_);intro _;refine dr ?_;refine⟨(k36,(IntKind.i64.wrap (x9.2.1+1)),c40.t.Vars,c40.t.Init,c40.t.Goal,c40.t.Ops,c40.c.Bound,c40.c.Nogoods,c40.steps),h,ltS m10,?_⟩;exact ca_0
     ·replace h:=erM_no h;refine aRg ?_;intro _;refine dr (aCd ?_);intro _;refine litT (aSR ?_);intro _;refine dr (aRt ?_);intro _;obtain⟨rfl,rfl⟩:=inj2 h;all_goals (refine Exists.intro [] (And.intro rfl (And.intro ?_ ?_)));all_goals (repeat (first|exact True.intro|exact gb_nil rfl rfl|refine gb_some ⟨rfl,rfl,rfl⟩ ?_|refine And.intro ?_ ?_|refine gw_ren rfl rfl rfl rfl rfl ?_|exact gw_oren rfl rfl rfl rfl rfl|exact gw_opren rfl rfl rfl rfl rfl|exact gw_onil rfl rfl|exact gw_mren rfl rfl rfl rfl|refine gw_pren rfl rfl rfl rfl rfl|exact gw_thaw rfl rfl rfl|refine gw_tup ?_|exact GWL.nil|exact gwll_nil|exact gw_c|exact GW.sl|exact GW.nil|exact gwll_same rfl FrI.h|refine GWL.cons ?_ ?_|refine gwll_cons ?_ ?_|(refine gw_own3 rfl rfl rfl FrI.h ?_ ?_ ?_)|exact GW.fr FrV.h|exact gw_fr2 rfl FrV.h|exact GW.fr (by assumption)|refine gw_agg ?_|refine gw_clo ?_|refine gw_ptr rfl rfl rfl ?_|(refine gw_own rfl rfl rfl ?_ FrI.h ?_ ?_)|assumption|omega|rfl|(rw[lM_,← lA_];assumption)|(refine gwll_same ?_ FrI.h;(simp[cGTask,cI,cF,cGOp,cGEffect,cL_cF,cL_cL_cF,cL_cI,cGCover,cGCertificate,cN,cGChecker] <;> fail))|(rw[List.map_set];refine gwll_set (by first|rfl|omega|simp) ?_ ?_)|refine gwll_set (by first|rfl|omega|simp) ?_ ?_|(rw[List.map_replicate];refine gwll_rep ?_)|refine gwll_rep ?_|(rw[List.map_append];refine gwll_append ?_ ?_)|refine gwll_append ?_ ?_|(simp[cGTask,cI,cF,cGOp,cGEffect,cL_cF,cL_cL_cF,cL_cI,cGCover,cGCertificate,cN,cGChecker,take_len_map] <;> fail)|(rw[List.drop_zero,tL_] <;> first|rfl|(simp[cGTask,cI,cF,cGOp,cGEffect,cL_cF,cL_cL_cF,cL_cI,cGCover,cGCertificate,cN,cGChecker] <;> fail))|(simp;omega)|(simp only[lM_,lA_,List.drop_zero,lC_,lN_,Nat.zero_add,Nat.add_zero]at *;omega)))
    ·refine aEx (aSR ?_);intro _;refine dr (aRt ?_);intro _;obtain⟨rfl,rfl⟩:=inj2 h;all_goals (refine Exists.intro [] (And.intro rfl (And.intro ?_ ?_)));all_goals (repeat (first|exact True.intro|exact gb_nil rfl rfl|refine gb_some ⟨rfl,rfl,rfl⟩ ?_|refine And.intro ?_ ?_|refine gw_ren rfl rfl rfl rfl rfl ?_|exact gw_oren rfl rfl rfl rfl rfl|exact gw_opren rfl rfl rfl rfl rfl|exact gw_onil rfl rfl|exact gw_mren rfl rfl rfl rfl|refine gw_pren rfl rfl rfl rfl rfl|exact gw_thaw rfl rfl rfl|refine gw_tup ?_|exact GWL.nil|exact gwll_nil|exact gw_c|exact GW.sl|exact GW.nil|exact gwll_same rfl FrI.h|refine GWL.cons ?_ ?_|refine gwll_cons ?_ ?_|(refine gw_own3 rfl rfl rfl FrI.h ?_ ?_ ?_)|exact GW.fr FrV.h|exact gw_fr2 rfl FrV.h|exact GW.fr (by assumption)|refine gw_agg ?_|refine gw_clo ?_|refine gw_ptr rfl rfl rfl ?_|(refine gw_own rfl rfl rfl ?_ FrI.h ?_ ?_)|assumption|omega|rfl|(rw[lM_,← lA_];assumption)|(refine gwll_same ?_ FrI.h;(simp[cGTask,cI,cF,cGOp,cGEffect,cL_cF,cL_cL_cF,cL_cI,cGCover,cGCertificate,cN,cGChecker] <;> fail))|(rw[List.map_set];refine gwll_set (by first|rfl|omega|simp) ?_ ?_)|refine gwll_set (by first|rfl|omega|simp) ?_ ?_|(rw[List.map_replicate];refine gwll_rep ?_)|refine gwll_rep ?_|(rw[List.map_append];refine gwll_append ?_ ?_)|refine gwll_append ?_ ?_|(simp[cGTask,cI,cF,cGOp,cGEffect,cL_cF,cL_cL_cF,cL_cI,cGCover,cGCertificate,cN,cGChecker,take_len_map] <;> fail)|(rw[List.drop_zero,tL_] <;> first|rfl|(simp[cGTask,cI,cF,cGOp,cGEffect,cL_cF,cL_cL_cF,cL_cI,cGCover,cGCertificate,cN,cGChecker] <;> fail))|(simp;omega)|(simp only[lM_,lA_,List.drop_zero,lC_,lN_,Nat.zero_add,Nat.add_zero]at *;omega)))
  ·replace h:=erM_no h;refine aRg ?_;intro _;refine dr (aCd ?_);intro _;refine litT (aSR ?_);intro _;refine dr (aRt ?_);intro _;obtain⟨rfl,rfl⟩:=inj2 h;all_goals (refine Exists.intro [] (And.intro rfl (And.intro ?_ ?_)));all_goals (repeat (first|exact True.intro|exact gb_nil rfl rfl|refine gb_some ⟨rfl,rfl,rfl⟩ ?_|refine And.intro ?_ ?_|refine gw_ren rfl rfl rfl rfl rfl ?_|exact gw_oren rfl rfl rfl rfl rfl|exact gw_opren rfl rfl rfl rfl rfl|exact gw_onil rfl rfl|exact gw_mren rfl rfl rfl rfl|refine gw_pren rfl rfl rfl rfl rfl|exact gw_thaw rfl rfl rfl|refine gw_tup ?_|exact GWL.nil|exact gwll_nil|exact gw_c|exact GW.sl|exact GW.nil|exact gwll_same rfl FrI.h|refine GWL.cons ?_ ?_|refine gwll_cons ?_ ?_|(refine gw_own3 rfl rfl rfl FrI.h ?_ ?_ ?_)|exact GW.fr FrV.h|exact gw_fr2 rfl FrV.h|exact GW.fr (by assumption)|refine gw_agg ?_|refine gw_clo ?_|refine gw_ptr rfl rfl rfl ?_|(refine gw_own rfl rfl rfl ?_ FrI.h ?_ ?_)|assumption|omega|rfl|(rw[lM_,← lA_];assumption)|(refine gwll_same ?_ FrI.h;(simp[cGTask,cI,cF,cGOp,cGEffect,cL_cF,cL_cL_cF,cL_cI,cGCover,cGCertificate,cN,cGChecker] <;> fail))|(rw[List.map_set];refine gwll_set (by first|rfl|omega|simp) ?_ ?_)|refine gwll_set (by first|rfl|omega|simp) ?_ ?_|(rw[List.map_replicate];refine gwll_rep ?_)|refine gwll_rep ?_|(rw[List.map_append];refine gwll_append ?_ ?_)|refine gwll_append ?_ ?_|(simp[cGTask,cI,cF,cGOp,cGEffect,cL_cF,cL_cL_cF,cL_cI,cGCover,cGCertificate,cN,cGChecker,take_len_map] <;> fail)|(rw[List.drop_zero,tL_] <;> first|rfl|(simp[cGTask,cI,cF,cGOp,cGEffect,cL_cF,cL_cL_cF,cL_cI,cGCover,cGCertificate,cN,cGChecker] <;> fail))|(simp;omega)|(simp only[lM_,lA_,List.drop_zero,lC_,lN_,Nat.zero_add,Nat.add_zero]at *;omega)))
def M_checker_Where_L1 (a0:GTask)(a1:GCertificate):Nat→Int→Option (Unit⊕(Int×Int×Er))|0,_=>none|k24+1,v23=>sel (decide (v23<((a1.Nogoods.map cN).length:Int))) (ix a1.Nogoods v23 (fun y25=>ob1 (M_task_Holds y25.1 a0.Init) (fun z26=>sel z26 (some (.inr ((-1),(-1),(Er.no 20)))) (M_checker_Where_L1 a0 a1 k24 (IntKind.i64.wrap (v23+1)))))) (some (.inl ()))
def M_checker_Where_L2 (a0:GTask)(g:Nat)(v184:Int)(y231:Nogood):Nat→Int→(List Int)→(List Int)→(List Fact)→(List GOp)→Int→(List Nogood)→Int→Option (((List Int)×(List Int)×(List Fact)×(List GOp)×Int×(List Nogood)×Int)⊕(Int×Int×Er))|0,_,_,_,_,_,_,_,_=>none|k254+1,v246,v247,v248,v249,v250,v251,v252,v253=>sel (decide (v246<((a0.Ops.map cGOp).length:Int))) (ob2 (M_ck_step g ({ t:={ Vars:=v247,Init:=v248,Goal:=v249,Ops:=v250:GTask },c:={ Bound:=v251,Nogoods:=v252:GCertificate },steps:=v253:GChecker }) y231 v246) (fun z255 c256=>erM z255 (M_checker_Where_L2 a0 g v184 y231 k254 (IntKind.i64.wrap (v246+1)) c256.t.Vars c256.t.Init c256.t.Goal c256.t.Ops c256.c.Bound c256.c.Nogoods c256.steps) (fun e257=>some (.inr (v184,v246,(Er.no e257)))))) (some (.inl (v247,v248,v249,v250,v251,v252,v253)))
def M_checker_Where_L3 (a0:GTask)(a1:GCertificate)(g:Nat):Nat→Int→(List Int)→(List Int)→(List Fact)→(List GOp)→Int→(List Nogood)→Int→Option (Int×Int×Er)|0,_,_,_,_,_,_,_,_=>none|k192+1,v184,v185,v186,v187,v188,v189,v190,v191=>sel (decide (v184<((a1.Nogoods.map cN).length:Int))) (ob1 (ix a1.Nogoods v184 (fun y231=>M_checker_Where_L2 a0 g v184 y231 ((((a0.Ops.map cGOp).length:Int)).toNat+1) 0 v185 v186 v187 v188 v189 v190 v191):Option (((List Int)×(List Int)×(List Fact)×(List GOp)×Int×(List Nogood)×Int)⊕(Int×Int×Er))) (osum (fun(v220,v221,v222,v223,v224,v225,v226)=>M_checker_Where_L3 a0 a1 g k192 (IntKind.i64.wrap (v184+1)) v220 v221 v222 v223 v224 v225 v226) (fun(r227,r228,r229)=>some (r227,r228,r229)))) (some ((-1),(-1),Er.nil))
def M_checker_Where (g:Nat)(a0:GTask)(a1:GCertificate)(a2:Int):Option (Int×Int×Er):=ob1 (M_task_Check a0) (fun z1=>erM z1 (ob1 (M_ce_Proper a0.Vars a1) (fun z3=>erM z3 (ob1 (M_checker_Where_L1 a0 a1 ((((a1.Nogoods.map cN).length:Int)).toNat+1) 0:Option (Unit⊕(Int×Int×Er))) (osum (fun _=>ob1 (sel (a1.Bound != 0) (ob3 (M_ck_covered g ({ t:=a0,c:=a1,steps:=(max 0 (min a2 1048576)):GChecker }) a0.Goal 0) (fun z42 z43 c44=>erM z43 (sel (!z42) (some (.inr ((-1),(-1),(Er.no 13)))) (some (.inl (c44.t.Vars,c44.t.Init,c44.t.Goal,c44.t.Ops,c44.c.Bound,c44.c.Nogoods,c44.steps)))) (fun e45=>some (.inr ((-1),(-1),(Er.no e45)))))) (some (.inl (a0.Vars,a0.Init,a0.Goal,a0.Ops,a1.Bound,a1.Nogoods,(max 0 (min a2 1048576))))):Option (((List Int)×(List Int)×(List Fact)×(List GOp)×Int×(List Nogood)×Int)⊕(Int×Int×Er))) (osum (fun(v31,v32,v33,v34,v35,v36,v37)=>M_checker_Where_L3 a0 a1 g ((((a1.Nogoods.map cN).length:Int)).toNat+1) 0 v31 v32 v33 v34 v35 v36 v37) (fun(r38,r39,r40)=>some (r38,r39,r40)))) (fun(r14,r15,r16)=>some (r14,r15,r16)))) (fun e4=>some ((-1),(-1),(Er.no e4))))) (fun e2=>some ((-1),(-1),(Er.no e2))))
theorem A_checker_Where (g:Nat)(a0:GTask)(a1:GCertificate)(a2:Int){r1:Int}{r2:Int}{r3:Er}(h:M_checker_Where g a0 a1 a2=some (r1,r2,r3)):ACall cx 65 [.agg [.sl 1 (a0.Vars.map cI),.sl 1 (a0.Init.map cI),.sl 2 (a0.Goal.map cF),.sl 4 (a0.Ops.map cGOp)],.agg [.c (.int .i64 a1.Bound),.sl 2 (a1.Nogoods.map cN)],.c (.int .i64 a2)] (.tup [.c (.int .i64 r1),.c (.int .i64 r2),eA r3]):=by
 refine aOf Tryz.func65 rfl (by decide) rfl (bT2 rfl) ?_;intro _;unfold M_checker_Where at h;refine aSR ?_;intro _;refine dr (aSq (aSR ?_));intro _;obtain⟨z1,u1,h⟩:=ob1_ok h;refine cl rfl (A_task_Check a0 u1) ?_;intro _;refine dr (aSq ?_);rcases z1 with _|e2
 ·replace h:=erM_nil h;refine aRg ?_;intro _;refine dr (aCd ?_);intro _;refine litF (aSk (aSq (aSR ?_)));intro _;obtain⟨z3,u2,h⟩:=ob1_ok h;refine cl rfl (A_ce_Proper a0.Vars a1 u2) ?_;intro _;refine dr (aSq ?_);rcases z3 with _|e4
  ·replace h:=erM_nil h;refine aRg ?_;intro _;refine dr (aCd ?_);intro _;refine litF (aSk ?_);obtain⟨o3,h,hK4⟩:=ob1_ok h;refine awp_cut (α:=Unit) (fun _=>mkS 94 [(2,.c (.int .i64 a2)),(3,.ptr 3 0 0 0),(4,.ptr 4 0 0 0)] [(3,⟨26,4,true,[[.sl 1 (a0.Vars.map cI),.sl 1 (a0.Init.map cI),.sl 2 (a0.Goal.map cF),.sl 4 (a0.Ops.map cGOp)]]⟩),(4,⟨51,2,true,[[.c (.int .i64 a1.Bound),.sl 2 (a1.Nogoods.map cN)]]⟩)]) (fun v=>o3=(.inl v)) ?_ ?_
   ·refine aSR ?_;intro _;refine dr (aBk ?_);refine awp_loop (α:=Nat×Int) (fun x=>mkS 94 [(2,.c (.int .i64 a2)),(3,.ptr 3 0 0 0),(4,.ptr 4 0 0 0),(33,.sl 2 (a1.Nogoods.map cN)),(34,.c (.int .i64 ((a1.Nogoods.map cN).length:Int))),(35,.c (.int .i64 x.2))] [(3,⟨26,4,true,[[.sl 1 (a0.Vars.map cI),.sl 1 (a0.Init.map cI),.sl 2 (a0.Goal.map cF),.sl 4 (a0.Ops.map cGOp)]]⟩),(4,⟨51,2,true,[[.c (.int .i64 a1.Bound),.sl 2 (a1.Nogoods.map cN)]]⟩)]) (fun x=>M_checker_Where_L1 a0 a1 x.1 x.2=some o3) (fun x=>x.1) ((((a1.Nogoods.map cN).length:Int)).toNat+1,0) h ?_ ?_
    ·exact ca_0
    ·intro x5 h;intro _;obtain⟨k24,m6,h⟩:=succ_of (f:=fun n=>M_checker_Where_L1 a0 a1 n x5.2) rfl h;replace h:M_checker_Where_L1 a0 a1 (k24+1) x5.2=some o3:=h;rw[M_checker_Where_L1]at h;refine aSR ?_;intro _;refine dr (aSq (aCd ?_));intro _;refine spl h (fun c7 h=>?_) (fun c7 h=>?_)
     ·refine aSk (aSq (aBk (aSR ?_)));intro _;obtain⟨y25,w8,q9,h⟩:=ix_ok h;refine Exists.intro (cN y25) (And.intro (map_at' w8) ?_);intro _;refine pr (dr (aSR ?_));intro _;obtain⟨z26,u10,h⟩:=ob1_ok h;refine cl rfl (A_task_Holds y25.1 a0.Init u10) ?_;intro _;refine dr (aCd ?_);intro _;refine spl h (fun c11 h=>?_) (fun c11 h=>?_)
      ·refine aSR ?_;intro _;refine dr (aRt ?_);have j12:=sI_ h;subst j12;replace h:=(osum_r hK4);intro _;obtain⟨rfl,rfl,rfl⟩:=inj3 h;exact ca_0
      ·refine aSk (aRg ?_);intro _;refine dr ?_;refine⟨(k24,(IntKind.i64.wrap (x5.2+1))),h,ltS m6,?_⟩;exact ca_0
     ·refine aEx ?_;refine⟨(),(sI_ h).symm,?_⟩;exact ca_0
   ·rintro _ ho;have ho:=ho.symm;subst ho;intro _;replace h:=(osum_l hK4);refine aSR ?_;intro _;refine⟨_,lf_min rfl (bT2 rfl) rfl rfl,?_⟩;intro _;refine⟨_,lf_max rfl (bT2 rfl) rfl rfl,?_⟩;intro _;refine dr ?_;obtain⟨o13,h,hK14⟩:=ob1_ok h;refine awp_cut (α:=(List Int)×(List Int)×(List Fact)×(List GOp)×Int×(List Nogood)×Int) (fun(v31,v32,v33,v34,v35,v36,v37)=>mkS 94 [(3,.ptr 3 0 0 0),(4,.ptr 4 0 0 0),(13,.ptr 52 0 0 0)] [(3,⟨26,4,true,[[.sl 1 (a0.Vars.map cI),.sl 1 (a0.Init.map cI),.sl 2 (a0.Goal.map cF),.sl 4 (a0.Ops.map cGOp)]]⟩),(4,⟨51,2,true,[[.c (.int .i64 a1.Bound),.sl 2 (a1.Nogoods.map cN)]]⟩),(52,⟨124,7,true,[[.sl 1 (v31.map cI),.sl 1 (v32.map cI),.sl 2 (v33.map cF),.sl 4 (v34.map cGOp),.c (.int .i64 v35),.sl 2 (v36.map cN),.c (.int .i64 v37)]]⟩)]) (fun v=>o13=(.inl v)) ?_ ?_
    ·refine aSR ?_;intro _;refine dr (aCd ?_);intro _;refine spl h (fun c15 h=>?_) (fun c15 h=>?_)
     ·refine aSR ?_;intro _;obtain⟨z42,z43,c44,u16,h⟩:=ob3_ok h;refine clg [(41,52)] [] [] [(52,⟨1,some ⟨124,7,true,[[.sl 1 (c44.t.Vars.map cI),.sl 1 (c44.t.Init.map cI),.sl 2 (c44.t.Goal.map cF),.sl 4 (c44.t.Ops.map cGOp),.c (.int .i64 c44.c.Bound),.sl 2 (c44.c.Nogoods.map cN),.c (.int .i64 c44.steps)]]⟩⟩)] (.tup [.c (.bool z42),eA z43]) rfl rfl (A_ck_covered g ({ t:=a0,c:=a1,steps:=(max 0 (min a2 1048576)):GChecker }) a0.Goal 0 u16) ?_;intro _;refine dr (aSq (aSq ?_));rcases z43 with _|e45
      ·replace h:=erM_nil h;refine aRg ?_;intro _;refine dr (aCd ?_);intro _;refine litF (aSk (aSR ?_));intro _;refine dr (aCd ?_);intro _;refine spl h (fun c17 h=>?_) (fun c17 h=>?_)
       ·refine aSR ?_;intro _;refine dr (aRt ?_);have j18:=sI_ h;subst j18;replace h:=(osum_r hK14);intro _;obtain⟨rfl,rfl,rfl⟩:=inj3 h;exact ca_0
       ·refine aSk ?_;refine⟨(c44.t.Vars,c44.t.Init,c44.t.Goal,c44.t.Ops,c44.c.Bound,c44.c.Nogoods,c44.steps),(sI_ h).symm,?_⟩;exact ca_0
      ·replace h:=erM_no h;refine aRg ?_;intro _;refine dr (aCd ?_);intro _;refine litT (aSR ?_);intro _;refine dr (aRt ?_);have j19:=sI_ h;subst j19;replace h:=(osum_r hK14);intro _;obtain⟨rfl,rfl,rfl⟩:=inj3 h;exact ca_0
     ·refine aSk ?_;refine⟨(a0.Vars,a0.Init,a0.Goal,a0.Ops,a1.Bound,a1.Nogoods,(max 0 (min a2 1048576))),(sI_ h).symm,?_⟩;exact ca_0
    ·rintro⟨v31,v32,v33,v34,v35,v36,v37⟩ ho;have ho:=ho.symm;subst ho;intro _;replace h:=(osum_l hK14);refine aSq (aSR ?_);intro _;refine dr (aBk ?_);refine awp_loop (α:=Nat×Int×(List Int)×(List Int)×(List Fact)×(List GOp)×Int×(List Nogood)×Int) (fun x=>mkS 94 [(3,.ptr 3 0 0 0),(13,.ptr 52 0 0 0),(70,.sl 2 (a1.Nogoods.map cN)),(71,.c (.int .i64 ((a1.Nogoods.map cN).length:Int))),(72,.c (.int .i64 x.2.1))] [(3,⟨26,4,true,[[.sl 1 (a0.Vars.map cI),.sl 1 (a0.Init.map cI),.sl 2 (a0.Goal.map cF),.sl 4 (a0.Ops.map cGOp)]]⟩),(52,⟨124,7,true,[[.sl 1 (x.2.2.1.map cI),.sl 1 (x.2.2.2.1.map cI),.sl 2 (x.2.2.2.2.1.map cF),.sl 4 (x.2.2.2.2.2.1.map cGOp),.c (.int .i64 x.2.2.2.2.2.2.1),.sl 2 (x.2.2.2.2.2.2.2.1.map cN),.c (.int .i64 x.2.2.2.2.2.2.2.2)]]⟩)]) (fun x=>M_checker_Where_L3 a0 a1 g x.1 x.2.1 x.2.2.1 x.2.2.2.1 x.2.2.2.2.1 x.2.2.2.2.2.1 x.2.2.2.2.2.2.1 x.2.2.2.2.2.2.2.1 x.2.2.2.2.2.2.2.2=some (r1,r2,r3)) (fun x=>x.1) ((((a1.Nogoods.map cN).length:Int)).toNat+1,0,v31,v32,v33,v34,v35,v36,v37) h ?_ ?_
     ·exact ca_0
     ·intro x20 h;intro _;obtain⟨k192,m21,h⟩:=succ_of (f:=fun n=>M_checker_Where_L3 a0 a1 g n x20.2.1 x20.2.2.1 x20.2.2.2.1 x20.2.2.2.2.1 x20.2.2.2.2.2.1 x20.2.2.2.2.2.2.1 x20.2.2.2.2.2.2.2.1 x20.2.2.2.2.2.2.2.2) rfl h;replace h:M_checker_Where_L3 a0 a1 g (k192+1) x20.2.1 x20.2.2.1 x20.2.2.2.1 x20.2.2.2.2.1 x20.2.2.2.2.2.1 x20.2.2.2.2.2.2.1 x20.2.2.2.2.2.2.2.1 x20.2.2.2.2.2.2.2.2=some (r1,r2,r3):=h;rw[M_checker_Where_L3]at h;refine aSR ?_;intro _;refine dr (aSq (aCd ?_));intro _;refine spl h (fun c22 h=>?_) (fun c22 h=>?_)
      ·refine aSk ?_;obtain⟨o23,h,hK24⟩:=ob1_ok h;refine awp_cut (α:=(List Int)×(List Int)×(List Fact)×(List GOp)×Int×(List Nogood)×Int) (fun(v220,v221,v222,v223,v224,v225,v226)=>mkS 94 [(3,.ptr 3 0 0 0),(13,.ptr 52 0 0 0),(70,.sl 2 (a1.Nogoods.map cN)),(71,.c (.int .i64 ((a1.Nogoods.map cN).length:Int))),(72,.c (.int .i64 x20.2.1))] [(3,⟨26,4,true,[[.sl 1 (a0.Vars.map cI),.sl 1 (a0.Init.map cI),.sl 2 (a0.Goal.map cF),.sl 4 (a0.Ops.map cGOp)]]⟩),(52,⟨124,7,true,[[.sl 1 (v220.map cI),.sl 1 (v221.map cI),.sl 2 (v222.map cF),.sl 4 (v223.map cGOp),.c (.int .i64 v224),.sl 2 (v225.map cN),.c (.int .i64 v226)]]⟩)]) (fun v=>o23=(.inl v)) ?_ ?_
       ·refine aBk (aSR ?_);intro _;obtain⟨y231,w25,q26,h⟩:=ix_ok h;refine Exists.intro (cN y231) (And.intro (map_at' w25) ?_);intro _;refine pr (dr (aSR ?_));intro _;refine dr (aBk ?_);refine awp_loop (α:=Nat×Int×(List Int)×(List Int)×(List Fact)×(List GOp)×Int×(List Nogood)×Int) (fun x=>mkS 94 [(3,.ptr 3 0 0 0),(13,.ptr 52 0 0 0),(16,.c (.int .i64 x20.2.1)),(17,.ptr 17 0 0 0),(70,.sl 2 (a1.Nogoods.map cN)),(71,.c (.int .i64 ((a1.Nogoods.map cN).length:Int))),(72,.c (.int .i64 x20.2.1)),(79,.c (.int .i64 ((a0.Ops.map cGOp).length:Int))),(80,.c (.int .i64 x.2.1))] [(3,⟨26,4,true,[[.sl 1 (a0.Vars.map cI),.sl 1 (a0.Init.map cI),.sl 2 (a0.Goal.map cF),.sl 4 (a0.Ops.map cGOp)]]⟩),(17,⟨48,2,true,[[.sl 2 (y231.1.map cF),.c (.int .i64 y231.2)]]⟩),(52,⟨124,7,true,[[.sl 1 (x.2.2.1.map cI),.sl 1 (x.2.2.2.1.map cI),.sl 2 (x.2.2.2.2.1.map cF),.sl 4 (x.2.2.2.2.2.1.map cGOp),.c (.int .i64 x.2.2.2.2.2.2.1),.sl 2 (x.2.2.2.2.2.2.2.1.map cN),.c (.int .i64 x.2.2.2.2.2.2.2.2)]]⟩)]) (fun x=>M_checker_Where_L2 a0 g x20.2.1 y231 x.1 x.2.1 x.2.2.1 x.2.2.2.1 x.2.2.2.2.1 x.2.2.2.2.2.1 x.2.2.2.2.2.2.1 x.2.2.2.2.2.2.2.1 x.2.2.2.2.2.2.2.2=some o23) (fun x=>x.1) ((((a0.Ops.map cGOp).length:Int)).toNat+1,0,x20.2.2.1,x20.2.2.2.1,x20.2.2.2.2.1,x20.2.2.2.2.2.1,x20.2.2.2.2.2.2.1,x20.2.2.2.2.2.2.2.1,x20.2.2.2.2.2.2.2.2) h ?_ ?_
        ·exact ca_0
        ·intro x27 h;intro _;obtain⟨k254,m28,h⟩:=succ_of (f:=fun n=>M_checker_Where_L2 a0 g x20.2.1 y231 n x27.2.1 x27.2.2.1 x27.2.2.2.1 x27.2.2.2.2.1 x27.2.2.2.2.2.1 x27.2.2.2.2.2.2.1 x27.2.2.2.2.2.2.2.1 x27.2.2.2.2.2.2.2.2) rfl h;replace h:M_checker_Where_L2 a0 g x20.2.1 y231 (k254+1) x27.2.1 x27.2.2.1 x27.2.2.2.1 x27.2.2.2.2.1 x27.2.2.2.2.2.1 x27.2.2.2.2.2.2.1 x27.2.2.2.2.2.2.2.1 x27.2.2.2.2.2.2.2.2=some o23:=h;rw[M_checker_Where_L2]at h;refine aSR ?_;intro _;refine dr (aSq (aCd ?_));intro _;refine spl h (fun c29 h=>?_) (fun c29 h=>?_)
         ·refine aSk (aSq (aBk (aSR ?_)));intro _;refine dr (aSR ?_);intro _;obtain⟨z255,c256,u30,h⟩:=ob2_ok h;refine clg [(73,52)] [] [] [(52,⟨0,some ⟨124,7,true,[[.sl 1 (c256.t.Vars.map cI),.sl 1 (c256.t.Init.map cI),.sl 2 (c256.t.Goal.map cF),.sl 4 (c256.t.Ops.map cGOp),.c (.int .i64 c256.c.Bound),.sl 2 (c256.c.Nogoods.map cN),.c (.int .i64 c256.steps)]]⟩⟩)] (eA z255) rfl rfl (A_ck_step g ({ t:={ Vars:=x27.2.2.1,Init:=x27.2.2.2.1,Goal:=x27.2.2.2.2.1,Ops:=x27.2.2.2.2.2.1:GTask },c:={ Bound:=x27.2.2.2.2.2.2.1,Nogoods:=x27.2.2.2.2.2.2.2.1:GCertificate },steps:=x27.2.2.2.2.2.2.2.2:GChecker }) y231 x27.2.1 u30) ?_;intro _;refine dr (aSq ?_);rcases z255 with _|e257
          ·replace h:=erM_nil h;refine aRg ?_;intro _;refine dr (aCd ?_);intro _;refine litF (aSk (aRg ?_));intro _;refine dr ?_;refine⟨(k254,(IntKind.i64.wrap (x27.2.1+1)),c256.t.Vars,c256.t.Init,c256.t.Goal,c256.t.Ops,c256.c.Bound,c256.c.Nogoods,c256.steps),h,ltS m28,?_⟩;exact ca_0
          ·replace h:=erM_no h;refine aRg ?_;intro _;refine dr (aCd ?_);intro _;refine litT (aSR ?_);intro _;refine dr (aRt ?_);have j31:=sI_ h;subst j31;replace h:=(osum_r hK24);intro _;obtain⟨rfl,rfl,rfl⟩:=inj3 h;exact ca_0
         ·refine aEx ?_;refine⟨(x27.2.2.1,x27.2.2.2.1,x27.2.2.2.2.1,x27.2.2.2.2.2.1,x27.2.2.2.2.2.2.1,x27.2.2.2.2.2.2.2.1,x27.2.2.2.2.2.2.2.2),(sI_ h).symm,?_⟩;exact ca_0
       ·rintro⟨v220,v221,v222,v223,v224,v225,v226⟩ ho;have ho:=ho.symm;subst ho;intro _;replace h:=(osum_l hK24);refine aRg ?_;intro _;refine dr ?_;refine⟨(k192,(IntKind.i64.wrap (x20.2.1+1)),v220,v221,v222,v223,v224,v225,v226),h,ltS m21,?_⟩;exact ca_0
      ·refine aEx (aSR ?_);intro _;refine dr (aRt ?_);intro _;obtain⟨rfl,rfl,rfl⟩:=inj3 h;exact ca_0
  ·replace h:=erM_no h;refine aRg ?_;intro _;refine dr (aCd ?_);intro _;refine litT (aSR ?_);intro _;refine dr (aRt ?_);intro _;obtain⟨rfl,rfl,rfl⟩:=inj3 h;exact ca_0
 ·replace h:=erM_no h;refine aRg ?_;intro _;refine dr (aCd ?_);intro _;refine litT (aSR ?_);intro _;refine dr (aRt ?_);intro _;obtain⟨rfl,rfl,rfl⟩:=inj3 h;exact ca_0
def M_checker_Verify (g:Nat)(a0:GTask)(a1:GCertificate)(a2:Int):Option (Er):=ob3 (M_checker_Where g a0 a1 a2) (fun _ _ z3=>some z3)
theorem A_checker_Verify (g:Nat)(a0:GTask)(a1:GCertificate)(a2:Int){r1:Er}(h:M_checker_Verify g a0 a1 a2=some r1):ACall cx 37 [.agg [.sl 1 (a0.Vars.map cI),.sl 1 (a0.Init.map cI),.sl 2 (a0.Goal.map cF),.sl 4 (a0.Ops.map cGOp)],.agg [.c (.int .i64 a1.Bound),.sl 2 (a1.Nogoods.map cN)],.c (.int .i64 a2)] (eA r1):=by
 refine aOf Tryz.func37 rfl (by decide) rfl (bT2 rfl) ?_;intro _;unfold M_checker_Verify at h;refine aSR ?_;intro _;refine dr (aSR ?_);intro _;obtain⟨z1,z2,z3,u1,h⟩:=ob3_ok h;refine cl rfl (A_checker_Where g a0 a1 a2 u1) ?_;intro _;refine dr (aSR ?_);intro _;refine dr (aRt ?_);intro _;obtain rfl:=inj1 h;all_goals (cases z3);all_goals exact ca_0
def M_ce_formed_L1_B (a0:List Fact)(_y7:Fact)(v5:Int):Unit→(Unit→Option (Bool))→Option (Bool):=fun _ rc=>ixv _y7 (fun y7=>sel (decide (y7.1<0)) (some false) (sel (decide (y7.1≥64)) (some false) (sel (decide (y7.2<0)) (some false) (sel (decide (y7.2≥64)) (some false) (sel (decide (v5>0)) (ix a0 (IntKind.i64.wrap (v5-1)) (fun y8=>sel (decide (y8.1≥y7.1)) (some false) (rc ()))) (rc ()))))))
def M_ce_formed_L1_E (_:List Fact):Unit→Option (Bool):=fun _=>some true
theorem M_ce_formed_L1_eq (a0:List Fact)  (hl:a0.length<9223372036854775807):M_ce_formed_L1 a0 (((a0.map cF).length:Int).toNat+1) 0=Rg (M_ce_formed_L1_B a0) (M_ce_formed_L1_E a0) a0 0 ():=rg_e1 (L:=fun k i _=>M_ce_formed_L1 a0 k i) hl (fun _ _ _=>rfl) ()
def M_ce_Check_L1_B (_:GCertificate)(_y21:Nogood)(_:Int):Unit→(Unit→Option (Unit⊕Er))→Option (Unit⊕Er):=fun _ rc=>ixv _y21 (fun y21=>ob1 (M_ce_formed y21.1) (fun z22=>sel (!z22) (some (.inr (Er.no 2))) (rc ())))
def M_ce_Check_L1_E (_:GCertificate):Unit→Option (Unit⊕Er):=fun _=>some (.inl ())
theorem M_ce_Check_L1_eq (a0:GCertificate)  (hl:a0.Nogoods.length<9223372036854775807):M_ce_Check_L1 a0 (((a0.Nogoods.map cN).length:Int).toNat+1) 0=Rg (M_ce_Check_L1_B a0) (M_ce_Check_L1_E a0) a0.Nogoods 0 ():=rg_e1 (L:=fun k i _=>M_ce_Check_L1 a0 k i) hl (fun _ _ _=>rfl) ()
def M_ce_Check_L2_B (a0:GCertificate)(_y28:Nogood)(_:Int):Unit→(Unit→Option (Er))→Option (Er):=fun _ rc=>ixv _y28 (fun y28=>sel (decide (y28.2<0)) (some (Er.no 1)) (sel (decide (a0.Bound≥0)) (sel (decide (y28.2≥a0.Bound)) (some (Er.no 1)) (sel (decide (a0.Bound<0)) (sel (y28.2 != 0) (some (Er.no 1)) (rc ())) (rc ()))) (sel (decide (a0.Bound<0)) (sel (y28.2 != 0) (some (Er.no 1)) (rc ())) (rc ()))))
def M_ce_Check_L2_E (_:GCertificate):Unit→Option (Er):=fun _=>some Er.nil
theorem M_ce_Check_L2_eq (a0:GCertificate)  (hl:a0.Nogoods.length<9223372036854775807):M_ce_Check_L2 a0 (((a0.Nogoods.map cN).length:Int).toNat+1) 0=Rg (M_ce_Check_L2_B a0) (M_ce_Check_L2_E a0) a0.Nogoods 0 ():=rg_e1 (L:=fun k i _=>M_ce_Check_L2 a0 k i) hl (fun _ _ _=>rfl) ()
def M_ce_Proper_L1_B (a0:List Int)(_:GCertificate)(_y10:Nogood)(_:Int):Unit→(Unit→Option (Er))→Option (Er):=fun _ rc=>ixv _y10 (fun y10=>ob1 (M_task_Facts a0 y10.1) (fun z11=>sel (!z11) (some (Er.no 2)) (rc ())))
def M_ce_Proper_L1_E (_:List Int)(_:GCertificate):Unit→Option (Er):=fun _=>some Er.nil
theorem M_ce_Proper_L1_eq (a0:List Int)(a1:GCertificate)  (hl:a1.Nogoods.length<9223372036854775807):M_ce_Proper_L1 a0 a1 (((a1.Nogoods.map cN).length:Int).toNat+1) 0=Rg (M_ce_Proper_L1_B a0 a1) (M_ce_Proper_L1_E a0 a1) a1.Nogoods 0 ():=rg_e1 (L:=fun k i _=>M_ce_Proper_L1 a0 a1 k i) hl (fun _ _ _=>rfl) ()
def M_ck_counting_L1_B (_:GChecker)(a1:Int)(_y8:Nogood)(_:Int):((List (List Fact)))→(((List (List Fact)))→Option (List (List Fact)))→Option (List (List Fact)):=fun v6 rc=>ixv _y8 (fun y8=>sel (decide (y8.2≤a1)) (grd ((v6.length+1)*24≤140737488355328) (rc ((v6++[y8.1])))) (rc (v6)))
def M_ck_counting_L1_E (_:GChecker)(_:Int):((List (List Fact)))→Option (List (List Fact)):=fun v6=>grd (v6.length≤140737488355328) (some v6)
theorem M_ck_counting_L1_eq (a0:GChecker)(a1:Int)(v6:List (List Fact))(hl:a0.c.Nogoods.length<9223372036854775807):M_ck_counting_L1 a0 a1 (((a0.c.Nogoods.map cN).length:Int).toNat+1) 0 v6=Rg (M_ck_counting_L1_B a0 a1) (M_ck_counting_L1_E a0 a1) a0.c.Nogoods 0 v6:=rg_e1 (L:=fun k i v6=>M_ck_counting_L1 a0 a1 k i v6) hl (fun _ _ _=>rfl) v6
def M_ck_step_L1_B (g:Nat)(v2:Int)(_:List (List Fact))(_y37:List Fact)(_:Int):((List Int)×(List Int)×(List Fact)×(List GOp)×(Int)×(List Nogood)×(Int))→(((List Int)×(List Int)×(List Fact)×(List GOp)×(Int)×(List Nogood)×(Int))→Option (Er×GChecker))→Option (Er×GChecker):=fun(v29,v30,v31,v32,v33,v34,v35) rc=>ixv _y37 (fun y37=>ob3 (M_ck_covered g ({ t:={ Vars:=v29,Init:=v30,Goal:=v31,Ops:=v32:GTask },c:={ Bound:=v33,Nogoods:=v34:GCertificate },steps:=v35:GChecker }) y37 v2) (fun z38 z39 c40=>erM z39 (sel (!z38) (some ((Er.no 19),c40)) (rc (c40.t.Vars,c40.t.Init,c40.t.Goal,c40.t.Ops,c40.c.Bound,c40.c.Nogoods,c40.steps))) (fun e41=>some ((Er.no e41),c40))))
def M_ck_step_L1_E (_:Nat)(_:Int)(_:List (List Fact)):((List Int)×(List Int)×(List Fact)×(List GOp)×(Int)×(List Nogood)×(Int))→Option (Er×GChecker):=fun(v29,v30,v31,v32,v33,v34,v35)=>some (Er.nil,{ t:={ Vars:=v29,Init:=v30,Goal:=v31,Ops:=v32:GTask },c:={ Bound:=v33,Nogoods:=v34:GCertificate },steps:=v35:GChecker })
theorem M_ck_step_L1_eq (g:Nat)(v2:Int)(z7:List (List Fact))(v29:List Int)(v30:List Int)(v31:List Fact)(v32:List GOp)(v33:Int)(v34:List Nogood)(v35:Int)(hl:z7.length<9223372036854775807):M_ck_step_L1 g v2 z7 (((z7.map cL_cF).length:Int).toNat+1) 0 v29 v30 v31 v32 v33 v34 v35=Rg (M_ck_step_L1_B g v2 z7) (M_ck_step_L1_E g v2 z7) z7 0 (v29,v30,v31,v32,v33,v34,v35):=rg_e1 (L:=fun k i p=>match p with|(v29,v30,v31,v32,v33,v34,v35)=>M_ck_step_L1 g v2 z7 k i v29 v30 v31 v32 v33 v34 v35) hl (fun _ _ ⟨_,_,_,_,_,_,_⟩=>rfl) (v29,v30,v31,v32,v33,v34,v35)
def M_checker_Where_L1_B (a0:GTask)(_:GCertificate)(_y25:Nogood)(_:Int):Unit→(Unit→Option (Unit⊕(Int×Int×Er)))→Option (Unit⊕(Int×Int×Er)):=fun _ rc=>ixv _y25 (fun y25=>ob1 (M_task_Holds y25.1 a0.Init) (fun z26=>sel z26 (some (.inr ((-1),(-1),(Er.no 20)))) (rc ())))
def M_checker_Where_L1_E (_:GTask)(_:GCertificate):Unit→Option (Unit⊕(Int×Int×Er)):=fun _=>some (.inl ())
theorem M_checker_Where_L1_eq (a0:GTask)(a1:GCertificate)  (hl:a1.Nogoods.length<9223372036854775807):M_checker_Where_L1 a0 a1 (((a1.Nogoods.map cN).length:Int).toNat+1) 0=Rg (M_checker_Where_L1_B a0 a1) (M_checker_Where_L1_E a0 a1) a1.Nogoods 0 ():=rg_e1 (L:=fun k i _=>M_checker_Where_L1 a0 a1 k i) hl (fun _ _ _=>rfl) ()
def M_checker_Where_L2_B (_:GTask)(g:Nat)(v184:Int)(y231:Nogood)(v246:Int):((List Int)×(List Int)×(List Fact)×(List GOp)×(Int)×(List Nogood)×(Int))→(((List Int)×(List Int)×(List Fact)×(List GOp)×(Int)×(List Nogood)×(Int))→Option (((List Int)×(List Int)×(List Fact)×(List GOp)×Int×(List Nogood)×Int)⊕(Int×Int×Er)))→Option (((List Int)×(List Int)×(List Fact)×(List GOp)×Int×(List Nogood)×Int)⊕(Int×Int×Er)):=fun(v247,v248,v249,v250,v251,v252,v253) rc=>ob2 (M_ck_step g ({ t:={ Vars:=v247,Init:=v248,Goal:=v249,Ops:=v250:GTask },c:={ Bound:=v251,Nogoods:=v252:GCertificate },steps:=v253:GChecker }) y231 v246) (fun z255 c256=>erM z255 (rc (c256.t.Vars,c256.t.Init,c256.t.Goal,c256.t.Ops,c256.c.Bound,c256.c.Nogoods,c256.steps)) (fun e257=>some (.inr (v184,v246,(Er.no e257)))))
def M_checker_Where_L2_E (_:GTask)(_:Nat)(_:Int)(_:Nogood):((List Int)×(List Int)×(List Fact)×(List GOp)×(Int)×(List Nogood)×(Int))→Option (((List Int)×(List Int)×(List Fact)×(List GOp)×Int×(List Nogood)×Int)⊕(Int×Int×Er)):=fun(v247,v248,v249,v250,v251,v252,v253)=>some (.inl (v247,v248,v249,v250,v251,v252,v253))
theorem M_checker_Where_L2_eq (a0:GTask)(g:Nat)(v184:Int)(y231:Nogood)(v247:List Int)(v248:List Int)(v249:List Fact)(v250:List GOp)(v251:Int)(v252:List Nogood)(v253:Int){m:Nat}(hm:((a0.Ops.map cGOp).length:Int)=(m:Int))(hl:m<9223372036854775807):M_checker_Where_L2 a0 g v184 y231 ((((a0.Ops.map cGOp).length:Int)).toNat+1) 0 v247 v248 v249 v250 v251 v252 v253=Rn (M_checker_Where_L2_B a0 g v184 y231) (M_checker_Where_L2_E a0 g v184 y231) m 0 (v247,v248,v249,v250,v251,v252,v253):=rn_e (L:=fun k i p=>match p with|(v247,v248,v249,v250,v251,v252,v253)=>M_checker_Where_L2 a0 g v184 y231 k i v247 v248 v249 v250 v251 v252 v253) hm hl (fun _ _ ⟨_,_,_,_,_,_,_⟩=>rfl) (v247,v248,v249,v250,v251,v252,v253)
def M_checker_Where_L3_B (a0:GTask)(_:GCertificate)(g:Nat)(_y231:Nogood)(v184:Int):((List Int)×(List Int)×(List Fact)×(List GOp)×(Int)×(List Nogood)×(Int))→(((List Int)×(List Int)×(List Fact)×(List GOp)×(Int)×(List Nogood)×(Int))→Option (Int×Int×Er))→Option (Int×Int×Er):=fun(v185,v186,v187,v188,v189,v190,v191) rc=>ob1 (ixv _y231 (fun y231=>M_checker_Where_L2 a0 g v184 y231 ((((a0.Ops.map cGOp).length:Int)).toNat+1) 0 v185 v186 v187 v188 v189 v190 v191):Option (((List Int)×(List Int)×(List Fact)×(List GOp)×Int×(List Nogood)×Int)⊕(Int×Int×Er))) (osum (fun(v220,v221,v222,v223,v224,v225,v226)=>rc (v220,v221,v222,v223,v224,v225,v226)) (fun(r227,r228,r229)=>some (r227,r228,r229)))
def M_checker_Where_L3_E (_:GTask)(_:GCertificate)(_:Nat):((List Int)×(List Int)×(List Fact)×(List GOp)×(Int)×(List Nogood)×(Int))→Option (Int×Int×Er):=fun(_,_,_,_,_,_,_)=>some ((-1),(-1),Er.nil)
theorem M_checker_Where_L3_eq (a0:GTask)(a1:GCertificate)(g:Nat)(v185:List Int)(v186:List Int)(v187:List Fact)(v188:List GOp)(v189:Int)(v190:List Nogood)(v191:Int)(hl:a1.Nogoods.length<9223372036854775807):M_checker_Where_L3 a0 a1 g (((a1.Nogoods.map cN).length:Int).toNat+1) 0 v185 v186 v187 v188 v189 v190 v191=Rg (M_checker_Where_L3_B a0 a1 g) (M_checker_Where_L3_E a0 a1 g) a1.Nogoods 0 (v185,v186,v187,v188,v189,v190,v191):=rg_e2 (L:=fun k i p=>match p with|(v185,v186,v187,v188,v189,v190,v191)=>M_checker_Where_L3 a0 a1 g k i v185 v186 v187 v188 v189 v190 v191) hl (fun k n p y hy h1 h2=>by first|(simp only[M_checker_Where_L3,M_checker_Where_L3_B,lM_,decide_lt h1,sel,ix_at hy,ixv,h2];done)|(simp only[lM_]at h1 hy;(simp only[M_checker_Where_L3,M_checker_Where_L3_B,lM_,decide_lt h1,sel,ix_at hy,ixv,h2];done))) (fun k p=>by simp only[M_checker_Where_L3,M_checker_Where_L3_E,lM_,decide_ge,sel]) (v185,v186,v187,v188,v189,v190,v191)
end Go.Proofs.YtinnphmnhmdcgaaGreat.Am
namespace Go.Proofs.YtinnphmnhmdcgaaGreat.Am
open Go.RowKit
theorem tholds_eq (l:List Fact)(s:List Int)(hl:Sh l):M_task_Holds l s=some (holdsF s l):=by
 rw[M_task_Holds,M_task_Holds_L1_eq l s hl.lt,rg_all (p:=hold1 s) (c:=some false)]
 ·rw[M_task_Holds_L1_E,holdsF];cases l.all (hold1 s) <;> rfl
 ·intro x _ i rc
  rw[M_task_Holds_L1_B,ixv,sel_dec,sel_dec,lM_,hold1]
  by_cases h0:x.1<0
  ·rw[if_pos h0,decide_eq_false (by omega),Bool.false_and,if_neg (by decide)]
  ·rw[if_neg h0,decide_eq_true (p:=0≤x.1) (by omega),Bool.true_and]
   by_cases h1:x.1<s.length
   ·rw[if_neg (by omega),decide_eq_true h1,Bool.true_and,ix_getD (d:=0) (by omega) h1,bne]
    cases s.getD x.1.toNat 0 == x.2 <;> rfl
   ·rw[if_pos (by omega),decide_eq_false h1,Bool.false_and,if_neg (by decide)]
def limF (l:List Fact):Bool:=l.all fun x=>decide (x.1<64∧x.2<64)
def frmF (l:List Fact):Bool:=vF (-1) l&&limF l
theorem formed_loop (l:List Fact)(hs:Sh l):∀ (r:List Fact)(n:Nat)(last:Int),l.drop n=r→n≤l.length→-1≤last→(n=0→last=-1)→(∀ m,n=m+1→∃ x,l[m]?=some x∧x.1=last)→Rg (M_ce_formed_L1_B l) (M_ce_formed_L1_E l) r n ()=some (vF last r&&limF r)
 | [],_,_,_,_,_,_,_=>rfl
 | y :: r,n,last,hd,hn,hl,h0,hp=>by
  rw[Rg,vF,limF,List.all_cons]
  obtain⟨hy,hd',hlt⟩:=drop_cons hd
  have hih:0≤y.1→Rg (M_ce_formed_L1_B l) (M_ce_formed_L1_E l) r ((n:Int)+1) ()=some (vF y.1 r&&limF r):=fun h=>formed_loop l hs r (n+1) y.1 hd' hlt (by omega) (by omega) (fun m hm=>⟨y,by rw[show m=n by omega];exact hy,rfl⟩)
  simp only[M_ce_formed_L1_B,ixv,sel_dec]
  by_cases h1:y.1<0
  ·rw[if_pos h1,decide_eq_false (p:=last<y.1∧0≤y.2) (by omega)];rfl
  ·rw[if_neg h1]
   by_cases h2:y.1≥64
   ·rw[if_pos h2,decide_eq_false (p:=y.1<64∧y.2<64) (by omega),Bool.false_and,Bool.and_false]
   ·rw[if_neg h2]
    by_cases h3:y.2<0
    ·rw[if_pos h3,decide_eq_false (p:=last<y.1∧0≤y.2) (by omega)];rfl
    ·rw[if_neg h3]
     by_cases h4:y.2≥64
     ·rw[if_pos h4,decide_eq_false (p:=y.1<64∧y.2<64) (by omega),Bool.false_and,Bool.and_false]
     ·rw[if_neg h4,decide_eq_true (p:=y.1<64∧y.2<64) (by omega),Bool.true_and]
      cases n with
      | zero =>
       have:=h0 rfl
       rw[if_neg (by omega),decide_eq_true (p:=last<y.1∧0≤y.2) (by omega)]
       exact hih (by omega)
      | succ m =>
       obtain⟨x,hx,hxl⟩:=hp m rfl
       rw[if_pos (by omega),w64 (by omega) (by have:=hs;unfold Sh at this;omega),show(((m+1:Nat):Int)-1)=(m:Int)by omega,ix_at hx]
       by_cases h5:x.1≥y.1
       ·rw[if_pos h5,decide_eq_false (p:=last<y.1∧0≤y.2) (by omega)];rfl
       ·rw[if_neg h5,decide_eq_true (p:=last<y.1∧0≤y.2) (by omega)]
        exact hih (by omega)
theorem formed_eq (l:List Fact)(hl:Sh l):M_ce_formed l=some (frmF l):=by
 rw[M_ce_formed,M_ce_formed_L1_eq _ hl.lt]
 exact formed_loop l hl l 0 (-1) rfl (Nat.zero_le _) (by omega) (fun _=>rfl) (fun m hm=>by omega)
structure ShC (c:GCertificate):Prop where
 list:Sh c.Nogoods
 each:∀ n∈c.Nogoods,Sh n.1
def distF (b:Int)(n:Nogood):Bool:=decide (0≤n.2∧(0≤b→n.2<b)∧(b<0→n.2=0))
def certF (c:GCertificate):Er :=
 if c.Bound < -1∨c.Bound>1099511627776 then .no 1
 else if c.Nogoods.length>4096 then .no 5
 else if(c.Nogoods.all fun n=>frmF n.1)=true then(if(c.Nogoods.all (distF c.Bound))=true then .nil else .no 1)
 else .no 2
theorem ccheck_eq (c:GCertificate)(hc:ShC c):M_ce_Check c=some (certF c):=by
 rw[M_ce_Check,certF,sel_dec,sel_dec]
 by_cases h1:c.Bound < -1
 ·rw[if_pos h1,if_pos (Or.inl h1)];rfl
 ·rw[if_neg h1]
  by_cases h2:c.Bound>1099511627776
  ·rw[if_pos h2,if_pos (Or.inr h2)];rfl
  ·rw[if_neg h2,if_neg (by omega),ob1_some,osum_inl,sel_dec,lM_]
   by_cases h3:c.Nogoods.length>4096
   ·rw[if_pos (by omega),if_pos h3]
   ·have e1:=M_ce_Check_L1_eq c (by omega)
    have e2:=M_ce_Check_L2_eq c (by omega)
    rw[lM_]at e1 e2
    rw[if_neg (by omega),if_neg h3,e1,rg_all (p:=fun n:Nogood=>frmF n.1) (c:=some (.inr (Er.no 2)))]
    ·cases ha:c.Nogoods.all fun n=>frmF n.1 with
     | false=>rw[if_neg (by decide),ob1_some,osum_inr,if_neg (by decide)]
     | true =>
      rw[if_pos rfl,if_pos rfl,M_ce_Check_L1_E,ob1_some,osum_inl,e2,rg_all (p:=distF c.Bound) (c:=some (Er.no 1)),M_ce_Check_L2_E]
      ·split <;> rfl
      ·intro n _ i rc
       rw[M_ce_Check_L2_B,ixv,distF]
       simp only[sel_dec]
       by_cases q1:n.2<0
       ·rw[if_pos q1,decide_eq_false (by omega)];rfl
       ·rw[if_neg q1]
        by_cases q2:c.Bound≥0
        ·rw[if_pos q2]
         by_cases q3:n.2≥c.Bound
         ·rw[if_pos q3,decide_eq_false (by omega)];rfl
         ·rw[if_neg q3,if_neg (by omega),decide_eq_true (by omega)];rfl
        ·rw[if_neg q2,if_pos (by omega)]
         by_cases q4:n.2=0
         ·rw[show(n.2 != 0)=false from by simp[q4],sel_ff,decide_eq_true (by omega)];rfl
         ·rw[show(n.2 != 0)=true from by simp[q4],sel_tt,decide_eq_false (by omega)];rfl
    ·intro n hn i rc
     rw[M_ce_Check_L1_B,ixv,formed_eq n.1 (hc.each n hn),ob1_some]
     cases frmF n.1 <;> rfl
def properF (vars:List Int)(c:GCertificate):Er :=
 match certF c with
 | .nil=>if(c.Nogoods.all fun n=>propF vars (-1) n.1)=true then .nil else .no 2
 | .no e=>.no e
theorem cproper_eq (vars:List Int)(c:GCertificate)(hc:ShC c):M_ce_Proper vars c=some (properF vars c):=by
 have e1:=M_ce_Proper_L1_eq vars c hc.list.lt
 rw[M_ce_Proper,ccheck_eq c hc,ob1_some,properF,e1]
 cases certF c with
 | no e=>rfl
 | nil =>
  show Rg _ _ _ _ _=_
  rw[rg_all (p:=fun n:Nogood=>propF vars (-1) n.1) (c:=some (Er.no 2)),M_ce_Proper_L1_E]
  ·simp only;split <;> rfl
  ·intro n hn i rc
   rw[M_ce_Proper_L1_B,ixv,facts_eq vars n.1 (hc.each n hn),ob1_some]
   cases propF vars (-1) n.1 <;> rfl
structure CertP (vars:List Int)(c:GCertificate):Prop where
 b0:-1≤c.Bound
 b1:c.Bound≤1099511627776
 len:c.Nogoods.length≤4096
 prop:∀ n∈c.Nogoods,propF vars (-1) n.1=true
 frm:∀ n∈c.Nogoods,frmF n.1=true
 d0:∀ n∈c.Nogoods,0≤n.2
 d1:∀ n∈c.Nogoods,0≤c.Bound→n.2<c.Bound
 d2:∀ n∈c.Nogoods,c.Bound<0→n.2=0
theorem certF_nil (c:GCertificate):certF c=.nil↔-1≤c.Bound∧c.Bound≤1099511627776∧c.Nogoods.length≤4096∧(∀ n∈c.Nogoods,frmF n.1=true)∧∀ n∈c.Nogoods,distF c.Bound n=true:=by
 unfold certF
 split
 ·exact⟨(nofun),fun h=>by omega⟩
 ·split
  ·exact⟨(nofun),fun h=>by omega⟩
  ·split
   ·rename_i h
    rw[List.all_eq_true]at h
    split
    ·rename_i h2
     rw[List.all_eq_true]at h2
     exact⟨fun _=>⟨by omega,by omega,by omega,h,h2⟩,fun _=>rfl⟩
    ·rename_i h2
     rw[List.all_eq_true]at h2
     exact⟨(nofun),fun hh=>absurd hh.2.2.2.2 h2⟩
   ·rename_i h
    rw[List.all_eq_true]at h
    exact⟨(nofun),fun hh=>absurd hh.2.2.2.1 h⟩
theorem properF_nil (vars:List Int)(c:GCertificate):properF vars c=.nil↔CertP vars c:=by
 unfold properF
 constructor
 ·intro h
  cases hc:certF c with
  | no e=>rw[hc]at h;cases h
  | nil =>
   rw[hc]at h
   simp only at h
   split at h
   ·rename_i ha
    rw[List.all_eq_true]at ha
    obtain⟨h1,h2,h3,h4,h5⟩:=(certF_nil c).1 hc
    have hd:∀ n∈c.Nogoods,0≤n.2∧(0≤c.Bound→n.2<c.Bound)∧(c.Bound<0→n.2=0):=fun n hn=>of_decide_eq_true (h5 n hn)
    exact⟨h1,h2,h3,ha,h4,fun n hn=>(hd n hn).1,fun n hn=>(hd n hn).2.1,fun n hn=>(hd n hn).2.2⟩
   ·cases h
 ·intro h
  rw[(certF_nil c).2 ⟨h.b0,h.b1,h.len,h.frm,fun n hn=>decide_eq_true ⟨h.d0 n hn,h.d1 n hn,h.d2 n hn⟩⟩]
  simp only
  rw[if_pos (List.all_eq_true.2 h.prop)]
def countL (ns:List Nogood)(d:Int):List (List Fact):=(ns.filter fun n=>decide (n.2≤d)).map (·.1)
theorem count_loop (x:GChecker)(d:Int):∀ (r:List Nogood)(i:Int)(v:List (List Fact)),v.length+r.length≤1000000 →
  Rg (M_ck_counting_L1_B x d) (M_ck_counting_L1_E x d) r i v=some (v++countL r d)
 | [],i,v,h=>by rw[Rg,M_ck_counting_L1_E,grd_t (by simp at h;omega)];simp[countL]
 | n :: r,i,v,h=>by
  rw[lC_]at h
  rw[Rg,M_ck_counting_L1_B,ixv,sel_dec]
  by_cases hd:n.2≤d
  ·rw[if_pos hd,grd_t (by omega),count_loop x d r _ _ (by simp;omega)]
   simp[countL,hd]
  ·rw[if_neg hd,count_loop x d r _ _ (by omega)]
   simp[countL,hd]
theorem counting_eq (x:GChecker)(d:Int)(h:x.c.Nogoods.length≤4096):M_ck_counting x d=some (countL x.c.Nogoods d):=by
 rw[M_ck_counting,M_ck_counting_L1_eq x d [] (by omega),count_loop x d _ _ _ (by simp;omega),List.nil_append]
theorem count_prop {vars:List Int}{c:GCertificate}(h:CertP vars c)(d:Int):PropL vars (countL c.Nogoods d):=fun x hx=>by
 obtain⟨n,hn,rfl⟩:=List.mem_map.1 hx
 exact h.prop n (List.mem_filter.1 hn).1
theorem count_len {vars:List Int}{c:GCertificate}(h:CertP vars c)(d:Int):(countL c.Nogoods d).length≤4096:=by
 unfold countL
 rw[lM_]
 exact Nat.le_trans (List.length_filter_le _ _) h.len
def askC (t:GTask)(c:GCertificate)(p:List Fact)(d r:Int):Bool×Er×Int :=
 if(covA t.Vars p (countL c.Nogoods d)).2≤r then((covA t.Vars p (countL c.Nogoods d)).1,.nil,r-(covA t.Vars p (countL c.Nogoods d)).2)else(false,.no 10,r)
theorem covA_pos (vars:List Int)(p:List Fact)(l:List (List Fact)):1≤(covA vars p l).2:=decA_pos _ _ _ _
theorem askC_r {t:GTask}{c:GCertificate}{p:List Fact}{d r:Int}(h:0≤r∧r≤1048576):0≤(askC t c p d r).2.2∧(askC t c p d r).2.2≤1048576:=by
 have:=covA_pos t.Vars p (countL c.Nogoods d)
 unfold askC
 split
 ·show 0≤r-_∧r-_≤_;omega
 ·exact h
theorem ask_eq {t:GTask}{c:GCertificate}(hd:DomP t.Vars)(hc:CertP t.Vars c)(g:Nat)(hg:70≤g)(p:List Fact)(hp:propF t.Vars (-1) p=true)(d r:Int)(hr:0≤r∧r≤1048576) :
  M_ck_covered g { t:=t,c:=c,steps:=r } p d=some ((askC t c p d r).1,(askC t c p d r).2.1,{ t:=t,c:=c,steps:=(askC t c p d r).2.2 }):=by
 have hl:=count_len hc d
 rw[M_ck_covered,counting_eq _ d hc.len,ob1_some]
 show ob3 (M_p_Covered g t.Vars p (countL c.Nogoods d) r) _=_
 rw[covered_eq hd hp (count_prop hc d) (by omega) r (by omega) g (by omega),covR,askC]
 have hpos:=covA_pos t.Vars p (countL c.Nogoods d)
 by_cases h:(covA t.Vars p (countL c.Nogoods d)).2≤r
 ·rw[if_pos h,if_pos h,ob3_some]
  show some (_,_,_)=some (_,_,_)
  rw[wrap_eq (by show _≤r-_;omega) (by show r-_≤_;omega)]
 ·rw[if_neg h,if_neg h,ob3_some];rfl
def stepL (t:GTask)(c:GCertificate)(d:Int):List (List Fact)→Int→Er×Int
 | [],r=>(.nil,r)
 | p :: ps,r=>match askC t c p d r with
  | (true,.nil,r')=>stepL t c d ps r'
  | (false,.nil,r')=>(.no 19,r')
  | (_,.no e,r')=>(.no e,r')
theorem stepL_r (t:GTask)(c:GCertificate)(d:Int):∀ (l:List (List Fact))(r:Int),0≤r∧r≤1048576→0≤(stepL t c d l r).2∧(stepL t c d l r).2≤1048576
 | [],r,h=>h
 | p :: ps,r,h=>by
  have ha:=askC_r (t:=t) (c:=c) (p:=p) (d:=d) h
  rw[stepL]
  rcases hq:askC t c p d r with⟨b,e,r'⟩
  rw[hq]at ha
  cases e with
  | no e=>cases b <;> exact ha
  | nil =>
   cases b with
   | false=>exact ha
   | true=>exact stepL_r t c d ps r' ha
theorem step_loop {t:GTask}{c:GCertificate}(hd:DomP t.Vars)(hc:CertP t.Vars c)(g:Nat)(hg:70≤g)(d:Int)(z:List (List Fact)):∀ (l:List (List Fact))(i r:Int),PropL t.Vars l→0≤r∧r≤1048576 →
  Rg (M_ck_step_L1_B g d z) (M_ck_step_L1_E g d z) l i (t.Vars,t.Init,t.Goal,t.Ops,c.Bound,c.Nogoods,r)=some ((stepL t c d l r).1,{ t:=t,c:=c,steps:=(stepL t c d l r).2 })
 | [],i,r,_,_=>rfl
 | p :: ps,i,r,hl,hr=>by
  rw[Rg,M_ck_step_L1_B]
  show ixv p (fun y37=>ob3 (M_ck_covered g { t:=t,c:=c,steps:=r } y37 d) _)=_
  rw[ixv,ask_eq hd hc g hg p (hl p (mS_ ..)) d r hr,ob3_some,stepL]
  have ha:=askC_r (t:=t) (c:=c) (p:=p) (d:=d) hr
  rcases hq:askC t c p d r with⟨b,e,r'⟩
  rw[hq]at ha
  cases e with
  | no e=>cases b <;> rfl
  | nil =>
   cases b with
   | false=>rfl
   | true=>exact step_loop hd hc g hg d z ps _ r' (fun x hx=>hl x (mC_ _ hx)) ha
def distO (c:GCertificate)(n:Nogood)(o:GOp):Int:=if 0≤c.Bound then n.2+o.Cost else 0
def skipO (c:GCertificate)(n:Nogood)(o:GOp):Bool:=decide (0≤c.Bound∧c.Bound≤n.2+o.Cost)
def stepO (t:GTask)(c:GCertificate)(n:Nogood)(o:GOp)(r:Int):Er×Int :=
 if skipO c n o=true then(.nil,r)
 else match regO t.Vars o n.1 with
  | none=>(.no 5,r)
  | some l=>stepL t c (distO c n o) l r
theorem stepO_r (t:GTask)(c:GCertificate)(n:Nogood)(o:GOp)(r:Int)(h:0≤r∧r≤1048576):0≤(stepO t c n o r).2∧(stepO t c n o r).2≤1048576:=by
 unfold stepO
 split
 ·exact h
 ·split
  ·exact h
  ·exact stepL_r _ _ _ _ _ h
theorem regO_len {t:GTask}(hgood:goodF t=true){p:List Fact}(hpf:propF t.Vars (-1) p=true){o:GOp}(ho:o∈t.Ops){l:List (List Fact)}(h:regO t.Vars o p=some l):PropL t.Vars l∧l.length≤1024:=by
 unfold regO at h
 cases hr:regG t.Vars o p [o.Pre]with
 | none=>rw[hr]at h;cases h
 | some m =>
  rw[hr,Option.map_some]at h
  obtain rfl:=sI_ h
  obtain⟨l1,-,l3⟩:=pre_prop hgood hpf ho hr
  refine⟨fun x hx=>l1 x (List.mem_filter.1 ((sortLL_mem x _).1 hx)).1,?_⟩
  rw[sortLL_length]
  exact Nat.le_trans (List.length_filter_le _ _) l3
theorem good_cost {t:GTask}(h:goodF t=true){o:GOp}(ho:o∈t.Ops):0≤o.Cost∧o.Cost≤1048576:=by
 unfold goodF at h
 simp only[bA_,List.all_eq_true]at h
 have:=h.2.2.2.2 o ho
 unfold opF at this
 simp only[bA_,decide_eq_true_iff]at this
 exact⟨this.1.1,this.1.2.1⟩
theorem step_eq {t:GTask}(ht:ShT t)(hgood:goodF t=true){c:GCertificate}(hc:CertP t.Vars c)(g:Nat)(hg:70≤g)(n:Nogood)(hn:n∈c.Nogoods)(j:Nat)(o:GOp)(hj:t.Ops[j]?=some o)(r:Int)(hr:0≤r∧r≤1048576) :
    M_ck_step g { t:=t,c:=c,steps:=r } n j=some ((stepO t c n o r).1,{ t:=t,c:=c,steps:=(stepO t c n o r).2 }):=by
  have hd:=good_dom hgood
  have ho:=mG_ hj
  have hcost:=good_cost hgood ho
  have hn0:=hc.d0 n hn
  have hn1:=hc.d1 n hn
  have hb1:=hc.b1
  have hw:0≤c.Bound→IntKind.i64.wrap (n.2+o.Cost)=n.2+o.Cost:=fun h=>wrap_eq (by omega) (by have:=hn1 h;omega)
  have hreg:∀ v:Int,v=distO c n o→skipO c n o=false→ob2 (M_g_Regress g t (j:Int) n.1) (fun z7 z8 =>
      erM z8 (M_ck_step_L1 g v z7 ((((z7.map cL_cF).length:Int)).toNat+1) 0 t.Vars t.Init t.Goal t.Ops c.Bound c.Nogoods r)
       (fun e9=>some ((Er.no e9),({ t:=t,c:=c,steps:=r }:GChecker))))=some ((stepO t c n o r).1,{ t:=t,c:=c,steps:=(stepO t c n o r).2 }):=by
    intro v hv hs
    rw[regress_eq t ht hgood n.1 (hc.prop n hn) g hg (j:Int) o (by omega) (by rw[Int.toNat_natCast];exact hj),ob2_res,stepO,hs,if_neg (by decide)]
    cases hro:regO t.Vars o n.1 with
    | none=>rfl
    | some l =>
      obtain⟨l1,l2⟩:=regO_len hgood (hc.prop n hn) ho hro
      simp only
      rw[M_ck_step_L1_eq g v l _ _ _ _ _ _ _ (by omega),step_loop hd hc g hg v l l 0 r l1 hr,hv]
  rw[M_ck_step]
  simp only[sel_dec,ge_iff_le]
  by_cases h:0≤c.Bound
  · rw[if_pos h,ix_at hj,hw h]
    by_cases h2:c.Bound≤n.2+o.Cost
    · have hs:skipO c n o=true:=decide_eq_true ⟨h,h2⟩
      rw[if_pos h2,ob1_some,osum_inr,stepO,hs,if_pos rfl]
    · rw[if_neg h2,ob1_some,osum_inl]
      exact hreg _ (by rw[distO,if_pos h]) (decide_eq_false (by omega))
  · rw[if_neg h,ob1_some,osum_inl]
    exact hreg _ (by rw[distO,if_neg h]) (decide_eq_false (by omega))
def opsC (t:GTask)(c:GCertificate)(n:Nogood)(i:Int):List GOp→Int→Int→Int⊕(Int×Int×Er)
 | [],_,r=>.inl r
 | o :: os,j,r=>match stepO t c n o r with
  | (.nil,r')=>opsC t c n i os (j+1) r'
  | (.no e,_)=>.inr (i,j,.no e)
def nogC (t:GTask)(c:GCertificate):List Nogood→Int→Int→Int×Int×Er
 | [],_,_=>(-1,-1,.nil)
 | n :: ns,i,r=>match opsC t c n i t.Ops 0 r with
  | .inl r'=>nogC t c ns (i+1) r'
  | .inr x=>x
theorem opsC_r (t:GTask)(c:GCertificate)(n:Nogood)(i:Int):∀ (l:List GOp)(j r:Int),0≤r∧r≤1048576→∀ r',opsC t c n i l j r=.inl r'→0≤r'∧r'≤1048576
 | [],j,r,h,r',e=>by rw[opsC]at e;injection e with e;omega
 | o :: os,j,r,h,r',e=>by
  have hs:=stepO_r t c n o r h
  rw[opsC]at e
  rcases hq:stepO t c n o r with⟨x,y⟩
  rw[hq]at e hs
  cases x with
  | no x=>cases e
  | nil=>exact opsC_r t c n i os (j+1) y hs r' e
theorem ops_loop {t:GTask}(ht:ShT t)(hgood:goodF t=true){c:GCertificate}(hc:CertP t.Vars c)(g:Nat)(hg:70≤g)(n:Nogood)(hn:n∈c.Nogoods)(i:Int):∀ (l:List GOp)(m j:Nat)(r:Int),t.Ops.drop j=l→l.length=m→0≤r∧r≤1048576 →
  Rn (M_checker_Where_L2_B t g i n) (M_checker_Where_L2_E t g i n) m j (t.Vars,t.Init,t.Goal,t.Ops,c.Bound,c.Nogoods,r)=some (match opsC t c n i l j r with | .inl r'=>.inl (t.Vars,t.Init,t.Goal,t.Ops,c.Bound,c.Nogoods,r') | .inr x=>.inr x)
 | [],m,j,r,_,hm,_=>by subst hm;rfl
 | o :: os,m,j,r,hdr,hm,hr=>by
  obtain⟨hj,hd',hlt⟩:=drop_cons hdr
  obtain⟨m,rfl⟩:∃ k,m=k+1:=⟨os.length,hm.symm⟩
  rw[Rn,M_checker_Where_L2_B]
  show ob2 (M_ck_step g { t:=t,c:=c,steps:=r } n (j:Int)) _=_
  have hs:=stepO_r t c n o r hr
  rw[step_eq ht hgood hc g hg n hn j o hj r hr,ob2_some,opsC]
  rcases hq:stepO t c n o r with⟨x,y⟩
  rw[hq]at hs
  cases x with
  | no x=>rfl
  | nil=>exact ops_loop ht hgood hc g hg n hn i os m (j+1) y hd' (by simpa using hm) hs
theorem nog_loop {t:GTask}(ht:ShT t)(hgood:goodF t=true){c:GCertificate}(hc:CertP t.Vars c)(g:Nat)(hg:70≤g):∀ (l:List Nogood)(i r:Int),(∀ n∈l,n∈c.Nogoods)→0≤r∧r≤1048576 →
  Rg (M_checker_Where_L3_B t c g) (M_checker_Where_L3_E t c g) l i (t.Vars,t.Init,t.Goal,t.Ops,c.Bound,c.Nogoods,r)=some (nogC t c l i r)
 | [],i,r,_,_=>rfl
 | n :: ns,i,r,hl,hr=>by
  have hops:t.Ops.length≤4096:=by
   unfold goodF at hgood
   simp only[bA_,decide_eq_true_iff]at hgood
   exact hgood.1.2
  rw[Rg,M_checker_Where_L3_B]
  show ob1 (ixv n (fun y231=>M_checker_Where_L2 t g i y231 ((((t.Ops.map cGOp).length:Int)).toNat+1) 0 t.Vars t.Init t.Goal t.Ops c.Bound c.Nogoods r)) _=_
  rw[ixv,M_checker_Where_L2_eq t g i n _ _ _ _ _ _ _ (m:=t.Ops.length) (by rw[lM_]) (by omega)]
  have e:=ops_loop ht hgood hc g hg n (hl n (mS_ ..)) i t.Ops t.Ops.length 0 r rfl rfl hr
  have e':Rn (M_checker_Where_L2_B t g i n) (M_checker_Where_L2_E t g i n) t.Ops.length 0 (t.Vars,t.Init,t.Goal,t.Ops,c.Bound,c.Nogoods,r)=_:=e
  rw[e',ob1_some,nogC]
  have hr2:=opsC_r t c n i t.Ops 0 r hr
  show osum _ _ (match opsC t c n i t.Ops 0 r with | .inl r'=>_ | .inr x=>_)=_
  cases ho:opsC t c n i t.Ops 0 r with
  | inl r'=>exact nog_loop ht hgood hc g hg ns _ r' (fun x hx=>hl x (mC_ _ hx)) (hr2 r' ho)
  | inr x=>rfl
def whereC (t:GTask)(c:GCertificate)(r:Int):Int×Int×Er :=
 if c.Nogoods.any (fun n=>holdsF t.Init n.1)=true then(-1,-1,.no 20)
 else if c.Bound=0 then nogC t c c.Nogoods 0 r
 else match askC t c t.Goal 0 r with
  | (true,.nil,r')=>nogC t c c.Nogoods 0 r'
  | (false,.nil,_)=>(-1,-1,.no 13)
  | (_,.no e,_)=>(-1,-1,.no e)
def whereF (t:GTask)(c:GCertificate)(steps:Int):Int×Int×Er :=
 match checkF t with
 | .no e=>(-1,-1,.no e)
 | .nil=>match properF t.Vars c with
  | .no e=>(-1,-1,.no e)
  | .nil=>whereC t c (max 0 (min steps 1048576))
theorem where_eq (t:GTask)(ht:ShT t)(c:GCertificate)(hc:ShC c)(steps:Int)(g:Nat)(hg:70≤g):M_checker_Where g t c steps=some (whereF t c steps):=by
 rw[M_checker_Where,check_eq t ht,ob1_some,whereF]
 cases hck:checkF t with
 | no e=>rfl
 | nil =>
  have hgood:=(good_check t).2 hck
  show ob1 (M_ce_Proper t.Vars c) _=_
  rw[cproper_eq t.Vars c hc,ob1_some]
  cases hpr:properF t.Vars c with
  | no e=>rfl
  | nil =>
   have hcp:=(properF_nil t.Vars c).1 hpr
   have hd:=good_dom hgood
   have e1:=M_checker_Where_L1_eq t c hc.list.lt
   have hr:0≤max 0 (min steps 1048576)∧max 0 (min steps 1048576)≤1048576:=by omega
   have hgoal:propF t.Vars (-1) t.Goal=true:=by
    unfold goodF at hgood
    simp only[bA_]at hgood
    exact hgood.2.2.2.1
   show ob1 (M_checker_Where_L1 t c _ 0) _=_
   rw[e1,rg_all (p:=fun n:Nogood=>!holdsF t.Init n.1) (c:=some (.inr ((-1),(-1),(Er.no 20)))),whereC]
   ·have hna:(c.Nogoods.all fun n=>!holdsF t.Init n.1)=!(c.Nogoods.any fun n=>holdsF t.Init n.1):=by rw[List.not_any_eq_all_not]
    rw[hna]
    cases ha:c.Nogoods.any fun n=>holdsF t.Init n.1 with
    | true=>rfl
    | false =>
     rw[Bool.not_false,if_pos rfl,M_checker_Where_L1_E,ob1_some,osum_inl,if_neg (by decide)]
     have hnog:∀ r:Int,0≤r∧r≤1048576→M_checker_Where_L3 t c g ((((c.Nogoods.map cN).length:Int)).toNat+1) 0 t.Vars t.Init t.Goal t.Ops c.Bound c.Nogoods r=some (nogC t c c.Nogoods 0 r):=fun r hr=>by
      rw[M_checker_Where_L3_eq t c g _ _ _ _ _ _ _ hc.list.lt,nog_loop ht hgood hcp g hg c.Nogoods 0 r (fun _ h=>h) hr]
     by_cases hb:c.Bound=0
     ·rw[if_pos hb,show(c.Bound != 0)=false from by simp[hb],sel_ff,ob1_some,osum_inl]
      exact hnog _ hr
     ·rw[if_neg hb,show(c.Bound != 0)=true from by simp[hb],sel_tt,ask_eq hd hcp g hg t.Goal hgoal 0 _ hr,ob3_some]
      have ha:=askC_r (t:=t) (c:=c) (p:=t.Goal) (d:=0) hr
      rcases hq:askC t c t.Goal 0 (max 0 (min steps 1048576))with⟨b,e,r'⟩
      rw[hq]at ha
      cases e with
      | no e=>cases b <;> rfl
      | nil =>
       cases b with
       | false=>rfl
       | true=>exact hnog r' ha
   ·intro n hn i rc
    rw[M_checker_Where_L1_B,ixv,tholds_eq n.1 t.Init (hc.each n hn),ob1_some]
    cases holdsF t.Init n.1 <;> rfl
def verF (t:GTask)(c:GCertificate)(steps:Int):Er:=(whereF t c steps).2.2
theorem verify_eq (t:GTask)(ht:ShT t)(c:GCertificate)(hc:ShC c)(steps:Int)(g:Nat)(hg:70≤g):M_checker_Verify g t c steps=some (verF t c steps):=by
 rw[M_checker_Verify,where_eq t ht c hc steps g hg]
 rfl
def claimsF (ns:List Nogood)(s:List Int)(d:Int):Bool:=ns.any fun n=>decide (n.2≤d)&&holdsF s n.1
theorem some_count {s:List Int}{ns:List Nogood}{d:Int}:some1 s (countL ns d)↔claimsF ns s d=true:=by
 unfold some1 countL claimsF
 rw[List.any_eq_true]
 constructor
 ·rintro⟨z,hz,h⟩
  obtain⟨n,hn,rfl⟩:=List.mem_map.1 hz
  obtain⟨h1,h2⟩:=List.mem_filter.1 hn
  exact⟨n,h1,by rw[h2,h];rfl⟩
 ·rintro⟨n,hn,h⟩
  rw[bA_]at h
  exact⟨n.1,List.mem_map.2 ⟨n,List.mem_filter.2 ⟨hn,h.1⟩,rfl⟩,h.2⟩
def covB (t:GTask)(c:GCertificate)(d:Int)(p:List Fact):Bool:=(covA t.Vars p (countL c.Nogoods d)).1
theorem covB_true {t:GTask}(hgood:goodF t=true){c:GCertificate}(hc:CertP t.Vars c){p:List Fact}(hp:propF t.Vars (-1) p=true)(d:Int):covB t c d p=true↔∀ s,stateF t.Vars s=true→holdsF s p=true→claimsF c.Nogoods s d=true:=by
 rw[covB,covA_true (good_dom hgood) hp (count_prop hc d)]
 exact forall_congr' fun s=>by rw[some_count]
def inF (o:GOp)(p:List Fact)(s:List Int):Bool:=holdsF s o.Pre&&holdsF (nextF s o) p
theorem inF_iff {t:GTask}(hgood:goodF t=true){o:GOp}(ho:o∈t.Ops){s:List Int}(hs:StP t.Vars s){p:List Fact}(hp:propF t.Vars (-1) p=true){l:List (List Fact)}(h:regO t.Vars o p=some l):some1 s l↔inF o p s=true:=by
 rw[some_regO hgood ho hs hp h,inF,bA_,holds_next hgood hs ho hp]
structure Acc (t:GTask)(c:GCertificate):Prop where
 init:∀ n∈c.Nogoods,holdsF t.Init n.1=false
 goal:c.Bound≠0→∀ s∈allF t,holdsF s t.Goal=true→claimsF c.Nogoods s 0=true
 step:∀ n∈c.Nogoods,∀ o∈t.Ops,skipO c n o=false→∀ s∈allF t,inF o n.1 s=true→claimsF c.Nogoods s (distO c n o)=true
theorem good_goal {t:GTask}(h:goodF t=true):propF t.Vars (-1) t.Goal=true:=by
 unfold goodF at h
 simp only[bA_]at h
 exact h.2.2.2.1
end Go.Proofs.YtinnphmnhmdcgaaGreat.Am
