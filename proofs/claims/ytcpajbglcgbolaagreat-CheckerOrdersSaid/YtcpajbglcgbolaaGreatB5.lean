/- Texts of the proof, part 5 of 6. -/
import Derived.Test.YtcpajbglcgbolaaGreatB2
import Derived.Test.YtcpajbglcgbolaaGreatB4
import Derived.Test.YtcpajbglcgbolaaGreatB1
import Derived.RegionTactic
import Derived.BigRegion
import Derived.Deep.RegionHeld3
import Derived.IntWalk
namespace Go.Proofs.YtcpajbglcgbolaaGreat.Am
set_option maxHeartbeats 16000000
set_option maxRecDepth 100000
open Go.RowKit
structure GCertificate where
  Bound : Int
  Nogoods : List Nogood
  deriving DecidableEq
def cGCertificate (x : GCertificate) : List AV := [.c (.int .i64 x.Bound), .sl 2 (x.Nogoods.map cN)]
theorem fr_cGCertificate (x : GCertificate) : ∀ y ∈ cGCertificate x, Fr y := FrC_cons (.c _) (FrC_cons (.sl (frl_cN _)) (FrC_nil))
theorem frl_cGCertificate (l : List GCertificate) : FrL (l.map cGCertificate) := FrL_map (fun x _ => fr_cGCertificate x)
instance {l : List GCertificate} : FrI (l.map cGCertificate) := ⟨frl_cGCertificate l⟩
structure GChecker where
  t : GTask
  c : GCertificate
  steps : Int
  deriving DecidableEq
def cGChecker (x : GChecker) : List AV := [.sl 1 (x.t.Vars.map cI), .sl 1 (x.t.Init.map cI), .sl 2 (x.t.Goal.map cF), .sl 4 (x.t.Ops.map cGOp), .c (.int .i64 x.c.Bound), .sl 2 (x.c.Nogoods.map cN), .c (.int .i64 x.steps)]
theorem fr_cGChecker (x : GChecker) : ∀ y ∈ cGChecker x, Fr y := FrC_cons (.sl (frl_cI _)) (FrC_cons (.sl (frl_cI _)) (FrC_cons (.sl (frl_cF _)) (FrC_cons (.sl (frl_cGOp _)) (FrC_cons (.c _) (FrC_cons (.sl (frl_cN _)) (FrC_cons (.c _) (FrC_nil)))))))
theorem frl_cGChecker (l : List GChecker) : FrL (l.map cGChecker) := FrL_map (fun x _ => fr_cGChecker x)
instance {l : List GChecker} : FrI (l.map cGChecker) := ⟨frl_cGChecker l⟩
theorem zb_XDChk {P : Prop} (h : P := by repeat (first | exact BWL.nil | exact bwll_nil | exact bw_c | exact BW.sl | exact BW.nil | exact bwll_same rfl FrI.h | refine BWL.cons ?_ ?_ | refine bwll_cons ?_ ?_ | (refine bw_own3 rfl rfl rfl FrI.h ?_ ?_ ?_) | exact BW.fr FrV.h | exact BW.fr (by assumption) | refine bw_agg ?_ | refine bw_clo ?_ | refine bw_ptr rfl rfl rfl ?_ | (refine bw_own rfl rfl rfl ?_ FrI.h ?_ ?_) | assumption | omega | rfl | (rw [List.length_map, ← List.length_append]; assumption) | (refine bwll_same ?_ FrI.h; (simp [cGTask, cI, cF, cGOp, cGEffect, cGCertificate, cN, cGChecker, cL_cF] <;> fail)) | (rw [List.map_set]; refine bwll_set (by first | rfl | omega | simp) ?_ ?_) | refine bwll_set (by first | rfl | omega | simp) ?_ ?_ | (rw [List.map_replicate]; refine bwll_rep ?_) | refine bwll_rep ?_ | (rw [List.map_append]; refine bwll_append ?_ ?_) | refine bwll_append ?_ ?_ | (simp [cGTask, cI, cF, cGOp, cGEffect, cGCertificate, cN, cGChecker, cL_cF, take_len_map] <;> fail) | (rw [List.drop_zero, List.take_of_length_le] <;> first | rfl | (simp [cGTask, cI, cF, cGOp, cGEffect, cGCertificate, cN, cGChecker, cL_cF] <;> fail)) | (simp; omega) | (simp only [List.length_map, List.length_append, List.drop_zero, List.length_cons, List.length_nil, Nat.zero_add, Nat.add_zero] at *; omega))) : P := h
theorem zg_XDChk {P : Prop} (h : P := by repeat (first | exact True.intro | exact gb_nil rfl rfl | refine gb_some ⟨rfl, rfl, rfl⟩ ?_ | refine And.intro ?_ ?_ | refine gw_ren rfl rfl rfl rfl rfl ?_ | exact gw_oren rfl rfl rfl rfl rfl | exact gw_opren rfl rfl rfl rfl rfl | exact gw_onil rfl rfl | refine gw_pren rfl rfl rfl rfl rfl | exact gw_thaw rfl rfl rfl | refine gw_tup ?_ | exact GWL.nil | exact gwll_nil | exact gw_c | exact GW.sl | exact GW.nil | exact gwll_same rfl FrI.h | refine GWL.cons ?_ ?_ | refine gwll_cons ?_ ?_ | (refine gw_own3 rfl rfl rfl FrI.h ?_ ?_ ?_) | exact GW.fr FrV.h | exact GW.fr (by assumption) | refine gw_agg ?_ | refine gw_clo ?_ | refine gw_ptr rfl rfl rfl ?_ | (refine gw_own rfl rfl rfl ?_ FrI.h ?_ ?_) | assumption | omega | rfl | (rw [List.length_map, ← List.length_append]; assumption) | (refine gwll_same ?_ FrI.h; (simp [cGTask, cI, cF, cGOp, cGEffect, cGCertificate, cN, cGChecker, cL_cF] <;> fail)) | (rw [List.map_set]; refine gwll_set (by first | rfl | omega | simp) ?_ ?_) | refine gwll_set (by first | rfl | omega | simp) ?_ ?_ | (rw [List.map_replicate]; refine gwll_rep ?_) | refine gwll_rep ?_ | (rw [List.map_append]; refine gwll_append ?_ ?_) | refine gwll_append ?_ ?_ | (simp [cGTask, cI, cF, cGOp, cGEffect, cGCertificate, cN, cGChecker, cL_cF, take_len_map] <;> fail) | (rw [List.drop_zero, List.take_of_length_le] <;> first | rfl | (simp [cGTask, cI, cF, cGOp, cGEffect, cGCertificate, cN, cGChecker, cL_cF] <;> fail)) | (simp; omega) | (simp only [List.length_map, List.length_append, List.drop_zero, List.length_cons, List.length_nil, Nat.zero_add, Nat.add_zero] at *; omega))) : P := h
theorem zn_XDChk {P : Prop} (h : P := by repeat (first | exact True.intro | rfl | exact Nat.le_of_ble_eq_true rfl | exact gb_nil rfl rfl | refine gb_some ⟨rfl, rfl, rfl⟩ ?_ | refine And.intro ?_ ?_ | refine gw_ren rfl rfl rfl rfl rfl ?_ | exact gw_oren rfl rfl rfl rfl rfl | exact gw_opren rfl rfl rfl rfl rfl | exact gw_onil rfl rfl | refine gw_pren rfl rfl rfl rfl rfl | exact gw_thaw rfl rfl rfl | refine gw_tup ?_ | exact GWL.nil | exact gwll_nil | exact gw_c | exact GW.sl | exact GW.nil | exact gwll_same rfl FrI.h | refine GWL.cons ?_ ?_ | refine gwll_cons ?_ ?_ | (refine gw_own3 rfl rfl rfl FrI.h ?_ ?_ ?_) | exact GW.fr FrV.h | exact GW.fr (by assumption) | refine gw_agg ?_ | refine gw_clo ?_ | refine gw_ptr rfl rfl rfl ?_ | (refine gw_own rfl rfl rfl ?_ FrI.h ?_ ?_) | assumption | omega | rfl | (rw [List.length_map, ← List.length_append]; assumption) | (refine gwll_same ?_ FrI.h; (simp [cGTask, cI, cF, cGOp, cGEffect, cGCertificate, cN, cGChecker, cL_cF] <;> fail)) | (rw [List.map_set]; refine gwll_set (by first | rfl | omega | simp) ?_ ?_) | refine gwll_set (by first | rfl | omega | simp) ?_ ?_ | (rw [List.map_replicate]; refine gwll_rep ?_) | refine gwll_rep ?_ | (rw [List.map_append]; refine gwll_append ?_ ?_) | refine gwll_append ?_ ?_ | (simp [cGTask, cI, cF, cGOp, cGEffect, cGCertificate, cN, cGChecker, cL_cF, take_len_map] <;> fail) | (rw [List.drop_zero, List.take_of_length_le] <;> first | rfl | (simp [cGTask, cI, cF, cGOp, cGEffect, cGCertificate, cN, cGChecker, cL_cF] <;> fail)) | (simp; omega) | (simp only [List.length_map, List.length_append, List.drop_zero, List.length_cons, List.length_nil, Nat.zero_add, Nat.add_zero] at *; omega))) : P := h
theorem ci_XDChk {p K : Prop} (k : K) (h : p := by first | rfl | exact ⟨rfl, rfl⟩ | exact BW.fr FrV.h | (refine BW.fr ?_; assumption) | (refine ⟨rfl, ?_⟩; (simp [cGTask, cI, cF, cGOp, cGEffect, cGCertificate, cN, cGChecker, cL_cF, take_len_map]; done)) | (refine RowK.same ?_ FrI.h; first | rfl | (simp [cGTask, cI, cF, cGOp, cGEffect, cGCertificate, cN, cGChecker, cL_cF, take_len_map]; done)) | (refine row_part1 ?_; (exact zb_XDChk); done) | ((exact zb_XDChk); done) | (simp [cGTask, cI, cF, cGOp, cGEffect, cGCertificate, cN, cGChecker, cL_cF, take_len_map]; done)) : p ∧ K := ⟨h, k⟩
theorem ca_XDChk {P : Prop} (h : P := by repeat (first | exact True.intro | refine ci_XDChk ?_)) : P := h
theorem pr_XDChk {p K : Prop} (k : K) (h : p := by first | assumption | exact Int.natCast_nonneg _ | exact Nat.le_refl _ | exact Nat.zero_le _ | omega | (simp; done) | (simp; omega)) : p ∧ K := ⟨h, k⟩
theorem pl_XDChk {p K : Prop} (k : K) (h : p := by first | rfl | exact List.length_map _ | (simp; done) | (simp; omega)) : p ∧ K := ⟨h, k⟩
theorem pe_XDChk {p K : Prop} (k : K) (h : p := by first | omega | (simp; omega) | (simp only [List.length_map, List.length_cons, List.length_nil, List.length_append]; omega) | (simp only [List.length_map, List.drop_zero, List.length_cons, List.length_nil, Nat.zero_add, Nat.add_zero] at *; omega)) : p ∧ K := ⟨h, k⟩
theorem dr_XDChk {b : Bool} {p K : Prop} (k : K) (h : b = true → p := by intro h; first | (cases h; done) | exact ⟨by kernel_rfl, by kernel_rfl⟩) : (b = true → p) ∧ K := ⟨h, k⟩
theorem cl_XDChk {C : Cx} {n : Nat} {o : Oper} {τ : Nat → AV} {η : Nat → Ent} {f : FuncId} {os : Array Operand} {ats : Array TypeId} {r : AV} {args : List AV} {K : Foot → Prop} (ho : o.op = .call ⟨.value (.func f), os, ats⟩) (hc : ACall C f args r) (k : K ⟨r, [], []⟩)
    (hd : InB n o.dst := by exact Nat.le_of_ble_eq_true rfl) (hargs : os.toList.map (evA τ) = args := by first | rfl | (simp [cGTask, cI, cF, cGOp, cGEffect, cGCertificate, cN, cGChecker, cL_cF]; done) | (repeat (first | exact rfl | refine cons_eq ?_ ?_ | exact sl_dt rfl))) (hfr : frs args := by repeat (first | exact trivial | exact fr1_eA _ | exact fr0_eA _ | exact fr1_fr (by assumption) | exact FrV.h | refine And.intro ?_ ?_)) (hr : fr1 r := by repeat (first | exact trivial | exact fr1_eA _ | exact fr0_eA _ | exact fr1_fr (by assumption) | exact FrV.h | refine And.intro ?_ ?_)) : ∃ f : Foot, LF C n o τ η f ∧ K f := ⟨_, lf_call ho hd hargs hc hfr hr, k⟩
theorem clb_XDChk {C : Cx} {n : Nat} {o : Oper} {τ : Nat → AV} {η : Nat → Ent} {f : FuncId} {os : Array Operand} {ats : Array TypeId} {r : AV} {xs ys : List AV} {K : Foot → Prop} (bs : List Nat) (ho : o.op = .call ⟨.value (.func f), os, ats⟩) (hargs : os.toList.map (evA τ) = xs) (hc : ACall C f ys r) (k : K ⟨r, [], bs⟩)
    (hd : InB n o.dst := by exact Nat.le_of_ble_eq_true rfl) (hb : BWL η (dropB η bs) xs ys := by exact zb_XDChk) (hr : scal r := by repeat (first | exact trivial | exact scal0_eA _ | exact scal_eA _ | refine And.intro ?_ ?_)) : ∃ f : Foot, LF C n o τ η f ∧ K f := ⟨_, lf_callB bs ho hd hargs hb hc hr, k⟩
theorem clg_XDChk {C : Cx} {n : Nat} {o : Oper} {τ : Nat → AV} {η : Nat → Ent} {f : FuncId} {os : Array Operand} {ats : Array TypeId} {r : AV} {xs ys : List AV} {bs bs' : List (Nat × Blk)} {ks : List Nat} {K : Foot → Prop} (ρ : List (Nat × Nat)) (fz : List Nat) (go nb : List (Nat × Ent)) (r' : AV) (ho : o.op = .call ⟨.value (.func f), os, ats⟩) (hargs : os.toList.map (evA τ) = xs)
    (hc : ACallG C f ys bs ks r bs') (k : K ⟨r', go ++ nb, []⟩) (hd : InB n o.dst := by exact Nat.le_of_ble_eq_true rfl) (hok : okC ρ fz bs ks bs' (idsE go) = true := by rfl) (hgo : allUs η go := by repeat (first | exact trivial | refine And.intro rfl ?_)) (hgl : ltUs n go := by repeat (first | exact trivial | refine And.intro (Nat.le_of_ble_eq_true rfl) ?_))
    (hw : GWL η (fE bs) (lk ρ) (fun i => inB fz i = true) (fun i => inB (keys bs) i = true) xs ys := by exact zg_XDChk) (hb : GBL η (fE bs) (lk ρ) (fun i => inB fz i = true) (fun i => inB (keys bs) i = true) bs := by exact zg_XDChk)
    (hr : GW (fE bs') (updAll η (go ++ nb)) (lk (backN ρ bs')) (fun _ => False) (fun i => inB (idsE nb) i = true) r r' := by exact zg_XDChk)
    (hnb : nbOk n η (updAll η (go ++ nb)) ρ ks (fE bs') (lk (backN ρ bs')) (fun i => inB (idsE nb) i = true) bs' nb := by exact zn_XDChk) : ∃ f : Foot, LF C n o τ η f ∧ K f := ⟨_, lf_callG ρ fz go nb ho hd hargs hc hok hgo hgl hw hb hr hnb, k⟩
theorem clk_XDChk {C : Cx} {n : Nat} {o : Oper} {τ : Nat → AV} {η : Nat → Ent} {f : FuncId} {os : Array Operand} {ats : Array TypeId} {r : AV} {xs ys : List AV} {bs bs' : List (Nat × Blk)} {ks : List Nat} {K : Foot → Prop} (ρ : List (Nat × Nat)) (nb : List (Nat × Ent)) (r' : AV) (ho : o.op = .call ⟨.value (.func f), os, ats⟩) (hargs : os.toList.map (evA τ) = xs)
    (hc : ACallG C f ys bs ks r bs') (k : K ⟨r', [], nb.map (·.1)⟩) (hd : InB n o.dst := by exact Nat.le_of_ble_eq_true rfl) (hok : okC ρ [] bs ks bs' (idsE []) = true := by rfl)
    (hw : GWL η (fE bs) (lk ρ) (fun i => inB [] i = true) (fun i => inB (keys bs) i = true) xs ys := by exact zg_XDChk) (hb : GBL η (fE bs) (lk ρ) (fun i => inB [] i = true) (fun i => inB (keys bs) i = true) bs := by exact zg_XDChk)
    (hr : GW (fE bs') (updAll η ([] ++ nb)) (lk (backN ρ bs')) (fun _ => False) (fun i => inB (idsE nb) i = true) r r' := by exact zg_XDChk)
    (hnb : nbOk n η (updAll η ([] ++ nb)) ρ ks (fE bs') (lk (backN ρ bs')) (fun i => inB (idsE nb) i = true) bs' nb := by exact zn_XDChk) (hs : sameUs η nb := by repeat (first | exact True.intro | refine And.intro rfl ?_)) : ∃ f : Foot, LF C n o τ η f ∧ K f := ⟨_, lf_callK (lf_callG ρ [] [] nb ho hd hargs hc hok True.intro True.intro hw hb hr hnb) hs, k⟩
def M_ce_formed_L1 (a0 : List Fact) : Nat → Int → Option (Bool)
  | 0, _ => none
  | k6 + 1, v5 =>
    sel (decide (v5 < ((a0.map cF).length : Int)))
     (ix a0 v5 (fun y7 =>
       sel (decide (y7.1 < 0))
        (some false)
        (sel (decide (y7.1 ≥ 64))
          (some false)
          (sel (decide (y7.2 < 0))
            (some false)
            (sel (decide (y7.2 ≥ 64))
              (some false)
              (sel (decide (v5 > 0))
                (ix a0 (IntKind.i64.wrap (v5 - 1)) (fun y8 =>
                  sel (decide (y8.1 ≥ y7.1))
                   (some false)
                   (M_ce_formed_L1 a0 k6 (IntKind.i64.wrap (v5 + 1)))))
                (M_ce_formed_L1 a0 k6 (IntKind.i64.wrap (v5 + 1)))))))))
     (some true)
def M_ce_formed (a0 : List Fact) : Option (Bool) :=
  M_ce_formed_L1 a0 ((((a0.map cF).length : Int)).toNat + 1) 0
theorem A_ce_formed (a0 : List Fact) {r1 : Bool} (h : M_ce_formed a0 = some r1) : ACall cx 47 [.sl 2 (a0.map cF)] (.c (.bool r1)) := by
  refine aOf Tryz.func47 rfl (by decide) rfl (Nat.le_of_ble_eq_true rfl) ?_; intro _; unfold M_ce_formed at h; refine aSR ?_; intro _; refine dr_XDChk ?_; refine aSq ?_; refine aSR ?_; intro _; refine dr_XDChk ?_; refine aBk ?_; refine awp_loop (α := Nat × Int) (fun x => mkS 46 [(0, .sl 2 (a0.map cF)), (5, .sl 2 (a0.map cF)), (6, .c (.int .i64 ((a0.map cF).length : Int))), (7, .c (.int .i64 x.2))] []) (fun x => M_ce_formed_L1 a0 x.1 x.2 = some r1) (fun x => x.1) ((((a0.map cF).length : Int)).toNat + 1, 0) h ?_ ?_
  · exact ca_XDChk
  · intro x1 h; intro _; obtain ⟨k6, m2, h⟩ := succ_of (f := fun n => M_ce_formed_L1 a0 n x1.2) rfl h; replace h : M_ce_formed_L1 a0 (k6 + 1) x1.2 = some r1 := h; rw [M_ce_formed_L1] at h; refine aSR ?_; intro _; refine dr_XDChk ?_; refine aSq ?_; refine aCd ?_; intro _; refine spl h (fun c3 h => ?_) (fun c3 h => ?_)
    · refine aSk ?_; refine aSq ?_; refine aBk ?_; refine aSR ?_; intro _; obtain ⟨y7, w4, q5, h⟩ := ix_ok h; refine Exists.intro (cF y7) (And.intro (map_at' w4) ?_); intro _; refine pr_XDChk ?_; refine dr_XDChk ?_; refine aSR ?_; intro _; refine spf h (fun c6 h => ?_) (fun c6 h => ?_)
      · intro _; refine spf h (fun c7 h => ?_) (fun c7 h => ?_)
        · intro _; refine spf h (fun c8 h => ?_) (fun c8 h => ?_)
          · intro _; refine spf h (fun c9 h => ?_) (fun c9 h => ?_)
            · intro _; refine spl h (fun c10 h => ?_) (fun c10 h => ?_)
              · intro _; obtain ⟨y8, w11, q12, h⟩ := ix_ok h; refine Exists.intro (cF y8) (And.intro (map_at' w11) ?_); intro _; refine pr_XDChk ?_; refine dr_XDChk ?_; refine aCd ?_; intro _; refine spl h (fun c13 h => ?_) (fun c13 h => ?_)
                · refine aSR ?_; intro _; refine dr_XDChk ?_; refine aRt ?_; intro _; obtain rfl := inj1 h; exact ca_XDChk
                · refine aSk ?_; refine aRg ?_; intro _; refine dr_XDChk ?_; refine ⟨(k6, (IntKind.i64.wrap (x1.2 + 1))), h, ltS m2, ?_⟩; exact ca_XDChk
              · intro _; refine dr_XDChk ?_; refine aCd ?_; intro _; refine litF ?_; refine aSk ?_; refine aRg ?_; intro _; refine dr_XDChk ?_; refine ⟨(k6, (IntKind.i64.wrap (x1.2 + 1))), h, ltS m2, ?_⟩; exact ca_XDChk
            · intro _; refine dr_XDChk ?_; refine aCd ?_; intro _; refine litT ?_; refine aSR ?_; intro _; refine dr_XDChk ?_; refine aRt ?_; intro _; obtain rfl := inj1 h; exact ca_XDChk
          · intro _; refine dr_XDChk ?_; refine aCd ?_; intro _; refine litT ?_; refine aSR ?_; intro _; refine dr_XDChk ?_; refine aRt ?_; intro _; obtain rfl := inj1 h; exact ca_XDChk
        · intro _; refine dr_XDChk ?_; refine aCd ?_; intro _; refine litT ?_; refine aSR ?_; intro _; refine dr_XDChk ?_; refine aRt ?_; intro _; obtain rfl := inj1 h; exact ca_XDChk
      · intro _; refine dr_XDChk ?_; refine aCd ?_; intro _; refine litT ?_; refine aSR ?_; intro _; refine dr_XDChk ?_; refine aRt ?_; intro _; obtain rfl := inj1 h; exact ca_XDChk
    · refine aEx ?_; refine aSR ?_; intro _; refine dr_XDChk ?_; refine aRt ?_; intro _; obtain rfl := inj1 h; exact ca_XDChk
def M_ce_Check_L1 (a0 : GCertificate) : Nat → Int → Option (Unit ⊕ Er)
  | 0, _ => none
  | k20 + 1, v19 =>
    sel (decide (v19 < ((a0.Nogoods.map cN).length : Int)))
     (ix a0.Nogoods v19 (fun y21 =>
       ob1 (M_ce_formed y21.1) (fun z22 =>
        sel (!z22)
         (some (.inr (Er.no 2)))
         (M_ce_Check_L1 a0 k20 (IntKind.i64.wrap (v19 + 1))))))
     (some (.inl ()))
def M_ce_Check_L2 (a0 : GCertificate) : Nat → Int → Option (Er)
  | 0, _ => none
  | k27 + 1, v26 =>
    sel (decide (v26 < ((a0.Nogoods.map cN).length : Int)))
     (ix a0.Nogoods v26 (fun y28 =>
       sel (decide (y28.2 < 0))
        (some (Er.no 1))
        (sel (decide (a0.Bound ≥ 0))
          (sel (decide (y28.2 ≥ a0.Bound))
            (some (Er.no 1))
            (sel (decide (a0.Bound < 0))
              (sel (y28.2 != 0)
                (some (Er.no 1))
                (M_ce_Check_L2 a0 k27 (IntKind.i64.wrap (v26 + 1))))
              (M_ce_Check_L2 a0 k27 (IntKind.i64.wrap (v26 + 1)))))
          (sel (decide (a0.Bound < 0))
            (sel (y28.2 != 0)
              (some (Er.no 1))
              (M_ce_Check_L2 a0 k27 (IntKind.i64.wrap (v26 + 1))))
            (M_ce_Check_L2 a0 k27 (IntKind.i64.wrap (v26 + 1)))))))
     (some Er.nil)
def M_ce_Check (a0 : GCertificate) : Option (Er) :=
  ob1 (sel (decide (a0.Bound < (-1)))
    (some (.inr (Er.no 1)))
    (sel (decide (a0.Bound > 1099511627776))
      (some (.inr (Er.no 1)))
      (some (.inl ()))) : Option (Unit ⊕ Er))
   (osum
   (fun _ => sel (decide (((a0.Nogoods.map cN).length : Int) > 4096))
      (some (Er.no 5))
      (ob1 (M_ce_Check_L1 a0 ((((a0.Nogoods.map cN).length : Int)).toNat + 1) 0 : Option (Unit ⊕ Er))
        (osum
        (fun _ => M_ce_Check_L2 a0 ((((a0.Nogoods.map cN).length : Int)).toNat + 1) 0)
        (fun r12 => some r12))))
   (fun r1 => some r1))
theorem A_ce_Check (a0 : GCertificate) {r1 : Er} (h : M_ce_Check a0 = some r1) : ACall cx 26 [.agg [.c (.int .i64 a0.Bound), .sl 2 (a0.Nogoods.map cN)]] (eA r1) := by
  refine aOf Tryz.func26 rfl (by decide) rfl (Nat.le_of_ble_eq_true rfl) ?_; intro _; unfold M_ce_Check at h; refine aSR ?_; intro _; refine dr_XDChk ?_; obtain ⟨o1, h, hK2⟩ := ob1_ok h; refine awp_cut (α := Unit) (fun _ => mkS 68 [(1, .ptr 1 0 0 0)] [(1, ⟨29, 2, true, [[.c (.int .i64 a0.Bound), .sl 2 (a0.Nogoods.map cN)]]⟩)]) (fun v => o1 = (.inl v)) ?_ ?_
  · refine aSR ?_; intro _; refine spf h (fun c3 h => ?_) (fun c3 h => ?_)
    · intro _; refine dr_XDChk ?_; refine aCd ?_; intro _; refine spl h (fun c4 h => ?_) (fun c4 h => ?_)
      · refine aSR ?_; intro _; refine dr_XDChk ?_; refine aRt ?_; have j5 := Option.some.inj h; subst j5; replace h := (osum_r hK2); intro _; obtain rfl := inj1 h; exact ca_XDChk
      · refine aSk ?_; refine ⟨(), (Option.some.inj h).symm, ?_⟩; exact ca_XDChk
    · intro _; refine dr_XDChk ?_; refine aCd ?_; intro _; refine litT ?_; refine aSR ?_; intro _; refine dr_XDChk ?_; refine aRt ?_; have j6 := Option.some.inj h; subst j6; replace h := (osum_r hK2); intro _; obtain rfl := inj1 h; exact ca_XDChk
  · rintro _ ho; have ho := ho.symm; subst ho; intro _; replace h := (osum_l hK2); refine aSq ?_; refine aSR ?_; intro _; refine dr_XDChk ?_; refine aCd ?_; intro _; refine spl h (fun c7 h => ?_) (fun c7 h => ?_)
    · refine aSR ?_; intro _; refine dr_XDChk ?_; refine aRt ?_; intro _; obtain rfl := inj1 h; exact ca_XDChk
    · refine aSk ?_; obtain ⟨o8, h, hK9⟩ := ob1_ok h; refine awp_cut (α := Unit) (fun _ => mkS 68 [(1, .ptr 1 0 0 0)] [(1, ⟨29, 2, true, [[.c (.int .i64 a0.Bound), .sl 2 (a0.Nogoods.map cN)]]⟩)]) (fun v => o8 = (.inl v)) ?_ ?_
      · refine aSR ?_; intro _; refine dr_XDChk ?_; refine aBk ?_; refine awp_loop (α := Nat × Int) (fun x => mkS 68 [(1, .ptr 1 0 0 0), (22, .sl 2 (a0.Nogoods.map cN)), (23, .c (.int .i64 ((a0.Nogoods.map cN).length : Int))), (24, .c (.int .i64 x.2))] [(1, ⟨29, 2, true, [[.c (.int .i64 a0.Bound), .sl 2 (a0.Nogoods.map cN)]]⟩)]) (fun x => M_ce_Check_L1 a0 x.1 x.2 = some o8) (fun x => x.1) ((((a0.Nogoods.map cN).length : Int)).toNat + 1, 0) h ?_ ?_
        · exact ca_XDChk
        · intro x10 h; intro _; obtain ⟨k20, m11, h⟩ := succ_of (f := fun n => M_ce_Check_L1 a0 n x10.2) rfl h; replace h : M_ce_Check_L1 a0 (k20 + 1) x10.2 = some o8 := h; rw [M_ce_Check_L1] at h; refine aSR ?_; intro _; refine dr_XDChk ?_; refine aSq ?_; refine aCd ?_; intro _; refine spl h (fun c12 h => ?_) (fun c12 h => ?_)
          · refine aSk ?_; refine aSq ?_; refine aBk ?_; refine aSR ?_; intro _; obtain ⟨y21, w13, q14, h⟩ := ix_ok h; refine Exists.intro (cN y21) (And.intro (map_at' w13) ?_); intro _; refine pr_XDChk ?_; refine dr_XDChk ?_; refine aSR ?_; intro _; obtain ⟨z22, u15, h⟩ := ob1_ok h; refine cl_XDChk rfl (A_ce_formed y21.1 u15) ?_; intro _; refine dr_XDChk ?_; refine aCd ?_; intro _; refine spl h (fun c16 h => ?_) (fun c16 h => ?_)
            · refine aSR ?_; intro _; refine dr_XDChk ?_; refine aRt ?_; have j17 := Option.some.inj h; subst j17; replace h := (osum_r hK9); intro _; obtain rfl := inj1 h; exact ca_XDChk
            · refine aSk ?_; refine aRg ?_; intro _; refine dr_XDChk ?_; refine ⟨(k20, (IntKind.i64.wrap (x10.2 + 1))), h, ltS m11, ?_⟩; exact ca_XDChk
          · refine aEx ?_; refine ⟨(), (Option.some.inj h).symm, ?_⟩; exact ca_XDChk
      · rintro _ ho; have ho := ho.symm; subst ho; intro _; replace h := (osum_l hK9); refine aSq ?_; refine aSR ?_; intro _; refine dr_XDChk ?_; refine aBk ?_; refine awp_loop (α := Nat × Int) (fun x => mkS 68 [(1, .ptr 1 0 0 0), (35, .sl 2 (a0.Nogoods.map cN)), (36, .c (.int .i64 ((a0.Nogoods.map cN).length : Int))), (37, .c (.int .i64 x.2))] [(1, ⟨29, 2, true, [[.c (.int .i64 a0.Bound), .sl 2 (a0.Nogoods.map cN)]]⟩)]) (fun x => M_ce_Check_L2 a0 x.1 x.2 = some r1) (fun x => x.1) ((((a0.Nogoods.map cN).length : Int)).toNat + 1, 0) h ?_ ?_
        · exact ca_XDChk
        · intro x18 h; intro _; obtain ⟨k27, m19, h⟩ := succ_of (f := fun n => M_ce_Check_L2 a0 n x18.2) rfl h; replace h : M_ce_Check_L2 a0 (k27 + 1) x18.2 = some r1 := h; rw [M_ce_Check_L2] at h; refine aSR ?_; intro _; refine dr_XDChk ?_; refine aSq ?_; refine aCd ?_; intro _; refine spl h (fun c20 h => ?_) (fun c20 h => ?_)
          · refine aSk ?_; refine aSq ?_; refine aBk ?_; refine aSR ?_; intro _; obtain ⟨y28, w21, q22, h⟩ := ix_ok h; refine Exists.intro (cN y28) (And.intro (map_at' w21) ?_); intro _; refine pr_XDChk ?_; refine dr_XDChk ?_; refine aSR ?_; intro _; refine spf h (fun c23 h => ?_) (fun c23 h => ?_)
            · intro _; refine spl h (fun c24 h => ?_) (fun c24 h => ?_)
              · intro _; refine spf h (fun c25 h => ?_) (fun c25 h => ?_)
                · intro _; refine spl h (fun c26 h => ?_) (fun c26 h => ?_)
                  · intro _; refine dr_XDChk ?_; refine aCd ?_; intro _; refine spl h (fun c27 h => ?_) (fun c27 h => ?_)
                    · refine aSR ?_; intro _; refine dr_XDChk ?_; refine aRt ?_; intro _; obtain rfl := inj1 h; exact ca_XDChk
                    · refine aSk ?_; refine aRg ?_; intro _; refine dr_XDChk ?_; refine ⟨(k27, (IntKind.i64.wrap (x18.2 + 1))), h, ltS m19, ?_⟩; exact ca_XDChk
                  · intro _; refine dr_XDChk ?_; refine aCd ?_; intro _; refine litF ?_; refine aSk ?_; refine aRg ?_; intro _; refine dr_XDChk ?_; refine ⟨(k27, (IntKind.i64.wrap (x18.2 + 1))), h, ltS m19, ?_⟩; exact ca_XDChk
                · intro _; refine dr_XDChk ?_; refine aCd ?_; intro _; refine litT ?_; refine aSR ?_; intro _; refine dr_XDChk ?_; refine aRt ?_; intro _; obtain rfl := inj1 h; exact ca_XDChk
              · intro _; refine spl h (fun c28 h => ?_) (fun c28 h => ?_)
                · intro _; refine dr_XDChk ?_; refine aCd ?_; intro _; refine spl h (fun c29 h => ?_) (fun c29 h => ?_)
                  · refine aSR ?_; intro _; refine dr_XDChk ?_; refine aRt ?_; intro _; obtain rfl := inj1 h; exact ca_XDChk
                  · refine aSk ?_; refine aRg ?_; intro _; refine dr_XDChk ?_; refine ⟨(k27, (IntKind.i64.wrap (x18.2 + 1))), h, ltS m19, ?_⟩; exact ca_XDChk
                · intro _; refine dr_XDChk ?_; refine aCd ?_; intro _; refine litF ?_; refine aSk ?_; refine aRg ?_; intro _; refine dr_XDChk ?_; refine ⟨(k27, (IntKind.i64.wrap (x18.2 + 1))), h, ltS m19, ?_⟩; exact ca_XDChk
            · intro _; refine dr_XDChk ?_; refine aCd ?_; intro _; refine litT ?_; refine aSR ?_; intro _; refine dr_XDChk ?_; refine aRt ?_; intro _; obtain rfl := inj1 h; exact ca_XDChk
          · refine aEx ?_; refine aSR ?_; intro _; refine dr_XDChk ?_; refine aRt ?_; intro _; obtain rfl := inj1 h; exact ca_XDChk
def M_ce_Proper_L1 (a0 : List Int) (a1 : GCertificate) : Nat → Int → Option (Er)
  | 0, _ => none
  | k9 + 1, v8 =>
    sel (decide (v8 < ((a1.Nogoods.map cN).length : Int)))
     (ix a1.Nogoods v8 (fun y10 =>
       ob1 (M_task_Facts a0 y10.1) (fun z11 =>
        sel (!z11)
         (some (Er.no 2))
         (M_ce_Proper_L1 a0 a1 k9 (IntKind.i64.wrap (v8 + 1))))))
     (some Er.nil)
def M_ce_Proper (a0 : List Int) (a1 : GCertificate) : Option (Er) :=
  ob1 (M_ce_Check a1) (fun z1 =>
   erM z1
    (M_ce_Proper_L1 a0 a1 ((((a1.Nogoods.map cN).length : Int)).toNat + 1) 0)
    (fun e2 => some (Er.no e2)))
theorem A_ce_Proper (a0 : List Int) (a1 : GCertificate) {r1 : Er} (h : M_ce_Proper a0 a1 = some r1) : ACall cx 34 [.sl 1 (a0.map cI), .agg [.c (.int .i64 a1.Bound), .sl 2 (a1.Nogoods.map cN)]] (eA r1) := by
  refine aOf Tryz.func34 rfl (by decide) rfl (Nat.le_of_ble_eq_true rfl) ?_; intro _; unfold M_ce_Proper at h; refine aSR ?_; intro _; refine dr_XDChk ?_; refine aSq ?_; refine aSR ?_; intro _; obtain ⟨z1, u1, h⟩ := ob1_ok h; refine cl_XDChk rfl (A_ce_Check a1 u1) ?_; intro _; refine dr_XDChk ?_; refine aSq ?_; rcases z1 with _ | e2
  · replace h := erM_nil h; refine aRg ?_; intro _; refine dr_XDChk ?_; refine aCd ?_; intro _; refine litF ?_; refine aSk ?_; refine aSq ?_; refine aSR ?_; intro _; refine dr_XDChk ?_; refine aBk ?_; refine awp_loop (α := Nat × Int) (fun x => mkS 27 [(0, .sl 1 (a0.map cI)), (14, .sl 2 (a1.Nogoods.map cN)), (15, .c (.int .i64 ((a1.Nogoods.map cN).length : Int))), (16, .c (.int .i64 x.2))] []) (fun x => M_ce_Proper_L1 a0 a1 x.1 x.2 = some r1) (fun x => x.1) ((((a1.Nogoods.map cN).length : Int)).toNat + 1, 0) h ?_ ?_
    · exact ca_XDChk
    · intro x2 h; intro _; obtain ⟨k9, m3, h⟩ := succ_of (f := fun n => M_ce_Proper_L1 a0 a1 n x2.2) rfl h; replace h : M_ce_Proper_L1 a0 a1 (k9 + 1) x2.2 = some r1 := h; rw [M_ce_Proper_L1] at h; refine aSR ?_; intro _; refine dr_XDChk ?_; refine aSq ?_; refine aCd ?_; intro _; refine spl h (fun c4 h => ?_) (fun c4 h => ?_)
      · refine aSk ?_; refine aSq ?_; refine aBk ?_; refine aSR ?_; intro _; obtain ⟨y10, w5, q6, h⟩ := ix_ok h; refine Exists.intro (cN y10) (And.intro (map_at' w5) ?_); intro _; refine pr_XDChk ?_; refine dr_XDChk ?_; refine aSR ?_; intro _; obtain ⟨z11, u7, h⟩ := ob1_ok h; refine cl_XDChk rfl (A_task_Facts a0 y10.1 u7) ?_; intro _; refine dr_XDChk ?_; refine aCd ?_; intro _; refine spl h (fun c8 h => ?_) (fun c8 h => ?_)
        · refine aSR ?_; intro _; refine dr_XDChk ?_; refine aRt ?_; intro _; obtain rfl := inj1 h; exact ca_XDChk
        · refine aSk ?_; refine aRg ?_; intro _; refine dr_XDChk ?_; refine ⟨(k9, (IntKind.i64.wrap (x2.2 + 1))), h, ltS m3, ?_⟩; exact ca_XDChk
      · refine aEx ?_; refine aSR ?_; intro _; refine dr_XDChk ?_; refine aRt ?_; intro _; obtain rfl := inj1 h; exact ca_XDChk
  · replace h := erM_no h; refine aRg ?_; intro _; refine dr_XDChk ?_; refine aCd ?_; intro _; refine litT ?_; refine aSR ?_; intro _; refine dr_XDChk ?_; refine aRt ?_; intro _; obtain rfl := inj1 h; exact ca_XDChk
def M_ck_counting_L1 (a0 : GChecker) (a1 : Int) : Nat → Int → (List (List Fact)) → Option (List (List Fact))
  | 0, _, _ => none
  | k7 + 1, v5, v6 =>
    sel (decide (v5 < ((a0.c.Nogoods.map cN).length : Int)))
     (ix a0.c.Nogoods v5 (fun y8 =>
       sel (decide (y8.2 ≤ a1))
        (grd ((v6.length + 1) * 24 ≤ 140737488355328) (M_ck_counting_L1 a0 a1 k7 (IntKind.i64.wrap (v5 + 1)) (v6 ++ [y8.1])))
        (M_ck_counting_L1 a0 a1 k7 (IntKind.i64.wrap (v5 + 1)) v6)))
     (grd (v6.length ≤ 140737488355328) (some v6))
def M_ck_counting (a0 : GChecker) (a1 : Int) : Option (List (List Fact)) :=
  M_ck_counting_L1 a0 a1 ((((a0.c.Nogoods.map cN).length : Int)).toNat + 1) 0 []
theorem A_ck_counting (a0 : GChecker) (a1 : Int) {r1 : List (List Fact)} (h : M_ck_counting a0 a1 = some r1) : ACallG cx 62 [.ptr 29 0 0 0, .c (.int .i64 a1)] [(29, ⟨73, 7, true, [[.sl 1 (a0.t.Vars.map cI), .sl 1 (a0.t.Init.map cI), .sl 2 (a0.t.Goal.map cF), .sl 4 (a0.t.Ops.map cGOp), .c (.int .i64 a0.c.Bound), .sl 2 (a0.c.Nogoods.map cN), .c (.int .i64 a0.steps)]]⟩)] [29] (.sl 1 (r1.map cL_cF)) [(29, ⟨73, 7, true, [[.sl 1 (a0.t.Vars.map cI), .sl 1 (a0.t.Init.map cI), .sl 2 (a0.t.Goal.map cF), .sl 4 (a0.t.Ops.map cGOp), .c (.int .i64 a0.c.Bound), .sl 2 (a0.c.Nogoods.map cN), .c (.int .i64 a0.steps)]]⟩)] := by
  refine acallg_of 31 Tryz.func62 rfl (by decide) rfl (Nat.le_of_ble_eq_true rfl) rfl rfl ?_; intro _; unfold M_ck_counting at h; refine aSR ?_; intro _; refine dr_XDChk ?_; refine aSR ?_; intro _; refine dr_XDChk ?_; refine aSq ?_; refine aSR ?_; intro _; refine dr_XDChk ?_; refine aBk ?_; refine awp_loop (α := Nat × Int × (List (List Fact))) (fun x => mkG 29 31 [(1, .c (.int .i64 a1)), (5, .own 26 0 0 x.2.2.length), (12, .sl 2 (a0.c.Nogoods.map cN)), (13, .c (.int .i64 ((a0.c.Nogoods.map cN).length : Int))), (14, .c (.int .i64 x.2.1))] [(26, ⟨23, 1, false, x.2.2.map cL_cF⟩), (29, ⟨73, 7, true, [[.sl 1 (a0.t.Vars.map cI), .sl 1 (a0.t.Init.map cI), .sl 2 (a0.t.Goal.map cF), .sl 4 (a0.t.Ops.map cGOp), .c (.int .i64 a0.c.Bound), .sl 2 (a0.c.Nogoods.map cN), .c (.int .i64 a0.steps)]]⟩)]) (fun x => M_ck_counting_L1 a0 a1 x.1 x.2.1 x.2.2 = some r1) (fun x => x.1) ((((a0.c.Nogoods.map cN).length : Int)).toNat + 1, 0, []) h ?_ ?_
  · exact ca_XDChk
  · intro x1 h; intro _; obtain ⟨k7, m2, h⟩ := succ_of (f := fun n => M_ck_counting_L1 a0 a1 n x1.2.1 x1.2.2) rfl h; replace h : M_ck_counting_L1 a0 a1 (k7 + 1) x1.2.1 x1.2.2 = some r1 := h; rw [M_ck_counting_L1] at h; refine aSR ?_; intro _; refine dr_XDChk ?_; refine aSq ?_; refine aCd ?_; intro _; refine spl h (fun c3 h => ?_) (fun c3 h => ?_)
    · refine aSk ?_; refine aSq ?_; refine aBk ?_; refine aSR ?_; intro _; obtain ⟨y8, w4, q5, h⟩ := ix_ok h; refine Exists.intro (cN y8) (And.intro (map_at' w4) ?_); intro _; refine pr_XDChk ?_; refine dr_XDChk ?_; refine aSR ?_; intro _; refine dr_XDChk ?_; refine aCd ?_; intro _; refine spl h (fun c6 h => ?_) (fun c6 h => ?_)
      · refine aRg ?_; intro _; obtain ⟨q7, h⟩ := grd_ok h; refine pl_XDChk ?_; refine pl_XDChk ?_; refine And.intro (by first | with_reducible assumption | (show (x1.2.2.length + 1) * 24 ≤ 140737488355328; with_reducible assumption) | omega | (simp; omega)) ?_; refine pe_XDChk ?_; refine dr_XDChk ?_; refine aRg ?_; intro _; refine dr_XDChk ?_; refine ⟨(k7, (IntKind.i64.wrap (x1.2.1 + 1)), (x1.2.2 ++ [y8.1])), h, ltS m2, ?_⟩; exact ca_XDChk
      · refine aSk ?_; refine aRg ?_; intro _; refine dr_XDChk ?_; refine ⟨(k7, (IntKind.i64.wrap (x1.2.1 + 1)), x1.2.2), h, ltS m2, ?_⟩; exact ca_XDChk
    · refine aEx ?_; refine aSR ?_; intro _; refine dr_XDChk ?_; refine aRt ?_; obtain ⟨q8, h⟩ := grd_ok h; intro _; obtain rfl := inj1 h; all_goals (refine Exists.intro [] (And.intro rfl (And.intro ?_ ?_))); all_goals (exact zg_XDChk)
def M_ck_covered (g : Nat) (a0 : GChecker) (a1 : List Fact) (a2 : Int) : Option (Bool × Er × GChecker) :=
  ob1 (M_ck_counting a0 a2) (fun z1 =>
   ob3 (M_p_Covered g a0.t.Vars a1 z1 a0.steps) (fun z2 z3 z4 =>
    erM z4
     (some (z2, Er.nil, { t := a0.t, c := a0.c, steps := (IntKind.i64.wrap (a0.steps - z3)) : GChecker }))
     (fun e5 => some (false, (Er.no e5), a0))))
theorem A_ck_covered (g : Nat) (a0 : GChecker) (a1 : List Fact) (a2 : Int) {r1 : Bool} {r2 : Er} {r3 : GChecker} (h : M_ck_covered g a0 a1 a2 = some (r1, r2, r3)) : ACallG cx 36 [.ptr 41 0 0 0, .sl 2 (a1.map cF), .c (.int .i64 a2)] [(41, ⟨73, 7, true, [[.sl 1 (a0.t.Vars.map cI), .sl 1 (a0.t.Init.map cI), .sl 2 (a0.t.Goal.map cF), .sl 4 (a0.t.Ops.map cGOp), .c (.int .i64 a0.c.Bound), .sl 2 (a0.c.Nogoods.map cN), .c (.int .i64 a0.steps)]]⟩)] [41] (.tup [.c (.bool r1), eA r2]) [(41, ⟨73, 7, true, [[.sl 1 (r3.t.Vars.map cI), .sl 1 (r3.t.Init.map cI), .sl 2 (r3.t.Goal.map cF), .sl 4 (r3.t.Ops.map cGOp), .c (.int .i64 r3.c.Bound), .sl 2 (r3.c.Nogoods.map cN), .c (.int .i64 r3.steps)]]⟩)] := by
  refine acallg_of 44 Tryz.func36 rfl (by decide) rfl (Nat.le_of_ble_eq_true rfl) rfl rfl ?_; intro _; unfold M_ck_covered at h; refine aSR ?_; intro _; refine dr_XDChk ?_; refine aSR ?_; intro _; obtain ⟨z1, u1, h⟩ := ob1_ok h; refine clk_XDChk [(29, 41)] [(41, ⟨0, some ⟨73, 7, true, [[.sl 1 (a0.t.Vars.map cI), .sl 1 (a0.t.Init.map cI), .sl 2 (a0.t.Goal.map cF), .sl 4 (a0.t.Ops.map cGOp), .c (.int .i64 a0.c.Bound), .sl 2 (a0.c.Nogoods.map cN), .c (.int .i64 a0.steps)]]⟩⟩)] (.sl 1 (z1.map cL_cF)) rfl rfl (A_ck_counting a0 a2 u1) ?_; intro _; obtain ⟨z2, z3, z4, u2, h⟩ := ob3_ok h; refine cl_XDChk rfl (A_p_Covered g a0.t.Vars a1 z1 a0.steps u2) ?_; intro _; refine dr_XDChk ?_; refine aSq ?_; refine aSq ?_; rcases z4 with _ | e5
  · replace h := erM_nil h; refine aRg ?_; intro _; refine dr_XDChk ?_; refine aCd ?_; intro _; refine litF ?_; refine aSk ?_; refine aSR ?_; intro _; refine dr_XDChk ?_; refine aSR ?_; intro _; refine dr_XDChk ?_; refine aRt ?_; intro _; obtain ⟨rfl, rfl, rfl⟩ := inj3 h; all_goals (refine Exists.intro [] (And.intro rfl (And.intro ?_ ?_))); all_goals (exact zg_XDChk)
  · replace h := erM_no h; refine aRg ?_; intro _; refine dr_XDChk ?_; refine aCd ?_; intro _; refine litT ?_; refine aSR ?_; intro _; refine dr_XDChk ?_; refine aRt ?_; intro _; obtain ⟨rfl, rfl, rfl⟩ := inj3 h; all_goals (refine Exists.intro [] (And.intro rfl (And.intro ?_ ?_))); all_goals (exact zg_XDChk)
def M_ck_step_L1 (g : Nat) (v2 : Int) (z7 : List (List Fact)) : Nat → Int → (List Int) → (List Int) → (List Fact) → (List GOp) → Int → (List Nogood) → Int → Option (Er × GChecker)
  | 0, _, _, _, _, _, _, _, _ => none
  | k36 + 1, v28, v29, v30, v31, v32, v33, v34, v35 =>
    sel (decide (v28 < ((z7.map cL_cF).length : Int)))
     (ix z7 v28 (fun y37 =>
       ob3 (M_ck_covered g ({ t := { Vars := v29, Init := v30, Goal := v31, Ops := v32 : GTask }, c := { Bound := v33, Nogoods := v34 : GCertificate }, steps := v35 : GChecker }) y37 v2) (fun z38 z39 c40 =>
        erM z39
         (sel (!z38)
           (some ((Er.no 19), c40))
           (M_ck_step_L1 g v2 z7 k36 (IntKind.i64.wrap (v28 + 1)) c40.t.Vars c40.t.Init c40.t.Goal c40.t.Ops c40.c.Bound c40.c.Nogoods c40.steps))
         (fun e41 => some ((Er.no e41), c40)))))
     (some (Er.nil, { t := { Vars := v29, Init := v30, Goal := v31, Ops := v32 : GTask }, c := { Bound := v33, Nogoods := v34 : GCertificate }, steps := v35 : GChecker }))
def M_ck_step (g : Nat) (a0 : GChecker) (a1 : Nogood) (a2 : Int) : Option (Er × GChecker) :=
  ob1 (sel (decide (a0.c.Bound ≥ 0))
    (ix a0.t.Ops a2 (fun y6 =>
      sel (decide ((IntKind.i64.wrap (a1.2 + y6.Cost)) ≥ a0.c.Bound))
       (some (.inr (Er.nil, a0)))
       (some (.inl (IntKind.i64.wrap (a1.2 + y6.Cost))))))
    (some (.inl 0)) : Option (Int ⊕ (Er × GChecker)))
   (osum
   (fun v2 => ob2 (M_g_Regress g a0.t a2 a1.1) (fun z7 z8 =>
      erM z8
       (M_ck_step_L1 g v2 z7 ((((z7.map cL_cF).length : Int)).toNat + 1) 0 a0.t.Vars a0.t.Init a0.t.Goal a0.t.Ops a0.c.Bound a0.c.Nogoods a0.steps)
       (fun e9 => some ((Er.no e9), a0))))
   (fun (r3, r4) => some (r3, r4)))
theorem A_ck_step (g : Nat) (a0 : GChecker) (a1 : Nogood) (a2 : Int) {r1 : Er} {r2 : GChecker} (h : M_ck_step g a0 a1 a2 = some (r1, r2)) : ACallG cx 37 [.ptr 73 0 0 0, .agg [.sl 2 (a1.1.map cF), .c (.int .i64 a1.2)], .c (.int .i64 a2)] [(73, ⟨73, 7, true, [[.sl 1 (a0.t.Vars.map cI), .sl 1 (a0.t.Init.map cI), .sl 2 (a0.t.Goal.map cF), .sl 4 (a0.t.Ops.map cGOp), .c (.int .i64 a0.c.Bound), .sl 2 (a0.c.Nogoods.map cN), .c (.int .i64 a0.steps)]]⟩)] [73] (eA r1) [(73, ⟨73, 7, true, [[.sl 1 (r2.t.Vars.map cI), .sl 1 (r2.t.Init.map cI), .sl 2 (r2.t.Goal.map cF), .sl 4 (r2.t.Ops.map cGOp), .c (.int .i64 r2.c.Bound), .sl 2 (r2.c.Nogoods.map cN), .c (.int .i64 r2.steps)]]⟩)] := by
  refine acallg_of 76 Tryz.func37 rfl (by decide) rfl (Nat.le_of_ble_eq_true rfl) rfl rfl ?_; intro _; unfold M_ck_step at h; refine aSR ?_; intro _; refine dr_XDChk ?_; refine aSR ?_; intro _; refine dr_XDChk ?_; obtain ⟨o1, h, hK2⟩ := ob1_ok h; refine awp_cut (α := Int) (fun v2 => mkG 73 76 [(0, .ptr 73 0 0 0), (2, .c (.int .i64 a2)), (4, .ptr 4 0 0 0), (7, .c (.int .i64 v2))] [(4, ⟨51, 2, true, [[.sl 2 (a1.1.map cF), .c (.int .i64 a1.2)]]⟩), (73, ⟨73, 7, true, [[.sl 1 (a0.t.Vars.map cI), .sl 1 (a0.t.Init.map cI), .sl 2 (a0.t.Goal.map cF), .sl 4 (a0.t.Ops.map cGOp), .c (.int .i64 a0.c.Bound), .sl 2 (a0.c.Nogoods.map cN), .c (.int .i64 a0.steps)]]⟩)]) (fun v => o1 = (.inl v)) ?_ ?_
  · refine aSR ?_; intro _; refine dr_XDChk ?_; refine aCd ?_; intro _; refine spl h (fun c3 h => ?_) (fun c3 h => ?_)
    · refine aSR ?_; intro _; obtain ⟨y6, w4, q5, h⟩ := ix_ok h; refine Exists.intro (cGOp y6) (And.intro (map_at' w4) ?_); intro _; refine pr_XDChk ?_; refine dr_XDChk ?_; refine aSR ?_; intro _; refine dr_XDChk ?_; refine aCd ?_; intro _; refine spl h (fun c6 h => ?_) (fun c6 h => ?_)
      · refine aSR ?_; intro _; refine dr_XDChk ?_; refine aRt ?_; have j7 := Option.some.inj h; subst j7; replace h := (osum_r hK2); intro _; obtain ⟨rfl, rfl⟩ := inj2 h; all_goals (refine Exists.intro [] (And.intro rfl (And.intro ?_ ?_))); all_goals (exact zg_XDChk)
      · refine aSk ?_; refine ⟨(IntKind.i64.wrap (a1.2 + y6.Cost)), (Option.some.inj h).symm, ?_⟩; exact ca_XDChk
    · refine aSk ?_; refine ⟨0, (Option.some.inj h).symm, ?_⟩; exact ca_XDChk
  · rintro v2 ho; have ho := ho.symm; subst ho; intro _; replace h := (osum_l hK2); refine aSR ?_; intro _; obtain ⟨z7, z8, u8, h⟩ := ob2_ok h; refine cl_XDChk rfl (A_g_Regress g a0.t a2 a1.1 u8) ?_; intro _; refine dr_XDChk ?_; refine aSq ?_; refine aSq ?_; rcases z8 with _ | e9
    · replace h := erM_nil h; refine aRg ?_; intro _; refine dr_XDChk ?_; refine aCd ?_; intro _; refine litF ?_; refine aSk ?_; refine aSq ?_; refine aSR ?_; intro _; refine dr_XDChk ?_; refine aBk ?_; refine awp_loop (α := Nat × Int × (List Int) × (List Int) × (List Fact) × (List GOp) × Int × (List Nogood) × Int) (fun x => mkG 73 76 [(0, .ptr 73 0 0 0), (7, .c (.int .i64 v2)), (53, .sl 1 (z7.map cL_cF)), (54, .c (.int .i64 ((z7.map cL_cF).length : Int))), (55, .c (.int .i64 x.2.1))] [(73, ⟨73, 7, true, [[.sl 1 (x.2.2.1.map cI), .sl 1 (x.2.2.2.1.map cI), .sl 2 (x.2.2.2.2.1.map cF), .sl 4 (x.2.2.2.2.2.1.map cGOp), .c (.int .i64 x.2.2.2.2.2.2.1), .sl 2 (x.2.2.2.2.2.2.2.1.map cN), .c (.int .i64 x.2.2.2.2.2.2.2.2)]]⟩)]) (fun x => M_ck_step_L1 g v2 z7 x.1 x.2.1 x.2.2.1 x.2.2.2.1 x.2.2.2.2.1 x.2.2.2.2.2.1 x.2.2.2.2.2.2.1 x.2.2.2.2.2.2.2.1 x.2.2.2.2.2.2.2.2 = some (r1, r2)) (fun x => x.1) ((((z7.map cL_cF).length : Int)).toNat + 1, 0, a0.t.Vars, a0.t.Init, a0.t.Goal, a0.t.Ops, a0.c.Bound, a0.c.Nogoods, a0.steps) h ?_ ?_
      · exact ca_XDChk
      · intro x9 h; intro _; obtain ⟨k36, m10, h⟩ := succ_of (f := fun n => M_ck_step_L1 g v2 z7 n x9.2.1 x9.2.2.1 x9.2.2.2.1 x9.2.2.2.2.1 x9.2.2.2.2.2.1 x9.2.2.2.2.2.2.1 x9.2.2.2.2.2.2.2.1 x9.2.2.2.2.2.2.2.2) rfl h; replace h : M_ck_step_L1 g v2 z7 (k36 + 1) x9.2.1 x9.2.2.1 x9.2.2.2.1 x9.2.2.2.2.1 x9.2.2.2.2.2.1 x9.2.2.2.2.2.2.1 x9.2.2.2.2.2.2.2.1 x9.2.2.2.2.2.2.2.2 = some (r1, r2) := h; rw [M_ck_step_L1] at h; refine aSR ?_; intro _; refine dr_XDChk ?_; refine aSq ?_; refine aCd ?_; intro _; refine spl h (fun c11 h => ?_) (fun c11 h => ?_)
        · refine aSk ?_; refine aSq ?_; refine aBk ?_; refine aSR ?_; intro _; obtain ⟨y37, w12, q13, h⟩ := ix_ok h; refine Exists.intro (cL_cF y37) (And.intro (map_at' w12) ?_); intro _; refine pr_XDChk ?_; refine dr_XDChk ?_; refine aSR ?_; intro _; obtain ⟨z38, z39, c40, u14, h⟩ := ob3_ok h; refine clg_XDChk [(41, 73)] [] [] [(73, ⟨0, some ⟨73, 7, true, [[.sl 1 (c40.t.Vars.map cI), .sl 1 (c40.t.Init.map cI), .sl 2 (c40.t.Goal.map cF), .sl 4 (c40.t.Ops.map cGOp), .c (.int .i64 c40.c.Bound), .sl 2 (c40.c.Nogoods.map cN), .c (.int .i64 c40.steps)]]⟩⟩)] (.tup [.c (.bool z38), eA z39]) rfl rfl (A_ck_covered g ({ t := { Vars := x9.2.2.1, Init := x9.2.2.2.1, Goal := x9.2.2.2.2.1, Ops := x9.2.2.2.2.2.1 : GTask }, c := { Bound := x9.2.2.2.2.2.2.1, Nogoods := x9.2.2.2.2.2.2.2.1 : GCertificate }, steps := x9.2.2.2.2.2.2.2.2 : GChecker }) y37 v2 u14) ?_; intro _; refine dr_XDChk ?_; refine aSq ?_; refine aSq ?_; rcases z39 with _ | e41
          · replace h := erM_nil h; refine aRg ?_; intro _; refine dr_XDChk ?_; refine aCd ?_; intro _; refine litF ?_; refine aSk ?_; refine aSR ?_; intro _; refine dr_XDChk ?_; refine aCd ?_; intro _; refine spl h (fun c15 h => ?_) (fun c15 h => ?_)
            · refine aSR ?_; intro _; refine dr_XDChk ?_; refine aRt ?_; intro _; obtain ⟨rfl, rfl⟩ := inj2 h; all_goals (refine Exists.intro [] (And.intro rfl (And.intro ?_ ?_))); all_goals (exact zg_XDChk)
            · refine aSk ?_; refine aRg ?_; intro _; refine dr_XDChk ?_; refine ⟨(k36, (IntKind.i64.wrap (x9.2.1 + 1)), c40.t.Vars, c40.t.Init, c40.t.Goal, c40.t.Ops, c40.c.Bound, c40.c.Nogoods, c40.steps), h, ltS m10, ?_⟩; exact ca_XDChk
          · replace h := erM_no h; refine aRg ?_; intro _; refine dr_XDChk ?_; refine aCd ?_; intro _; refine litT ?_; refine aSR ?_; intro _; refine dr_XDChk ?_; refine aRt ?_; intro _; obtain ⟨rfl, rfl⟩ := inj2 h; all_goals (refine Exists.intro [] (And.intro rfl (And.intro ?_ ?_))); all_goals (exact zg_XDChk)
        · refine aEx ?_; refine aSR ?_; intro _; refine dr_XDChk ?_; refine aRt ?_; intro _; obtain ⟨rfl, rfl⟩ := inj2 h; all_goals (refine Exists.intro [] (And.intro rfl (And.intro ?_ ?_))); all_goals (exact zg_XDChk)
    · replace h := erM_no h; refine aRg ?_; intro _; refine dr_XDChk ?_; refine aCd ?_; intro _; refine litT ?_; refine aSR ?_; intro _; refine dr_XDChk ?_; refine aRt ?_; intro _; obtain ⟨rfl, rfl⟩ := inj2 h; all_goals (refine Exists.intro [] (And.intro rfl (And.intro ?_ ?_))); all_goals (exact zg_XDChk)
def M_checker_Where_L1 (a0 : GTask) (a1 : GCertificate) : Nat → Int → Option (Unit ⊕ (Int × Int × Er))
  | 0, _ => none
  | k24 + 1, v23 =>
    sel (decide (v23 < ((a1.Nogoods.map cN).length : Int)))
     (ix a1.Nogoods v23 (fun y25 =>
       ob1 (M_task_Holds y25.1 a0.Init) (fun z26 =>
        sel z26
         (some (.inr ((-1), (-1), (Er.no 20))))
         (M_checker_Where_L1 a0 a1 k24 (IntKind.i64.wrap (v23 + 1))))))
     (some (.inl ()))
def M_checker_Where_L2 (a0 : GTask) (g : Nat) (v184 : Int) (y231 : Nogood) : Nat → Int → (List Int) → (List Int) → (List Fact) → (List GOp) → Int → (List Nogood) → Int → Option (((List Int) × (List Int) × (List Fact) × (List GOp) × Int × (List Nogood) × Int) ⊕ (Int × Int × Er))
  | 0, _, _, _, _, _, _, _, _ => none
  | k254 + 1, v246, v247, v248, v249, v250, v251, v252, v253 =>
    sel (decide (v246 < ((a0.Ops.map cGOp).length : Int)))
     (ob2 (M_ck_step g ({ t := { Vars := v247, Init := v248, Goal := v249, Ops := v250 : GTask }, c := { Bound := v251, Nogoods := v252 : GCertificate }, steps := v253 : GChecker }) y231 v246) (fun z255 c256 =>
       erM z255
        (M_checker_Where_L2 a0 g v184 y231 k254 (IntKind.i64.wrap (v246 + 1)) c256.t.Vars c256.t.Init c256.t.Goal c256.t.Ops c256.c.Bound c256.c.Nogoods c256.steps)
        (fun e257 => some (.inr (v184, v246, (Er.no e257))))))
     (some (.inl (v247, v248, v249, v250, v251, v252, v253)))
def M_checker_Where_L3 (a0 : GTask) (a1 : GCertificate) (g : Nat) : Nat → Int → (List Int) → (List Int) → (List Fact) → (List GOp) → Int → (List Nogood) → Int → Option (Int × Int × Er)
  | 0, _, _, _, _, _, _, _, _ => none
  | k192 + 1, v184, v185, v186, v187, v188, v189, v190, v191 =>
    sel (decide (v184 < ((a1.Nogoods.map cN).length : Int)))
     (ob1 (ix a1.Nogoods v184 (fun y231 =>
        M_checker_Where_L2 a0 g v184 y231 ((((a0.Ops.map cGOp).length : Int)).toNat + 1) 0 v185 v186 v187 v188 v189 v190 v191) : Option (((List Int) × (List Int) × (List Fact) × (List GOp) × Int × (List Nogood) × Int) ⊕ (Int × Int × Er)))
       (osum
       (fun (v220, v221, v222, v223, v224, v225, v226) => M_checker_Where_L3 a0 a1 g k192 (IntKind.i64.wrap (v184 + 1)) v220 v221 v222 v223 v224 v225 v226)
       (fun (r227, r228, r229) => some (r227, r228, r229))))
     (some ((-1), (-1), Er.nil))
def M_checker_Where (g : Nat) (a0 : GTask) (a1 : GCertificate) (a2 : Int) : Option (Int × Int × Er) :=
  ob1 (M_task_Check a0) (fun z1 =>
   erM z1
    (ob1 (M_ce_Proper a0.Vars a1) (fun z3 =>
      erM z3
       (ob1 (M_checker_Where_L1 a0 a1 ((((a1.Nogoods.map cN).length : Int)).toNat + 1) 0 : Option (Unit ⊕ (Int × Int × Er)))
         (osum
         (fun _ => ob1 (sel (a1.Bound != 0)
             (ob3 (M_ck_covered g ({ t := a0, c := a1, steps := (max 0 (min a2 1048576)) : GChecker }) a0.Goal 0) (fun z42 z43 c44 =>
               erM z43
                (sel (!z42)
                  (some (.inr ((-1), (-1), (Er.no 13))))
                  (some (.inl (c44.t.Vars, c44.t.Init, c44.t.Goal, c44.t.Ops, c44.c.Bound, c44.c.Nogoods, c44.steps))))
                (fun e45 => some (.inr ((-1), (-1), (Er.no e45))))))
             (some (.inl (a0.Vars, a0.Init, a0.Goal, a0.Ops, a1.Bound, a1.Nogoods, (max 0 (min a2 1048576))))) : Option (((List Int) × (List Int) × (List Fact) × (List GOp) × Int × (List Nogood) × Int) ⊕ (Int × Int × Er)))
            (osum
            (fun (v31, v32, v33, v34, v35, v36, v37) => M_checker_Where_L3 a0 a1 g ((((a1.Nogoods.map cN).length : Int)).toNat + 1) 0 v31 v32 v33 v34 v35 v36 v37)
            (fun (r38, r39, r40) => some (r38, r39, r40))))
         (fun (r14, r15, r16) => some (r14, r15, r16))))
       (fun e4 => some ((-1), (-1), (Er.no e4)))))
    (fun e2 => some ((-1), (-1), (Er.no e2))))
theorem A_checker_Where (g : Nat) (a0 : GTask) (a1 : GCertificate) (a2 : Int) {r1 : Int} {r2 : Int} {r3 : Er} (h : M_checker_Where g a0 a1 a2 = some (r1, r2, r3)) : ACall cx 14 [.agg [.sl 1 (a0.Vars.map cI), .sl 1 (a0.Init.map cI), .sl 2 (a0.Goal.map cF), .sl 4 (a0.Ops.map cGOp)], .agg [.c (.int .i64 a1.Bound), .sl 2 (a1.Nogoods.map cN)], .c (.int .i64 a2)] (.tup [.c (.int .i64 r1), .c (.int .i64 r2), eA r3]) := by
  refine aOf Tryz.func14 rfl (by decide) rfl (Nat.le_of_ble_eq_true rfl) ?_; intro _; unfold M_checker_Where at h; refine aSR ?_; intro _; refine dr_XDChk ?_; refine aSq ?_; refine aSR ?_; intro _; obtain ⟨z1, u1, h⟩ := ob1_ok h; refine cl_XDChk rfl (A_task_Check a0 u1) ?_; intro _; refine dr_XDChk ?_; refine aSq ?_; rcases z1 with _ | e2
  · replace h := erM_nil h; refine aRg ?_; intro _; refine dr_XDChk ?_; refine aCd ?_; intro _; refine litF ?_; refine aSk ?_; refine aSq ?_; refine aSR ?_; intro _; obtain ⟨z3, u2, h⟩ := ob1_ok h; refine cl_XDChk rfl (A_ce_Proper a0.Vars a1 u2) ?_; intro _; refine dr_XDChk ?_; refine aSq ?_; rcases z3 with _ | e4
    · replace h := erM_nil h; refine aRg ?_; intro _; refine dr_XDChk ?_; refine aCd ?_; intro _; refine litF ?_; refine aSk ?_; obtain ⟨o3, h, hK4⟩ := ob1_ok h; refine awp_cut (α := Unit) (fun _ => mkS 94 [(2, .c (.int .i64 a2)), (3, .ptr 3 0 0 0), (4, .ptr 4 0 0 0)] [(3, ⟨26, 4, true, [[.sl 1 (a0.Vars.map cI), .sl 1 (a0.Init.map cI), .sl 2 (a0.Goal.map cF), .sl 4 (a0.Ops.map cGOp)]]⟩), (4, ⟨29, 2, true, [[.c (.int .i64 a1.Bound), .sl 2 (a1.Nogoods.map cN)]]⟩)]) (fun v => o3 = (.inl v)) ?_ ?_
      · refine aSR ?_; intro _; refine dr_XDChk ?_; refine aBk ?_; refine awp_loop (α := Nat × Int) (fun x => mkS 94 [(2, .c (.int .i64 a2)), (3, .ptr 3 0 0 0), (4, .ptr 4 0 0 0), (33, .sl 2 (a1.Nogoods.map cN)), (34, .c (.int .i64 ((a1.Nogoods.map cN).length : Int))), (35, .c (.int .i64 x.2))] [(3, ⟨26, 4, true, [[.sl 1 (a0.Vars.map cI), .sl 1 (a0.Init.map cI), .sl 2 (a0.Goal.map cF), .sl 4 (a0.Ops.map cGOp)]]⟩), (4, ⟨29, 2, true, [[.c (.int .i64 a1.Bound), .sl 2 (a1.Nogoods.map cN)]]⟩)]) (fun x => M_checker_Where_L1 a0 a1 x.1 x.2 = some o3) (fun x => x.1) ((((a1.Nogoods.map cN).length : Int)).toNat + 1, 0) h ?_ ?_
        · exact ca_XDChk
        · intro x5 h; intro _; obtain ⟨k24, m6, h⟩ := succ_of (f := fun n => M_checker_Where_L1 a0 a1 n x5.2) rfl h; replace h : M_checker_Where_L1 a0 a1 (k24 + 1) x5.2 = some o3 := h; rw [M_checker_Where_L1] at h; refine aSR ?_; intro _; refine dr_XDChk ?_; refine aSq ?_; refine aCd ?_; intro _; refine spl h (fun c7 h => ?_) (fun c7 h => ?_)
          · refine aSk ?_; refine aSq ?_; refine aBk ?_; refine aSR ?_; intro _; obtain ⟨y25, w8, q9, h⟩ := ix_ok h; refine Exists.intro (cN y25) (And.intro (map_at' w8) ?_); intro _; refine pr_XDChk ?_; refine dr_XDChk ?_; refine aSR ?_; intro _; obtain ⟨z26, u10, h⟩ := ob1_ok h; refine cl_XDChk rfl (A_task_Holds y25.1 a0.Init u10) ?_; intro _; refine dr_XDChk ?_; refine aCd ?_; intro _; refine spl h (fun c11 h => ?_) (fun c11 h => ?_)
            · refine aSR ?_; intro _; refine dr_XDChk ?_; refine aRt ?_; have j12 := Option.some.inj h; subst j12; replace h := (osum_r hK4); intro _; obtain ⟨rfl, rfl, rfl⟩ := inj3 h; exact ca_XDChk
            · refine aSk ?_; refine aRg ?_; intro _; refine dr_XDChk ?_; refine ⟨(k24, (IntKind.i64.wrap (x5.2 + 1))), h, ltS m6, ?_⟩; exact ca_XDChk
          · refine aEx ?_; refine ⟨(), (Option.some.inj h).symm, ?_⟩; exact ca_XDChk
      · rintro _ ho; have ho := ho.symm; subst ho; intro _; replace h := (osum_l hK4); refine aSR ?_; intro _; refine ⟨_, lf_min rfl (Nat.le_of_ble_eq_true rfl) rfl rfl, ?_⟩; intro _; refine ⟨_, lf_max rfl (Nat.le_of_ble_eq_true rfl) rfl rfl, ?_⟩; intro _; refine dr_XDChk ?_; obtain ⟨o13, h, hK14⟩ := ob1_ok h; refine awp_cut (α := (List Int) × (List Int) × (List Fact) × (List GOp) × Int × (List Nogood) × Int) (fun (v31, v32, v33, v34, v35, v36, v37) => mkS 94 [(3, .ptr 3 0 0 0), (4, .ptr 4 0 0 0), (13, .ptr 52 0 0 0)] [(3, ⟨26, 4, true, [[.sl 1 (a0.Vars.map cI), .sl 1 (a0.Init.map cI), .sl 2 (a0.Goal.map cF), .sl 4 (a0.Ops.map cGOp)]]⟩), (4, ⟨29, 2, true, [[.c (.int .i64 a1.Bound), .sl 2 (a1.Nogoods.map cN)]]⟩), (52, ⟨73, 7, true, [[.sl 1 (v31.map cI), .sl 1 (v32.map cI), .sl 2 (v33.map cF), .sl 4 (v34.map cGOp), .c (.int .i64 v35), .sl 2 (v36.map cN), .c (.int .i64 v37)]]⟩)]) (fun v => o13 = (.inl v)) ?_ ?_
        · refine aSR ?_; intro _; refine dr_XDChk ?_; refine aCd ?_; intro _; refine spl h (fun c15 h => ?_) (fun c15 h => ?_)
          · refine aSR ?_; intro _; obtain ⟨z42, z43, c44, u16, h⟩ := ob3_ok h; refine clg_XDChk [(41, 52)] [] [] [(52, ⟨1, some ⟨73, 7, true, [[.sl 1 (c44.t.Vars.map cI), .sl 1 (c44.t.Init.map cI), .sl 2 (c44.t.Goal.map cF), .sl 4 (c44.t.Ops.map cGOp), .c (.int .i64 c44.c.Bound), .sl 2 (c44.c.Nogoods.map cN), .c (.int .i64 c44.steps)]]⟩⟩)] (.tup [.c (.bool z42), eA z43]) rfl rfl (A_ck_covered g ({ t := a0, c := a1, steps := (max 0 (min a2 1048576)) : GChecker }) a0.Goal 0 u16) ?_; intro _; refine dr_XDChk ?_; refine aSq ?_; refine aSq ?_; rcases z43 with _ | e45
            · replace h := erM_nil h; refine aRg ?_; intro _; refine dr_XDChk ?_; refine aCd ?_; intro _; refine litF ?_; refine aSk ?_; refine aSR ?_; intro _; refine dr_XDChk ?_; refine aCd ?_; intro _; refine spl h (fun c17 h => ?_) (fun c17 h => ?_)
              · refine aSR ?_; intro _; refine dr_XDChk ?_; refine aRt ?_; have j18 := Option.some.inj h; subst j18; replace h := (osum_r hK14); intro _; obtain ⟨rfl, rfl, rfl⟩ := inj3 h; exact ca_XDChk
              · refine aSk ?_; refine ⟨(c44.t.Vars, c44.t.Init, c44.t.Goal, c44.t.Ops, c44.c.Bound, c44.c.Nogoods, c44.steps), (Option.some.inj h).symm, ?_⟩; exact ca_XDChk
            · replace h := erM_no h; refine aRg ?_; intro _; refine dr_XDChk ?_; refine aCd ?_; intro _; refine litT ?_; refine aSR ?_; intro _; refine dr_XDChk ?_; refine aRt ?_; have j19 := Option.some.inj h; subst j19; replace h := (osum_r hK14); intro _; obtain ⟨rfl, rfl, rfl⟩ := inj3 h; exact ca_XDChk
          · refine aSk ?_; refine ⟨(a0.Vars, a0.Init, a0.Goal, a0.Ops, a1.Bound, a1.Nogoods, (max 0 (min a2 1048576))), (Option.some.inj h).symm, ?_⟩; exact ca_XDChk
        · rintro ⟨v31, v32, v33, v34, v35, v36, v37⟩ ho; have ho := ho.symm; subst ho; intro _; replace h := (osum_l hK14); refine aSq ?_; refine aSR ?_; intro _; refine dr_XDChk ?_; refine aBk ?_; refine awp_loop (α := Nat × Int × (List Int) × (List Int) × (List Fact) × (List GOp) × Int × (List Nogood) × Int) (fun x => mkS 94 [(3, .ptr 3 0 0 0), (13, .ptr 52 0 0 0), (70, .sl 2 (a1.Nogoods.map cN)), (71, .c (.int .i64 ((a1.Nogoods.map cN).length : Int))), (72, .c (.int .i64 x.2.1))] [(3, ⟨26, 4, true, [[.sl 1 (a0.Vars.map cI), .sl 1 (a0.Init.map cI), .sl 2 (a0.Goal.map cF), .sl 4 (a0.Ops.map cGOp)]]⟩), (52, ⟨73, 7, true, [[.sl 1 (x.2.2.1.map cI), .sl 1 (x.2.2.2.1.map cI), .sl 2 (x.2.2.2.2.1.map cF), .sl 4 (x.2.2.2.2.2.1.map cGOp), .c (.int .i64 x.2.2.2.2.2.2.1), .sl 2 (x.2.2.2.2.2.2.2.1.map cN), .c (.int .i64 x.2.2.2.2.2.2.2.2)]]⟩)]) (fun x => M_checker_Where_L3 a0 a1 g x.1 x.2.1 x.2.2.1 x.2.2.2.1 x.2.2.2.2.1 x.2.2.2.2.2.1 x.2.2.2.2.2.2.1 x.2.2.2.2.2.2.2.1 x.2.2.2.2.2.2.2.2 = some (r1, r2, r3)) (fun x => x.1) ((((a1.Nogoods.map cN).length : Int)).toNat + 1, 0, v31, v32, v33, v34, v35, v36, v37) h ?_ ?_
          · exact ca_XDChk
          · intro x20 h; intro _; obtain ⟨k192, m21, h⟩ := succ_of (f := fun n => M_checker_Where_L3 a0 a1 g n x20.2.1 x20.2.2.1 x20.2.2.2.1 x20.2.2.2.2.1 x20.2.2.2.2.2.1 x20.2.2.2.2.2.2.1 x20.2.2.2.2.2.2.2.1 x20.2.2.2.2.2.2.2.2) rfl h; replace h : M_checker_Where_L3 a0 a1 g (k192 + 1) x20.2.1 x20.2.2.1 x20.2.2.2.1 x20.2.2.2.2.1 x20.2.2.2.2.2.1 x20.2.2.2.2.2.2.1 x20.2.2.2.2.2.2.2.1 x20.2.2.2.2.2.2.2.2 = some (r1, r2, r3) := h; rw [M_checker_Where_L3] at h; refine aSR ?_; intro _; refine dr_XDChk ?_; refine aSq ?_; refine aCd ?_; intro _; refine spl h (fun c22 h => ?_) (fun c22 h => ?_)
            · refine aSk ?_; obtain ⟨o23, h, hK24⟩ := ob1_ok h; refine awp_cut (α := (List Int) × (List Int) × (List Fact) × (List GOp) × Int × (List Nogood) × Int) (fun (v220, v221, v222, v223, v224, v225, v226) => mkS 94 [(3, .ptr 3 0 0 0), (13, .ptr 52 0 0 0), (70, .sl 2 (a1.Nogoods.map cN)), (71, .c (.int .i64 ((a1.Nogoods.map cN).length : Int))), (72, .c (.int .i64 x20.2.1))] [(3, ⟨26, 4, true, [[.sl 1 (a0.Vars.map cI), .sl 1 (a0.Init.map cI), .sl 2 (a0.Goal.map cF), .sl 4 (a0.Ops.map cGOp)]]⟩), (52, ⟨73, 7, true, [[.sl 1 (v220.map cI), .sl 1 (v221.map cI), .sl 2 (v222.map cF), .sl 4 (v223.map cGOp), .c (.int .i64 v224), .sl 2 (v225.map cN), .c (.int .i64 v226)]]⟩)]) (fun v => o23 = (.inl v)) ?_ ?_
              · refine aBk ?_; refine aSR ?_; intro _; obtain ⟨y231, w25, q26, h⟩ := ix_ok h; refine Exists.intro (cN y231) (And.intro (map_at' w25) ?_); intro _; refine pr_XDChk ?_; refine dr_XDChk ?_; refine aSR ?_; intro _; refine dr_XDChk ?_; refine aBk ?_; refine awp_loop (α := Nat × Int × (List Int) × (List Int) × (List Fact) × (List GOp) × Int × (List Nogood) × Int) (fun x => mkS 94 [(3, .ptr 3 0 0 0), (13, .ptr 52 0 0 0), (16, .c (.int .i64 x20.2.1)), (17, .ptr 17 0 0 0), (70, .sl 2 (a1.Nogoods.map cN)), (71, .c (.int .i64 ((a1.Nogoods.map cN).length : Int))), (72, .c (.int .i64 x20.2.1)), (79, .c (.int .i64 ((a0.Ops.map cGOp).length : Int))), (80, .c (.int .i64 x.2.1))] [(3, ⟨26, 4, true, [[.sl 1 (a0.Vars.map cI), .sl 1 (a0.Init.map cI), .sl 2 (a0.Goal.map cF), .sl 4 (a0.Ops.map cGOp)]]⟩), (17, ⟨51, 2, true, [[.sl 2 (y231.1.map cF), .c (.int .i64 y231.2)]]⟩), (52, ⟨73, 7, true, [[.sl 1 (x.2.2.1.map cI), .sl 1 (x.2.2.2.1.map cI), .sl 2 (x.2.2.2.2.1.map cF), .sl 4 (x.2.2.2.2.2.1.map cGOp), .c (.int .i64 x.2.2.2.2.2.2.1), .sl 2 (x.2.2.2.2.2.2.2.1.map cN), .c (.int .i64 x.2.2.2.2.2.2.2.2)]]⟩)]) (fun x => M_checker_Where_L2 a0 g x20.2.1 y231 x.1 x.2.1 x.2.2.1 x.2.2.2.1 x.2.2.2.2.1 x.2.2.2.2.2.1 x.2.2.2.2.2.2.1 x.2.2.2.2.2.2.2.1 x.2.2.2.2.2.2.2.2 = some o23) (fun x => x.1) ((((a0.Ops.map cGOp).length : Int)).toNat + 1, 0, x20.2.2.1, x20.2.2.2.1, x20.2.2.2.2.1, x20.2.2.2.2.2.1, x20.2.2.2.2.2.2.1, x20.2.2.2.2.2.2.2.1, x20.2.2.2.2.2.2.2.2) h ?_ ?_
                · exact ca_XDChk
                · intro x27 h; intro _; obtain ⟨k254, m28, h⟩ := succ_of (f := fun n => M_checker_Where_L2 a0 g x20.2.1 y231 n x27.2.1 x27.2.2.1 x27.2.2.2.1 x27.2.2.2.2.1 x27.2.2.2.2.2.1 x27.2.2.2.2.2.2.1 x27.2.2.2.2.2.2.2.1 x27.2.2.2.2.2.2.2.2) rfl h; replace h : M_checker_Where_L2 a0 g x20.2.1 y231 (k254 + 1) x27.2.1 x27.2.2.1 x27.2.2.2.1 x27.2.2.2.2.1 x27.2.2.2.2.2.1 x27.2.2.2.2.2.2.1 x27.2.2.2.2.2.2.2.1 x27.2.2.2.2.2.2.2.2 = some o23 := h; rw [M_checker_Where_L2] at h; refine aSR ?_; intro _; refine dr_XDChk ?_; refine aSq ?_; refine aCd ?_; intro _; refine spl h (fun c29 h => ?_) (fun c29 h => ?_)
                  · refine aSk ?_; refine aSq ?_; refine aBk ?_; refine aSR ?_; intro _; refine dr_XDChk ?_; refine aSR ?_; intro _; obtain ⟨z255, c256, u30, h⟩ := ob2_ok h; refine clg_XDChk [(73, 52)] [] [] [(52, ⟨0, some ⟨73, 7, true, [[.sl 1 (c256.t.Vars.map cI), .sl 1 (c256.t.Init.map cI), .sl 2 (c256.t.Goal.map cF), .sl 4 (c256.t.Ops.map cGOp), .c (.int .i64 c256.c.Bound), .sl 2 (c256.c.Nogoods.map cN), .c (.int .i64 c256.steps)]]⟩⟩)] (eA z255) rfl rfl (A_ck_step g ({ t := { Vars := x27.2.2.1, Init := x27.2.2.2.1, Goal := x27.2.2.2.2.1, Ops := x27.2.2.2.2.2.1 : GTask }, c := { Bound := x27.2.2.2.2.2.2.1, Nogoods := x27.2.2.2.2.2.2.2.1 : GCertificate }, steps := x27.2.2.2.2.2.2.2.2 : GChecker }) y231 x27.2.1 u30) ?_; intro _; refine dr_XDChk ?_; refine aSq ?_; rcases z255 with _ | e257
                    · replace h := erM_nil h; refine aRg ?_; intro _; refine dr_XDChk ?_; refine aCd ?_; intro _; refine litF ?_; refine aSk ?_; refine aRg ?_; intro _; refine dr_XDChk ?_; refine ⟨(k254, (IntKind.i64.wrap (x27.2.1 + 1)), c256.t.Vars, c256.t.Init, c256.t.Goal, c256.t.Ops, c256.c.Bound, c256.c.Nogoods, c256.steps), h, ltS m28, ?_⟩; exact ca_XDChk
                    · replace h := erM_no h; refine aRg ?_; intro _; refine dr_XDChk ?_; refine aCd ?_; intro _; refine litT ?_; refine aSR ?_; intro _; refine dr_XDChk ?_; refine aRt ?_; have j31 := Option.some.inj h; subst j31; replace h := (osum_r hK24); intro _; obtain ⟨rfl, rfl, rfl⟩ := inj3 h; exact ca_XDChk
                  · refine aEx ?_; refine ⟨(x27.2.2.1, x27.2.2.2.1, x27.2.2.2.2.1, x27.2.2.2.2.2.1, x27.2.2.2.2.2.2.1, x27.2.2.2.2.2.2.2.1, x27.2.2.2.2.2.2.2.2), (Option.some.inj h).symm, ?_⟩; exact ca_XDChk
              · rintro ⟨v220, v221, v222, v223, v224, v225, v226⟩ ho; have ho := ho.symm; subst ho; intro _; replace h := (osum_l hK24); refine aRg ?_; intro _; refine dr_XDChk ?_; refine ⟨(k192, (IntKind.i64.wrap (x20.2.1 + 1)), v220, v221, v222, v223, v224, v225, v226), h, ltS m21, ?_⟩; exact ca_XDChk
            · refine aEx ?_; refine aSR ?_; intro _; refine dr_XDChk ?_; refine aRt ?_; intro _; obtain ⟨rfl, rfl, rfl⟩ := inj3 h; exact ca_XDChk
    · replace h := erM_no h; refine aRg ?_; intro _; refine dr_XDChk ?_; refine aCd ?_; intro _; refine litT ?_; refine aSR ?_; intro _; refine dr_XDChk ?_; refine aRt ?_; intro _; obtain ⟨rfl, rfl, rfl⟩ := inj3 h; exact ca_XDChk
  · replace h := erM_no h; refine aRg ?_; intro _; refine dr_XDChk ?_; refine aCd ?_; intro _; refine litT ?_; refine aSR ?_; intro _; refine dr_XDChk ?_; refine aRt ?_; intro _; obtain ⟨rfl, rfl, rfl⟩ := inj3 h; exact ca_XDChk
def M_checker_Verify (g : Nat) (a0 : GTask) (a1 : GCertificate) (a2 : Int) : Option (Er) :=
  ob3 (M_checker_Where g a0 a1 a2) (fun _ _ z3 =>
   some z3)
theorem A_checker_Verify (g : Nat) (a0 : GTask) (a1 : GCertificate) (a2 : Int) {r1 : Er} (h : M_checker_Verify g a0 a1 a2 = some r1) : ACall cx 16 [.agg [.sl 1 (a0.Vars.map cI), .sl 1 (a0.Init.map cI), .sl 2 (a0.Goal.map cF), .sl 4 (a0.Ops.map cGOp)], .agg [.c (.int .i64 a1.Bound), .sl 2 (a1.Nogoods.map cN)], .c (.int .i64 a2)] (eA r1) := by
  refine aOf Tryz.func16 rfl (by decide) rfl (Nat.le_of_ble_eq_true rfl) ?_; intro _; unfold M_checker_Verify at h; refine aSR ?_; intro _; refine dr_XDChk ?_; refine aSR ?_; intro _; obtain ⟨z1, z2, z3, u1, h⟩ := ob3_ok h; refine cl_XDChk rfl (A_checker_Where g a0 a1 a2 u1) ?_; intro _; refine dr_XDChk ?_; refine aSR ?_; intro _; refine dr_XDChk ?_; refine aRt ?_; intro _; obtain rfl := inj1 h; all_goals (cases z3); all_goals exact ca_XDChk
def M_l31_awake (g : Nat) : Option (Bool) :=
  ob1 (M_checker_Verify g ({ Vars := [2], Init := [0], Goal := [(0, 1)], Ops := [] : GTask }) ({ Bound := (-1), Nogoods := [([(0, 1)], 0)] : GCertificate }) 100) (fun z1 =>
   erM z1
    (ob1 (M_checker_Verify g ({ Vars := [2], Init := [0], Goal := [(0, 1)], Ops := [] : GTask }) ({ Bound := (-1), Nogoods := [] : GCertificate }) 100) (fun z3 =>
      ob1 (M_b_Is z3 13) (fun z4 =>
       some z4)))
    (fun _ => some false))
theorem A_l31_awake (g : Nat) {r1 : Bool} (h : M_l31_awake g = some r1) : ACall cx 12 [] (.c (.bool r1)) := by
  refine aOf Tryz.func12 rfl (by decide) rfl (Nat.le_of_ble_eq_true rfl) ?_; intro _; unfold M_l31_awake at h; refine aSR ?_; intro _; refine dr_XDChk ?_; refine aSR ?_; intro _; refine dr_XDChk ?_; refine aSR ?_; intro _; refine dr_XDChk ?_; refine aSR ?_; intro _; obtain ⟨z1, u1, h⟩ := ob1_ok h; refine clb_XDChk [3, 4, 6, 11] rfl rfl (A_checker_Verify g ({ Vars := [2], Init := [0], Goal := [(0, 1)], Ops := [] : GTask }) ({ Bound := (-1), Nogoods := [([(0, 1)], 0)] : GCertificate }) 100 u1) ?_; rcases z1 with _ | e2
  · replace h := erM_nil h; intro _; refine litT ?_; intro _; obtain ⟨z3, u2, h⟩ := ob1_ok h; refine clb_XDChk [3, 4, 6] rfl rfl (A_checker_Verify g ({ Vars := [2], Init := [0], Goal := [(0, 1)], Ops := [] : GTask }) ({ Bound := (-1), Nogoods := [] : GCertificate }) 100 u2) ?_; intro _; obtain ⟨z4, u3, h⟩ := ob1_ok h; refine cl_XDChk rfl (A_b_Is z3 13 u3) ?_; intro _; refine dr_XDChk ?_; refine aRt ?_; intro _; obtain rfl := inj1 h; exact ca_XDChk
  · replace h := erM_no h; intro _; refine litF ?_; intro _; refine dr_XDChk ?_; refine aRt ?_; intro _; obtain rfl := inj1 h; exact ca_XDChk
end Go.Proofs.YtcpajbglcgbolaaGreat.Am
namespace Go.Proofs.YtcpajbglcgbolaaGreat.Am
def M_ce_formed_L1_B (a0 : List Fact) (_y7 : Fact) (v5 : Int) : Unit → (Unit → Option (Bool)) → Option (Bool) := fun _ rc => ixv _y7 (fun y7 =>
       sel (decide (y7.1 < 0))
        (some false)
        (sel (decide (y7.1 ≥ 64))
          (some false)
          (sel (decide (y7.2 < 0))
            (some false)
            (sel (decide (y7.2 ≥ 64))
              (some false)
              (sel (decide (v5 > 0))
                (ix a0 (IntKind.i64.wrap (v5 - 1)) (fun y8 =>
                  sel (decide (y8.1 ≥ y7.1))
                   (some false)
                   (rc ())))
                (rc ()))))))
def M_ce_formed_L1_E (_ : List Fact) : Unit → Option (Bool) := fun _ => some true
theorem M_ce_formed_L1_eq (a0 : List Fact)  (hl : a0.length < 9223372036854775807) : M_ce_formed_L1 a0 (((a0.map cF).length : Int).toNat + 1) 0 = Rg (M_ce_formed_L1_B a0) (M_ce_formed_L1_E a0) a0 0 () := rg_e1 (L := fun k i _ => M_ce_formed_L1 a0 k i) hl (fun _ _ _ => rfl) ()
def M_ce_Check_L1_B (_ : GCertificate) (_y21 : Nogood) (_ : Int) : Unit → (Unit → Option (Unit ⊕ Er)) → Option (Unit ⊕ Er) := fun _ rc => ixv _y21 (fun y21 =>
       ob1 (M_ce_formed y21.1) (fun z22 =>
        sel (!z22)
         (some (.inr (Er.no 2)))
         (rc ())))
def M_ce_Check_L1_E (_ : GCertificate) : Unit → Option (Unit ⊕ Er) := fun _ => some (.inl ())
theorem M_ce_Check_L1_eq (a0 : GCertificate)  (hl : a0.Nogoods.length < 9223372036854775807) : M_ce_Check_L1 a0 (((a0.Nogoods.map cN).length : Int).toNat + 1) 0 = Rg (M_ce_Check_L1_B a0) (M_ce_Check_L1_E a0) a0.Nogoods 0 () := rg_e1 (L := fun k i _ => M_ce_Check_L1 a0 k i) hl (fun _ _ _ => rfl) ()
def M_ce_Check_L2_B (a0 : GCertificate) (_y28 : Nogood) (_ : Int) : Unit → (Unit → Option (Er)) → Option (Er) := fun _ rc => ixv _y28 (fun y28 =>
       sel (decide (y28.2 < 0))
        (some (Er.no 1))
        (sel (decide (a0.Bound ≥ 0))
          (sel (decide (y28.2 ≥ a0.Bound))
            (some (Er.no 1))
            (sel (decide (a0.Bound < 0))
              (sel (y28.2 != 0)
                (some (Er.no 1))
                (rc ()))
              (rc ())))
          (sel (decide (a0.Bound < 0))
            (sel (y28.2 != 0)
              (some (Er.no 1))
              (rc ()))
            (rc ()))))
def M_ce_Check_L2_E (_ : GCertificate) : Unit → Option (Er) := fun _ => some Er.nil
theorem M_ce_Check_L2_eq (a0 : GCertificate)  (hl : a0.Nogoods.length < 9223372036854775807) : M_ce_Check_L2 a0 (((a0.Nogoods.map cN).length : Int).toNat + 1) 0 = Rg (M_ce_Check_L2_B a0) (M_ce_Check_L2_E a0) a0.Nogoods 0 () := rg_e1 (L := fun k i _ => M_ce_Check_L2 a0 k i) hl (fun _ _ _ => rfl) ()
def M_ce_Proper_L1_B (a0 : List Int) (_ : GCertificate) (_y10 : Nogood) (_ : Int) : Unit → (Unit → Option (Er)) → Option (Er) := fun _ rc => ixv _y10 (fun y10 =>
       ob1 (M_task_Facts a0 y10.1) (fun z11 =>
        sel (!z11)
         (some (Er.no 2))
         (rc ())))
def M_ce_Proper_L1_E (_ : List Int) (_ : GCertificate) : Unit → Option (Er) := fun _ => some Er.nil
theorem M_ce_Proper_L1_eq (a0 : List Int) (a1 : GCertificate)  (hl : a1.Nogoods.length < 9223372036854775807) : M_ce_Proper_L1 a0 a1 (((a1.Nogoods.map cN).length : Int).toNat + 1) 0 = Rg (M_ce_Proper_L1_B a0 a1) (M_ce_Proper_L1_E a0 a1) a1.Nogoods 0 () := rg_e1 (L := fun k i _ => M_ce_Proper_L1 a0 a1 k i) hl (fun _ _ _ => rfl) ()
def M_ck_counting_L1_B (_ : GChecker) (a1 : Int) (_y8 : Nogood) (_ : Int) : ((List (List Fact))) → (((List (List Fact))) → Option (List (List Fact))) → Option (List (List Fact)) := fun v6 rc => ixv _y8 (fun y8 =>
       sel (decide (y8.2 ≤ a1))
        (grd ((v6.length + 1) * 24 ≤ 140737488355328) (rc ((v6 ++ [y8.1]))))
        (rc (v6)))
def M_ck_counting_L1_E (_ : GChecker) (_ : Int) : ((List (List Fact))) → Option (List (List Fact)) := fun v6 => grd (v6.length ≤ 140737488355328) (some v6)
theorem M_ck_counting_L1_eq (a0 : GChecker) (a1 : Int) (v6 : List (List Fact)) (hl : a0.c.Nogoods.length < 9223372036854775807) : M_ck_counting_L1 a0 a1 (((a0.c.Nogoods.map cN).length : Int).toNat + 1) 0 v6 = Rg (M_ck_counting_L1_B a0 a1) (M_ck_counting_L1_E a0 a1) a0.c.Nogoods 0 v6 := rg_e1 (L := fun k i v6 => M_ck_counting_L1 a0 a1 k i v6) hl (fun _ _ _ => rfl) v6
def M_ck_step_L1_B (g : Nat) (v2 : Int) (_ : List (List Fact)) (_y37 : List Fact) (_ : Int) : ((List Int) × (List Int) × (List Fact) × (List GOp) × (Int) × (List Nogood) × (Int)) → (((List Int) × (List Int) × (List Fact) × (List GOp) × (Int) × (List Nogood) × (Int)) → Option (Er × GChecker)) → Option (Er × GChecker) := fun (v29, v30, v31, v32, v33, v34, v35) rc => ixv _y37 (fun y37 =>
       ob3 (M_ck_covered g ({ t := { Vars := v29, Init := v30, Goal := v31, Ops := v32 : GTask }, c := { Bound := v33, Nogoods := v34 : GCertificate }, steps := v35 : GChecker }) y37 v2) (fun z38 z39 c40 =>
        erM z39
         (sel (!z38)
           (some ((Er.no 19), c40))
           (rc (c40.t.Vars, c40.t.Init, c40.t.Goal, c40.t.Ops, c40.c.Bound, c40.c.Nogoods, c40.steps)))
         (fun e41 => some ((Er.no e41), c40))))
def M_ck_step_L1_E (_ : Nat) (_ : Int) (_ : List (List Fact)) : ((List Int) × (List Int) × (List Fact) × (List GOp) × (Int) × (List Nogood) × (Int)) → Option (Er × GChecker) := fun (v29, v30, v31, v32, v33, v34, v35) => some (Er.nil, { t := { Vars := v29, Init := v30, Goal := v31, Ops := v32 : GTask }, c := { Bound := v33, Nogoods := v34 : GCertificate }, steps := v35 : GChecker })
theorem M_ck_step_L1_eq (g : Nat) (v2 : Int) (z7 : List (List Fact)) (v29 : List Int) (v30 : List Int) (v31 : List Fact) (v32 : List GOp) (v33 : Int) (v34 : List Nogood) (v35 : Int) (hl : z7.length < 9223372036854775807) : M_ck_step_L1 g v2 z7 (((z7.map cL_cF).length : Int).toNat + 1) 0 v29 v30 v31 v32 v33 v34 v35 = Rg (M_ck_step_L1_B g v2 z7) (M_ck_step_L1_E g v2 z7) z7 0 (v29, v30, v31, v32, v33, v34, v35) := rg_e1 (L := fun k i p => match p with | (v29, v30, v31, v32, v33, v34, v35) => M_ck_step_L1 g v2 z7 k i v29 v30 v31 v32 v33 v34 v35) hl (fun _ _ ⟨_, _, _, _, _, _, _⟩ => rfl) (v29, v30, v31, v32, v33, v34, v35)
def M_checker_Where_L1_B (a0 : GTask) (_ : GCertificate) (_y25 : Nogood) (_ : Int) : Unit → (Unit → Option (Unit ⊕ (Int × Int × Er))) → Option (Unit ⊕ (Int × Int × Er)) := fun _ rc => ixv _y25 (fun y25 =>
       ob1 (M_task_Holds y25.1 a0.Init) (fun z26 =>
        sel z26
         (some (.inr ((-1), (-1), (Er.no 20))))
         (rc ())))
def M_checker_Where_L1_E (_ : GTask) (_ : GCertificate) : Unit → Option (Unit ⊕ (Int × Int × Er)) := fun _ => some (.inl ())
theorem M_checker_Where_L1_eq (a0 : GTask) (a1 : GCertificate)  (hl : a1.Nogoods.length < 9223372036854775807) : M_checker_Where_L1 a0 a1 (((a1.Nogoods.map cN).length : Int).toNat + 1) 0 = Rg (M_checker_Where_L1_B a0 a1) (M_checker_Where_L1_E a0 a1) a1.Nogoods 0 () := rg_e1 (L := fun k i _ => M_checker_Where_L1 a0 a1 k i) hl (fun _ _ _ => rfl) ()
def M_checker_Where_L2_B (_ : GTask) (g : Nat) (v184 : Int) (y231 : Nogood) (v246 : Int) : ((List Int) × (List Int) × (List Fact) × (List GOp) × (Int) × (List Nogood) × (Int)) → (((List Int) × (List Int) × (List Fact) × (List GOp) × (Int) × (List Nogood) × (Int)) → Option (((List Int) × (List Int) × (List Fact) × (List GOp) × Int × (List Nogood) × Int) ⊕ (Int × Int × Er))) → Option (((List Int) × (List Int) × (List Fact) × (List GOp) × Int × (List Nogood) × Int) ⊕ (Int × Int × Er)) := fun (v247, v248, v249, v250, v251, v252, v253) rc => ob2 (M_ck_step g ({ t := { Vars := v247, Init := v248, Goal := v249, Ops := v250 : GTask }, c := { Bound := v251, Nogoods := v252 : GCertificate }, steps := v253 : GChecker }) y231 v246) (fun z255 c256 =>
       erM z255
        (rc (c256.t.Vars, c256.t.Init, c256.t.Goal, c256.t.Ops, c256.c.Bound, c256.c.Nogoods, c256.steps))
        (fun e257 => some (.inr (v184, v246, (Er.no e257)))))
def M_checker_Where_L2_E (_ : GTask) (_ : Nat) (_ : Int) (_ : Nogood) : ((List Int) × (List Int) × (List Fact) × (List GOp) × (Int) × (List Nogood) × (Int)) → Option (((List Int) × (List Int) × (List Fact) × (List GOp) × Int × (List Nogood) × Int) ⊕ (Int × Int × Er)) := fun (v247, v248, v249, v250, v251, v252, v253) => some (.inl (v247, v248, v249, v250, v251, v252, v253))
theorem M_checker_Where_L2_eq (a0 : GTask) (g : Nat) (v184 : Int) (y231 : Nogood) (v247 : List Int) (v248 : List Int) (v249 : List Fact) (v250 : List GOp) (v251 : Int) (v252 : List Nogood) (v253 : Int) {m : Nat} (hm : ((a0.Ops.map cGOp).length : Int) = (m : Int)) (hl : m < 9223372036854775807) : M_checker_Where_L2 a0 g v184 y231 ((((a0.Ops.map cGOp).length : Int)).toNat + 1) 0 v247 v248 v249 v250 v251 v252 v253 = Rn (M_checker_Where_L2_B a0 g v184 y231) (M_checker_Where_L2_E a0 g v184 y231) m 0 (v247, v248, v249, v250, v251, v252, v253) := rn_e (L := fun k i p => match p with | (v247, v248, v249, v250, v251, v252, v253) => M_checker_Where_L2 a0 g v184 y231 k i v247 v248 v249 v250 v251 v252 v253) hm hl (fun _ _ ⟨_, _, _, _, _, _, _⟩ => rfl) (v247, v248, v249, v250, v251, v252, v253)
def M_checker_Where_L3_B (a0 : GTask) (_ : GCertificate) (g : Nat) (_y231 : Nogood) (v184 : Int) : ((List Int) × (List Int) × (List Fact) × (List GOp) × (Int) × (List Nogood) × (Int)) → (((List Int) × (List Int) × (List Fact) × (List GOp) × (Int) × (List Nogood) × (Int)) → Option (Int × Int × Er)) → Option (Int × Int × Er) := fun (v185, v186, v187, v188, v189, v190, v191) rc => ob1 (ixv _y231 (fun y231 =>
        M_checker_Where_L2 a0 g v184 y231 ((((a0.Ops.map cGOp).length : Int)).toNat + 1) 0 v185 v186 v187 v188 v189 v190 v191) : Option (((List Int) × (List Int) × (List Fact) × (List GOp) × Int × (List Nogood) × Int) ⊕ (Int × Int × Er)))
       (osum
       (fun (v220, v221, v222, v223, v224, v225, v226) => rc (v220, v221, v222, v223, v224, v225, v226))
       (fun (r227, r228, r229) => some (r227, r228, r229)))
def M_checker_Where_L3_E (_ : GTask) (_ : GCertificate) (_ : Nat) : ((List Int) × (List Int) × (List Fact) × (List GOp) × (Int) × (List Nogood) × (Int)) → Option (Int × Int × Er) := fun (_, _, _, _, _, _, _) => some ((-1), (-1), Er.nil)
theorem M_checker_Where_L3_eq (a0 : GTask) (a1 : GCertificate) (g : Nat) (v185 : List Int) (v186 : List Int) (v187 : List Fact) (v188 : List GOp) (v189 : Int) (v190 : List Nogood) (v191 : Int) (hl : a1.Nogoods.length < 9223372036854775807) : M_checker_Where_L3 a0 a1 g (((a1.Nogoods.map cN).length : Int).toNat + 1) 0 v185 v186 v187 v188 v189 v190 v191 = Rg (M_checker_Where_L3_B a0 a1 g) (M_checker_Where_L3_E a0 a1 g) a1.Nogoods 0 (v185, v186, v187, v188, v189, v190, v191) := rg_e2 (L := fun k i p => match p with | (v185, v186, v187, v188, v189, v190, v191) => M_checker_Where_L3 a0 a1 g k i v185 v186 v187 v188 v189 v190 v191) hl (fun k n p y hy h1 h2 => by first | (simp only [M_checker_Where_L3, M_checker_Where_L3_B, List.length_map, decide_lt h1, sel, ix_at hy, ixv, h2]; done) | (simp only [List.length_map] at h1 hy; (simp only [M_checker_Where_L3, M_checker_Where_L3_B, List.length_map, decide_lt h1, sel, ix_at hy, ixv, h2]; done))) (fun k p => by simp only [M_checker_Where_L3, M_checker_Where_L3_E, List.length_map, decide_ge, sel]) (v185, v186, v187, v188, v189, v190, v191)
end Go.Proofs.YtcpajbglcgbolaaGreat.Am
namespace Go.Proofs.YtcpajbglcgbolaaGreat.Am
open Go.RowKit
theorem tholds_eq (l : List Fact) (s : List Int) (hl : Sh l) : M_task_Holds l s = some (holdsF s l) := by
  rw [M_task_Holds, M_task_Holds_L1_eq l s hl.lt, rg_all (p := hold1 s) (c := some false)]
  · rw [M_task_Holds_L1_E, holdsF]; cases l.all (hold1 s) <;> rfl
  · intro x _ i rc
    rw [M_task_Holds_L1_B, ixv, sel_dec, sel_dec, List.length_map, hold1]
    by_cases h0 : x.1 < 0
    · rw [if_pos h0, decide_eq_false (by omega), Bool.false_and, if_neg (by decide)]
    · rw [if_neg h0, decide_eq_true (p := 0 ≤ x.1) (by omega), Bool.true_and]
      by_cases h1 : x.1 < s.length
      · rw [if_neg (by omega), decide_eq_true h1, Bool.true_and, ix_getD (d := 0) (by omega) h1, bne]
        cases s.getD x.1.toNat 0 == x.2 <;> rfl
      · rw [if_pos (by omega), decide_eq_false h1, Bool.false_and, if_neg (by decide)]
def limF (l : List Fact) : Bool := l.all fun x => decide (x.1 < 64 ∧ x.2 < 64)
def frmF (l : List Fact) : Bool := vF (-1) l && limF l
theorem formed_loop (l : List Fact) (hs : Sh l) : ∀ (r : List Fact) (n : Nat) (last : Int), l.drop n = r → n ≤ l.length → -1 ≤ last → (n = 0 → last = -1) → (∀ m, n = m + 1 → ∃ x, l[m]? = some x ∧ x.1 = last) → Rg (M_ce_formed_L1_B l) (M_ce_formed_L1_E l) r n () = some (vF last r && limF r)
  | [], _, _, _, _, _, _, _ => rfl
  | y :: r, n, last, hd, hn, hl, h0, hp => by
    rw [Rg, vF, limF, List.all_cons]
    obtain ⟨hy, hd', hlt⟩ := drop_cons hd
    have hih : 0 ≤ y.1 → Rg (M_ce_formed_L1_B l) (M_ce_formed_L1_E l) r ((n : Int) + 1) () = some (vF y.1 r && limF r) := fun h => formed_loop l hs r (n + 1) y.1 hd' hlt (by omega) (by omega) (fun m hm => ⟨y, by rw [show m = n by omega]; exact hy, rfl⟩)
    simp only [M_ce_formed_L1_B, ixv, sel_dec]
    by_cases h1 : y.1 < 0
    · rw [if_pos h1, decide_eq_false (p := last < y.1 ∧ 0 ≤ y.2) (by omega)]; rfl
    · rw [if_neg h1]
      by_cases h2 : y.1 ≥ 64
      · rw [if_pos h2, decide_eq_false (p := y.1 < 64 ∧ y.2 < 64) (by omega), Bool.false_and, Bool.and_false]
      · rw [if_neg h2]
        by_cases h3 : y.2 < 0
        · rw [if_pos h3, decide_eq_false (p := last < y.1 ∧ 0 ≤ y.2) (by omega)]; rfl
        · rw [if_neg h3]
          by_cases h4 : y.2 ≥ 64
          · rw [if_pos h4, decide_eq_false (p := y.1 < 64 ∧ y.2 < 64) (by omega), Bool.false_and, Bool.and_false]
          · rw [if_neg h4, decide_eq_true (p := y.1 < 64 ∧ y.2 < 64) (by omega), Bool.true_and]
            cases n with
            | zero =>
              have := h0 rfl
              rw [if_neg (by omega), decide_eq_true (p := last < y.1 ∧ 0 ≤ y.2) (by omega)]
              exact hih (by omega)
            | succ m =>
              obtain ⟨x, hx, hxl⟩ := hp m rfl
              rw [if_pos (by omega), w64 (by omega) (by have := hs; unfold Sh at this; omega), show (((m + 1 : Nat) : Int) - 1) = (m : Int) by omega, ix_at hx]
              by_cases h5 : x.1 ≥ y.1
              · rw [if_pos h5, decide_eq_false (p := last < y.1 ∧ 0 ≤ y.2) (by omega)]; rfl
              · rw [if_neg h5, decide_eq_true (p := last < y.1 ∧ 0 ≤ y.2) (by omega)]
                exact hih (by omega)
theorem formed_eq (l : List Fact) (hl : Sh l) : M_ce_formed l = some (frmF l) := by
  rw [M_ce_formed, M_ce_formed_L1_eq _ hl.lt]
  exact formed_loop l hl l 0 (-1) rfl (Nat.zero_le _) (by omega) (fun _ => rfl) (fun m hm => by omega)
structure ShC (c : GCertificate) : Prop where
  list : Sh c.Nogoods
  each : ∀ n ∈ c.Nogoods, Sh n.1
def distF (b : Int) (n : Nogood) : Bool := decide (0 ≤ n.2 ∧ (0 ≤ b → n.2 < b) ∧ (b < 0 → n.2 = 0))
def certF (c : GCertificate) : Er :=
  if c.Bound < -1 ∨ c.Bound > 1099511627776 then .no 1
  else if c.Nogoods.length > 4096 then .no 5
  else if (c.Nogoods.all fun n => frmF n.1) = true then (if (c.Nogoods.all (distF c.Bound)) = true then .nil else .no 1)
  else .no 2
theorem ccheck_eq (c : GCertificate) (hc : ShC c) : M_ce_Check c = some (certF c) := by
  rw [M_ce_Check, certF, sel_dec, sel_dec]
  by_cases h1 : c.Bound < -1
  · rw [if_pos h1, if_pos (Or.inl h1)]; rfl
  · rw [if_neg h1]
    by_cases h2 : c.Bound > 1099511627776
    · rw [if_pos h2, if_pos (Or.inr h2)]; rfl
    · rw [if_neg h2, if_neg (by omega), ob1_some, osum_inl, sel_dec, List.length_map]
      by_cases h3 : c.Nogoods.length > 4096
      · rw [if_pos (by omega), if_pos h3]
      · have e1 := M_ce_Check_L1_eq c (by omega)
        have e2 := M_ce_Check_L2_eq c (by omega)
        rw [List.length_map] at e1 e2
        rw [if_neg (by omega), if_neg h3, e1, rg_all (p := fun n : Nogood => frmF n.1) (c := some (.inr (Er.no 2)))]
        · cases ha : c.Nogoods.all fun n => frmF n.1 with
          | false => rw [if_neg (by decide), ob1_some, osum_inr, if_neg (by decide)]
          | true =>
            rw [if_pos rfl, if_pos rfl, M_ce_Check_L1_E, ob1_some, osum_inl, e2, rg_all (p := distF c.Bound) (c := some (Er.no 1)), M_ce_Check_L2_E]
            · split <;> rfl
            · intro n _ i rc
              rw [M_ce_Check_L2_B, ixv, distF]
              simp only [sel_dec]
              by_cases q1 : n.2 < 0
              · rw [if_pos q1, decide_eq_false (by omega)]; rfl
              · rw [if_neg q1]
                by_cases q2 : c.Bound ≥ 0
                · rw [if_pos q2]
                  by_cases q3 : n.2 ≥ c.Bound
                  · rw [if_pos q3, decide_eq_false (by omega)]; rfl
                  · rw [if_neg q3, if_neg (by omega), decide_eq_true (by omega)]; rfl
                · rw [if_neg q2, if_pos (by omega)]
                  by_cases q4 : n.2 = 0
                  · rw [show (n.2 != 0) = false from by simp [q4], sel_ff, decide_eq_true (by omega)]; rfl
                  · rw [show (n.2 != 0) = true from by simp [q4], sel_tt, decide_eq_false (by omega)]; rfl
        · intro n hn i rc
          rw [M_ce_Check_L1_B, ixv, formed_eq n.1 (hc.each n hn), ob1_some]
          cases frmF n.1 <;> rfl
def properF (vars : List Int) (c : GCertificate) : Er :=
  match certF c with
  | .nil => if (c.Nogoods.all fun n => propF vars (-1) n.1) = true then .nil else .no 2
  | .no e => .no e
theorem cproper_eq (vars : List Int) (c : GCertificate) (hc : ShC c) : M_ce_Proper vars c = some (properF vars c) := by
  have e1 := M_ce_Proper_L1_eq vars c hc.list.lt
  rw [M_ce_Proper, ccheck_eq c hc, ob1_some, properF, e1]
  cases certF c with
  | no e => rfl
  | nil =>
    show Rg _ _ _ _ _ = _
    rw [rg_all (p := fun n : Nogood => propF vars (-1) n.1) (c := some (Er.no 2)), M_ce_Proper_L1_E]
    · simp only; split <;> rfl
    · intro n hn i rc
      rw [M_ce_Proper_L1_B, ixv, facts_eq vars n.1 (hc.each n hn), ob1_some]
      cases propF vars (-1) n.1 <;> rfl
structure CertP (vars : List Int) (c : GCertificate) : Prop where
  b0 : -1 ≤ c.Bound
  b1 : c.Bound ≤ 1099511627776
  len : c.Nogoods.length ≤ 4096
  prop : ∀ n ∈ c.Nogoods, propF vars (-1) n.1 = true
  frm : ∀ n ∈ c.Nogoods, frmF n.1 = true
  d0 : ∀ n ∈ c.Nogoods, 0 ≤ n.2
  d1 : ∀ n ∈ c.Nogoods, 0 ≤ c.Bound → n.2 < c.Bound
  d2 : ∀ n ∈ c.Nogoods, c.Bound < 0 → n.2 = 0
theorem certF_nil (c : GCertificate) : certF c = .nil ↔ -1 ≤ c.Bound ∧ c.Bound ≤ 1099511627776 ∧ c.Nogoods.length ≤ 4096 ∧ (∀ n ∈ c.Nogoods, frmF n.1 = true) ∧ ∀ n ∈ c.Nogoods, distF c.Bound n = true := by
  unfold certF
  split
  · exact ⟨(nofun), fun h => by omega⟩
  · split
    · exact ⟨(nofun), fun h => by omega⟩
    · split
      · rename_i h
        rw [List.all_eq_true] at h
        split
        · rename_i h2
          rw [List.all_eq_true] at h2
          exact ⟨fun _ => ⟨by omega, by omega, by omega, h, h2⟩, fun _ => rfl⟩
        · rename_i h2
          rw [List.all_eq_true] at h2
          exact ⟨(nofun), fun hh => absurd hh.2.2.2.2 h2⟩
      · rename_i h
        rw [List.all_eq_true] at h
        exact ⟨(nofun), fun hh => absurd hh.2.2.2.1 h⟩
theorem properF_nil (vars : List Int) (c : GCertificate) : properF vars c = .nil ↔ CertP vars c := by
  unfold properF
  constructor
  · intro h
    cases hc : certF c with
    | no e => rw [hc] at h; cases h
    | nil =>
      rw [hc] at h
      simp only at h
      split at h
      · rename_i ha
        rw [List.all_eq_true] at ha
        obtain ⟨h1, h2, h3, h4, h5⟩ := (certF_nil c).1 hc
        have hd : ∀ n ∈ c.Nogoods, 0 ≤ n.2 ∧ (0 ≤ c.Bound → n.2 < c.Bound) ∧ (c.Bound < 0 → n.2 = 0) := fun n hn => of_decide_eq_true (h5 n hn)
        exact ⟨h1, h2, h3, ha, h4, fun n hn => (hd n hn).1, fun n hn => (hd n hn).2.1, fun n hn => (hd n hn).2.2⟩
      · cases h
  · intro h
    rw [(certF_nil c).2 ⟨h.b0, h.b1, h.len, h.frm, fun n hn => decide_eq_true ⟨h.d0 n hn, h.d1 n hn, h.d2 n hn⟩⟩]
    simp only
    rw [if_pos (List.all_eq_true.2 h.prop)]
end Go.Proofs.YtcpajbglcgbolaaGreat.Am
namespace Go.Proofs.YtcpajbglcgbolaaGreat.Am
open Go.RowKit
def countL (ns : List Nogood) (d : Int) : List (List Fact) := (ns.filter fun n => decide (n.2 ≤ d)).map (·.1)
theorem count_loop (x : GChecker) (d : Int) : ∀ (r : List Nogood) (i : Int) (v : List (List Fact)), v.length + r.length ≤ 1000000 →
    Rg (M_ck_counting_L1_B x d) (M_ck_counting_L1_E x d) r i v = some (v ++ countL r d)
  | [], i, v, h => by rw [Rg, M_ck_counting_L1_E, grd_t (by simp at h; omega)]; simp [countL]
  | n :: r, i, v, h => by
    rw [List.length_cons] at h
    rw [Rg, M_ck_counting_L1_B, ixv, sel_dec]
    by_cases hd : n.2 ≤ d
    · rw [if_pos hd, grd_t (by omega), count_loop x d r _ _ (by simp; omega)]
      simp [countL, hd]
    · rw [if_neg hd, count_loop x d r _ _ (by omega)]
      simp [countL, hd]
theorem counting_eq (x : GChecker) (d : Int) (h : x.c.Nogoods.length ≤ 4096) : M_ck_counting x d = some (countL x.c.Nogoods d) := by
  rw [M_ck_counting, M_ck_counting_L1_eq x d [] (by omega), count_loop x d _ _ _ (by simp; omega), List.nil_append]
theorem count_prop {vars : List Int} {c : GCertificate} (h : CertP vars c) (d : Int) : PropL vars (countL c.Nogoods d) := fun x hx => by
  obtain ⟨n, hn, rfl⟩ := List.mem_map.1 hx
  exact h.prop n (List.mem_filter.1 hn).1
theorem count_len {vars : List Int} {c : GCertificate} (h : CertP vars c) (d : Int) : (countL c.Nogoods d).length ≤ 4096 := by
  unfold countL
  rw [List.length_map]
  exact Nat.le_trans (List.length_filter_le _ _) h.len
def askC (t : GTask) (c : GCertificate) (p : List Fact) (d r : Int) : Bool × Er × Int :=
  if (covA t.Vars p (countL c.Nogoods d)).2 ≤ r then ((covA t.Vars p (countL c.Nogoods d)).1, .nil, r - (covA t.Vars p (countL c.Nogoods d)).2) else (false, .no 10, r)
theorem covA_pos (vars : List Int) (p : List Fact) (l : List (List Fact)) : 1 ≤ (covA vars p l).2 := decA_pos _ _ _ _
theorem askC_r {t : GTask} {c : GCertificate} {p : List Fact} {d r : Int} (h : 0 ≤ r ∧ r ≤ 1048576) : 0 ≤ (askC t c p d r).2.2 ∧ (askC t c p d r).2.2 ≤ 1048576 := by
  have := covA_pos t.Vars p (countL c.Nogoods d)
  unfold askC
  split
  · show 0 ≤ r - _ ∧ r - _ ≤ _; omega
  · exact h
theorem ask_eq {t : GTask} {c : GCertificate} (hd : DomP t.Vars) (hc : CertP t.Vars c) (g : Nat) (hg : 70 ≤ g) (p : List Fact) (hp : propF t.Vars (-1) p = true) (d r : Int) (hr : 0 ≤ r ∧ r ≤ 1048576) :
    M_ck_covered g { t := t, c := c, steps := r } p d = some ((askC t c p d r).1, (askC t c p d r).2.1, { t := t, c := c, steps := (askC t c p d r).2.2 }) := by
  have hl := count_len hc d
  rw [M_ck_covered, counting_eq _ d hc.len, ob1_some]
  show ob3 (M_p_Covered g t.Vars p (countL c.Nogoods d) r) _ = _
  rw [covered_eq hd hp (count_prop hc d) (by omega) r (by omega) g (by omega), covR, askC]
  have hpos := covA_pos t.Vars p (countL c.Nogoods d)
  by_cases h : (covA t.Vars p (countL c.Nogoods d)).2 ≤ r
  · rw [if_pos h, if_pos h, ob3_some]
    show some (_, _, _) = some (_, _, _)
    rw [wrap_eq (by show _ ≤ r - _; omega) (by show r - _ ≤ _; omega)]
  · rw [if_neg h, if_neg h, ob3_some]; rfl
def stepL (t : GTask) (c : GCertificate) (d : Int) : List (List Fact) → Int → Er × Int
  | [], r => (.nil, r)
  | p :: ps, r => match askC t c p d r with
    | (true, .nil, r') => stepL t c d ps r'
    | (false, .nil, r') => (.no 19, r')
    | (_, .no e, r') => (.no e, r')
theorem stepL_r (t : GTask) (c : GCertificate) (d : Int) : ∀ (l : List (List Fact)) (r : Int), 0 ≤ r ∧ r ≤ 1048576 → 0 ≤ (stepL t c d l r).2 ∧ (stepL t c d l r).2 ≤ 1048576
  | [], r, h => h
  | p :: ps, r, h => by
    have ha := askC_r (t := t) (c := c) (p := p) (d := d) h
    rw [stepL]
    rcases hq : askC t c p d r with ⟨b, e, r'⟩
    rw [hq] at ha
    cases e with
    | no e => cases b <;> exact ha
    | nil =>
      cases b with
      | false => exact ha
      | true => exact stepL_r t c d ps r' ha
theorem step_loop {t : GTask} {c : GCertificate} (hd : DomP t.Vars) (hc : CertP t.Vars c) (g : Nat) (hg : 70 ≤ g) (d : Int) (z : List (List Fact)) : ∀ (l : List (List Fact)) (i r : Int), PropL t.Vars l → 0 ≤ r ∧ r ≤ 1048576 →
    Rg (M_ck_step_L1_B g d z) (M_ck_step_L1_E g d z) l i (t.Vars, t.Init, t.Goal, t.Ops, c.Bound, c.Nogoods, r) = some ((stepL t c d l r).1, { t := t, c := c, steps := (stepL t c d l r).2 })
  | [], i, r, _, _ => rfl
  | p :: ps, i, r, hl, hr => by
    rw [Rg, M_ck_step_L1_B]
    show ixv p (fun y37 => ob3 (M_ck_covered g { t := t, c := c, steps := r } y37 d) _) = _
    rw [ixv, ask_eq hd hc g hg p (hl p (List.mem_cons_self ..)) d r hr, ob3_some, stepL]
    have ha := askC_r (t := t) (c := c) (p := p) (d := d) hr
    rcases hq : askC t c p d r with ⟨b, e, r'⟩
    rw [hq] at ha
    cases e with
    | no e => cases b <;> rfl
    | nil =>
      cases b with
      | false => rfl
      | true => exact step_loop hd hc g hg d z ps _ r' (fun x hx => hl x (List.mem_cons_of_mem _ hx)) ha
def distO (c : GCertificate) (n : Nogood) (o : GOp) : Int := if 0 ≤ c.Bound then n.2 + o.Cost else 0
def skipO (c : GCertificate) (n : Nogood) (o : GOp) : Bool := decide (0 ≤ c.Bound ∧ c.Bound ≤ n.2 + o.Cost)
def stepO (t : GTask) (c : GCertificate) (n : Nogood) (o : GOp) (r : Int) : Er × Int :=
  if skipO c n o = true then (.nil, r)
  else match regO t.Vars o n.1 with
    | none => (.no 5, r)
    | some l => stepL t c (distO c n o) l r
theorem stepO_r (t : GTask) (c : GCertificate) (n : Nogood) (o : GOp) (r : Int) (h : 0 ≤ r ∧ r ≤ 1048576) : 0 ≤ (stepO t c n o r).2 ∧ (stepO t c n o r).2 ≤ 1048576 := by
  unfold stepO
  split
  · exact h
  · split
    · exact h
    · exact stepL_r _ _ _ _ _ h
theorem regO_len {t : GTask} (hgood : goodF t = true) {p : List Fact} (hpf : propF t.Vars (-1) p = true) {o : GOp} (ho : o ∈ t.Ops) {l : List (List Fact)} (h : regO t.Vars o p = some l) : PropL t.Vars l ∧ l.length ≤ 1024 := by
  unfold regO at h
  cases hr : regG t.Vars o p [o.Pre] with
  | none => rw [hr] at h; cases h
  | some m =>
    rw [hr, Option.map_some] at h
    obtain rfl := Option.some.inj h
    obtain ⟨l1, -, l3⟩ := pre_prop hgood hpf ho hr
    refine ⟨fun x hx => l1 x (List.mem_filter.1 ((sortLL_mem x _).1 hx)).1, ?_⟩
    rw [sortLL_length]
    exact Nat.le_trans (List.length_filter_le _ _) l3
theorem good_cost {t : GTask} (h : goodF t = true) {o : GOp} (ho : o ∈ t.Ops) : 0 ≤ o.Cost ∧ o.Cost ≤ 1048576 := by
  unfold goodF at h
  simp only [Bool.and_eq_true, List.all_eq_true] at h
  have := h.2.2.2.2 o ho
  unfold opF at this
  simp only [Bool.and_eq_true, decide_eq_true_iff] at this
  exact ⟨this.1.1, this.1.2.1⟩
theorem step_eq {t : GTask} (ht : ShT t) (hgood : goodF t = true) {c : GCertificate} (hc : CertP t.Vars c) (g : Nat) (hg : 70 ≤ g) (n : Nogood) (hn : n ∈ c.Nogoods) (j : Nat) (o : GOp) (hj : t.Ops[j]? = some o) (r : Int) (hr : 0 ≤ r ∧ r ≤ 1048576) :
    M_ck_step g { t := t, c := c, steps := r } n j = some ((stepO t c n o r).1, { t := t, c := c, steps := (stepO t c n o r).2 }) := by
  have hd := good_dom hgood
  have ho := List.mem_of_getElem? hj
  have hcost := good_cost hgood ho
  have hn0 := hc.d0 n hn
  have hn1 := hc.d1 n hn
  have hb1 := hc.b1
  have hw : 0 ≤ c.Bound → IntKind.i64.wrap (n.2 + o.Cost) = n.2 + o.Cost := fun h => wrap_eq (by omega) (by have := hn1 h; omega)
  have hreg : ∀ v : Int, v = distO c n o → skipO c n o = false → ob2 (M_g_Regress g t (j : Int) n.1) (fun z7 z8 =>
      erM z8 (M_ck_step_L1 g v z7 ((((z7.map cL_cF).length : Int)).toNat + 1) 0 t.Vars t.Init t.Goal t.Ops c.Bound c.Nogoods r)
       (fun e9 => some ((Er.no e9), ({ t := t, c := c, steps := r } : GChecker)))) = some ((stepO t c n o r).1, { t := t, c := c, steps := (stepO t c n o r).2 }) := by
    intro v hv hs
    rw [regress_eq t ht hgood n.1 (hc.prop n hn) g hg (j : Int) o (by omega) (by rw [Int.toNat_natCast]; exact hj), ob2_res, stepO, hs, if_neg (by decide)]
    cases hro : regO t.Vars o n.1 with
    | none => rfl
    | some l =>
      obtain ⟨l1, l2⟩ := regO_len hgood (hc.prop n hn) ho hro
      simp only
      rw [M_ck_step_L1_eq g v l _ _ _ _ _ _ _ (by omega), step_loop hd hc g hg v l l 0 r l1 hr, hv]
  rw [M_ck_step]
  simp only [sel_dec, ge_iff_le]
  by_cases h : 0 ≤ c.Bound
  · rw [if_pos h, ix_at hj, hw h]
    by_cases h2 : c.Bound ≤ n.2 + o.Cost
    · have hs : skipO c n o = true := decide_eq_true ⟨h, h2⟩
      rw [if_pos h2, ob1_some, osum_inr, stepO, hs, if_pos rfl]
    · rw [if_neg h2, ob1_some, osum_inl]
      exact hreg _ (by rw [distO, if_pos h]) (decide_eq_false (by omega))
  · rw [if_neg h, ob1_some, osum_inl]
    exact hreg _ (by rw [distO, if_neg h]) (decide_eq_false (by omega))
def opsC (t : GTask) (c : GCertificate) (n : Nogood) (i : Int) : List GOp → Int → Int → Int ⊕ (Int × Int × Er)
  | [], _, r => .inl r
  | o :: os, j, r => match stepO t c n o r with
    | (.nil, r') => opsC t c n i os (j + 1) r'
    | (.no e, _) => .inr (i, j, .no e)
def nogC (t : GTask) (c : GCertificate) : List Nogood → Int → Int → Int × Int × Er
  | [], _, _ => (-1, -1, .nil)
  | n :: ns, i, r => match opsC t c n i t.Ops 0 r with
    | .inl r' => nogC t c ns (i + 1) r'
    | .inr x => x
theorem opsC_r (t : GTask) (c : GCertificate) (n : Nogood) (i : Int) : ∀ (l : List GOp) (j r : Int), 0 ≤ r ∧ r ≤ 1048576 → ∀ r', opsC t c n i l j r = .inl r' → 0 ≤ r' ∧ r' ≤ 1048576
  | [], j, r, h, r', e => by rw [opsC] at e; injection e with e; omega
  | o :: os, j, r, h, r', e => by
    have hs := stepO_r t c n o r h
    rw [opsC] at e
    rcases hq : stepO t c n o r with ⟨x, y⟩
    rw [hq] at e hs
    cases x with
    | no x => cases e
    | nil => exact opsC_r t c n i os (j + 1) y hs r' e
theorem ops_loop {t : GTask} (ht : ShT t) (hgood : goodF t = true) {c : GCertificate} (hc : CertP t.Vars c) (g : Nat) (hg : 70 ≤ g) (n : Nogood) (hn : n ∈ c.Nogoods) (i : Int) : ∀ (l : List GOp) (m j : Nat) (r : Int), t.Ops.drop j = l → l.length = m → 0 ≤ r ∧ r ≤ 1048576 →
    Rn (M_checker_Where_L2_B t g i n) (M_checker_Where_L2_E t g i n) m j (t.Vars, t.Init, t.Goal, t.Ops, c.Bound, c.Nogoods, r) = some (match opsC t c n i l j r with | .inl r' => .inl (t.Vars, t.Init, t.Goal, t.Ops, c.Bound, c.Nogoods, r') | .inr x => .inr x)
  | [], m, j, r, _, hm, _ => by subst hm; rfl
  | o :: os, m, j, r, hdr, hm, hr => by
    obtain ⟨hj, hd', hlt⟩ := drop_cons hdr
    obtain ⟨m, rfl⟩ : ∃ k, m = k + 1 := ⟨os.length, hm.symm⟩
    rw [Rn, M_checker_Where_L2_B]
    show ob2 (M_ck_step g { t := t, c := c, steps := r } n (j : Int)) _ = _
    have hs := stepO_r t c n o r hr
    rw [step_eq ht hgood hc g hg n hn j o hj r hr, ob2_some, opsC]
    rcases hq : stepO t c n o r with ⟨x, y⟩
    rw [hq] at hs
    cases x with
    | no x => rfl
    | nil => exact ops_loop ht hgood hc g hg n hn i os m (j + 1) y hd' (by simpa using hm) hs
theorem nog_loop {t : GTask} (ht : ShT t) (hgood : goodF t = true) {c : GCertificate} (hc : CertP t.Vars c) (g : Nat) (hg : 70 ≤ g) : ∀ (l : List Nogood) (i r : Int), (∀ n ∈ l, n ∈ c.Nogoods) → 0 ≤ r ∧ r ≤ 1048576 →
    Rg (M_checker_Where_L3_B t c g) (M_checker_Where_L3_E t c g) l i (t.Vars, t.Init, t.Goal, t.Ops, c.Bound, c.Nogoods, r) = some (nogC t c l i r)
  | [], i, r, _, _ => rfl
  | n :: ns, i, r, hl, hr => by
    have hops : t.Ops.length ≤ 4096 := by
      unfold goodF at hgood
      simp only [Bool.and_eq_true, decide_eq_true_iff] at hgood
      exact hgood.1.2
    rw [Rg, M_checker_Where_L3_B]
    show ob1 (ixv n (fun y231 => M_checker_Where_L2 t g i y231 ((((t.Ops.map cGOp).length : Int)).toNat + 1) 0 t.Vars t.Init t.Goal t.Ops c.Bound c.Nogoods r)) _ = _
    rw [ixv, M_checker_Where_L2_eq t g i n _ _ _ _ _ _ _ (m := t.Ops.length) (by rw [List.length_map]) (by omega)]
    have e := ops_loop ht hgood hc g hg n (hl n (List.mem_cons_self ..)) i t.Ops t.Ops.length 0 r rfl rfl hr
    have e' : Rn (M_checker_Where_L2_B t g i n) (M_checker_Where_L2_E t g i n) t.Ops.length 0 (t.Vars, t.Init, t.Goal, t.Ops, c.Bound, c.Nogoods, r) = _ := e
    rw [e', ob1_some, nogC]
    have hr2 := opsC_r t c n i t.Ops 0 r hr
    show osum _ _ (match opsC t c n i t.Ops 0 r with | .inl r' => _ | .inr x => _) = _
    cases ho : opsC t c n i t.Ops 0 r with
    | inl r' => exact nog_loop ht hgood hc g hg ns _ r' (fun x hx => hl x (List.mem_cons_of_mem _ hx)) (hr2 r' ho)
    | inr x => rfl
def whereC (t : GTask) (c : GCertificate) (r : Int) : Int × Int × Er :=
  if c.Nogoods.any (fun n => holdsF t.Init n.1) = true then (-1, -1, .no 20)
  else if c.Bound = 0 then nogC t c c.Nogoods 0 r
  else match askC t c t.Goal 0 r with
    | (true, .nil, r') => nogC t c c.Nogoods 0 r'
    | (false, .nil, _) => (-1, -1, .no 13)
    | (_, .no e, _) => (-1, -1, .no e)
def whereF (t : GTask) (c : GCertificate) (steps : Int) : Int × Int × Er :=
  match checkF t with
  | .no e => (-1, -1, .no e)
  | .nil => match properF t.Vars c with
    | .no e => (-1, -1, .no e)
    | .nil => whereC t c (max 0 (min steps 1048576))
theorem where_eq (t : GTask) (ht : ShT t) (c : GCertificate) (hc : ShC c) (steps : Int) (g : Nat) (hg : 70 ≤ g) : M_checker_Where g t c steps = some (whereF t c steps) := by
  rw [M_checker_Where, check_eq t ht, ob1_some, whereF]
  cases hck : checkF t with
  | no e => rfl
  | nil =>
    have hgood := (good_check t).2 hck
    show ob1 (M_ce_Proper t.Vars c) _ = _
    rw [cproper_eq t.Vars c hc, ob1_some]
    cases hpr : properF t.Vars c with
    | no e => rfl
    | nil =>
      have hcp := (properF_nil t.Vars c).1 hpr
      have hd := good_dom hgood
      have e1 := M_checker_Where_L1_eq t c hc.list.lt
      have hr : 0 ≤ max 0 (min steps 1048576) ∧ max 0 (min steps 1048576) ≤ 1048576 := by omega
      have hgoal : propF t.Vars (-1) t.Goal = true := by
        unfold goodF at hgood
        simp only [Bool.and_eq_true] at hgood
        exact hgood.2.2.2.1
      show ob1 (M_checker_Where_L1 t c _ 0) _ = _
      rw [e1, rg_all (p := fun n : Nogood => !holdsF t.Init n.1) (c := some (.inr ((-1), (-1), (Er.no 20)))), whereC]
      · have hna : (c.Nogoods.all fun n => !holdsF t.Init n.1) = !(c.Nogoods.any fun n => holdsF t.Init n.1) := by rw [List.not_any_eq_all_not]
        rw [hna]
        cases ha : c.Nogoods.any fun n => holdsF t.Init n.1 with
        | true => rfl
        | false =>
          rw [Bool.not_false, if_pos rfl, M_checker_Where_L1_E, ob1_some, osum_inl, if_neg (by decide)]
          have hnog : ∀ r : Int, 0 ≤ r ∧ r ≤ 1048576 → M_checker_Where_L3 t c g ((((c.Nogoods.map cN).length : Int)).toNat + 1) 0 t.Vars t.Init t.Goal t.Ops c.Bound c.Nogoods r = some (nogC t c c.Nogoods 0 r) := fun r hr => by
            rw [M_checker_Where_L3_eq t c g _ _ _ _ _ _ _ hc.list.lt, nog_loop ht hgood hcp g hg c.Nogoods 0 r (fun _ h => h) hr]
          by_cases hb : c.Bound = 0
          · rw [if_pos hb, show (c.Bound != 0) = false from by simp [hb], sel_ff, ob1_some, osum_inl]
            exact hnog _ hr
          · rw [if_neg hb, show (c.Bound != 0) = true from by simp [hb], sel_tt, ask_eq hd hcp g hg t.Goal hgoal 0 _ hr, ob3_some]
            have ha := askC_r (t := t) (c := c) (p := t.Goal) (d := 0) hr
            rcases hq : askC t c t.Goal 0 (max 0 (min steps 1048576)) with ⟨b, e, r'⟩
            rw [hq] at ha
            cases e with
            | no e => cases b <;> rfl
            | nil =>
              cases b with
              | false => rfl
              | true => exact hnog r' ha
      · intro n hn i rc
        rw [M_checker_Where_L1_B, ixv, tholds_eq n.1 t.Init (hc.each n hn), ob1_some]
        cases holdsF t.Init n.1 <;> rfl
def verF (t : GTask) (c : GCertificate) (steps : Int) : Er := (whereF t c steps).2.2
theorem verify_eq (t : GTask) (ht : ShT t) (c : GCertificate) (hc : ShC c) (steps : Int) (g : Nat) (hg : 70 ≤ g) : M_checker_Verify g t c steps = some (verF t c steps) := by
  rw [M_checker_Verify, where_eq t ht c hc steps g hg]
  rfl
end Go.Proofs.YtcpajbglcgbolaaGreat.Am
namespace Go.Proofs.YtcpajbglcgbolaaGreat.Am
open Go.RowKit
def ex31 : GTask := { Vars := [2], Init := [0], Goal := [(0, 1)], Ops := [] }
theorem ex31_a : verF ex31 { Bound := -1, Nogoods := [([(0, 1)], 0)] } 100 = .nil := by rfl
theorem ex31_b : verF ex31 { Bound := -1, Nogoods := [] } 100 = .no 13 := by rfl
theorem ex31_sh : ShT ex31 := ⟨by show _ ≤ _; decide, by show _ ≤ _; decide, by show _ ≤ _; decide, by show _ ≤ _; decide, fun o ho => by cases ho⟩
theorem awake_eq (g : Nat) (hg : 70 ≤ g) : M_l31_awake g = some true := by
  rw [M_l31_awake]
  have h1 := verify_eq ex31 ex31_sh { Bound := -1, Nogoods := [([(0, 1)], 0)] } ⟨by show _ ≤ _; decide, fun n hn => by rw [List.mem_singleton.1 hn]; show _ ≤ _; decide⟩ 100 g hg
  have h2 := verify_eq ex31 ex31_sh { Bound := -1, Nogoods := [] } ⟨by show _ ≤ _; decide, fun n hn => by cases hn⟩ 100 g hg
  rw [ex31_a] at h1
  rw [ex31_b] at h2
  unfold ex31 at h1 h2
  rw [h1, ob1_some]
  show ob1 (M_checker_Verify g _ _ 100) _ = _
  rw [h2]
  rfl
end Go.Proofs.YtcpajbglcgbolaaGreat.Am
namespace Go.Proofs.YtcpajbglcgbolaaGreat.Am
open Go.RowKit
def condN (es : List GEffect) : Nat := (es.filter fun e => decide (0 < e.When.length)).length
theorem condN_le (es : List GEffect) : condN es ≤ es.length := List.length_filter_le _ _
theorem condN_cons (e : GEffect) (es : List GEffect) : condN (e :: es) = (if 0 < e.When.length then 1 else 0) + condN es := by
  unfold condN
  rw [List.filter_cons]
  by_cases h : 0 < e.When.length
  · rw [if_pos (decide_eq_true h), if_pos h, List.length_cons]; omega
  · rw [if_neg (by simpa using h), if_neg h]; omega
def twoF (es : List GEffect) : Bool := es.all fun e => decide (e.When.length ≤ 2)
theorem tame2 (o : GOp) : ∀ (r : List GEffect) (i : Int) (v : Nat), v + r.length ≤ 1000000 → Rg (M_b_Tame_L2_B o) (M_b_Tame_L2_E o) r i v = some (if twoF r = true then .inl ((v + condN r : Nat) : Int) else .inr false)
  | [], i, v, _ => rfl
  | e :: r, i, v, h => by
    rw [List.length_cons] at h
    rw [Rg, M_b_Tame_L2_B, ixv, sel_dec, sel_dec, List.length_map, twoF, List.all_cons, condN_cons]
    by_cases h1 : e.When.length > 2
    · rw [if_pos (by omega), decide_eq_false (by omega), Bool.false_and, if_neg (by decide)]
    · rw [if_neg (by omega), decide_eq_true (p := e.When.length ≤ 2) (by omega), Bool.true_and]
      by_cases h2 : 0 < e.When.length
      · rw [if_pos (by omega), if_pos h2, wrap_eq (by omega) (by omega), show ((v : Int) + 1) = ((v + 1 : Nat) : Int) from rfl, tame2 o r _ (v + 1) (by omega), Nat.add_assoc]; rfl
      · rw [if_neg (by omega), if_neg h2, tame2 o r _ v (by omega), Nat.zero_add]; rfl
def tameO (o : GOp) : Bool := twoF o.Effs && decide (condN o.Effs ≤ 3)
def tameF (t : GTask) : Bool := smallF t && (t.Vars.all (fun n => decide (2 ≤ n ∧ n ≤ 4)) && t.Ops.all tameO)
theorem tame_eq (t : GTask) (ht : ShT t) : M_b_Tame t = some (tameF t) := by
  rw [M_b_Tame, small_eq t ht, ob1_some, tameF]
  cases hs : smallF t with
  | false => rfl
  | true =>
    obtain ⟨hgood, hv, ho⟩ := small_good hs
    have e1 := M_b_Tame_L1_eq t (by omega)
    have e3 := M_b_Tame_L3_eq t (by omega)
    rw [Bool.not_true, sel_ff, e1, rg_all (p := fun n : Int => decide (2 ≤ n ∧ n ≤ 4)) (c := some (.inr false))]
    · cases t.Vars.all fun n => decide (2 ≤ n ∧ n ≤ 4) with
      | false => rfl
      | true =>
        rw [if_pos rfl, M_b_Tame_L1_E, ob1_some, osum_inl, e3, rg_all (p := tameO) (c := some false), M_b_Tame_L3_E]
        · cases t.Ops.all tameO <;> rfl
        · intro o hom i rc
          have hl := (good_op hgood hom).effs
          have e2 := M_b_Tame_L2_eq o 0 (show o.Effs.length < _ by omega)
          have e2' : Rg (M_b_Tame_L2_B o) (M_b_Tame_L2_E o) o.Effs 0 0 = _ := tame2 o o.Effs 0 0 (by omega)
          have hc := condN_le o.Effs
          rw [M_b_Tame_L3_B, ixv, e2, e2', Nat.zero_add, ob1_some, tameO]
          cases twoF o.Effs with
          | false => rfl
          | true =>
            rw [if_pos rfl, osum_inl, sel_dec, Bool.true_and]
            by_cases h3 : condN o.Effs ≤ 3
            · rw [if_neg (by omega), if_pos (decide_eq_true h3)]; rfl
            · rw [if_pos (by omega), if_neg (by simpa using h3)]; rfl
    · intro n _ i rc
      rw [M_b_Tame_L1_B, ixv, sel_dec, sel_dec]
      by_cases h1 : n < 2
      · rw [if_pos h1, if_neg (by rw [decide_eq_true_iff]; omega)]
      · rw [if_neg h1]
        by_cases h2 : n > 4
        · rw [if_pos h2, if_neg (by rw [decide_eq_true_iff]; omega)]
        · rw [if_neg h2, if_pos (by rw [decide_eq_true_iff]; omega)]
theorem tame_small {t : GTask} (h : tameF t = true) : smallF t = true := by
  unfold tameF at h
  rw [Bool.and_eq_true] at h
  exact h.1
end Go.Proofs.YtcpajbglcgbolaaGreat.Am
namespace Go.Proofs.YtcpajbglcgbolaaGreat.Am
open Go.RowKit
theorem ci_XDStp {p K : Prop} (k : K) (h : p := by first | rfl | exact ⟨rfl, rfl⟩ | exact BW.fr FrV.h | (refine BW.fr ?_; assumption) | (refine ⟨rfl, ?_⟩; (simp [cGTask, cI, cF, cGOp, cGEffect, cGCertificate, cN, take_len_map]; done)) | (refine RowK.same ?_ FrI.h; first | rfl | (simp [cGTask, cI, cF, cGOp, cGEffect, cGCertificate, cN, take_len_map]; done)) | (refine row_part1 ?_; (repeat (first | exact BWL.nil | exact bwll_nil | exact bw_c | exact BW.sl | exact BW.nil | exact bwll_same rfl FrI.h | refine BWL.cons ?_ ?_ | refine bwll_cons ?_ ?_ | (refine bw_own3 rfl rfl rfl FrI.h ?_ ?_ ?_) | exact BW.fr FrV.h | exact BW.fr (by assumption) | refine bw_agg ?_ | refine bw_clo ?_ | refine bw_ptr rfl rfl rfl ?_ | (refine bw_own rfl rfl rfl ?_ FrI.h ?_ ?_) | assumption | omega | rfl | (rw [List.length_map, ← List.length_append]; assumption) | (refine bwll_same ?_ FrI.h; (simp [cGTask, cI, cF, cGOp, cGEffect, cGCertificate, cN] <;> fail)) | (rw [List.map_set]; refine bwll_set (by first | rfl | omega | simp) ?_ ?_) | refine bwll_set (by first | rfl | omega | simp) ?_ ?_ | (rw [List.map_replicate]; refine bwll_rep ?_) | refine bwll_rep ?_ | (rw [List.map_append]; refine bwll_append ?_ ?_) | refine bwll_append ?_ ?_ | (simp [cGTask, cI, cF, cGOp, cGEffect, cGCertificate, cN, take_len_map] <;> fail) | (rw [List.drop_zero, List.take_of_length_le] <;> first | rfl | (simp [cGTask, cI, cF, cGOp, cGEffect, cGCertificate, cN] <;> fail)) | (simp; omega) | (simp only [List.length_map, List.length_append, List.drop_zero, List.length_cons, List.length_nil, Nat.zero_add, Nat.add_zero] at *; omega))); done) | ((repeat (first | exact BWL.nil | exact bwll_nil | exact bw_c | exact BW.sl | exact BW.nil | exact bwll_same rfl FrI.h | refine BWL.cons ?_ ?_ | refine bwll_cons ?_ ?_ | (refine bw_own3 rfl rfl rfl FrI.h ?_ ?_ ?_) | exact BW.fr FrV.h | exact BW.fr (by assumption) | refine bw_agg ?_ | refine bw_clo ?_ | refine bw_ptr rfl rfl rfl ?_ | (refine bw_own rfl rfl rfl ?_ FrI.h ?_ ?_) | assumption | omega | rfl | (rw [List.length_map, ← List.length_append]; assumption) | (refine bwll_same ?_ FrI.h; (simp [cGTask, cI, cF, cGOp, cGEffect, cGCertificate, cN] <;> fail)) | (rw [List.map_set]; refine bwll_set (by first | rfl | omega | simp) ?_ ?_) | refine bwll_set (by first | rfl | omega | simp) ?_ ?_ | (rw [List.map_replicate]; refine bwll_rep ?_) | refine bwll_rep ?_ | (rw [List.map_append]; refine bwll_append ?_ ?_) | refine bwll_append ?_ ?_ | (simp [cGTask, cI, cF, cGOp, cGEffect, cGCertificate, cN, take_len_map] <;> fail) | (rw [List.drop_zero, List.take_of_length_le] <;> first | rfl | (simp [cGTask, cI, cF, cGOp, cGEffect, cGCertificate, cN] <;> fail)) | (simp; omega) | (simp only [List.length_map, List.length_append, List.drop_zero, List.length_cons, List.length_nil, Nat.zero_add, Nat.add_zero] at *; omega))); done) | (simp [cGTask, cI, cF, cGOp, cGEffect, cGCertificate, cN, take_len_map]; done)) : p ∧ K := ⟨h, k⟩
theorem ca_XDStp {P : Prop} (h : P := by repeat (first | exact True.intro | refine ci_XDStp ?_)) : P := h
theorem pr_XDStp {p K : Prop} (k : K) (h : p := by first | assumption | exact Int.natCast_nonneg _ | exact Nat.le_refl _ | exact Nat.zero_le _ | omega | (simp; done) | (simp; omega)) : p ∧ K := ⟨h, k⟩
theorem dr_XDStp {b : Bool} {p K : Prop} (k : K) (h : b = true → p := by intro h; first | (cases h; done) | exact ⟨by kernel_rfl, by kernel_rfl⟩) : (b = true → p) ∧ K := ⟨h, k⟩
theorem cl_XDStp {C : Cx} {n : Nat} {o : Oper} {τ : Nat → AV} {η : Nat → Ent} {f : FuncId} {os : Array Operand} {ats : Array TypeId} {r : AV} {args : List AV} {K : Foot → Prop} (ho : o.op = .call ⟨.value (.func f), os, ats⟩) (hc : ACall C f args r) (k : K ⟨r, [], []⟩)
    (hd : InB n o.dst := by exact Nat.le_of_ble_eq_true rfl) (hargs : os.toList.map (evA τ) = args := by first | rfl | (simp [cGTask, cI, cF, cGOp, cGEffect, cGCertificate, cN]; done) | (repeat (first | exact rfl | refine cons_eq ?_ ?_ | exact sl_dt rfl))) (hfr : frs args := by repeat (first | exact trivial | exact fr1_eA _ | exact fr0_eA _ | exact fr1_fr (by assumption) | exact FrV.h | refine And.intro ?_ ?_)) (hr : fr1 r := by repeat (first | exact trivial | exact fr1_eA _ | exact fr0_eA _ | exact fr1_fr (by assumption) | exact FrV.h | refine And.intro ?_ ?_)) : ∃ f : Foot, LF C n o τ η f ∧ K f := ⟨_, lf_call ho hd hargs hc hfr hr, k⟩
def M_l31_gentle_L1 (y111 : GOp) : Nat → Int → Int → Option (Int)
  | 0, _, _ => none
  | k128 + 1, v126, v127 =>
    sel (decide (v127 < ((y111.Effs.map cGEffect).length : Int)))
     (ix y111.Effs v127 (fun y129 =>
       sel (decide (((y129.When.map cF).length : Int) > 0))
        (M_l31_gentle_L1 y111 k128 (IntKind.i64.wrap (v126 + 1)) (IntKind.i64.wrap (v127 + 1)))
        (M_l31_gentle_L1 y111 k128 v126 (IntKind.i64.wrap (v127 + 1)))))
     (some v126)
def M_l31_gentle_L2 (a0 : GTask) : Nat → Int → Option (Bool)
  | 0, _ => none
  | k89 + 1, v88 =>
    sel (decide (v88 < ((a0.Ops.map cGOp).length : Int)))
     (ob1 (ix a0.Ops v88 (fun y111 =>
        ob1 (M_l31_gentle_L1 y111 ((((y111.Effs.map cGEffect).length : Int)).toNat + 1) 0 0 : Option (Int))
         (fun v120 => sel (decide (v120 > 1))
            (some (.inr false))
            (some (.inl ())))) : Option (Unit ⊕ Bool))
       (osum
       (fun _ => M_l31_gentle_L2 a0 k89 (IntKind.i64.wrap (v88 + 1)))
       (fun r109 => some r109)))
     (some true)
def M_l31_gentle (a0 : GTask) : Option (Bool) :=
  ob1 (ob1 (M_b_Tame a0) (fun z5 =>
    sel (!z5)
     (some (.inr false))
     (ob1 (M_b_Many a0.Vars 100) (fun z6 =>
       sel (decide (z6 > 100))
        (some (.inr false))
        (sel (decide (((a0.Ops.map cGOp).length : Int) > 8))
          (some (.inr false))
          (some (.inl ())))))) : Option (Unit ⊕ Bool))
   (osum
   (fun _ => M_l31_gentle_L2 a0 ((((a0.Ops.map cGOp).length : Int)).toNat + 1) 0)
   (fun r3 => some r3))
set_option maxHeartbeats 16000000 in
set_option maxRecDepth 100000 in
theorem A_l31_gentle (a0 : GTask) {r1 : Bool} (h : M_l31_gentle a0 = some r1) : ACall cx 10 [.agg [.sl 1 (a0.Vars.map cI), .sl 1 (a0.Init.map cI), .sl 2 (a0.Goal.map cF), .sl 4 (a0.Ops.map cGOp)]] (.c (.bool r1)) := by
  refine aOf Tryz.func10 rfl (by decide) rfl (Nat.le_of_ble_eq_true rfl) ?_; intro _; unfold M_l31_gentle at h; refine aSR ?_; intro _; refine dr_XDStp ?_; obtain ⟨o1, h, hK2⟩ := ob1_ok h; refine awp_cut (α := Unit) (fun _ => mkS 47 [(1, .ptr 1 0 0 0)] [(1, ⟨26, 4, true, [[.sl 1 (a0.Vars.map cI), .sl 1 (a0.Init.map cI), .sl 2 (a0.Goal.map cF), .sl 4 (a0.Ops.map cGOp)]]⟩)]) (fun v => o1 = (.inl v)) ?_ ?_
  · refine aSR ?_; intro _; obtain ⟨z5, u3, h⟩ := ob1_ok h; refine cl_XDStp rfl (A_b_Tame a0 u3) ?_; intro _; refine spf h (fun c4 h => ?_) (fun c4 h => ?_)
    · intro _; obtain ⟨z6, u5, h⟩ := ob1_ok h; refine cl_XDStp rfl (A_b_Many a0.Vars 100 u5) ?_; intro _; refine spf h (fun c6 h => ?_) (fun c6 h => ?_)
      · intro _; refine dr_XDStp ?_; refine aCd ?_; intro _; refine spl h (fun c7 h => ?_) (fun c7 h => ?_)
        · refine aSR ?_; intro _; refine dr_XDStp ?_; refine aRt ?_; have j8 := Option.some.inj h; subst j8; replace h := (osum_r hK2); intro _; obtain rfl := inj1 h; exact ca_XDStp
        · refine aSk ?_; refine ⟨(), (Option.some.inj h).symm, ?_⟩; exact ca_XDStp
      · intro _; refine dr_XDStp ?_; refine aCd ?_; intro _; refine litT ?_; refine aSR ?_; intro _; refine dr_XDStp ?_; refine aRt ?_; have j9 := Option.some.inj h; subst j9; replace h := (osum_r hK2); intro _; obtain rfl := inj1 h; exact ca_XDStp
    · intro _; refine dr_XDStp ?_; refine aCd ?_; intro _; refine litT ?_; refine aSR ?_; intro _; refine dr_XDStp ?_; refine aRt ?_; have j10 := Option.some.inj h; subst j10; replace h := (osum_r hK2); intro _; obtain rfl := inj1 h; exact ca_XDStp
  · rintro _ ho; have ho := ho.symm; subst ho; intro _; replace h := (osum_l hK2); refine aSq ?_; refine aSR ?_; intro _; refine dr_XDStp ?_; refine aBk ?_; refine awp_loop (α := Nat × Int) (fun x => mkS 47 [(24, .sl 4 (a0.Ops.map cGOp)), (25, .c (.int .i64 ((a0.Ops.map cGOp).length : Int))), (26, .c (.int .i64 x.2))] []) (fun x => M_l31_gentle_L2 a0 x.1 x.2 = some r1) (fun x => x.1) ((((a0.Ops.map cGOp).length : Int)).toNat + 1, 0) h ?_ ?_
    · exact ca_XDStp
    · intro x11 h; intro _; obtain ⟨k89, m12, h⟩ := succ_of (f := fun n => M_l31_gentle_L2 a0 n x11.2) rfl h; replace h : M_l31_gentle_L2 a0 (k89 + 1) x11.2 = some r1 := h; rw [M_l31_gentle_L2] at h; refine aSR ?_; intro _; refine dr_XDStp ?_; refine aSq ?_; refine aCd ?_; intro _; refine spl h (fun c13 h => ?_) (fun c13 h => ?_)
      · refine aSk ?_; obtain ⟨o14, h, hK15⟩ := ob1_ok h; refine awp_cut (α := Unit) (fun _ => mkS 47 [(24, .sl 4 (a0.Ops.map cGOp)), (25, .c (.int .i64 ((a0.Ops.map cGOp).length : Int))), (26, .c (.int .i64 x11.2))] []) (fun v => o14 = (.inl v)) ?_ ?_
        · refine aBk ?_; refine aSR ?_; intro _; obtain ⟨y111, w16, q17, h⟩ := ix_ok h; refine Exists.intro (cGOp y111) (And.intro (map_at' w16) ?_); intro _; refine pr_XDStp ?_; refine dr_XDStp ?_; refine aSR ?_; intro _; refine dr_XDStp ?_; obtain ⟨o18, h, hK19⟩ := ob1_ok h; refine awp_cut (α := Int) (fun v120 => mkS 47 [(5, .c (.int .i64 v120)), (24, .sl 4 (a0.Ops.map cGOp)), (25, .c (.int .i64 ((a0.Ops.map cGOp).length : Int))), (26, .c (.int .i64 x11.2))] []) (fun v => o18 = v) ?_ ?_
          · refine aSR ?_; intro _; refine dr_XDStp ?_; refine aBk ?_; refine awp_loop (α := Nat × Int × Int) (fun x => mkS 47 [(5, .c (.int .i64 x.2.1)), (24, .sl 4 (a0.Ops.map cGOp)), (25, .c (.int .i64 ((a0.Ops.map cGOp).length : Int))), (26, .c (.int .i64 x11.2)), (31, .sl 3 (y111.Effs.map cGEffect)), (32, .c (.int .i64 ((y111.Effs.map cGEffect).length : Int))), (33, .c (.int .i64 x.2.2))] []) (fun x => M_l31_gentle_L1 y111 x.1 x.2.1 x.2.2 = some o18) (fun x => x.1) ((((y111.Effs.map cGEffect).length : Int)).toNat + 1, 0, 0) h ?_ ?_
            · exact ca_XDStp
            · intro x20 h; intro _; obtain ⟨k128, m21, h⟩ := succ_of (f := fun n => M_l31_gentle_L1 y111 n x20.2.1 x20.2.2) rfl h; replace h : M_l31_gentle_L1 y111 (k128 + 1) x20.2.1 x20.2.2 = some o18 := h; rw [M_l31_gentle_L1] at h; refine aSR ?_; intro _; refine dr_XDStp ?_; refine aSq ?_; refine aCd ?_; intro _; refine spl h (fun c22 h => ?_) (fun c22 h => ?_)
              · refine aSk ?_; refine aSq ?_; refine aBk ?_; refine aSR ?_; intro _; obtain ⟨y129, w23, q24, h⟩ := ix_ok h; refine Exists.intro (cGEffect y129) (And.intro (map_at' w23) ?_); intro _; refine pr_XDStp ?_; refine dr_XDStp ?_; refine aSR ?_; intro _; refine dr_XDStp ?_; refine aCd ?_; intro _; refine spl h (fun c25 h => ?_) (fun c25 h => ?_)
                · refine aRg ?_; intro _; refine dr_XDStp ?_; refine aRg ?_; intro _; refine dr_XDStp ?_; refine ⟨(k128, (IntKind.i64.wrap (x20.2.1 + 1)), (IntKind.i64.wrap (x20.2.2 + 1))), h, ltS m21, ?_⟩; exact ca_XDStp
                · refine aSk ?_; refine aRg ?_; intro _; refine dr_XDStp ?_; refine ⟨(k128, x20.2.1, (IntKind.i64.wrap (x20.2.2 + 1))), h, ltS m21, ?_⟩; exact ca_XDStp
              · refine aEx ?_; refine ⟨x20.2.1, (Option.some.inj h).symm, ?_⟩; exact ca_XDStp
          · rintro v120 ho; have ho := ho.symm; subst ho; intro _; replace h := hK19; refine aSR ?_; intro _; refine dr_XDStp ?_; refine aCd ?_; intro _; refine spl h (fun c26 h => ?_) (fun c26 h => ?_)
            · refine aSR ?_; intro _; refine dr_XDStp ?_; refine aRt ?_; have j27 := Option.some.inj h; subst j27; replace h := (osum_r hK15); intro _; obtain rfl := inj1 h; exact ca_XDStp
            · refine aSk ?_; refine ⟨(), (Option.some.inj h).symm, ?_⟩; exact ca_XDStp
        · rintro _ ho; have ho := ho.symm; subst ho; intro _; replace h := (osum_l hK15); refine aRg ?_; intro _; refine dr_XDStp ?_; refine ⟨(k89, (IntKind.i64.wrap (x11.2 + 1))), h, ltS m12, ?_⟩; exact ca_XDStp
      · refine aEx ?_; refine aSR ?_; intro _; refine dr_XDStp ?_; refine aRt ?_; intro _; obtain rfl := inj1 h; exact ca_XDStp
def M_l31_few_L1 (a0 : GCertificate) : Nat → Int → Option (Bool)
  | 0, _ => none
  | k5 + 1, v4 =>
    sel (decide (v4 < ((a0.Nogoods.map cN).length : Int)))
     (ix a0.Nogoods v4 (fun y6 =>
       sel (decide (((y6.1.map cF).length : Int) > 20))
        (some false)
        (M_l31_few_L1 a0 k5 (IntKind.i64.wrap (v4 + 1)))))
     (some (decide (((a0.Nogoods.map cN).length : Int) ≤ 12)))
def M_l31_few (a0 : GCertificate) : Option (Bool) :=
  M_l31_few_L1 a0 ((((a0.Nogoods.map cN).length : Int)).toNat + 1) 0
set_option maxHeartbeats 16000000 in
set_option maxRecDepth 100000 in
theorem A_l31_few (a0 : GCertificate) {r1 : Bool} (h : M_l31_few a0 = some r1) : ACall cx 11 [.agg [.c (.int .i64 a0.Bound), .sl 2 (a0.Nogoods.map cN)]] (.c (.bool r1)) := by
  refine aOf Tryz.func11 rfl (by decide) rfl (Nat.le_of_ble_eq_true rfl) ?_; intro _; unfold M_l31_few at h; refine aSR ?_; intro _; refine dr_XDStp ?_; refine aSq ?_; refine aSR ?_; intro _; refine dr_XDStp ?_; refine aBk ?_; refine awp_loop (α := Nat × Int) (fun x => mkS 21 [(1, .ptr 1 0 0 0), (6, .sl 2 (a0.Nogoods.map cN)), (7, .c (.int .i64 ((a0.Nogoods.map cN).length : Int))), (8, .c (.int .i64 x.2))] [(1, ⟨29, 2, true, [[.c (.int .i64 a0.Bound), .sl 2 (a0.Nogoods.map cN)]]⟩)]) (fun x => M_l31_few_L1 a0 x.1 x.2 = some r1) (fun x => x.1) ((((a0.Nogoods.map cN).length : Int)).toNat + 1, 0) h ?_ ?_
  · exact ca_XDStp
  · intro x1 h; intro _; obtain ⟨k5, m2, h⟩ := succ_of (f := fun n => M_l31_few_L1 a0 n x1.2) rfl h; replace h : M_l31_few_L1 a0 (k5 + 1) x1.2 = some r1 := h; rw [M_l31_few_L1] at h; refine aSR ?_; intro _; refine dr_XDStp ?_; refine aSq ?_; refine aCd ?_; intro _; refine spl h (fun c3 h => ?_) (fun c3 h => ?_)
    · refine aSk ?_; refine aSq ?_; refine aBk ?_; refine aSR ?_; intro _; obtain ⟨y6, w4, q5, h⟩ := ix_ok h; refine Exists.intro (cN y6) (And.intro (map_at' w4) ?_); intro _; refine pr_XDStp ?_; refine dr_XDStp ?_; refine aSR ?_; intro _; refine dr_XDStp ?_; refine aCd ?_; intro _; refine spl h (fun c6 h => ?_) (fun c6 h => ?_)
      · refine aSR ?_; intro _; refine dr_XDStp ?_; refine aRt ?_; intro _; obtain rfl := inj1 h; exact ca_XDStp
      · refine aSk ?_; refine aRg ?_; intro _; refine dr_XDStp ?_; refine ⟨(k5, (IntKind.i64.wrap (x1.2 + 1))), h, ltS m2, ?_⟩; exact ca_XDStp
    · refine aEx ?_; refine aSR ?_; intro _; refine dr_XDStp ?_; refine aRt ?_; intro _; obtain rfl := inj1 h; exact ca_XDStp
end Go.Proofs.YtcpajbglcgbolaaGreat.Am
namespace Go.Proofs.YtcpajbglcgbolaaGreat.Am
def M_l31_gentle_L1_B (_ : GOp) (_y129 : GEffect) (_ : Int) : ((Int)) → (((Int)) → Option (Int)) → Option (Int) := fun v126 rc => ixv _y129 (fun y129 =>
       sel (decide (((y129.When.map cF).length : Int) > 0))
        (rc ((IntKind.i64.wrap (v126 + 1))))
        (rc (v126)))
def M_l31_gentle_L1_E (_ : GOp) : ((Int)) → Option (Int) := fun v126 => some v126
theorem M_l31_gentle_L1_eq (y111 : GOp) (v126 : Int) (hl : y111.Effs.length < 9223372036854775807) : M_l31_gentle_L1 y111 (((y111.Effs.map cGEffect).length : Int).toNat + 1) v126 0 = Rg (M_l31_gentle_L1_B y111) (M_l31_gentle_L1_E y111) y111.Effs 0 v126 := rg_e1 (L := fun k i v126 => M_l31_gentle_L1 y111 k v126 i) hl (fun _ _ _ => rfl) v126
def M_l31_gentle_L2_B (_ : GTask) (_y111 : GOp) (_ : Int) : Unit → (Unit → Option (Bool)) → Option (Bool) := fun _ rc => ob1 (ixv _y111 (fun y111 =>
        ob1 (M_l31_gentle_L1 y111 ((((y111.Effs.map cGEffect).length : Int)).toNat + 1) 0 0 : Option (Int))
         (fun v120 => sel (decide (v120 > 1))
            (some (.inr false))
            (some (.inl ())))) : Option (Unit ⊕ Bool))
       (osum
       (fun _ => rc ())
       (fun r109 => some r109))
def M_l31_gentle_L2_E (_ : GTask) : Unit → Option (Bool) := fun _ => some true
theorem M_l31_gentle_L2_eq (a0 : GTask)  (hl : a0.Ops.length < 9223372036854775807) : M_l31_gentle_L2 a0 (((a0.Ops.map cGOp).length : Int).toNat + 1) 0 = Rg (M_l31_gentle_L2_B a0) (M_l31_gentle_L2_E a0) a0.Ops 0 () := rg_e2 (L := fun k i _ => M_l31_gentle_L2 a0 k i) hl (fun k n p y hy h1 h2 => by first | (simp only [M_l31_gentle_L2, M_l31_gentle_L2_B, List.length_map, decide_lt h1, sel, ix_at hy, ixv, h2]; done) | (simp only [List.length_map] at h1 hy; (simp only [M_l31_gentle_L2, M_l31_gentle_L2_B, List.length_map, decide_lt h1, sel, ix_at hy, ixv, h2]; done))) (fun k p => by simp only [M_l31_gentle_L2, M_l31_gentle_L2_E, List.length_map, decide_ge, sel]) ()
def M_l31_few_L1_B (_ : GCertificate) (_y6 : Nogood) (_ : Int) : Unit → (Unit → Option (Bool)) → Option (Bool) := fun _ rc => ixv _y6 (fun y6 =>
       sel (decide (((y6.1.map cF).length : Int) > 20))
        (some false)
        (rc ()))
def M_l31_few_L1_E (a0 : GCertificate) : Unit → Option (Bool) := fun _ => some (decide (((a0.Nogoods.map cN).length : Int) ≤ 12))
theorem M_l31_few_L1_eq (a0 : GCertificate)  (hl : a0.Nogoods.length < 9223372036854775807) : M_l31_few_L1 a0 (((a0.Nogoods.map cN).length : Int).toNat + 1) 0 = Rg (M_l31_few_L1_B a0) (M_l31_few_L1_E a0) a0.Nogoods 0 () := rg_e1 (L := fun k i _ => M_l31_few_L1 a0 k i) hl (fun _ _ _ => rfl) ()
end Go.Proofs.YtcpajbglcgbolaaGreat.Am
namespace Go.Proofs.YtcpajbglcgbolaaGreat.Am
open Go.RowKit
def gentleF (t : GTask) : Bool := tameF t && (decide (manyF 100 t.Vars 1 ≤ 100) && (decide (t.Ops.length ≤ 8) && t.Ops.all fun o => decide (condN o.Effs ≤ 1)))
theorem gentle1 (o : GOp) : ∀ (r : List GEffect) (i : Int) (v : Nat), v + r.length ≤ 1000000 → Rg (M_l31_gentle_L1_B o) (M_l31_gentle_L1_E o) r i v = some ((v + condN r : Nat) : Int)
  | [], i, v, _ => rfl
  | e :: r, i, v, h => by
    rw [List.length_cons] at h
    rw [Rg, M_l31_gentle_L1_B, ixv, sel_dec, List.length_map, condN_cons]
    by_cases h2 : 0 < e.When.length
    · rw [if_pos (by omega), if_pos h2, wrap_eq (by omega) (by omega), show ((v : Int) + 1) = ((v + 1 : Nat) : Int) from rfl, gentle1 o r _ (v + 1) (by omega), Nat.add_assoc]
    · rw [if_neg (by omega), if_neg h2, gentle1 o r _ v (by omega), Nat.zero_add]
theorem gentle_tame {t : GTask} (h : gentleF t = true) : tameF t = true := by
  unfold gentleF at h
  rw [Bool.and_eq_true] at h
  exact h.1
theorem gentle_eq (t : GTask) (ht : ShT t) : M_l31_gentle t = some (gentleF t) := by
  rw [M_l31_gentle, tame_eq t ht, gentleF]
  cases hs : tameF t with
  | false => rfl
  | true =>
    obtain ⟨hgood, hv, ho⟩ := small_good (tame_small hs)
    rw [ob1_some, Bool.not_true, sel_ff, many_eq t.Vars ht.vars 100 (by decide), ob1_some, sel_dec, Bool.true_and]
    by_cases h1 : manyF 100 t.Vars 1 ≤ 100
    · rw [if_neg (by omega), decide_eq_true h1, Bool.true_and, sel_dec, List.length_map]
      by_cases h2 : t.Ops.length ≤ 8
      · have e2 := M_l31_gentle_L2_eq t (by omega)
        rw [List.length_map] at e2
        rw [if_neg (by omega), decide_eq_true h2, Bool.true_and, ob1_some, osum_inl, e2, rg_all (p := fun o : GOp => decide (condN o.Effs ≤ 1)) (c := some false), M_l31_gentle_L2_E]
        · cases t.Ops.all fun o => decide (condN o.Effs ≤ 1) <;> rfl
        · intro o hom i rc
          have hl := (good_op hgood hom).effs
          have e1 := M_l31_gentle_L1_eq o 0 (show o.Effs.length < _ by omega)
          have e1' : Rg (M_l31_gentle_L1_B o) (M_l31_gentle_L1_E o) o.Effs 0 0 = _ := gentle1 o o.Effs 0 0 (by omega)
          rw [M_l31_gentle_L2_B, ixv, e1, e1', Nat.zero_add, ob1_some, sel_dec]
          by_cases h3 : condN o.Effs ≤ 1
          · rw [if_neg (by omega), if_pos (decide_eq_true h3)]; rfl
          · rw [if_pos (by omega), if_neg (by simpa using h3)]; rfl
      · rw [if_pos (by omega), decide_eq_false h2]; rfl
    · rw [if_pos (by omega), decide_eq_false h1]; rfl
def fewF (c : GCertificate) : Bool := (c.Nogoods.all fun n => decide (n.1.length ≤ 20)) && decide (c.Nogoods.length ≤ 12)
theorem few_eq (c : GCertificate) (hc : ShC c) : M_l31_few c = some (fewF c) := by
  have e1 := M_l31_few_L1_eq c hc.list.lt
  rw [M_l31_few, e1, rg_all (p := fun n : Nogood => decide (n.1.length ≤ 20)) (c := some false), M_l31_few_L1_E, fewF, List.length_map]
  · have : decide ((c.Nogoods.length : Int) ≤ 12) = decide (c.Nogoods.length ≤ 12) := by congr 1; apply propext; omega
    rw [this]
    cases c.Nogoods.all fun n => decide (n.1.length ≤ 20) <;> rfl
  · intro n _ i rc
    rw [M_l31_few_L1_B, ixv, sel_dec, List.length_map]
    by_cases h : n.1.length ≤ 20
    · rw [if_neg (by omega), if_pos (decide_eq_true h)]
    · rw [if_pos (by omega), if_neg (by simpa using h)]
theorem guard3' {γ : Type} {b1 b2 : Bool} {K : Unit ⊕ Bool → Option γ} {x : Option γ} (h1 : b1 = true → b2 = true → K (.inl ()) = x) (h2 : K (.inr true) = x) : ob1 (ob1 (some b1) (fun z9 => sel (!z9) (ob1 (some true) (fun z14 => some (.inr z14))) (ob1 (some b2) (fun z10 => sel (!z10) (ob1 (some true) (fun z13 => some (.inr z13))) (ob1 (some true) (fun z11 => sel (!z11) (ob1 (some true) (fun z12 => some (.inr z12))) (some (.inl ()))))))) : Option (Unit ⊕ Bool)) K = x := by
  cases b1
  · exact h2
  · cases b2
    · exact h2
    · exact h1 rfl rfl
end Go.Proofs.YtcpajbglcgbolaaGreat.Am
namespace Go.Proofs.YtcpajbglcgbolaaGreat.Am
open Go.RowKit
theorem joinLL_sub {a b : List (List Fact)} {z : List Fact} (h : z ∈ joinLL a b) : ∃ x ∈ a, ∃ y ∈ b, ∀ w, w ∈ z ↔ w ∈ x ∨ w ∈ y := by
  obtain ⟨x, hx, y, hy, hj⟩ := (joinLL_mem z a b).1 h
  exact ⟨x, hx, y, hy, (joinO_some hj).2⟩
structure OneC (v : Int) (w : List Fact) (es : List GEffect) : Prop where
  one : condN es ≤ 1
  is : ∀ e ∈ es, 0 < e.When.length → e.Var = v ∧ e.When = w
theorem condN_zero {es : List GEffect} (h : condN es = 0) : ∀ e ∈ es, e.When = [] := fun e he => by
  refine Decidable.byContradiction fun hne => ?_
  have : e ∈ es.filter fun e => decide (0 < e.When.length) := List.mem_filter.2 ⟨he, decide_eq_true (List.length_pos_iff.2 hne)⟩
  have := List.length_pos_of_mem this
  unfold condN at h
  omega
theorem OneC.tail {v : Int} {w : List Fact} {e : GEffect} {es : List GEffect} (h : OneC v w (e :: es)) : OneC v w es := by
  have h1 := h.one
  rw [condN_cons] at h1
  exact ⟨by omega, fun u hu => h.is u (List.mem_cons_of_mem _ hu)⟩
theorem OneC.rest {v : Int} {w : List Fact} {e : GEffect} {es : List GEffect} (h : OneC v w (e :: es)) (he : e.When ≠ []) : e.When = w ∧ ∀ u ∈ es, u.When = [] := by
  have h1 := h.one
  have hp := List.length_pos_iff.2 he
  rw [condN_cons, if_pos hp] at h1
  exact ⟨(h.is e (List.mem_cons_self ..) hp).2, condN_zero (by omega)⟩
theorem oneC_of {es : List GEffect} (h : condN es ≤ 1) (h2 : twoF es = true) : ∃ v w, w.length ≤ 2 ∧ OneC v w es := by
  by_cases h0 : condN es = 0
  · exact ⟨0, [], by decide, h, fun e he hp => by rw [condN_zero h0 e he] at hp; exact absurd hp (by decide)⟩
  · have h1 : (es.filter fun e => decide (0 < e.When.length)).length = 1 := by unfold condN at h h0; omega
    obtain ⟨e0, he0⟩ := List.length_eq_one_iff.1 h1
    have hm : e0 ∈ es.filter fun e => decide (0 < e.When.length) := by rw [he0]; exact List.mem_singleton.2 rfl
    refine ⟨e0.Var, e0.When, of_decide_eq_true (List.all_eq_true.1 h2 e0 (List.mem_filter.1 hm).1), h, fun e he hp => ?_⟩
    have : e ∈ es.filter fun e => decide (0 < e.When.length) := List.mem_filter.2 ⟨he, decide_eq_true hp⟩
    rw [he0, List.mem_singleton] at this
    rw [this]; exact ⟨rfl, rfl⟩
theorem OneC.filter {v : Int} {w : List Fact} {es : List GEffect} (h : OneC v w es) (p : GEffect → Bool) : OneC v w (es.filter p) := by
  refine ⟨?_, fun e he => h.is e (List.mem_filter.1 he).1⟩
  refine Nat.le_trans ?_ h.one
  unfold condN
  rw [List.filter_filter]
  have : (es.filter fun a => decide (0 < a.When.length) && p a) = (es.filter fun a => decide (0 < a.When.length)).filter p := by
    rw [List.filter_filter]
    exact List.filter_congr fun a _ => Bool.and_comm _ _
  rw [this]
  exact List.length_filter_le _ _
theorem joinX_nil (x : List Fact) (out : List (List Fact)) : joinX x [] out = out := rfl
theorem joinXX_nil : ∀ (a out : List (List Fact)), joinXX a [] out = out
  | [], _ => rfl
  | x :: r, out => by rw [joinXX, joinX_nil, joinXX_nil r]
theorem joinLL_nil (a : List (List Fact)) : joinLL a [] = [] := joinXX_nil a []
theorem joinX_le (x : List Fact) : ∀ (b out : List (List Fact)), (joinX x b out).length ≤ out.length + b.length
  | [], out => by rw [joinX]; simp
  | y :: r, out => by
    rw [joinX, List.length_cons]
    refine Nat.le_trans (joinX_le x r _) ?_
    split
    · have : (addN out ‹_›).length ≤ out.length + 1 := by unfold addN; split <;> simp
      omega
    · omega
theorem joinXX_le : ∀ (a b out : List (List Fact)), (joinXX a b out).length ≤ out.length + a.length * b.length
  | [], b, out => by rw [joinXX]; simp
  | x :: r, b, out => by
    have h1 := joinXX_le r b (joinX x b out)
    have h2 := joinX_le x b out
    rw [joinXX, List.length_cons, Nat.add_mul]
    omega
theorem joinLL_le (a b : List (List Fact)) : (joinLL a b).length ≤ a.length * b.length := by
  have := joinXX_le a b []
  rw [List.length_nil, Nat.zero_add] at this
  exact this
theorem silF_le {vars : List Int} (hd : ∀ n ∈ vars, n ≤ 4) : ∀ w : List Fact, (silF vars w).length ≤ w.length * 4
  | [] => Nat.le_refl _
  | f :: r => by
    have ih := silF_le hd r
    unfold silF at ih ⊢
    rw [List.flatMap_cons, List.length_append, List.length_cons]
    have h1 := silOne_len f (vars.getD f.1.toNat 0).toNat 0
    have h2 : vars.getD f.1.toNat 0 ≤ 4 := by
      rw [List.getD_eq_getElem?_getD]
      cases hg : vars[f.1.toNat]? with
      | none => simp
      | some n => exact hd n (List.mem_of_getElem? hg)
    omega
theorem capO_of {l : List (List Fact)} (h : l.length ≤ 1024) : capO l = some l := if_pos h
theorem quiet0 {vars : List Int} {f : Fact} : ∀ (es : List GEffect) (l : List (List Fact)), (∀ e ∈ es, e.When = []) → ∃ j, quietG vars f es l = some j ∧ (j = l ∨ j = [])
  | [], l, _ => ⟨l, rfl, .inl rfl⟩
  | e :: r, l, h => by
    have hr : ∀ u ∈ r, u.When = [] := fun u hu => h u (List.mem_cons_of_mem _ hu)
    rw [quietG]
    split
    · exact quiet0 r l hr
    · rw [h e (List.mem_cons_self ..)]
      have e1 : silF vars [] = [] := rfl
      rw [e1, capO_of (by decide), Option.bind_some, joinLL_nil, capO_of (by decide), Option.bind_some]
      obtain ⟨j, hj, h2⟩ := quiet0 (vars := vars) (f := f) r [] hr
      exact ⟨j, hj, .inr (by rcases h2 with h2 | h2 <;> exact h2)⟩
theorem quiet1 {vars : List Int} {f : Fact} {v : Int} {w : List Fact} (hs : (silF vars w).length ≤ 8) : ∀ (es : List GEffect) (x : List Fact), OneC v w es → ∃ j, quietG vars f es [x] = some j ∧ (j = [x] ∨ j = [] ∨ j = joinLL [x] (silF vars w))
  | [], x, _ => ⟨[x], rfl, .inl rfl⟩
  | e :: r, x, h => by
    rw [quietG]
    split
    · exact quiet1 hs r x h.tail
    · by_cases he : e.When = []
      · rw [he]
        have e1 : silF vars [] = [] := rfl
        rw [e1, capO_of (by decide), Option.bind_some, joinLL_nil, capO_of (by decide), Option.bind_some]
        have key : ∀ (es : List GEffect), OneC v w es → ∃ j, quietG vars f es [] = some j ∧ j = [] := by
          intro es
          induction es with
          | nil => intro _; exact ⟨[], rfl, rfl⟩
          | cons u r ih =>
            intro hu
            rw [quietG]
            split
            · exact ih hu.tail
            · have hsl : (silF vars u.When).length ≤ 8 := by
                by_cases hw : u.When = []
                · rw [hw]; exact Nat.zero_le _
                · rw [(hu.rest hw).1]; exact hs
              rw [capO_of (by omega), Option.bind_some]
              have : joinLL [] (silF vars u.When) = [] := rfl
              rw [this, capO_of (by decide), Option.bind_some]
              exact ih hu.tail
        obtain ⟨j, hj, h2⟩ := key r h.tail
        exact ⟨j, hj, .inr (.inl h2)⟩
      · obtain ⟨hw, hr⟩ := h.rest he
        have hjl := joinLL_le [x] (silF vars w)
        rw [List.length_singleton, Nat.one_mul] at hjl
        rw [hw, capO_of (by omega), Option.bind_some, capO_of (by omega), Option.bind_some]
        obtain ⟨j, hj, h2⟩ := quiet0 (vars := vars) (f := f) r (joinLL [x] (silF vars w)) hr
        exact ⟨j, hj, by rcases h2 with h2 | h2; exact .inr (.inr h2); exact .inr (.inl h2)⟩
theorem foldN_nodup {α : Type} [DecidableEq α] : ∀ (l out : List α), out.Nodup → (l.foldl addN out).Nodup
  | [], _, h => h
  | y :: r, _, h => foldN_nodup r _ (addN_nodup h y)
theorem nodup_le {α : Type} [DecidableEq α] : ∀ (l u : List α), l.Nodup → (∀ x ∈ l, x ∈ u) → l.length ≤ u.length
  | [], _, _, _ => Nat.zero_le _
  | x :: r, u, hn, hs => by
    obtain ⟨h1, h2⟩ := List.nodup_cons.1 hn
    have hx := hs x (List.mem_cons_self ..)
    have ih := nodup_le r (u.erase x) h2 (fun y hy => (List.mem_erase_of_ne (fun e : y = x => h1 (e ▸ hy))).2 (hs y (List.mem_cons_of_mem _ hy)))
    rw [List.length_erase_of_mem hx] at ih
    have := List.length_pos_of_mem hx
    rw [List.length_cons]; omega
theorem cases0 {vars : List Int} {f : Fact} : ∀ (es : List GEffect), (∀ e ∈ es, e.When = []) → ∃ out, casesG vars f es = some out ∧ out.Nodup ∧ ∀ z ∈ out, z = []
  | [], _ => ⟨[], rfl, List.nodup_nil, fun z hz => by cases hz⟩
  | e :: r, h => by
    obtain ⟨out, ho, hn, hz⟩ := cases0 (vars := vars) (f := f) r (fun u hu => h u (List.mem_cons_of_mem _ hu))
    rw [casesG, ho, Option.bind_some]
    split
    · obtain ⟨j, hj, hj2⟩ := quiet0 (vars := vars) (f := f) r [e.When] (fun u hu => h u (List.mem_cons_of_mem _ hu))
      rw [hj, Option.map_some]
      refine ⟨_, rfl, foldN_nodup _ _ hn, fun z hzm => ?_⟩
      rcases (foldN_mem z j out).1 hzm with hzm | hzm
      · exact hz z hzm
      · rcases hj2 with rfl | rfl
        · rw [List.mem_singleton.1 hzm]; exact h e (List.mem_cons_self ..)
        · cases hzm
    · exact ⟨out, rfl, hn, hz⟩
def uL (vars : List Int) (w : List Fact) : List (List Fact) := [] :: w :: joinLL [[]] (silF vars w)
theorem cases1c {vars : List Int} {f : Fact} {v : Int} {w : List Fact} (hs : (silF vars w).length ≤ 8) : ∀ (es : List GEffect), OneC v w es → ∃ out, casesG vars f es = some out ∧ out.Nodup ∧ ∀ z ∈ out, z ∈ uL vars w
  | [], _ => ⟨[], rfl, List.nodup_nil, fun z hz => by cases hz⟩
  | e :: r, h => by
    obtain ⟨out, ho, hn, hz⟩ := cases1c (f := f) hs r h.tail
    rw [casesG, ho, Option.bind_some]
    split
    · by_cases he : e.When = []
      · obtain ⟨j, hj, hj2⟩ := quiet1 (f := f) hs r e.When h.tail
        rw [hj, Option.map_some]
        refine ⟨_, rfl, foldN_nodup _ _ hn, fun z hzm => ?_⟩
        rcases (foldN_mem z j out).1 hzm with hzm | hzm
        · exact hz z hzm
        · rw [he] at hj2
          rcases hj2 with rfl | rfl | rfl
          · rw [List.mem_singleton.1 hzm]; exact List.mem_cons_self ..
          · cases hzm
          · exact List.mem_cons_of_mem _ (List.mem_cons_of_mem _ hzm)
      · obtain ⟨hw, hr⟩ := h.rest he
        obtain ⟨j, hj, hj2⟩ := quiet0 (vars := vars) (f := f) r [e.When] hr
        rw [hj, Option.map_some]
        refine ⟨_, rfl, foldN_nodup _ _ hn, fun z hzm => ?_⟩
        rcases (foldN_mem z j out).1 hzm with hzm | hzm
        · exact hz z hzm
        · rcases hj2 with rfl | rfl
          · rw [List.mem_singleton.1 hzm, hw]; exact List.mem_cons_of_mem _ (List.mem_cons_self ..)
          · cases hzm
    · exact ⟨out, rfl, hn, hz⟩
def uF (vars : List Int) (w : List Fact) (f : Fact) : List (List Fact) := [f] :: (uL vars w ++ joinLL [[f]] (silF vars w))
theorem uF_len {vars : List Int} {w : List Fact} (hs : (silF vars w).length ≤ 8) (f : Fact) : (uF vars w f).length ≤ 19 := by
  have h1 := joinLL_le [[]] (silF vars w)
  have h2 := joinLL_le [[f]] (silF vars w)
  rw [List.length_singleton, Nat.one_mul] at h1 h2
  unfold uF uL
  simp only [List.length_cons, List.length_append]
  omega
theorem casesO_0 {vars : List Int} {o : GOp} {f : Fact} (h : ∀ e ∈ o.Effs, e.Var = f.1 → e.When = []) : ∃ c, casesO vars o f = some c ∧ c.length ≤ 2 ∧ ∀ z ∈ c, z = [] ∨ z = [f] := by
  have hw : ∀ e ∈ o.Effs.filter (fun e => e.Var == f.1), e.When = [] := fun e he => by
    obtain ⟨h1, h2⟩ := List.mem_filter.1 he
    exact h e h1 (by simpa using h2)
  obtain ⟨out, ho, hn, hz⟩ := cases0 (vars := vars) (f := f) _ hw
  obtain ⟨j, hj, hj2⟩ := quiet0 (vars := vars) (f := f) _ [[f]] hw
  have hmem : ∀ z ∈ j.foldl addN out, z = [] ∨ z = [f] := fun z hzm => by
    rcases (foldN_mem z j out).1 hzm with hzm | hzm
    · exact .inl (hz z hzm)
    · rcases hj2 with rfl | rfl
      · exact .inr (List.mem_singleton.1 hzm)
      · cases hzm
  have hlen : (j.foldl addN out).length ≤ 2 := nodup_le _ [[], [f]] (foldN_nodup _ _ hn) (fun z hzm => by rcases hmem z hzm with rfl | rfl <;> simp)
  refine ⟨j.foldl addN out, ?_, hlen, hmem⟩
  rw [casesO, casesE, ho, Option.bind_some, hj, Option.map_some, Option.bind_some, capO_of (by omega)]
theorem casesO_1 {vars : List Int} {o : GOp} {f : Fact} {v : Int} {w : List Fact} (hs : (silF vars w).length ≤ 8) (h : OneC v w o.Effs) : ∃ c, casesO vars o f = some c ∧ c.length ≤ 19 ∧ ∀ z ∈ c, z ∈ uF vars w f := by
  have hw := h.filter (fun e => e.Var == f.1)
  obtain ⟨out, ho, hn, hz⟩ := cases1c (f := f) hs _ hw
  obtain ⟨j, hj, hj2⟩ := quiet1 (f := f) hs _ [f] hw
  have hmem : ∀ z ∈ j.foldl addN out, z ∈ uF vars w f := fun z hzm => by
    rcases (foldN_mem z j out).1 hzm with hzm | hzm
    · exact List.mem_cons_of_mem _ (List.mem_append.2 (.inl (hz z hzm)))
    · rcases hj2 with rfl | rfl | rfl
      · rw [List.mem_singleton.1 hzm]; exact List.mem_cons_self ..
      · cases hzm
      · exact List.mem_cons_of_mem _ (List.mem_append.2 (.inr hzm))
  have hlen : (j.foldl addN out).length ≤ 19 := Nat.le_trans (nodup_le _ _ (foldN_nodup _ _ hn) hmem) (uF_len hs f)
  refine ⟨j.foldl addN out, ?_, hlen, hmem⟩
  rw [casesO, casesE, ho, Option.bind_some, hj, Option.map_some, Option.bind_some, capO_of (by omega)]
theorem regG_some {vars : List Int} {o : GOp} {v : Int} {w : List Fact} (hs : (silF vars w).length ≤ 8) (h : OneC v w o.Effs) : ∀ (p : List Fact) (l : List (List Fact)) (c : Nat), Asc p → ((∃ f ∈ p, f.1 = v) → 10 ≤ c) → 1 ≤ c → l.length * (2 ^ p.length * c) ≤ 1024 → ∃ j, regG vars o p l = some j
  | [], l, c, _, _, _, _ => ⟨l, rfl⟩
  | f :: r, l, c, ha, hc, h1, hl => by
    obtain ⟨ha1, ha2⟩ := List.pairwise_cons.1 ha
    rw [List.length_cons, Nat.pow_succ] at hl
    have hp : 1 ≤ 2 ^ r.length := Nat.one_le_two_pow
    by_cases hv : f.1 = v
    · obtain ⟨cs, hcs, hlen, -⟩ := casesO_1 (f := f) hs h
      have hj := joinLL_le l cs
      have hc10 := hc ⟨f, List.mem_cons_self .., hv⟩
      have hm : (joinLL l cs).length * 2 ^ r.length ≤ 1024 := by
        have a1 : (joinLL l cs).length ≤ l.length * 20 := Nat.le_trans hj (Nat.mul_le_mul_left _ (by omega))
        have a2 : l.length * 20 * 2 ^ r.length ≤ l.length * (2 ^ r.length * 2 * c) := by
          rw [Nat.mul_assoc]
          refine Nat.mul_le_mul_left _ ?_
          rw [Nat.mul_comm 20, Nat.mul_assoc]
          exact Nat.mul_le_mul_left _ (by omega)
        exact Nat.le_trans (Nat.mul_le_mul_right _ a1) (Nat.le_trans a2 hl)
      have hcap : (joinLL l cs).length ≤ 1024 := Nat.le_trans (Nat.le_mul_of_pos_right _ hp) hm
      rw [regG, hcs, Option.bind_some, capO_of hcap, Option.bind_some]
      refine regG_some hs h r _ 1 ha2 ?_ (Nat.le_refl _) (by rw [Nat.mul_one]; exact hm)
      rintro ⟨u, hu, e⟩
      have := ha1 u hu
      omega
    · obtain ⟨cs, hcs, hlen, -⟩ := casesO_0 (vars := vars) (o := o) (f := f) (fun e he hev => Decidable.byContradiction fun hne => by
        have := (h.is e he (List.length_pos_iff.2 hne)).1
        omega)
      have hj := joinLL_le l cs
      have hm : (joinLL l cs).length * (2 ^ r.length * c) ≤ 1024 := by
        have a1 : (joinLL l cs).length ≤ l.length * 2 := Nat.le_trans hj (Nat.mul_le_mul_left _ hlen)
        have a2 : l.length * 2 * (2 ^ r.length * c) = l.length * (2 ^ r.length * 2 * c) := by
          rw [Nat.mul_assoc, ← Nat.mul_assoc 2, Nat.mul_comm 2]
        exact Nat.le_trans (Nat.mul_le_mul_right _ a1) (by rw [a2]; exact hl)
      have hpc : 1 ≤ 2 ^ r.length * c := Nat.mul_pos hp h1
      have hcap : (joinLL l cs).length ≤ 1024 := Nat.le_trans (Nat.le_mul_of_pos_right _ hpc) hm
      rw [regG, hcs, Option.bind_some, capO_of hcap, Option.bind_some]
      exact regG_some hs h r _ c ha2 (fun ⟨u, hu, e⟩ => hc ⟨u, List.mem_cons_of_mem _ hu, e⟩) h1 hm
theorem regG_sub {vars : List Int} {o : GOp} : ∀ (p : List Fact) (l j : List (List Fact)), regG vars o p l = some j → ∀ z ∈ j, ∃ x ∈ l, ∀ u ∈ x, u ∈ z
  | [], l, j, h, z, hz => by rw [regG] at h; cases h; exact ⟨z, hz, fun _ h => h⟩
  | f :: r, l, j, h, z, hz => by
    rw [regG] at h
    cases hc : casesO vars o f with
    | none => rw [hc] at h; cases h
    | some c =>
      rw [hc, Option.bind_some] at h
      cases hj : capO (joinLL l c) with
      | none => rw [hj] at h; cases h
      | some m =>
        rw [hj, Option.bind_some] at h
        obtain ⟨rfl, -⟩ := capO_some hj
        obtain ⟨x1, hx1, hs⟩ := regG_sub r _ j h z hz
        obtain ⟨x, hx, y, hy, he⟩ := joinLL_sub hx1
        exact ⟨x, hx, fun u hu => hs u ((he u).2 (.inl hu))⟩
def stayL (vars : List Int) (o : GOp) (v : Int) (p : List Fact) : List Fact := p.filter fun f => decide (f.1 ≠ v) && !decide ([] ∈ (casesO vars o f).getD [])
theorem regG_small {vars : List Int} {o : GOp} {v : Int} {w : List Fact} (hs : (silF vars w).length ≤ 8) (h : OneC v w o.Effs) : ∀ (p : List Fact) (l j : List (List Fact)), Asc p → PropL vars l → (∀ f ∈ p, propF vars (-1) [f] = true) → WhenP vars o.Effs → regG vars o p l = some j → ∀ z ∈ j, propF vars (-1) z = true → ∀ x ∈ l, (∀ u ∈ x, u ∈ z) →
    ∃ z' ∈ j, (∀ u ∈ z', u ∈ z) ∧ ∃ q : List Fact, (q = [] ∨ ∃ f ∈ p, f.1 = v ∧ q ∈ uF vars w f) ∧ ∀ u, u ∈ z' ↔ u ∈ x ∨ u ∈ stayL vars o v p ∨ u ∈ q
  | [], l, j, _, _, _, _, hj, z, _, _, x, hx, hxz => by
    rw [regG] at hj
    cases hj
    exact ⟨x, hx, hxz, [], .inl rfl, fun u => by simp [stayL]⟩
  | f :: r, l, j, ha, hl, hpf, hwp, hj, z, hz, hzp, x, hx, hxz => by
    obtain ⟨ha1, ha2⟩ := List.pairwise_cons.1 ha
    rw [regG] at hj
    cases hc : casesO vars o f with
    | none => rw [hc] at hj; cases hj
    | some c =>
      rw [hc, Option.bind_some] at hj
      cases hcap : capO (joinLL l c) with
      | none => rw [hcap] at hj; cases hj
      | some m =>
        rw [hcap, Option.bind_some] at hj
        obtain ⟨rfl, -⟩ := capO_some hcap
        have hcp := (casesO_prop hwp (hpf f (List.mem_cons_self ..)) hc).1
        obtain ⟨x1, hx1, hsub⟩ := regG_sub r _ j hj z hz
        obtain ⟨x0, hx0, y, hy, he⟩ := joinLL_sub hx1
        have hyz : ∀ u ∈ y, u ∈ z := fun u hu => hsub u ((he u).2 (.inr hu))
        obtain ⟨hzn, hza, hzr⟩ := prop_vf hzp
        have hjoin : ∀ y' ∈ c, (∀ u ∈ y', u ∈ z) → ∃ x1' ∈ joinLL l c, (∀ u, u ∈ x1' ↔ u ∈ x ∨ u ∈ y') := fun y' hy' hyz' => by
          cases hjo : joinO x y' with
          | some x1' => exact ⟨x1', (joinLL_mem x1' l c).2 ⟨x, hx, y', hy', hjo⟩, (joinO_some hjo).2⟩
          | none =>
            refine absurd ?_ (joinO_none (propF_vF' (hl x hx)) (propF_vF' (hcp y' hy')) hjo)
            intro u hu u' hu' e
            have hm : ∀ u ∈ x ++ y', u ∈ z := fun u hu => by rcases List.mem_append.1 hu with h | h; exact hxz u h; exact hyz' u h
            rw [asc_inj hza (hm u hu) (hm u' hu') e]
        have hlj : PropL vars (joinLL l c) := joinLL_prop hl hcp
        have hstep : ∀ y' ∈ c, (∀ u ∈ y', u ∈ z) → ∃ z' ∈ j, (∀ u ∈ z', u ∈ z) ∧ ∃ q : List Fact, (q = [] ∨ ∃ g ∈ r, g.1 = v ∧ q ∈ uF vars w g) ∧ ∀ u, u ∈ z' ↔ (u ∈ x ∨ u ∈ y') ∨ u ∈ stayL vars o v r ∨ u ∈ q := fun y' hy' hyz' => by
          obtain ⟨x1', m1, m2⟩ := hjoin y' hy' hyz'
          obtain ⟨z', z1, z2, q, q1, q2⟩ := regG_small hs h r _ j ha2 hlj (fun g hg => hpf g (List.mem_cons_of_mem _ hg)) hwp hj z hz hzp x1' m1 (fun u hu => by rcases (m2 u).1 hu with h | h; exact hxz u h; exact hyz' u h)
          exact ⟨z', z1, z2, q, q1, fun u => by rw [q2 u, m2 u]⟩
        by_cases hv : f.1 = v
        · obtain ⟨z', z1, z2, q, q1, q2⟩ := hstep y hy hyz
          have hq0 : q = [] := by
            rcases q1 with q1 | ⟨g, hg, hgv, -⟩
            · exact q1
            · have := ha1 g hg; omega
          subst hq0
          obtain ⟨c', hc', -, hcu⟩ := casesO_1 (vars := vars) (o := o) (f := f) hs h
          rw [hc] at hc'
          obtain rfl := Option.some.inj hc'
          refine ⟨z', z1, z2, y, .inr ⟨f, List.mem_cons_self .., hv, hcu y hy⟩, fun u => ?_⟩
          have hk : stayL vars o v (f :: r) = stayL vars o v r := by unfold stayL; rw [List.filter_cons, if_neg (by simp [hv])]
          rw [q2 u, hk]
          simp only [List.not_mem_nil, or_false]
          rw [or_assoc, or_comm (a := u ∈ y)]
        · obtain ⟨c', hc', -, hcu⟩ := casesO_0 (vars := vars) (o := o) (f := f) (fun e he hev => Decidable.byContradiction fun hne => by
            have := (h.is e he (List.length_pos_iff.2 hne)).1
            omega)
          rw [hc] at hc'
          obtain rfl := Option.some.inj hc'
          by_cases hnil : ([] : List Fact) ∈ c
          · obtain ⟨z', z1, z2, q, q1, q2⟩ := hstep [] hnil (fun u hu => by cases hu)
            refine ⟨z', z1, z2, q, q1.imp id (fun ⟨g, hg, h1, h2⟩ => ⟨g, List.mem_cons_of_mem _ hg, h1, h2⟩), fun u => ?_⟩
            have hk : stayL vars o v (f :: r) = stayL vars o v r := by unfold stayL; rw [List.filter_cons, if_neg (by simp [hc, hnil])]
            rw [q2 u, hk]
            simp only [List.not_mem_nil, or_false]
          · have hyf : y = [f] := (hcu y hy).resolve_left fun e => hnil (e ▸ hy)
            subst hyf
            obtain ⟨z', z1, z2, q, q1, q2⟩ := hstep [f] hy hyz
            refine ⟨z', z1, z2, q, q1.imp id (fun ⟨g, hg, h1, h2⟩ => ⟨g, List.mem_cons_of_mem _ hg, h1, h2⟩), fun u => ?_⟩
            have hk : stayL vars o v (f :: r) = f :: stayL vars o v r := by unfold stayL; rw [List.filter_cons, if_pos (by simp [hv, hc, hnil])]
            rw [q2 u, hk, List.mem_singleton, List.mem_cons, or_assoc, or_assoc]
theorem regO_few {t : GTask} (hgood : goodF t = true) (hd : ∀ n ∈ t.Vars, n ≤ 4) (hv6 : t.Vars.length ≤ 6) {p : List Fact} (hpf : propF t.Vars (-1) p = true) {o : GOp} (ho : o ∈ t.Ops) (h1 : condN o.Effs ≤ 1) (h2 : twoF o.Effs = true) : ∃ l, regO t.Vars o p = some l ∧ l.length ≤ 20 := by
  obtain ⟨v, w, hw, hone⟩ := oneC_of h1 h2
  have hs : (silF t.Vars w).length ≤ 8 := by have := silF_le hd w; omega
  obtain ⟨hpn, hpa, hpr⟩ := prop_vf hpf
  have hpl := propF_len' hpf
  have hoo := good_op hgood ho
  have hp6 : 2 ^ p.length ≤ 64 := Nat.le_trans (Nat.pow_le_pow_right (by decide) (show p.length ≤ 6 by omega)) (by decide)
  obtain ⟨m, hm⟩ := regG_some hs hone p [o.Pre] 10 hpa (fun _ => Nat.le_refl _) (by decide) (by rw [List.length_singleton]; omega)
  obtain ⟨m1, m2, m3⟩ := pre_prop hgood hpf ho hm
  refine ⟨sortLL (minF m), by rw [regO, hm, Option.map_some], ?_⟩
  rw [sortLL_length]
  have hprep : PropL t.Vars [o.Pre] := fun x hx => by rw [List.mem_singleton.1 hx]; exact hoo.pre
  have key : ∀ z ∈ minF m, ∃ q : List Fact, (q = [] ∨ ∃ f ∈ p, f.1 = v ∧ q ∈ uF t.Vars w f) ∧ ∀ u, u ∈ z ↔ u ∈ o.Pre ∨ u ∈ stayL t.Vars o v p ∨ u ∈ q := fun z hz => by
    obtain ⟨hzm, hzk⟩ := List.mem_filter.1 hz
    obtain ⟨x, hx, hxz⟩ := regG_sub p _ m hm z hzm
    rw [List.mem_singleton.1 hx] at hxz
    obtain ⟨z', z1, z2, q, q1, q2⟩ := regG_small hs hone p [o.Pre] m hpa hprep (fun f hf => propF_one hpf hf) hoo.when hm z hzm (m1 z hzm) o.Pre (List.mem_singleton.2 rfl) hxz
    have hzz : z' = z := by
      unfold keepF at hzk
      have := List.all_eq_true.1 hzk z' z1
      rw [subF_iff.2 z2] at this
      simpa using this
    subst hzz
    exact ⟨q, q1, q2⟩
  obtain ⟨U, hU, hUq⟩ : ∃ U : List (List Fact), U.length ≤ 20 ∧ ∀ q : List Fact, (q = [] ∨ ∃ f ∈ p, f.1 = v ∧ q ∈ uF t.Vars w f) → q ∈ U := by
    by_cases hf : ∃ f ∈ p, f.1 = v
    · obtain ⟨f, hf, hfv⟩ := hf
      refine ⟨[] :: uF t.Vars w f, by rw [List.length_cons]; have := uF_len hs f; omega, fun q hq => ?_⟩
      rcases hq with rfl | ⟨g, hg, hgv, hq⟩
      · exact List.mem_cons_self ..
      · have : g = f := asc_inj hpa hg hf (by omega)
        rw [this] at hq
        exact List.mem_cons_of_mem _ hq
    · refine ⟨[[]], by decide, fun q hq => ?_⟩
      rcases hq with rfl | ⟨g, hg, hgv, hq⟩
      · exact List.mem_cons_self ..
      · exact absurd ⟨g, hg, hgv⟩ hf
  have hinj : ∀ (l : List (List Fact)), l.Nodup → (∀ z ∈ l, z ∈ minF m) → ∃ qs : List (List Fact), qs.length = l.length ∧ qs.Nodup ∧ (∀ q ∈ qs, q ∈ U) ∧ ∀ q ∈ qs, ∃ z ∈ l, ∀ u, u ∈ z ↔ u ∈ o.Pre ∨ u ∈ stayL t.Vars o v p ∨ u ∈ q := by
    intro l
    induction l with
    | nil => intro _ _; exact ⟨[], rfl, List.nodup_nil, (fun q hq => by cases hq), (fun q hq => by cases hq)⟩
    | cons z r ih =>
      intro hn hz
      obtain ⟨n1, n2⟩ := List.nodup_cons.1 hn
      obtain ⟨qs, a1, a2, a3, a4⟩ := ih n2 (fun u hu => hz u (List.mem_cons_of_mem _ hu))
      obtain ⟨q, q1, q2⟩ := key z (hz z (List.mem_cons_self ..))
      refine ⟨q :: qs, by rw [List.length_cons, List.length_cons, a1], List.nodup_cons.2 ⟨fun hq => ?_, a2⟩, fun u hu => ?_, fun u hu => ?_⟩
      · obtain ⟨z2, hz2, e2⟩ := a4 q hq
        have : z = z2 := asc_unique z z2 (prop_vf (m1 z (List.mem_filter.1 (hz z (List.mem_cons_self ..))).1)).2.1 (prop_vf (m1 z2 (List.mem_filter.1 (hz z2 (List.mem_cons_of_mem _ hz2))).1)).2.1 (fun u => by rw [q2 u, e2 u])
        exact n1 (this ▸ hz2)
      · rcases List.mem_cons.1 hu with rfl | hu
        · exact hUq u q1
        · exact a3 u hu
      · rcases List.mem_cons.1 hu with rfl | hu
        · exact ⟨z, List.mem_cons_self .., q2⟩
        · obtain ⟨z2, hz2, e2⟩ := a4 u hu
          exact ⟨z2, List.mem_cons_of_mem _ hz2, e2⟩
  obtain ⟨qs, a1, a2, a3, -⟩ := hinj (minF m) (m2.filter _) (fun _ h => h)
  rw [← a1]
  exact Nat.le_trans (nodup_le qs U a2 a3) hU
end Go.Proofs.YtcpajbglcgbolaaGreat.Am
namespace Go.Proofs.YtcpajbglcgbolaaGreat.Am
open Go.RowKit
def claimsF (ns : List Nogood) (s : List Int) (d : Int) : Bool := ns.any fun n => decide (n.2 ≤ d) && holdsF s n.1
theorem some_count {s : List Int} {ns : List Nogood} {d : Int} : some1 s (countL ns d) ↔ claimsF ns s d = true := by
  unfold some1 countL claimsF
  rw [List.any_eq_true]
  constructor
  · rintro ⟨z, hz, h⟩
    obtain ⟨n, hn, rfl⟩ := List.mem_map.1 hz
    obtain ⟨h1, h2⟩ := List.mem_filter.1 hn
    exact ⟨n, h1, by rw [h2, h]; rfl⟩
  · rintro ⟨n, hn, h⟩
    rw [Bool.and_eq_true] at h
    exact ⟨n.1, List.mem_map.2 ⟨n, List.mem_filter.2 ⟨hn, h.1⟩, rfl⟩, h.2⟩
def covB (t : GTask) (c : GCertificate) (d : Int) (p : List Fact) : Bool := (covA t.Vars p (countL c.Nogoods d)).1
theorem covB_true {t : GTask} (hgood : goodF t = true) {c : GCertificate} (hc : CertP t.Vars c) {p : List Fact} (hp : propF t.Vars (-1) p = true) (d : Int) : covB t c d p = true ↔ ∀ s, stateF t.Vars s = true → holdsF s p = true → claimsF c.Nogoods s d = true := by
  rw [covB, covA_true (good_dom hgood) hp (count_prop hc d)]
  exact forall_congr' fun s => by rw [some_count]
def inF (o : GOp) (p : List Fact) (s : List Int) : Bool := holdsF s o.Pre && holdsF (nextF s o) p
theorem inF_iff {t : GTask} (hgood : goodF t = true) {o : GOp} (ho : o ∈ t.Ops) {s : List Int} (hs : StP t.Vars s) {p : List Fact} (hp : propF t.Vars (-1) p = true) {l : List (List Fact)} (h : regO t.Vars o p = some l) : some1 s l ↔ inF o p s = true := by
  rw [some_regO hgood ho hs hp h, inF, Bool.and_eq_true, holds_next hgood hs ho hp]
structure Acc (t : GTask) (c : GCertificate) : Prop where
  init : ∀ n ∈ c.Nogoods, holdsF t.Init n.1 = false
  goal : c.Bound ≠ 0 → ∀ s ∈ allF t, holdsF s t.Goal = true → claimsF c.Nogoods s 0 = true
  step : ∀ n ∈ c.Nogoods, ∀ o ∈ t.Ops, skipO c n o = false → ∀ s ∈ allF t, inF o n.1 s = true → claimsF c.Nogoods s (distO c n o) = true
theorem good_goal {t : GTask} (h : goodF t = true) : propF t.Vars (-1) t.Goal = true := by
  unfold goodF at h
  simp only [Bool.and_eq_true] at h
  exact h.2.2.2.1
end Go.Proofs.YtcpajbglcgbolaaGreat.Am
namespace Go.Proofs.YtcpajbglcgbolaaGreat.Am
open Go.RowKit
theorem sum_ge (c : Int → Nat) : ∀ (m : Nat) (x : Int), (∀ y, x ≤ y → y < x + m → 1 ≤ c y) → m ≤ ((List.range m).map fun k : Nat => c (x + k)).sum
  | 0, _, _ => Nat.zero_le _
  | m + 1, x, h => by
    have e : ((fun k : Nat => c (x + k)) ∘ Nat.succ) = fun k : Nat => c (x + 1 + k) := by
      funext k; simp only [Function.comp, Nat.succ_eq_add_one]; congr 1; omega
    rw [List.range_succ_eq_map, List.map_cons, List.sum_cons, List.map_map, e]
    have h0 := h (x + (0 : Nat)) (by omega) (by omega)
    have ih := sum_ge c m (x + 1) (fun y h1 h2 => h y (by omega) (by omega))
    omega
theorem kids_cost2 (f : Int → Bool × Int) (c : Int → Nat) : ∀ (m : Nat) (x a : Int), (∀ y, x ≤ y → y < x + m → 1 ≤ (f y).2 ∧ (f y).2 + 1 ≤ 2 * (c y : Int)) → (kids f m x a).2 + m ≤ a + 2 * ((((List.range m).map fun k : Nat => c (x + k)).sum : Nat) : Int)
  | 0, x, a, _ => by simp [kids]
  | m + 1, x, a, h => by
    have h0 := h x (Int.le_refl _) (by omega)
    have e : ((fun k : Nat => c (x + k)) ∘ Nat.succ) = fun k : Nat => c (x + 1 + k) := by
      funext k; simp only [Function.comp, Nat.succ_eq_add_one]; congr 1; omega
    have e0 : x + ((0 : Nat) : Int) = x := by omega
    rw [List.range_succ_eq_map, List.map_cons, List.sum_cons, List.map_map, e, e0, Int.natCast_add]
    have hs := sum_ge c m (x + 1) (fun y h1 h2 => by have := h y (by omega) (by omega); omega)
    rw [kids]
    split
    · have ih := kids_cost2 f c m (x + 1) (a + (f x).2) (fun y h1 h2 => h y (by omega) (by omega))
      omega
    · show a + (f x).2 + _ ≤ _; omega
theorem decA_cost2 {vars : List Int} (h2 : ∀ n ∈ vars, 2 ≤ n) (S : List (List Int)) (hS : ∀ s, stateF vars s = true → s ∈ S) : ∀ (d : Nat) (p : List Fact) (l : List (List Fact)), DecP vars d p l → (decA vars d p l).2 + 1 ≤ 2 * (cntS S p : Int)
  | 0, p, l, h => h.zero.elim
  | d + 1, p, l, h => by
    have hone : 1 ≤ cntS S p := by
      obtain ⟨s, s1, s2⟩ := some_state h.dom h.prop
      exact List.length_pos_of_mem (List.mem_filter.2 ⟨hS s s1, s2⟩)
    rw [decA]
    split
    · show (1 : Int) + 1 ≤ _; omega
    · split
      · show (1 : Int) + 1 ≤ _; omega
      · rename_i hc hl
        obtain ⟨l1, l2, l3⟩ := h.low hl
        have hm2 : 2 ≤ vars.getD (lowL p (restP p l) vars.length).toNat 0 := by
          rw [List.getD_eq_getElem?_getD, List.getElem?_eq_getElem (by omega), Option.getD_some]
          exact h2 _ (List.getElem_mem _)
        have hk := kids_cost2 (fun x => decA vars d (pwithF p (lowL p (restP p l) vars.length, x)) (restP p l)) (fun x => cntS S (pwithF p (lowL p (restP p l) vars.length, x))) (vars.getD (lowL p (restP p l) vars.length).toNat 0).toNat 0 1
          (fun y y0 y1 => ⟨decA_pos vars d _ _, decA_cost2 h2 S hS d _ _ (h.kid hl y0 (by omega))⟩)
        have hsum := cnt_split (lowL p (restP p l) vars.length) p S (vars.getD (lowL p (restP p l) vars.length).toNat 0).toNat 0 (fun x => cntS S (pwithF p (lowL p (restP p l) vars.length, x))) (fun y => by
          unfold cntS
          refine Nat.le_of_eq (congrArg List.length (List.filter_congr fun s _ => ?_))
          rw [Bool.eq_iff_iff, holds_pwith, Bool.and_eq_true])
        have hle : (S.filter fun s => holdsF s p && decide (0 ≤ s.getD (lowL p (restP p l) vars.length).toNat 0)).length ≤ cntS S p := by
          unfold cntS
          rw [show (S.filter fun s => holdsF s p && decide (0 ≤ s.getD (lowL p (restP p l) vars.length).toNat 0)) = (S.filter fun s => holdsF s p).filter fun s => decide (0 ≤ s.getD (lowL p (restP p l) vars.length).toNat 0) from by
            rw [List.filter_filter]; exact List.filter_congr fun s _ => Bool.and_comm _ _]
          exact List.length_filter_le _ _
        have := Nat.le_trans hsum hle
        omega
theorem statesG_lenM (M : Nat) (hM : 64 ≤ M) : ∀ (r : List Int) (out : List (List Int)), (∀ k ∈ r, 1 ≤ k ∧ k ≤ 64) → out.length ≤ M → manyF M r out.length ≤ M → (statesG r out).length ≤ M
  | [], out, _, hl, _ => hl
  | k :: r, out, hk, hl, hm => by
    obtain ⟨k1, k2⟩ := hk k (List.mem_cons_self ..)
    have hmin : min (max k 0) ((M : Int) + 1) = k := by omega
    rw [manyF, hmin] at hm
    have hb : ¬ ((out.length : Int) * k > M) := fun h => by rw [if_pos h] at hm; omega
    rw [if_neg hb] at hm
    obtain ⟨m, rfl⟩ : ∃ m : Nat, k = m := ⟨k.toNat, by omega⟩
    have hlen : (out.flatMap fun s => extF s m 0).length = out.length * m := flat_ext_len m out
    have hcast : (out.length : Int) * (m : Int) = ((out.length * m : Nat) : Int) := by rw [Int.natCast_mul]
    rw [statesG, Int.toNat_natCast]
    exact statesG_lenM M hM r _ (fun u hu => hk u (List.mem_cons_of_mem _ hu)) (by rw [hlen]; omega) (by rw [hlen, ← hcast]; exact hm)
theorem many_pow : ∀ (r : List Int) (n : Nat), (∀ k ∈ r, 2 ≤ k ∧ k ≤ 64) → n ≤ 100 → manyF 100 r n ≤ 100 → n * 2 ^ r.length ≤ 100
  | [], n, _, hl, _ => by simpa using hl
  | k :: r, n, hk, hl, hm => by
    obtain ⟨k1, k2⟩ := hk k (List.mem_cons_self ..)
    have hmin : min (max k 0) ((100 : Int) + 1) = k := by omega
    rw [manyF, hmin] at hm
    have hb : ¬ ((n : Int) * k > 100) := fun h => by rw [if_pos h] at hm; omega
    rw [if_neg hb] at hm
    obtain ⟨m, rfl⟩ : ∃ m : Nat, k = m := ⟨k.toNat, by omega⟩
    have hcast : (n : Int) * (m : Int) = ((n * m : Nat) : Int) := by rw [Int.natCast_mul]
    rw [hcast] at hb hm
    have ih := many_pow r (n * m) (fun u hu => hk u (List.mem_cons_of_mem _ hu)) (by omega) hm
    rw [List.length_cons, Nat.pow_succ, Nat.mul_comm (2 ^ r.length), ← Nat.mul_assoc]
    exact Nat.le_trans (Nat.mul_le_mul_right _ (Nat.mul_le_mul_left _ (by omega))) ih
structure Gen (t : GTask) : Prop where
  good : goodF t = true
  small : smallF t = true
  dom : ∀ n ∈ t.Vars, 2 ≤ n ∧ n ≤ 4
  vars : t.Vars.length ≤ 6
  states : (allF t).length ≤ 100
  ops : t.Ops.length ≤ 8
  two : ∀ o ∈ t.Ops, twoF o.Effs = true
  one : ∀ o ∈ t.Ops, condN o.Effs ≤ 1
theorem gentle_gen {t : GTask} (h : gentleF t = true) : Gen t := by
  have hs := tame_small (gentle_tame h)
  have hgood := (small_good hs).1
  have ht := gentle_tame h
  unfold gentleF at h
  unfold tameF tameO at ht
  simp only [Bool.and_eq_true, decide_eq_true_iff, List.all_eq_true] at h ht
  have hd := ht.2.1
  have hd2 := (good_dom hgood).dom
  have hpow := many_pow t.Vars 1 (fun k hk => ⟨(hd k hk).1, (hd2 k hk).2⟩) (by decide) h.2.1
  refine ⟨hgood, hs, hd, ?_, ?_, h.2.2.1, fun o ho => (ht.2.2 o ho).1, h.2.2.2⟩
  · refine Nat.le_of_not_lt fun hlt => ?_
    have : 2 ^ 7 ≤ 2 ^ t.Vars.length := Nat.pow_le_pow_right (by decide) hlt
    omega
  · exact statesG_lenM 100 (by decide) t.Vars [[]] hd2 (by decide) h.2.1
theorem Gen.cost {t : GTask} (h : Gen t) {p : List Fact} (hp : propF t.Vars (-1) p = true) {l : List (List Fact)} (hl : PropL t.Vars l) : (covA t.Vars p l).2 ≤ 199 := by
  have h1 := decA_cost2 (fun n hn => (h.dom n hn).1) (allF t) (fun s hs => (allF_mem t s).2 hs) _ p l (cov_pre (good_dom h.good) hp hl)
  have h2 : cntS (allF t) p ≤ (allF t).length := List.length_filter_le _ _
  have h3 := h.states
  unfold covA
  omega
theorem ask_ok {t : GTask} (h : Gen t) {c : GCertificate} (hc : CertP t.Vars c) {p : List Fact} (hp : propF t.Vars (-1) p = true) (d r : Int) (hr : 199 ≤ r) : ∃ r', askC t c p d r = (covB t c d p, .nil, r') ∧ r - 199 ≤ r' := by
  have hcost := h.cost hp (count_prop hc d)
  refine ⟨r - (covA t.Vars p (countL c.Nogoods d)).2, ?_, by omega⟩
  rw [askC, if_pos (by omega)]; rfl
theorem stepL_ok {t : GTask} (h : Gen t) {c : GCertificate} (hc : CertP t.Vars c) (d : Int) : ∀ (l : List (List Fact)) (r : Int), PropL t.Vars l → 199 * (l.length : Int) ≤ r → ∃ r', stepL t c d l r = (if l.all (covB t c d) = true then .nil else .no 19, r') ∧ r - 199 * (l.length : Int) ≤ r'
  | [], r, _, _ => ⟨r, rfl, by simp⟩
  | p :: ps, r, hl, hr => by
    rw [List.length_cons] at hr ⊢
    obtain ⟨r1, e1, h1⟩ := ask_ok h hc (hl p (List.mem_cons_self ..)) d r (by omega)
    rw [stepL, e1, List.all_cons]
    cases hb : covB t c d p with
    | false => exact ⟨r1, rfl, by omega⟩
    | true =>
      obtain ⟨r2, e2, h2⟩ := stepL_ok h hc d ps r1 (fun x hx => hl x (List.mem_cons_of_mem _ hx)) (by omega)
      exact ⟨r2, e2, by omega⟩
def openF (t : GTask) (c : GCertificate) (n : Nogood) (o : GOp) : Bool := !skipO c n o && (allF t).any fun s => inF o n.1 s && !claimsF c.Nogoods s (distO c n o)
theorem cov_open {t : GTask} (hgood : goodF t = true) {c : GCertificate} (hc : CertP t.Vars c) {n : Nogood} (hn : n ∈ c.Nogoods) {o : GOp} (ho : o ∈ t.Ops) {l : List (List Fact)} (hl : regO t.Vars o n.1 = some l) (d : Int) :
    (l.all (covB t c d) = true ↔ ∀ s ∈ allF t, inF o n.1 s = true → claimsF c.Nogoods s d = true) := by
  have hlp := (regO_len hgood (hc.prop n hn) ho hl).1
  rw [List.all_eq_true]
  constructor
  · intro h s hs hi
    have hst := (allF_mem t s).1 hs
    obtain ⟨z, hz, hh⟩ := (inF_iff hgood ho (stateF_st hst) (hc.prop n hn) hl).2 hi
    exact (covB_true hgood hc (hlp z hz) d).1 (h z hz) s hst hh
  · intro h z hz
    exact (covB_true hgood hc (hlp z hz) d).2 fun s hst hh => h s ((allF_mem t s).2 hst) ((inF_iff hgood ho (stateF_st hst) (hc.prop n hn) hl).1 ⟨z, hz, hh⟩)
theorem open_not {t : GTask} {c : GCertificate} {n : Nogood} {o : GOp} (hs : skipO c n o = false) : openF t c n o = false ↔ ∀ s ∈ allF t, inF o n.1 s = true → claimsF c.Nogoods s (distO c n o) = true := by
  rw [openF, hs, Bool.not_false, Bool.true_and, Bool.eq_false_iff, ne_eq, List.any_eq_true]
  constructor
  · intro h s hs hi
    refine Decidable.byContradiction fun hne => h ⟨s, hs, ?_⟩
    rw [hi, Bool.eq_false_iff.2 hne]; rfl
  · rintro h ⟨s, hs, e⟩
    rw [Bool.and_eq_true] at e
    rw [h s hs e.1] at e
    exact absurd e.2 (by decide)
theorem stepO_ok {t : GTask} (h : Gen t) {c : GCertificate} (hc : CertP t.Vars c) {n : Nogood} (hn : n ∈ c.Nogoods) {o : GOp} (ho : o ∈ t.Ops) (r : Int) (hr : 3980 ≤ r) : ∃ r', stepO t c n o r = (if openF t c n o = true then .no 19 else .nil, r') ∧ r - 3980 ≤ r' := by
  rw [stepO]
  cases hs : skipO c n o with
  | true => exact ⟨r, by rw [openF, hs]; rfl, by omega⟩
  | false =>
    obtain ⟨l, hl, hlen⟩ := regO_few h.good (fun k hk => (h.dom k hk).2) h.vars (hc.prop n hn) ho (h.one o ho) (h.two o ho)
    have hlp := (regO_len h.good (hc.prop n hn) ho hl).1
    obtain ⟨r', e, h2⟩ := stepL_ok h hc (distO c n o) l r hlp (by omega)
    rw [if_neg (by decide), hl]
    simp only
    rw [e]
    refine ⟨r', ?_, by omega⟩
    congr 1
    have h3 := cov_open h.good hc hn ho hl (distO c n o)
    have h4 := open_not (t := t) (c := c) (n := n) (o := o) hs
    cases ho2 : openF t c n o with
    | false => rw [if_pos (h3.2 (h4.1 ho2)), if_neg (by decide)]
    | true =>
      rw [if_neg (fun hh => by rw [h4.2 (h3.1 hh)] at ho2; cases ho2), if_pos rfl]
def firstO (t : GTask) (c : GCertificate) (n : Nogood) : List GOp → Int → Option Int
  | [], _ => none
  | o :: os, j => if openF t c n o = true then some j else firstO t c n os (j + 1)
def firstN (t : GTask) (c : GCertificate) : List Nogood → Int → Int × Int × Er
  | [], _ => (-1, -1, .nil)
  | n :: ns, i => match firstO t c n t.Ops 0 with
    | some j => (i, j, .no 19)
    | none => firstN t c ns (i + 1)
theorem opsC_ok {t : GTask} (h : Gen t) {c : GCertificate} (hc : CertP t.Vars c) {n : Nogood} (hn : n ∈ c.Nogoods) (i : Int) : ∀ (l : List GOp) (j r : Int), (∀ o ∈ l, o ∈ t.Ops) → 3980 * (l.length : Int) ≤ r → (∀ k, firstO t c n l j = some k → opsC t c n i l j r = .inr (i, k, .no 19)) ∧ (firstO t c n l j = none → ∃ r', opsC t c n i l j r = .inl r' ∧ r - 3980 * (l.length : Int) ≤ r')
  | [], j, r, _, _ => ⟨fun k e => (by cases e), fun _ => ⟨r, rfl, by simp⟩⟩
  | o :: os, j, r, hl, hr => by
    rw [List.length_cons] at hr ⊢
    obtain ⟨r1, e1, h1⟩ := stepO_ok h hc hn (hl o (List.mem_cons_self ..)) r (by omega)
    rw [opsC, e1, firstO]
    cases openF t c n o with
    | true => exact ⟨fun k e => by rw [if_pos rfl] at e; injection e with e; subst e; rfl, fun e => by rw [if_pos rfl] at e; cases e⟩
    | false =>
      obtain ⟨g1, g2⟩ := opsC_ok h hc hn i os (j + 1) r1 (fun u hu => hl u (List.mem_cons_of_mem _ hu)) (by omega)
      rw [if_neg (by decide), if_neg (by decide)]
      refine ⟨g1, fun e => ?_⟩
      obtain ⟨r', e2, h2⟩ := g2 e
      exact ⟨r', e2, by omega⟩
theorem nogC_ok {t : GTask} (h : Gen t) {c : GCertificate} (hc : CertP t.Vars c) : ∀ (l : List Nogood) (i r : Int), (∀ n ∈ l, n ∈ c.Nogoods) → 31840 * (l.length : Int) ≤ r → nogC t c l i r = firstN t c l i
  | [], i, r, _, _ => rfl
  | n :: ns, i, r, hl, hr => by
    have hops := h.ops
    rw [List.length_cons] at hr
    obtain ⟨g1, g2⟩ := opsC_ok h hc (hl n (List.mem_cons_self ..)) i t.Ops 0 r (fun _ h => h) (by omega)
    rw [nogC, firstN]
    cases hf : firstO t c n t.Ops 0 with
    | some k => rw [g1 k hf]
    | none =>
      obtain ⟨r', e, h2⟩ := g2 hf
      rw [e]
      exact nogC_ok h hc ns (i + 1) r' (fun u hu => hl u (List.mem_cons_of_mem _ hu)) (by omega)
def refC (t : GTask) (c : GCertificate) : Int × Int × Er :=
  if c.Nogoods.any (fun n => holdsF t.Init n.1) = true then (-1, -1, .no 20)
  else if (c.Bound != 0 && (allF t).any fun s => holdsF s t.Goal && !claimsF c.Nogoods s 0) = true then (-1, -1, .no 13)
  else firstN t c c.Nogoods 0
theorem whereC_ok {t : GTask} (h : Gen t) {c : GCertificate} (hc : CertP t.Vars c) (hf : c.Nogoods.length ≤ 12) : whereC t c 1048576 = refC t c := by
  rw [whereC, refC]
  split
  · rfl
  · by_cases hb : c.Bound = 0
    · rw [if_pos hb, show (c.Bound != 0) = false from by simp [hb], Bool.false_and, if_neg (by decide)]
      exact nogC_ok h hc _ _ _ (fun _ h => h) (by omega)
    · obtain ⟨r', e, h2⟩ := ask_ok h hc (good_goal h.good) 0 1048576 (by decide)
      rw [if_neg hb, e, show (c.Bound != 0) = true from by simp [hb], Bool.true_and]
      have hcov := covB_true h.good hc (good_goal h.good) 0
      cases hq : covB t c 0 t.Goal with
      | true =>
        rw [if_neg]
        · exact nogC_ok h hc _ _ _ (fun _ h => h) (by omega)
        · intro hh
          obtain ⟨s, hs, e⟩ := List.any_eq_true.1 hh
          rw [Bool.and_eq_true] at e
          rw [hcov.1 hq s ((allF_mem t s).1 hs) e.1] at e
          exact absurd e.2 (by decide)
      | false =>
        rw [if_pos]
        refine Decidable.byContradiction fun hne => ?_
        have : covB t c 0 t.Goal = true := hcov.2 fun s hst hh => Decidable.byContradiction fun hc2 => hne (List.any_eq_true.2 ⟨s, (allF_mem t s).2 hst, by rw [hh, Bool.eq_false_iff.2 hc2]; rfl⟩)
        rw [hq] at this
        cases this
def refF (t : GTask) (c : GCertificate) : Int × Int × Er :=
  match checkF t with
  | .no e => (-1, -1, .no e)
  | .nil => match properF t.Vars c with
    | .no e => (-1, -1, .no e)
    | .nil => refC t c
theorem whereF_ok {t : GTask} (h : Gen t) {c : GCertificate} (hf : c.Nogoods.length ≤ 12) : whereF t c 1048576 = refF t c := by
  unfold whereF refF
  cases checkF t with
  | no e => rfl
  | nil =>
    simp only
    cases hp : properF t.Vars c with
    | no e => rfl
    | nil => exact whereC_ok h ((properF_nil t.Vars c).1 hp) hf
end Go.Proofs.YtcpajbglcgbolaaGreat.Am
namespace Go.Proofs.YtcpajbglcgbolaaGreat.Am
open Go.RowKit
theorem firstO_none {t : GTask} {c : GCertificate} {n : Nogood} : ∀ (l : List GOp) (j : Int), firstO t c n l j = none ↔ ∀ o ∈ l, openF t c n o = false
  | [], j => ⟨fun _ => (nofun), fun _ => rfl⟩
  | o :: os, j => by
    rw [firstO]
    cases h : openF t c n o with
    | true =>
      rw [if_pos rfl]
      exact ⟨fun e => (by cases e), fun e => by rw [e o (List.mem_cons_self ..)] at h; cases h⟩
    | false =>
      rw [if_neg (by decide), firstO_none os]
      exact ⟨fun e u hu => by rcases List.mem_cons.1 hu with rfl | hu; exact h; exact e u hu, fun e u hu => e u (List.mem_cons_of_mem _ hu)⟩
theorem firstN_nil {t : GTask} {c : GCertificate} : ∀ (l : List Nogood) (i : Int), (firstN t c l i).2.2 = .nil ↔ ∀ n ∈ l, ∀ o ∈ t.Ops, openF t c n o = false
  | [], i => ⟨fun _ => (nofun), fun _ => rfl⟩
  | n :: ns, i => by
    rw [firstN]
    cases h : firstO t c n t.Ops 0 with
    | some k =>
      refine ⟨fun e => (by cases e), fun e => ?_⟩
      rw [(firstO_none t.Ops 0).2 (e n (List.mem_cons_self ..))] at h
      cases h
    | none =>
      have h0 := (firstO_none t.Ops 0).1 h
      simp only
      rw [firstN_nil ns]
      exact ⟨fun e u hu => by rcases List.mem_cons.1 hu with rfl | hu; exact h0; exact e u hu, fun e u hu => e u (List.mem_cons_of_mem _ hu)⟩
theorem refC_nil {t : GTask} {c : GCertificate} : (refC t c).2.2 = .nil ↔ Acc t c := by
  have hstep : (∀ n ∈ c.Nogoods, ∀ o ∈ t.Ops, openF t c n o = false) ↔ ∀ n ∈ c.Nogoods, ∀ o ∈ t.Ops, skipO c n o = false → ∀ s ∈ allF t, inF o n.1 s = true → claimsF c.Nogoods s (distO c n o) = true := by
    constructor
    · intro h n hn o ho hs
      exact (open_not hs).1 (h n hn o ho)
    · intro h n hn o ho
      cases hs : skipO c n o with
      | true => rw [openF, hs]; rfl
      | false => exact (open_not hs).2 (h n hn o ho hs)
  unfold refC
  cases h1 : c.Nogoods.any fun n => holdsF t.Init n.1 with
  | true =>
    rw [if_pos rfl]
    obtain ⟨n, hn, h⟩ := List.any_eq_true.1 h1
    exact ⟨fun e => (by cases e), fun e => by rw [e.init n hn] at h; cases h⟩
  | false =>
    have hi : ∀ n ∈ c.Nogoods, holdsF t.Init n.1 = false := fun n hn => by
      rw [Bool.eq_false_iff]
      intro h
      rw [List.any_eq_true.2 ⟨n, hn, h⟩] at h1
      cases h1
    rw [if_neg (by decide)]
    cases h2 : (c.Bound != 0 && (allF t).any fun s => holdsF s t.Goal && !claimsF c.Nogoods s 0) with
    | true =>
      rw [if_pos rfl]
      rw [Bool.and_eq_true, bne_iff_ne] at h2
      obtain ⟨s, hs, h⟩ := List.any_eq_true.1 h2.2
      rw [Bool.and_eq_true] at h
      exact ⟨fun e => (by cases e), fun e => by rw [e.goal h2.1 s hs h.1] at h; exact absurd h.2 (by decide)⟩
    | false =>
      have hg : c.Bound ≠ 0 → ∀ s ∈ allF t, holdsF s t.Goal = true → claimsF c.Nogoods s 0 = true := fun hb s hs hh => by
        refine Decidable.byContradiction fun hne => ?_
        have : (c.Bound != 0 && (allF t).any fun s => holdsF s t.Goal && !claimsF c.Nogoods s 0) = true := by
          rw [Bool.and_eq_true, bne_iff_ne]
          exact ⟨hb, List.any_eq_true.2 ⟨s, hs, by rw [hh, Bool.eq_false_iff.2 hne]; rfl⟩⟩
        rw [h2] at this
        cases this
      rw [if_neg (by decide), firstN_nil, hstep]
      exact ⟨fun h => ⟨hi, hg, h⟩, fun h => h.step⟩
theorem ver_ok {t : GTask} (h : Gen t) {c : GCertificate} (hf : c.Nogoods.length ≤ 12) : verF t c 1048576 = .nil ↔ CertP t.Vars c ∧ Acc t c := by
  rw [verF, whereF_ok h hf, refF, (good_check t).1 h.good]
  simp only
  cases hp : properF t.Vars c with
  | no e =>
    refine ⟨fun e => (by cases e), fun e => ?_⟩
    rw [(properF_nil t.Vars c).2 e.1] at hp
    cases hp
  | nil =>
    simp only
    rw [refC_nil]
    exact ⟨fun e => ⟨(properF_nil t.Vars c).1 hp, e⟩, fun e => e.2⟩
end Go.Proofs.YtcpajbglcgbolaaGreat.Am
namespace Go.Proofs.YtcpajbglcgbolaaGreat

section
variable {Z : Type}
def swp (f : Nat → Z) (i j : Nat) : Nat → Z := fun k => if k = i then f j else if k = j then f i else f k
def PermF (N : Nat) (f g : Nat → Z) : Prop := ((List.range N).map g).Perm ((List.range N).map f)
theorem PermF.refl (N : Nat) (f : Nat → Z) : PermF N f f := List.Perm.refl _
theorem PermF.trans {N : Nat} {f g h : Nat → Z} (a : PermF N f g) (b : PermF N g h) : PermF N f h := List.Perm.trans b a
theorem swp_perm {N i j : Nat} (f : Nat → Z) (hi : i < N) (hj : j < N) : PermF N f (swp f i j) := by
  have h1 : ((List.range N).map (fun k => if k = i then j else if k = j then i else k)).Perm (List.range N) := by
    refine (List.perm_ext_iff_of_nodup ?_ List.nodup_range).2 (fun a => ?_)
    · unfold List.Nodup
      rw [List.pairwise_map]
      refine List.Pairwise.imp ?_ (List.nodup_range (n := N))
      intro a b hab
      repeat' split
      all_goals omega
    · simp only [List.mem_map, List.mem_range]
      constructor
      · rintro ⟨k, hk, rfl⟩
        repeat' split
        all_goals omega
      · intro ha
        refine ⟨if a = i then j else if a = j then i else a, ?_, ?_⟩
        · repeat' split
          all_goals omega
        · repeat' split
          all_goals omega
  have h2 := h1.map f
  unfold PermF
  have e : (List.range N).map (swp f i j) = ((List.range N).map (fun k => if k = i then j else if k = j then i else k)).map f := by
    rw [List.map_map]
    refine List.map_congr_left (fun k _ => ?_)
    simp only [Function.comp, swp]
    repeat' split
    all_goals rfl
  rw [e]
  exact h2
def swr (f : Nat → Z) (a b n : Nat) : Nat → Z := fun k => if a ≤ k ∧ k < a + n then f (k - a + b) else if b ≤ k ∧ k < b + n then f (k - b + a) else f k
theorem swr_zero (f : Nat → Z) (a b : Nat) : swr f a b 0 = f := by
  funext k
  unfold swr
  rw [if_neg (by omega), if_neg (by omega)]
theorem swr_succ (f : Nat → Z) (a b n : Nat) (h : a + n < b) : swp (swr f a b n) (a + n) (b + n) = swr f a b (n + 1) := by
  funext k
  unfold swp swr
  repeat' split
  all_goals first | rfl | (exact congrArg f (by omega)) | (exfalso; omega)
def rot (f : Nat → Z) (a m b : Nat) : Nat → Z := fun k => if a ≤ k ∧ k < b then (if k < a + (b - m) then f (k - a + m) else f (k - (b - m))) else f k
theorem rot_gt (f : Nat → Z) (a m b : Nat) (h1 : a < m) (h2 : m < b) (h : b - m < m - a) : rot f a m b = rot (swr f a m (b - m)) (a + (b - m)) m b := by
  funext k
  unfold rot swr
  repeat' split
  all_goals first | rfl | (exact congrArg f (by omega)) | (exfalso; omega)
theorem rot_lt (f : Nat → Z) (a m b : Nat) (h1 : a < m) (h2 : m < b) (h : m - a < b - m) : rot f a m b = rot (swr f a (b - (m - a)) (m - a)) a m (b - (m - a)) := by
  funext k
  unfold rot swr
  repeat' split
  all_goals first | rfl | (exact congrArg f (by omega)) | (exfalso; omega)
theorem rot_eq (f : Nat → Z) (a m b : Nat) (h1 : a ≤ m) (h : m - a = b - m) (h2 : m ≤ b) : rot f a m b = swr f a m (m - a) := by
  funext k
  unfold rot swr
  repeat' split
  all_goals first | rfl | (exact congrArg f (by omega)) | (exfalso; omega)
theorem rot_left (f : Nat → Z) (m b : Nat) : rot f m m b = f := by
  funext k
  unfold rot
  repeat' split
  all_goals first | rfl | (exact congrArg f (by omega)) | (exfalso; omega)
theorem rot_right (f : Nat → Z) (a m : Nat) : rot f a m m = f := by
  funext k
  unfold rot
  repeat' split
  all_goals first | rfl | (exact congrArg f (by omega)) | (exfalso; omega)
theorem rot_up (f : Nat → Z) (a k : Nat) (h : a ≤ k) : swp (rot f a (a + 1) (k + 1)) k (k + 1) = rot f a (a + 1) (k + 2) := by
  funext j
  unfold swp rot
  repeat' split
  all_goals first | rfl | (exact congrArg f (by omega)) | (exfalso; omega)
theorem rot_down (f : Nat → Z) (m k : Nat) (h0 : 0 < k) (h : k ≤ m) : swp (rot f k m (m + 1)) k (k - 1) = rot f (k - 1) m (m + 1) := by
  funext j
  unfold swp rot
  repeat' split
  all_goals first | rfl | (exact congrArg f (by omega)) | (exfalso; omega)

def Within (a b : Nat) (f g : Nat → Z) : Prop := (∀ k, ¬ (a ≤ k ∧ k < b) → g k = f k) ∧ ∀ k, a ≤ k → k < b → ∃ k', a ≤ k' ∧ k' < b ∧ g k = f k'
theorem Within.refl (a b : Nat) (f : Nat → Z) : Within a b f f := ⟨fun _ _ => rfl, fun k h1 h2 => ⟨k, h1, h2, rfl⟩⟩
theorem Within.trans {a b : Nat} {f g h : Nat → Z} (x : Within a b f g) (y : Within a b g h) : Within a b f h := by
  refine ⟨fun k hk => (y.1 k hk).trans (x.1 k hk), fun k h1 h2 => ?_⟩
  obtain ⟨k', h3, h4, e⟩ := y.2 k h1 h2
  obtain ⟨k'', h5, h6, e'⟩ := x.2 k' h3 h4
  exact ⟨k'', h5, h6, e.trans e'⟩
theorem Within.mono {a b a' b' : Nat} {f g : Nat → Z} (x : Within a b f g) (ha : a' ≤ a) (hb : b ≤ b') : Within a' b' f g := by
  refine ⟨fun k hk => x.1 k (by omega), fun k h1 h2 => ?_⟩
  by_cases hk : a ≤ k ∧ k < b
  · obtain ⟨k', h3, h4, e⟩ := x.2 k hk.1 hk.2
    exact ⟨k', by omega, by omega, e⟩
  · exact ⟨k, h1, h2, x.1 k hk⟩
theorem swp_within (f : Nat → Z) (a b i j : Nat) (hi : a ≤ i ∧ i < b) (hj : a ≤ j ∧ j < b) : Within a b f (swp f i j) := by
  refine ⟨fun k hk => ?_, fun k h1 h2 => ?_⟩
  · unfold swp
    rw [if_neg (by omega), if_neg (by omega)]
  · unfold swp
    repeat' split
    · exact ⟨j, by omega, by omega, rfl⟩
    · exact ⟨i, by omega, by omega, rfl⟩
    · exact ⟨k, by omega, by omega, rfl⟩
theorem rot_within (f : Nat → Z) (a m b : Nat) (h1 : a ≤ m) (h2 : m ≤ b) : Within a b f (rot f a m b) := by
  refine ⟨fun k hk => ?_, fun k h3 h4 => ?_⟩
  · unfold rot
    rw [if_neg hk]
  · unfold rot
    rw [if_pos ⟨h3, h4⟩]
    split
    · exact ⟨_, by omega, by omega, rfl⟩
    · exact ⟨_, by omega, by omega, rfl⟩

variable (lt : Z → Z → Bool)
def leB (x y : Z) : Prop := lt y x = false
def SortedOn (f : Nat → Z) (a b : Nat) : Prop := ∀ i j, a ≤ i → i < j → j < b → leB lt (f i) (f j)
structure Ord : Prop where
  trans : ∀ x y z, leB lt x y → leB lt y z → leB lt x z
  asym : ∀ x y, lt x y = true → leB lt x y
variable {lt}
theorem Ord.refl (o : Ord lt) (x : Z) : leB lt x x := by
  unfold leB
  cases h : lt x x
  · rfl
  · have := o.asym x x h
    unfold leB at this
    rw [h] at this
    cases this
theorem SortedOn.le (o : Ord lt) {f : Nat → Z} {a b i j : Nat} (h : SortedOn lt f a b) (h1 : a ≤ i) (h2 : i ≤ j) (h3 : j < b) : leB lt (f i) (f j) := by
  rcases Nat.lt_or_ge i j with hl | hl
  · exact h i j h1 hl h3
  · obtain rfl : i = j := by omega
    exact o.refl _
theorem SortedOn.small {f : Nat → Z} {a b : Nat} (h : b ≤ a + 1) : SortedOn lt f a b := fun i j h1 h2 h3 => by omega
theorem SortedOn.sub {f : Nat → Z} {a b a' b' : Nat} (h : SortedOn lt f a b) (h1 : a ≤ a') (h2 : b' ≤ b) : SortedOn lt f a' b' := fun i j i1 i2 i3 => h i j (by omega) i2 (by omega)
theorem SortedOn.off {f g : Nat → Z} {a b c d : Nat} (h : SortedOn lt f a b) (w : Within c d f g) (hd : b ≤ c ∨ d ≤ a) : SortedOn lt g a b := by
  intro i j i1 i2 i3
  rw [w.1 i (by omega), w.1 j (by omega)]
  exact h i j i1 i2 i3
theorem SortedOn.join {f : Nat → Z} {a m b : Nat} (h1 : SortedOn lt f a m) (h2 : SortedOn lt f m b) (h : ∀ i j, a ≤ i → i < m → m ≤ j → j < b → leB lt (f i) (f j)) : SortedOn lt f a b := by
  intro i j i1 i2 i3
  by_cases hi : i < m
  · by_cases hj : j < m
    · exact h1 i j i1 i2 hj
    · exact h i j i1 hi (by omega) i3
  · exact h2 i j (by omega) i2 i3
theorem ins_up (o : Ord lt) {f : Nat → Z} {a b i : Nat} (hs : SortedOn lt f (a + 1) b) (hi1 : a + 1 ≤ i) (hi2 : i ≤ b) (hl : a + 1 < i → lt (f (i - 1)) (f a) = true) (hr : i < b → lt (f i) (f a) = false) : SortedOn lt (rot f a (a + 1) i) a b := by
  intro p q p1 p2 p3
  unfold rot
  have key : ∀ k, a + 1 ≤ k → k < i → leB lt (f k) (f a) := fun k k1 k2 => o.trans _ _ _ (hs.le o k1 (show k ≤ i - 1 by omega) (by omega)) (o.asym _ _ (hl (by omega)))
  have key2 : ∀ k, i ≤ k → k < b → leB lt (f a) (f k) := fun k k1 k2 => o.trans _ _ _ (hr (by omega)) (hs.le o (by omega) k1 k2)
  repeat' split
  · exact hs.le o (by omega) (by omega) (by omega)
  · rw [show q - (i - (a + 1)) = a by omega]; exact key _ (by omega) (by omega)
  · exact hs.le o (by omega) (by omega) (by omega)
  · exfalso; omega
  · exfalso; omega
  · rw [show p - (i - (a + 1)) = a by omega]; exact key2 _ (by omega) (by omega)
  · exfalso; omega
  · exfalso; omega
  · exact hs.le o (by omega) (by omega) (by omega)
theorem ins_down (o : Ord lt) {f : Nat → Z} {a m i : Nat} (hs : SortedOn lt f a m) (hi1 : a ≤ i) (hi2 : i ≤ m) (hl : a < i → lt (f m) (f (i - 1)) = false) (hr : i < m → lt (f m) (f i) = true) : SortedOn lt (rot f i m (m + 1)) a (m + 1) := by
  intro p q p1 p2 p3
  unfold rot
  have key : ∀ k, a ≤ k → k < i → leB lt (f k) (f m) := fun k k1 k2 => o.trans _ _ _ (hs.le o k1 (show k ≤ i - 1 by omega) (by omega)) (hl (by omega))
  have key2 : ∀ k, i ≤ k → k < m → leB lt (f m) (f k) := fun k k1 k2 => o.trans _ _ _ (o.asym _ _ (hr (by omega))) (hs.le o (by omega) k1 k2)
  repeat' split
  · exfalso; omega
  · rw [show p - i + m = m by omega]; exact key2 _ (by omega) (by omega)
  · exfalso; omega
  · exfalso; omega
  · exact hs.le o (by omega) (by omega) (by omega)
  · exfalso; omega
  · rw [show q - i + m = m by omega]; exact key _ (by omega) (by omega)
  · exact hs.le o (by omega) (by omega) (by omega)
  · exact hs.le o (by omega) (by omega) (by omega)
theorem sym_cut (o : Ord lt) {f : Nat → Z} {a m b mid s e : Nat} (h1 : SortedOn lt f a m) (h2 : SortedOn lt f m b) (ham : a < m) (hse : s + e = mid + m) (hs1 : a ≤ s) (hs2 : s ≤ m) (he1 : m ≤ e) (he2 : e ≤ b)
    (c1 : a < s → e < b → lt (f e) (f (s - 1)) = false) (c2 : s < m → m < e → lt (f (e - 1)) (f s) = true) :
    SortedOn lt (rot f s m e) a s ∧ SortedOn lt (rot f s m e) s mid ∧ SortedOn lt (rot f s m e) mid e ∧ SortedOn lt (rot f s m e) e b ∧ ∀ i j, a ≤ i → i < mid → mid ≤ j → j < b → leB lt (rot f s m e i) (rot f s m e j) := by
  have L : ∀ k, k < s → rot f s m e k = f k := fun k hk => by unfold rot; rw [if_neg (by omega)]
  have M1 : ∀ k, s ≤ k → k < mid → rot f s m e k = f (k - s + m) := fun k k1 k2 => by unfold rot; rw [if_pos (by omega), if_pos (by omega)]
  have M2 : ∀ k, mid ≤ k → k < e → rot f s m e k = f (k - (e - m)) := fun k k1 k2 => by unfold rot; rw [if_pos (by omega), if_neg (by omega)]
  have R : ∀ k, e ≤ k → rot f s m e k = f k := fun k hk => by unfold rot; rw [if_neg (by omega)]
  refine ⟨?_, ?_, ?_, ?_, ?_⟩
  · intro i j i1 i2 i3
    rw [L i (by omega), L j (by omega)]
    exact h1.le o (by omega) (by omega) (by omega)
  · intro i j i1 i2 i3
    rw [M1 i (by omega) (by omega), M1 j (by omega) (by omega)]
    exact h2.le o (by omega) (by omega) (by omega)
  · intro i j i1 i2 i3
    rw [M2 i (by omega) (by omega), M2 j (by omega) (by omega)]
    exact h1.le o (by omega) (by omega) (by omega)
  · intro i j i1 i2 i3
    rw [R i (by omega), R j (by omega)]
    exact h2.le o (by omega) (by omega) (by omega)
  · intro i j i1 i2 i3 i4
    by_cases hi : i < s
    · rw [L i hi]
      by_cases hj : j < e
      · rw [M2 j i3 hj]
        exact h1.le o (by omega) (by omega) (by omega)
      · rw [R j (by omega)]
        exact o.trans _ _ _ (h1.le o i1 (show i ≤ s - 1 by omega) (by omega)) (o.trans _ _ _ (c1 (by omega) (by omega)) (h2.le o (by omega) (by omega) i4))
    · rw [M1 i (by omega) i2]
      by_cases hj : j < e
      · rw [M2 j i3 hj]
        exact o.trans _ _ _ (h2.le o (by omega) (show i - s + m ≤ e - 1 by omega) (by omega)) (o.trans _ _ _ (o.asym _ _ (c2 (by omega) (by omega))) (h1.le o (by omega) (by omega) (by omega)))
      · rw [R j (by omega)]
        exact h2.le o (by omega) (by omega) (by omega)
theorem sym_join {f g h : Nat → Z} {a mid b : Nat} (w1 : Within a mid f g) (w2 : Within mid b g h) (s1 : SortedOn lt g a mid) (s2 : SortedOn lt h mid b) (hc : ∀ i j, a ≤ i → i < mid → mid ≤ j → j < b → leB lt (f i) (f j)) : SortedOn lt h a b := by
  refine (s1.off w2 (.inl (Nat.le_refl _))).join s2 (fun i j i1 i2 i3 i4 => ?_)
  obtain ⟨j', j1, j2, ej⟩ := w2.2 j i3 i4
  obtain ⟨i', i5, i6, ei⟩ := w1.2 i i1 i2
  rw [w2.1 i (by omega), ei, ej, w1.1 j' (by omega)]
  exact hc i' j' i5 i6 j1 j2
def Almost (lt : Z → Z → Bool) (f : Nat → Z) (a i j : Nat) : Prop := (∀ p q, a ≤ p → p < q → q < i → p ≠ j → q ≠ j → leB lt (f p) (f q)) ∧ ∀ q, j < q → q < i → leB lt (f j) (f q)
theorem almost_start {f : Nat → Z} {a i : Nat} (h : SortedOn lt f a i) : Almost lt f a (i + 1) i :=
  ⟨fun p q p1 p2 p3 _ h2 => h p q p1 p2 (by omega), fun q h1 h2 => by omega⟩
theorem almost_step {f : Nat → Z} {a i j : Nat} (h : Almost lt f a i j) (hj : a < j) (hi : j < i) (o : Ord lt) (hl : lt (f j) (f (j - 1)) = true) : Almost lt (swp f j (j - 1)) a i (j - 1) := by
  refine ⟨fun p q p1 p2 p3 n1 n2 => ?_, fun q q1 q2 => ?_⟩
  · unfold swp
    rw [if_neg n1, if_neg n2]
    by_cases hp : p = j
    · rw [if_pos hp, if_neg (show ¬ q = j by omega)]
      exact h.1 (j - 1) q (by omega) (by omega) p3 (by omega) (by omega)
    · by_cases hq : q = j
      · rw [if_neg hp, if_pos hq]
        exact h.1 p (j - 1) p1 (by omega) (by omega) hp (by omega)
      · rw [if_neg hp, if_neg hq]
        exact h.1 p q p1 p2 p3 hp hq
  · unfold swp
    rw [if_neg (show ¬ j - 1 = j by omega), if_pos rfl]
    by_cases hq : q = j
    · rw [if_pos hq]
      exact o.asym _ _ hl
    · rw [if_neg hq, if_neg (by omega)]
      exact h.2 q (by omega) q2
theorem almost_done {f : Nat → Z} {a i j : Nat} (h : Almost lt f a i j) (hj : a ≤ j) (o : Ord lt) (hl : a < j → lt (f j) (f (j - 1)) = false) : SortedOn lt f a i := by
  intro p q p1 p2 p3
  by_cases hp : p = j
  · subst hp
    exact h.2 q p2 p3
  · by_cases hq : q = j
    · subst hq
      have h1 : leB lt (f (q - 1)) (f q) := hl (by omega)
      by_cases hpq : p = q - 1
      · rw [hpq]; exact h1
      · exact o.trans _ _ _ (h.1 p (q - 1) p1 (by omega) (by omega) hp (by omega)) h1
    · exact h.1 p q p1 p2 p3 hp hq
end
end Go.Proofs.YtcpajbglcgbolaaGreat
namespace Go.Proofs.YtcpajbglcgbolaaGreat
open Go.RowKit

def cmpI (x y : Int) : Int := Lib.compareInt x y
theorem cmpI_lt {x y : Int} : cmpI x y < 0 ↔ x < y := by unfold cmpI Lib.compareInt; repeat' split; all_goals omega
theorem cmpI_zero {x y : Int} : cmpI x y = 0 ↔ x = y := by unfold cmpI Lib.compareInt; repeat' split; all_goals omega
def cmpFact (x y : Fact) : Int := if cmpI x.1 y.1 ≠ 0 then cmpI x.1 y.1 else cmpI x.2 y.2
def cmpL : List Fact → List Fact → Int
  | [], [] => 0
  | [], _ :: _ => -1
  | _ :: _, [] => 1
  | x :: r, y :: s => if cmpFact x y ≠ 0 then cmpFact x y else cmpL r s
def cmpN (x y : Nogood) : Int := if cmpI x.2 y.2 ≠ 0 then cmpI x.2 y.2 else cmpL x.1 y.1

set_option maxHeartbeats 1000000 in
theorem compare_calls (x1 x2 y1 y2 : Int) (w : World) : Calls Tryz.prog 53 #[.agg #[.int .i64 x1, .int .i64 x2], .agg #[.int .i64 y1, .int .i64 y2]] w fun e w' => e = .returned (.int .i64 (cmpFact (x1, x2) (y1, y2))) ∧ Below w.heap.size w w' := by
  have h1 := fun (W : World) => Tryz.cmp_Compare_int x1 y1 W
  have h2 := fun (W : World) => Tryz.cmp_Compare_int x2 y2 W
  have hfin : cmpFact (x1, x2) (y1, y2) = if Lib.compareInt x1 y1 ≠ 0 then Lib.compareInt x1 y1 else Lib.compareInt x2 y2 := rfl
  generalize Lib.compareInt x1 y1 = c1 at h1 hfin
  generalize Lib.compareInt x2 y2 = c2 at h2 hfin
  generalize cmpFact (x1, x2) (y1, y2) = r at hfin ⊢
  have hB : Below w.heap.size w ((w.alloc (.cells #[.int .i64 x1, .int .i64 x2] 63)).alloc (.cells #[.int .i64 y1, .int .i64 y2] 63)) := belowA (belowA (Below.refl _ _) _) _
  by_cases hc : c1 = 0
  · have hb : (c1 != 0) = false := by simp [hc]
    have hr : r = c2 := by rw [hfin, if_neg (by simp [hc])]
    have H1 := Lib.hid h1
    have H2 := Lib.hid h2
    have HFIN := Lib.hid hfin
    have HR := Lib.hid hr
    have HC := Lib.hid hc
    have HB := Lib.hid hB
    clear h1 h2 hfin hr hc hB
    go_enter Tryz.func53, Tryz.ntmps53
    go_wp2_with fail
    refine (H1.out _).mono ?_
    rintro e w1 ⟨rfl, rfl⟩
    go_wp2_with fail
    refine (H2.out _).mono ?_
    rintro e w2 ⟨rfl, rfl⟩
    go_wp2_with fail
    go_ret
    exact ⟨by rw [HR.out]; rfl, HB.out⟩
  · have hb : (c1 != 0) = true := by simp [hc]
    have hr : r = c1 := by rw [hfin, if_pos hc]
    have H1 := Lib.hid h1
    have H2 := Lib.hid h2
    have HFIN := Lib.hid hfin
    have HR := Lib.hid hr
    have HB := Lib.hid hB
    clear h1 h2 hfin hr hB
    go_enter Tryz.func53, Tryz.ntmps53
    go_wp2_with fail
    refine (H1.out _).mono ?_
    rintro e w1 ⟨rfl, rfl⟩
    go_wp2_with fail
    go_ret
    exact ⟨by rw [HR.out]; rfl, HB.out⟩

set_option maxHeartbeats 2000000 in
theorem compareFunc_calls (u v : Value) (a b : List Fact) (w : World) (hu : FactsAt w u a) (hv : FactsAt w v b) :
    Calls Tryz.prog 52 #[u, v, .func (.func 53) #[] #[]] w fun e w' => e = .returned (.int .i64 (cmpL a b)) ∧ Below w.heap.size w w' := by
  obtain ⟨A, n, c, rfl, hn, hm⟩ := hu.form
  obtain ⟨A', n', c', rfl, hn', hm'⟩ := hv.form
  obtain ⟨D, hD⟩ : ∃ D, cmpL a b = D := ⟨_, rfl⟩
  rw [hD]
  have HU := Lib.hid hu
  have HV := Lib.hid hv
  have HN := Lib.hid hn
  have HN' := Lib.hid hn'
  have HD := Lib.hid hD
  clear hu hv hn hn' hD
  go_enter Tryz.func52, Tryz.ntmps52
  go_wp2
  go_loopg [13] n (fun g i wr => ∃ k : Nat, k ≤ n ∧ k ≤ n' ∧ g = n - k ∧ i = .int .i64 k ∧ Below w.heap.size w wr ∧ D = cmpL (a.drop k) (b.drop k))
  case atStart => exact ⟨0, Nat.zero_le _, Nat.zero_le _, by omega, rfl, Below.refl _ _, HD.out.symm⟩
  case round =>
    obtain ⟨k, hk, hk', hg, rfl, hB, hF⟩ := hrel
    have HG := Lib.hid hg
    have HF := Lib.hid hF
    clear hg hF
    by_cases hlt : k < n
    · obtain ⟨bb, off, x1, x2, rfl, c0, c1, hx, hd⟩ := (HU.out.keep hB).at hlt
      have hbr : bb < wr.heap.size := lt_of_cell c0
      by_cases hlt' : k < n'
      · obtain ⟨bb', off', y1, y2, rfl, d0, d1, hy, hd'⟩ := (HV.out.keep hB).at hlt'
        have hbr' : bb' < wr.heap.size := lt_of_cell d0
        have hst : D = if cmpFact (x1, x2) (y1, y2) ≠ 0 then cmpFact (x1, x2) (y1, y2) else cmpL (a.drop (k + 1)) (b.drop (k + 1)) := by rw [HF.out, hd, hd', cmpL]
        have h1 := fun (W : World) => compare_calls x1 x2 y1 y2 W
        generalize cmpFact (x1, x2) (y1, y2) = cc at hst h1
        by_cases hcc : cc = 0
        · have hb : (cc != 0) = false := by simp [hcc]
          have hnext : D = cmpL (a.drop (k + 1)) (b.drop (k + 1)) := by rw [hst, if_neg (by simp [hcc])]
          have HX := Lib.hid hx
          have HD2 := Lib.hid hd
          have HY := Lib.hid hy
          have HD3 := Lib.hid hd'
          have HST := Lib.hid hst
          have H1 := Lib.hid h1
          have HCC := Lib.hid hcc
          have HNEXT := Lib.hid hnext
          clear hx hd hy hd' hst h1 hcc hnext
          go_wp2_with (go_at_call 53; refine (H1.out _).mono ?_; rintro e w1 ⟨rfl, hb1⟩)
          go_roundg (n - (k + 1))
          case measure => have := HG.out; omega
          case rel => exact ⟨k + 1, by omega, by omega, rfl, by go_num, belowT (belowA (belowA hB _) _) hb1, HNEXT.out⟩
        · have hb : (cc != 0) = true := by simp [hcc]
          have hfin : D = cc := by rw [hst, if_pos hcc]
          have HX := Lib.hid hx
          have HD2 := Lib.hid hd
          have HY := Lib.hid hy
          have HD3 := Lib.hid hd'
          have HST := Lib.hid hst
          have H1 := Lib.hid h1
          have HFIN := Lib.hid hfin
          clear hx hd hy hd' hst h1 hfin
          go_wp2_with (go_at_call 53; refine (H1.out _).mono ?_; rintro e w1 ⟨rfl, hb1⟩)
          go_ret
          exact ⟨by rw [HFIN.out]; rfl, belowT (belowA (belowA hB _) _) hb1⟩
      · have hfin : D = 1 := by rw [HF.out, hd, show b.drop k = [] from List.drop_eq_nil_of_le (by have := HN'.out; omega), cmpL]
        have HX := Lib.hid hx
        have HD2 := Lib.hid hd
        have HFIN := Lib.hid hfin
        clear hx hd hfin
        go_wp2_with fail
        go_ret
        exact ⟨by rw [HFIN.out]; rfl, belowA hB _⟩
    · have hdn : a.drop k = [] := List.drop_eq_nil_of_le (by have := HN.out; omega)
      by_cases hlt' : n < n'
      · have hfin : D = -1 := by
          obtain ⟨y, _, hd'⟩ := some_at (l := b) (k := k) HN'.out (by omega)
          rw [HF.out, hdn, hd', cmpL]
        have HDN := Lib.hid hdn
        have HFIN := Lib.hid hfin
        clear hdn hfin
        go_wp2_with fail
        go_ret
        exact ⟨by rw [HFIN.out]; rfl, hB⟩
      · have hfin : D = 0 := by rw [HF.out, hdn, show b.drop k = [] from List.drop_eq_nil_of_le (by have := HN'.out; omega), cmpL]
        have HDN := Lib.hid hdn
        have HFIN := Lib.hid hfin
        clear hdn hfin
        go_wp2_with fail
        go_ret
        exact ⟨by rw [HFIN.out]; rfl, hB⟩

set_option maxHeartbeats 1000000 in
theorem sortCmp_calls (u v : Value) (a b : List Fact) (d e : Int) (w : World) (hu : FactsAt w u a) (hv : FactsAt w v b) :
    Calls Tryz.prog 50 #[.agg #[u, .int .i64 d], .agg #[v, .int .i64 e]] w fun r w' => r = .returned (.int .i64 (cmpN (a, d) (b, e))) ∧ Below w.heap.size w w' := by
  obtain ⟨A, n, c, rfl, hn, hm⟩ := hu.form
  obtain ⟨A', n', c', rfl, hn', hm'⟩ := hv.form
  have h1 := fun (W : World) => Tryz.cmp_Compare_int d e W
  have hB : Below w.heap.size w ((w.alloc (.cells #[.slice A n c, .int .i64 d] 51)).alloc (.cells #[.slice A' n' c', .int .i64 e] 51)) := belowA (belowA (Below.refl _ _) _) _
  have h2 := compareFunc_calls _ _ a b _ (hu.keep hB) (hv.keep hB)
  have hfin : cmpN (a, d) (b, e) = if Lib.compareInt d e ≠ 0 then Lib.compareInt d e else cmpL a b := rfl
  generalize Lib.compareInt d e = c1 at h1 hfin
  generalize cmpL a b = c2 at h2 hfin
  generalize cmpN (a, d) (b, e) = r at hfin ⊢
  by_cases hc : c1 = 0
  · have hb : (c1 != 0) = false := by simp [hc]
    have hr : r = c2 := by rw [hfin, if_neg (by simp [hc])]
    have H1 := Lib.hid h1
    have H2 := Lib.hid h2
    have HFIN := Lib.hid hfin
    have HR := Lib.hid hr
    have HC := Lib.hid hc
    have HB := Lib.hid hB
    have HU := Lib.hid hu
    have HV := Lib.hid hv
    have HN := Lib.hid hn
    have HN' := Lib.hid hn'
    clear h1 h2 hfin hr hc hB hu hv hn hn'
    go_enter Tryz.func50, Tryz.ntmps50
    go_wp2_with fail
    refine (H1.out _).mono ?_
    rintro e w1 ⟨rfl, rfl⟩
    go_wp2_with fail
    refine H2.out.mono ?_
    rintro e w2 ⟨rfl, hb2⟩
    go_wp2_with fail
    go_ret
    exact ⟨by rw [HR.out]; rfl, belowT HB.out hb2⟩
  · have hb : (c1 != 0) = true := by simp [hc]
    have hr : r = c1 := by rw [hfin, if_pos hc]
    have H1 := Lib.hid h1
    have H2 := Lib.hid h2
    have HFIN := Lib.hid hfin
    have HR := Lib.hid hr
    have HB := Lib.hid hB
    have HU := Lib.hid hu
    have HV := Lib.hid hv
    have HN := Lib.hid hn
    have HN' := Lib.hid hn'
    clear h1 h2 hfin hr hB hu hv hn hn'
    go_enter Tryz.func50, Tryz.ntmps50
    go_wp2_with fail
    refine (H1.out _).mono ?_
    rintro e w1 ⟨rfl, rfl⟩
    go_wp2_with fail
    go_ret
    exact ⟨by rw [HR.out]; rfl, HB.out⟩
end Go.Proofs.YtcpajbglcgbolaaGreat
namespace Go.Proofs.YtcpajbglcgbolaaGreat
open Go.RowKit

def hush (cb : Nat) (w : World) : World := w.setRow cb #[]
theorem hush_size (cb : Nat) (w : World) : (hush cb w).heap.size = w.heap.size := by simp [hush, World.setRow]
theorem hush_grown (cb : Nat) (w : World) : w.grownBy (hush cb w) (some cb) := setRow_grown w cb #[]
theorem hush_other {cb k : Nat} (w : World) (h : k ≠ cb) : (hush cb w).heap[k]? = w.heap[k]? := setRow_other w cb k #[] h
theorem hush_cell {cb : Nat} {w : World} {p : Addr} {v : Value} (h : (hush cb w).cell? p = some v) : w.cell? p = some v ∧ p.block ≠ cb := by
  by_cases hb : p.block = cb
  · exfalso
    cases hq : w.heap[cb]? with
    | none =>
      have : ¬ cb < w.heap.size := by
        intro hlt
        rw [Array.getElem?_eq_getElem hlt] at hq
        cases hq
      have h2 := lt_of_cell h
      rw [hush_size, hb] at h2
      exact this h2
    | some o =>
      cases o with
      | cells cs t f =>
        have e := setRow_heap w cb cs #[] t f hq
        unfold World.cell? at h
        rw [hb] at h
        unfold hush at h
        rw [e] at h
        revert h
        cases hsp : p.spot <;> simp
      | _ =>
        have e : (hush cb w).heap[cb]? = w.heap[cb]? := by
          unfold hush World.setRow
          simp only [Array.getElem?_modify, hq]
          simp
        unfold World.cell? at h
        rw [hb, e, hq] at h
        simp at h
  · refine ⟨?_, hb⟩
    unfold World.cell? at h ⊢
    rwa [hush_other w hb] at h
theorem IntsAt.unhush {cb : Nat} {w : World} {v : Value} {l : List Int} (h : IntsAt (hush cb w) v l) : IntsAt w v l := by
  obtain ⟨A, c, hv, hl, h⟩ := h
  refine ⟨A, c, hv, hl, fun k x hx => ?_⟩
  obtain ⟨b, off, hA, h0⟩ := h k x hx
  exact ⟨b, off, hA, (hush_cell h0).1⟩
theorem FactsAt.unhush {cb : Nat} {w : World} {v : Value} {l : List Fact} (h : FactsAt (hush cb w) v l) : FactsAt w v l := by
  obtain ⟨A, c, hv, hl, h⟩ := h
  refine ⟨A, c, hv, hl, fun k x hx => ?_⟩
  obtain ⟨b, off, hA, h0, h1⟩ := h k x hx
  exact ⟨b, off, hA, (hush_cell h0).1, (hush_cell h1).1⟩
theorem hush_below {cb : Nat} {w w' : World} {a a' : Array Value} {t : TypeId} {f : Nat × Nat} (hg : w.grownBy w' (some cb)) (h : w.heap[cb]? = some (.cells a t f)) (h' : w'.heap[cb]? = some (.cells a' t f)) : Below (hush cb w).heap.size (hush cb w) (hush cb w') := by
  refine ⟨hg.os, hg.tape, hg.output, by rw [hush_size, hush_size]; exact hg.size, fun i hi => ?_⟩
  rw [hush_size] at hi
  by_cases hic : i = cb
  · subst hic
    rw [hush, hush, setRow_heap w i a #[] t f h, setRow_heap w' i a' #[] t f h']
  · rw [hush_other _ hic, hush_other _ hic]
    exact hg.block i hi (fun e => hic (by injection e))
theorem grown_of_below {w w' : World} (h : Below w.heap.size w w') (row : Option Nat) : w.grownBy w' row := ⟨h.os, h.tape, h.output, h.size, fun i hi _ => h.block i hi⟩
theorem OwnF.hush {w : World} {base cb : Nat} {v : Value} {l : List Fact} (h : OwnF w base v l) (hc : cb < base) : OwnF (hush cb w) base v l := by
  refine World.ownsRow.kept h (hush_grown cb w) ?_
  cases ho : v.ownBlock with
  | none => exact .inl rfl
  | some k => exact .inr (fun e => by injection e with e; have := (h.lt k ho).1; omega)

theorem set_block {w : World} {g i : Nat} {cur : Array Value} {t : TypeId} {f : Nat × Nat} (hg : w.heap[g]? = some (.cells cur t f)) (v : Value) (new : Array Value) (hn : cur.setIfInBounds i v = new) : (w.setCell ⟨g, i, none⟩ v).heap[g]? = some (.cells new t f) := by
  rw [setCell_eq_setRow w g i cur t f v hg, hn]
  exact setRow_heap w g cur new t f hg
theorem set_grown {w : World} {g i : Nat} {cur : Array Value} {t : TypeId} {f : Nat × Nat} (hg : w.heap[g]? = some (.cells cur t f)) (v : Value) : w.grownBy (w.setCell ⟨g, i, none⟩ v) (some g) := by
  rw [setCell_eq_setRow w g i cur t f v hg]
  exact setRow_grown _ _ _
end Go.Proofs.YtcpajbglcgbolaaGreat
namespace Go.Proofs.YtcpajbglcgbolaaGreat
open Go.RowKit

abbrev Item := (Option Addr × Nat × Nat) × Nogood
def RowI (w : World) (g cap N : Nat) (f : Nat → Item) : Prop :=
  ∃ cur : Array Value, w.heap[g]? = some (.cells cur 51 (0, 0)) ∧ cur.size = cap * 2 ∧ N ≤ cap ∧ ∀ k, k < N → cur[k * 2]? = some (.slice (f k).1.1 (f k).1.2.1 (f k).1.2.2) ∧ cur[k * 2 + 1]? = some (.int .i64 (f k).2.2)
theorem RowI.cell {w : World} {g cap N : Nat} {f : Nat → Item} (h : RowI w g cap N f) {k : Nat} (hk : k < N) : w.cell? ⟨g, k * 2, none⟩ = some (.slice (f k).1.1 (f k).1.2.1 (f k).1.2.2) ∧ w.cell? ⟨g, k * 2 + 1, none⟩ = some (.int .i64 (f k).2.2) := by
  obtain ⟨cur, h1, _, _, h2⟩ := h
  obtain ⟨a, b⟩ := h2 k hk
  exact ⟨by simpa [World.cell?, h1] using a, by simpa [World.cell?, h1] using b⟩
theorem RowI.free {w : World} {g cap N : Nat} {f : Nat → Item} (h : RowI w g cap N f) (j : Nat) : w.frozen? ⟨g, j, none⟩ = false := by
  obtain ⟨cur, h1, _⟩ := h
  simp [World.frozen?, h1]
theorem RowI.lt {w : World} {g cap N : Nat} {f : Nat → Item} (h : RowI w g cap N f) : g < w.heap.size := by
  obtain ⟨cur, h1, _⟩ := h
  exact (Array.getElem?_eq_some_iff.1 h1).1
theorem RowI.keep {w w' : World} {g cap N : Nat} {f : Nat → Item} (h : RowI w g cap N f) (hb : Below w.heap.size w w') : RowI w' g cap N f := by
  have hl := h.lt
  obtain ⟨cur, h1, h2⟩ := h
  exact ⟨cur, (hb.block g hl).trans h1, h2⟩
theorem RowI.grown {w w' : World} {g cap N : Nat} {f f' : Nat → Item} (h : RowI w g cap N f) (h' : RowI w' g cap N f') (hg : w.grownBy w' (some g)) : Below (hush g w).heap.size (hush g w) (hush g w') := by
  obtain ⟨cur, h1, _⟩ := h
  obtain ⟨cur', h1', _⟩ := h'
  exact hush_below hg h1 h1'
theorem grown_drew_r {w x : World} {r : Option Nat} (h : w.grownBy x r) : w.grownBy x.drew r := ⟨h.os, h.tape, h.output, h.size, h.block⟩
theorem row_swap {w : World} {g cap N i j : Nat} {f : Nat → Item} (h : RowI w g cap N f) (hi : i < N) (hj : j < N) :
    RowI ((((w.setCell ⟨g, i * 2, none⟩ (.slice (f j).1.1 (f j).1.2.1 (f j).1.2.2)).setCell ⟨g, i * 2 + 1, none⟩ (.int .i64 (f j).2.2)).setCell ⟨g, j * 2, none⟩ (.slice (f i).1.1 (f i).1.2.1 (f i).1.2.2)).setCell ⟨g, j * 2 + 1, none⟩ (.int .i64 (f i).2.2)) g cap N (swp f i j) ∧
    w.grownBy ((((w.setCell ⟨g, i * 2, none⟩ (.slice (f j).1.1 (f j).1.2.1 (f j).1.2.2)).setCell ⟨g, i * 2 + 1, none⟩ (.int .i64 (f j).2.2)).setCell ⟨g, j * 2, none⟩ (.slice (f i).1.1 (f i).1.2.1 (f i).1.2.2)).setCell ⟨g, j * 2 + 1, none⟩ (.int .i64 (f i).2.2)) (some g) := by
  obtain ⟨cur, h1, h2, h3, h4⟩ := h
  have s1 := set_block h1 (.slice (f j).1.1 (f j).1.2.1 (f j).1.2.2) _ rfl (i := i * 2)
  have s2 := set_block s1 (.int .i64 (f j).2.2) _ rfl (i := i * 2 + 1)
  have s3 := set_block s2 (.slice (f i).1.1 (f i).1.2.1 (f i).1.2.2) _ rfl (i := j * 2)
  have s4 := set_block s3 (.int .i64 (f i).2.2) _ rfl (i := j * 2 + 1)
  refine ⟨⟨_, s4, by simpa using h2, h3, fun k hk => ?_⟩, ?_⟩
  · obtain ⟨a, b⟩ := h4 k hk
    unfold swp
    simp only [Array.getElem?_setIfInBounds, Array.size_setIfInBounds]
    constructor
    · by_cases hki : k = i
      · subst hki
        by_cases hkj : k = j
        · subst hkj
          rw [if_neg (by omega), if_pos rfl, if_pos (by omega), if_pos rfl]
        · rw [if_neg (by omega), if_neg (by omega), if_neg (by omega), if_pos rfl, if_pos (by omega), if_pos rfl]
      · by_cases hkj : k = j
        · subst hkj
          rw [if_neg (by omega), if_pos rfl, if_pos (by omega), if_neg hki, if_pos rfl]
        · rw [if_neg (by omega), if_neg (by omega), if_neg (by omega), if_neg (by omega), if_neg hki, if_neg hkj]
          exact a
    · by_cases hki : k = i
      · subst hki
        by_cases hkj : k = j
        · subst hkj
          rw [if_pos rfl, if_pos (by omega), if_pos rfl]
        · rw [if_neg (by omega), if_neg (by omega), if_pos rfl, if_pos (by omega), if_pos rfl]
      · by_cases hkj : k = j
        · subst hkj
          rw [if_pos rfl, if_pos (by omega), if_neg hki, if_pos rfl]
        · rw [if_neg (by omega), if_neg (by omega), if_neg (by omega), if_neg (by omega), if_neg hki, if_neg hkj]
          exact b
  · exact (set_grown h1 _).trans ((set_grown s1 _).trans ((set_grown s2 _).trans (set_grown s3 _)))

set_option maxHeartbeats 2000000 in
set_option maxRecDepth 100000 in
theorem swapRange_calls (g cap N a b n : Nat) (cv : Value) (f : Nat → Item) (w : World) (h : RowI w g cap N f) (hab : a + n ≤ b) (hb : b + n ≤ N) (hN : N ≤ 100000) :
    Calls Tryz.prog 111 #[.slice (some ⟨g, 0, none⟩) N cap, .int .i64 a, .int .i64 b, .int .i64 n, cv] w fun e w' => e = .returned (.tuple #[]) ∧ RowI w' g cap N (swr f a b n) ∧ PermF N f (swr f a b n) ∧ w.grownBy w' (some g) := by
  have HR := Lib.hid h
  clear h
  go_enter Tryz.func111, Tryz.ntmps111
  go_wp2
  go_loopg [10] n (fun gh i wr => ∃ k : Nat, k ≤ n ∧ gh = n - k ∧ i = .int .i64 k ∧ RowI wr g cap N (swr f a b k) ∧ PermF N f (swr f a b k) ∧ w.grownBy wr (some g))
  case atStart => exact ⟨0, Nat.zero_le _, by omega, rfl, by rw [swr_zero]; exact HR.out, by rw [swr_zero]; exact PermF.refl _ _, World.grownBy.refl _ _⟩
  case round =>
    obtain ⟨k, hk, hg, rfl, hr, hp, hgr⟩ := hrel
    by_cases hlt : k < n
    · obtain ⟨c0, c1⟩ := hr.cell (k := a + k) (by omega)
      obtain ⟨d0, d1⟩ := hr.cell (k := b + k) (by omega)
      have fz := hr.free
      have hsw := row_swap hr (i := a + k) (j := b + k) (by omega) (by omega)
      have hpp := hp.trans (swp_perm (swr f a b k) (i := a + k) (j := b + k) (N := N) (by omega) (by omega))
      rw [swr_succ f a b k (by omega)] at hsw hpp
      have e1 : ((a : Int) + k).toNat = a + k := by omega
      have e2 : ((b : Int) + k).toNat = b + k := by omega
      have l1 : (a : Int) + k < N := by omega
      have l2 : (b : Int) + k < N := by omega
      have b1 : 0 ≤ (a : Int) + k := by omega
      have b2 : 0 ≤ (b : Int) + k := by omega
      have w1 : IntKind.i64.wrap ((a : Int) + k) = (a : Int) + k := by rw [IntKind.wrap_i64]; omega
      have w2 : IntKind.i64.wrap ((b : Int) + k) = (b : Int) + k := by rw [IntKind.wrap_i64]; omega
      have HG := Lib.hid hg
      have HRR := Lib.hid hr
      have HP := Lib.hid hp
      have HGR := Lib.hid hgr
      have HSW := Lib.hid hsw
      have HPP := Lib.hid hpp
      clear hg hr hp hgr hsw hpp
      go_upto_region 3 with fail
      go_region
      go_wp2
      go_roundg (n - (k + 1))
      case measure => have := HG.out; omega
      case rel => exact ⟨k + 1, by omega, rfl, by go_num, HSW.out.1, HPP.out, grown_drew_r (World.grownBy.trans HGR.out HSW.out.2)⟩
    · have hke : k = n := by omega
      subst hke
      have HG := Lib.hid hg
      have HRR := Lib.hid hr
      have HP := Lib.hid hp
      have HGR := Lib.hid hgr
      clear hg hr hp hgr
      go_wp2
      go_end0
      exact ⟨rfl, HRR.out, HP.out, HGR.out⟩

set_option maxHeartbeats 2000000 in
set_option maxRecDepth 100000 in
theorem rotate_calls (g cap N a m b : Nat) (cv : Value) (f : Nat → Item) (w : World) (h : RowI w g cap N f) (ham : a < m) (hmb : m < b) (hb : b ≤ N) (hN : N ≤ 100000) :
    Calls Tryz.prog 94 #[.slice (some ⟨g, 0, none⟩) N cap, .int .i64 a, .int .i64 m, .int .i64 b, cv] w fun e w' => e = .returned (.tuple #[]) ∧ RowI w' g cap N (rot f a m b) ∧ PermF N f (rot f a m b) ∧ w.grownBy w' (some g) := by
  have hia : (m : Int) - a = ((m - a : Nat) : Int) := by omega
  have hjb : (b : Int) - m = ((b - m : Nat) : Int) := by omega
  have HR := Lib.hid h
  have HIA := Lib.hid hia
  have HJB := Lib.hid hjb
  clear h hia hjb
  go_enter Tryz.func94, Tryz.ntmps94
  go_wp2
  go_loopg [10, 11] (b - a) (fun gh iv jv wr => ∃ (i j : Nat) (f' : Nat → Item), 0 < i ∧ 0 < j ∧ a + i ≤ m ∧ m + j ≤ b ∧ gh = i + j ∧ iv = .int .i64 i ∧ jv = .int .i64 j ∧ RowI wr g cap N f' ∧ PermF N f f' ∧ w.grownBy wr (some g) ∧ rot f a m b = rot f' (m - i) m (m + j) ∧ a ≤ m - i)
  case atStart => exact ⟨m - a, b - m, f, by omega, by omega, by omega, by omega, by omega, by rw [HIA.out], by rw [HJB.out], HR.out, PermF.refl _ _, World.grownBy.refl _ _, by rw [show m - (m - a) = a by omega, show m + (b - m) = b by omega], by omega⟩
  case round =>
    obtain ⟨i, j, f', hi, hj, him, hjm, hg, rfl, rfl, hr, hp, hgr, hrot, hami⟩ := hrel
    have e1 : (m : Int) - i = ((m - i : Nat) : Int) := by omega
    rcases Nat.lt_trichotomy i j with hij | hij | hij
    · have hne : ((i : Int) != (j : Int)) = true := by simp; omega
      have e2 : (m : Int) + j - i = ((m + j - i : Nat) : Int) := by omega
      have e3 : (j : Int) - i = ((j - i : Nat) : Int) := by omega
      have hs := swapRange_calls g cap N (m - i) (m + j - i) i cv f' wr hr (by omega) (by omega) hN
      have hl := rot_lt f' (m - i) m (m + j) (by omega) (by omega) (by omega)
      rw [show m - (m - i) = i by omega] at hl
      rw [hl] at hrot
      have HG := Lib.hid hg
      have HRR := Lib.hid hr
      have HP := Lib.hid hp
      have HGR := Lib.hid hgr
      have HROT := Lib.hid hrot
      have E1 := Lib.hid e1
      have E2 := Lib.hid e2
      have E3 := Lib.hid e3
      have HS := Lib.hid hs
      have HL := Lib.hid hl
      clear hg hr hp hgr hrot e1 e2 e3 hs hl
      go_wp2_with (go_at_call 111; rw [E1.out, E2.out]; refine HS.out.mono ?_; rintro e w1 ⟨rfl, hr1, hp1, hg1⟩)
      go_roundg j
      case measure => have := HG.out; omega
      case rel => exact ⟨i, j - i, _, by omega, by omega, by omega, by omega, by omega, rfl, by rw [← E3.out], hr1, PermF.trans HP.out hp1, World.grownBy.trans HGR.out hg1, by rw [HROT.out, show m + (j - i) = m + j - i by omega], by omega⟩
    · subst hij
      have hne : ((i : Int) != (i : Int)) = false := by simp
      have hs := swapRange_calls g cap N (m - i) m i cv f' wr hr (by omega) (by omega) hN
      have hl := rot_eq f' (m - i) m (m + i) (by omega) (by omega) (by omega)
      rw [show m - (m - i) = i by omega] at hl
      rw [hl] at hrot
      have HG := Lib.hid hg
      have HRR := Lib.hid hr
      have HP := Lib.hid hp
      have HGR := Lib.hid hgr
      have HROT := Lib.hid hrot
      have E1 := Lib.hid e1
      have HS := Lib.hid hs
      have HL := Lib.hid hl
      clear hg hr hp hgr hrot e1 hs hl
      go_wp2_with (go_at_call 111; rw [E1.out]; refine HS.out.mono ?_; rintro e w1 ⟨rfl, hr1, hp1, hg1⟩)
      go_end0
      rw [HROT.out]
      exact ⟨rfl, hr1, PermF.trans HP.out hp1, World.grownBy.trans HGR.out hg1⟩
    · have hne : ((i : Int) != (j : Int)) = true := by simp; omega
      have e3 : (i : Int) - j = ((i - j : Nat) : Int) := by omega
      have hs := swapRange_calls g cap N (m - i) m j cv f' wr hr (by omega) (by omega) hN
      have hl := rot_gt f' (m - i) m (m + j) (by omega) (by omega) (by omega)
      rw [show m + j - m = j by omega] at hl
      rw [hl] at hrot
      have HG := Lib.hid hg
      have HRR := Lib.hid hr
      have HP := Lib.hid hp
      have HGR := Lib.hid hgr
      have HROT := Lib.hid hrot
      have E1 := Lib.hid e1
      have E3 := Lib.hid e3
      have HS := Lib.hid hs
      have HL := Lib.hid hl
      clear hg hr hp hgr hrot e1 e3 hs hl
      go_wp2_with (go_at_call 111; rw [E1.out]; refine HS.out.mono ?_; rintro e w1 ⟨rfl, hr1, hp1, hg1⟩)
      go_roundg i
      case measure => have := HG.out; omega
      case rel => exact ⟨i - j, j, _, by omega, by omega, by omega, by omega, by omega, by rw [← E3.out], rfl, hr1, PermF.trans HP.out hp1, World.grownBy.trans HGR.out hg1, by rw [HROT.out, show m - (i - j) = m - i + j by omega], by omega⟩
end Go.Proofs.YtcpajbglcgbolaaGreat
namespace Go.Proofs.YtcpajbglcgbolaaGreat
open Go.RowKit

def ltI (x y : Item) : Bool := decide (cmpN x.2 y.2 < 0)
abbrev cmpV : Value := .func (.func 50) #[] #[]
def GoodI (w : World) (g N : Nat) (f : Nat → Item) : Prop := ∀ k, k < N → FactsAt (hush g w) (.slice (f k).1.1 (f k).1.2.1 (f k).1.2.2) (f k).2.1
theorem GoodI.keep {w w' : World} {g cap N a b : Nat} {f f' : Nat → Item} (h : GoodI w g N f) (hr : RowI w g cap N f) (hr' : RowI w' g cap N f') (hg : w.grownBy w' (some g)) (hw : Within a b f f') (hb : b ≤ N) : GoodI w' g N f' := by
  have hB := hr.grown hr' hg
  intro k hk
  by_cases hin : a ≤ k ∧ k < b
  · obtain ⟨k', h1, h2, e⟩ := hw.2 k hin.1 hin.2
    rw [e]
    exact (h k' (by omega)).keep hB
  · rw [hw.1 k hin]
    exact (h k hk).keep hB
theorem GoodI.cmp {w : World} {g N i j : Nat} {f : Nat → Item} (h : GoodI w g N f) (hi : i < N) (hj : j < N) (W : World) (hb : Below w.heap.size w W) :
    Calls Tryz.prog 50 #[.agg #[.slice (f i).1.1 (f i).1.2.1 (f i).1.2.2, .int .i64 (f i).2.2], .agg #[.slice (f j).1.1 (f j).1.2.1 (f j).1.2.2, .int .i64 (f j).2.2]] W fun r w' => r = .returned (.int .i64 (cmpN (f i).2 (f j).2)) ∧ Below W.heap.size W w' :=
  sortCmp_calls _ _ (f i).2.1 (f j).2.1 (f i).2.2 (f j).2.2 W ((h i hi).unhush.keep hb) ((h j hj).unhush.keep hb)

def Sorted (w w' : World) (g cap N a b : Nat) (f : Nat → Item) : Prop :=
  ∃ f', RowI w' g cap N f' ∧ PermF N f f' ∧ Within a b f f' ∧ SortedOn ltI f' a b ∧ w.grownBy w' (some g)

set_option maxHeartbeats 4000000 in
set_option maxRecDepth 100000 in
theorem insertion_calls (o : Ord ltI) (g cap N a b : Nat) (f : Nat → Item) (w : World) (h : RowI w g cap N f) (hgd : GoodI w g N f) (hab : a ≤ b) (hb : b ≤ N) (hN : N ≤ 100000) :
    Calls Tryz.prog 82 #[.slice (some ⟨g, 0, none⟩) N cap, .int .i64 a, .int .i64 b, cmpV] w fun e w' => e = .returned (.tuple #[]) ∧ Sorted w w' g cap N a b f := by
  have HR := Lib.hid h
  have HGD := Lib.hid hgd
  have HO := Lib.hid o
  clear h hgd o
  unfold cmpV
  go_enter Tryz.func82, Tryz.ntmps82
  go_wp2
  go_loopg [8] (b - (a + 1)) (fun gh iv wr => ∃ (i : Nat) (f' : Nat → Item), a < i ∧ (i ≤ b ∨ i = a + 1) ∧ gh = b - i ∧ iv = .int .i64 i ∧ RowI wr g cap N f' ∧ PermF N f f' ∧ Within a b f f' ∧ w.grownBy wr (some g) ∧ SortedOn ltI f' a i)
  case atStart => exact ⟨a + 1, f, by omega, by omega, by omega, by go_num, HR.out, PermF.refl _ _, Within.refl _ _ _, World.grownBy.refl _ _, SortedOn.small (by omega)⟩
  case round =>
    obtain ⟨i, f', hai, hib, hg, rfl, hr, hp, hwi, hgr, hso⟩ := hrel
    by_cases hlt : i < b
    · have hstart := almost_start hso
      have HG := Lib.hid hg
      have HRR := Lib.hid hr
      have HP := Lib.hid hp
      have HWI := Lib.hid hwi
      have HGR := Lib.hid hgr
      have HSO := Lib.hid hso
      have HST := Lib.hid hstart
      clear hg hr hp hwi hgr hso hstart
      go_wp2
      go_loopg [9] (i - a) (fun gh jv wr => ∃ (j : Nat) (f' : Nat → Item), a ≤ j ∧ j ≤ i ∧ gh = j - a ∧ jv = .int .i64 j ∧ RowI wr g cap N f' ∧ PermF N f f' ∧ Within a b f f' ∧ w.grownBy wr (some g) ∧ Almost ltI f' a (i + 1) j)
      case atStart => exact ⟨i, f', by omega, Nat.le_refl _, rfl, rfl, HRR.out, HP.out, HWI.out, HGR.out, HST.out⟩
      case round =>
        obtain ⟨j, f2, haj, hji, hgj, rfl, hr2, hp2, hwi2, hgr2, hal⟩ := hrel
        clear HRR HP HWI HGR HSO HST
        have hgd2 := HGD.out.keep HR.out hr2 hgr2 hwi2 hb
        by_cases haj' : a < j
        · obtain ⟨c0, c1⟩ := hr2.cell (k := j) (by omega)
          obtain ⟨d0, d1⟩ := hr2.cell (k := j - 1) (by omega)
          have fz := hr2.free
          have hcm := hgd2.cmp (i := j) (j := j - 1) (by omega) (by omega) wr.drew (Below.refl _ _).drew
          have e1 : ((j : Int) - 1).toNat = j - 1 := by omega
          have e2 : (j : Int) - 1 = ((j - 1 : Nat) : Int) := by omega
          have w1 : IntKind.i64.wrap ((j : Int) - 1) = (j : Int) - 1 := by rw [IntKind.wrap_i64]; omega
          have b1 : 0 ≤ (j : Int) - 1 := by omega
          have b2 : 1 ≤ (j : Int) := by omega
          have l1 : (j : Int) - 1 < N := by omega
          have hjN : j < N := by omega
          have dd : decide ((a : Int) < j) = true := by simp; omega
          have dd2 : decide (a < j) = true := by simpa using haj'
          have hlt2 : ltI (f2 j) (f2 (j - 1)) = decide (cmpN (f2 j).2 (f2 (j - 1)).2 < 0) := rfl
          generalize cmpN (f2 j).2 (f2 (j - 1)).2 = cc at hcm hlt2
          have HGJ := Lib.hid hgj
          have HR2 := Lib.hid hr2
          have HP2 := Lib.hid hp2
          have HWI2 := Lib.hid hwi2
          have HGR2 := Lib.hid hgr2
          have HAL := Lib.hid hal
          have HGD2 := Lib.hid hgd2
          have HCM := Lib.hid hcm
          have HLT2 := Lib.hid hlt2
          have E2 := Lib.hid e2
          clear hgj hr2 hp2 hwi2 hgr2 hal hgd2 hcm hlt2 e2
          go_upto_region 4 with fail
          go_cut [34] (fun s wx => s = .bool (decide (cc < 0)) ∧ Below wr.heap.size wr wx)
          case first =>
            go_region_held3 (fun w' => w'.cell? ⟨g, j * 2, none⟩ = some (.slice (f2 j).1.1 (f2 j).1.2.1 (f2 j).1.2.2) ∧ w'.cell? ⟨g, j * 2 + 1, none⟩ = some (.int .i64 (f2 j).2.2) ∧ w'.cell? ⟨g, (j - 1) * 2, none⟩ = some (.slice (f2 (j - 1)).1.1 (f2 (j - 1)).1.2.1 (f2 (j - 1)).1.2.2) ∧ w'.cell? ⟨g, (j - 1) * 2 + 1, none⟩ = some (.int .i64 (f2 (j - 1)).2.2))
              (first | exact ⟨r0, r1, r2, r3⟩ | exact ⟨c0, c1, d0, d1⟩)
              (first
                | (go_at_call 50; refine HCM.out.mono ?_; rintro e w1 ⟨rfl, hb1⟩; have r0 := kept hb1 c0; have r1 := kept hb1 c1; have r2 := kept hb1 d0; have r3 := kept hb1 d1; have HB1 : Hid (Below wr.heap.size wr w1) := belowT ((Below.refl _ _).drew) hb1; clear hb1)
                | fail)
            all_goals (go_wp2_with fail; go_meet; exact ⟨rfl, HB1.out⟩)
          case rest =>
            obtain ⟨rfl, hB1⟩ := hcut
            have hr3 := HR2.out.keep hB1
            have hgr3 : w.grownBy wc (some g) := World.grownBy.trans HGR2.out (grown_of_below hB1 _)
            by_cases hcc : cc < 0
            · have hl : ltI (f2 j) (f2 (j - 1)) = true := by rw [HLT2.out]; simpa using hcc
              have hal' := almost_step HAL.out haj' (by omega) HO.out hl
              obtain ⟨c0, c1⟩ := hr3.cell (k := j) (by omega)
              obtain ⟨d0, d1⟩ := hr3.cell (k := j - 1) (by omega)
              have fz := hr3.free
              have hsw := row_swap hr3 (i := j) (j := j - 1) (by omega) (by omega)
              have hpp := PermF.trans HP2.out (swp_perm f2 (i := j) (j := j - 1) (N := N) (by omega) (by omega))
              have hww := Within.trans HWI2.out (swp_within f2 a b j (j - 1) (by omega) (by omega))
              have HR3 := Lib.hid hr3
              have HGR3 := Lib.hid hgr3
              have HL := Lib.hid hl
              have HAL' := Lib.hid hal'
              have HSW := Lib.hid hsw
              have HPP := Lib.hid hpp
              have HWW := Lib.hid hww
              clear hr3 hgr3 hl hal' hsw hpp hww
              clear hB1
              go_upto_region 6 with fail
              go_region
              go_wp2
              go_roundg (j - 1 - a)
              case measure => have := HGJ.out; omega
              case rel => exact ⟨j - 1, _, by omega, by omega, by omega, by rw [← E2.out], HSW.out.1, HPP.out, HWW.out, grown_drew_r (World.grownBy.trans HGR3.out HSW.out.2), HAL'.out⟩
            · have hl : ltI (f2 j) (f2 (j - 1)) = false := by rw [HLT2.out]; simpa using hcc
              have hdone := almost_done HAL.out haj HO.out (fun _ => hl)
              have HR3 := Lib.hid hr3
              have HGR3 := Lib.hid hgr3
              have HL := Lib.hid hl
              have HDONE := Lib.hid hdone
              clear hr3 hgr3 hl hdone
              clear hB1
              go_wp2_with fail
              go_roundg (b - (i + 1))
              case measure => have := HG.out; omega
              case rel => exact ⟨i + 1, f2, by omega, by omega, rfl, by go_num, HR3.out, HP2.out, HWI2.out, HGR3.out, HDONE.out⟩
        · have hdone := almost_done hal haj HO.out (fun h => absurd h haj')
          have dd : decide ((a : Int) < j) = false := by simp; omega
          have dd2 : decide (a < j) = false := by simpa using haj'
          have HGJ := Lib.hid hgj
          have HR2 := Lib.hid hr2
          have HP2 := Lib.hid hp2
          have HWI2 := Lib.hid hwi2
          have HGR2 := Lib.hid hgr2
          have HAL := Lib.hid hal
          have HGD2 := Lib.hid hgd2
          have HDONE := Lib.hid hdone
          clear hgj hr2 hp2 hwi2 hgr2 hal hgd2 hdone
          go_upto_region 4 with fail
          go_cut [34] (fun s wx => s = .bool false ∧ ∃ q, wx = wr.drewN q)
          case first =>
            refine wp_region_quiet_lit (by kernel_rfl) (by kernel_rfl) ?_
            repeat (any_goals (first | go_big_quiet_step (fail) | quiet_step (fail) | (refine wpQuiet_step (fun K hK => ?_); go_simp; split <;> (refine hK _ ?_; clear hK K))))
            all_goals (refine wpQuiet_nil ?_; intro _ hw'; obtain ⟨nq, hw''⟩ := hw'; subst hw'')
            all_goals (go_wp2_with fail; go_meet; exact ⟨rfl, _, rfl⟩)
          case rest =>
            obtain ⟨rfl, q, rfl⟩ := hcut
            go_wp2_with fail
            go_roundg (b - (i + 1))
            case measure => have := HG.out; omega
            case rel => exact ⟨i + 1, f2, by omega, by omega, rfl, by go_num, HR2.out, HP2.out, HWI2.out, World.grownBy.trans HGR2.out (grown_of_below (below_drewN (Below.refl _ _) _) _), HDONE.out⟩
    · have hsb : SortedOn ltI f' a b := hso.sub (Nat.le_refl _) (by omega)
      have HG := Lib.hid hg
      have HRR := Lib.hid hr
      have HP := Lib.hid hp
      have HWI := Lib.hid hwi
      have HGR := Lib.hid hgr
      have HSO := Lib.hid hso
      have HSB := Lib.hid hsb
      clear hg hr hp hwi hgr hso hsb
      go_wp2
      go_end0
      exact ⟨rfl, f', HRR.out, HP.out, HWI.out, HSB.out, HGR.out⟩
end Go.Proofs.YtcpajbglcgbolaaGreat
namespace Go.Proofs.YtcpajbglcgbolaaGreat
open Go.RowKit


set_option maxHeartbeats 8000000 in
set_option maxRecDepth 100000 in
theorem sym_left (o : Ord ltI) (g cap N a b : Nat) (f : Nat → Item) (w : World) (h : RowI w g cap N f) (hgd : GoodI w g N f) (hab : a + 1 < b) (hb : b ≤ N) (hN : N ≤ 100000) (hs : SortedOn ltI f (a + 1) b) :
    Calls Tryz.prog 83 #[.slice (some ⟨g, 0, none⟩) N cap, .int .i64 a, .int .i64 ((a : Int) + 1), .int .i64 b, cmpV] w fun e w' => e = .returned (.tuple #[]) ∧ Sorted w w' g cap N a b f := by
  have hd1 : ((a : Int) + 1 - a == 1) = true := by simp; omega
  have HR := Lib.hid h
  have HGD := Lib.hid hgd
  have HO := Lib.hid o
  have HS := Lib.hid hs
  clear h hgd o hs
  unfold cmpV
  go_enter Tryz.func83, Tryz.ntmps83
  go_wp2
  go_loopg [10, 11] (b - (a + 1)) (fun gh iv jv wr => ∃ (i j : Nat), a + 1 ≤ i ∧ i ≤ j ∧ j ≤ b ∧ gh = j - i ∧ iv = .int .i64 i ∧ jv = .int .i64 j ∧ RowI wr g cap N f ∧ w.grownBy wr (some g) ∧ (a + 1 < i → ltI (f (i - 1)) (f a) = true) ∧ (j < b → ltI (f j) (f a) = false))
  case atStart => exact ⟨a + 1, b, Nat.le_refl _, by omega, Nat.le_refl _, rfl, by go_num, rfl, HR.out, World.grownBy.refl _ _, fun h => by omega, fun h => by omega⟩
  case round =>
    obtain ⟨i, j, hi, hij, hj, hg, rfl, rfl, hr, hgr, hl, hrr⟩ := hrel
    have hgdr := HGD.out.keep HR.out hr hgr (Within.refl a b f) hb
    by_cases hlt : i < j
    · obtain ⟨h, hh⟩ : ∃ h, h = (i + j) / 2 := ⟨_, rfl⟩
      have hh2 : ((i : Int) + j) / 2 = (h : Int) := by omega
      have hh3 : i ≤ h ∧ h < j := by omega
      obtain ⟨hih, hhj⟩ := hh3
      have hhN : h < N := by omega
      have haN : a < N := by omega
      have HG := Lib.hid hg
      have HRR := Lib.hid hr
      have HGR := Lib.hid hgr
      have HL := Lib.hid hl
      have HRT := Lib.hid hrr
      have HGDR := Lib.hid hgdr
      have HH := Lib.hid hh
      have HH2 := Lib.hid hh2
      clear hg hr hgr hl hrr hgdr hh hh2
      go_upto_region 5 with fail
      rw [HH2.out]
      obtain ⟨c0, c1⟩ := HRR.out.cell (k := h) (by omega)
      obtain ⟨d0, d1⟩ := HRR.out.cell (k := a) (by omega)
      have hcm := HGDR.out.cmp (i := h) (j := a) (by omega) (by omega) wr.drew (Below.refl _ _).drew
      have hlt2 : ltI (f (h)) (f (a)) = decide (cmpN (f (h)).2 (f (a)).2 < 0) := rfl
      generalize cmpN (f (h)).2 (f (a)).2 = cc at hcm hlt2
      have HCM := Lib.hid hcm
      have HLT2 := Lib.hid hlt2
      clear hcm hlt2
      go_cut [50] (fun s wx => s = .bool (decide (cc < 0)) ∧ Below wr.heap.size wr wx)
      case first =>
        go_region_held3 (fun w' => w'.cell? ⟨g, (h) * 2, none⟩ = some (.slice (f (h)).1.1 (f (h)).1.2.1 (f (h)).1.2.2) ∧ w'.cell? ⟨g, (h) * 2 + 1, none⟩ = some (.int .i64 (f (h)).2.2) ∧ w'.cell? ⟨g, (a) * 2, none⟩ = some (.slice (f (a)).1.1 (f (a)).1.2.1 (f (a)).1.2.2) ∧ w'.cell? ⟨g, (a) * 2 + 1, none⟩ = some (.int .i64 (f (a)).2.2))
          (first | exact ⟨r0, r1, r2, r3⟩ | exact ⟨c0, c1, d0, d1⟩)
          (first
            | (go_at_call 50; refine HCM.out.mono ?_; rintro e w1 ⟨rfl, hb1⟩; have r0 := kept hb1 c0; have r1 := kept hb1 c1; have r2 := kept hb1 d0; have r3 := kept hb1 d1; have HB1 : Hid (Below wr.heap.size wr w1) := belowT ((Below.refl _ _).drew) hb1; clear hb1)
            | fail)
        all_goals (go_wp2_with fail; go_meet; exact ⟨rfl, HB1.out⟩)
      case rest =>
        obtain ⟨rfl, hB1⟩ := hcut
        have hr1 := HRR.out.keep hB1
        have hgr1 : w.grownBy wc (some g) := World.grownBy.trans HGR.out (grown_of_below hB1 _)
        by_cases hcc : cc < 0
        · have hl1 : ltI (f (h + 1 - 1)) (f a) = true := by rw [show h + 1 - 1 = h by omega, HLT2.out]; simpa using hcc
          have HR1 := Lib.hid hr1
          have HGR1 := Lib.hid hgr1
          have HL1 := Lib.hid hl1
          clear hr1 hgr1 hl1
          clear hB1
          go_wp2_with fail
          go_roundg (j - (h + 1))
          case measure => have := HG.out; omega
          case rel => exact ⟨h + 1, j, by omega, by omega, hj, rfl, by go_num, rfl, HR1.out, HGR1.out, fun _ => HL1.out, HRT.out⟩
        · have hl1 : ltI (f h) (f a) = false := by rw [HLT2.out]; simpa using hcc
          have HR1 := Lib.hid hr1
          have HGR1 := Lib.hid hgr1
          have HL1 := Lib.hid hl1
          clear hr1 hgr1 hl1
          clear hB1
          go_wp2_with fail
          go_roundg (h - i)
          case measure => have := HG.out; omega
          case rel => exact ⟨i, h, hi, hih, by omega, rfl, rfl, rfl, HR1.out, HGR1.out, HL.out, fun _ => HL1.out⟩
    · obtain rfl : i = j := by omega
      have hfin := ins_up HO.out HS.out hi hj hl hrr
      have HG := Lib.hid hg
      have HRR := Lib.hid hr
      have HGR := Lib.hid hgr
      have HL := Lib.hid hl
      have HRT := Lib.hid hrr
      have HGDR := Lib.hid hgdr
      have HFIN := Lib.hid hfin
      clear hg hr hgr hl hrr hgdr hfin
      have ei : (i : Int) - 1 = ((i - 1 : Nat) : Int) := by omega
      have EI := Lib.hid ei
      clear ei
      go_wp2_with fail
      go_loopg [13] (i - 1 - a) (fun gh kv wr => ∃ k : Nat, a ≤ k ∧ k ≤ i - 1 ∧ gh = i - 1 - k ∧ kv = .int .i64 k ∧ RowI wr g cap N (rot f a (a + 1) (k + 1)) ∧ PermF N f (rot f a (a + 1) (k + 1)) ∧ w.grownBy wr (some g))
      case atStart => exact ⟨a, Nat.le_refl _, by omega, rfl, rfl, by rw [rot_right]; exact HRR.out, by rw [rot_right]; exact PermF.refl _ _, HGR.out⟩
      case round =>
        obtain ⟨k, hk1, hk2, hgk, rfl, hr2, hp2, hgr2⟩ := hrel
        by_cases hlk : k < i - 1
        · have hlk' : (k : Int) < (i : Int) - 1 := by omega
          obtain ⟨c0, c1⟩ := hr2.cell (k := k) (by omega)
          obtain ⟨d0, d1⟩ := hr2.cell (k := k + 1) (by omega)
          have fz := hr2.free
          have hsw := row_swap hr2 (i := k) (j := k + 1) (by omega) (by omega)
          have hpp := hp2.trans (swp_perm (rot f a (a + 1) (k + 1)) (i := k) (j := k + 1) (N := N) (by omega) (by omega))
          rw [rot_up f a k hk1] at hsw hpp
          have e1 : ((k : Int) + 1).toNat = k + 1 := by omega
          have w1 : IntKind.i64.wrap ((k : Int) + 1) = (k : Int) + 1 := by rw [IntKind.wrap_i64]; omega
          have b1 : 0 ≤ (k : Int) + 1 := by omega
          have l1 : (k : Int) + 1 < N := by omega
          have l2 : k < N := by omega
          have HGK := Lib.hid hgk
          have HR2 := Lib.hid hr2
          have HP2 := Lib.hid hp2
          have HGR2 := Lib.hid hgr2
          have HSW := Lib.hid hsw
          have HPP := Lib.hid hpp
          clear hgk hr2 hp2 hgr2 hsw hpp
          go_upto_region 11 with fail
          go_region
          go_wp2
          go_roundg (i - 1 - (k + 1))
          case measure => have := HGK.out; omega
          case rel => exact ⟨k + 1, by omega, by omega, rfl, by go_num, HSW.out.1, HPP.out, grown_drew_r (World.grownBy.trans HGR2.out HSW.out.2)⟩
        · have hlk' : ¬ ((k : Int) < (i : Int) - 1) := by omega
          have hki : k + 1 = i := by omega
          rw [hki] at hr2 hp2
          have hwn := (rot_within f a (a + 1) i (by omega) hi).mono (Nat.le_refl _) hj
          have HGK := Lib.hid hgk
          have HR2 := Lib.hid hr2
          have HP2 := Lib.hid hp2
          have HGR2 := Lib.hid hgr2
          have HWN := Lib.hid hwn
          have HKI := Lib.hid hki
          clear hgk hr2 hp2 hgr2 hwn hki
          go_wp2_with fail
          (try simp only [Exit.inBlock, Exit.then])
          refine bodyPost_ret (results_none rfl _ _ _) rfl ?_
          exact ⟨rfl, _, HR2.out, HP2.out, HWN.out, HFIN.out, HGR2.out⟩

set_option maxHeartbeats 8000000 in
set_option maxRecDepth 100000 in
theorem sym_right (o : Ord ltI) (g cap N a m : Nat) (f : Nat → Item) (w : World) (h : RowI w g cap N f) (hgd : GoodI w g N f) (ham : a + 1 < m) (hb : m + 1 ≤ N) (hN : N ≤ 100000) (hs : SortedOn ltI f a m) :
    Calls Tryz.prog 83 #[.slice (some ⟨g, 0, none⟩) N cap, .int .i64 a, .int .i64 m, .int .i64 ((m : Int) + 1), cmpV] w fun e w' => e = .returned (.tuple #[]) ∧ Sorted w w' g cap N a (m + 1) f := by
  have hd1 : ((m : Int) - a == 1) = false := by simp; omega
  have hd2 : ((m : Int) + 1 - m == 1) = true := by simp; omega
  have HR := Lib.hid h
  have HGD := Lib.hid hgd
  have HO := Lib.hid o
  have HS := Lib.hid hs
  clear h hgd o hs
  unfold cmpV
  go_enter Tryz.func83, Tryz.ntmps83
  go_wp2
  go_loopg [14, 15] (m - a) (fun gh iv jv wr => ∃ (i j : Nat), a ≤ i ∧ i ≤ j ∧ j ≤ m ∧ gh = j - i ∧ iv = .int .i64 i ∧ jv = .int .i64 j ∧ RowI wr g cap N f ∧ w.grownBy wr (some g) ∧ (a < i → ltI (f m) (f (i - 1)) = false) ∧ (j < m → ltI (f m) (f j) = true))
  case atStart => exact ⟨a, m, Nat.le_refl _, by omega, Nat.le_refl _, rfl, rfl, rfl, HR.out, World.grownBy.refl _ _, fun h => by omega, fun h => by omega⟩
  case round =>
    obtain ⟨i, j, hi, hij, hj, hg, rfl, rfl, hr, hgr, hl, hrr⟩ := hrel
    have hgdr := HGD.out.keep HR.out hr hgr (Within.refl a m f) (by omega)
    by_cases hlt : i < j
    · obtain ⟨h, hh⟩ : ∃ h, h = (i + j) / 2 := ⟨_, rfl⟩
      have hh2 : ((i : Int) + j) / 2 = (h : Int) := by omega
      have hh3 : i ≤ h ∧ h < j := by omega
      obtain ⟨hih, hhj⟩ := hh3
      have hhN : h < N := by omega
      have hmN : m < N := by omega
      have HG := Lib.hid hg
      have HRR := Lib.hid hr
      have HGR := Lib.hid hgr
      have HL := Lib.hid hl
      have HRT := Lib.hid hrr
      have HGDR := Lib.hid hgdr
      have HH := Lib.hid hh
      have HH2 := Lib.hid hh2
      clear hg hr hgr hl hrr hgdr hh hh2
      go_upto_region 17 with fail
      rw [HH2.out]
      obtain ⟨c0, c1⟩ := HRR.out.cell (k := m) (by omega)
      obtain ⟨d0, d1⟩ := HRR.out.cell (k := h) (by omega)
      have hcm := HGDR.out.cmp (i := m) (j := h) (by omega) (by omega) wr.drew (Below.refl _ _).drew
      have hlt2 : ltI (f (m)) (f (h)) = decide (cmpN (f (m)).2 (f (h)).2 < 0) := rfl
      generalize cmpN (f (m)).2 (f (h)).2 = cc at hcm hlt2
      have HCM := Lib.hid hcm
      have HLT2 := Lib.hid hlt2
      clear hcm hlt2
      go_cut [103] (fun s wx => s = .bool (!decide (cc < 0)) ∧ Below wr.heap.size wr wx)
      case first =>
        go_region_held3 (fun w' => w'.cell? ⟨g, (m) * 2, none⟩ = some (.slice (f (m)).1.1 (f (m)).1.2.1 (f (m)).1.2.2) ∧ w'.cell? ⟨g, (m) * 2 + 1, none⟩ = some (.int .i64 (f (m)).2.2) ∧ w'.cell? ⟨g, (h) * 2, none⟩ = some (.slice (f (h)).1.1 (f (h)).1.2.1 (f (h)).1.2.2) ∧ w'.cell? ⟨g, (h) * 2 + 1, none⟩ = some (.int .i64 (f (h)).2.2))
          (first | exact ⟨r0, r1, r2, r3⟩ | exact ⟨c0, c1, d0, d1⟩)
          (first
            | (go_at_call 50; refine HCM.out.mono ?_; rintro e w1 ⟨rfl, hb1⟩; have r0 := kept hb1 c0; have r1 := kept hb1 c1; have r2 := kept hb1 d0; have r3 := kept hb1 d1; have HB1 : Hid (Below wr.heap.size wr w1) := belowT ((Below.refl _ _).drew) hb1; clear hb1)
            | fail)
        all_goals (go_wp2_with fail; go_meet; exact ⟨rfl, HB1.out⟩)
      case rest =>
        obtain ⟨t, ht⟩ : ∃ t, (!decide (cc < 0)) = t := ⟨_, rfl⟩
        rw [ht] at hcut
        obtain ⟨rfl, hB1⟩ := hcut
        have hr1 := HRR.out.keep hB1
        have hgr1 : w.grownBy wc (some g) := World.grownBy.trans HGR.out (grown_of_below hB1 _)
        cases t
        · have hcc : cc < 0 := by simpa using ht
          clear ht
          have hl1 : ltI (f m) (f h) = true := by rw [HLT2.out]; simpa using hcc
          clear hcc
          have HR1 := Lib.hid hr1
          have HGR1 := Lib.hid hgr1
          have HL1 := Lib.hid hl1
          clear hr1 hgr1 hl1
          clear hB1
          go_wp2_with fail
          go_roundg (h - i)
          case measure => have := HG.out; omega
          case rel => exact ⟨i, h, hi, hih, by omega, rfl, rfl, rfl, HR1.out, HGR1.out, HL.out, fun _ => HL1.out⟩
        · have hcc : ¬ cc < 0 := by simpa using ht
          clear ht
          have hl1 : ltI (f m) (f (h + 1 - 1)) = false := by rw [show h + 1 - 1 = h by omega, HLT2.out]; simpa using hcc
          clear hcc
          have HR1 := Lib.hid hr1
          have HGR1 := Lib.hid hgr1
          have HL1 := Lib.hid hl1
          clear hr1 hgr1 hl1
          clear hB1
          go_wp2_with fail
          go_roundg (j - (h + 1))
          case measure => have := HG.out; omega
          case rel => exact ⟨h + 1, j, by omega, by omega, hj, rfl, by go_num, rfl, HR1.out, HGR1.out, fun _ => HL1.out, HRT.out⟩
    · obtain rfl : i = j := by omega
      have hfin := ins_down HO.out HS.out hi hj hl hrr
      have HG := Lib.hid hg
      have HRR := Lib.hid hr
      have HGR := Lib.hid hgr
      have HL := Lib.hid hl
      have HRT := Lib.hid hrr
      have HGDR := Lib.hid hgdr
      have HFIN := Lib.hid hfin
      clear hg hr hgr hl hrr hgdr hfin
      go_wp2_with fail
      go_loopg [17] (m - i) (fun gh kv wr => ∃ k : Nat, i ≤ k ∧ k ≤ m ∧ gh = k - i ∧ kv = .int .i64 k ∧ RowI wr g cap N (rot f k m (m + 1)) ∧ PermF N f (rot f k m (m + 1)) ∧ w.grownBy wr (some g))
      case atStart => exact ⟨m, hj, Nat.le_refl _, rfl, rfl, by rw [rot_left]; exact HRR.out, by rw [rot_left]; exact PermF.refl _ _, HGR.out⟩
      case round =>
        obtain ⟨k, hk1, hk2, hgk, rfl, hr2, hp2, hgr2⟩ := hrel
        by_cases hlk : i < k
        · obtain ⟨c0, c1⟩ := hr2.cell (k := k) (by omega)
          obtain ⟨d0, d1⟩ := hr2.cell (k := k - 1) (by omega)
          have fz := hr2.free
          have hsw := row_swap hr2 (i := k) (j := k - 1) (by omega) (by omega)
          have hpp := hp2.trans (swp_perm (rot f k m (m + 1)) (i := k) (j := k - 1) (N := N) (by omega) (by omega))
          rw [rot_down f m k (by omega) hk2] at hsw hpp
          have e1 : ((k : Int) - 1).toNat = k - 1 := by omega
          have e2 : (k : Int) - 1 = ((k - 1 : Nat) : Int) := by omega
          have w1 : IntKind.i64.wrap ((k : Int) - 1) = (k : Int) - 1 := by rw [IntKind.wrap_i64]; omega
          have b1 : 0 ≤ (k : Int) - 1 := by omega
          have b2 : 1 ≤ (k : Int) := by omega
          have l1 : (k : Int) - 1 < N := by omega
          have l2 : k < N := by omega
          have HGK := Lib.hid hgk
          have HR2 := Lib.hid hr2
          have HP2 := Lib.hid hp2
          have HGR2 := Lib.hid hgr2
          have HSW := Lib.hid hsw
          have HPP := Lib.hid hpp
          have E2 := Lib.hid e2
          clear hgk hr2 hp2 hgr2 hsw hpp e2
          go_upto_region 23 with fail
          go_region
          go_wp2
          go_roundg (k - 1 - i)
          case measure => have := HGK.out; omega
          case rel => exact ⟨k - 1, by omega, by omega, rfl, by rw [← E2.out], HSW.out.1, HPP.out, grown_drew_r (World.grownBy.trans HGR2.out HSW.out.2)⟩
        · obtain rfl : k = i := by omega
          have hwn := (rot_within f k m (m + 1) hj (by omega)).mono hi (Nat.le_refl _)
          have HGK := Lib.hid hgk
          have HR2 := Lib.hid hr2
          have HP2 := Lib.hid hp2
          have HGR2 := Lib.hid hgr2
          have HWN := Lib.hid hwn
          clear hgk hr2 hp2 hgr2 hwn
          go_wp2_with fail
          (try simp only [Exit.inBlock, Exit.then])
          refine bodyPost_ret (results_none rfl _ _ _) rfl ?_
          exact ⟨rfl, _, HR2.out, HP2.out, HWN.out, HFIN.out, HGR2.out⟩
end Go.Proofs.YtcpajbglcgbolaaGreat
namespace Go.Proofs.YtcpajbglcgbolaaGreat
open Go.RowKit

abbrev symArgs (g cap N a m b : Nat) : Array Value := #[.slice (some ⟨g, 0, none⟩) N cap, .int .i64 a, .int .i64 m, .int .i64 b, cmpV]

set_option maxHeartbeats 16000000 in
set_option maxRecDepth 100000 in
theorem sym_gen1 (o : Ord ltI) (g cap N a m b : Nat) (f : Nat → Item) (w : World) (h : RowI w g cap N f) (hgd : GoodI w g N f) (ham2 : a + 1 < m) (hmb2 : m + 1 < b) (hb : b ≤ N) (hN : N ≤ 100000) (hs1 : SortedOn ltI f a m) (hs2 : SortedOn ltI f m b)
    (hmm : (a + b) / 2 < m)
    (ih : ∀ (a' m' b' : Nat) (f' : Nat → Item) (w' : World), b' - a' < b - a → a' < m' → m' < b' → b' ≤ N → RowI w' g cap N f' → GoodI w' g N f' → SortedOn ltI f' a' m' → SortedOn ltI f' m' b' → Calls Tryz.prog 83 (symArgs g cap N a' m' b') w' fun e w'' => e = .returned (.tuple #[]) ∧ Sorted w' w'' g cap N a' b' f') :
    Calls Tryz.prog 83 #[.slice (some ⟨g, 0, none⟩) N cap, .int .i64 a, .int .i64 m, .int .i64 b, cmpV] w fun e w' => e = .returned (.tuple #[]) ∧ Sorted w w' g cap N a b f := by
  have hd1 : ((m : Int) - a == 1) = false := by simp; omega
  have hd2 : ((b : Int) - m == 1) = false := by simp; omega
  obtain ⟨mid, hmid⟩ : ∃ mid, mid = (a + b) / 2 := ⟨_, rfl⟩
  rw [← hmid] at hmm
  obtain ⟨p, hp⟩ : ∃ p, p = mid + m - 1 := ⟨_, rfl⟩
  have hmidI : ((a : Int) + b) / 2 = (mid : Int) := by omega
  have hnI : (mid : Int) + m = ((mid + m : Nat) : Int) := by omega
  have hpI : (mid : Int) + m - 1 = (p : Int) := by omega
  have ham : a < m := by omega
  have hmd1 : 2 * mid ≤ a + b := by omega
  have hmd2 : a + b ≤ 2 * mid + 1 := by omega
  have hp1 : p + 1 ≤ mid + m := by omega
  have hp2 : mid + m ≤ p + 1 := by omega
  unfold symArgs cmpV at ih
  unfold cmpV
  have HR := Lib.hid h
  have HGD := Lib.hid hgd
  have HO := Lib.hid o
  have HS1 := Lib.hid hs1
  have HS2 := Lib.hid hs2
  have IH := Lib.hid ih
  have HMID := Lib.hid hmid
  have HPP := Lib.hid hp
  clear h hgd o hs1 hs2 ih hmid hp
  have hloI : (mid : Int) + m - b = ((mid + m - b : Nat) : Int) := by omega
  have hlo1 : b ≤ mid + m := by omega
  have HLOI := Lib.hid hloI
  clear hloI
  go_enter Tryz.func83, Tryz.ntmps83
  have HMIDI := Lib.hid hmidI
  have HNI := Lib.hid hnI
  have HPI := Lib.hid hpI
  clear hmidI hnI hpI
  go_upto_region 25 with fail
  rw [HMIDI.out]
  go_wp2_with fail
  try rw [HLOI.out]
  rw [HPI.out]
  go_loopg [20, 21] (mid - (mid + m - b)) (fun gh iv jv wr => ∃ (s r : Nat), mid + m - b ≤ s ∧ s ≤ r ∧ r ≤ mid ∧ gh = r - s ∧ iv = .int .i64 s ∧ jv = .int .i64 r ∧ RowI wr g cap N f ∧ w.grownBy wr (some g) ∧ (mid + m - b < s → ltI (f (p - (s - 1))) (f (s - 1)) = false) ∧ (r < mid → ltI (f (p - r)) (f r) = true))
  case atStart => exact ⟨mid + m - b, mid, Nat.le_refl _, by omega, Nat.le_refl _, rfl, rfl, rfl, HR.out, World.grownBy.refl _ _, fun h => by omega, fun h => by omega⟩
  case round =>
    obtain ⟨s, r, hs1, hsr, hr1, hg, rfl, rfl, hr, hgr, hl, hrr⟩ := hrel
    have hgdr := HGD.out.keep HR.out hr hgr (Within.refl a b f) hb
    by_cases hlt : s < r
    · as_aux_lemma =>
        obtain ⟨c, hc⟩ : ∃ c, c = (s + r) / 2 := ⟨_, rfl⟩
        have hc2 : ((s : Int) + r) / 2 = (c : Int) := by omega
        have hc3 : s ≤ c ∧ c < r := by omega
        obtain ⟨hsc, hcr⟩ := hc3
        have hcN : c < N := by omega
        have hpN : p - c < N := by omega
        have hpc : (p : Int) - c = ((p - c : Nat) : Int) := by omega
        have hpc0 : 0 ≤ (p : Int) - c := by omega
        have hpcN : (p : Int) - c < N := by omega
        have hpcT : ((p : Int) - c).toNat = p - c := by omega
        have hcp : c ≤ p := by omega
        have hcpI : (c : Int) ≤ p := by omega
        have hcpN : p < N + c := by omega
        have hcpN2 : p < c + N := by omega
        have hcpNI : (p : Int) < (N : Int) + c := by omega
        have hpcw : IntKind.i64.wrap ((p : Int) - c) = (p : Int) - c := by rw [IntKind.wrap_i64]; omega
        have HG := Lib.hid hg
        have HRR := Lib.hid hr
        have HGR := Lib.hid hgr
        have HL := Lib.hid hl
        have HRT := Lib.hid hrr
        have HGDR := Lib.hid hgdr
        have HC := Lib.hid hc
        have HC2 := Lib.hid hc2
        have HPC := Lib.hid hpc
        clear hg hr hgr hl hrr hgdr hc hc2 hpc
        go_upto_region 35 with fail
        rw [HC2.out]
        obtain ⟨c0, c1⟩ := HRR.out.cell (k := p - c) (by omega)
        obtain ⟨d0, d1⟩ := HRR.out.cell (k := c) (by omega)
        have hcm := HGDR.out.cmp (i := p - c) (j := c) (by omega) (by omega) wr.drew (Below.refl _ _).drew
        have hlt2 : ltI (f (p - c)) (f (c)) = decide (cmpN (f (p - c)).2 (f (c)).2 < 0) := rfl
        generalize cmpN (f (p - c)).2 (f (c)).2 = cc at hcm hlt2
        have HCM := Lib.hid hcm
        have HLT2 := Lib.hid hlt2
        clear hcm hlt2
        go_cut [171] (fun s wx => s = .bool (!decide (cc < 0)) ∧ Below wr.heap.size wr wx)
        case first =>
          go_region_held3 (fun w' => w'.cell? ⟨g, (p - c) * 2, none⟩ = some (.slice (f (p - c)).1.1 (f (p - c)).1.2.1 (f (p - c)).1.2.2) ∧ w'.cell? ⟨g, (p - c) * 2 + 1, none⟩ = some (.int .i64 (f (p - c)).2.2) ∧ w'.cell? ⟨g, (c) * 2, none⟩ = some (.slice (f (c)).1.1 (f (c)).1.2.1 (f (c)).1.2.2) ∧ w'.cell? ⟨g, (c) * 2 + 1, none⟩ = some (.int .i64 (f (c)).2.2))
            (first | exact ⟨r0, r1, r2, r3⟩ | exact ⟨c0, c1, d0, d1⟩)
            (first
              | (go_at_call 50; refine HCM.out.mono ?_; rintro e w1 ⟨rfl, hb1⟩; have r0 := kept hb1 c0; have r1 := kept hb1 c1; have r2 := kept hb1 d0; have r3 := kept hb1 d1; have HB1 : Hid (Below wr.heap.size wr w1) := belowT ((Below.refl _ _).drew) hb1; clear hb1)
              | fail)
          all_goals (go_wp2_with fail; go_meet; exact ⟨rfl, HB1.out⟩)
        case rest =>
          as_aux_lemma =>
            obtain ⟨t, ht⟩ : ∃ t, (!decide (cc < 0)) = t := ⟨_, rfl⟩
            rw [ht] at hcut
            obtain ⟨rfl, hB1⟩ := hcut
            have hr1' := HRR.out.keep hB1
            have hgr1 : w.grownBy wc (some g) := World.grownBy.trans HGR.out (grown_of_below hB1 _)
            cases t
            · have hcc : cc < 0 := by simpa using ht
              clear ht
              have hl1 : ltI (f (p - c)) (f c) = true := by rw [HLT2.out]; simpa using hcc
              clear hcc
              have HR1 := Lib.hid hr1'
              have HGR1 := Lib.hid hgr1
              have HL1 := Lib.hid hl1
              clear hr1' hgr1 hl1
              clear hB1
              go_wp2_with fail
              go_roundg (c - s)
              case measure => have := HG.out; omega
              case rel => exact ⟨s, c, hs1, hsc, by omega, rfl, rfl, rfl, HR1.out, HGR1.out, HL.out, fun _ => HL1.out⟩
            · have hcc : ¬ cc < 0 := by simpa using ht
              clear ht
              have hl1 : ltI (f (p - (c + 1 - 1))) (f (c + 1 - 1)) = false := by rw [show c + 1 - 1 = c by omega, HLT2.out]; simpa using hcc
              clear hcc
              have HR1 := Lib.hid hr1'
              have HGR1 := Lib.hid hgr1
              have HL1 := Lib.hid hl1
              clear hr1' hgr1 hl1
              clear hB1
              go_wp2_with fail
              go_roundg (r - (c + 1))
              case measure => have := HG.out; omega
              case rel => exact ⟨c + 1, r, by omega, by omega, hr1, rfl, by go_num, rfl, HR1.out, HGR1.out, fun _ => HL1.out, HRT.out⟩
    · as_aux_lemma =>
        obtain rfl : s = r := by omega
        obtain ⟨e, he⟩ : ∃ e, e = mid + m - s := ⟨_, rfl⟩
        have heI : (mid : Int) + m - s = (e : Int) := by omega
        have hcut' := sym_cut HO.out (mid := mid) (s := s) (e := e) HS1.out HS2.out ham (by omega) (by omega) (by omega) (by omega) (by omega)
          (fun h1 h2 => by have := hl (by omega); rwa [show p - (s - 1) = e by omega] at this)
          (fun h1 h2 => by have := hrr (by omega); rwa [show p - s = e - 1 by omega] at this)
        have hwn := (rot_within f s m e (by omega) (by omega)).mono (show a ≤ s by omega) (show e ≤ b by omega)
        have hrot := fun (h1 : s < m) (h2 : m < e) => rotate_calls g cap N s m e (.func (.func 50) #[] #[]) f wr hr h1 h2 (by omega) hN
        have hrl := rot_left f m e
        have hrr' := rot_right f s m
        have hsm : s ≤ mid := by omega
        have hme : mid ≤ e := by omega
        have hsm' : s ≤ m := by omega
        have hem : m ≤ e := by omega
        have heb : e ≤ b := by omega
        have has : a ≤ s := by omega
        have hse : s + e = mid + m := by omega
        have HG := Lib.hid hg
        have HRR := Lib.hid hr
        have HGR := Lib.hid hgr
        have HL := Lib.hid hl
        have HRT := Lib.hid hrr
        have HGDR := Lib.hid hgdr
        have HE := Lib.hid he
        have HEI := Lib.hid heI
        have HCUT := Lib.hid hcut'
        have HWN := Lib.hid hwn
        have HROT := Lib.hid hrot
        have HRL := Lib.hid hrl
        have HRRR := Lib.hid hrr'
        have HSE := Lib.hid hse
        clear hg hr hgr hl hrr hgdr he heI hcut' hwn hrot hrl hrr' hse
        go_upto_region 39 with fail
        rw [HEI.out]
        obtain ⟨t, ht⟩ : ∃ t, (decide (s < m) && decide (m < e)) = t := ⟨_, rfl⟩
        have HTX := Lib.hid ht
        clear ht
        go_cut [185] (fun z wx => z = .bool t ∧ wx = wr)
        case first =>
          by_cases x1 : s < m
          · by_cases x2 : m < e
            · go_wp2_with fail
              go_meet
              exact ⟨by rw [← HTX.out]; simp [x1, x2], rfl⟩
            · go_wp2_with fail
              go_meet
              exact ⟨by rw [← HTX.out]; simp [x2], rfl⟩
          · go_wp2_with fail
            go_meet
            exact ⟨by rw [← HTX.out]; simp [x1], rfl⟩
        case rest =>
        obtain ⟨rfl, rfl⟩ := hcut
        obtain ⟨wr, rfl⟩ : ∃ wr : World, wr = wc := ⟨_, rfl⟩
        have ht := HTX.out
        clear HTX
        go_upto_if 185 with fail
        go_cut [] (fun wx => RowI wx g cap N (rot f s m e) ∧ PermF N f (rot f s m e) ∧ w.grownBy wx (some g))
        case first =>
          as_aux_lemma =>
            cases t
            · have hid : rot f s m e = f := by
                simp only [Bool.and_eq_false_iff, decide_eq_false_iff_not] at ht
                rcases ht with ht | ht
                · rw [show s = m by omega]; exact HRL.out
                · rw [show e = m by omega]; exact HRRR.out
              have HIDE := Lib.hid hid
              have HT := Lib.hid ht
              clear hid ht
              go_wp2_with fail
              go_meet
              rw [HIDE.out]
              exact ⟨HRR.out, PermF.refl _ _, HGR.out⟩
            · simp only [Bool.and_eq_true, decide_eq_true_eq] at ht
              have hro := HROT.out ht.1 ht.2
              have HRO := Lib.hid hro
              have HT := Lib.hid ht
              clear hro ht
              go_wp2_with (go_at_call 94; refine HRO.out.mono ?_; rintro e' w1 ⟨rfl, hr1, hp1, hg1⟩)
              go_meet
              exact ⟨hr1, hp1, World.grownBy.trans HGR.out hg1⟩
        case rest =>
          as_aux_lemma =>
            obtain ⟨hra, hpa, hga⟩ := hcut
            have hgda := HGD.out.keep HR.out hra hga HWN.out hb
            obtain ⟨wa, rfl⟩ : ∃ wa : World, wa = wc := ⟨_, rfl⟩
            obtain ⟨hf, hhf⟩ : ∃ hf, hf = rot f s m e := ⟨_, rfl⟩
            have hcuts := HCUT.out
            have hwnA := HWN.out
            rw [← hhf] at hra hpa hgda hcuts hwnA
            obtain ⟨q1, q2, q3, q4, q5⟩ := hcuts
            have hc1 := fun (h1 : a < s) (h2 : s < mid) => IH.out a s mid hf wa (by omega) h1 h2 (by omega) hra hgda q1 q2
            have HRA := Lib.hid hra
            have HPA := Lib.hid hpa
            have HGA := Lib.hid hga
            have HGDA := Lib.hid hgda
            have HHF := Lib.hid hhf
            have Q1 := Lib.hid q1
            have Q2 := Lib.hid q2
            have Q3 := Lib.hid q3
            have Q4 := Lib.hid q4
            have Q5 := Lib.hid q5
            have HC1 := Lib.hid hc1
            have HWNA := Lib.hid hwnA
            have HT0 := Lib.hid ht
            clear hra hpa hga hgda hhf q1 q2 q3 q4 q5 hc1 hwnA ht
            clear HRR HGR HL HRT HGDR HROT HRL HRRR HCUT HWN
            go_upto_region 41 with fail
            obtain ⟨t, ht⟩ : ∃ t, (decide (a < s) && decide (s < mid)) = t := ⟨_, rfl⟩
            have HTX := Lib.hid ht
            clear ht
            go_cut [199] (fun z wx => z = .bool t ∧ wx = wa)
            case first =>
              by_cases x1 : a < s
              · by_cases x2 : s < mid
                · go_wp2_with fail
                  go_meet
                  exact ⟨by rw [← HTX.out]; simp [x1, x2], rfl⟩
                · go_wp2_with fail
                  go_meet
                  exact ⟨by rw [← HTX.out]; simp [x2], rfl⟩
              · go_wp2_with fail
                go_meet
                exact ⟨by rw [← HTX.out]; simp [x1], rfl⟩
            case rest =>
            obtain ⟨rfl, rfl⟩ := hcut
            obtain ⟨wa, rfl⟩ : ∃ wa : World, wa = wc := ⟨_, rfl⟩
            have ht := HTX.out
            clear HTX
            go_upto_if 199 with fail
            go_cut [] (fun wx => ∃ f1, RowI wx g cap N f1 ∧ PermF N hf f1 ∧ Within a mid hf f1 ∧ SortedOn ltI f1 a mid ∧ wa.grownBy wx (some g))
            case first =>
              as_aux_lemma =>
                cases t
                · have hso : SortedOn ltI hf a mid := by
                    simp only [Bool.and_eq_false_iff, decide_eq_false_iff_not] at ht
                    rcases ht with ht | ht
                    · have := Q2.out; rwa [show s = a by omega] at this
                    · have := Q1.out; rwa [show s = mid by omega] at this
                  have HSO := Lib.hid hso
                  have HT := Lib.hid ht
                  clear hso ht
                  go_wp2_with fail
                  go_meet
                  exact ⟨hf, HRA.out, PermF.refl _ _, Within.refl _ _ _, HSO.out, World.grownBy.refl _ _⟩
                · simp only [Bool.and_eq_true, decide_eq_true_eq] at ht
                  have hro := HC1.out ht.1 ht.2
                  have HRO := Lib.hid hro
                  have HT := Lib.hid ht
                  clear hro ht
                  go_wp2_with (go_at_call 83; refine HRO.out.mono ?_; rintro e' w1 ⟨rfl, f1, s1, s2, s3, s4, s5⟩)
                  go_meet
                  exact ⟨f1, s1, s2, s3, s4, s5⟩
            case rest =>
              as_aux_lemma =>
                obtain ⟨f1, hr1, hp1, hw1, hs1, hg1⟩ := hcut
                have hgd1 := HGDA.out.keep HRA.out hr1 hg1 hw1 (by omega)
                obtain ⟨wb, rfl⟩ : ∃ wb : World, wb = wc := ⟨_, rfl⟩
                have q3' := Q3.out.off hw1 (.inr (Nat.le_refl _))
                have q4' := Q4.out.off hw1 (.inr hme)
                have hc2 := fun (h1 : mid < e) (h2 : e < b) => IH.out mid e b f1 wb (by omega) h1 h2 hb hr1 hgd1 q3' q4'
                have HR1 := Lib.hid hr1
                have HP1 := Lib.hid hp1
                have HW1 := Lib.hid hw1
                have HSO1 := Lib.hid hs1
                have HG1 := Lib.hid hg1
                have HGD1 := Lib.hid hgd1
                have Q3' := Lib.hid q3'
                have Q4' := Lib.hid q4'
                have HC2 := Lib.hid hc2
                have HT1 := Lib.hid ht
                clear hr1 hp1 hw1 hs1 hg1 hgd1 q3' q4' hc2 ht
                go_upto_region 43 with fail
                obtain ⟨t, ht⟩ : ∃ t, (decide (mid < e) && decide (e < b)) = t := ⟨_, rfl⟩
                have HTX := Lib.hid ht
                clear ht
                go_cut [213] (fun z wx => z = .bool t ∧ wx = wb)
                case first =>
                  by_cases x1 : mid < e
                  · by_cases x2 : e < b
                    · go_wp2_with fail
                      go_meet
                      exact ⟨by rw [← HTX.out]; simp [x1, x2], rfl⟩
                    · go_wp2_with fail
                      go_meet
                      exact ⟨by rw [← HTX.out]; simp [x2], rfl⟩
                  · go_wp2_with fail
                    go_meet
                    exact ⟨by rw [← HTX.out]; simp [x1], rfl⟩
                case rest =>
                obtain ⟨rfl, rfl⟩ := hcut
                obtain ⟨wb, rfl⟩ : ∃ wb : World, wb = wc := ⟨_, rfl⟩
                have ht := HTX.out
                clear HTX
                cases t
                · have hso : SortedOn ltI f1 mid b := by
                    simp only [Bool.and_eq_false_iff, decide_eq_false_iff_not] at ht
                    rcases ht with ht | ht
                    · have := Q4'.out; rwa [show e = mid by omega] at this
                    · have := Q3'.out; rwa [show e = b by omega] at this
                  have hfin := sym_join HW1.out (Within.refl mid b f1) HSO1.out hso Q5.out
                  have HSO := Lib.hid hso
                  have HT := Lib.hid ht
                  have HFIN := Lib.hid hfin
                  clear hso ht hfin
                  go_wp2_with fail
                  go_end0
                  exact ⟨rfl, f1, HR1.out, PermF.trans HPA.out HP1.out, Within.trans HWNA.out (HW1.out.mono (Nat.le_refl _) (by omega)), HFIN.out, World.grownBy.trans HGA.out HG1.out⟩
                · simp only [Bool.and_eq_true, decide_eq_true_eq] at ht
                  have hro := HC2.out ht.1 ht.2
                  have HRO := Lib.hid hro
                  have HT := Lib.hid ht
                  clear hro ht
                  go_wp2_with (go_at_call 83; refine HRO.out.mono ?_; rintro e' w1 ⟨rfl, f2, s1, s2, s3, s4, s5⟩)
                  go_end0
                  exact ⟨rfl, f2, s1, PermF.trans HPA.out (PermF.trans HP1.out s2), Within.trans HWNA.out (Within.trans (HW1.out.mono (Nat.le_refl _) (by omega)) (s3.mono (by omega) (Nat.le_refl _))), sym_join HW1.out s3 HSO1.out s4 Q5.out, World.grownBy.trans HGA.out (World.grownBy.trans HG1.out s5)⟩

set_option maxHeartbeats 16000000 in
set_option maxRecDepth 100000 in
theorem sym_gen2 (o : Ord ltI) (g cap N a m b : Nat) (f : Nat → Item) (w : World) (h : RowI w g cap N f) (hgd : GoodI w g N f) (ham2 : a + 1 < m) (hmb2 : m + 1 < b) (hb : b ≤ N) (hN : N ≤ 100000) (hs1 : SortedOn ltI f a m) (hs2 : SortedOn ltI f m b)
    (hmm : ¬ (a + b) / 2 < m)
    (ih : ∀ (a' m' b' : Nat) (f' : Nat → Item) (w' : World), b' - a' < b - a → a' < m' → m' < b' → b' ≤ N → RowI w' g cap N f' → GoodI w' g N f' → SortedOn ltI f' a' m' → SortedOn ltI f' m' b' → Calls Tryz.prog 83 (symArgs g cap N a' m' b') w' fun e w'' => e = .returned (.tuple #[]) ∧ Sorted w' w'' g cap N a' b' f') :
    Calls Tryz.prog 83 #[.slice (some ⟨g, 0, none⟩) N cap, .int .i64 a, .int .i64 m, .int .i64 b, cmpV] w fun e w' => e = .returned (.tuple #[]) ∧ Sorted w w' g cap N a b f := by
  have hd1 : ((m : Int) - a == 1) = false := by simp; omega
  have hd2 : ((b : Int) - m == 1) = false := by simp; omega
  obtain ⟨mid, hmid⟩ : ∃ mid, mid = (a + b) / 2 := ⟨_, rfl⟩
  rw [← hmid] at hmm
  obtain ⟨p, hp⟩ : ∃ p, p = mid + m - 1 := ⟨_, rfl⟩
  have hmidI : ((a : Int) + b) / 2 = (mid : Int) := by omega
  have hnI : (mid : Int) + m = ((mid + m : Nat) : Int) := by omega
  have hpI : (mid : Int) + m - 1 = (p : Int) := by omega
  have ham : a < m := by omega
  have hmd1 : 2 * mid ≤ a + b := by omega
  have hmd2 : a + b ≤ 2 * mid + 1 := by omega
  have hp1 : p + 1 ≤ mid + m := by omega
  have hp2 : mid + m ≤ p + 1 := by omega
  unfold symArgs cmpV at ih
  unfold cmpV
  have HR := Lib.hid h
  have HGD := Lib.hid hgd
  have HO := Lib.hid o
  have HS1 := Lib.hid hs1
  have HS2 := Lib.hid hs2
  have IH := Lib.hid ih
  have HMID := Lib.hid hmid
  have HPP := Lib.hid hp
  clear h hgd o hs1 hs2 ih hmid hp
  have HLOI : Hid ((N : Int) = N) := rfl
  go_enter Tryz.func83, Tryz.ntmps83
  have HMIDI := Lib.hid hmidI
  have HNI := Lib.hid hnI
  have HPI := Lib.hid hpI
  clear hmidI hnI hpI
  go_upto_region 25 with fail
  rw [HMIDI.out]
  go_wp2_with fail
  try rw [HLOI.out]
  rw [HPI.out]
  go_loopg [20, 21] (m - (a)) (fun gh iv jv wr => ∃ (s r : Nat), a ≤ s ∧ s ≤ r ∧ r ≤ m ∧ gh = r - s ∧ iv = .int .i64 s ∧ jv = .int .i64 r ∧ RowI wr g cap N f ∧ w.grownBy wr (some g) ∧ (a < s → ltI (f (p - (s - 1))) (f (s - 1)) = false) ∧ (r < m → ltI (f (p - r)) (f r) = true))
  case atStart => exact ⟨a, m, Nat.le_refl _, by omega, Nat.le_refl _, rfl, rfl, rfl, HR.out, World.grownBy.refl _ _, fun h => by omega, fun h => by omega⟩
  case round =>
    obtain ⟨s, r, hs1, hsr, hr1, hg, rfl, rfl, hr, hgr, hl, hrr⟩ := hrel
    have hgdr := HGD.out.keep HR.out hr hgr (Within.refl a b f) hb
    by_cases hlt : s < r
    · as_aux_lemma =>
        obtain ⟨c, hc⟩ : ∃ c, c = (s + r) / 2 := ⟨_, rfl⟩
        have hc2 : ((s : Int) + r) / 2 = (c : Int) := by omega
        have hc3 : s ≤ c ∧ c < r := by omega
        obtain ⟨hsc, hcr⟩ := hc3
        have hcN : c < N := by omega
        have hpN : p - c < N := by omega
        have hpc : (p : Int) - c = ((p - c : Nat) : Int) := by omega
        have hpc0 : 0 ≤ (p : Int) - c := by omega
        have hpcN : (p : Int) - c < N := by omega
        have hpcT : ((p : Int) - c).toNat = p - c := by omega
        have hcp : c ≤ p := by omega
        have hcpI : (c : Int) ≤ p := by omega
        have hcpN : p < N + c := by omega
        have hcpN2 : p < c + N := by omega
        have hcpNI : (p : Int) < (N : Int) + c := by omega
        have hpcw : IntKind.i64.wrap ((p : Int) - c) = (p : Int) - c := by rw [IntKind.wrap_i64]; omega
        have HG := Lib.hid hg
        have HRR := Lib.hid hr
        have HGR := Lib.hid hgr
        have HL := Lib.hid hl
        have HRT := Lib.hid hrr
        have HGDR := Lib.hid hgdr
        have HC := Lib.hid hc
        have HC2 := Lib.hid hc2
        have HPC := Lib.hid hpc
        clear hg hr hgr hl hrr hgdr hc hc2 hpc
        go_upto_region 35 with fail
        rw [HC2.out]
        obtain ⟨c0, c1⟩ := HRR.out.cell (k := p - c) (by omega)
        obtain ⟨d0, d1⟩ := HRR.out.cell (k := c) (by omega)
        have hcm := HGDR.out.cmp (i := p - c) (j := c) (by omega) (by omega) wr.drew (Below.refl _ _).drew
        have hlt2 : ltI (f (p - c)) (f (c)) = decide (cmpN (f (p - c)).2 (f (c)).2 < 0) := rfl
        generalize cmpN (f (p - c)).2 (f (c)).2 = cc at hcm hlt2
        have HCM := Lib.hid hcm
        have HLT2 := Lib.hid hlt2
        clear hcm hlt2
        go_cut [171] (fun s wx => s = .bool (!decide (cc < 0)) ∧ Below wr.heap.size wr wx)
        case first =>
          go_region_held3 (fun w' => w'.cell? ⟨g, (p - c) * 2, none⟩ = some (.slice (f (p - c)).1.1 (f (p - c)).1.2.1 (f (p - c)).1.2.2) ∧ w'.cell? ⟨g, (p - c) * 2 + 1, none⟩ = some (.int .i64 (f (p - c)).2.2) ∧ w'.cell? ⟨g, (c) * 2, none⟩ = some (.slice (f (c)).1.1 (f (c)).1.2.1 (f (c)).1.2.2) ∧ w'.cell? ⟨g, (c) * 2 + 1, none⟩ = some (.int .i64 (f (c)).2.2))
            (first | exact ⟨r0, r1, r2, r3⟩ | exact ⟨c0, c1, d0, d1⟩)
            (first
              | (go_at_call 50; refine HCM.out.mono ?_; rintro e w1 ⟨rfl, hb1⟩; have r0 := kept hb1 c0; have r1 := kept hb1 c1; have r2 := kept hb1 d0; have r3 := kept hb1 d1; have HB1 : Hid (Below wr.heap.size wr w1) := belowT ((Below.refl _ _).drew) hb1; clear hb1)
              | fail)
          all_goals (go_wp2_with fail; go_meet; exact ⟨rfl, HB1.out⟩)
        case rest =>
          as_aux_lemma =>
            obtain ⟨t, ht⟩ : ∃ t, (!decide (cc < 0)) = t := ⟨_, rfl⟩
            rw [ht] at hcut
            obtain ⟨rfl, hB1⟩ := hcut
            have hr1' := HRR.out.keep hB1
            have hgr1 : w.grownBy wc (some g) := World.grownBy.trans HGR.out (grown_of_below hB1 _)
            cases t
            · have hcc : cc < 0 := by simpa using ht
              clear ht
              have hl1 : ltI (f (p - c)) (f c) = true := by rw [HLT2.out]; simpa using hcc
              clear hcc
              have HR1 := Lib.hid hr1'
              have HGR1 := Lib.hid hgr1
              have HL1 := Lib.hid hl1
              clear hr1' hgr1 hl1
              clear hB1
              go_wp2_with fail
              go_roundg (c - s)
              case measure => have := HG.out; omega
              case rel => exact ⟨s, c, hs1, hsc, by omega, rfl, rfl, rfl, HR1.out, HGR1.out, HL.out, fun _ => HL1.out⟩
            · have hcc : ¬ cc < 0 := by simpa using ht
              clear ht
              have hl1 : ltI (f (p - (c + 1 - 1))) (f (c + 1 - 1)) = false := by rw [show c + 1 - 1 = c by omega, HLT2.out]; simpa using hcc
              clear hcc
              have HR1 := Lib.hid hr1'
              have HGR1 := Lib.hid hgr1
              have HL1 := Lib.hid hl1
              clear hr1' hgr1 hl1
              clear hB1
              go_wp2_with fail
              go_roundg (r - (c + 1))
              case measure => have := HG.out; omega
              case rel => exact ⟨c + 1, r, by omega, by omega, hr1, rfl, by go_num, rfl, HR1.out, HGR1.out, fun _ => HL1.out, HRT.out⟩
    · as_aux_lemma =>
        obtain rfl : s = r := by omega
        obtain ⟨e, he⟩ : ∃ e, e = mid + m - s := ⟨_, rfl⟩
        have heI : (mid : Int) + m - s = (e : Int) := by omega
        have hcut' := sym_cut HO.out (mid := mid) (s := s) (e := e) HS1.out HS2.out ham (by omega) (by omega) (by omega) (by omega) (by omega)
          (fun h1 h2 => by have := hl (by omega); rwa [show p - (s - 1) = e by omega] at this)
          (fun h1 h2 => by have := hrr (by omega); rwa [show p - s = e - 1 by omega] at this)
        have hwn := (rot_within f s m e (by omega) (by omega)).mono (show a ≤ s by omega) (show e ≤ b by omega)
        have hrot := fun (h1 : s < m) (h2 : m < e) => rotate_calls g cap N s m e (.func (.func 50) #[] #[]) f wr hr h1 h2 (by omega) hN
        have hrl := rot_left f m e
        have hrr' := rot_right f s m
        have hsm : s ≤ mid := by omega
        have hme : mid ≤ e := by omega
        have hsm' : s ≤ m := by omega
        have hem : m ≤ e := by omega
        have heb : e ≤ b := by omega
        have has : a ≤ s := by omega
        have hse : s + e = mid + m := by omega
        have HG := Lib.hid hg
        have HRR := Lib.hid hr
        have HGR := Lib.hid hgr
        have HL := Lib.hid hl
        have HRT := Lib.hid hrr
        have HGDR := Lib.hid hgdr
        have HE := Lib.hid he
        have HEI := Lib.hid heI
        have HCUT := Lib.hid hcut'
        have HWN := Lib.hid hwn
        have HROT := Lib.hid hrot
        have HRL := Lib.hid hrl
        have HRRR := Lib.hid hrr'
        have HSE := Lib.hid hse
        clear hg hr hgr hl hrr hgdr he heI hcut' hwn hrot hrl hrr' hse
        go_upto_region 39 with fail
        rw [HEI.out]
        obtain ⟨t, ht⟩ : ∃ t, (decide (s < m) && decide (m < e)) = t := ⟨_, rfl⟩
        have HTX := Lib.hid ht
        clear ht
        go_cut [185] (fun z wx => z = .bool t ∧ wx = wr)
        case first =>
          by_cases x1 : s < m
          · by_cases x2 : m < e
            · go_wp2_with fail
              go_meet
              exact ⟨by rw [← HTX.out]; simp [x1, x2], rfl⟩
            · go_wp2_with fail
              go_meet
              exact ⟨by rw [← HTX.out]; simp [x2], rfl⟩
          · go_wp2_with fail
            go_meet
            exact ⟨by rw [← HTX.out]; simp [x1], rfl⟩
        case rest =>
        obtain ⟨rfl, rfl⟩ := hcut
        obtain ⟨wr, rfl⟩ : ∃ wr : World, wr = wc := ⟨_, rfl⟩
        have ht := HTX.out
        clear HTX
        go_upto_if 185 with fail
        go_cut [] (fun wx => RowI wx g cap N (rot f s m e) ∧ PermF N f (rot f s m e) ∧ w.grownBy wx (some g))
        case first =>
          as_aux_lemma =>
            cases t
            · have hid : rot f s m e = f := by
                simp only [Bool.and_eq_false_iff, decide_eq_false_iff_not] at ht
                rcases ht with ht | ht
                · rw [show s = m by omega]; exact HRL.out
                · rw [show e = m by omega]; exact HRRR.out
              have HIDE := Lib.hid hid
              have HT := Lib.hid ht
              clear hid ht
              go_wp2_with fail
              go_meet
              rw [HIDE.out]
              exact ⟨HRR.out, PermF.refl _ _, HGR.out⟩
            · simp only [Bool.and_eq_true, decide_eq_true_eq] at ht
              have hro := HROT.out ht.1 ht.2
              have HRO := Lib.hid hro
              have HT := Lib.hid ht
              clear hro ht
              go_wp2_with (go_at_call 94; refine HRO.out.mono ?_; rintro e' w1 ⟨rfl, hr1, hp1, hg1⟩)
              go_meet
              exact ⟨hr1, hp1, World.grownBy.trans HGR.out hg1⟩
        case rest =>
          as_aux_lemma =>
            obtain ⟨hra, hpa, hga⟩ := hcut
            have hgda := HGD.out.keep HR.out hra hga HWN.out hb
            obtain ⟨wa, rfl⟩ : ∃ wa : World, wa = wc := ⟨_, rfl⟩
            obtain ⟨hf, hhf⟩ : ∃ hf, hf = rot f s m e := ⟨_, rfl⟩
            have hcuts := HCUT.out
            have hwnA := HWN.out
            rw [← hhf] at hra hpa hgda hcuts hwnA
            obtain ⟨q1, q2, q3, q4, q5⟩ := hcuts
            have hc1 := fun (h1 : a < s) (h2 : s < mid) => IH.out a s mid hf wa (by omega) h1 h2 (by omega) hra hgda q1 q2
            have HRA := Lib.hid hra
            have HPA := Lib.hid hpa
            have HGA := Lib.hid hga
            have HGDA := Lib.hid hgda
            have HHF := Lib.hid hhf
            have Q1 := Lib.hid q1
            have Q2 := Lib.hid q2
            have Q3 := Lib.hid q3
            have Q4 := Lib.hid q4
            have Q5 := Lib.hid q5
            have HC1 := Lib.hid hc1
            have HWNA := Lib.hid hwnA
            have HT0 := Lib.hid ht
            clear hra hpa hga hgda hhf q1 q2 q3 q4 q5 hc1 hwnA ht
            clear HRR HGR HL HRT HGDR HROT HRL HRRR HCUT HWN
            go_upto_region 41 with fail
            obtain ⟨t, ht⟩ : ∃ t, (decide (a < s) && decide (s < mid)) = t := ⟨_, rfl⟩
            have HTX := Lib.hid ht
            clear ht
            go_cut [199] (fun z wx => z = .bool t ∧ wx = wa)
            case first =>
              by_cases x1 : a < s
              · by_cases x2 : s < mid
                · go_wp2_with fail
                  go_meet
                  exact ⟨by rw [← HTX.out]; simp [x1, x2], rfl⟩
                · go_wp2_with fail
                  go_meet
                  exact ⟨by rw [← HTX.out]; simp [x2], rfl⟩
              · go_wp2_with fail
                go_meet
                exact ⟨by rw [← HTX.out]; simp [x1], rfl⟩
            case rest =>
            obtain ⟨rfl, rfl⟩ := hcut
            obtain ⟨wa, rfl⟩ : ∃ wa : World, wa = wc := ⟨_, rfl⟩
            have ht := HTX.out
            clear HTX
            go_upto_if 199 with fail
            go_cut [] (fun wx => ∃ f1, RowI wx g cap N f1 ∧ PermF N hf f1 ∧ Within a mid hf f1 ∧ SortedOn ltI f1 a mid ∧ wa.grownBy wx (some g))
            case first =>
              as_aux_lemma =>
                cases t
                · have hso : SortedOn ltI hf a mid := by
                    simp only [Bool.and_eq_false_iff, decide_eq_false_iff_not] at ht
                    rcases ht with ht | ht
                    · have := Q2.out; rwa [show s = a by omega] at this
                    · have := Q1.out; rwa [show s = mid by omega] at this
                  have HSO := Lib.hid hso
                  have HT := Lib.hid ht
                  clear hso ht
                  go_wp2_with fail
                  go_meet
                  exact ⟨hf, HRA.out, PermF.refl _ _, Within.refl _ _ _, HSO.out, World.grownBy.refl _ _⟩
                · simp only [Bool.and_eq_true, decide_eq_true_eq] at ht
                  have hro := HC1.out ht.1 ht.2
                  have HRO := Lib.hid hro
                  have HT := Lib.hid ht
                  clear hro ht
                  go_wp2_with (go_at_call 83; refine HRO.out.mono ?_; rintro e' w1 ⟨rfl, f1, s1, s2, s3, s4, s5⟩)
                  go_meet
                  exact ⟨f1, s1, s2, s3, s4, s5⟩
            case rest =>
              as_aux_lemma =>
                obtain ⟨f1, hr1, hp1, hw1, hs1, hg1⟩ := hcut
                have hgd1 := HGDA.out.keep HRA.out hr1 hg1 hw1 (by omega)
                obtain ⟨wb, rfl⟩ : ∃ wb : World, wb = wc := ⟨_, rfl⟩
                have q3' := Q3.out.off hw1 (.inr (Nat.le_refl _))
                have q4' := Q4.out.off hw1 (.inr hme)
                have hc2 := fun (h1 : mid < e) (h2 : e < b) => IH.out mid e b f1 wb (by omega) h1 h2 hb hr1 hgd1 q3' q4'
                have HR1 := Lib.hid hr1
                have HP1 := Lib.hid hp1
                have HW1 := Lib.hid hw1
                have HSO1 := Lib.hid hs1
                have HG1 := Lib.hid hg1
                have HGD1 := Lib.hid hgd1
                have Q3' := Lib.hid q3'
                have Q4' := Lib.hid q4'
                have HC2 := Lib.hid hc2
                have HT1 := Lib.hid ht
                clear hr1 hp1 hw1 hs1 hg1 hgd1 q3' q4' hc2 ht
                go_upto_region 43 with fail
                obtain ⟨t, ht⟩ : ∃ t, (decide (mid < e) && decide (e < b)) = t := ⟨_, rfl⟩
                have HTX := Lib.hid ht
                clear ht
                go_cut [213] (fun z wx => z = .bool t ∧ wx = wb)
                case first =>
                  by_cases x1 : mid < e
                  · by_cases x2 : e < b
                    · go_wp2_with fail
                      go_meet
                      exact ⟨by rw [← HTX.out]; simp [x1, x2], rfl⟩
                    · go_wp2_with fail
                      go_meet
                      exact ⟨by rw [← HTX.out]; simp [x2], rfl⟩
                  · go_wp2_with fail
                    go_meet
                    exact ⟨by rw [← HTX.out]; simp [x1], rfl⟩
                case rest =>
                obtain ⟨rfl, rfl⟩ := hcut
                obtain ⟨wb, rfl⟩ : ∃ wb : World, wb = wc := ⟨_, rfl⟩
                have ht := HTX.out
                clear HTX
                cases t
                · have hso : SortedOn ltI f1 mid b := by
                    simp only [Bool.and_eq_false_iff, decide_eq_false_iff_not] at ht
                    rcases ht with ht | ht
                    · have := Q4'.out; rwa [show e = mid by omega] at this
                    · have := Q3'.out; rwa [show e = b by omega] at this
                  have hfin := sym_join HW1.out (Within.refl mid b f1) HSO1.out hso Q5.out
                  have HSO := Lib.hid hso
                  have HT := Lib.hid ht
                  have HFIN := Lib.hid hfin
                  clear hso ht hfin
                  go_wp2_with fail
                  go_end0
                  exact ⟨rfl, f1, HR1.out, PermF.trans HPA.out HP1.out, Within.trans HWNA.out (HW1.out.mono (Nat.le_refl _) (by omega)), HFIN.out, World.grownBy.trans HGA.out HG1.out⟩
                · simp only [Bool.and_eq_true, decide_eq_true_eq] at ht
                  have hro := HC2.out ht.1 ht.2
                  have HRO := Lib.hid hro
                  have HT := Lib.hid ht
                  clear hro ht
                  go_wp2_with (go_at_call 83; refine HRO.out.mono ?_; rintro e' w1 ⟨rfl, f2, s1, s2, s3, s4, s5⟩)
                  go_end0
                  exact ⟨rfl, f2, s1, PermF.trans HPA.out (PermF.trans HP1.out s2), Within.trans HWNA.out (Within.trans (HW1.out.mono (Nat.le_refl _) (by omega)) (s3.mono (by omega) (Nat.le_refl _))), sym_join HW1.out s3 HSO1.out s4 Q5.out, World.grownBy.trans HGA.out (World.grownBy.trans HG1.out s5)⟩
end Go.Proofs.YtcpajbglcgbolaaGreat
