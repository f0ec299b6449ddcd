/- Texts of the proof, part 6 of 7. -/
import Derived.Test.YtohjegemooakpaaGreatB2
import Derived.Test.YtohjegemooakpaaGreatB5
import Derived.Test.YtohjegemooakpaaGreatB4
import Derived.KernelRfl
import Derived.Test.YtohjegemooakpaaGreatB1
import Derived.Deep.Slices
import Derived.Deep.Fields
import Derived.ChangeSame
import Derived.SizedLaws
import Derived.Lib.SmallJoins
namespace Go.Proofs.YtohjegemooakpaaGreat.Am
set_option maxHeartbeats 16000000
set_option maxRecDepth 100000
open Go.RowKit
structure GChecker where
  t : GTask
  c : GCertificate
  steps : Int
  deriving DecidableEq
def cGChecker (x : GChecker) : List AV := [.sl 1 (x.t.Vars.map cI), .sl 1 (x.t.Init.map cI), .sl 2 (x.t.Goal.map cF), .sl 4 (x.t.Ops.map cGOp), .c (.int .i64 x.c.Bound), .sl 2 (x.c.Nogoods.map cN), .c (.int .i64 x.steps)]
theorem fr_cGChecker (x : GChecker) : ∀ y ∈ cGChecker x, Fr y := FrC_cons (.sl (frl_cI _)) (FrC_cons (.sl (frl_cI _)) (FrC_cons (.sl (frl_cF _)) (FrC_cons (.sl (frl_cGOp _)) (FrC_cons (.c _) (FrC_cons (.sl (frl_cN _)) (FrC_cons (.c _) (FrC_nil)))))))
theorem frl_cGChecker (l : List GChecker) : FrL (l.map cGChecker) := FrL_map (fun x _ => fr_cGChecker x)
instance {l : List GChecker} : FrI (l.map cGChecker) := ⟨frl_cGChecker l⟩
theorem zg_XDChk {P : Prop} (h : P := by repeat (first | exact True.intro | exact gb_nil rfl rfl | exact gb_take rfl ⟨rfl, rfl, rfl⟩ List.map_take FrI.h | refine gb_some ⟨rfl, rfl, rfl⟩ ?_ | refine And.intro ?_ ?_ | refine gw_ren rfl rfl rfl rfl rfl ?_ | exact gw_oren rfl rfl rfl rfl rfl | exact gw_opren rfl rfl rfl rfl rfl | exact gw_onil rfl rfl | refine gw_pren rfl rfl rfl rfl rfl | exact gw_thaw rfl rfl rfl | refine gw_tup ?_ | refine gw_ifc ?_ | exact GWL.nil | exact gwll_nil | exact gw_c | exact GW.sl | exact GW.nil | exact gwll_same rfl FrI.h | refine GWL.cons ?_ ?_ | refine gwll_cons ?_ ?_ | (refine gw_own3 rfl rfl rfl FrI.h ?_ ?_ ?_) | exact GW.fr FrV.h | exact GW.fr (by assumption) | refine gw_agg ?_ | refine gw_clo ?_ | refine gw_ptr rfl rfl rfl ?_ | (refine gw_own rfl rfl rfl ?_ FrI.h ?_ ?_) | assumption | omega | rfl | (rw [List.length_map, ← List.length_append]; assumption) | (refine gwll_same ?_ FrI.h; (simp [cGTask, cI, cF, cGOp, cGEffect, cGCertificate, cN, cGChecker, cL_cF] <;> fail)) | (rw [List.map_set]; refine gwll_set (by first | rfl | omega | simp) ?_ ?_) | refine gwll_set (by first | rfl | omega | simp) ?_ ?_ | (rw [List.map_replicate]; refine gwll_rep ?_) | refine gwll_rep ?_ | (rw [List.map_append]; refine gwll_append ?_ ?_) | refine gwll_append ?_ ?_ | (simp [cGTask, cI, cF, cGOp, cGEffect, cGCertificate, cN, cGChecker, cL_cF, take_len_map] <;> fail) | (rw [List.drop_zero, List.take_of_length_le] <;> first | rfl | (simp [cGTask, cI, cF, cGOp, cGEffect, cGCertificate, cN, cGChecker, cL_cF] <;> fail)) | (simp; omega) | (simp only [List.length_map, List.length_append, List.drop_zero, List.length_cons, List.length_nil, Nat.zero_add, Nat.add_zero] at *; omega))) : P := h
theorem zn_XDChk {P : Prop} (h : P := by repeat (first | exact True.intro | rfl | exact Nat.le_of_ble_eq_true rfl | exact gb_nil rfl rfl | exact gb_take rfl ⟨rfl, rfl, rfl⟩ List.map_take FrI.h | refine gb_some ⟨rfl, rfl, rfl⟩ ?_ | refine And.intro ?_ ?_ | refine gw_ren rfl rfl rfl rfl rfl ?_ | exact gw_oren rfl rfl rfl rfl rfl | exact gw_opren rfl rfl rfl rfl rfl | exact gw_onil rfl rfl | refine gw_pren rfl rfl rfl rfl rfl | exact gw_thaw rfl rfl rfl | refine gw_tup ?_ | refine gw_ifc ?_ | exact GWL.nil | exact gwll_nil | exact gw_c | exact GW.sl | exact GW.nil | exact gwll_same rfl FrI.h | refine GWL.cons ?_ ?_ | refine gwll_cons ?_ ?_ | (refine gw_own3 rfl rfl rfl FrI.h ?_ ?_ ?_) | exact GW.fr FrV.h | exact GW.fr (by assumption) | refine gw_agg ?_ | refine gw_clo ?_ | refine gw_ptr rfl rfl rfl ?_ | (refine gw_own rfl rfl rfl ?_ FrI.h ?_ ?_) | assumption | omega | rfl | (rw [List.length_map, ← List.length_append]; assumption) | (refine gwll_same ?_ FrI.h; (simp [cGTask, cI, cF, cGOp, cGEffect, cGCertificate, cN, cGChecker, cL_cF] <;> fail)) | (rw [List.map_set]; refine gwll_set (by first | rfl | omega | simp) ?_ ?_) | refine gwll_set (by first | rfl | omega | simp) ?_ ?_ | (rw [List.map_replicate]; refine gwll_rep ?_) | refine gwll_rep ?_ | (rw [List.map_append]; refine gwll_append ?_ ?_) | refine gwll_append ?_ ?_ | (simp [cGTask, cI, cF, cGOp, cGEffect, cGCertificate, cN, cGChecker, cL_cF, take_len_map] <;> fail) | (rw [List.drop_zero, List.take_of_length_le] <;> first | rfl | (simp [cGTask, cI, cF, cGOp, cGEffect, cGCertificate, cN, cGChecker, cL_cF] <;> fail)) | (simp; omega) | (simp only [List.length_map, List.length_append, List.drop_zero, List.length_cons, List.length_nil, Nat.zero_add, Nat.add_zero] at *; omega))) : P := h
theorem ci_XDChk {p K : Prop} (k : K) (h : p := by first | rfl | exact ⟨rfl, rfl⟩ | exact BW.fr FrV.h | (refine BW.fr ?_; assumption) | (refine ⟨rfl, ?_⟩; (simp [cGTask, cI, cF, cGOp, cGEffect, cGCertificate, cN, cGChecker, cL_cF, take_len_map]; done)) | (refine RowK.same ?_ FrI.h; first | rfl | (simp [cGTask, cI, cF, cGOp, cGEffect, cGCertificate, cN, cGChecker, cL_cF, take_len_map]; done)) | (refine row_part1 ?_; (repeat (first | exact BWL.nil | exact bwll_nil | exact bw_c | exact BW.sl | exact BW.nil | exact bwll_same rfl FrI.h | refine BWL.cons ?_ ?_ | refine bwll_cons ?_ ?_ | (refine bw_own3 rfl rfl rfl FrI.h ?_ ?_ ?_) | exact BW.fr FrV.h | exact BW.fr (by assumption) | refine bw_agg ?_ | refine bw_clo ?_ | refine bw_ptr rfl rfl rfl ?_ | (refine bw_own rfl rfl rfl ?_ FrI.h ?_ ?_) | assumption | omega | rfl | (rw [List.length_map, ← List.length_append]; assumption) | (refine bwll_same ?_ FrI.h; (simp [cGTask, cI, cF, cGOp, cGEffect, cGCertificate, cN, cGChecker, cL_cF] <;> fail)) | (rw [List.map_set]; refine bwll_set (by first | rfl | omega | simp) ?_ ?_) | refine bwll_set (by first | rfl | omega | simp) ?_ ?_ | (rw [List.map_replicate]; refine bwll_rep ?_) | refine bwll_rep ?_ | (rw [List.map_append]; refine bwll_append ?_ ?_) | refine bwll_append ?_ ?_ | (simp [cGTask, cI, cF, cGOp, cGEffect, cGCertificate, cN, cGChecker, cL_cF, take_len_map] <;> fail) | (rw [List.drop_zero, List.take_of_length_le] <;> first | rfl | (simp [cGTask, cI, cF, cGOp, cGEffect, cGCertificate, cN, cGChecker, cL_cF] <;> fail)) | (simp; omega) | (simp only [List.length_map, List.length_append, List.drop_zero, List.length_cons, List.length_nil, Nat.zero_add, Nat.add_zero] at *; omega))); done) | ((repeat (first | exact BWL.nil | exact bwll_nil | exact bw_c | exact BW.sl | exact BW.nil | exact bwll_same rfl FrI.h | refine BWL.cons ?_ ?_ | refine bwll_cons ?_ ?_ | (refine bw_own3 rfl rfl rfl FrI.h ?_ ?_ ?_) | exact BW.fr FrV.h | exact BW.fr (by assumption) | refine bw_agg ?_ | refine bw_clo ?_ | refine bw_ptr rfl rfl rfl ?_ | (refine bw_own rfl rfl rfl ?_ FrI.h ?_ ?_) | assumption | omega | rfl | (rw [List.length_map, ← List.length_append]; assumption) | (refine bwll_same ?_ FrI.h; (simp [cGTask, cI, cF, cGOp, cGEffect, cGCertificate, cN, cGChecker, cL_cF] <;> fail)) | (rw [List.map_set]; refine bwll_set (by first | rfl | omega | simp) ?_ ?_) | refine bwll_set (by first | rfl | omega | simp) ?_ ?_ | (rw [List.map_replicate]; refine bwll_rep ?_) | refine bwll_rep ?_ | (rw [List.map_append]; refine bwll_append ?_ ?_) | refine bwll_append ?_ ?_ | (simp [cGTask, cI, cF, cGOp, cGEffect, cGCertificate, cN, cGChecker, cL_cF, take_len_map] <;> fail) | (rw [List.drop_zero, List.take_of_length_le] <;> first | rfl | (simp [cGTask, cI, cF, cGOp, cGEffect, cGCertificate, cN, cGChecker, cL_cF] <;> fail)) | (simp; omega) | (simp only [List.length_map, List.length_append, List.drop_zero, List.length_cons, List.length_nil, Nat.zero_add, Nat.add_zero] at *; omega))); done) | (simp [cGTask, cI, cF, cGOp, cGEffect, cGCertificate, cN, cGChecker, cL_cF, take_len_map]; done)) : p ∧ K := ⟨h, k⟩
theorem ca_XDChk {P : Prop} (h : P := by repeat (first | exact True.intro | refine ci_XDChk ?_)) : P := h
theorem pr_XDChk {p K : Prop} (k : K) (h : p := by first | assumption | exact Int.natCast_nonneg _ | exact Nat.le_refl _ | exact Nat.zero_le _ | omega | (simp; done) | (simp; omega)) : p ∧ K := ⟨h, k⟩
theorem pl_XDChk {p K : Prop} (k : K) (h : p := by first | rfl | exact List.length_map _ | (simp; done) | (simp; omega)) : p ∧ K := ⟨h, k⟩
theorem pe_XDChk {p K : Prop} (k : K) (h : p := by first | omega | (simp; omega) | (simp only [List.length_map, List.length_cons, List.length_nil, List.length_append]; omega) | (simp only [List.length_map, List.drop_zero, List.length_cons, List.length_nil, Nat.zero_add, Nat.add_zero] at *; omega)) : p ∧ K := ⟨h, k⟩
theorem dr_XDChk {b : Bool} {p K : Prop} (k : K) (h : b = true → p := by intro h; first | (cases h; done) | exact ⟨by kernel_rfl, by kernel_rfl⟩) : (b = true → p) ∧ K := ⟨h, k⟩
theorem cl_XDChk {C : Cx} {n : Nat} {o : Oper} {τ : Nat → AV} {η : Nat → Ent} {f : FuncId} {os : Array Operand} {ats : Array TypeId} {r : AV} {args : List AV} {K : Foot → Prop} (ho : o.op = .call ⟨.value (.func f), os, ats⟩) (hc : ACall C f args r) (k : K ⟨r, [], []⟩)
    (hd : InB n o.dst := by exact Nat.le_of_ble_eq_true rfl) (hargs : os.toList.map (evA τ) = args := by first | rfl | (simp [cGTask, cI, cF, cGOp, cGEffect, cGCertificate, cN, cGChecker, cL_cF]; done) | (repeat (first | exact rfl | refine cons_eq ?_ ?_ | exact sl_dt rfl))) (hfr : frs args := by repeat (first | exact trivial | exact fr1_eA _ | exact fr0_eA _ | exact fr1_fr (by assumption) | exact FrV.h | refine And.intro ?_ ?_)) (hr : fr1 r := by repeat (first | exact trivial | exact fr1_eA _ | exact fr0_eA _ | exact fr1_fr (by assumption) | exact FrV.h | refine And.intro ?_ ?_)) : ∃ f : Foot, LF C n o τ η f ∧ K f := ⟨_, lf_call ho hd hargs hc hfr hr, k⟩
theorem clg_XDChk {C : Cx} {n : Nat} {o : Oper} {τ : Nat → AV} {η : Nat → Ent} {f : FuncId} {os : Array Operand} {ats : Array TypeId} {r : AV} {xs ys : List AV} {bs bs' : List (Nat × Blk)} {ks : List Nat} {K : Foot → Prop} (ρ : List (Nat × Nat)) (fz : List Nat) (go nb : List (Nat × Ent)) (r' : AV) (ho : o.op = .call ⟨.value (.func f), os, ats⟩) (hargs : os.toList.map (evA τ) = xs)
    (hc : ACallG C f ys bs ks r bs') (k : K ⟨r', go ++ nb, []⟩) (hd : InB n o.dst := by exact Nat.le_of_ble_eq_true rfl) (hok : okC ρ fz bs ks bs' (idsE go) = true := by rfl) (hgo : allUs η go := by repeat (first | exact trivial | refine And.intro rfl ?_)) (hgl : ltUs n go := by repeat (first | exact trivial | refine And.intro (Nat.le_of_ble_eq_true rfl) ?_))
    (hw : GWL η (fE bs) (lk ρ) (fun i => inB fz i = true) (fun i => inB (keys bs) i = true) xs ys := by exact zg_XDChk) (hb : GBL η (fE bs) (lk ρ) (fun i => inB fz i = true) (fun i => inB (keys bs) i = true) bs := by exact zg_XDChk)
    (hr : GW (fE bs') (updAll η (go ++ nb)) (lk (backN ρ bs')) (fun _ => False) (fun i => inB (idsE nb) i = true) r r' := by exact zg_XDChk)
    (hnb : nbOk n η (updAll η (go ++ nb)) ρ ks (fE bs') (lk (backN ρ bs')) (fun i => inB (idsE nb) i = true) bs' nb := by exact zn_XDChk) : ∃ f : Foot, LF C n o τ η f ∧ K f := ⟨_, lf_callG ρ fz go nb ho hd hargs hc hok hgo hgl hw hb hr hnb, k⟩
theorem clk_XDChk {C : Cx} {n : Nat} {o : Oper} {τ : Nat → AV} {η : Nat → Ent} {f : FuncId} {os : Array Operand} {ats : Array TypeId} {r : AV} {xs ys : List AV} {bs bs' : List (Nat × Blk)} {ks : List Nat} {K : Foot → Prop} (ρ : List (Nat × Nat)) (nb : List (Nat × Ent)) (r' : AV) (ho : o.op = .call ⟨.value (.func f), os, ats⟩) (hargs : os.toList.map (evA τ) = xs)
    (hc : ACallG C f ys bs ks r bs') (k : K ⟨r', [], nb.map (·.1)⟩) (hd : InB n o.dst := by exact Nat.le_of_ble_eq_true rfl) (hok : okC ρ [] bs ks bs' (idsE []) = true := by rfl)
    (hw : GWL η (fE bs) (lk ρ) (fun i => inB [] i = true) (fun i => inB (keys bs) i = true) xs ys := by exact zg_XDChk) (hb : GBL η (fE bs) (lk ρ) (fun i => inB [] i = true) (fun i => inB (keys bs) i = true) bs := by exact zg_XDChk)
    (hr : GW (fE bs') (updAll η ([] ++ nb)) (lk (backN ρ bs')) (fun _ => False) (fun i => inB (idsE nb) i = true) r r' := by exact zg_XDChk)
    (hnb : nbOk n η (updAll η ([] ++ nb)) ρ ks (fE bs') (lk (backN ρ bs')) (fun i => inB (idsE nb) i = true) bs' nb := by exact zn_XDChk) (hs : sameUs η nb := by repeat (first | exact True.intro | refine And.intro rfl ?_)) : ∃ f : Foot, LF C n o τ η f ∧ K f := ⟨_, lf_callK (lf_callG ρ [] [] nb ho hd hargs hc hok True.intro True.intro hw hb hr hnb) hs, k⟩
def M_ce_formed_L1 (a0 : List Fact) : Nat → Int → Option (Bool)
  | 0, _ => none
  | k6 + 1, v5 =>
    sel (decide (v5 < ((a0.map cF).length : Int)))
     (ix a0 v5 (fun y7 =>
       sel (decide (y7.1 < 0))
        (some false)
        (sel (decide (y7.1 ≥ 64))
          (some false)
          (sel (decide (y7.2 < 0))
            (some false)
            (sel (decide (y7.2 ≥ 64))
              (some false)
              (sel (decide (v5 > 0))
                (ix a0 (IntKind.i64.wrap (v5 - 1)) (fun y8 =>
                  sel (decide (y8.1 ≥ y7.1))
                   (some false)
                   (M_ce_formed_L1 a0 k6 (IntKind.i64.wrap (v5 + 1)))))
                (M_ce_formed_L1 a0 k6 (IntKind.i64.wrap (v5 + 1)))))))))
     (some true)
def M_ce_formed (a0 : List Fact) : Option (Bool) :=
  M_ce_formed_L1 a0 ((((a0.map cF).length : Int)).toNat + 1) 0
theorem A_ce_formed (a0 : List Fact) {r1 : Bool} (h : M_ce_formed a0 = some r1) : ACall cx 47 [.sl 2 (a0.map cF)] (.c (.bool r1)) := by
  refine aOf Tryz.func47 rfl (by decide) rfl (Nat.le_of_ble_eq_true rfl) ?_; intro _; unfold M_ce_formed at h; refine aSR ?_; intro _; refine dr_XDChk ?_; refine aSq ?_; refine aSR ?_; intro _; refine dr_XDChk ?_; refine aBk ?_; refine awp_loop (α := Nat × Int) (fun x => mkS 46 [(0, .sl 2 (a0.map cF)), (5, .sl 2 (a0.map cF)), (6, .c (.int .i64 ((a0.map cF).length : Int))), (7, .c (.int .i64 x.2))] []) (fun x => M_ce_formed_L1 a0 x.1 x.2 = some r1) (fun x => x.1) ((((a0.map cF).length : Int)).toNat + 1, 0) h ?_ ?_
  · exact ca_XDChk
  · intro x1 h; intro _; obtain ⟨k6, m2, h⟩ := succ_of (f := fun n => M_ce_formed_L1 a0 n x1.2) rfl h; replace h : M_ce_formed_L1 a0 (k6 + 1) x1.2 = some r1 := h; rw [M_ce_formed_L1] at h; refine aSR ?_; intro _; refine dr_XDChk ?_; refine aSq ?_; refine aCd ?_; intro _; refine spl h (fun c3 h => ?_) (fun c3 h => ?_)
    · refine aSk ?_; refine aSq ?_; refine aBk ?_; refine aSR ?_; intro _; obtain ⟨y7, w4, q5, h⟩ := ix_ok h; refine Exists.intro (cF y7) (And.intro (map_at' w4) ?_); intro _; refine pr_XDChk ?_; refine dr_XDChk ?_; refine aSR ?_; intro _; refine spf h (fun c6 h => ?_) (fun c6 h => ?_)
      · intro _; refine spf h (fun c7 h => ?_) (fun c7 h => ?_)
        · intro _; refine spf h (fun c8 h => ?_) (fun c8 h => ?_)
          · intro _; refine spf h (fun c9 h => ?_) (fun c9 h => ?_)
            · intro _; refine spl h (fun c10 h => ?_) (fun c10 h => ?_)
              · intro _; obtain ⟨y8, w11, q12, h⟩ := ix_ok h; refine Exists.intro (cF y8) (And.intro (map_at' w11) ?_); intro _; refine pr_XDChk ?_; refine dr_XDChk ?_; refine aCd ?_; intro _; refine spl h (fun c13 h => ?_) (fun c13 h => ?_)
                · refine aSR ?_; intro _; refine dr_XDChk ?_; refine aRt ?_; intro _; obtain rfl := inj1 h; exact ca_XDChk
                · refine aSk ?_; refine aRg ?_; intro _; refine dr_XDChk ?_; refine ⟨(k6, (IntKind.i64.wrap (x1.2 + 1))), h, ltS m2, ?_⟩; exact ca_XDChk
              · intro _; refine dr_XDChk ?_; refine aCd ?_; intro _; refine litF ?_; refine aSk ?_; refine aRg ?_; intro _; refine dr_XDChk ?_; refine ⟨(k6, (IntKind.i64.wrap (x1.2 + 1))), h, ltS m2, ?_⟩; exact ca_XDChk
            · intro _; refine dr_XDChk ?_; refine aCd ?_; intro _; refine litT ?_; refine aSR ?_; intro _; refine dr_XDChk ?_; refine aRt ?_; intro _; obtain rfl := inj1 h; exact ca_XDChk
          · intro _; refine dr_XDChk ?_; refine aCd ?_; intro _; refine litT ?_; refine aSR ?_; intro _; refine dr_XDChk ?_; refine aRt ?_; intro _; obtain rfl := inj1 h; exact ca_XDChk
        · intro _; refine dr_XDChk ?_; refine aCd ?_; intro _; refine litT ?_; refine aSR ?_; intro _; refine dr_XDChk ?_; refine aRt ?_; intro _; obtain rfl := inj1 h; exact ca_XDChk
      · intro _; refine dr_XDChk ?_; refine aCd ?_; intro _; refine litT ?_; refine aSR ?_; intro _; refine dr_XDChk ?_; refine aRt ?_; intro _; obtain rfl := inj1 h; exact ca_XDChk
    · refine aEx ?_; refine aSR ?_; intro _; refine dr_XDChk ?_; refine aRt ?_; intro _; obtain rfl := inj1 h; exact ca_XDChk
def M_ce_Check_L1 (a0 : GCertificate) : Nat → Int → Option (Unit ⊕ Er)
  | 0, _ => none
  | k20 + 1, v19 =>
    sel (decide (v19 < ((a0.Nogoods.map cN).length : Int)))
     (ix a0.Nogoods v19 (fun y21 =>
       ob1 (M_ce_formed y21.1) (fun z22 =>
        sel (!z22)
         (some (.inr (Er.no 2)))
         (M_ce_Check_L1 a0 k20 (IntKind.i64.wrap (v19 + 1))))))
     (some (.inl ()))
def M_ce_Check_L2 (a0 : GCertificate) : Nat → Int → Option (Er)
  | 0, _ => none
  | k27 + 1, v26 =>
    sel (decide (v26 < ((a0.Nogoods.map cN).length : Int)))
     (ix a0.Nogoods v26 (fun y28 =>
       sel (decide (y28.2 < 0))
        (some (Er.no 1))
        (sel (decide (a0.Bound ≥ 0))
          (sel (decide (y28.2 ≥ a0.Bound))
            (some (Er.no 1))
            (sel (decide (a0.Bound < 0))
              (sel (y28.2 != 0)
                (some (Er.no 1))
                (M_ce_Check_L2 a0 k27 (IntKind.i64.wrap (v26 + 1))))
              (M_ce_Check_L2 a0 k27 (IntKind.i64.wrap (v26 + 1)))))
          (sel (decide (a0.Bound < 0))
            (sel (y28.2 != 0)
              (some (Er.no 1))
              (M_ce_Check_L2 a0 k27 (IntKind.i64.wrap (v26 + 1))))
            (M_ce_Check_L2 a0 k27 (IntKind.i64.wrap (v26 + 1)))))))
     (some Er.nil)
def M_ce_Check (a0 : GCertificate) : Option (Er) :=
  ob1 (sel (decide (a0.Bound < (-1)))
    (some (.inr (Er.no 1)))
    (sel (decide (a0.Bound > 1099511627776))
      (some (.inr (Er.no 1)))
      (some (.inl ()))) : Option (Unit ⊕ Er))
   (osum
   (fun _ => sel (decide (((a0.Nogoods.map cN).length : Int) > 4096))
      (some (Er.no 5))
      (ob1 (M_ce_Check_L1 a0 ((((a0.Nogoods.map cN).length : Int)).toNat + 1) 0 : Option (Unit ⊕ Er))
        (osum
        (fun _ => M_ce_Check_L2 a0 ((((a0.Nogoods.map cN).length : Int)).toNat + 1) 0)
        (fun r12 => some r12))))
   (fun r1 => some r1))
theorem A_ce_Check (a0 : GCertificate) {r1 : Er} (h : M_ce_Check a0 = some r1) : ACall cx 19 [.agg [.c (.int .i64 a0.Bound), .sl 2 (a0.Nogoods.map cN)]] (eA r1) := by
  refine aOf Tryz.func19 rfl (by decide) rfl (Nat.le_of_ble_eq_true rfl) ?_; intro _; unfold M_ce_Check at h; refine aSR ?_; intro _; refine dr_XDChk ?_; obtain ⟨o1, h, hK2⟩ := ob1_ok h; refine awp_cut (α := Unit) (fun _ => mkS 68 [(1, .ptr 1 0 0 0)] [(1, ⟨31, 2, true, [[.c (.int .i64 a0.Bound), .sl 2 (a0.Nogoods.map cN)]]⟩)]) (fun v => o1 = (.inl v)) ?_ ?_
  · refine aSR ?_; intro _; refine spf h (fun c3 h => ?_) (fun c3 h => ?_)
    · intro _; refine dr_XDChk ?_; refine aCd ?_; intro _; refine spl h (fun c4 h => ?_) (fun c4 h => ?_)
      · refine aSR ?_; intro _; refine dr_XDChk ?_; refine aRt ?_; have j5 := Option.some.inj h; subst j5; replace h := (osum_r hK2); intro _; obtain rfl := inj1 h; exact ca_XDChk
      · refine aSk ?_; refine ⟨(), (Option.some.inj h).symm, ?_⟩; exact ca_XDChk
    · intro _; refine dr_XDChk ?_; refine aCd ?_; intro _; refine litT ?_; refine aSR ?_; intro _; refine dr_XDChk ?_; refine aRt ?_; have j6 := Option.some.inj h; subst j6; replace h := (osum_r hK2); intro _; obtain rfl := inj1 h; exact ca_XDChk
  · rintro _ ho; have ho := ho.symm; subst ho; intro _; replace h := (osum_l hK2); refine aSq ?_; refine aSR ?_; intro _; refine dr_XDChk ?_; refine aCd ?_; intro _; refine spl h (fun c7 h => ?_) (fun c7 h => ?_)
    · refine aSR ?_; intro _; refine dr_XDChk ?_; refine aRt ?_; intro _; obtain rfl := inj1 h; exact ca_XDChk
    · refine aSk ?_; obtain ⟨o8, h, hK9⟩ := ob1_ok h; refine awp_cut (α := Unit) (fun _ => mkS 68 [(1, .ptr 1 0 0 0)] [(1, ⟨31, 2, true, [[.c (.int .i64 a0.Bound), .sl 2 (a0.Nogoods.map cN)]]⟩)]) (fun v => o8 = (.inl v)) ?_ ?_
      · refine aSR ?_; intro _; refine dr_XDChk ?_; refine aBk ?_; refine awp_loop (α := Nat × Int) (fun x => mkS 68 [(1, .ptr 1 0 0 0), (22, .sl 2 (a0.Nogoods.map cN)), (23, .c (.int .i64 ((a0.Nogoods.map cN).length : Int))), (24, .c (.int .i64 x.2))] [(1, ⟨31, 2, true, [[.c (.int .i64 a0.Bound), .sl 2 (a0.Nogoods.map cN)]]⟩)]) (fun x => M_ce_Check_L1 a0 x.1 x.2 = some o8) (fun x => x.1) ((((a0.Nogoods.map cN).length : Int)).toNat + 1, 0) h ?_ ?_
        · exact ca_XDChk
        · intro x10 h; intro _; obtain ⟨k20, m11, h⟩ := succ_of (f := fun n => M_ce_Check_L1 a0 n x10.2) rfl h; replace h : M_ce_Check_L1 a0 (k20 + 1) x10.2 = some o8 := h; rw [M_ce_Check_L1] at h; refine aSR ?_; intro _; refine dr_XDChk ?_; refine aSq ?_; refine aCd ?_; intro _; refine spl h (fun c12 h => ?_) (fun c12 h => ?_)
          · refine aSk ?_; refine aSq ?_; refine aBk ?_; refine aSR ?_; intro _; obtain ⟨y21, w13, q14, h⟩ := ix_ok h; refine Exists.intro (cN y21) (And.intro (map_at' w13) ?_); intro _; refine pr_XDChk ?_; refine dr_XDChk ?_; refine aSR ?_; intro _; obtain ⟨z22, u15, h⟩ := ob1_ok h; refine cl_XDChk rfl (A_ce_formed y21.1 u15) ?_; intro _; refine dr_XDChk ?_; refine aCd ?_; intro _; refine spl h (fun c16 h => ?_) (fun c16 h => ?_)
            · refine aSR ?_; intro _; refine dr_XDChk ?_; refine aRt ?_; have j17 := Option.some.inj h; subst j17; replace h := (osum_r hK9); intro _; obtain rfl := inj1 h; exact ca_XDChk
            · refine aSk ?_; refine aRg ?_; intro _; refine dr_XDChk ?_; refine ⟨(k20, (IntKind.i64.wrap (x10.2 + 1))), h, ltS m11, ?_⟩; exact ca_XDChk
          · refine aEx ?_; refine ⟨(), (Option.some.inj h).symm, ?_⟩; exact ca_XDChk
      · rintro _ ho; have ho := ho.symm; subst ho; intro _; replace h := (osum_l hK9); refine aSq ?_; refine aSR ?_; intro _; refine dr_XDChk ?_; refine aBk ?_; refine awp_loop (α := Nat × Int) (fun x => mkS 68 [(1, .ptr 1 0 0 0), (35, .sl 2 (a0.Nogoods.map cN)), (36, .c (.int .i64 ((a0.Nogoods.map cN).length : Int))), (37, .c (.int .i64 x.2))] [(1, ⟨31, 2, true, [[.c (.int .i64 a0.Bound), .sl 2 (a0.Nogoods.map cN)]]⟩)]) (fun x => M_ce_Check_L2 a0 x.1 x.2 = some r1) (fun x => x.1) ((((a0.Nogoods.map cN).length : Int)).toNat + 1, 0) h ?_ ?_
        · exact ca_XDChk
        · intro x18 h; intro _; obtain ⟨k27, m19, h⟩ := succ_of (f := fun n => M_ce_Check_L2 a0 n x18.2) rfl h; replace h : M_ce_Check_L2 a0 (k27 + 1) x18.2 = some r1 := h; rw [M_ce_Check_L2] at h; refine aSR ?_; intro _; refine dr_XDChk ?_; refine aSq ?_; refine aCd ?_; intro _; refine spl h (fun c20 h => ?_) (fun c20 h => ?_)
          · refine aSk ?_; refine aSq ?_; refine aBk ?_; refine aSR ?_; intro _; obtain ⟨y28, w21, q22, h⟩ := ix_ok h; refine Exists.intro (cN y28) (And.intro (map_at' w21) ?_); intro _; refine pr_XDChk ?_; refine dr_XDChk ?_; refine aSR ?_; intro _; refine spf h (fun c23 h => ?_) (fun c23 h => ?_)
            · intro _; refine spl h (fun c24 h => ?_) (fun c24 h => ?_)
              · intro _; refine spf h (fun c25 h => ?_) (fun c25 h => ?_)
                · intro _; refine spl h (fun c26 h => ?_) (fun c26 h => ?_)
                  · intro _; refine dr_XDChk ?_; refine aCd ?_; intro _; refine spl h (fun c27 h => ?_) (fun c27 h => ?_)
                    · refine aSR ?_; intro _; refine dr_XDChk ?_; refine aRt ?_; intro _; obtain rfl := inj1 h; exact ca_XDChk
                    · refine aSk ?_; refine aRg ?_; intro _; refine dr_XDChk ?_; refine ⟨(k27, (IntKind.i64.wrap (x18.2 + 1))), h, ltS m19, ?_⟩; exact ca_XDChk
                  · intro _; refine dr_XDChk ?_; refine aCd ?_; intro _; refine litF ?_; refine aSk ?_; refine aRg ?_; intro _; refine dr_XDChk ?_; refine ⟨(k27, (IntKind.i64.wrap (x18.2 + 1))), h, ltS m19, ?_⟩; exact ca_XDChk
                · intro _; refine dr_XDChk ?_; refine aCd ?_; intro _; refine litT ?_; refine aSR ?_; intro _; refine dr_XDChk ?_; refine aRt ?_; intro _; obtain rfl := inj1 h; exact ca_XDChk
              · intro _; refine spl h (fun c28 h => ?_) (fun c28 h => ?_)
                · intro _; refine dr_XDChk ?_; refine aCd ?_; intro _; refine spl h (fun c29 h => ?_) (fun c29 h => ?_)
                  · refine aSR ?_; intro _; refine dr_XDChk ?_; refine aRt ?_; intro _; obtain rfl := inj1 h; exact ca_XDChk
                  · refine aSk ?_; refine aRg ?_; intro _; refine dr_XDChk ?_; refine ⟨(k27, (IntKind.i64.wrap (x18.2 + 1))), h, ltS m19, ?_⟩; exact ca_XDChk
                · intro _; refine dr_XDChk ?_; refine aCd ?_; intro _; refine litF ?_; refine aSk ?_; refine aRg ?_; intro _; refine dr_XDChk ?_; refine ⟨(k27, (IntKind.i64.wrap (x18.2 + 1))), h, ltS m19, ?_⟩; exact ca_XDChk
            · intro _; refine dr_XDChk ?_; refine aCd ?_; intro _; refine litT ?_; refine aSR ?_; intro _; refine dr_XDChk ?_; refine aRt ?_; intro _; obtain rfl := inj1 h; exact ca_XDChk
          · refine aEx ?_; refine aSR ?_; intro _; refine dr_XDChk ?_; refine aRt ?_; intro _; obtain rfl := inj1 h; exact ca_XDChk
def M_ce_Proper_L1 (a0 : List Int) (a1 : GCertificate) : Nat → Int → Option (Er)
  | 0, _ => none
  | k9 + 1, v8 =>
    sel (decide (v8 < ((a1.Nogoods.map cN).length : Int)))
     (ix a1.Nogoods v8 (fun y10 =>
       ob1 (M_task_Facts a0 y10.1) (fun z11 =>
        sel (!z11)
         (some (Er.no 2))
         (M_ce_Proper_L1 a0 a1 k9 (IntKind.i64.wrap (v8 + 1))))))
     (some Er.nil)
def M_ce_Proper (a0 : List Int) (a1 : GCertificate) : Option (Er) :=
  ob1 (M_ce_Check a1) (fun z1 =>
   erM z1
    (M_ce_Proper_L1 a0 a1 ((((a1.Nogoods.map cN).length : Int)).toNat + 1) 0)
    (fun e2 => some (Er.no e2)))
theorem A_ce_Proper (a0 : List Int) (a1 : GCertificate) {r1 : Er} (h : M_ce_Proper a0 a1 = some r1) : ACall cx 83 [.sl 1 (a0.map cI), .agg [.c (.int .i64 a1.Bound), .sl 2 (a1.Nogoods.map cN)]] (eA r1) := by
  refine aOf Tryz.func83 rfl (by decide) rfl (Nat.le_of_ble_eq_true rfl) ?_; intro _; unfold M_ce_Proper at h; refine aSR ?_; intro _; refine dr_XDChk ?_; refine aSq ?_; refine aSR ?_; intro _; obtain ⟨z1, u1, h⟩ := ob1_ok h; refine cl_XDChk rfl (A_ce_Check a1 u1) ?_; intro _; refine dr_XDChk ?_; refine aSq ?_; rcases z1 with _ | e2
  · replace h := erM_nil h; refine aRg ?_; intro _; refine dr_XDChk ?_; refine aCd ?_; intro _; refine litF ?_; refine aSk ?_; refine aSq ?_; refine aSR ?_; intro _; refine dr_XDChk ?_; refine aBk ?_; refine awp_loop (α := Nat × Int) (fun x => mkS 27 [(0, .sl 1 (a0.map cI)), (14, .sl 2 (a1.Nogoods.map cN)), (15, .c (.int .i64 ((a1.Nogoods.map cN).length : Int))), (16, .c (.int .i64 x.2))] []) (fun x => M_ce_Proper_L1 a0 a1 x.1 x.2 = some r1) (fun x => x.1) ((((a1.Nogoods.map cN).length : Int)).toNat + 1, 0) h ?_ ?_
    · exact ca_XDChk
    · intro x2 h; intro _; obtain ⟨k9, m3, h⟩ := succ_of (f := fun n => M_ce_Proper_L1 a0 a1 n x2.2) rfl h; replace h : M_ce_Proper_L1 a0 a1 (k9 + 1) x2.2 = some r1 := h; rw [M_ce_Proper_L1] at h; refine aSR ?_; intro _; refine dr_XDChk ?_; refine aSq ?_; refine aCd ?_; intro _; refine spl h (fun c4 h => ?_) (fun c4 h => ?_)
      · refine aSk ?_; refine aSq ?_; refine aBk ?_; refine aSR ?_; intro _; obtain ⟨y10, w5, q6, h⟩ := ix_ok h; refine Exists.intro (cN y10) (And.intro (map_at' w5) ?_); intro _; refine pr_XDChk ?_; refine dr_XDChk ?_; refine aSR ?_; intro _; obtain ⟨z11, u7, h⟩ := ob1_ok h; refine cl_XDChk rfl (A_task_Facts a0 y10.1 u7) ?_; intro _; refine dr_XDChk ?_; refine aCd ?_; intro _; refine spl h (fun c8 h => ?_) (fun c8 h => ?_)
        · refine aSR ?_; intro _; refine dr_XDChk ?_; refine aRt ?_; intro _; obtain rfl := inj1 h; exact ca_XDChk
        · refine aSk ?_; refine aRg ?_; intro _; refine dr_XDChk ?_; refine ⟨(k9, (IntKind.i64.wrap (x2.2 + 1))), h, ltS m3, ?_⟩; exact ca_XDChk
      · refine aEx ?_; refine aSR ?_; intro _; refine dr_XDChk ?_; refine aRt ?_; intro _; obtain rfl := inj1 h; exact ca_XDChk
  · replace h := erM_no h; refine aRg ?_; intro _; refine dr_XDChk ?_; refine aCd ?_; intro _; refine litT ?_; refine aSR ?_; intro _; refine dr_XDChk ?_; refine aRt ?_; intro _; obtain rfl := inj1 h; exact ca_XDChk
def M_ck_counting_L1 (a0 : GChecker) (a1 : Int) : Nat → Int → (List (List Fact)) → Option (List (List Fact))
  | 0, _, _ => none
  | k7 + 1, v5, v6 =>
    sel (decide (v5 < ((a0.c.Nogoods.map cN).length : Int)))
     (ix a0.c.Nogoods v5 (fun y8 =>
       sel (decide (y8.2 ≤ a1))
        (grd ((v6.length + 1) * 24 ≤ 140737488355328) (M_ck_counting_L1 a0 a1 k7 (IntKind.i64.wrap (v5 + 1)) (v6 ++ [y8.1])))
        (M_ck_counting_L1 a0 a1 k7 (IntKind.i64.wrap (v5 + 1)) v6)))
     (grd (v6.length ≤ 140737488355328) (some v6))
def M_ck_counting (a0 : GChecker) (a1 : Int) : Option (List (List Fact)) :=
  M_ck_counting_L1 a0 a1 ((((a0.c.Nogoods.map cN).length : Int)).toNat + 1) 0 []
theorem A_ck_counting (a0 : GChecker) (a1 : Int) {r1 : List (List Fact)} (h : M_ck_counting a0 a1 = some r1) : ACallG cx 102 [.ptr 29 0 0 0, .c (.int .i64 a1)] [(29, ⟨130, 7, true, [[.sl 1 (a0.t.Vars.map cI), .sl 1 (a0.t.Init.map cI), .sl 2 (a0.t.Goal.map cF), .sl 4 (a0.t.Ops.map cGOp), .c (.int .i64 a0.c.Bound), .sl 2 (a0.c.Nogoods.map cN), .c (.int .i64 a0.steps)]]⟩)] [29] (.sl 1 (r1.map cL_cF)) [(29, ⟨130, 7, true, [[.sl 1 (a0.t.Vars.map cI), .sl 1 (a0.t.Init.map cI), .sl 2 (a0.t.Goal.map cF), .sl 4 (a0.t.Ops.map cGOp), .c (.int .i64 a0.c.Bound), .sl 2 (a0.c.Nogoods.map cN), .c (.int .i64 a0.steps)]]⟩)] := by
  refine acallg_of 31 Tryz.func102 rfl (by decide) rfl (Nat.le_of_ble_eq_true rfl) rfl rfl ?_; intro _; unfold M_ck_counting at h; refine aSR ?_; intro _; refine dr_XDChk ?_; refine aSR ?_; intro _; refine dr_XDChk ?_; refine aSq ?_; refine aSR ?_; intro _; refine dr_XDChk ?_; refine aBk ?_; refine awp_loop (α := Nat × Int × (List (List Fact))) (fun x => mkG 29 31 [(1, .c (.int .i64 a1)), (5, .own 26 0 0 x.2.2.length), (12, .sl 2 (a0.c.Nogoods.map cN)), (13, .c (.int .i64 ((a0.c.Nogoods.map cN).length : Int))), (14, .c (.int .i64 x.2.1))] [(26, ⟨23, 1, false, x.2.2.map cL_cF⟩), (29, ⟨130, 7, true, [[.sl 1 (a0.t.Vars.map cI), .sl 1 (a0.t.Init.map cI), .sl 2 (a0.t.Goal.map cF), .sl 4 (a0.t.Ops.map cGOp), .c (.int .i64 a0.c.Bound), .sl 2 (a0.c.Nogoods.map cN), .c (.int .i64 a0.steps)]]⟩)]) (fun x => M_ck_counting_L1 a0 a1 x.1 x.2.1 x.2.2 = some r1) (fun x => x.1) ((((a0.c.Nogoods.map cN).length : Int)).toNat + 1, 0, []) h ?_ ?_
  · exact ca_XDChk
  · intro x1 h; intro _; obtain ⟨k7, m2, h⟩ := succ_of (f := fun n => M_ck_counting_L1 a0 a1 n x1.2.1 x1.2.2) rfl h; replace h : M_ck_counting_L1 a0 a1 (k7 + 1) x1.2.1 x1.2.2 = some r1 := h; rw [M_ck_counting_L1] at h; refine aSR ?_; intro _; refine dr_XDChk ?_; refine aSq ?_; refine aCd ?_; intro _; refine spl h (fun c3 h => ?_) (fun c3 h => ?_)
    · refine aSk ?_; refine aSq ?_; refine aBk ?_; refine aSR ?_; intro _; obtain ⟨y8, w4, q5, h⟩ := ix_ok h; refine Exists.intro (cN y8) (And.intro (map_at' w4) ?_); intro _; refine pr_XDChk ?_; refine dr_XDChk ?_; refine aSR ?_; intro _; refine dr_XDChk ?_; refine aCd ?_; intro _; refine spl h (fun c6 h => ?_) (fun c6 h => ?_)
      · refine aRg ?_; intro _; obtain ⟨q7, h⟩ := grd_ok h; refine pl_XDChk ?_; refine pl_XDChk ?_; refine And.intro (by first | with_reducible assumption | (show (x1.2.2.length + 1) * 24 ≤ 140737488355328; with_reducible assumption) | omega | (simp; omega)) ?_; refine pe_XDChk ?_; refine dr_XDChk ?_; refine aRg ?_; intro _; refine dr_XDChk ?_; refine ⟨(k7, (IntKind.i64.wrap (x1.2.1 + 1)), (x1.2.2 ++ [y8.1])), h, ltS m2, ?_⟩; exact ca_XDChk
      · refine aSk ?_; refine aRg ?_; intro _; refine dr_XDChk ?_; refine ⟨(k7, (IntKind.i64.wrap (x1.2.1 + 1)), x1.2.2), h, ltS m2, ?_⟩; exact ca_XDChk
    · refine aEx ?_; refine aSR ?_; intro _; refine dr_XDChk ?_; refine aRt ?_; obtain ⟨q8, h⟩ := grd_ok h; intro _; obtain rfl := inj1 h; all_goals (refine Exists.intro [] (And.intro rfl (And.intro ?_ ?_))); all_goals (exact zg_XDChk)
def M_ck_covered (g : Nat) (a0 : GChecker) (a1 : List Fact) (a2 : Int) : Option (Bool × Er × GChecker) :=
  ob1 (M_ck_counting a0 a2) (fun z1 =>
   ob3 (M_p_Covered g a0.t.Vars a1 z1 a0.steps) (fun z2 z3 z4 =>
    erM z4
     (some (z2, Er.nil, { t := a0.t, c := a0.c, steps := (IntKind.i64.wrap (a0.steps - z3)) : GChecker }))
     (fun e5 => some (false, (Er.no e5), a0))))
theorem A_ck_covered (g : Nat) (a0 : GChecker) (a1 : List Fact) (a2 : Int) {r1 : Bool} {r2 : Er} {r3 : GChecker} (h : M_ck_covered g a0 a1 a2 = some (r1, r2, r3)) : ACallG cx 84 [.ptr 41 0 0 0, .sl 2 (a1.map cF), .c (.int .i64 a2)] [(41, ⟨130, 7, true, [[.sl 1 (a0.t.Vars.map cI), .sl 1 (a0.t.Init.map cI), .sl 2 (a0.t.Goal.map cF), .sl 4 (a0.t.Ops.map cGOp), .c (.int .i64 a0.c.Bound), .sl 2 (a0.c.Nogoods.map cN), .c (.int .i64 a0.steps)]]⟩)] [41] (.tup [.c (.bool r1), eA r2]) [(41, ⟨130, 7, true, [[.sl 1 (r3.t.Vars.map cI), .sl 1 (r3.t.Init.map cI), .sl 2 (r3.t.Goal.map cF), .sl 4 (r3.t.Ops.map cGOp), .c (.int .i64 r3.c.Bound), .sl 2 (r3.c.Nogoods.map cN), .c (.int .i64 r3.steps)]]⟩)] := by
  refine acallg_of 44 Tryz.func84 rfl (by decide) rfl (Nat.le_of_ble_eq_true rfl) rfl rfl ?_; intro _; unfold M_ck_covered at h; refine aSR ?_; intro _; refine dr_XDChk ?_; refine aSR ?_; intro _; obtain ⟨z1, u1, h⟩ := ob1_ok h; refine clk_XDChk [(29, 41)] [(41, ⟨0, some ⟨130, 7, true, [[.sl 1 (a0.t.Vars.map cI), .sl 1 (a0.t.Init.map cI), .sl 2 (a0.t.Goal.map cF), .sl 4 (a0.t.Ops.map cGOp), .c (.int .i64 a0.c.Bound), .sl 2 (a0.c.Nogoods.map cN), .c (.int .i64 a0.steps)]]⟩⟩)] (.sl 1 (z1.map cL_cF)) rfl rfl (A_ck_counting a0 a2 u1) ?_; intro _; obtain ⟨z2, z3, z4, u2, h⟩ := ob3_ok h; refine cl_XDChk rfl (A_p_Covered g a0.t.Vars a1 z1 a0.steps u2) ?_; intro _; refine dr_XDChk ?_; refine aSq ?_; refine aSq ?_; rcases z4 with _ | e5
  · replace h := erM_nil h; refine aRg ?_; intro _; refine dr_XDChk ?_; refine aCd ?_; intro _; refine litF ?_; refine aSk ?_; refine aSR ?_; intro _; refine dr_XDChk ?_; refine aSR ?_; intro _; refine dr_XDChk ?_; refine aRt ?_; intro _; obtain ⟨rfl, rfl, rfl⟩ := inj3 h; all_goals (refine Exists.intro [] (And.intro rfl (And.intro ?_ ?_))); all_goals (exact zg_XDChk)
  · replace h := erM_no h; refine aRg ?_; intro _; refine dr_XDChk ?_; refine aCd ?_; intro _; refine litT ?_; refine aSR ?_; intro _; refine dr_XDChk ?_; refine aRt ?_; intro _; obtain ⟨rfl, rfl, rfl⟩ := inj3 h; all_goals (refine Exists.intro [] (And.intro rfl (And.intro ?_ ?_))); all_goals (exact zg_XDChk)
def M_ck_step_L1 (g : Nat) (v2 : Int) (z7 : List (List Fact)) : Nat → Int → (List Int) → (List Int) → (List Fact) → (List GOp) → Int → (List Nogood) → Int → Option (Er × GChecker)
  | 0, _, _, _, _, _, _, _, _ => none
  | k36 + 1, v28, v29, v30, v31, v32, v33, v34, v35 =>
    sel (decide (v28 < ((z7.map cL_cF).length : Int)))
     (ix z7 v28 (fun y37 =>
       ob3 (M_ck_covered g ({ t := { Vars := v29, Init := v30, Goal := v31, Ops := v32 : GTask }, c := { Bound := v33, Nogoods := v34 : GCertificate }, steps := v35 : GChecker }) y37 v2) (fun z38 z39 c40 =>
        erM z39
         (sel (!z38)
           (some ((Er.no 19), c40))
           (M_ck_step_L1 g v2 z7 k36 (IntKind.i64.wrap (v28 + 1)) c40.t.Vars c40.t.Init c40.t.Goal c40.t.Ops c40.c.Bound c40.c.Nogoods c40.steps))
         (fun e41 => some ((Er.no e41), c40)))))
     (some (Er.nil, { t := { Vars := v29, Init := v30, Goal := v31, Ops := v32 : GTask }, c := { Bound := v33, Nogoods := v34 : GCertificate }, steps := v35 : GChecker }))
def M_ck_step (g : Nat) (a0 : GChecker) (a1 : Nogood) (a2 : Int) : Option (Er × GChecker) :=
  ob1 (sel (decide (a0.c.Bound ≥ 0))
    (ix a0.t.Ops a2 (fun y6 =>
      sel (decide ((IntKind.i64.wrap (a1.2 + y6.Cost)) ≥ a0.c.Bound))
       (some (.inr (Er.nil, a0)))
       (some (.inl (IntKind.i64.wrap (a1.2 + y6.Cost))))))
    (some (.inl 0)) : Option (Int ⊕ (Er × GChecker)))
   (osum
   (fun v2 => ob2 (M_g_Regress g a0.t a2 a1.1) (fun z7 z8 =>
      erM z8
       (M_ck_step_L1 g v2 z7 ((((z7.map cL_cF).length : Int)).toNat + 1) 0 a0.t.Vars a0.t.Init a0.t.Goal a0.t.Ops a0.c.Bound a0.c.Nogoods a0.steps)
       (fun e9 => some ((Er.no e9), a0))))
   (fun (r3, r4) => some (r3, r4)))
theorem A_ck_step (g : Nat) (a0 : GChecker) (a1 : Nogood) (a2 : Int) {r1 : Er} {r2 : GChecker} (h : M_ck_step g a0 a1 a2 = some (r1, r2)) : ACallG cx 85 [.ptr 73 0 0 0, .agg [.sl 2 (a1.1.map cF), .c (.int .i64 a1.2)], .c (.int .i64 a2)] [(73, ⟨130, 7, true, [[.sl 1 (a0.t.Vars.map cI), .sl 1 (a0.t.Init.map cI), .sl 2 (a0.t.Goal.map cF), .sl 4 (a0.t.Ops.map cGOp), .c (.int .i64 a0.c.Bound), .sl 2 (a0.c.Nogoods.map cN), .c (.int .i64 a0.steps)]]⟩)] [73] (eA r1) [(73, ⟨130, 7, true, [[.sl 1 (r2.t.Vars.map cI), .sl 1 (r2.t.Init.map cI), .sl 2 (r2.t.Goal.map cF), .sl 4 (r2.t.Ops.map cGOp), .c (.int .i64 r2.c.Bound), .sl 2 (r2.c.Nogoods.map cN), .c (.int .i64 r2.steps)]]⟩)] := by
  refine acallg_of 76 Tryz.func85 rfl (by decide) rfl (Nat.le_of_ble_eq_true rfl) rfl rfl ?_; intro _; unfold M_ck_step at h; refine aSR ?_; intro _; refine dr_XDChk ?_; refine aSR ?_; intro _; refine dr_XDChk ?_; obtain ⟨o1, h, hK2⟩ := ob1_ok h; refine awp_cut (α := Int) (fun v2 => mkG 73 76 [(0, .ptr 73 0 0 0), (2, .c (.int .i64 a2)), (4, .ptr 4 0 0 0), (7, .c (.int .i64 v2))] [(4, ⟨40, 2, true, [[.sl 2 (a1.1.map cF), .c (.int .i64 a1.2)]]⟩), (73, ⟨130, 7, true, [[.sl 1 (a0.t.Vars.map cI), .sl 1 (a0.t.Init.map cI), .sl 2 (a0.t.Goal.map cF), .sl 4 (a0.t.Ops.map cGOp), .c (.int .i64 a0.c.Bound), .sl 2 (a0.c.Nogoods.map cN), .c (.int .i64 a0.steps)]]⟩)]) (fun v => o1 = (.inl v)) ?_ ?_
  · refine aSR ?_; intro _; refine dr_XDChk ?_; refine aCd ?_; intro _; refine spl h (fun c3 h => ?_) (fun c3 h => ?_)
    · refine aSR ?_; intro _; obtain ⟨y6, w4, q5, h⟩ := ix_ok h; refine Exists.intro (cGOp y6) (And.intro (map_at' w4) ?_); intro _; refine pr_XDChk ?_; refine dr_XDChk ?_; refine aSR ?_; intro _; refine dr_XDChk ?_; refine aCd ?_; intro _; refine spl h (fun c6 h => ?_) (fun c6 h => ?_)
      · refine aSR ?_; intro _; refine dr_XDChk ?_; refine aRt ?_; have j7 := Option.some.inj h; subst j7; replace h := (osum_r hK2); intro _; obtain ⟨rfl, rfl⟩ := inj2 h; all_goals (refine Exists.intro [] (And.intro rfl (And.intro ?_ ?_))); all_goals (exact zg_XDChk)
      · refine aSk ?_; refine ⟨(IntKind.i64.wrap (a1.2 + y6.Cost)), (Option.some.inj h).symm, ?_⟩; exact ca_XDChk
    · refine aSk ?_; refine ⟨0, (Option.some.inj h).symm, ?_⟩; exact ca_XDChk
  · rintro v2 ho; have ho := ho.symm; subst ho; intro _; replace h := (osum_l hK2); refine aSR ?_; intro _; obtain ⟨z7, z8, u8, h⟩ := ob2_ok h; refine cl_XDChk rfl (A_g_Regress g a0.t a2 a1.1 u8) ?_; intro _; refine dr_XDChk ?_; refine aSq ?_; refine aSq ?_; rcases z8 with _ | e9
    · replace h := erM_nil h; refine aRg ?_; intro _; refine dr_XDChk ?_; refine aCd ?_; intro _; refine litF ?_; refine aSk ?_; refine aSq ?_; refine aSR ?_; intro _; refine dr_XDChk ?_; refine aBk ?_; refine awp_loop (α := Nat × Int × (List Int) × (List Int) × (List Fact) × (List GOp) × Int × (List Nogood) × Int) (fun x => mkG 73 76 [(0, .ptr 73 0 0 0), (7, .c (.int .i64 v2)), (53, .sl 1 (z7.map cL_cF)), (54, .c (.int .i64 ((z7.map cL_cF).length : Int))), (55, .c (.int .i64 x.2.1))] [(73, ⟨130, 7, true, [[.sl 1 (x.2.2.1.map cI), .sl 1 (x.2.2.2.1.map cI), .sl 2 (x.2.2.2.2.1.map cF), .sl 4 (x.2.2.2.2.2.1.map cGOp), .c (.int .i64 x.2.2.2.2.2.2.1), .sl 2 (x.2.2.2.2.2.2.2.1.map cN), .c (.int .i64 x.2.2.2.2.2.2.2.2)]]⟩)]) (fun x => M_ck_step_L1 g v2 z7 x.1 x.2.1 x.2.2.1 x.2.2.2.1 x.2.2.2.2.1 x.2.2.2.2.2.1 x.2.2.2.2.2.2.1 x.2.2.2.2.2.2.2.1 x.2.2.2.2.2.2.2.2 = some (r1, r2)) (fun x => x.1) ((((z7.map cL_cF).length : Int)).toNat + 1, 0, a0.t.Vars, a0.t.Init, a0.t.Goal, a0.t.Ops, a0.c.Bound, a0.c.Nogoods, a0.steps) h ?_ ?_
      · exact ca_XDChk
      · intro x9 h; intro _; obtain ⟨k36, m10, h⟩ := succ_of (f := fun n => M_ck_step_L1 g v2 z7 n x9.2.1 x9.2.2.1 x9.2.2.2.1 x9.2.2.2.2.1 x9.2.2.2.2.2.1 x9.2.2.2.2.2.2.1 x9.2.2.2.2.2.2.2.1 x9.2.2.2.2.2.2.2.2) rfl h; replace h : M_ck_step_L1 g v2 z7 (k36 + 1) x9.2.1 x9.2.2.1 x9.2.2.2.1 x9.2.2.2.2.1 x9.2.2.2.2.2.1 x9.2.2.2.2.2.2.1 x9.2.2.2.2.2.2.2.1 x9.2.2.2.2.2.2.2.2 = some (r1, r2) := h; rw [M_ck_step_L1] at h; refine aSR ?_; intro _; refine dr_XDChk ?_; refine aSq ?_; refine aCd ?_; intro _; refine spl h (fun c11 h => ?_) (fun c11 h => ?_)
        · refine aSk ?_; refine aSq ?_; refine aBk ?_; refine aSR ?_; intro _; obtain ⟨y37, w12, q13, h⟩ := ix_ok h; refine Exists.intro (cL_cF y37) (And.intro (map_at' w12) ?_); intro _; refine pr_XDChk ?_; refine dr_XDChk ?_; refine aSR ?_; intro _; obtain ⟨z38, z39, c40, u14, h⟩ := ob3_ok h; refine clg_XDChk [(41, 73)] [] [] [(73, ⟨0, some ⟨130, 7, true, [[.sl 1 (c40.t.Vars.map cI), .sl 1 (c40.t.Init.map cI), .sl 2 (c40.t.Goal.map cF), .sl 4 (c40.t.Ops.map cGOp), .c (.int .i64 c40.c.Bound), .sl 2 (c40.c.Nogoods.map cN), .c (.int .i64 c40.steps)]]⟩⟩)] (.tup [.c (.bool z38), eA z39]) rfl rfl (A_ck_covered g ({ t := { Vars := x9.2.2.1, Init := x9.2.2.2.1, Goal := x9.2.2.2.2.1, Ops := x9.2.2.2.2.2.1 : GTask }, c := { Bound := x9.2.2.2.2.2.2.1, Nogoods := x9.2.2.2.2.2.2.2.1 : GCertificate }, steps := x9.2.2.2.2.2.2.2.2 : GChecker }) y37 v2 u14) ?_; intro _; refine dr_XDChk ?_; refine aSq ?_; refine aSq ?_; rcases z39 with _ | e41
          · replace h := erM_nil h; refine aRg ?_; intro _; refine dr_XDChk ?_; refine aCd ?_; intro _; refine litF ?_; refine aSk ?_; refine aSR ?_; intro _; refine dr_XDChk ?_; refine aCd ?_; intro _; refine spl h (fun c15 h => ?_) (fun c15 h => ?_)
            · refine aSR ?_; intro _; refine dr_XDChk ?_; refine aRt ?_; intro _; obtain ⟨rfl, rfl⟩ := inj2 h; all_goals (refine Exists.intro [] (And.intro rfl (And.intro ?_ ?_))); all_goals (exact zg_XDChk)
            · refine aSk ?_; refine aRg ?_; intro _; refine dr_XDChk ?_; refine ⟨(k36, (IntKind.i64.wrap (x9.2.1 + 1)), c40.t.Vars, c40.t.Init, c40.t.Goal, c40.t.Ops, c40.c.Bound, c40.c.Nogoods, c40.steps), h, ltS m10, ?_⟩; exact ca_XDChk
          · replace h := erM_no h; refine aRg ?_; intro _; refine dr_XDChk ?_; refine aCd ?_; intro _; refine litT ?_; refine aSR ?_; intro _; refine dr_XDChk ?_; refine aRt ?_; intro _; obtain ⟨rfl, rfl⟩ := inj2 h; all_goals (refine Exists.intro [] (And.intro rfl (And.intro ?_ ?_))); all_goals (exact zg_XDChk)
        · refine aEx ?_; refine aSR ?_; intro _; refine dr_XDChk ?_; refine aRt ?_; intro _; obtain ⟨rfl, rfl⟩ := inj2 h; all_goals (refine Exists.intro [] (And.intro rfl (And.intro ?_ ?_))); all_goals (exact zg_XDChk)
    · replace h := erM_no h; refine aRg ?_; intro _; refine dr_XDChk ?_; refine aCd ?_; intro _; refine litT ?_; refine aSR ?_; intro _; refine dr_XDChk ?_; refine aRt ?_; intro _; obtain ⟨rfl, rfl⟩ := inj2 h; all_goals (refine Exists.intro [] (And.intro rfl (And.intro ?_ ?_))); all_goals (exact zg_XDChk)
def M_checker_Where_L1 (a0 : GTask) (a1 : GCertificate) : Nat → Int → Option (Unit ⊕ (Int × Int × Er))
  | 0, _ => none
  | k24 + 1, v23 =>
    sel (decide (v23 < ((a1.Nogoods.map cN).length : Int)))
     (ix a1.Nogoods v23 (fun y25 =>
       ob1 (M_task_Holds y25.1 a0.Init) (fun z26 =>
        sel z26
         (some (.inr ((-1), (-1), (Er.no 20))))
         (M_checker_Where_L1 a0 a1 k24 (IntKind.i64.wrap (v23 + 1))))))
     (some (.inl ()))
def M_checker_Where_L2 (a0 : GTask) (g : Nat) (v184 : Int) (y231 : Nogood) : Nat → Int → (List Int) → (List Int) → (List Fact) → (List GOp) → Int → (List Nogood) → Int → Option (((List Int) × (List Int) × (List Fact) × (List GOp) × Int × (List Nogood) × Int) ⊕ (Int × Int × Er))
  | 0, _, _, _, _, _, _, _, _ => none
  | k254 + 1, v246, v247, v248, v249, v250, v251, v252, v253 =>
    sel (decide (v246 < ((a0.Ops.map cGOp).length : Int)))
     (ob2 (M_ck_step g ({ t := { Vars := v247, Init := v248, Goal := v249, Ops := v250 : GTask }, c := { Bound := v251, Nogoods := v252 : GCertificate }, steps := v253 : GChecker }) y231 v246) (fun z255 c256 =>
       erM z255
        (M_checker_Where_L2 a0 g v184 y231 k254 (IntKind.i64.wrap (v246 + 1)) c256.t.Vars c256.t.Init c256.t.Goal c256.t.Ops c256.c.Bound c256.c.Nogoods c256.steps)
        (fun e257 => some (.inr (v184, v246, (Er.no e257))))))
     (some (.inl (v247, v248, v249, v250, v251, v252, v253)))
def M_checker_Where_L3 (a0 : GTask) (a1 : GCertificate) (g : Nat) : Nat → Int → (List Int) → (List Int) → (List Fact) → (List GOp) → Int → (List Nogood) → Int → Option (Int × Int × Er)
  | 0, _, _, _, _, _, _, _, _ => none
  | k192 + 1, v184, v185, v186, v187, v188, v189, v190, v191 =>
    sel (decide (v184 < ((a1.Nogoods.map cN).length : Int)))
     (ob1 (ix a1.Nogoods v184 (fun y231 =>
        M_checker_Where_L2 a0 g v184 y231 ((((a0.Ops.map cGOp).length : Int)).toNat + 1) 0 v185 v186 v187 v188 v189 v190 v191) : Option (((List Int) × (List Int) × (List Fact) × (List GOp) × Int × (List Nogood) × Int) ⊕ (Int × Int × Er)))
       (osum
       (fun (v220, v221, v222, v223, v224, v225, v226) => M_checker_Where_L3 a0 a1 g k192 (IntKind.i64.wrap (v184 + 1)) v220 v221 v222 v223 v224 v225 v226)
       (fun (r227, r228, r229) => some (r227, r228, r229))))
     (some ((-1), (-1), Er.nil))
def M_checker_Where (g : Nat) (a0 : GTask) (a1 : GCertificate) (a2 : Int) : Option (Int × Int × Er) :=
  ob1 (M_task_Check a0) (fun z1 =>
   erM z1
    (ob1 (M_ce_Proper a0.Vars a1) (fun z3 =>
      erM z3
       (ob1 (M_checker_Where_L1 a0 a1 ((((a1.Nogoods.map cN).length : Int)).toNat + 1) 0 : Option (Unit ⊕ (Int × Int × Er)))
         (osum
         (fun _ => ob1 (sel (a1.Bound != 0)
             (ob3 (M_ck_covered g ({ t := a0, c := a1, steps := (max 0 (min a2 1048576)) : GChecker }) a0.Goal 0) (fun z42 z43 c44 =>
               erM z43
                (sel (!z42)
                  (some (.inr ((-1), (-1), (Er.no 13))))
                  (some (.inl (c44.t.Vars, c44.t.Init, c44.t.Goal, c44.t.Ops, c44.c.Bound, c44.c.Nogoods, c44.steps))))
                (fun e45 => some (.inr ((-1), (-1), (Er.no e45))))))
             (some (.inl (a0.Vars, a0.Init, a0.Goal, a0.Ops, a1.Bound, a1.Nogoods, (max 0 (min a2 1048576))))) : Option (((List Int) × (List Int) × (List Fact) × (List GOp) × Int × (List Nogood) × Int) ⊕ (Int × Int × Er)))
            (osum
            (fun (v31, v32, v33, v34, v35, v36, v37) => M_checker_Where_L3 a0 a1 g ((((a1.Nogoods.map cN).length : Int)).toNat + 1) 0 v31 v32 v33 v34 v35 v36 v37)
            (fun (r38, r39, r40) => some (r38, r39, r40))))
         (fun (r14, r15, r16) => some (r14, r15, r16))))
       (fun e4 => some ((-1), (-1), (Er.no e4)))))
    (fun e2 => some ((-1), (-1), (Er.no e2))))
theorem A_checker_Where (g : Nat) (a0 : GTask) (a1 : GCertificate) (a2 : Int) {r1 : Int} {r2 : Int} {r3 : Er} (h : M_checker_Where g a0 a1 a2 = some (r1, r2, r3)) : ACall cx 56 [.agg [.sl 1 (a0.Vars.map cI), .sl 1 (a0.Init.map cI), .sl 2 (a0.Goal.map cF), .sl 4 (a0.Ops.map cGOp)], .agg [.c (.int .i64 a1.Bound), .sl 2 (a1.Nogoods.map cN)], .c (.int .i64 a2)] (.tup [.c (.int .i64 r1), .c (.int .i64 r2), eA r3]) := by
  refine aOf Tryz.func56 rfl (by decide) rfl (Nat.le_of_ble_eq_true rfl) ?_; intro _; unfold M_checker_Where at h; refine aSR ?_; intro _; refine dr_XDChk ?_; refine aSq ?_; refine aSR ?_; intro _; obtain ⟨z1, u1, h⟩ := ob1_ok h; refine cl_XDChk rfl (A_task_Check a0 u1) ?_; intro _; refine dr_XDChk ?_; refine aSq ?_; rcases z1 with _ | e2
  · replace h := erM_nil h; refine aRg ?_; intro _; refine dr_XDChk ?_; refine aCd ?_; intro _; refine litF ?_; refine aSk ?_; refine aSq ?_; refine aSR ?_; intro _; obtain ⟨z3, u2, h⟩ := ob1_ok h; refine cl_XDChk rfl (A_ce_Proper a0.Vars a1 u2) ?_; intro _; refine dr_XDChk ?_; refine aSq ?_; rcases z3 with _ | e4
    · replace h := erM_nil h; refine aRg ?_; intro _; refine dr_XDChk ?_; refine aCd ?_; intro _; refine litF ?_; refine aSk ?_; obtain ⟨o3, h, hK4⟩ := ob1_ok h; refine awp_cut (α := Unit) (fun _ => mkS 94 [(2, .c (.int .i64 a2)), (3, .ptr 3 0 0 0), (4, .ptr 4 0 0 0)] [(3, ⟨26, 4, true, [[.sl 1 (a0.Vars.map cI), .sl 1 (a0.Init.map cI), .sl 2 (a0.Goal.map cF), .sl 4 (a0.Ops.map cGOp)]]⟩), (4, ⟨31, 2, true, [[.c (.int .i64 a1.Bound), .sl 2 (a1.Nogoods.map cN)]]⟩)]) (fun v => o3 = (.inl v)) ?_ ?_
      · refine aSR ?_; intro _; refine dr_XDChk ?_; refine aBk ?_; refine awp_loop (α := Nat × Int) (fun x => mkS 94 [(2, .c (.int .i64 a2)), (3, .ptr 3 0 0 0), (4, .ptr 4 0 0 0), (33, .sl 2 (a1.Nogoods.map cN)), (34, .c (.int .i64 ((a1.Nogoods.map cN).length : Int))), (35, .c (.int .i64 x.2))] [(3, ⟨26, 4, true, [[.sl 1 (a0.Vars.map cI), .sl 1 (a0.Init.map cI), .sl 2 (a0.Goal.map cF), .sl 4 (a0.Ops.map cGOp)]]⟩), (4, ⟨31, 2, true, [[.c (.int .i64 a1.Bound), .sl 2 (a1.Nogoods.map cN)]]⟩)]) (fun x => M_checker_Where_L1 a0 a1 x.1 x.2 = some o3) (fun x => x.1) ((((a1.Nogoods.map cN).length : Int)).toNat + 1, 0) h ?_ ?_
        · exact ca_XDChk
        · intro x5 h; intro _; obtain ⟨k24, m6, h⟩ := succ_of (f := fun n => M_checker_Where_L1 a0 a1 n x5.2) rfl h; replace h : M_checker_Where_L1 a0 a1 (k24 + 1) x5.2 = some o3 := h; rw [M_checker_Where_L1] at h; refine aSR ?_; intro _; refine dr_XDChk ?_; refine aSq ?_; refine aCd ?_; intro _; refine spl h (fun c7 h => ?_) (fun c7 h => ?_)
          · refine aSk ?_; refine aSq ?_; refine aBk ?_; refine aSR ?_; intro _; obtain ⟨y25, w8, q9, h⟩ := ix_ok h; refine Exists.intro (cN y25) (And.intro (map_at' w8) ?_); intro _; refine pr_XDChk ?_; refine dr_XDChk ?_; refine aSR ?_; intro _; obtain ⟨z26, u10, h⟩ := ob1_ok h; refine cl_XDChk rfl (A_task_Holds y25.1 a0.Init u10) ?_; intro _; refine dr_XDChk ?_; refine aCd ?_; intro _; refine spl h (fun c11 h => ?_) (fun c11 h => ?_)
            · refine aSR ?_; intro _; refine dr_XDChk ?_; refine aRt ?_; have j12 := Option.some.inj h; subst j12; replace h := (osum_r hK4); intro _; obtain ⟨rfl, rfl, rfl⟩ := inj3 h; exact ca_XDChk
            · refine aSk ?_; refine aRg ?_; intro _; refine dr_XDChk ?_; refine ⟨(k24, (IntKind.i64.wrap (x5.2 + 1))), h, ltS m6, ?_⟩; exact ca_XDChk
          · refine aEx ?_; refine ⟨(), (Option.some.inj h).symm, ?_⟩; exact ca_XDChk
      · rintro _ ho; have ho := ho.symm; subst ho; intro _; replace h := (osum_l hK4); refine aSR ?_; intro _; refine ⟨_, lf_min rfl (Nat.le_of_ble_eq_true rfl) rfl rfl, ?_⟩; intro _; refine ⟨_, lf_max rfl (Nat.le_of_ble_eq_true rfl) rfl rfl, ?_⟩; intro _; refine dr_XDChk ?_; obtain ⟨o13, h, hK14⟩ := ob1_ok h; refine awp_cut (α := (List Int) × (List Int) × (List Fact) × (List GOp) × Int × (List Nogood) × Int) (fun (v31, v32, v33, v34, v35, v36, v37) => mkS 94 [(3, .ptr 3 0 0 0), (4, .ptr 4 0 0 0), (13, .ptr 52 0 0 0)] [(3, ⟨26, 4, true, [[.sl 1 (a0.Vars.map cI), .sl 1 (a0.Init.map cI), .sl 2 (a0.Goal.map cF), .sl 4 (a0.Ops.map cGOp)]]⟩), (4, ⟨31, 2, true, [[.c (.int .i64 a1.Bound), .sl 2 (a1.Nogoods.map cN)]]⟩), (52, ⟨130, 7, true, [[.sl 1 (v31.map cI), .sl 1 (v32.map cI), .sl 2 (v33.map cF), .sl 4 (v34.map cGOp), .c (.int .i64 v35), .sl 2 (v36.map cN), .c (.int .i64 v37)]]⟩)]) (fun v => o13 = (.inl v)) ?_ ?_
        · refine aSR ?_; intro _; refine dr_XDChk ?_; refine aCd ?_; intro _; refine spl h (fun c15 h => ?_) (fun c15 h => ?_)
          · refine aSR ?_; intro _; obtain ⟨z42, z43, c44, u16, h⟩ := ob3_ok h; refine clg_XDChk [(41, 52)] [] [] [(52, ⟨1, some ⟨130, 7, true, [[.sl 1 (c44.t.Vars.map cI), .sl 1 (c44.t.Init.map cI), .sl 2 (c44.t.Goal.map cF), .sl 4 (c44.t.Ops.map cGOp), .c (.int .i64 c44.c.Bound), .sl 2 (c44.c.Nogoods.map cN), .c (.int .i64 c44.steps)]]⟩⟩)] (.tup [.c (.bool z42), eA z43]) rfl rfl (A_ck_covered g ({ t := a0, c := a1, steps := (max 0 (min a2 1048576)) : GChecker }) a0.Goal 0 u16) ?_; intro _; refine dr_XDChk ?_; refine aSq ?_; refine aSq ?_; rcases z43 with _ | e45
            · replace h := erM_nil h; refine aRg ?_; intro _; refine dr_XDChk ?_; refine aCd ?_; intro _; refine litF ?_; refine aSk ?_; refine aSR ?_; intro _; refine dr_XDChk ?_; refine aCd ?_; intro _; refine spl h (fun c17 h => ?_) (fun c17 h => ?_)
              · refine aSR ?_; intro _; refine dr_XDChk ?_; refine aRt ?_; have j18 := Option.some.inj h; subst j18; replace h := (osum_r hK14); intro _; obtain ⟨rfl, rfl, rfl⟩ := inj3 h; exact ca_XDChk
              · refine aSk ?_; refine ⟨(c44.t.Vars, c44.t.Init, c44.t.Goal, c44.t.Ops, c44.c.Bound, c44.c.Nogoods, c44.steps), (Option.some.inj h).symm, ?_⟩; exact ca_XDChk
            · replace h := erM_no h; refine aRg ?_; intro _; refine dr_XDChk ?_; refine aCd ?_; intro _; refine litT ?_; refine aSR ?_; intro _; refine dr_XDChk ?_; refine aRt ?_; have j19 := Option.some.inj h; subst j19; replace h := (osum_r hK14); intro _; obtain ⟨rfl, rfl, rfl⟩ := inj3 h; exact ca_XDChk
          · refine aSk ?_; refine ⟨(a0.Vars, a0.Init, a0.Goal, a0.Ops, a1.Bound, a1.Nogoods, (max 0 (min a2 1048576))), (Option.some.inj h).symm, ?_⟩; exact ca_XDChk
        · rintro ⟨v31, v32, v33, v34, v35, v36, v37⟩ ho; have ho := ho.symm; subst ho; intro _; replace h := (osum_l hK14); refine aSq ?_; refine aSR ?_; intro _; refine dr_XDChk ?_; refine aBk ?_; refine awp_loop (α := Nat × Int × (List Int) × (List Int) × (List Fact) × (List GOp) × Int × (List Nogood) × Int) (fun x => mkS 94 [(3, .ptr 3 0 0 0), (13, .ptr 52 0 0 0), (70, .sl 2 (a1.Nogoods.map cN)), (71, .c (.int .i64 ((a1.Nogoods.map cN).length : Int))), (72, .c (.int .i64 x.2.1))] [(3, ⟨26, 4, true, [[.sl 1 (a0.Vars.map cI), .sl 1 (a0.Init.map cI), .sl 2 (a0.Goal.map cF), .sl 4 (a0.Ops.map cGOp)]]⟩), (52, ⟨130, 7, true, [[.sl 1 (x.2.2.1.map cI), .sl 1 (x.2.2.2.1.map cI), .sl 2 (x.2.2.2.2.1.map cF), .sl 4 (x.2.2.2.2.2.1.map cGOp), .c (.int .i64 x.2.2.2.2.2.2.1), .sl 2 (x.2.2.2.2.2.2.2.1.map cN), .c (.int .i64 x.2.2.2.2.2.2.2.2)]]⟩)]) (fun x => M_checker_Where_L3 a0 a1 g x.1 x.2.1 x.2.2.1 x.2.2.2.1 x.2.2.2.2.1 x.2.2.2.2.2.1 x.2.2.2.2.2.2.1 x.2.2.2.2.2.2.2.1 x.2.2.2.2.2.2.2.2 = some (r1, r2, r3)) (fun x => x.1) ((((a1.Nogoods.map cN).length : Int)).toNat + 1, 0, v31, v32, v33, v34, v35, v36, v37) h ?_ ?_
          · exact ca_XDChk
          · intro x20 h; intro _; obtain ⟨k192, m21, h⟩ := succ_of (f := fun n => M_checker_Where_L3 a0 a1 g n x20.2.1 x20.2.2.1 x20.2.2.2.1 x20.2.2.2.2.1 x20.2.2.2.2.2.1 x20.2.2.2.2.2.2.1 x20.2.2.2.2.2.2.2.1 x20.2.2.2.2.2.2.2.2) rfl h; replace h : M_checker_Where_L3 a0 a1 g (k192 + 1) x20.2.1 x20.2.2.1 x20.2.2.2.1 x20.2.2.2.2.1 x20.2.2.2.2.2.1 x20.2.2.2.2.2.2.1 x20.2.2.2.2.2.2.2.1 x20.2.2.2.2.2.2.2.2 = some (r1, r2, r3) := h; rw [M_checker_Where_L3] at h; refine aSR ?_; intro _; refine dr_XDChk ?_; refine aSq ?_; refine aCd ?_; intro _; refine spl h (fun c22 h => ?_) (fun c22 h => ?_)
            · refine aSk ?_; obtain ⟨o23, h, hK24⟩ := ob1_ok h; refine awp_cut (α := (List Int) × (List Int) × (List Fact) × (List GOp) × Int × (List Nogood) × Int) (fun (v220, v221, v222, v223, v224, v225, v226) => mkS 94 [(3, .ptr 3 0 0 0), (13, .ptr 52 0 0 0), (70, .sl 2 (a1.Nogoods.map cN)), (71, .c (.int .i64 ((a1.Nogoods.map cN).length : Int))), (72, .c (.int .i64 x20.2.1))] [(3, ⟨26, 4, true, [[.sl 1 (a0.Vars.map cI), .sl 1 (a0.Init.map cI), .sl 2 (a0.Goal.map cF), .sl 4 (a0.Ops.map cGOp)]]⟩), (52, ⟨130, 7, true, [[.sl 1 (v220.map cI), .sl 1 (v221.map cI), .sl 2 (v222.map cF), .sl 4 (v223.map cGOp), .c (.int .i64 v224), .sl 2 (v225.map cN), .c (.int .i64 v226)]]⟩)]) (fun v => o23 = (.inl v)) ?_ ?_
              · refine aBk ?_; refine aSR ?_; intro _; obtain ⟨y231, w25, q26, h⟩ := ix_ok h; refine Exists.intro (cN y231) (And.intro (map_at' w25) ?_); intro _; refine pr_XDChk ?_; refine dr_XDChk ?_; refine aSR ?_; intro _; refine dr_XDChk ?_; refine aBk ?_; refine awp_loop (α := Nat × Int × (List Int) × (List Int) × (List Fact) × (List GOp) × Int × (List Nogood) × Int) (fun x => mkS 94 [(3, .ptr 3 0 0 0), (13, .ptr 52 0 0 0), (16, .c (.int .i64 x20.2.1)), (17, .ptr 17 0 0 0), (70, .sl 2 (a1.Nogoods.map cN)), (71, .c (.int .i64 ((a1.Nogoods.map cN).length : Int))), (72, .c (.int .i64 x20.2.1)), (79, .c (.int .i64 ((a0.Ops.map cGOp).length : Int))), (80, .c (.int .i64 x.2.1))] [(3, ⟨26, 4, true, [[.sl 1 (a0.Vars.map cI), .sl 1 (a0.Init.map cI), .sl 2 (a0.Goal.map cF), .sl 4 (a0.Ops.map cGOp)]]⟩), (17, ⟨40, 2, true, [[.sl 2 (y231.1.map cF), .c (.int .i64 y231.2)]]⟩), (52, ⟨130, 7, true, [[.sl 1 (x.2.2.1.map cI), .sl 1 (x.2.2.2.1.map cI), .sl 2 (x.2.2.2.2.1.map cF), .sl 4 (x.2.2.2.2.2.1.map cGOp), .c (.int .i64 x.2.2.2.2.2.2.1), .sl 2 (x.2.2.2.2.2.2.2.1.map cN), .c (.int .i64 x.2.2.2.2.2.2.2.2)]]⟩)]) (fun x => M_checker_Where_L2 a0 g x20.2.1 y231 x.1 x.2.1 x.2.2.1 x.2.2.2.1 x.2.2.2.2.1 x.2.2.2.2.2.1 x.2.2.2.2.2.2.1 x.2.2.2.2.2.2.2.1 x.2.2.2.2.2.2.2.2 = some o23) (fun x => x.1) ((((a0.Ops.map cGOp).length : Int)).toNat + 1, 0, x20.2.2.1, x20.2.2.2.1, x20.2.2.2.2.1, x20.2.2.2.2.2.1, x20.2.2.2.2.2.2.1, x20.2.2.2.2.2.2.2.1, x20.2.2.2.2.2.2.2.2) h ?_ ?_
                · exact ca_XDChk
                · intro x27 h; intro _; obtain ⟨k254, m28, h⟩ := succ_of (f := fun n => M_checker_Where_L2 a0 g x20.2.1 y231 n x27.2.1 x27.2.2.1 x27.2.2.2.1 x27.2.2.2.2.1 x27.2.2.2.2.2.1 x27.2.2.2.2.2.2.1 x27.2.2.2.2.2.2.2.1 x27.2.2.2.2.2.2.2.2) rfl h; replace h : M_checker_Where_L2 a0 g x20.2.1 y231 (k254 + 1) x27.2.1 x27.2.2.1 x27.2.2.2.1 x27.2.2.2.2.1 x27.2.2.2.2.2.1 x27.2.2.2.2.2.2.1 x27.2.2.2.2.2.2.2.1 x27.2.2.2.2.2.2.2.2 = some o23 := h; rw [M_checker_Where_L2] at h; refine aSR ?_; intro _; refine dr_XDChk ?_; refine aSq ?_; refine aCd ?_; intro _; refine spl h (fun c29 h => ?_) (fun c29 h => ?_)
                  · refine aSk ?_; refine aSq ?_; refine aBk ?_; refine aSR ?_; intro _; refine dr_XDChk ?_; refine aSR ?_; intro _; obtain ⟨z255, c256, u30, h⟩ := ob2_ok h; refine clg_XDChk [(73, 52)] [] [] [(52, ⟨0, some ⟨130, 7, true, [[.sl 1 (c256.t.Vars.map cI), .sl 1 (c256.t.Init.map cI), .sl 2 (c256.t.Goal.map cF), .sl 4 (c256.t.Ops.map cGOp), .c (.int .i64 c256.c.Bound), .sl 2 (c256.c.Nogoods.map cN), .c (.int .i64 c256.steps)]]⟩⟩)] (eA z255) rfl rfl (A_ck_step g ({ t := { Vars := x27.2.2.1, Init := x27.2.2.2.1, Goal := x27.2.2.2.2.1, Ops := x27.2.2.2.2.2.1 : GTask }, c := { Bound := x27.2.2.2.2.2.2.1, Nogoods := x27.2.2.2.2.2.2.2.1 : GCertificate }, steps := x27.2.2.2.2.2.2.2.2 : GChecker }) y231 x27.2.1 u30) ?_; intro _; refine dr_XDChk ?_; refine aSq ?_; rcases z255 with _ | e257
                    · replace h := erM_nil h; refine aRg ?_; intro _; refine dr_XDChk ?_; refine aCd ?_; intro _; refine litF ?_; refine aSk ?_; refine aRg ?_; intro _; refine dr_XDChk ?_; refine ⟨(k254, (IntKind.i64.wrap (x27.2.1 + 1)), c256.t.Vars, c256.t.Init, c256.t.Goal, c256.t.Ops, c256.c.Bound, c256.c.Nogoods, c256.steps), h, ltS m28, ?_⟩; exact ca_XDChk
                    · replace h := erM_no h; refine aRg ?_; intro _; refine dr_XDChk ?_; refine aCd ?_; intro _; refine litT ?_; refine aSR ?_; intro _; refine dr_XDChk ?_; refine aRt ?_; have j31 := Option.some.inj h; subst j31; replace h := (osum_r hK24); intro _; obtain ⟨rfl, rfl, rfl⟩ := inj3 h; exact ca_XDChk
                  · refine aEx ?_; refine ⟨(x27.2.2.1, x27.2.2.2.1, x27.2.2.2.2.1, x27.2.2.2.2.2.1, x27.2.2.2.2.2.2.1, x27.2.2.2.2.2.2.2.1, x27.2.2.2.2.2.2.2.2), (Option.some.inj h).symm, ?_⟩; exact ca_XDChk
              · rintro ⟨v220, v221, v222, v223, v224, v225, v226⟩ ho; have ho := ho.symm; subst ho; intro _; replace h := (osum_l hK24); refine aRg ?_; intro _; refine dr_XDChk ?_; refine ⟨(k192, (IntKind.i64.wrap (x20.2.1 + 1)), v220, v221, v222, v223, v224, v225, v226), h, ltS m21, ?_⟩; exact ca_XDChk
            · refine aEx ?_; refine aSR ?_; intro _; refine dr_XDChk ?_; refine aRt ?_; intro _; obtain ⟨rfl, rfl, rfl⟩ := inj3 h; exact ca_XDChk
    · replace h := erM_no h; refine aRg ?_; intro _; refine dr_XDChk ?_; refine aCd ?_; intro _; refine litT ?_; refine aSR ?_; intro _; refine dr_XDChk ?_; refine aRt ?_; intro _; obtain ⟨rfl, rfl, rfl⟩ := inj3 h; exact ca_XDChk
  · replace h := erM_no h; refine aRg ?_; intro _; refine dr_XDChk ?_; refine aCd ?_; intro _; refine litT ?_; refine aSR ?_; intro _; refine dr_XDChk ?_; refine aRt ?_; intro _; obtain ⟨rfl, rfl, rfl⟩ := inj3 h; exact ca_XDChk
def M_checker_Verify (g : Nat) (a0 : GTask) (a1 : GCertificate) (a2 : Int) : Option (Er) :=
  ob3 (M_checker_Where g a0 a1 a2) (fun _ _ z3 =>
   some z3)
theorem A_checker_Verify (g : Nat) (a0 : GTask) (a1 : GCertificate) (a2 : Int) {r1 : Er} (h : M_checker_Verify g a0 a1 a2 = some r1) : ACall cx 26 [.agg [.sl 1 (a0.Vars.map cI), .sl 1 (a0.Init.map cI), .sl 2 (a0.Goal.map cF), .sl 4 (a0.Ops.map cGOp)], .agg [.c (.int .i64 a1.Bound), .sl 2 (a1.Nogoods.map cN)], .c (.int .i64 a2)] (eA r1) := by
  refine aOf Tryz.func26 rfl (by decide) rfl (Nat.le_of_ble_eq_true rfl) ?_; intro _; unfold M_checker_Verify at h; refine aSR ?_; intro _; refine dr_XDChk ?_; refine aSR ?_; intro _; obtain ⟨z1, z2, z3, u1, h⟩ := ob3_ok h; refine cl_XDChk rfl (A_checker_Where g a0 a1 a2 u1) ?_; intro _; refine dr_XDChk ?_; refine aSR ?_; intro _; refine dr_XDChk ?_; refine aRt ?_; intro _; obtain rfl := inj1 h; all_goals (cases z3); all_goals exact ca_XDChk
end Go.Proofs.YtohjegemooakpaaGreat.Am
namespace Go.Proofs.YtohjegemooakpaaGreat.Am
def M_ce_formed_L1_B (a0 : List Fact) (_y7 : Fact) (v5 : Int) : Unit → (Unit → Option (Bool)) → Option (Bool) := fun _ rc => ixv _y7 (fun y7 =>
       sel (decide (y7.1 < 0))
        (some false)
        (sel (decide (y7.1 ≥ 64))
          (some false)
          (sel (decide (y7.2 < 0))
            (some false)
            (sel (decide (y7.2 ≥ 64))
              (some false)
              (sel (decide (v5 > 0))
                (ix a0 (IntKind.i64.wrap (v5 - 1)) (fun y8 =>
                  sel (decide (y8.1 ≥ y7.1))
                   (some false)
                   (rc ())))
                (rc ()))))))
def M_ce_formed_L1_E (_ : List Fact) : Unit → Option (Bool) := fun _ => some true
theorem M_ce_formed_L1_eq (a0 : List Fact)  (hl : a0.length < 9223372036854775807) : M_ce_formed_L1 a0 (((a0.map cF).length : Int).toNat + 1) 0 = Rg (M_ce_formed_L1_B a0) (M_ce_formed_L1_E a0) a0 0 () := rg_e1 (L := fun k i _ => M_ce_formed_L1 a0 k i) hl (fun _ _ _ => rfl) ()
def M_ce_Check_L1_B (_ : GCertificate) (_y21 : Nogood) (_ : Int) : Unit → (Unit → Option (Unit ⊕ Er)) → Option (Unit ⊕ Er) := fun _ rc => ixv _y21 (fun y21 =>
       ob1 (M_ce_formed y21.1) (fun z22 =>
        sel (!z22)
         (some (.inr (Er.no 2)))
         (rc ())))
def M_ce_Check_L1_E (_ : GCertificate) : Unit → Option (Unit ⊕ Er) := fun _ => some (.inl ())
theorem M_ce_Check_L1_eq (a0 : GCertificate)  (hl : a0.Nogoods.length < 9223372036854775807) : M_ce_Check_L1 a0 (((a0.Nogoods.map cN).length : Int).toNat + 1) 0 = Rg (M_ce_Check_L1_B a0) (M_ce_Check_L1_E a0) a0.Nogoods 0 () := rg_e1 (L := fun k i _ => M_ce_Check_L1 a0 k i) hl (fun _ _ _ => rfl) ()
def M_ce_Check_L2_B (a0 : GCertificate) (_y28 : Nogood) (_ : Int) : Unit → (Unit → Option (Er)) → Option (Er) := fun _ rc => ixv _y28 (fun y28 =>
       sel (decide (y28.2 < 0))
        (some (Er.no 1))
        (sel (decide (a0.Bound ≥ 0))
          (sel (decide (y28.2 ≥ a0.Bound))
            (some (Er.no 1))
            (sel (decide (a0.Bound < 0))
              (sel (y28.2 != 0)
                (some (Er.no 1))
                (rc ()))
              (rc ())))
          (sel (decide (a0.Bound < 0))
            (sel (y28.2 != 0)
              (some (Er.no 1))
              (rc ()))
            (rc ()))))
def M_ce_Check_L2_E (_ : GCertificate) : Unit → Option (Er) := fun _ => some Er.nil
theorem M_ce_Check_L2_eq (a0 : GCertificate)  (hl : a0.Nogoods.length < 9223372036854775807) : M_ce_Check_L2 a0 (((a0.Nogoods.map cN).length : Int).toNat + 1) 0 = Rg (M_ce_Check_L2_B a0) (M_ce_Check_L2_E a0) a0.Nogoods 0 () := rg_e1 (L := fun k i _ => M_ce_Check_L2 a0 k i) hl (fun _ _ _ => rfl) ()
def M_ce_Proper_L1_B (a0 : List Int) (_ : GCertificate) (_y10 : Nogood) (_ : Int) : Unit → (Unit → Option (Er)) → Option (Er) := fun _ rc => ixv _y10 (fun y10 =>
       ob1 (M_task_Facts a0 y10.1) (fun z11 =>
        sel (!z11)
         (some (Er.no 2))
         (rc ())))
def M_ce_Proper_L1_E (_ : List Int) (_ : GCertificate) : Unit → Option (Er) := fun _ => some Er.nil
theorem M_ce_Proper_L1_eq (a0 : List Int) (a1 : GCertificate)  (hl : a1.Nogoods.length < 9223372036854775807) : M_ce_Proper_L1 a0 a1 (((a1.Nogoods.map cN).length : Int).toNat + 1) 0 = Rg (M_ce_Proper_L1_B a0 a1) (M_ce_Proper_L1_E a0 a1) a1.Nogoods 0 () := rg_e1 (L := fun k i _ => M_ce_Proper_L1 a0 a1 k i) hl (fun _ _ _ => rfl) ()
def M_ck_counting_L1_B (_ : GChecker) (a1 : Int) (_y8 : Nogood) (_ : Int) : ((List (List Fact))) → (((List (List Fact))) → Option (List (List Fact))) → Option (List (List Fact)) := fun v6 rc => ixv _y8 (fun y8 =>
       sel (decide (y8.2 ≤ a1))
        (grd ((v6.length + 1) * 24 ≤ 140737488355328) (rc ((v6 ++ [y8.1]))))
        (rc (v6)))
def M_ck_counting_L1_E (_ : GChecker) (_ : Int) : ((List (List Fact))) → Option (List (List Fact)) := fun v6 => grd (v6.length ≤ 140737488355328) (some v6)
theorem M_ck_counting_L1_eq (a0 : GChecker) (a1 : Int) (v6 : List (List Fact)) (hl : a0.c.Nogoods.length < 9223372036854775807) : M_ck_counting_L1 a0 a1 (((a0.c.Nogoods.map cN).length : Int).toNat + 1) 0 v6 = Rg (M_ck_counting_L1_B a0 a1) (M_ck_counting_L1_E a0 a1) a0.c.Nogoods 0 v6 := rg_e1 (L := fun k i v6 => M_ck_counting_L1 a0 a1 k i v6) hl (fun _ _ _ => rfl) v6
def M_ck_step_L1_B (g : Nat) (v2 : Int) (_ : List (List Fact)) (_y37 : List Fact) (_ : Int) : ((List Int) × (List Int) × (List Fact) × (List GOp) × (Int) × (List Nogood) × (Int)) → (((List Int) × (List Int) × (List Fact) × (List GOp) × (Int) × (List Nogood) × (Int)) → Option (Er × GChecker)) → Option (Er × GChecker) := fun (v29, v30, v31, v32, v33, v34, v35) rc => ixv _y37 (fun y37 =>
       ob3 (M_ck_covered g ({ t := { Vars := v29, Init := v30, Goal := v31, Ops := v32 : GTask }, c := { Bound := v33, Nogoods := v34 : GCertificate }, steps := v35 : GChecker }) y37 v2) (fun z38 z39 c40 =>
        erM z39
         (sel (!z38)
           (some ((Er.no 19), c40))
           (rc (c40.t.Vars, c40.t.Init, c40.t.Goal, c40.t.Ops, c40.c.Bound, c40.c.Nogoods, c40.steps)))
         (fun e41 => some ((Er.no e41), c40))))
def M_ck_step_L1_E (_ : Nat) (_ : Int) (_ : List (List Fact)) : ((List Int) × (List Int) × (List Fact) × (List GOp) × (Int) × (List Nogood) × (Int)) → Option (Er × GChecker) := fun (v29, v30, v31, v32, v33, v34, v35) => some (Er.nil, { t := { Vars := v29, Init := v30, Goal := v31, Ops := v32 : GTask }, c := { Bound := v33, Nogoods := v34 : GCertificate }, steps := v35 : GChecker })
theorem M_ck_step_L1_eq (g : Nat) (v2 : Int) (z7 : List (List Fact)) (v29 : List Int) (v30 : List Int) (v31 : List Fact) (v32 : List GOp) (v33 : Int) (v34 : List Nogood) (v35 : Int) (hl : z7.length < 9223372036854775807) : M_ck_step_L1 g v2 z7 (((z7.map cL_cF).length : Int).toNat + 1) 0 v29 v30 v31 v32 v33 v34 v35 = Rg (M_ck_step_L1_B g v2 z7) (M_ck_step_L1_E g v2 z7) z7 0 (v29, v30, v31, v32, v33, v34, v35) := rg_e1 (L := fun k i p => match p with | (v29, v30, v31, v32, v33, v34, v35) => M_ck_step_L1 g v2 z7 k i v29 v30 v31 v32 v33 v34 v35) hl (fun _ _ ⟨_, _, _, _, _, _, _⟩ => rfl) (v29, v30, v31, v32, v33, v34, v35)
def M_checker_Where_L1_B (a0 : GTask) (_ : GCertificate) (_y25 : Nogood) (_ : Int) : Unit → (Unit → Option (Unit ⊕ (Int × Int × Er))) → Option (Unit ⊕ (Int × Int × Er)) := fun _ rc => ixv _y25 (fun y25 =>
       ob1 (M_task_Holds y25.1 a0.Init) (fun z26 =>
        sel z26
         (some (.inr ((-1), (-1), (Er.no 20))))
         (rc ())))
def M_checker_Where_L1_E (_ : GTask) (_ : GCertificate) : Unit → Option (Unit ⊕ (Int × Int × Er)) := fun _ => some (.inl ())
theorem M_checker_Where_L1_eq (a0 : GTask) (a1 : GCertificate)  (hl : a1.Nogoods.length < 9223372036854775807) : M_checker_Where_L1 a0 a1 (((a1.Nogoods.map cN).length : Int).toNat + 1) 0 = Rg (M_checker_Where_L1_B a0 a1) (M_checker_Where_L1_E a0 a1) a1.Nogoods 0 () := rg_e1 (L := fun k i _ => M_checker_Where_L1 a0 a1 k i) hl (fun _ _ _ => rfl) ()
def M_checker_Where_L2_B (_ : GTask) (g : Nat) (v184 : Int) (y231 : Nogood) (v246 : Int) : ((List Int) × (List Int) × (List Fact) × (List GOp) × (Int) × (List Nogood) × (Int)) → (((List Int) × (List Int) × (List Fact) × (List GOp) × (Int) × (List Nogood) × (Int)) → Option (((List Int) × (List Int) × (List Fact) × (List GOp) × Int × (List Nogood) × Int) ⊕ (Int × Int × Er))) → Option (((List Int) × (List Int) × (List Fact) × (List GOp) × Int × (List Nogood) × Int) ⊕ (Int × Int × Er)) := fun (v247, v248, v249, v250, v251, v252, v253) rc => ob2 (M_ck_step g ({ t := { Vars := v247, Init := v248, Goal := v249, Ops := v250 : GTask }, c := { Bound := v251, Nogoods := v252 : GCertificate }, steps := v253 : GChecker }) y231 v246) (fun z255 c256 =>
       erM z255
        (rc (c256.t.Vars, c256.t.Init, c256.t.Goal, c256.t.Ops, c256.c.Bound, c256.c.Nogoods, c256.steps))
        (fun e257 => some (.inr (v184, v246, (Er.no e257)))))
def M_checker_Where_L2_E (_ : GTask) (_ : Nat) (_ : Int) (_ : Nogood) : ((List Int) × (List Int) × (List Fact) × (List GOp) × (Int) × (List Nogood) × (Int)) → Option (((List Int) × (List Int) × (List Fact) × (List GOp) × Int × (List Nogood) × Int) ⊕ (Int × Int × Er)) := fun (v247, v248, v249, v250, v251, v252, v253) => some (.inl (v247, v248, v249, v250, v251, v252, v253))
theorem M_checker_Where_L2_eq (a0 : GTask) (g : Nat) (v184 : Int) (y231 : Nogood) (v247 : List Int) (v248 : List Int) (v249 : List Fact) (v250 : List GOp) (v251 : Int) (v252 : List Nogood) (v253 : Int) {m : Nat} (hm : ((a0.Ops.map cGOp).length : Int) = (m : Int)) (hl : m < 9223372036854775807) : M_checker_Where_L2 a0 g v184 y231 ((((a0.Ops.map cGOp).length : Int)).toNat + 1) 0 v247 v248 v249 v250 v251 v252 v253 = Rn (M_checker_Where_L2_B a0 g v184 y231) (M_checker_Where_L2_E a0 g v184 y231) m 0 (v247, v248, v249, v250, v251, v252, v253) := rn_e (L := fun k i p => match p with | (v247, v248, v249, v250, v251, v252, v253) => M_checker_Where_L2 a0 g v184 y231 k i v247 v248 v249 v250 v251 v252 v253) hm hl (fun _ _ ⟨_, _, _, _, _, _, _⟩ => rfl) (v247, v248, v249, v250, v251, v252, v253)
def M_checker_Where_L3_B (a0 : GTask) (_ : GCertificate) (g : Nat) (_y231 : Nogood) (v184 : Int) : ((List Int) × (List Int) × (List Fact) × (List GOp) × (Int) × (List Nogood) × (Int)) → (((List Int) × (List Int) × (List Fact) × (List GOp) × (Int) × (List Nogood) × (Int)) → Option (Int × Int × Er)) → Option (Int × Int × Er) := fun (v185, v186, v187, v188, v189, v190, v191) rc => ob1 (ixv _y231 (fun y231 =>
        M_checker_Where_L2 a0 g v184 y231 ((((a0.Ops.map cGOp).length : Int)).toNat + 1) 0 v185 v186 v187 v188 v189 v190 v191) : Option (((List Int) × (List Int) × (List Fact) × (List GOp) × Int × (List Nogood) × Int) ⊕ (Int × Int × Er)))
       (osum
       (fun (v220, v221, v222, v223, v224, v225, v226) => rc (v220, v221, v222, v223, v224, v225, v226))
       (fun (r227, r228, r229) => some (r227, r228, r229)))
def M_checker_Where_L3_E (_ : GTask) (_ : GCertificate) (_ : Nat) : ((List Int) × (List Int) × (List Fact) × (List GOp) × (Int) × (List Nogood) × (Int)) → Option (Int × Int × Er) := fun (_, _, _, _, _, _, _) => some ((-1), (-1), Er.nil)
theorem M_checker_Where_L3_eq (a0 : GTask) (a1 : GCertificate) (g : Nat) (v185 : List Int) (v186 : List Int) (v187 : List Fact) (v188 : List GOp) (v189 : Int) (v190 : List Nogood) (v191 : Int) (hl : a1.Nogoods.length < 9223372036854775807) : M_checker_Where_L3 a0 a1 g (((a1.Nogoods.map cN).length : Int).toNat + 1) 0 v185 v186 v187 v188 v189 v190 v191 = Rg (M_checker_Where_L3_B a0 a1 g) (M_checker_Where_L3_E a0 a1 g) a1.Nogoods 0 (v185, v186, v187, v188, v189, v190, v191) := rg_e2 (L := fun k i p => match p with | (v185, v186, v187, v188, v189, v190, v191) => M_checker_Where_L3 a0 a1 g k i v185 v186 v187 v188 v189 v190 v191) hl (fun k n p y hy h1 h2 => by first | (simp only [M_checker_Where_L3, M_checker_Where_L3_B, List.length_map, decide_lt h1, sel, ix_at hy, ixv, h2]; done) | (simp only [List.length_map] at h1 hy; (simp only [M_checker_Where_L3, M_checker_Where_L3_B, List.length_map, decide_lt h1, sel, ix_at hy, ixv, h2]; done))) (fun k p => by simp only [M_checker_Where_L3, M_checker_Where_L3_E, List.length_map, decide_ge, sel]) (v185, v186, v187, v188, v189, v190, v191)
end Go.Proofs.YtohjegemooakpaaGreat.Am
namespace Go.Proofs.YtohjegemooakpaaGreat.Am
open Go.RowKit
theorem tholds_eq (l : List Fact) (s : List Int) (hl : Sh l) : M_task_Holds l s = some (holdsF s l) := by
  rw [M_task_Holds, M_task_Holds_L1_eq l s hl.lt, rg_all (p := hold1 s) (c := some false)]
  · rw [M_task_Holds_L1_E, holdsF]; cases l.all (hold1 s) <;> rfl
  · intro x _ i rc
    rw [M_task_Holds_L1_B, ixv, sel_dec, sel_dec, List.length_map, hold1]
    by_cases h0 : x.1 < 0
    · rw [if_pos h0, decide_eq_false (by omega), Bool.false_and, if_neg (by decide)]
    · rw [if_neg h0, decide_eq_true (p := 0 ≤ x.1) (by omega), Bool.true_and]
      by_cases h1 : x.1 < s.length
      · rw [if_neg (by omega), decide_eq_true h1, Bool.true_and, ix_getD (d := 0) (by omega) h1, bne]
        cases s.getD x.1.toNat 0 == x.2 <;> rfl
      · rw [if_pos (by omega), decide_eq_false h1, Bool.false_and, if_neg (by decide)]
def limF (l : List Fact) : Bool := l.all fun x => decide (x.1 < 64 ∧ x.2 < 64)
def frmF (l : List Fact) : Bool := vF (-1) l && limF l
theorem formed_loop (l : List Fact) (hs : Sh l) : ∀ (r : List Fact) (n : Nat) (last : Int), l.drop n = r → n ≤ l.length → -1 ≤ last → (n = 0 → last = -1) → (∀ m, n = m + 1 → ∃ x, l[m]? = some x ∧ x.1 = last) → Rg (M_ce_formed_L1_B l) (M_ce_formed_L1_E l) r n () = some (vF last r && limF r)
  | [], _, _, _, _, _, _, _ => rfl
  | y :: r, n, last, hd, hn, hl, h0, hp => by
    rw [Rg, vF, limF, List.all_cons]
    obtain ⟨hy, hd', hlt⟩ := drop_cons hd
    have hih : 0 ≤ y.1 → Rg (M_ce_formed_L1_B l) (M_ce_formed_L1_E l) r ((n : Int) + 1) () = some (vF y.1 r && limF r) := fun h => formed_loop l hs r (n + 1) y.1 hd' hlt (by omega) (by omega) (fun m hm => ⟨y, by rw [show m = n by omega]; exact hy, rfl⟩)
    simp only [M_ce_formed_L1_B, ixv, sel_dec]
    by_cases h1 : y.1 < 0
    · rw [if_pos h1, decide_eq_false (p := last < y.1 ∧ 0 ≤ y.2) (by omega)]; rfl
    · rw [if_neg h1]
      by_cases h2 : y.1 ≥ 64
      · rw [if_pos h2, decide_eq_false (p := y.1 < 64 ∧ y.2 < 64) (by omega), Bool.false_and, Bool.and_false]
      · rw [if_neg h2]
        by_cases h3 : y.2 < 0
        · rw [if_pos h3, decide_eq_false (p := last < y.1 ∧ 0 ≤ y.2) (by omega)]; rfl
        · rw [if_neg h3]
          by_cases h4 : y.2 ≥ 64
          · rw [if_pos h4, decide_eq_false (p := y.1 < 64 ∧ y.2 < 64) (by omega), Bool.false_and, Bool.and_false]
          · rw [if_neg h4, decide_eq_true (p := y.1 < 64 ∧ y.2 < 64) (by omega), Bool.true_and]
            cases n with
            | zero =>
              have := h0 rfl
              rw [if_neg (by omega), decide_eq_true (p := last < y.1 ∧ 0 ≤ y.2) (by omega)]
              exact hih (by omega)
            | succ m =>
              obtain ⟨x, hx, hxl⟩ := hp m rfl
              rw [if_pos (by omega), w64 (by omega) (by have := hs; unfold Sh at this; omega), show (((m + 1 : Nat) : Int) - 1) = (m : Int) by omega, ix_at hx]
              by_cases h5 : x.1 ≥ y.1
              · rw [if_pos h5, decide_eq_false (p := last < y.1 ∧ 0 ≤ y.2) (by omega)]; rfl
              · rw [if_neg h5, decide_eq_true (p := last < y.1 ∧ 0 ≤ y.2) (by omega)]
                exact hih (by omega)
theorem formed_eq (l : List Fact) (hl : Sh l) : M_ce_formed l = some (frmF l) := by
  rw [M_ce_formed, M_ce_formed_L1_eq _ hl.lt]
  exact formed_loop l hl l 0 (-1) rfl (Nat.zero_le _) (by omega) (fun _ => rfl) (fun m hm => by omega)
structure ShC (c : GCertificate) : Prop where
  list : Sh c.Nogoods
  each : ∀ n ∈ c.Nogoods, Sh n.1
def distF (b : Int) (n : Nogood) : Bool := decide (0 ≤ n.2 ∧ (0 ≤ b → n.2 < b) ∧ (b < 0 → n.2 = 0))
def certF (c : GCertificate) : Er :=
  if c.Bound < -1 ∨ c.Bound > 1099511627776 then .no 1
  else if c.Nogoods.length > 4096 then .no 5
  else if (c.Nogoods.all fun n => frmF n.1) = true then (if (c.Nogoods.all (distF c.Bound)) = true then .nil else .no 1)
  else .no 2
theorem ccheck_eq (c : GCertificate) (hc : ShC c) : M_ce_Check c = some (certF c) := by
  rw [M_ce_Check, certF, sel_dec, sel_dec]
  by_cases h1 : c.Bound < -1
  · rw [if_pos h1, if_pos (Or.inl h1)]; rfl
  · rw [if_neg h1]
    by_cases h2 : c.Bound > 1099511627776
    · rw [if_pos h2, if_pos (Or.inr h2)]; rfl
    · rw [if_neg h2, if_neg (by omega), ob1_some, osum_inl, sel_dec, List.length_map]
      by_cases h3 : c.Nogoods.length > 4096
      · rw [if_pos (by omega), if_pos h3]
      · have e1 := M_ce_Check_L1_eq c (by omega)
        have e2 := M_ce_Check_L2_eq c (by omega)
        rw [List.length_map] at e1 e2
        rw [if_neg (by omega), if_neg h3, e1, rg_all (p := fun n : Nogood => frmF n.1) (c := some (.inr (Er.no 2)))]
        · cases ha : c.Nogoods.all fun n => frmF n.1 with
          | false => rw [if_neg (by decide), ob1_some, osum_inr, if_neg (by decide)]
          | true =>
            rw [if_pos rfl, if_pos rfl, M_ce_Check_L1_E, ob1_some, osum_inl, e2, rg_all (p := distF c.Bound) (c := some (Er.no 1)), M_ce_Check_L2_E]
            · split <;> rfl
            · intro n _ i rc
              rw [M_ce_Check_L2_B, ixv, distF]
              simp only [sel_dec]
              by_cases q1 : n.2 < 0
              · rw [if_pos q1, decide_eq_false (by omega)]; rfl
              · rw [if_neg q1]
                by_cases q2 : c.Bound ≥ 0
                · rw [if_pos q2]
                  by_cases q3 : n.2 ≥ c.Bound
                  · rw [if_pos q3, decide_eq_false (by omega)]; rfl
                  · rw [if_neg q3, if_neg (by omega), decide_eq_true (by omega)]; rfl
                · rw [if_neg q2, if_pos (by omega)]
                  by_cases q4 : n.2 = 0
                  · rw [show (n.2 != 0) = false from by simp [q4], sel_ff, decide_eq_true (by omega)]; rfl
                  · rw [show (n.2 != 0) = true from by simp [q4], sel_tt, decide_eq_false (by omega)]; rfl
        · intro n hn i rc
          rw [M_ce_Check_L1_B, ixv, formed_eq n.1 (hc.each n hn), ob1_some]
          cases frmF n.1 <;> rfl
def properF (vars : List Int) (c : GCertificate) : Er :=
  match certF c with
  | .nil => if (c.Nogoods.all fun n => propF vars (-1) n.1) = true then .nil else .no 2
  | .no e => .no e
theorem cproper_eq (vars : List Int) (c : GCertificate) (hc : ShC c) : M_ce_Proper vars c = some (properF vars c) := by
  have e1 := M_ce_Proper_L1_eq vars c hc.list.lt
  rw [M_ce_Proper, ccheck_eq c hc, ob1_some, properF, e1]
  cases certF c with
  | no e => rfl
  | nil =>
    show Rg _ _ _ _ _ = _
    rw [rg_all (p := fun n : Nogood => propF vars (-1) n.1) (c := some (Er.no 2)), M_ce_Proper_L1_E]
    · simp only; split <;> rfl
    · intro n hn i rc
      rw [M_ce_Proper_L1_B, ixv, facts_eq vars n.1 (hc.each n hn), ob1_some]
      cases propF vars (-1) n.1 <;> rfl
structure CertP (vars : List Int) (c : GCertificate) : Prop where
  b0 : -1 ≤ c.Bound
  b1 : c.Bound ≤ 1099511627776
  len : c.Nogoods.length ≤ 4096
  prop : ∀ n ∈ c.Nogoods, propF vars (-1) n.1 = true
  frm : ∀ n ∈ c.Nogoods, frmF n.1 = true
  d0 : ∀ n ∈ c.Nogoods, 0 ≤ n.2
  d1 : ∀ n ∈ c.Nogoods, 0 ≤ c.Bound → n.2 < c.Bound
  d2 : ∀ n ∈ c.Nogoods, c.Bound < 0 → n.2 = 0
theorem certF_nil (c : GCertificate) : certF c = .nil ↔ -1 ≤ c.Bound ∧ c.Bound ≤ 1099511627776 ∧ c.Nogoods.length ≤ 4096 ∧ (∀ n ∈ c.Nogoods, frmF n.1 = true) ∧ ∀ n ∈ c.Nogoods, distF c.Bound n = true := by
  unfold certF
  split
  · exact ⟨(nofun), fun h => by omega⟩
  · split
    · exact ⟨(nofun), fun h => by omega⟩
    · split
      · rename_i h
        rw [List.all_eq_true] at h
        split
        · rename_i h2
          rw [List.all_eq_true] at h2
          exact ⟨fun _ => ⟨by omega, by omega, by omega, h, h2⟩, fun _ => rfl⟩
        · rename_i h2
          rw [List.all_eq_true] at h2
          exact ⟨(nofun), fun hh => absurd hh.2.2.2.2 h2⟩
      · rename_i h
        rw [List.all_eq_true] at h
        exact ⟨(nofun), fun hh => absurd hh.2.2.2.1 h⟩
theorem properF_nil (vars : List Int) (c : GCertificate) : properF vars c = .nil ↔ CertP vars c := by
  unfold properF
  constructor
  · intro h
    cases hc : certF c with
    | no e => rw [hc] at h; cases h
    | nil =>
      rw [hc] at h
      simp only at h
      split at h
      · rename_i ha
        rw [List.all_eq_true] at ha
        obtain ⟨h1, h2, h3, h4, h5⟩ := (certF_nil c).1 hc
        have hd : ∀ n ∈ c.Nogoods, 0 ≤ n.2 ∧ (0 ≤ c.Bound → n.2 < c.Bound) ∧ (c.Bound < 0 → n.2 = 0) := fun n hn => of_decide_eq_true (h5 n hn)
        exact ⟨h1, h2, h3, ha, h4, fun n hn => (hd n hn).1, fun n hn => (hd n hn).2.1, fun n hn => (hd n hn).2.2⟩
      · cases h
  · intro h
    rw [(certF_nil c).2 ⟨h.b0, h.b1, h.len, h.frm, fun n hn => decide_eq_true ⟨h.d0 n hn, h.d1 n hn, h.d2 n hn⟩⟩]
    simp only
    rw [if_pos (List.all_eq_true.2 h.prop)]
end Go.Proofs.YtohjegemooakpaaGreat.Am
namespace Go.Proofs.YtohjegemooakpaaGreat.Am
open Go.RowKit
def countL (ns : List Nogood) (d : Int) : List (List Fact) := (ns.filter fun n => decide (n.2 ≤ d)).map (·.1)
theorem count_loop (x : GChecker) (d : Int) : ∀ (r : List Nogood) (i : Int) (v : List (List Fact)), v.length + r.length ≤ 1000000 →
    Rg (M_ck_counting_L1_B x d) (M_ck_counting_L1_E x d) r i v = some (v ++ countL r d)
  | [], i, v, h => by rw [Rg, M_ck_counting_L1_E, grd_t (by simp at h; omega)]; simp [countL]
  | n :: r, i, v, h => by
    rw [List.length_cons] at h
    rw [Rg, M_ck_counting_L1_B, ixv, sel_dec]
    by_cases hd : n.2 ≤ d
    · rw [if_pos hd, grd_t (by omega), count_loop x d r _ _ (by simp; omega)]
      simp [countL, hd]
    · rw [if_neg hd, count_loop x d r _ _ (by omega)]
      simp [countL, hd]
theorem counting_eq (x : GChecker) (d : Int) (h : x.c.Nogoods.length ≤ 4096) : M_ck_counting x d = some (countL x.c.Nogoods d) := by
  rw [M_ck_counting, M_ck_counting_L1_eq x d [] (by omega), count_loop x d _ _ _ (by simp; omega), List.nil_append]
theorem count_prop {vars : List Int} {c : GCertificate} (h : CertP vars c) (d : Int) : PropL vars (countL c.Nogoods d) := fun x hx => by
  obtain ⟨n, hn, rfl⟩ := List.mem_map.1 hx
  exact h.prop n (List.mem_filter.1 hn).1
theorem count_len {vars : List Int} {c : GCertificate} (h : CertP vars c) (d : Int) : (countL c.Nogoods d).length ≤ 4096 := by
  unfold countL
  rw [List.length_map]
  exact Nat.le_trans (List.length_filter_le _ _) h.len
def askC (t : GTask) (c : GCertificate) (p : List Fact) (d r : Int) : Bool × Er × Int :=
  if (covA t.Vars p (countL c.Nogoods d)).2 ≤ r then ((covA t.Vars p (countL c.Nogoods d)).1, .nil, r - (covA t.Vars p (countL c.Nogoods d)).2) else (false, .no 10, r)
theorem covA_pos (vars : List Int) (p : List Fact) (l : List (List Fact)) : 1 ≤ (covA vars p l).2 := decA_pos _ _ _ _
theorem askC_r {t : GTask} {c : GCertificate} {p : List Fact} {d r : Int} (h : 0 ≤ r ∧ r ≤ 1048576) : 0 ≤ (askC t c p d r).2.2 ∧ (askC t c p d r).2.2 ≤ 1048576 := by
  have := covA_pos t.Vars p (countL c.Nogoods d)
  unfold askC
  split
  · show 0 ≤ r - _ ∧ r - _ ≤ _; omega
  · exact h
theorem ask_eq {t : GTask} {c : GCertificate} (hd : DomP t.Vars) (hc : CertP t.Vars c) (g : Nat) (hg : 70 ≤ g) (p : List Fact) (hp : propF t.Vars (-1) p = true) (d r : Int) (hr : 0 ≤ r ∧ r ≤ 1048576) :
    M_ck_covered g { t := t, c := c, steps := r } p d = some ((askC t c p d r).1, (askC t c p d r).2.1, { t := t, c := c, steps := (askC t c p d r).2.2 }) := by
  have hl := count_len hc d
  rw [M_ck_covered, counting_eq _ d hc.len, ob1_some]
  show ob3 (M_p_Covered g t.Vars p (countL c.Nogoods d) r) _ = _
  rw [covered_eq hd hp (count_prop hc d) (by omega) r (by omega) g (by omega), covR, askC]
  have hpos := covA_pos t.Vars p (countL c.Nogoods d)
  by_cases h : (covA t.Vars p (countL c.Nogoods d)).2 ≤ r
  · rw [if_pos h, if_pos h, ob3_some]
    show some (_, _, _) = some (_, _, _)
    rw [wrap_eq (by show _ ≤ r - _; omega) (by show r - _ ≤ _; omega)]
  · rw [if_neg h, if_neg h, ob3_some]; rfl
def stepL (t : GTask) (c : GCertificate) (d : Int) : List (List Fact) → Int → Er × Int
  | [], r => (.nil, r)
  | p :: ps, r => match askC t c p d r with
    | (true, .nil, r') => stepL t c d ps r'
    | (false, .nil, r') => (.no 19, r')
    | (_, .no e, r') => (.no e, r')
theorem stepL_r (t : GTask) (c : GCertificate) (d : Int) : ∀ (l : List (List Fact)) (r : Int), 0 ≤ r ∧ r ≤ 1048576 → 0 ≤ (stepL t c d l r).2 ∧ (stepL t c d l r).2 ≤ 1048576
  | [], r, h => h
  | p :: ps, r, h => by
    have ha := askC_r (t := t) (c := c) (p := p) (d := d) h
    rw [stepL]
    rcases hq : askC t c p d r with ⟨b, e, r'⟩
    rw [hq] at ha
    cases e with
    | no e => cases b <;> exact ha
    | nil =>
      cases b with
      | false => exact ha
      | true => exact stepL_r t c d ps r' ha
theorem step_loop {t : GTask} {c : GCertificate} (hd : DomP t.Vars) (hc : CertP t.Vars c) (g : Nat) (hg : 70 ≤ g) (d : Int) (z : List (List Fact)) : ∀ (l : List (List Fact)) (i r : Int), PropL t.Vars l → 0 ≤ r ∧ r ≤ 1048576 →
    Rg (M_ck_step_L1_B g d z) (M_ck_step_L1_E g d z) l i (t.Vars, t.Init, t.Goal, t.Ops, c.Bound, c.Nogoods, r) = some ((stepL t c d l r).1, { t := t, c := c, steps := (stepL t c d l r).2 })
  | [], i, r, _, _ => rfl
  | p :: ps, i, r, hl, hr => by
    rw [Rg, M_ck_step_L1_B]
    show ixv p (fun y37 => ob3 (M_ck_covered g { t := t, c := c, steps := r } y37 d) _) = _
    rw [ixv, ask_eq hd hc g hg p (hl p (List.mem_cons_self ..)) d r hr, ob3_some, stepL]
    have ha := askC_r (t := t) (c := c) (p := p) (d := d) hr
    rcases hq : askC t c p d r with ⟨b, e, r'⟩
    rw [hq] at ha
    cases e with
    | no e => cases b <;> rfl
    | nil =>
      cases b with
      | false => rfl
      | true => exact step_loop hd hc g hg d z ps _ r' (fun x hx => hl x (List.mem_cons_of_mem _ hx)) ha
def distO (c : GCertificate) (n : Nogood) (o : GOp) : Int := if 0 ≤ c.Bound then n.2 + o.Cost else 0
def skipO (c : GCertificate) (n : Nogood) (o : GOp) : Bool := decide (0 ≤ c.Bound ∧ c.Bound ≤ n.2 + o.Cost)
def stepO (t : GTask) (c : GCertificate) (n : Nogood) (o : GOp) (r : Int) : Er × Int :=
  if skipO c n o = true then (.nil, r)
  else match regO t.Vars o n.1 with
    | none => (.no 5, r)
    | some l => stepL t c (distO c n o) l r
theorem stepO_r (t : GTask) (c : GCertificate) (n : Nogood) (o : GOp) (r : Int) (h : 0 ≤ r ∧ r ≤ 1048576) : 0 ≤ (stepO t c n o r).2 ∧ (stepO t c n o r).2 ≤ 1048576 := by
  unfold stepO
  split
  · exact h
  · split
    · exact h
    · exact stepL_r _ _ _ _ _ h
theorem regO_len {t : GTask} (hgood : goodF t = true) {p : List Fact} (hpf : propF t.Vars (-1) p = true) {o : GOp} (ho : o ∈ t.Ops) {l : List (List Fact)} (h : regO t.Vars o p = some l) : PropL t.Vars l ∧ l.length ≤ 1024 := by
  unfold regO at h
  cases hr : regG t.Vars o p [o.Pre] with
  | none => rw [hr] at h; cases h
  | some m =>
    rw [hr, Option.map_some] at h
    obtain rfl := Option.some.inj h
    obtain ⟨l1, -, l3⟩ := pre_prop hgood hpf ho hr
    refine ⟨fun x hx => l1 x (List.mem_filter.1 ((sortLL_mem x _).1 hx)).1, ?_⟩
    rw [sortLL_length]
    exact Nat.le_trans (List.length_filter_le _ _) l3
theorem good_cost {t : GTask} (h : goodF t = true) {o : GOp} (ho : o ∈ t.Ops) : 0 ≤ o.Cost ∧ o.Cost ≤ 1048576 := by
  unfold goodF at h
  simp only [Bool.and_eq_true, List.all_eq_true] at h
  have := h.2.2.2.2 o ho
  unfold opF at this
  simp only [Bool.and_eq_true, decide_eq_true_iff] at this
  exact ⟨this.1.1, this.1.2.1⟩
theorem step_eq {t : GTask} (ht : ShT t) (hgood : goodF t = true) {c : GCertificate} (hc : CertP t.Vars c) (g : Nat) (hg : 70 ≤ g) (n : Nogood) (hn : n ∈ c.Nogoods) (j : Nat) (o : GOp) (hj : t.Ops[j]? = some o) (r : Int) (hr : 0 ≤ r ∧ r ≤ 1048576) :
    M_ck_step g { t := t, c := c, steps := r } n j = some ((stepO t c n o r).1, { t := t, c := c, steps := (stepO t c n o r).2 }) := by
  have hd := good_dom hgood
  have ho := List.mem_of_getElem? hj
  have hcost := good_cost hgood ho
  have hn0 := hc.d0 n hn
  have hn1 := hc.d1 n hn
  have hb1 := hc.b1
  have hw : 0 ≤ c.Bound → IntKind.i64.wrap (n.2 + o.Cost) = n.2 + o.Cost := fun h => wrap_eq (by omega) (by have := hn1 h; omega)
  have hreg : ∀ v : Int, v = distO c n o → skipO c n o = false → ob2 (M_g_Regress g t (j : Int) n.1) (fun z7 z8 =>
      erM z8 (M_ck_step_L1 g v z7 ((((z7.map cL_cF).length : Int)).toNat + 1) 0 t.Vars t.Init t.Goal t.Ops c.Bound c.Nogoods r)
       (fun e9 => some ((Er.no e9), ({ t := t, c := c, steps := r } : GChecker)))) = some ((stepO t c n o r).1, { t := t, c := c, steps := (stepO t c n o r).2 }) := by
    intro v hv hs
    rw [regress_eq t ht hgood n.1 (hc.prop n hn) g hg (j : Int) o (by omega) (by rw [Int.toNat_natCast]; exact hj), ob2_res, stepO, hs, if_neg (by decide)]
    cases hro : regO t.Vars o n.1 with
    | none => rfl
    | some l =>
      obtain ⟨l1, l2⟩ := regO_len hgood (hc.prop n hn) ho hro
      simp only
      rw [M_ck_step_L1_eq g v l _ _ _ _ _ _ _ (by omega), step_loop hd hc g hg v l l 0 r l1 hr, hv]
  rw [M_ck_step]
  simp only [sel_dec, ge_iff_le]
  by_cases h : 0 ≤ c.Bound
  · rw [if_pos h, ix_at hj, hw h]
    by_cases h2 : c.Bound ≤ n.2 + o.Cost
    · have hs : skipO c n o = true := decide_eq_true ⟨h, h2⟩
      rw [if_pos h2, ob1_some, osum_inr, stepO, hs, if_pos rfl]
    · rw [if_neg h2, ob1_some, osum_inl]
      exact hreg _ (by rw [distO, if_pos h]) (decide_eq_false (by omega))
  · rw [if_neg h, ob1_some, osum_inl]
    exact hreg _ (by rw [distO, if_neg h]) (decide_eq_false (by omega))
def opsC (t : GTask) (c : GCertificate) (n : Nogood) (i : Int) : List GOp → Int → Int → Int ⊕ (Int × Int × Er)
  | [], _, r => .inl r
  | o :: os, j, r => match stepO t c n o r with
    | (.nil, r') => opsC t c n i os (j + 1) r'
    | (.no e, _) => .inr (i, j, .no e)
def nogC (t : GTask) (c : GCertificate) : List Nogood → Int → Int → Int × Int × Er
  | [], _, _ => (-1, -1, .nil)
  | n :: ns, i, r => match opsC t c n i t.Ops 0 r with
    | .inl r' => nogC t c ns (i + 1) r'
    | .inr x => x
theorem opsC_r (t : GTask) (c : GCertificate) (n : Nogood) (i : Int) : ∀ (l : List GOp) (j r : Int), 0 ≤ r ∧ r ≤ 1048576 → ∀ r', opsC t c n i l j r = .inl r' → 0 ≤ r' ∧ r' ≤ 1048576
  | [], j, r, h, r', e => by rw [opsC] at e; injection e with e; omega
  | o :: os, j, r, h, r', e => by
    have hs := stepO_r t c n o r h
    rw [opsC] at e
    rcases hq : stepO t c n o r with ⟨x, y⟩
    rw [hq] at e hs
    cases x with
    | no x => cases e
    | nil => exact opsC_r t c n i os (j + 1) y hs r' e
theorem ops_loop {t : GTask} (ht : ShT t) (hgood : goodF t = true) {c : GCertificate} (hc : CertP t.Vars c) (g : Nat) (hg : 70 ≤ g) (n : Nogood) (hn : n ∈ c.Nogoods) (i : Int) : ∀ (l : List GOp) (m j : Nat) (r : Int), t.Ops.drop j = l → l.length = m → 0 ≤ r ∧ r ≤ 1048576 →
    Rn (M_checker_Where_L2_B t g i n) (M_checker_Where_L2_E t g i n) m j (t.Vars, t.Init, t.Goal, t.Ops, c.Bound, c.Nogoods, r) = some (match opsC t c n i l j r with | .inl r' => .inl (t.Vars, t.Init, t.Goal, t.Ops, c.Bound, c.Nogoods, r') | .inr x => .inr x)
  | [], m, j, r, _, hm, _ => by subst hm; rfl
  | o :: os, m, j, r, hdr, hm, hr => by
    obtain ⟨hj, hd', hlt⟩ := drop_cons hdr
    obtain ⟨m, rfl⟩ : ∃ k, m = k + 1 := ⟨os.length, hm.symm⟩
    rw [Rn, M_checker_Where_L2_B]
    show ob2 (M_ck_step g { t := t, c := c, steps := r } n (j : Int)) _ = _
    have hs := stepO_r t c n o r hr
    rw [step_eq ht hgood hc g hg n hn j o hj r hr, ob2_some, opsC]
    rcases hq : stepO t c n o r with ⟨x, y⟩
    rw [hq] at hs
    cases x with
    | no x => rfl
    | nil => exact ops_loop ht hgood hc g hg n hn i os m (j + 1) y hd' (by simpa using hm) hs
theorem nog_loop {t : GTask} (ht : ShT t) (hgood : goodF t = true) {c : GCertificate} (hc : CertP t.Vars c) (g : Nat) (hg : 70 ≤ g) : ∀ (l : List Nogood) (i r : Int), (∀ n ∈ l, n ∈ c.Nogoods) → 0 ≤ r ∧ r ≤ 1048576 →
    Rg (M_checker_Where_L3_B t c g) (M_checker_Where_L3_E t c g) l i (t.Vars, t.Init, t.Goal, t.Ops, c.Bound, c.Nogoods, r) = some (nogC t c l i r)
  | [], i, r, _, _ => rfl
  | n :: ns, i, r, hl, hr => by
    have hops : t.Ops.length ≤ 4096 := by
      unfold goodF at hgood
      simp only [Bool.and_eq_true, decide_eq_true_iff] at hgood
      exact hgood.1.2
    rw [Rg, M_checker_Where_L3_B]
    show ob1 (ixv n (fun y231 => M_checker_Where_L2 t g i y231 ((((t.Ops.map cGOp).length : Int)).toNat + 1) 0 t.Vars t.Init t.Goal t.Ops c.Bound c.Nogoods r)) _ = _
    rw [ixv, M_checker_Where_L2_eq t g i n _ _ _ _ _ _ _ (m := t.Ops.length) (by rw [List.length_map]) (by omega)]
    have e := ops_loop ht hgood hc g hg n (hl n (List.mem_cons_self ..)) i t.Ops t.Ops.length 0 r rfl rfl hr
    have e' : Rn (M_checker_Where_L2_B t g i n) (M_checker_Where_L2_E t g i n) t.Ops.length 0 (t.Vars, t.Init, t.Goal, t.Ops, c.Bound, c.Nogoods, r) = _ := e
    rw [e', ob1_some, nogC]
    have hr2 := opsC_r t c n i t.Ops 0 r hr
    show osum _ _ (match opsC t c n i t.Ops 0 r with | .inl r' => _ | .inr x => _) = _
    cases ho : opsC t c n i t.Ops 0 r with
    | inl r' => exact nog_loop ht hgood hc g hg ns _ r' (fun x hx => hl x (List.mem_cons_of_mem _ hx)) (hr2 r' ho)
    | inr x => rfl
def whereC (t : GTask) (c : GCertificate) (r : Int) : Int × Int × Er :=
  if c.Nogoods.any (fun n => holdsF t.Init n.1) = true then (-1, -1, .no 20)
  else if c.Bound = 0 then nogC t c c.Nogoods 0 r
  else match askC t c t.Goal 0 r with
    | (true, .nil, r') => nogC t c c.Nogoods 0 r'
    | (false, .nil, _) => (-1, -1, .no 13)
    | (_, .no e, _) => (-1, -1, .no e)
def whereF (t : GTask) (c : GCertificate) (steps : Int) : Int × Int × Er :=
  match checkF t with
  | .no e => (-1, -1, .no e)
  | .nil => match properF t.Vars c with
    | .no e => (-1, -1, .no e)
    | .nil => whereC t c (max 0 (min steps 1048576))
theorem where_eq (t : GTask) (ht : ShT t) (c : GCertificate) (hc : ShC c) (steps : Int) (g : Nat) (hg : 70 ≤ g) : M_checker_Where g t c steps = some (whereF t c steps) := by
  rw [M_checker_Where, check_eq t ht, ob1_some, whereF]
  cases hck : checkF t with
  | no e => rfl
  | nil =>
    have hgood := (good_check t).2 hck
    show ob1 (M_ce_Proper t.Vars c) _ = _
    rw [cproper_eq t.Vars c hc, ob1_some]
    cases hpr : properF t.Vars c with
    | no e => rfl
    | nil =>
      have hcp := (properF_nil t.Vars c).1 hpr
      have hd := good_dom hgood
      have e1 := M_checker_Where_L1_eq t c hc.list.lt
      have hr : 0 ≤ max 0 (min steps 1048576) ∧ max 0 (min steps 1048576) ≤ 1048576 := by omega
      have hgoal : propF t.Vars (-1) t.Goal = true := by
        unfold goodF at hgood
        simp only [Bool.and_eq_true] at hgood
        exact hgood.2.2.2.1
      show ob1 (M_checker_Where_L1 t c _ 0) _ = _
      rw [e1, rg_all (p := fun n : Nogood => !holdsF t.Init n.1) (c := some (.inr ((-1), (-1), (Er.no 20)))), whereC]
      · have hna : (c.Nogoods.all fun n => !holdsF t.Init n.1) = !(c.Nogoods.any fun n => holdsF t.Init n.1) := by rw [List.not_any_eq_all_not]
        rw [hna]
        cases ha : c.Nogoods.any fun n => holdsF t.Init n.1 with
        | true => rfl
        | false =>
          rw [Bool.not_false, if_pos rfl, M_checker_Where_L1_E, ob1_some, osum_inl, if_neg (by decide)]
          have hnog : ∀ r : Int, 0 ≤ r ∧ r ≤ 1048576 → M_checker_Where_L3 t c g ((((c.Nogoods.map cN).length : Int)).toNat + 1) 0 t.Vars t.Init t.Goal t.Ops c.Bound c.Nogoods r = some (nogC t c c.Nogoods 0 r) := fun r hr => by
            rw [M_checker_Where_L3_eq t c g _ _ _ _ _ _ _ hc.list.lt, nog_loop ht hgood hcp g hg c.Nogoods 0 r (fun _ h => h) hr]
          by_cases hb : c.Bound = 0
          · rw [if_pos hb, show (c.Bound != 0) = false from by simp [hb], sel_ff, ob1_some, osum_inl]
            exact hnog _ hr
          · rw [if_neg hb, show (c.Bound != 0) = true from by simp [hb], sel_tt, ask_eq hd hcp g hg t.Goal hgoal 0 _ hr, ob3_some]
            have ha := askC_r (t := t) (c := c) (p := t.Goal) (d := 0) hr
            rcases hq : askC t c t.Goal 0 (max 0 (min steps 1048576)) with ⟨b, e, r'⟩
            rw [hq] at ha
            cases e with
            | no e => cases b <;> rfl
            | nil =>
              cases b with
              | false => rfl
              | true => exact hnog r' ha
      · intro n hn i rc
        rw [M_checker_Where_L1_B, ixv, tholds_eq n.1 t.Init (hc.each n hn), ob1_some]
        cases holdsF t.Init n.1 <;> rfl
def verF (t : GTask) (c : GCertificate) (steps : Int) : Er := (whereF t c steps).2.2
theorem verify_eq (t : GTask) (ht : ShT t) (c : GCertificate) (hc : ShC c) (steps : Int) (g : Nat) (hg : 70 ≤ g) : M_checker_Verify g t c steps = some (verF t c steps) := by
  rw [M_checker_Verify, where_eq t ht c hc steps g hg]
  rfl
end Go.Proofs.YtohjegemooakpaaGreat.Am
namespace Go.Proofs.YtohjegemooakpaaGreat.Am
open Go.RowKit
def claimsF (ns : List Nogood) (s : List Int) (d : Int) : Bool := ns.any fun n => decide (n.2 ≤ d) && holdsF s n.1
theorem some_count {s : List Int} {ns : List Nogood} {d : Int} : some1 s (countL ns d) ↔ claimsF ns s d = true := by
  unfold some1 countL claimsF
  rw [List.any_eq_true]
  constructor
  · rintro ⟨z, hz, h⟩
    obtain ⟨n, hn, rfl⟩ := List.mem_map.1 hz
    obtain ⟨h1, h2⟩ := List.mem_filter.1 hn
    exact ⟨n, h1, by rw [h2, h]; rfl⟩
  · rintro ⟨n, hn, h⟩
    rw [Bool.and_eq_true] at h
    exact ⟨n.1, List.mem_map.2 ⟨n, List.mem_filter.2 ⟨hn, h.1⟩, rfl⟩, h.2⟩
def covB (t : GTask) (c : GCertificate) (d : Int) (p : List Fact) : Bool := (covA t.Vars p (countL c.Nogoods d)).1
theorem covB_true {t : GTask} (hgood : goodF t = true) {c : GCertificate} (hc : CertP t.Vars c) {p : List Fact} (hp : propF t.Vars (-1) p = true) (d : Int) : covB t c d p = true ↔ ∀ s, stateF t.Vars s = true → holdsF s p = true → claimsF c.Nogoods s d = true := by
  rw [covB, covA_true (good_dom hgood) hp (count_prop hc d)]
  exact forall_congr' fun s => by rw [some_count]
def inF (o : GOp) (p : List Fact) (s : List Int) : Bool := holdsF s o.Pre && holdsF (nextF s o) p
theorem inF_iff {t : GTask} (hgood : goodF t = true) {o : GOp} (ho : o ∈ t.Ops) {s : List Int} (hs : StP t.Vars s) {p : List Fact} (hp : propF t.Vars (-1) p = true) {l : List (List Fact)} (h : regO t.Vars o p = some l) : some1 s l ↔ inF o p s = true := by
  rw [some_regO hgood ho hs hp h, inF, Bool.and_eq_true, holds_next hgood hs ho hp]
structure Acc (t : GTask) (c : GCertificate) : Prop where
  init : ∀ n ∈ c.Nogoods, holdsF t.Init n.1 = false
  goal : c.Bound ≠ 0 → ∀ s ∈ allF t, holdsF s t.Goal = true → claimsF c.Nogoods s 0 = true
  step : ∀ n ∈ c.Nogoods, ∀ o ∈ t.Ops, skipO c n o = false → ∀ s ∈ allF t, inF o n.1 s = true → claimsF c.Nogoods s (distO c n o) = true
theorem good_goal {t : GTask} (h : goodF t = true) : propF t.Vars (-1) t.Goal = true := by
  unfold goodF at h
  simp only [Bool.and_eq_true] at h
  exact h.2.2.2.1
end Go.Proofs.YtohjegemooakpaaGreat.Am
namespace Go.Proofs.YtohjegemooakpaaGreat.Am
open Go.RowKit
theorem st_state : ∀ {v s : List Int}, s.length = v.length → (∀ i : Nat, i < v.length → 0 ≤ s.getD i 0 ∧ s.getD i 0 < v.getD i 0) → stateF v s = true
  | [], [], _, _ => rfl
  | [], _ :: _, h, _ => by simp at h
  | _ :: _, [], h, _ => by simp at h
  | k :: r, x :: s, h, hr => by
    have h0 := hr 0 (by simp)
    simp only [List.getD_cons_zero] at h0
    rw [stateF, Bool.and_eq_true, decide_eq_true_iff]
    refine ⟨h0, st_state (by simpa using h) (fun i hi => ?_)⟩
    have := hr (i + 1) (by simpa using hi)
    simpa using this
theorem apply_rng (vars : List Int) (s : List Int) : ∀ (r : List GEffect) (v : List Int), v.length = vars.length → (∀ i : Nat, i < vars.length → 0 ≤ v.getD i 0 ∧ v.getD i 0 < vars.getD i 0) → (∀ e ∈ r, 0 ≤ e.Var ∧ 0 ≤ e.Val ∧ e.Val < vars.getD e.Var.toNat 0) → ∀ i : Nat, i < vars.length → 0 ≤ (applyG s r v).getD i 0 ∧ (applyG s r v).getD i 0 < vars.getD i 0
  | [], v, _, hv, _, i, hi => hv i hi
  | e :: r, v, hl, hv, he, i, hi => by
    have he2 : ∀ e ∈ r, 0 ≤ e.Var ∧ 0 ≤ e.Val ∧ e.Val < vars.getD e.Var.toNat 0 := fun u hu => he u (List.mem_cons_of_mem _ hu)
    rw [applyG]
    split
    · obtain ⟨e0, e1, e2⟩ := he e (List.mem_cons_self ..)
      refine apply_rng vars s r _ (by rw [List.length_set]; exact hl) (fun j hj => ?_) he2 i hi
      by_cases hej : e.Var.toNat = j
      · subst hej
        rw [List.getD_eq_getElem?_getD, List.getElem?_set_self (by omega), Option.getD_some]
        exact ⟨e1, e2⟩
      · rw [List.getD_eq_getElem?_getD, List.getElem?_set_ne hej, ← List.getD_eq_getElem?_getD]
        exact hv j hj
    · exact apply_rng vars s r v hl hv he2 i hi
theorem next_state {t : GTask} (hgood : goodF t = true) {s : List Int} (hs : stateF t.Vars s = true) {o : GOp} (ho : o ∈ t.Ops) : stateF t.Vars (nextF s o) = true := by
  have st := stateF_st hs
  refine st_state (by unfold nextF; rw [applyG_len]; exact st.len) (fun i hi => ?_)
  exact apply_rng t.Vars s o.Effs s st.len st.rng (fun e he => by obtain ⟨h1, -, h3, h4⟩ := good_eff hgood ho he; exact ⟨h1, h3, h4⟩) i hi
end Go.Proofs.YtohjegemooakpaaGreat.Am
namespace Go.Proofs.YtohjegemooakpaaGreat.Am
open Go.RowKit
def leE (a b : GEntry) : Prop := a.dist < b.dist ∨ (a.dist = b.dist ∧ a.order ≤ b.order)
def ltE (a b : GEntry) : Bool := decide (a.dist < b.dist) || (a.dist == b.dist && decide (a.order < b.order))
theorem leE_trans {a b c : GEntry} (h1 : leE a b) (h2 : leE b c) : leE a c := by unfold leE at *; omega
theorem leE_refl (a : GEntry) : leE a a := by unfold leE; omega
theorem ltE_t {a b : GEntry} (h : ltE a b = true) : leE a b := by
  unfold ltE at h; unfold leE
  simp only [Bool.or_eq_true, Bool.and_eq_true, decide_eq_true_iff, beq_iff_eq] at h
  omega
theorem ltE_f {a b : GEntry} (h : ltE a b = false) : leE b a := by
  unfold ltE at h; unfold leE
  simp only [Bool.or_eq_false_iff, Bool.and_eq_false_iff, decide_eq_false_iff_not, beq_eq_false_iff_ne] at h
  omega
def Le2 (l : List GEntry) (i j : Nat) : Prop := ∀ a b, l[i]? = some a → l[j]? = some b → leE a b
theorem Le2.trans {l : List GEntry} {i j k : Nat} (h1 : Le2 l i j) (h2 : Le2 l j k) (hj : j < l.length) : Le2 l i k := fun a c ha hc => leE_trans (h1 a _ ha (List.getElem?_eq_getElem hj)) (h2 _ c (List.getElem?_eq_getElem hj) hc)
theorem less_eq2 {l : List GEntry} {i j : Nat} {a b : GEntry} (hi : l[i]? = some a) (hj : l[j]? = some b) : M_stratagem_certify_entries_Less l i j = some (ltE a b, l) := by
  have h1 := (List.getElem?_eq_some_iff.1 hi).1
  have h2 := (List.getElem?_eq_some_iff.1 hj).1
  rw [M_stratagem_certify_entries_Less, Int.toNat_natCast, Int.toNat_natCast]
  simp only [ixn_at hi, ixn_at hj, grd_t (show (0 : Int) ≤ (i : Int) by omega), grd_t (show (i : Int) < ((l.length : Nat) : Int) by omega), grd_t (show (0 : Int) ≤ (j : Int) by omega), grd_t (show (j : Int) < ((l.length : Nat) : Int) by omega)]
  unfold ltE
  cases decide (a.dist < b.dist) with
  | true => rfl
  | false => cases a.dist == b.dist <;> rfl
def swp (l : List GEntry) (i j : Nat) (a b : GEntry) : List GEntry := (l.set i b).set j a
def sg (i j k : Nat) : Nat := if k = i then j else if k = j then i else k
theorem swp_get {l : List GEntry} {i j : Nat} {a b : GEntry} (hi : l[i]? = some a) (hj : l[j]? = some b) (k : Nat) : (swp l i j a b)[k]? = l[sg i j k]? := by
  have h1 := (List.getElem?_eq_some_iff.1 hi).1
  have h2 := (List.getElem?_eq_some_iff.1 hj).1
  unfold swp sg
  rw [List.getElem?_set, List.getElem?_set, List.length_set]
  by_cases e1 : k = i
  · rw [if_pos e1]
    by_cases e2 : j = k
    · rw [if_pos e2, if_pos h2, e2, e1]; exact hi.symm
    · rw [if_neg e2, if_pos e1.symm, if_pos h1, hj]
  · rw [if_neg e1]
    by_cases e2 : k = j
    · rw [if_pos e2, if_pos e2.symm, if_pos h2, hi]
    · rw [if_neg e2, if_neg (fun e => e2 e.symm), if_neg (fun e => e1 e.symm)]
theorem swp_len (l : List GEntry) (i j : Nat) (a b : GEntry) : (swp l i j a b).length = l.length := by unfold swp; rw [List.length_set, List.length_set]
theorem sg_sg (i j k : Nat) : sg i j (sg i j k) = k := by unfold sg; split <;> split <;> (try split) <;> omega
theorem swp_mem {l : List GEntry} {i j : Nat} {a b : GEntry} (hi : l[i]? = some a) (hj : l[j]? = some b) (x : GEntry) : x ∈ swp l i j a b ↔ x ∈ l := by
  rw [List.mem_iff_getElem?, List.mem_iff_getElem?]
  constructor
  · rintro ⟨k, hk⟩; rw [swp_get hi hj] at hk; exact ⟨_, hk⟩
  · rintro ⟨k, hk⟩; exact ⟨sg i j k, by rw [swp_get hi hj, sg_sg]; exact hk⟩
theorem swp_le {l : List GEntry} {i j : Nat} {a b : GEntry} (hi : l[i]? = some a) (hj : l[j]? = some b) {p q : Nat} (h : Le2 l (sg i j p) (sg i j q)) : Le2 (swp l i j a b) p q := fun x y hx hy => h x y (by rw [← swp_get hi hj]; exact hx) (by rw [← swp_get hi hj]; exact hy)
theorem swap_eq {l : List GEntry} {i j : Nat} {a b : GEntry} (hi : l[i]? = some a) (hj : l[j]? = some b) : M_stratagem_certify_entries_Swap l i j = some (swp l i j a b) := by
  have h1 := (List.getElem?_eq_some_iff.1 hi).1
  have h2 := (List.getElem?_eq_some_iff.1 hj).1
  have h3 : (l.set i b)[j]? = some ((l.set i b)[j]'(by rw [List.length_set]; exact h2)) := List.getElem?_eq_getElem _
  rw [M_stratagem_certify_entries_Swap, Int.toNat_natCast, Int.toNat_natCast, ixn_at hj, ixn_at hi, ixn_at hi, ixn_at h3, grd_t (by omega), grd_t (by omega), grd_t (by omega), grd_t (by omega)]
  rfl
def Heap (l : List GEntry) (n : Nat) : Prop := ∀ i, 0 < i → i < n → Le2 l ((i - 1) / 2) i
theorem up_loop : ∀ (f j : Nat) (l : List GEntry), j < f → j < l.length → l.length ≤ 1000000000 → (∀ i, 0 < i → i < l.length → i ≠ j → Le2 l ((i - 1) / 2) i) → (∀ c, 0 < j → 0 < c → c < l.length → (c - 1) / 2 = j → Le2 l ((j - 1) / 2) c) →
    ∃ l', M_container_heap_up_L1 f j l = some l' ∧ Heap l' l'.length ∧ l'.length = l.length ∧ ∀ x, x ∈ l' ↔ x ∈ l
  | 0, j, l, h, _, _, _, _ => absurd h (Nat.not_lt_zero _)
  | f + 1, j, l, hf, hj, hl, h1, h2 => by
    rw [M_container_heap_up_L1, grd_t (by decide), w64 (z := (j : Int) - 1) (by omega) (by omega)]
    by_cases h0 : j = 0
    · subst h0
      rw [show IntKind.i64.wrap ((((0 : Nat) : Int) - 1).tdiv 2) = 0 from rfl, show ((0 : Int) == ((0 : Nat) : Int)) = true from rfl, sel_tt]
      exact ⟨l, rfl, fun i hi hn => h1 i hi hn (by omega), rfl, fun _ => Iff.rfl⟩
    · have e1 : ((j : Int) - 1).tdiv 2 = (((j - 1) / 2 : Nat) : Int) := by rw [Int.tdiv_eq_ediv_of_nonneg (by omega)]; omega
      obtain ⟨i, hi⟩ : ∃ i, (j - 1) / 2 = i := ⟨_, rfl⟩
      rw [e1, hi, w64 (by omega) (by omega), show (((i : Nat) : Int) == ((j : Nat) : Int)) = false from by rw [beq_eq_false_iff_ne]; omega, sel_ff]
      have hij : i < j := by omega
      have gi : l[i]? = some l[i] := List.getElem?_eq_getElem (by omega)
      have gj : l[j]? = some l[j] := List.getElem?_eq_getElem hj
      rw [less_eq2 gj gi, ob2_some, grd_t rfl]
      cases hlt : ltE l[j] l[i] with
      | false =>
        rw [Bool.not_false, sel_tt]
        refine ⟨l, rfl, fun k hk hn => ?_, rfl, fun _ => Iff.rfl⟩
        by_cases hkj : k = j
        · subst hkj
          rw [hi]
          intro a b ha hb
          rw [gi] at ha; rw [gj] at hb
          rw [← Option.some.inj ha, ← Option.some.inj hb]
          exact ltE_f hlt
        · exact h1 k hk hn hkj
      | true =>
        have hji : Le2 l j i := fun a b ha hb => by
          rw [gj] at ha; rw [gi] at hb
          rw [← Option.some.inj ha, ← Option.some.inj hb]
          exact ltE_t hlt
        rw [Bool.not_true, sel_ff, swap_eq gi gj, ob1_some, grd_t (swp_len ..)]
        suffices hA : (∀ k, 0 < k → k < (swp l i j l[i] l[j]).length → k ≠ i → Le2 (swp l i j l[i] l[j]) ((k - 1) / 2) k) ∧ (∀ c, 0 < i → 0 < c → c < (swp l i j l[i] l[j]).length → (c - 1) / 2 = i → Le2 (swp l i j l[i] l[j]) ((i - 1) / 2) c) by
          obtain ⟨l', q1, q2, q3, q4⟩ := up_loop f i (swp l i j l[i] l[j]) (by omega) (by rw [swp_len]; omega) (by rw [swp_len]; exact hl) hA.1 hA.2
          exact ⟨l', q1, q2, by rw [q3, swp_len], fun x => (q4 x).trans (swp_mem gi gj x)⟩
        refine ⟨fun k hk hn hki => ?_, fun c hi0 hc hn hpc => ?_⟩
        · rw [swp_len] at hn
          refine swp_le gi gj ?_
          have s2 : sg i j k = if k = j then i else k := by unfold sg; rw [if_neg hki]
          by_cases hkj : k = j
          · rw [s2, if_pos hkj, hkj, hi]
            have s1 : sg i j i = j := if_pos rfl
            rw [s1]
            exact hji
          · rw [s2, if_neg hkj]
            by_cases hp1 : (k - 1) / 2 = j
            · have s1 : sg i j ((k - 1) / 2) = i := by unfold sg; rw [if_neg (by omega), if_pos hp1]
              rw [s1, ← hi]
              exact h2 k (by omega) hk hn hp1
            · by_cases hp2 : (k - 1) / 2 = i
              · have s1 : sg i j ((k - 1) / 2) = j := by unfold sg; rw [if_pos hp2]
                rw [s1]
                exact hji.trans (by have := h1 k hk hn hkj; rw [hp2] at this; exact this) (by omega)
              · have s1 : sg i j ((k - 1) / 2) = (k - 1) / 2 := by unfold sg; rw [if_neg hp2, if_neg hp1]
                rw [s1]
                exact h1 k hk hn hkj
        · rw [swp_len] at hn
          refine swp_le gi gj ?_
          have s1 : sg i j ((i - 1) / 2) = (i - 1) / 2 := by unfold sg; rw [if_neg (by omega), if_neg (by omega)]
          have hpi := h1 i hi0 (by omega) (by omega)
          rw [s1]
          by_cases hcj : c = j
          · have s2 : sg i j c = i := by unfold sg; rw [if_neg (by omega), if_pos hcj]
            rw [s2]
            exact hpi
          · have s2 : sg i j c = c := by unfold sg; rw [if_neg (by omega), if_neg hcj]
            rw [s2]
            exact hpi.trans (by have := h1 c hc hn hcj; rw [hpc] at this; exact this) (by omega)
theorem push_eq {g : Nat} {l : List GEntry} (e : GEntry) (hg : l.length < g) (hl : l.length ≤ 900000000) (hh : Heap l l.length) :
    ∃ l', M_container_heap_Push g l e = some l' ∧ Heap l' l'.length ∧ l'.length = l.length + 1 ∧ ∀ x, x ∈ l' ↔ x ∈ l ∨ x = e := by
  have hlen : (l ++ [e]).length = l.length + 1 := by simp
  obtain ⟨l', q1, q2, q3, q4⟩ := up_loop g l.length (l ++ [e]) hg (by omega) (by omega) (fun i hi hn hne a b ha hb => by
    rw [List.getElem?_append_left (by omega)] at ha hb
    exact hh i hi (by omega) a b ha hb) (fun c h0 hc hn hp => by omega)
  rw [M_container_heap_Push, M_stratagem_certify_entries_Push, grd_t (by omega), ob1_some, M_stratagem_certify_entries_Len, ob2_some, grd_t rfl, hlen, M_container_heap_up, w64 (by omega) (by omega), show ((l.length + 1 : Nat) : Int) - 1 = ((l.length : Nat) : Int) from by omega, q1, ob1_some]
  refine ⟨l', rfl, q2, by rw [q3, hlen], fun x => ?_⟩
  rw [q4, List.mem_append, List.mem_singleton]
theorem down_loop (i0 : Int) (n : Nat) : ∀ (f i : Nat) (l : List GEntry), n ≤ i + f → 0 < f → n ≤ l.length → l.length ≤ 1000000000 → i ≤ l.length → (∀ k, 0 < k → k < n → (k - 1) / 2 ≠ i → Le2 l ((k - 1) / 2) k) → (∀ c, 0 < i → 0 < c → c < n → (c - 1) / 2 = i → Le2 l ((i - 1) / 2) c) →
    ∃ b l', M_container_heap_down_L1 i0 (n : Int) f i l = some (b, l') ∧ Heap l' n ∧ l'.length = l.length ∧ (∀ x, x ∈ l' ↔ x ∈ l) ∧ ∀ k, n ≤ k → l'[k]? = l[k]?
  | 0, i, l, _, h, _, _, _, _, _ => absurd h (Nat.not_lt_zero _)
  | f + 1, i, l, hf, _, hn, hl, hil, h1, h2 => by
    rw [M_container_heap_down_L1, w64 (z := 2 * (i : Int)) (by omega) (by omega), w64 (z := 2 * (i : Int) + 1) (by omega) (by omega), w64 (z := 2 * (i : Int) + 1 + 1) (by omega) (by omega), sel_dec, sel_dec]
    by_cases hend : 2 * (i : Int) + 1 ≥ (n : Int)
    · rw [if_pos hend, ob1_some, osum_inr]
      exact ⟨_, l, rfl, fun k hk hkn => h1 k hk hkn (by omega), rfl, fun _ => Iff.rfl, fun _ _ => rfl⟩
    · rw [if_neg hend, if_neg (by omega), ob1_some, osum_inl]
      have g1 : l[2 * i + 1]? = some l[2 * i + 1] := List.getElem?_eq_getElem (by omega)
      have gi : l[i]? = some l[i] := List.getElem?_eq_getElem (by omega)
      have hj : ∃ j : Nat, (j = 2 * i + 1 ∨ j = 2 * i + 2) ∧ j < n ∧ (∀ k, k < n → (k = 2 * i + 1 ∨ k = 2 * i + 2) → Le2 l j k) ∧
          (sel (decide (2 * (i : Int) + 1 + 1 < (n : Int))) (ob2 (M_stratagem_certify_entries_Less l (2 * (i : Int) + 1 + 1) (2 * (i : Int) + 1)) (fun z34 c35 => grd (c35.length = l.length) (sel z34 (some ((2 * (i : Int) + 1 + 1), c35)) (some ((2 * (i : Int) + 1), c35))))) (some ((2 * (i : Int) + 1), l)) : Option (Int × List GEntry)) = some ((j : Int), l) := by
        rw [sel_dec]
        by_cases h3 : 2 * (i : Int) + 1 + 1 < (n : Int)
        · have g2 : l[2 * i + 2]? = some l[2 * i + 2] := List.getElem?_eq_getElem (by omega)
          rw [if_pos h3, show 2 * (i : Int) + 1 + 1 = ((2 * i + 2 : Nat) : Int) from by omega, show 2 * (i : Int) + 1 = ((2 * i + 1 : Nat) : Int) from by omega, less_eq2 g2 g1, ob2_some, grd_t rfl]
          have self : ∀ q, Le2 l q q := fun q a b ha hb => by rw [ha] at hb; rw [Option.some.inj hb]; exact leE_refl _
          cases hlt : ltE l[2 * i + 2] l[2 * i + 1] with
          | true =>
            refine ⟨2 * i + 2, .inr rfl, by omega, fun k _ hk => ?_, rfl⟩
            rcases hk with rfl | rfl
            · intro a b ha hb
              rw [g2] at ha; rw [g1] at hb
              rw [← Option.some.inj ha, ← Option.some.inj hb]
              exact ltE_t hlt
            · exact self _
          | false =>
            refine ⟨2 * i + 1, .inl rfl, by omega, fun k _ hk => ?_, rfl⟩
            rcases hk with rfl | rfl
            · exact self _
            · intro a b ha hb
              rw [g1] at ha; rw [g2] at hb
              rw [← Option.some.inj ha, ← Option.some.inj hb]
              exact ltE_f hlt
        · rw [if_neg h3]
          refine ⟨2 * i + 1, .inl rfl, by omega, fun k hk hk2 => ?_, by rw [show 2 * (i : Int) + 1 = ((2 * i + 1 : Nat) : Int) from by omega]⟩
          rcases hk2 with rfl | rfl
          · intro a b ha hb; rw [ha] at hb; rw [Option.some.inj hb]; exact leE_refl _
          · omega
      obtain ⟨j, hj1, hj2, hj3, hj4⟩ := hj
      have gj : l[j]? = some l[j] := List.getElem?_eq_getElem (by omega)
      rw [hj4, ob1_some]
      show ∃ b l', ob2 (M_stratagem_certify_entries_Less l (j : Int) (i : Int)) _ = _ ∧ _
      rw [less_eq2 gj gi, ob2_some, grd_t rfl]
      cases hlt : ltE l[j] l[i] with
      | false =>
        rw [Bool.not_false, sel_tt]
        refine ⟨_, l, rfl, fun k hk hkn => ?_, rfl, fun _ => Iff.rfl, fun _ _ => rfl⟩
        by_cases hp : (k - 1) / 2 = i
        · rw [hp]
          refine Le2.trans (j := j) (fun a b ha hb => ?_) (hj3 k hkn (by omega)) (by omega)
          rw [gi] at ha; rw [gj] at hb
          rw [← Option.some.inj ha, ← Option.some.inj hb]
          exact ltE_f hlt
        · exact h1 k hk hkn hp
      | true =>
        have hji : Le2 l j i := fun a b ha hb => by
          rw [gj] at ha; rw [gi] at hb
          rw [← Option.some.inj ha, ← Option.some.inj hb]
          exact ltE_t hlt
        rw [Bool.not_true, sel_ff, swap_eq gi gj, ob1_some, grd_t (swp_len ..)]
        have si : sg i j i = j := if_pos rfl
        have sj : sg i j j = i := by unfold sg; rw [if_neg (by omega), if_pos rfl]
        suffices hA : (∀ k, 0 < k → k < n → (k - 1) / 2 ≠ j → Le2 (swp l i j l[i] l[j]) ((k - 1) / 2) k) ∧ (∀ c, 0 < j → 0 < c → c < n → (c - 1) / 2 = j → Le2 (swp l i j l[i] l[j]) ((j - 1) / 2) c) by
          obtain ⟨b, l', q1, q2, q3, q4, q5⟩ := down_loop i0 n f j (swp l i j l[i] l[j]) (by omega) (by omega) (by rw [swp_len]; exact hn) (by rw [swp_len]; exact hl) (by rw [swp_len]; omega) hA.1 hA.2
          exact ⟨b, l', q1, q2, by rw [q3, swp_len], fun x => (q4 x).trans (swp_mem gi gj x), fun k hk => by rw [q5 k hk, swp_get gi gj, show sg i j k = k from by unfold sg; rw [if_neg (by omega), if_neg (by omega)]]⟩
        refine ⟨fun k hk hkn hp => ?_, fun c _ hc hcn hp => ?_⟩
        · refine swp_le gi gj ?_
          by_cases hkj : k = j
          · rw [hkj, show (j - 1) / 2 = i from by omega, si, sj]
            exact hji
          · by_cases hp2 : (k - 1) / 2 = i
            · rw [hp2, si, show sg i j k = k from by unfold sg; rw [if_neg (by omega), if_neg hkj]]
              exact hj3 k hkn (by omega)
            · rw [show sg i j ((k - 1) / 2) = (k - 1) / 2 from by unfold sg; rw [if_neg hp2, if_neg hp]]
              by_cases hki : k = i
              · rw [hki, si]
                exact h2 j (by omega) (by omega) hj2 (by omega)
              · rw [show sg i j k = k from by unfold sg; rw [if_neg hki, if_neg hkj]]
                exact h1 k hk hkn hp2
        · refine swp_le gi gj ?_
          rw [show (j - 1) / 2 = i from by omega, si, show sg i j c = c from by unfold sg; rw [if_neg (by omega), if_neg (by omega)]]
          have := h1 c hc hcn (by omega)
          rw [hp] at this
          exact this
theorem heap_min {l : List GEntry} {n : Nat} (h : Heap l n) (hn : n ≤ l.length) : ∀ (i : Nat), i < n → Le2 l 0 i
  | i, hi => by
    by_cases h0 : i = 0
    · subst h0
      intro a b ha hb; rw [ha] at hb; rw [Option.some.inj hb]; exact leE_refl _
    · exact (heap_min h hn ((i - 1) / 2) (by omega)).trans (h i (by omega) hi) (by omega)
termination_by i => i
decreasing_by omega
theorem pop_eq {g : Nat} {l : List GEntry} (hne : 0 < l.length) (hg : l.length < g) (hl : l.length ≤ 900000000) (hh : Heap l l.length) :
    ∃ e l', M_container_heap_Pop g l = some (e, l') ∧ Heap l' l'.length ∧ l'.length + 1 = l.length ∧ (∀ x, x ∈ l ↔ x = e ∨ x ∈ l') ∧ ∀ x ∈ l, leE e x := by
  have g0 : l[0]? = some l[0] := List.getElem?_eq_getElem hne
  obtain ⟨n, hn⟩ : ∃ n, l.length = n + 1 := ⟨l.length - 1, by omega⟩
  have gn : l[n]? = some l[n] := List.getElem?_eq_getElem (by omega)
  have hz : ((l.length : Nat) : Int) - 1 = (n : Int) := by omega
  obtain ⟨b, c, q1, q2, q3, q4, q5⟩ := down_loop 0 n g 0 (swp l 0 n l[0] l[n]) (by omega) (by omega) (by rw [swp_len]; omega) (by rw [swp_len]; omega) (by omega) (fun k hk hkn hp => by
    refine swp_le g0 gn ?_
    rw [show sg 0 n ((k - 1) / 2) = (k - 1) / 2 from by unfold sg; rw [if_neg hp, if_neg (by omega)], show sg 0 n k = k from by unfold sg; rw [if_neg (by omega), if_neg (by omega)]]
    exact hh k hk (by omega)) (fun c h0 => absurd h0 (by omega))
  have hlc : c.length = n + 1 := by rw [q3, swp_len, hn]
  have gc : c[n]? = some l[0] := by
    rw [q5 n (Nat.le_refl _), swp_get g0 gn]
    unfold sg
    by_cases h0 : n = 0
    · rw [if_pos h0, h0]; exact g0
    · rw [if_neg h0, if_pos rfl]; exact g0
  have hcat : c = c.take n ++ [l[0]] := by
    have h := List.take_append_drop n c
    rw [List.drop_eq_getElem_cons (by omega), List.drop_of_length_le (by omega)] at h
    have hg2 := List.getElem?_eq_getElem (show n < c.length by omega)
    rw [gc] at hg2
    rw [← Option.some.inj hg2] at h
    exact h.symm
  refine ⟨l[0], c.take n, ?_, fun i hi hin a b ha hb => ?_, by rw [List.length_take]; omega, fun x => ?_, fun x hx => ?_⟩
  · rw [M_container_heap_Pop, M_stratagem_certify_entries_Len, ob2_some, grd_t rfl, hz, w64 (by omega) (by omega), show (0 : Int) = ((0 : Nat) : Int) from rfl, swap_eq g0 gn, ob1_some, grd_t (swp_len ..), M_container_heap_down]
    rw [show ((0 : Nat) : Int) = 0 from rfl] at q1 ⊢
    rw [q1, ob2_some, M_stratagem_certify_entries_Pop, hlc, show ((n + 1 : Nat) : Int) - 1 = (n : Int) from by omega, w64 (by omega) (by omega), Int.toNat_natCast, ixn_at gc, grd_t (by omega), grd_t (by omega), grd_t (by omega), ob2_some]
  · rw [List.length_take] at hin
    rw [List.getElem?_take, if_pos (by omega)] at ha hb
    exact q2 i hi (by omega) a b ha hb
  · rw [← swp_mem g0 gn, ← q4]
    conv => lhs; rw [hcat]
    rw [List.mem_append, List.mem_singleton]
    exact Or.comm
  · obtain ⟨i, hi⟩ := List.mem_iff_getElem?.1 hx
    exact heap_min hh (Nat.le_refl _) i (List.getElem?_eq_some_iff.1 hi).1 _ _ g0 hi
end Go.Proofs.YtohjegemooakpaaGreat.Am
namespace Go.Proofs.YtohjegemooakpaaGreat.Am
open Go.RowKit
theorem subF_refl (a : List Fact) : subF a a = true := subF_iff.2 fun _ h => h
theorem holdsF_sub {s : List Int} {a b : List Fact} (h : subF b a = true) (ha : holdsF s a = true) : holdsF s b = true := by
  unfold holdsF at ha ⊢
  rw [List.all_eq_true] at ha ⊢
  exact fun x hx => ha x (subF_iff.1 h x hx)
def wc (b : Int) (o : GOp) : Int := if b < 0 then 0 else o.Cost
inductive Rch (t : GTask) (b : Int) : List Int → Int → Prop
  | goal {s : List Int} : holdsF s t.Goal = true → Rch t b s 0
  | step {s : List Int} {o : GOp} {d : Int} : o ∈ t.Ops → holdsF s o.Pre = true → Rch t b (nextF s o) d → Rch t b s (d + wc b o)
structure EnP (t : GTask) (b : Int) (p : List Fact) (d : Int) : Prop where
  prop : propF t.Vars (-1) p = true
  d0 : 0 ≤ d
  d1 : 0 ≤ b → d < b
  d2 : b < 0 → d = 0
  snd : ∀ s, stateF t.Vars s = true → holdsF s p = true → Rch t b s d
def Covd (ns : List Nogood) (p : List Fact) (d : Int) : Prop := ∃ n ∈ ns, n.2 ≤ d ∧ subF n.1 p = true
def Back (t : GTask) (b : Int) (o : GOp) (d d' : Int) : Prop := o ∈ t.Ops ∧ (b < 0 ∨ d + o.Cost < b) ∧ d' = (if b < 0 then 0 else d + o.Cost)
def Need (t : GTask) (b : Int) (ns : List Nogood) (p : List Fact) (d : Int) : Prop :=
  (p = t.Goal ∧ d = 0) ∨ ∃ n ∈ ns, ∃ o, Back t b o n.2 d ∧ ∃ l, regO t.Vars o n.1 = some l ∧ p ∈ l
structure Inv (t : GTask) (b : Int) (q : List GEntry) (ns : List Nogood) : Prop where
  heap : Heap q q.length
  qP : ∀ e ∈ q, EnP t b e.facts e.dist
  nP : ∀ n ∈ ns, EnP t b n.1 n.2
  nI : ∀ n ∈ ns, holdsF t.Init n.1 = false
  sep : ns.Pairwise fun x y => x.2 ≤ y.2 ∧ subF x.1 y.1 = false
  below : ∀ n ∈ ns, ∀ e ∈ q, n.2 ≤ e.dist
  need : ∀ p d, Need t b ns p d → Covd ns p d ∨ ∃ e ∈ q, e.facts = p ∧ e.dist = d
  qlen : q.length ≤ 1 + ns.length * 10240
theorem op_cost {t : GTask} (hg : goodF t = true) {o : GOp} (ho : o ∈ t.Ops) : 0 ≤ o.Cost ∧ o.Cost ≤ 1048576 := by
  unfold goodF at hg
  simp only [Bool.and_eq_true, decide_eq_true_iff, List.all_eq_true] at hg
  have := hg.2.2.2.2 o ho
  unfold opF at this
  simp only [Bool.and_eq_true, decide_eq_true_iff] at this
  exact ⟨this.1.1, this.1.2.1⟩
theorem back_en {t : GTask} (hf : Fit t) {b : Int} {p : List Fact} {d d' : Int} (hp : EnP t b p d) {o : GOp} (hb : Back t b o d d') {l : List (List Fact)} (hl : regO t.Vars o p = some l) (hpl : PropL t.Vars l) {z : List Fact} (hz : z ∈ l) : EnP t b z d' := by
  obtain ⟨ho, h1, h2⟩ := hb
  have hc := op_cost hf.good ho
  have hd := hp.d0
  refine ⟨hpl z hz, ?_, ?_, ?_, fun s hs hh => ?_⟩
  · subst h2; split <;> omega
  · intro h0; subst h2; rw [if_neg (by omega)]; omega
  · intro h0; rw [h2, if_pos h0]
  · have st := stateF_st hs
    obtain ⟨e1, e2⟩ := (some_regO hf.good ho st hp.prop hl).1 ⟨z, hz, hh⟩
    have hn := hp.snd _ (next_state hf.good hs ho) ((holds_next hf.good st ho hp.prop).2 e2)
    have := Rch.step ho e1 hn
    rw [h2]
    unfold wc at this
    by_cases h0 : b < 0
    · rw [if_pos h0] at this ⊢
      rw [hp.d2 h0] at this
      exact this
    · rw [if_neg h0] at this ⊢
      exact this
theorem Inv.len {t : GTask} (hf : Fit t) {b : Int} {q : List GEntry} {ns : List Nogood} (h : Inv t b q ns) : ns.length ≤ 1024 := by
  have hn : (ns.map (·.1)).Nodup := List.pairwise_map.2 (h.sep.imp fun {x y} hxy e => by
    have := hxy.2
    rw [e, subF_refl] at this
    cases this)
  have := hf.cap.cap _ hn fun x hx => by
    obtain ⟨n, hn, rfl⟩ := List.mem_map.1 hx
    exact (h.nP n hn).prop
  rw [List.length_map] at this
  exact this
structure Pushed (d : Int) (r : List (List Fact)) (q q' : List GEntry) : Prop where
  heap : Heap q' q'.length
  len : q'.length = q.length + r.length
  old : ∀ x ∈ q, x ∈ q'
  new : ∀ x ∈ q', x ∈ q ∨ (x.facts ∈ r ∧ x.dist = d)
  all : ∀ p ∈ r, ∃ x ∈ q', x.facts = p ∧ x.dist = d
theorem push_loop {g : Nat} (d : Int) (z : List (List Fact)) : ∀ (r : List (List Fact)) (i nx : Int) (q : List GEntry), Heap q q.length → q.length + r.length < g → q.length + r.length ≤ 800000000 →
    ∃ nx' q', Rg (M_certify_Lower_L1_B g d z) (M_certify_Lower_L1_E g d z) r i (nx, q) = some (.inl (nx', q')) ∧ Pushed d r q q'
  | [], i, nx, q, hh, _, _ => ⟨nx, q, rfl, hh, rfl, fun _ h => h, fun _ h => .inl h, fun p hp => by cases hp⟩
  | p :: r, i, nx, q, hh, hg, hl => by
    rw [List.length_cons] at hg hl
    obtain ⟨q1, e1, e2, e3, e4⟩ := push_eq (g := g) (l := q) { facts := p, dist := d, order := nx } (by omega) (by omega) hh
    obtain ⟨nx', q', f1, f2⟩ := push_loop (g := g) d z r (i + 1) (IntKind.i64.wrap (nx + 1)) q1 e2 (by omega) (by omega)
    rw [Rg, M_certify_Lower_L1_B, ixv]
    show ∃ nx' q', ob1 (M_container_heap_Push g q { facts := p, dist := d, order := nx }) _ = _ ∧ _
    rw [e1, ob1_some]
    refine ⟨nx', q', f1, f2.heap, by rw [f2.len, e3, List.length_cons]; omega, fun x hx => f2.old x ((e4 x).2 (.inl hx)), fun x hx => ?_, fun y hy => ?_⟩
    · rcases f2.new x hx with h | h
      · rcases (e4 x).1 h with h | h
        · exact .inl h
        · subst h; exact .inr ⟨List.mem_cons_self .., rfl⟩
      · exact .inr ⟨List.mem_cons_of_mem _ h.1, h.2⟩
    · rcases List.mem_cons.1 hy with rfl | hy
      · exact ⟨_, f2.old _ ((e4 _).2 (.inr rfl)), rfl, rfl⟩
      · exact f2.all y hy
structure PushO (t : GTask) (b : Int) (p : List Fact) (d : Int) (r : List GOp) (q q' : List GEntry) : Prop where
  heap : Heap q' q'.length
  len : q'.length ≤ q.length + r.length * 1024
  old : ∀ x ∈ q, x ∈ q'
  new : ∀ x ∈ q', x ∈ q ∨ ∃ o ∈ r, Back t b o d x.dist ∧ ∃ l, regO t.Vars o p = some l ∧ x.facts ∈ l
  all : ∀ o ∈ r, ∀ d', Back t b o d d' → ∀ l, regO t.Vars o p = some l → ∀ z ∈ l, ∃ x ∈ q', x.facts = z ∧ x.dist = d'
theorem lops_loop {t : GTask} (ht : ShT t) (hf : Fit t) {b : Int} (hb : b ≤ 1099511627776) {g : Nat} (hg70 : 70 ≤ g) {e : GEntry} (he : EnP t b e.facts e.dist) : ∀ (r : List GOp) (i : Nat) (nx : Int) (q : List GEntry), t.Ops.drop i = r → Heap q q.length → q.length + r.length * 1024 < g → q.length + r.length * 1024 ≤ 800000000 →
    ∃ nx' q', Rg (M_certify_Lower_L2_B t b g e) (M_certify_Lower_L2_E t b g e) r i (nx, q) = some (.inl (nx', q')) ∧ PushO t b e.facts e.dist r q q'
  | [], i, nx, q, _, hh, _, _ => ⟨nx, q, rfl, hh, by simp, fun _ h => h, fun _ h => .inl h, fun o ho => by cases ho⟩
  | o :: r, i, nx, q, hd, hh, hg, hl => by
    obtain ⟨ho, hd', hlt⟩ := drop_cons hd
    have hom := List.mem_of_getElem? ho
    have hc := op_cost hf.good hom
    have h0 := he.d0
    have h1 : 0 ≤ b → e.dist < b := he.d1
    have h2 : b < 0 → e.dist = 0 := he.d2
    rw [List.length_cons, Nat.succ_mul] at hg hl
    have hw : IntKind.i64.wrap (e.dist + o.Cost) = e.dist + o.Cost := w64 (by omega) (by omega)
    have hsel : (sel (decide (b < 0)) (some (.inl 0)) (sel (decide (e.dist + o.Cost ≥ b)) (some (.inr ())) (some (.inl (e.dist + o.Cost)))) : Option (Int ⊕ Unit)) = some (if b < 0 ∨ e.dist + o.Cost < b then .inl (if b < 0 then 0 else e.dist + o.Cost) else .inr ()) := by
      rw [sel_dec, sel_dec]
      by_cases c1 : b < 0
      · rw [if_pos c1, if_pos (Or.inl c1), if_pos c1]
      · rw [if_neg c1]
        by_cases c2 : e.dist + o.Cost ≥ b
        · rw [if_pos c2, if_neg (by omega)]
        · rw [if_neg c2, if_pos (by omega), if_neg c1]
    have hstep : ∀ (nx1 : Int) (q1 : List GEntry), Heap q1 q1.length → q1.length ≤ q.length + 1024 → ∃ nx' q', Rg (M_certify_Lower_L2_B t b g e) (M_certify_Lower_L2_E t b g e) r ((i : Int) + 1) (nx1, q1) = some (.inl (nx', q')) ∧ PushO t b e.facts e.dist r q1 q' := fun nx1 q1 a1 a2 => by
      have := lops_loop ht hf hb hg70 he r (i + 1) nx1 q1 hd' a1 (by omega) (by omega)
      rw [show ((i + 1 : Nat) : Int) = (i : Int) + 1 from rfl] at this
      exact this
    rw [Rg, M_certify_Lower_L2_B, ixv, hw, hsel, ob1_some]
    by_cases hbk : b < 0 ∨ e.dist + o.Cost < b
    · rw [if_pos hbk, osum_inl]
      obtain ⟨l, l1, l2, l3⟩ := regT hf.cap hf.good he.prop hom
      obtain ⟨nx1, q1, p1, p2⟩ := push_loop (g := g) (if b < 0 then 0 else e.dist + o.Cost) l l 0 nx q hh (by omega) (by omega)
      rw [regress_eq t ht hf.good e.facts he.prop g hg70 (i : Int) o (by omega) (by rw [Int.toNat_natCast]; exact ho), l1]
      show ∃ nx' q', ob1 (M_certify_Lower_L1 g (if b < 0 then 0 else e.dist + o.Cost) l ((((l.map cL_cF).length : Int)).toNat + 1) nx 0 q) _ = _ ∧ _
      rw [M_certify_Lower_L1_eq g _ l nx q (by omega), p1, ob1_some, osum_inl]
      obtain ⟨nx', q', r1, r2⟩ := hstep nx1 q1 p2.heap (by rw [p2.len]; omega)
      have hB : Back t b o e.dist (if b < 0 then 0 else e.dist + o.Cost) := ⟨hom, hbk, rfl⟩
      refine ⟨nx', q', r1, r2.heap, by have := r2.len; rw [p2.len] at this; rw [List.length_cons, Nat.succ_mul]; omega, fun x hx => r2.old x (p2.old x hx), fun x hx => ?_, fun u hu d' hbu l' hl' z hz => ?_⟩
      · rcases r2.new x hx with h | ⟨u, hu, h⟩
        · rcases p2.new x h with h | h
          · exact .inl h
          · exact .inr ⟨o, List.mem_cons_self .., by rw [h.2]; exact hB, l, l1, h.1⟩
        · exact .inr ⟨u, List.mem_cons_of_mem _ hu, h⟩
      · rcases List.mem_cons.1 hu with rfl | hu
        · rw [l1] at hl'
          obtain rfl := Option.some.inj hl'
          obtain ⟨x, x1, x2, x3⟩ := p2.all z hz
          exact ⟨x, r2.old x x1, x2, by rw [x3, hbu.2.2]⟩
        · exact r2.all u hu d' hbu l' hl' z hz
    · rw [if_neg hbk, osum_inr, ob1_some, osum_inl]
      obtain ⟨nx', q', r1, r2⟩ := hstep nx q hh (by omega)
      refine ⟨nx', q', r1, r2.heap, Nat.le_trans r2.len (Nat.add_le_add_left (by rw [List.length_cons, Nat.succ_mul]; exact Nat.le_add_right ..) _), r2.old, fun x hx => ?_, fun u hu d' hbu l' hl' z hz => ?_⟩
      · rcases r2.new x hx with h | ⟨u, hu, h⟩
        · exact .inl h
        · exact .inr ⟨u, List.mem_cons_of_mem _ hu, h⟩
      · rcases List.mem_cons.1 hu with rfl | hu
        · exact absurd hbu.2.1 hbk
        · exact r2.all u hu d' hbu l' hl' z hz
theorem pcont_eq (a b : List Fact) (ha : Sh a) (hb : Sh b) (va : vF (-1) a = true) (vb : vF (-1) b = true) : M_p_Contains a b = some (subF b a) := by
  rw [M_p_Contains, valid_eq a ha, va, ob1_some, sel_tt, valid_eq b hb, vb, ob1_some, sel_tt, contains_eq a b ha hb va vb, ob1_some]
theorem ccont_eq {vars : List Int} (hv : vars.length ≤ 64) (p : List Fact) (hp : propF vars (-1) p = true) (ns : List Nogood) (hl : Sh ns) (hn : ∀ n ∈ ns, propF vars (-1) n.1 = true) : M_certify_contains p ns = some (ns.any fun n => subF n.1 p) := by
  have key : ∀ (r : List Nogood) (i : Nat), (∀ n ∈ r, propF vars (-1) n.1 = true) → ∃ z, Rg (M_s_IndexFunc_Nogood_L1_B ns (M_certify_contains_1 p)) (M_s_IndexFunc_Nogood_L1_E ns (M_certify_contains_1 p)) r i () = some z ∧ (0 ≤ z ↔ (r.any fun n => subF n.1 p) = true) := by
    intro r
    induction r with
    | nil => intro n _; exact ⟨-1, rfl, by simp⟩
    | cons y r ih =>
      intro n hr
      have hy := hr y (List.mem_cons_self ..)
      have e1 : M_certify_contains_1 p y = some (subF y.1 p) := by rw [M_certify_contains_1, pcont_eq p y.1 (prop_sh hv hp) (prop_sh hv hy) (propF_vF' hp) (propF_vF' hy), ob1_some]
      rw [Rg]
      simp only [M_s_IndexFunc_Nogood_L1_B, ixv, e1, ob1_some]
      cases hq : subF y.1 p
      · obtain ⟨z, h1, h2⟩ := ih (n + 1) (fun w hw => hr w (List.mem_cons_of_mem _ hw))
        exact ⟨z, h1, by rw [h2, List.any_cons, hq, Bool.false_or]⟩
      · exact ⟨n, rfl, by simp [hq]⟩
  obtain ⟨z, h1, h2⟩ := key ns 0 hn
  rw [M_certify_contains, M_s_ContainsFunc_Nogood, M_s_IndexFunc_Nogood, M_s_IndexFunc_Nogood_L1_eq _ _ hl.lt]
  rw [show ((0 : Nat) : Int) = 0 from rfl] at h1
  rw [h1, ob1_some, ob1_some]
  congr 1
  rw [Bool.eq_iff_iff, decide_eq_true_iff, ge_iff_le, h2]
def Ends (t : GTask) (b lim : Int) (r : GCertificate × Er) : Prop :=
  (r.2 = .nil ∧ r.1.Bound = b ∧ Inv t b [] r.1.Nogoods ∧ (r.1.Nogoods.length : Int) ≤ lim) ∨ (r = ({ Bound := 0, Nogoods := [] }, .no 13) ∧ ∃ p d, EnP t b p d ∧ holdsF t.Init p = true) ∨ (r = ({ Bound := 0, Nogoods := [] }, .no 10) ∧ lim ≤ 1024)
theorem covd_mono {ns : List Nogood} {x : Nogood} {p : List Fact} {d : Int} (h : Covd ns p d) : Covd (ns ++ [x]) p d := by
  obtain ⟨n, h1, h2⟩ := h
  exact ⟨n, List.mem_append_left _ h1, h2⟩
theorem main_loop {g : Nat} (hg : 100000000 ≤ g) {t : GTask} (ht : ShT t) (hf : Fit t) {b : Int} (hb : b ≤ 1099511627776) (a2 : Int) : ∀ (k : Nat) (nx : Int) (q : List GEntry) (ns : List Nogood), Inv t b q ns → (ns.length : Int) ≤ max 0 (min a2 4096) → q.length + (4096 - ns.length) * 10241 < k →
    ∃ r, M_certify_Lower_L3 t b a2 g k nx q ns = some r ∧ Ends t b (max 0 (min a2 4096)) r
  | 0, _, _, _, _, _, h => absurd h (Nat.not_lt_zero _)
  | k + 1, nx, q, ns, hI, hlim, hk => by
    have hns : ns.length ≤ 4096 := by omega
    have hql := hI.qlen
    have hqn : q.length ≤ 50000000 := by omega
    have hv : t.Vars.length ≤ 64 := by have := hf.cap.len; omega
    rw [M_certify_Lower_L3, M_stratagem_certify_entries_Len, ob2_some, grd_t rfl, sel_dec]
    by_cases h0 : ((q.length : Nat) : Int) > 0
    · rw [if_pos h0]
      obtain ⟨e, q', e1, e2, e3, e4, e5⟩ := pop_eq (g := g) (l := q) (by omega) (by omega) (by omega) hI.heap
      have heq : e ∈ q := (e4 e).2 (.inl rfl)
      have hq' : ∀ x ∈ q', x ∈ q := fun x hx => (e4 x).2 (.inr hx)
      have hE := hI.qP e heq
      rw [e1, ob2_some, grd_t (by omega), ccont_eq hv e.facts hE.prop ns (by unfold Sh; omega) (fun n hn => (hI.nP n hn).prop), ob1_some]
      cases hcon : ns.any fun n => subF n.1 e.facts with
      | true =>
        rw [sel_tt]
        obtain ⟨n, hn, hsub⟩ := List.any_eq_true.1 hcon
        refine main_loop hg ht hf hb a2 k nx q' ns ⟨e2, fun x hx => hI.qP x (hq' x hx), hI.nP, hI.nI, hI.sep, fun n hn x hx => hI.below n hn x (hq' x hx), fun p d hN => ?_, by omega⟩ hlim (by omega)
        rcases hI.need p d hN with h | ⟨x, x1, x2, x3⟩
        · exact .inl h
        · rcases (e4 x).1 x1 with rfl | x1
          · exact .inl ⟨n, hn, by rw [← x3]; exact hI.below n hn x heq, by rw [← x2]; exact hsub⟩
          · exact .inr ⟨x, x1, x2, x3⟩
      | false =>
        rw [sel_ff, tholds_eq e.facts t.Init (prop_sh hv hE.prop), ob1_some]
        cases hi : holdsF t.Init e.facts with
        | true =>
          rw [sel_tt]
          exact ⟨_, rfl, .inr (.inl ⟨rfl, e.facts, e.dist, hE, hi⟩)⟩
        | false =>
          rw [sel_ff]
          by_cases hfull : ((ns.length : Nat) : Int) = max 0 (min a2 4096)
          · rw [show (((ns.length : Nat) : Int) == max 0 (min a2 4096)) = true from by rw [beq_iff_eq]; exact hfull, sel_tt]
            exact ⟨_, rfl, .inr (.inr ⟨rfl, by have := hI.len hf; omega⟩)⟩
          · rw [show (((ns.length : Nat) : Int) == max 0 (min a2 4096)) = false from by rw [beq_eq_false_iff_ne]; exact hfull, sel_ff, grd_t (by omega), M_certify_Lower_L2_eq t b g e nx q' (by have := hf.ops; omega)]
            have hops := hf.ops
            obtain ⟨nx', q2, f1, f2⟩ := lops_loop ht hf hb (g := g) (by omega) hE t.Ops 0 nx q' (List.drop_zero ..) e2 (by omega) (by omega)
            rw [show ((0 : Nat) : Int) = 0 from rfl] at f1
            rw [f1, ob1_some, osum_inl]
            have hnew : ∀ x ∈ q2, x ∈ q' ∨ (EnP t b x.facts x.dist ∧ e.dist ≤ x.dist) := fun x hx => by
              rcases f2.new x hx with h | ⟨o, _, hbk, l, l1, l2⟩
              · exact .inl h
              · obtain ⟨l', m1, m2, _⟩ := regT hf.cap hf.good hE.prop hbk.1
                rw [l1] at m1
                obtain rfl := Option.some.inj m1
                refine .inr ⟨back_en hf hE hbk l1 m2 l2, ?_⟩
                have hc := op_cost hf.good hbk.1
                have hd2 := hE.d2
                rw [hbk.2.2]
                split <;> omega
            refine main_loop hg ht hf hb a2 k nx' q2 (ns ++ [(e.facts, e.dist)]) ⟨f2.heap, fun x hx => ?_, fun n hn => ?_, fun n hn => ?_, ?_, fun n hn x hx => ?_, fun p d hN => ?_, ?_⟩ (by rw [List.length_append, List.length_singleton]; omega) ?_
            · rcases hnew x hx with h | h
              · exact hI.qP x (hq' x h)
              · exact h.1
            · rcases List.mem_append.1 hn with hn | hn
              · exact hI.nP n hn
              · rw [List.mem_singleton.1 hn]; exact hE
            · rcases List.mem_append.1 hn with hn | hn
              · exact hI.nI n hn
              · rw [List.mem_singleton.1 hn]; exact hi
            · refine List.pairwise_append.2 ⟨hI.sep, List.pairwise_singleton .., fun x hx y hy => ?_⟩
              rw [List.mem_singleton.1 hy]
              refine ⟨hI.below x hx e heq, ?_⟩
              rw [List.any_eq_false] at hcon
              exact Bool.eq_false_iff.2 (hcon x hx)
            · have hxd : e.dist ≤ x.dist := by
                rcases hnew x hx with h | h
                · have := e5 x (hq' x h); unfold leE at this; omega
                · exact h.2
              rcases List.mem_append.1 hn with hn | hn
              · exact Int.le_trans (hI.below n hn e heq) hxd
              · rw [List.mem_singleton.1 hn]; exact hxd
            · have hold : Need t b ns p d → Covd (ns ++ [(e.facts, e.dist)]) p d ∨ ∃ x ∈ q2, x.facts = p ∧ x.dist = d := fun hN => by
                rcases hI.need p d hN with h | ⟨x, x1, x2, x3⟩
                · exact .inl (covd_mono h)
                · rcases (e4 x).1 x1 with rfl | x1
                  · exact .inl ⟨(x.facts, x.dist), List.mem_append_right _ (List.mem_singleton.2 rfl), by show x.dist ≤ d; omega, by rw [← x2]; exact subF_refl _⟩
                  · exact .inr ⟨x, f2.old x x1, x2, x3⟩
              rcases hN with hN | ⟨n, hn, o, hbk, l, l1, l2⟩
              · exact hold (.inl hN)
              · rcases List.mem_append.1 hn with hn | hn
                · exact hold (.inr ⟨n, hn, o, hbk, l, l1, l2⟩)
                · rw [List.mem_singleton.1 hn] at hbk l1
                  exact .inr (f2.all o hbk.1 d hbk l l1 p l2)
            · have := f2.len
              rw [List.length_append, List.length_singleton]
              omega
            · have := f2.len
              rw [List.length_append, List.length_singleton]
              omega
    · rw [if_neg h0, grd_t (by omega)]
      have : q = [] := List.length_eq_zero_iff.1 (by omega)
      subst this
      exact ⟨_, rfl, .inl ⟨rfl, rfl, hI, hlim⟩⟩
theorem lower_eq {g : Nat} (hg : 100000000 ≤ g) {t : GTask} (ht : ShT t) (hf : Fit t) {b : Int} (h0 : -1 ≤ b) (h1 : b ≤ 1099511627776) (hb : b ≠ 0) (a2 : Int) : ∃ r, M_certify_Lower g t b a2 = some r ∧ Ends t b (max 0 (min a2 4096)) r := by
  have hgp := good_goal hf.good
  have hgl : t.Goal.length ≤ 64 := prop_len (by have := hf.cap.len; omega) hgp
  have hbd : M_certify_bounded b = some true := by
    rw [M_certify_bounded, sel_dec, if_pos (by omega), decide_eq_true (by omega)]
  rw [M_certify_Lower, check_eq t ht, (good_check t).1 hf.good, ob1_some]
  show ∃ r, ob1 (M_certify_bounded b) _ = _ ∧ _
  rw [hbd, ob1_some, Bool.not_true, sel_ff, show (b == 0) = false from by rw [beq_eq_false_iff_ne]; exact hb, sel_ff, M_cloneF, grd_t (by omega), ob1_some, grd_t (by omega)]
  refine main_loop hg ht hf h1 a2 g 1 _ [] ⟨(fun i hi hn => by rw [List.length_singleton] at hn; omega), fun e he => ?_, (fun n hn => by cases hn), (fun n hn => by cases hn), List.Pairwise.nil, (fun n hn => by cases hn), fun p d hN => ?_, by simp⟩ (by simp; omega) (by simp; omega)
  · rw [List.mem_singleton.1 he]
    exact ⟨hgp, Int.le_refl _, fun h => by show (0 : Int) < b; omega, fun _ => rfl, fun s _ hh => .goal hh⟩
  · rcases hN with ⟨rfl, rfl⟩ | ⟨n, hn, _⟩
    · exact .inr ⟨_, List.mem_singleton.2 rfl, rfl, rfl⟩
    · cases hn
end Go.Proofs.YtohjegemooakpaaGreat.Am
namespace Go.Proofs.YtohjegemooakpaaGreat.Am
open Go.RowKit
theorem ci_XDLim {p K : Prop} (k : K) (h : p := by first | rfl | exact ⟨rfl, rfl⟩ | exact BW.fr FrV.h | (refine BW.fr ?_; assumption) | (refine ⟨rfl, ?_⟩; (simp [cGTask, cI, cF, cGOp, cGEffect, cN, take_len_map]; done)) | (refine RowK.same ?_ FrI.h; first | rfl | (simp [cGTask, cI, cF, cGOp, cGEffect, cN, take_len_map]; done)) | (refine row_part1 ?_; (repeat (first | exact BWL.nil | exact bwll_nil | exact bw_c | exact BW.sl | exact BW.nil | exact bwll_same rfl FrI.h | refine BWL.cons ?_ ?_ | refine bwll_cons ?_ ?_ | (refine bw_own3 rfl rfl rfl FrI.h ?_ ?_ ?_) | exact BW.fr FrV.h | exact BW.fr (by assumption) | refine bw_agg ?_ | refine bw_clo ?_ | refine bw_ptr rfl rfl rfl ?_ | (refine bw_own rfl rfl rfl ?_ FrI.h ?_ ?_) | assumption | omega | rfl | (rw [List.length_map, ← List.length_append]; assumption) | (refine bwll_same ?_ FrI.h; (simp [cGTask, cI, cF, cGOp, cGEffect, cN] <;> fail)) | (rw [List.map_set]; refine bwll_set (by first | rfl | omega | simp) ?_ ?_) | refine bwll_set (by first | rfl | omega | simp) ?_ ?_ | (rw [List.map_replicate]; refine bwll_rep ?_) | refine bwll_rep ?_ | (rw [List.map_append]; refine bwll_append ?_ ?_) | refine bwll_append ?_ ?_ | (simp [cGTask, cI, cF, cGOp, cGEffect, cN, take_len_map] <;> fail) | (rw [List.drop_zero, List.take_of_length_le] <;> first | rfl | (simp [cGTask, cI, cF, cGOp, cGEffect, cN] <;> fail)) | (simp; omega) | (simp only [List.length_map, List.length_append, List.drop_zero, List.length_cons, List.length_nil, Nat.zero_add, Nat.add_zero] at *; omega))); done) | ((repeat (first | exact BWL.nil | exact bwll_nil | exact bw_c | exact BW.sl | exact BW.nil | exact bwll_same rfl FrI.h | refine BWL.cons ?_ ?_ | refine bwll_cons ?_ ?_ | (refine bw_own3 rfl rfl rfl FrI.h ?_ ?_ ?_) | exact BW.fr FrV.h | exact BW.fr (by assumption) | refine bw_agg ?_ | refine bw_clo ?_ | refine bw_ptr rfl rfl rfl ?_ | (refine bw_own rfl rfl rfl ?_ FrI.h ?_ ?_) | assumption | omega | rfl | (rw [List.length_map, ← List.length_append]; assumption) | (refine bwll_same ?_ FrI.h; (simp [cGTask, cI, cF, cGOp, cGEffect, cN] <;> fail)) | (rw [List.map_set]; refine bwll_set (by first | rfl | omega | simp) ?_ ?_) | refine bwll_set (by first | rfl | omega | simp) ?_ ?_ | (rw [List.map_replicate]; refine bwll_rep ?_) | refine bwll_rep ?_ | (rw [List.map_append]; refine bwll_append ?_ ?_) | refine bwll_append ?_ ?_ | (simp [cGTask, cI, cF, cGOp, cGEffect, cN, take_len_map] <;> fail) | (rw [List.drop_zero, List.take_of_length_le] <;> first | rfl | (simp [cGTask, cI, cF, cGOp, cGEffect, cN] <;> fail)) | (simp; omega) | (simp only [List.length_map, List.length_append, List.drop_zero, List.length_cons, List.length_nil, Nat.zero_add, Nat.add_zero] at *; omega))); done) | (simp [cGTask, cI, cF, cGOp, cGEffect, cN, take_len_map]; done)) : p ∧ K := ⟨h, k⟩
theorem dr_XDLim {b : Bool} {p K : Prop} (k : K) (h : b = true → p := by intro h; first | (cases h; done) | exact ⟨by kernel_rfl, by kernel_rfl⟩) : (b = true → p) ∧ K := ⟨h, k⟩
theorem cl_XDLim {C : Cx} {n : Nat} {o : Oper} {τ : Nat → AV} {η : Nat → Ent} {f : FuncId} {os : Array Operand} {ats : Array TypeId} {r : AV} {args : List AV} {K : Foot → Prop} (ho : o.op = .call ⟨.value (.func f), os, ats⟩) (hc : ACall C f args r) (k : K ⟨r, [], []⟩)
    (hd : InB n o.dst := by exact Nat.le_of_ble_eq_true rfl) (hargs : os.toList.map (evA τ) = args := by first | rfl | (simp [cGTask, cI, cF, cGOp, cGEffect, cN]; done) | (repeat (first | exact rfl | refine cons_eq ?_ ?_ | exact sl_dt rfl))) (hfr : frs args := by repeat (first | exact trivial | exact fr1_eA _ | exact fr0_eA _ | exact fr1_fr (by assumption) | exact FrV.h | refine And.intro ?_ ?_)) (hr : fr1 r := by repeat (first | exact trivial | exact fr1_eA _ | exact fr0_eA _ | exact fr1_fr (by assumption) | exact FrV.h | refine And.intro ?_ ?_)) : ∃ f : Foot, LF C n o τ η f ∧ K f := ⟨_, lf_call ho hd hargs hc hfr hr, k⟩
def M_l32_fit (a0 : GTask) : Option (Bool) :=
  ob1 (M_b_Tame a0) (fun z1 =>
   sel z1
    (sel (decide (((a0.Ops.map cGOp).length : Int) ≤ 10))
      (ob1 (M_b_Many a0.Vars 81) (fun z2 =>
        some (decide (z2 ≤ 81))))
      (some false))
    (some false))
set_option maxHeartbeats 16000000 in
set_option maxRecDepth 100000 in
theorem A_l32_fit (a0 : GTask) {r1 : Bool} (h : M_l32_fit a0 = some r1) : ACall cx 11 [.agg [.sl 1 (a0.Vars.map cI), .sl 1 (a0.Init.map cI), .sl 2 (a0.Goal.map cF), .sl 4 (a0.Ops.map cGOp)]] (.c (.bool r1)) := by
  refine aOf Tryz.func11 rfl (by decide) rfl (Nat.le_of_ble_eq_true rfl) ?_; intro _; unfold M_l32_fit at h; refine aSR ?_; intro _; refine dr_XDLim ?_; refine aSR ?_; intro _; obtain ⟨z1, u1, h⟩ := ob1_ok h; refine cl_XDLim rfl (A_b_Tame a0 u1) ?_; intro _; refine spl h (fun c2 h => ?_) (fun c2 h => ?_)
  · intro _; refine spl h (fun c3 h => ?_) (fun c3 h => ?_)
    · intro _; obtain ⟨z2, u4, h⟩ := ob1_ok h; refine cl_XDLim rfl (A_b_Many a0.Vars 81 u4) ?_; intro _; refine dr_XDLim ?_; refine aRt ?_; intro _; obtain rfl := inj1 h; repeat (first | exact True.intro | refine ci_XDLim ?_)
    · intro _; refine dr_XDLim ?_; refine aRt ?_; intro _; obtain rfl := inj1 h; repeat (first | exact True.intro | refine ci_XDLim ?_)
  · intro _; refine dr_XDLim ?_; refine aRt ?_; intro _; obtain rfl := inj1 h; repeat (first | exact True.intro | refine ci_XDLim ?_)
end Go.Proofs.YtohjegemooakpaaGreat.Am
namespace Go.Proofs.YtohjegemooakpaaGreat.Am
end Go.Proofs.YtohjegemooakpaaGreat.Am
namespace Go.Proofs.YtohjegemooakpaaGreat.Am
open Go.RowKit
theorem fit_eq (t : GTask) (ht : ShT t) : M_l32_fit t = some (fitF t) := by
  rw [M_l32_fit, tame_eq t ht, ob1_some, fitF]
  cases tameF t with
  | false => rfl
  | true =>
    rw [sel_tt, sel_dec, List.length_map, Bool.true_and]
    by_cases h : t.Ops.length ≤ 10
    · rw [if_pos (by omega), many_eq _ ht.vars 81 (by omega), ob1_some, decide_eq_true h, Bool.true_and]
    · rw [if_neg (by omega), decide_eq_false h, Bool.false_and]
theorem prop_frm {vars : List Int} (hl : vars.length ≤ 64) (hd : ∀ n ∈ vars, n ≤ 64) : ∀ {p : List Fact} {last : Int}, propF vars last p = true → limF p = true
  | [], _, _ => rfl
  | y :: r, last, h => by
    rw [propF, Bool.and_eq_true, decide_eq_true_iff] at h
    rw [limF, List.all_cons, Bool.and_eq_true, decide_eq_true_iff]
    have hi := prop_frm hl hd h.2
    refine ⟨⟨by omega, ?_⟩, hi⟩
    have hlt : y.1.toNat < vars.length := by
      refine Nat.lt_of_not_le fun hge => ?_
      have : vars.getD y.1.toNat 0 = 0 := by rw [List.getD_eq_getElem?_getD, List.getElem?_eq_none hge]; rfl
      omega
    have hm : vars.getD y.1.toNat 0 ∈ vars := by
      rw [List.getD_eq_getElem?_getD, List.getElem?_eq_getElem hlt]
      exact List.getElem_mem hlt
    have := hd _ hm
    omega
end Go.Proofs.YtohjegemooakpaaGreat.Am
namespace Go.Proofs.YtohjegemooakpaaGreat.Am
set_option maxHeartbeats 16000000
set_option maxRecDepth 100000
open Go.RowKit
structure GEdge where
  From : Int
  Op : Int
  To : Int
  deriving DecidableEq
def cGEdge (x : GEdge) : List AV := [.c (.int .i64 x.From), .c (.int .i64 x.Op), .c (.int .i64 x.To)]
theorem fr_cGEdge (x : GEdge) : ∀ y ∈ cGEdge x, Fr y := FrC_cons (.c _) (FrC_cons (.c _) (FrC_cons (.c _) (FrC_nil)))
theorem frl_cGEdge (l : List GEdge) : FrL (l.map cGEdge) := FrL_map (fun x _ => fr_cGEdge x)
instance {l : List GEdge} : FrI (l.map cGEdge) := ⟨frl_cGEdge l⟩
theorem ci_XDEx {p K : Prop} (k : K) (h : p := by first | rfl | exact ⟨rfl, rfl⟩ | exact BW.fr FrV.h | (refine BW.fr ?_; assumption) | (refine ⟨rfl, ?_⟩; (simp [cGTask, cI, cF, cGOp, cGEffect, cL_cI, cGEdge, cN, take_len_map]; done)) | (refine RowK.same ?_ FrI.h; first | rfl | (simp [cGTask, cI, cF, cGOp, cGEffect, cL_cI, cGEdge, cN, take_len_map]; done)) | (refine row_part1 ?_; (repeat (first | exact BWL.nil | exact bwll_nil | exact bw_c | exact BW.sl | exact BW.nil | exact bwll_same rfl FrI.h | refine BWL.cons ?_ ?_ | refine bwll_cons ?_ ?_ | (refine bw_own3 rfl rfl rfl FrI.h ?_ ?_ ?_) | exact BW.fr FrV.h | exact BW.fr (by assumption) | refine bw_agg ?_ | refine bw_clo ?_ | refine bw_ptr rfl rfl rfl ?_ | (refine bw_own rfl rfl rfl ?_ FrI.h ?_ ?_) | assumption | omega | rfl | (rw [List.length_map, ← List.length_append]; assumption) | (refine bwll_same ?_ FrI.h; (simp [cGTask, cI, cF, cGOp, cGEffect, cL_cI, cGEdge, cN] <;> fail)) | (rw [List.map_set]; refine bwll_set (by first | rfl | omega | simp) ?_ ?_) | refine bwll_set (by first | rfl | omega | simp) ?_ ?_ | (rw [List.map_replicate]; refine bwll_rep ?_) | refine bwll_rep ?_ | (rw [List.map_append]; refine bwll_append ?_ ?_) | refine bwll_append ?_ ?_ | (simp [cGTask, cI, cF, cGOp, cGEffect, cL_cI, cGEdge, cN, take_len_map] <;> fail) | (rw [List.drop_zero, List.take_of_length_le] <;> first | rfl | (simp [cGTask, cI, cF, cGOp, cGEffect, cL_cI, cGEdge, cN] <;> fail)) | (simp; omega) | (simp only [List.length_map, List.length_append, List.drop_zero, List.length_cons, List.length_nil, Nat.zero_add, Nat.add_zero] at *; omega))); done) | ((repeat (first | exact BWL.nil | exact bwll_nil | exact bw_c | exact BW.sl | exact BW.nil | exact bwll_same rfl FrI.h | refine BWL.cons ?_ ?_ | refine bwll_cons ?_ ?_ | (refine bw_own3 rfl rfl rfl FrI.h ?_ ?_ ?_) | exact BW.fr FrV.h | exact BW.fr (by assumption) | refine bw_agg ?_ | refine bw_clo ?_ | refine bw_ptr rfl rfl rfl ?_ | (refine bw_own rfl rfl rfl ?_ FrI.h ?_ ?_) | assumption | omega | rfl | (rw [List.length_map, ← List.length_append]; assumption) | (refine bwll_same ?_ FrI.h; (simp [cGTask, cI, cF, cGOp, cGEffect, cL_cI, cGEdge, cN] <;> fail)) | (rw [List.map_set]; refine bwll_set (by first | rfl | omega | simp) ?_ ?_) | refine bwll_set (by first | rfl | omega | simp) ?_ ?_ | (rw [List.map_replicate]; refine bwll_rep ?_) | refine bwll_rep ?_ | (rw [List.map_append]; refine bwll_append ?_ ?_) | refine bwll_append ?_ ?_ | (simp [cGTask, cI, cF, cGOp, cGEffect, cL_cI, cGEdge, cN, take_len_map] <;> fail) | (rw [List.drop_zero, List.take_of_length_le] <;> first | rfl | (simp [cGTask, cI, cF, cGOp, cGEffect, cL_cI, cGEdge, cN] <;> fail)) | (simp; omega) | (simp only [List.length_map, List.length_append, List.drop_zero, List.length_cons, List.length_nil, Nat.zero_add, Nat.add_zero] at *; omega))); done) | (simp [cGTask, cI, cF, cGOp, cGEffect, cL_cI, cGEdge, cN, take_len_map]; done)) : p ∧ K := ⟨h, k⟩
theorem ca_XDEx {P : Prop} (h : P := by repeat (first | exact True.intro | refine ci_XDEx ?_)) : P := h
theorem pr_XDEx {p K : Prop} (k : K) (h : p := by first | assumption | exact Int.natCast_nonneg _ | exact Nat.le_refl _ | exact Nat.zero_le _ | omega | (simp; done) | (simp; omega)) : p ∧ K := ⟨h, k⟩
theorem pl_XDEx {p K : Prop} (k : K) (h : p := by first | rfl | exact List.length_map _ | (simp; done) | (simp; omega)) : p ∧ K := ⟨h, k⟩
theorem pe_XDEx {p K : Prop} (k : K) (h : p := by first | omega | (simp; omega) | (simp only [List.length_map, List.length_cons, List.length_nil, List.length_append]; omega) | (simp only [List.length_map, List.drop_zero, List.length_cons, List.length_nil, Nat.zero_add, Nat.add_zero] at *; omega)) : p ∧ K := ⟨h, k⟩
theorem dr_XDEx {b : Bool} {p K : Prop} (k : K) (h : b = true → p := by intro h; first | (cases h; done) | exact ⟨by kernel_rfl, by kernel_rfl⟩) : (b = true → p) ∧ K := ⟨h, k⟩
theorem cl_XDEx {C : Cx} {n : Nat} {o : Oper} {τ : Nat → AV} {η : Nat → Ent} {f : FuncId} {os : Array Operand} {ats : Array TypeId} {r : AV} {args : List AV} {K : Foot → Prop} (ho : o.op = .call ⟨.value (.func f), os, ats⟩) (hc : ACall C f args r) (k : K ⟨r, [], []⟩)
    (hd : InB n o.dst := by exact Nat.le_of_ble_eq_true rfl) (hargs : os.toList.map (evA τ) = args := by first | rfl | (simp [cGTask, cI, cF, cGOp, cGEffect, cL_cI, cGEdge, cN]; done) | (repeat (first | exact rfl | refine cons_eq ?_ ?_ | exact sl_dt rfl))) (hfr : frs args := by repeat (first | exact trivial | exact fr1_eA _ | exact fr0_eA _ | exact fr1_fr (by assumption) | exact FrV.h | refine And.intro ?_ ?_)) (hr : fr1 r := by repeat (first | exact trivial | exact fr1_eA _ | exact fr0_eA _ | exact fr1_fr (by assumption) | exact FrV.h | refine And.intro ?_ ?_)) : ∃ f : Foot, LF C n o τ η f ∧ K f := ⟨_, lf_call ho hd hargs hc hfr hr, k⟩
def M_b_Rank_L1 (a0 : List Int) (a1 : List Int) : Nat → Int → Int → Option (Int)
  | 0, _, _ => none
  | k9 + 1, v7, v8 =>
    sel (decide (v8 < ((a1.map cI).length : Int)))
     (ix a0 v8 (fun y10 =>
       ix a1 v8 (fun y11 =>
        M_b_Rank_L1 a0 a1 k9 (IntKind.i64.wrap ((IntKind.i64.wrap (v7 * y10)) + y11)) (IntKind.i64.wrap (v8 + 1)))))
     (some v7)
def M_b_Rank (a0 : List Int) (a1 : List Int) : Option (Int) :=
  M_b_Rank_L1 a0 a1 ((((a1.map cI).length : Int)).toNat + 1) 0 0
theorem A_b_Rank (a0 : List Int) (a1 : List Int) {r1 : Int} (h : M_b_Rank a0 a1 = some r1) : ACall cx 55 [.sl 1 (a0.map cI), .sl 1 (a1.map cI)] (.c (.int .i64 r1)) := by
  refine aOf Tryz.func55 rfl (by decide) rfl (Nat.le_of_ble_eq_true rfl) ?_; intro _; unfold M_b_Rank at h; refine aSR ?_; intro _; refine dr_XDEx ?_; refine aSR ?_; intro _; refine dr_XDEx ?_; refine aSq ?_; refine aSR ?_; intro _; refine dr_XDEx ?_; refine aBk ?_; refine awp_loop (α := Nat × Int × Int) (fun x => mkS 25 [(0, .sl 1 (a0.map cI)), (1, .sl 1 (a1.map cI)), (5, .c (.int .i64 x.2.1)), (8, .c (.int .i64 ((a1.map cI).length : Int))), (9, .c (.int .i64 x.2.2))] []) (fun x => M_b_Rank_L1 a0 a1 x.1 x.2.1 x.2.2 = some r1) (fun x => x.1) ((((a1.map cI).length : Int)).toNat + 1, 0, 0) h ?_ ?_
  · exact ca_XDEx
  · intro x1 h; intro _; obtain ⟨k9, m2, h⟩ := succ_of (f := fun n => M_b_Rank_L1 a0 a1 n x1.2.1 x1.2.2) rfl h; replace h : M_b_Rank_L1 a0 a1 (k9 + 1) x1.2.1 x1.2.2 = some r1 := h; rw [M_b_Rank_L1] at h; refine aSR ?_; intro _; refine dr_XDEx ?_; refine aSq ?_; refine aCd ?_; intro _; refine spl h (fun c3 h => ?_) (fun c3 h => ?_)
    · refine aSk ?_; refine aSq ?_; refine aBk ?_; refine aSR ?_; intro _; refine dr_XDEx ?_; refine aRg ?_; intro _; obtain ⟨y10, w4, q5, h⟩ := ix_ok h; refine Exists.intro (cI y10) (And.intro (map_at' w4) ?_); intro _; obtain ⟨y11, w6, q7, h⟩ := ix_ok h; refine Exists.intro (cI y11) (And.intro (map_at' w6) ?_); intro _; refine pr_XDEx ?_; refine pr_XDEx ?_; refine dr_XDEx ?_; refine aRg ?_; intro _; refine dr_XDEx ?_; refine ⟨(k9, (IntKind.i64.wrap ((IntKind.i64.wrap (x1.2.1 * y10)) + y11)), (IntKind.i64.wrap (x1.2.2 + 1))), h, ltS m2, ?_⟩; exact ca_XDEx
    · refine aEx ?_; refine aSR ?_; intro _; refine dr_XDEx ?_; refine aRt ?_; intro _; obtain rfl := inj1 h; exact ca_XDEx
def M_b_Edges_L1 (a0 : GTask) (v68 : Int) (y88 : List Int) : Nat → Int → (List GEdge) → Option (List GEdge)
  | 0, _, _ => none
  | k99 + 1, v97, v98 =>
    sel (decide (v97 < ((a0.Ops.map cGOp).length : Int)))
     (ob2 (M_b_Apply a0 y88 v97) (fun z100 z101 =>
       sel z101
        (ob1 (M_b_Rank a0.Vars z100) (fun z102 =>
          grd ((v98.length + 1) * 24 ≤ 140737488355328) (M_b_Edges_L1 a0 v68 y88 k99 (IntKind.i64.wrap (v97 + 1)) (v98 ++ [{ From := v68, Op := v97, To := z102 : GEdge }]))))
        (M_b_Edges_L1 a0 v68 y88 k99 (IntKind.i64.wrap (v97 + 1)) v98)))
     (some v98)
def M_b_Edges_L2 (a0 : GTask) (z1 : List (List Int)) : Nat → Int → (List GEdge) → Option (List GEdge)
  | 0, _, _ => none
  | k70 + 1, v68, v69 =>
    sel (decide (v68 < ((z1.map cL_cI).length : Int)))
     (ob1 (ix z1 v68 (fun y88 =>
        M_b_Edges_L1 a0 v68 y88 ((((a0.Ops.map cGOp).length : Int)).toNat + 1) 0 v69) : Option (List GEdge))
       (fun v86 => M_b_Edges_L2 a0 z1 k70 (IntKind.i64.wrap (v68 + 1)) v86))
     (grd (v69.length ≤ 140737488355328) (some v69))
def M_b_Edges (a0 : GTask) : Option (List GEdge) :=
  ob1 (M_b_States a0.Vars) (fun z1 =>
   M_b_Edges_L2 a0 z1 ((((z1.map cL_cI).length : Int)).toNat + 1) 0 [])
theorem A_b_Edges (a0 : GTask) {r1 : List GEdge} (h : M_b_Edges a0 = some r1) : ACall cx 46 [.agg [.sl 1 (a0.Vars.map cI), .sl 1 (a0.Init.map cI), .sl 2 (a0.Goal.map cF), .sl 4 (a0.Ops.map cGOp)]] (.sl 3 (r1.map cGEdge)) := by
  refine aOf Tryz.func46 rfl (by decide) rfl (Nat.le_of_ble_eq_true rfl) ?_; intro _; unfold M_b_Edges at h; refine aSR ?_; intro _; refine dr_XDEx ?_; refine aSR ?_; intro _; refine dr_XDEx ?_; refine aSq ?_; refine aSR ?_; intro _; obtain ⟨z1, u1, h⟩ := ob1_ok h; refine cl_XDEx rfl (A_b_States a0.Vars u1) ?_; intro _; refine dr_XDEx ?_; refine aBk ?_; refine awp_loop (α := Nat × Int × (List GEdge)) (fun x => mkS 45 [(1, .ptr 1 0 0 0), (3, .own 41 0 0 x.2.2.length), (11, .sl 1 (z1.map cL_cI)), (12, .c (.int .i64 ((z1.map cL_cI).length : Int))), (13, .c (.int .i64 x.2.1))] [(1, ⟨26, 4, true, [[.sl 1 (a0.Vars.map cI), .sl 1 (a0.Init.map cI), .sl 2 (a0.Goal.map cF), .sl 4 (a0.Ops.map cGOp)]]⟩), (41, ⟨93, 3, false, x.2.2.map cGEdge⟩)]) (fun x => M_b_Edges_L2 a0 z1 x.1 x.2.1 x.2.2 = some r1) (fun x => x.1) ((((z1.map cL_cI).length : Int)).toNat + 1, 0, []) h ?_ ?_
  · exact ca_XDEx
  · intro x2 h; intro _; obtain ⟨k70, m3, h⟩ := succ_of (f := fun n => M_b_Edges_L2 a0 z1 n x2.2.1 x2.2.2) rfl h; replace h : M_b_Edges_L2 a0 z1 (k70 + 1) x2.2.1 x2.2.2 = some r1 := h; rw [M_b_Edges_L2] at h; refine aSR ?_; intro _; refine dr_XDEx ?_; refine aSq ?_; refine aCd ?_; intro _; refine spl h (fun c4 h => ?_) (fun c4 h => ?_)
    · refine aSk ?_; obtain ⟨o5, h, hK6⟩ := ob1_ok h; refine awp_cut (α := List GEdge) (fun v86 => mkS 45 [(1, .ptr 1 0 0 0), (3, .own 41 0 0 v86.length), (11, .sl 1 (z1.map cL_cI)), (12, .c (.int .i64 ((z1.map cL_cI).length : Int))), (13, .c (.int .i64 x2.2.1))] [(1, ⟨26, 4, true, [[.sl 1 (a0.Vars.map cI), .sl 1 (a0.Init.map cI), .sl 2 (a0.Goal.map cF), .sl 4 (a0.Ops.map cGOp)]]⟩), (41, ⟨93, 3, false, v86.map cGEdge⟩)]) (fun v => o5 = v) ?_ ?_
      · refine aBk ?_; refine aSR ?_; intro _; obtain ⟨y88, w7, q8, h⟩ := ix_ok h; refine Exists.intro (cL_cI y88) (And.intro (map_at' w7) ?_); intro _; refine pr_XDEx ?_; refine dr_XDEx ?_; refine aSR ?_; intro _; refine dr_XDEx ?_; refine aBk ?_; refine awp_loop (α := Nat × Int × (List GEdge)) (fun x => mkS 45 [(1, .ptr 1 0 0 0), (3, .own 41 0 0 x.2.2.length), (4, .c (.int .i64 x2.2.1)), (5, .sl 1 (y88.map cI)), (11, .sl 1 (z1.map cL_cI)), (12, .c (.int .i64 ((z1.map cL_cI).length : Int))), (13, .c (.int .i64 x2.2.1)), (20, .c (.int .i64 ((a0.Ops.map cGOp).length : Int))), (21, .c (.int .i64 x.2.1))] [(1, ⟨26, 4, true, [[.sl 1 (a0.Vars.map cI), .sl 1 (a0.Init.map cI), .sl 2 (a0.Goal.map cF), .sl 4 (a0.Ops.map cGOp)]]⟩), (41, ⟨93, 3, false, x.2.2.map cGEdge⟩)]) (fun x => M_b_Edges_L1 a0 x2.2.1 y88 x.1 x.2.1 x.2.2 = some o5) (fun x => x.1) ((((a0.Ops.map cGOp).length : Int)).toNat + 1, 0, x2.2.2) h ?_ ?_
        · exact ca_XDEx
        · intro x9 h; intro _; obtain ⟨k99, m10, h⟩ := succ_of (f := fun n => M_b_Edges_L1 a0 x2.2.1 y88 n x9.2.1 x9.2.2) rfl h; replace h : M_b_Edges_L1 a0 x2.2.1 y88 (k99 + 1) x9.2.1 x9.2.2 = some o5 := h; rw [M_b_Edges_L1] at h; refine aSR ?_; intro _; refine dr_XDEx ?_; refine aSq ?_; refine aCd ?_; intro _; refine spl h (fun c11 h => ?_) (fun c11 h => ?_)
          · refine aSk ?_; refine aSq ?_; refine aBk ?_; refine aSR ?_; intro _; refine dr_XDEx ?_; refine aSR ?_; intro _; obtain ⟨z100, z101, u12, h⟩ := ob2_ok h; refine cl_XDEx rfl (A_b_Apply a0 y88 x9.2.1 u12) ?_; intro _; refine dr_XDEx ?_; refine aSR ?_; intro _; refine dr_XDEx ?_; refine aCd ?_; intro _; refine spl h (fun c13 h => ?_) (fun c13 h => ?_)
            · refine aRg ?_; intro _; obtain ⟨z102, u14, h⟩ := ob1_ok h; refine cl_XDEx rfl (A_b_Rank a0.Vars z100 u14) ?_; intro _; obtain ⟨q15, h⟩ := grd_ok h; refine pl_XDEx ?_; refine pl_XDEx ?_; refine And.intro (by first | with_reducible assumption | (show (x9.2.2.length + 1) * 24 ≤ 140737488355328; with_reducible assumption) | omega | (simp; omega)) ?_; refine pe_XDEx ?_; refine dr_XDEx ?_; refine aRg ?_; intro _; refine dr_XDEx ?_; refine ⟨(k99, (IntKind.i64.wrap (x9.2.1 + 1)), (x9.2.2 ++ [{ From := x2.2.1, Op := x9.2.1, To := z102 : GEdge }])), h, ltS m10, ?_⟩; exact ca_XDEx
            · refine aSk ?_; refine aRg ?_; intro _; refine dr_XDEx ?_; refine ⟨(k99, (IntKind.i64.wrap (x9.2.1 + 1)), x9.2.2), h, ltS m10, ?_⟩; exact ca_XDEx
          · refine aEx ?_; refine ⟨x9.2.2, (Option.some.inj h).symm, ?_⟩; exact ca_XDEx
      · rintro v86 ho; have ho := ho.symm; subst ho; intro _; replace h := hK6; refine aRg ?_; intro _; refine dr_XDEx ?_; refine ⟨(k70, (IntKind.i64.wrap (x2.2.1 + 1)), v86), h, ltS m3, ?_⟩; exact ca_XDEx
    · refine aEx ?_; refine aSR ?_; intro _; refine dr_XDEx ?_; refine aRt ?_; obtain ⟨q16, h⟩ := grd_ok h; intro _; obtain rfl := inj1 h; exact ca_XDEx
def M_b_Distances_L1 (a0 : GTask) (z1 : List (List Int)) : Nat → Int → (List Int) → Option (List Int)
  | 0, _, _ => none
  | k33 + 1, v31, v32 =>
    sel (decide (v31 < ((z1.map cL_cI).length : Int)))
     (ix z1 v31 (fun y34 =>
       ixn v32 ((v31).toNat) (fun _ =>
        grd (v31 < ((v32.length : Nat) : Int)) (ob1 (M_b_Holds a0.Goal y34) (fun z36 =>
         sel z36
          (ixn (v32.set ((v31).toNat) 1125899906842624) ((v31).toNat) (fun _ =>
            M_b_Distances_L1 a0 z1 k33 (IntKind.i64.wrap (v31 + 1)) ((v32.set ((v31).toNat) 1125899906842624).set ((v31).toNat) 0)))
          (M_b_Distances_L1 a0 z1 k33 (IntKind.i64.wrap (v31 + 1)) (v32.set ((v31).toNat) 1125899906842624)))))))
     (some v32)
def M_b_Distances_L2 (a0 : GTask) (z38 : List GEdge) : Nat → Bool → Int → (List Int) → Option (Bool × (List Int))
  | 0, _, _, _ => none
  | k315 + 1, v312, v313, v314 =>
    sel (decide (v313 < ((z38.map cGEdge).length : Int)))
     (ix z38 v313 (fun y316 =>
       ix a0.Ops y316.Op (fun y317 =>
        ob1 (some () : Option (Unit))
         (fun _ => ob1 (ixn v314 ((y316.To).toNat) (fun y324 =>
             sel (decide (y324 < 1125899906842624))
              (ixn v314 ((y316.To).toNat) (fun y325 =>
                ixn v314 ((y316.From).toNat) (fun y326 =>
                 grd (0 ≤ y316.To) (grd (y316.To < ((v314.length : Nat) : Int)) (grd (0 ≤ y316.From) (grd (y316.From < ((v314.length : Nat) : Int)) (some (decide ((IntKind.i64.wrap (y325 + y317.Cost)) < y326)))))))))
              (grd (0 ≤ y316.To) (grd (y316.To < ((v314.length : Nat) : Int)) (some false)))) : Option (Bool))
            (fun v322 => sel v322
               (ixn v314 ((y316.To).toNat) (fun y327 =>
                 ixn v314 ((y316.From).toNat) (fun _ =>
                  grd (0 ≤ y316.To) (grd (y316.To < ((v314.length : Nat) : Int)) (grd (0 ≤ y316.From) (grd (y316.From < ((v314.length : Nat) : Int)) (M_b_Distances_L2 a0 z38 k315 true (IntKind.i64.wrap (v313 + 1)) (v314.set ((y316.From).toNat) (IntKind.i64.wrap (y327 + y317.Cost))))))))))
               (M_b_Distances_L2 a0 z38 k315 v312 (IntKind.i64.wrap (v313 + 1)) v314))))))
     (some (v312, v314))
def M_b_Distances_L3 (a0 : GTask) (z38 : List GEdge) : Nat → Bool → (List Int) → Option (List Int)
  | 0, _, _ => none
  | k233 + 1, v231, v232 =>
    sel v231
     (ob1 (M_b_Distances_L2 a0 z38 ((((z38.map cGEdge).length : Int)).toNat + 1) false 0 v232 : Option (Bool × (List Int)))
       (fun (v280, v281) => M_b_Distances_L3 a0 z38 k233 v280 v281))
     (grd (v232.length ≤ 140737488355328) (some v232))
def M_b_Distances (g : Nat) (a0 : GTask) (_ : List Int) : Option (List Int) :=
  ob1 (M_b_States a0.Vars) (fun z1 =>
   grd (0 ≤ ((z1.map cL_cI).length : Int)) (grd (((z1.map cL_cI).length : Int) * 8 ≤ 281474976710656) (ob1 (M_b_Distances_L1 a0 z1 ((((z1.map cL_cI).length : Int)).toNat + 1) 0 (List.replicate ((z1.map cL_cI).length : Int).toNat 0) : Option (List Int))
    (fun v19 => ob1 (M_b_Edges a0) (fun z38 =>
       M_b_Distances_L3 a0 z38 g true v19)))))
theorem A_b_Distances (g : Nat) (a0 : GTask) (a1 : List Int) {r1 : List Int} (h : M_b_Distances g a0 a1 = some r1) : ACall cx 14 [.agg [.sl 1 (a0.Vars.map cI), .sl 1 (a0.Init.map cI), .sl 2 (a0.Goal.map cF), .sl 4 (a0.Ops.map cGOp)], .c (.slice none 0 0)] (.sl 1 (r1.map cI)) := by
  refine aOf Tryz.func14 rfl (by decide) rfl (Nat.le_of_ble_eq_true rfl) ?_; intro _; unfold M_b_Distances at h; refine aSR ?_; intro _; refine dr_XDEx ?_; refine aSR ?_; intro _; obtain ⟨z1, u1, h⟩ := ob1_ok h; refine cl_XDEx rfl (A_b_States a0.Vars u1) ?_; intro _; refine dr_XDEx ?_; refine aSR ?_; intro _; obtain ⟨q2, h⟩ := grd_ok h; obtain ⟨q3, h⟩ := grd_ok h; refine ⟨_, lf_make rfl rfl (Nat.le_of_ble_eq_true rfl) (tyTab_ok 22 _ rfl) rfl (tyTab_ok 3 _ rfl) rfl rfl rfl (by first | assumption | omega) (by first | assumption | (show _ * (8 : Int) ≤ _; omega) | omega) (by omega) rfl (by simp only [Value.cells]; simp [Value.oneCell']) (by decide), ?_⟩; intro _; refine dr_XDEx ?_; obtain ⟨o4, h, hK5⟩ := ob1_ok h; refine awp_cut (α := List Int) (fun v19 => mkS 95 [(1, .c (.slice none 0 0)), (2, .ptr 2 0 0 0), (6, .own 19 0 0 v19.length)] [(2, ⟨26, 4, true, [[.sl 1 (a0.Vars.map cI), .sl 1 (a0.Init.map cI), .sl 2 (a0.Goal.map cF), .sl 4 (a0.Ops.map cGOp)]]⟩), (19, ⟨3, 1, false, v19.map cI⟩)]) (fun v => o4 = v) ?_ ?_
  · refine aSR ?_; intro _; refine dr_XDEx ?_; refine aBk ?_; refine awp_loop (α := Nat × Int × (List Int)) (fun x => mkS 95 [(1, .c (.slice none 0 0)), (2, .ptr 2 0 0 0), (6, .own 19 0 0 x.2.2.length), (20, .sl 1 (z1.map cL_cI)), (21, .c (.int .i64 ((z1.map cL_cI).length : Int))), (22, .c (.int .i64 x.2.1))] [(2, ⟨26, 4, true, [[.sl 1 (a0.Vars.map cI), .sl 1 (a0.Init.map cI), .sl 2 (a0.Goal.map cF), .sl 4 (a0.Ops.map cGOp)]]⟩), (19, ⟨3, 1, false, x.2.2.map cI⟩)]) (fun x => M_b_Distances_L1 a0 z1 x.1 x.2.1 x.2.2 = some o4) (fun x => x.1) ((((z1.map cL_cI).length : Int)).toNat + 1, 0, (List.replicate ((z1.map cL_cI).length : Int).toNat 0)) h ?_ ?_
    · exact ca_XDEx
    · intro x6 h; intro _; obtain ⟨k33, m7, h⟩ := succ_of (f := fun n => M_b_Distances_L1 a0 z1 n x6.2.1 x6.2.2) rfl h; replace h : M_b_Distances_L1 a0 z1 (k33 + 1) x6.2.1 x6.2.2 = some o4 := h; rw [M_b_Distances_L1] at h; refine aSR ?_; intro _; refine dr_XDEx ?_; refine aSq ?_; refine aCd ?_; intro _; refine spl h (fun c8 h => ?_) (fun c8 h => ?_)
      · refine aSk ?_; refine aSq ?_; refine aBk ?_; refine aSR ?_; intro _; obtain ⟨y34, w9, q10, h⟩ := ix_ok h; refine Exists.intro (cL_cI y34) (And.intro (map_at' w9) ?_); intro _; refine pr_XDEx ?_; refine dr_XDEx ?_; refine aSR ?_; intro _; obtain ⟨y35, w11, h⟩ := ixn_ok h; refine Exists.intro (cI y35) (And.intro (by first | exact map_at' w11 | (have w := map_at' (f := cI) w11; simpa [cI] using w)) ?_); intro _; obtain ⟨q12, h⟩ := grd_ok h; refine pr_XDEx ?_; refine pr_XDEx ?_; refine dr_XDEx ?_; refine aSR ?_; intro _; obtain ⟨z36, u13, h⟩ := ob1_ok h; refine cl_XDEx rfl (A_b_Holds a0.Goal y34 u13) ?_; intro _; refine dr_XDEx ?_; refine aCd ?_; intro _; refine spl h (fun c14 h => ?_) (fun c14 h => ?_)
        · refine aRg ?_; intro _; obtain ⟨y37, w15, h⟩ := ixn_ok h; refine Exists.intro (cI y37) (And.intro (by first | exact map_at' w15 | (have w := map_at' (f := cI) w15; simpa [cI] using w)) ?_); intro _; refine pr_XDEx ?_; refine pr_XDEx ?_; refine dr_XDEx ?_; refine aRg ?_; intro _; refine dr_XDEx ?_; refine ⟨(k33, (IntKind.i64.wrap (x6.2.1 + 1)), ((x6.2.2.set ((x6.2.1).toNat) 1125899906842624).set ((x6.2.1).toNat) 0)), h, ltS m7, ?_⟩; exact ca_XDEx
        · refine aSk ?_; refine aRg ?_; intro _; refine dr_XDEx ?_; refine ⟨(k33, (IntKind.i64.wrap (x6.2.1 + 1)), (x6.2.2.set ((x6.2.1).toNat) 1125899906842624)), h, ltS m7, ?_⟩; exact ca_XDEx
      · refine aEx ?_; refine ⟨x6.2.2, (Option.some.inj h).symm, ?_⟩; exact ca_XDEx
  · rintro v19 ho; have ho := ho.symm; subst ho; intro _; replace h := hK5; refine aSR ?_; intro _; obtain ⟨z38, u16, h⟩ := ob1_ok h; refine cl_XDEx rfl (A_b_Edges a0 u16) ?_; intro _; refine dr_XDEx ?_; refine aSq ?_; refine aSR ?_; intro _; refine dr_XDEx ?_; refine aBk ?_; refine awp_loop (α := Nat × Bool × (List Int)) (fun x => mkS 95 [(1, .c (.slice none 0 0)), (2, .ptr 2 0 0 0), (6, .own 19 0 0 x.2.2.length), (9, .sl 3 (z38.map cGEdge)), (10, .c (.bool x.2.1))] [(2, ⟨26, 4, true, [[.sl 1 (a0.Vars.map cI), .sl 1 (a0.Init.map cI), .sl 2 (a0.Goal.map cF), .sl 4 (a0.Ops.map cGOp)]]⟩), (19, ⟨3, 1, false, x.2.2.map cI⟩)]) (fun x => M_b_Distances_L3 a0 z38 x.1 x.2.1 x.2.2 = some r1) (fun x => x.1) (g, true, v19) h ?_ ?_
    · exact ca_XDEx
    · intro x17 h; intro _; obtain ⟨k233, m18, h⟩ := succ_of (f := fun n => M_b_Distances_L3 a0 z38 n x17.2.1 x17.2.2) rfl h; replace h : M_b_Distances_L3 a0 z38 (k233 + 1) x17.2.1 x17.2.2 = some r1 := h; rw [M_b_Distances_L3] at h; refine aSq ?_; refine aSR ?_; intro _; refine dr_XDEx ?_; refine aCd ?_; intro _; refine spl h (fun c19 h => ?_) (fun c19 h => ?_)
      · refine aSk ?_; refine aBk ?_; refine aSR ?_; intro _; refine dr_XDEx ?_; refine aSR ?_; intro _; refine dr_XDEx ?_; obtain ⟨o20, h, hK21⟩ := ob1_ok h; refine awp_cutT (α := Bool × (List Int)) (fun (v280, v281) => mkS 95 [(1, .c (.slice none 0 0)), (2, .ptr 2 0 0 0), (6, .own 19 0 0 v281.length), (9, .sl 3 (z38.map cGEdge)), (10, .c (.bool v280))] [(2, ⟨26, 4, true, [[.sl 1 (a0.Vars.map cI), .sl 1 (a0.Init.map cI), .sl 2 (a0.Goal.map cF), .sl 4 (a0.Ops.map cGOp)]]⟩), (19, ⟨3, 1, false, v281.map cI⟩)]) (fun v => o20 = v) ?_ ?_
        · refine aBk ?_; refine awp_loop (α := Nat × Bool × Int × (List Int)) (fun x => mkS 95 [(1, .c (.slice none 0 0)), (2, .ptr 2 0 0 0), (6, .own 19 0 0 x.2.2.2.length), (9, .sl 3 (z38.map cGEdge)), (10, .c (.bool x.2.1)), (41, .sl 3 (z38.map cGEdge)), (42, .c (.int .i64 ((z38.map cGEdge).length : Int))), (43, .c (.int .i64 x.2.2.1))] [(2, ⟨26, 4, true, [[.sl 1 (a0.Vars.map cI), .sl 1 (a0.Init.map cI), .sl 2 (a0.Goal.map cF), .sl 4 (a0.Ops.map cGOp)]]⟩), (19, ⟨3, 1, false, x.2.2.2.map cI⟩)]) (fun x => M_b_Distances_L2 a0 z38 x.1 x.2.1 x.2.2.1 x.2.2.2 = some o20) (fun x => x.1) ((((z38.map cGEdge).length : Int)).toNat + 1, false, 0, x17.2.2) h ?_ ?_
          · exact ca_XDEx
          · intro x22 h; intro _; obtain ⟨k315, m23, h⟩ := succ_of (f := fun n => M_b_Distances_L2 a0 z38 n x22.2.1 x22.2.2.1 x22.2.2.2) rfl h; replace h : M_b_Distances_L2 a0 z38 (k315 + 1) x22.2.1 x22.2.2.1 x22.2.2.2 = some o20 := h; rw [M_b_Distances_L2] at h; refine aSR ?_; intro _; refine dr_XDEx ?_; refine aSq ?_; refine aCd ?_; intro _; refine spl h (fun c24 h => ?_) (fun c24 h => ?_)
            · refine aSk ?_; refine aSq ?_; refine aBk ?_; refine aSR ?_; intro _; obtain ⟨y316, w25, q26, h⟩ := ix_ok h; refine Exists.intro (cGEdge y316) (And.intro (map_at' w25) ?_); intro _; refine pr_XDEx ?_; refine dr_XDEx ?_; refine aSR ?_; intro _; obtain ⟨y317, w27, q28, h⟩ := ix_ok h; refine Exists.intro (cGOp y317) (And.intro (map_at' w27) ?_); intro _; refine pr_XDEx ?_; refine dr_XDEx ?_; obtain ⟨o29, h, hK30⟩ := ob1_ok h; refine awp_cut (α := Unit) (fun _ => mkS 95 [(1, .c (.slice none 0 0)), (2, .ptr 2 0 0 0), (6, .own 19 0 0 x22.2.2.2.length), (9, .sl 3 (z38.map cGEdge)), (10, .c (.bool x22.2.1)), (12, .ptr 12 0 0 0), (13, .c (.int .i64 y317.Cost)), (41, .sl 3 (z38.map cGEdge)), (42, .c (.int .i64 ((z38.map cGEdge).length : Int))), (43, .c (.int .i64 x22.2.2.1))] [(2, ⟨26, 4, true, [[.sl 1 (a0.Vars.map cI), .sl 1 (a0.Init.map cI), .sl 2 (a0.Goal.map cF), .sl 4 (a0.Ops.map cGOp)]]⟩), (12, ⟨93, 3, true, [[.c (.int .i64 y316.From), .c (.int .i64 y316.Op), .c (.int .i64 y316.To)]]⟩), (19, ⟨3, 1, false, x22.2.2.2.map cI⟩)]) (fun v => o29 = v) ?_ ?_
              · refine aSR ?_; intro _; refine ⟨_, lf_nilneq rfl (Nat.le_of_ble_eq_true rfl) rfl rfl (tyTab_ok 22 _ rfl) rfl, ?_⟩; intro _; refine dr_XDEx ?_; refine aCd ?_; intro _; refine litF ?_; refine aSk ?_; refine ⟨(), (Option.some.inj h).symm, ?_⟩; exact ca_XDEx
              · rintro _ ho; have ho := ho.symm; subst ho; intro _; replace h := hK30; obtain ⟨o31, h, hK32⟩ := ob1_ok h; refine awp_cut (α := Bool) (fun v322 => mkS 95 [(1, .c (.slice none 0 0)), (2, .ptr 2 0 0 0), (6, .own 19 0 0 x22.2.2.2.length), (9, .sl 3 (z38.map cGEdge)), (10, .c (.bool x22.2.1)), (12, .ptr 12 0 0 0), (13, .c (.int .i64 y317.Cost)), (41, .sl 3 (z38.map cGEdge)), (42, .c (.int .i64 ((z38.map cGEdge).length : Int))), (43, .c (.int .i64 x22.2.2.1)), (81, .c (.bool v322))] [(2, ⟨26, 4, true, [[.sl 1 (a0.Vars.map cI), .sl 1 (a0.Init.map cI), .sl 2 (a0.Goal.map cF), .sl 4 (a0.Ops.map cGOp)]]⟩), (12, ⟨93, 3, true, [[.c (.int .i64 y316.From), .c (.int .i64 y316.Op), .c (.int .i64 y316.To)]]⟩), (19, ⟨3, 1, false, x22.2.2.2.map cI⟩)]) (fun v => o31 = v) ?_ ?_
                · refine aRg ?_; intro _; obtain ⟨y324, w33, h⟩ := ixn_ok h; refine Exists.intro (cI y324) (And.intro (by first | exact map_at' w33 | (have w := map_at' (f := cI) w33; simpa [cI] using w)) ?_); intro _; refine spl h (fun c34 h => ?_) (fun c34 h => ?_)
                  · intro _; obtain ⟨y325, w35, h⟩ := ixn_ok h; refine Exists.intro (cI y325) (And.intro (by first | exact map_at' w35 | (have w := map_at' (f := cI) w35; simpa [cI] using w)) ?_); intro _; obtain ⟨y326, w36, h⟩ := ixn_ok h; refine Exists.intro (cI y326) (And.intro (by first | exact map_at' w36 | (have w := map_at' (f := cI) w36; simpa [cI] using w)) ?_); intro _; obtain ⟨q37, h⟩ := grd_ok h; obtain ⟨q38, h⟩ := grd_ok h; obtain ⟨q39, h⟩ := grd_ok h; obtain ⟨q40, h⟩ := grd_ok h; refine pr_XDEx ?_; refine pr_XDEx ?_; refine pr_XDEx ?_; refine pr_XDEx ?_; refine pr_XDEx ?_; refine pr_XDEx ?_; refine dr_XDEx ?_; refine ⟨(decide ((IntKind.i64.wrap (y325 + y317.Cost)) < y326)), (Option.some.inj h).symm, ?_⟩; exact ca_XDEx
                  · intro _; obtain ⟨q41, h⟩ := grd_ok h; obtain ⟨q42, h⟩ := grd_ok h; refine pr_XDEx ?_; refine pr_XDEx ?_; refine dr_XDEx ?_; refine ⟨false, (Option.some.inj h).symm, ?_⟩; exact ca_XDEx
                · rintro v322 ho; have ho := ho.symm; subst ho; intro _; replace h := hK32; refine aCd ?_; intro _; refine spl h (fun c43 h => ?_) (fun c43 h => ?_)
                  · refine aSR ?_; intro _; obtain ⟨y327, w44, h⟩ := ixn_ok h; refine Exists.intro (cI y327) (And.intro (by first | exact map_at' w44 | (have w := map_at' (f := cI) w44; simpa [cI] using w)) ?_); intro _; obtain ⟨y328, w45, h⟩ := ixn_ok h; refine Exists.intro (cI y328) (And.intro (by first | exact map_at' w45 | (have w := map_at' (f := cI) w45; simpa [cI] using w)) ?_); intro _; obtain ⟨q46, h⟩ := grd_ok h; obtain ⟨q47, h⟩ := grd_ok h; obtain ⟨q48, h⟩ := grd_ok h; obtain ⟨q49, h⟩ := grd_ok h; refine pr_XDEx ?_; refine pr_XDEx ?_; refine pr_XDEx ?_; refine pr_XDEx ?_; refine dr_XDEx ?_; refine aRg ?_; intro _; refine dr_XDEx ?_; refine aRg ?_; intro _; refine dr_XDEx ?_; refine ⟨(k315, true, (IntKind.i64.wrap (x22.2.2.1 + 1)), (x22.2.2.2.set ((y316.From).toNat) (IntKind.i64.wrap (y327 + y317.Cost)))), h, ltS m23, ?_⟩; exact ca_XDEx
                  · refine aSk ?_; refine aRg ?_; intro _; refine dr_XDEx ?_; refine ⟨(k315, x22.2.1, (IntKind.i64.wrap (x22.2.2.1 + 1)), x22.2.2.2), h, ltS m23, ?_⟩; exact ca_XDEx
            · refine aEx ?_; refine ⟨(x22.2.1, x22.2.2.2), (Option.some.inj h).symm, ?_⟩; exact ca_XDEx
        · rintro ⟨v280, v281⟩ ho; have ho := ho.symm; subst ho; intro _; replace h := hK21; refine ⟨(k233, v280, v281), h, ltS m18, ?_⟩; exact ca_XDEx
      · refine aEx ?_; refine aSR ?_; intro _; refine dr_XDEx ?_; refine aRt ?_; obtain ⟨q50, h⟩ := grd_ok h; intro _; obtain rfl := inj1 h; exact ca_XDEx
end Go.Proofs.YtohjegemooakpaaGreat.Am
namespace Go.Proofs.YtohjegemooakpaaGreat.Am
def M_b_Rank_L1_B (a0 : List Int) (_ : List Int) (_y11 : Int) (v8 : Int) : ((Int)) → (((Int)) → Option (Int)) → Option (Int) := fun v7 rc => ix a0 v8 (fun y10 =>
       ixv _y11 (fun y11 =>
        rc ((IntKind.i64.wrap ((IntKind.i64.wrap (v7 * y10)) + y11)))))
def M_b_Rank_L1_E (_ : List Int) (_ : List Int) : ((Int)) → Option (Int) := fun v7 => some v7
theorem M_b_Rank_L1_eq (a0 : List Int) (a1 : List Int) (v7 : Int) (hl : a1.length < 9223372036854775807) : M_b_Rank_L1 a0 a1 (((a1.map cI).length : Int).toNat + 1) v7 0 = Rg (M_b_Rank_L1_B a0 a1) (M_b_Rank_L1_E a0 a1) a1 0 v7 := rg_e2 (L := fun k i v7 => M_b_Rank_L1 a0 a1 k v7 i) hl (fun k n p y hy h1 h2 => by first | (simp only [M_b_Rank_L1, M_b_Rank_L1_B, List.length_map, decide_lt h1, sel, ix_at hy, ixv, h2]; done) | (simp only [List.length_map] at h1 hy; (simp only [M_b_Rank_L1, M_b_Rank_L1_B, List.length_map, decide_lt h1, sel, ix_at hy, ixv, h2]; done))) (fun k p => by simp only [M_b_Rank_L1, M_b_Rank_L1_E, List.length_map, decide_ge, sel]) v7
def M_b_Edges_L1_B (a0 : GTask) (v68 : Int) (y88 : List Int) (v97 : Int) : ((List GEdge)) → (((List GEdge)) → Option (List GEdge)) → Option (List GEdge) := fun v98 rc => ob2 (M_b_Apply a0 y88 v97) (fun z100 z101 =>
       sel z101
        (ob1 (M_b_Rank a0.Vars z100) (fun z102 =>
          grd ((v98.length + 1) * 24 ≤ 140737488355328) (rc ((v98 ++ [{ From := v68, Op := v97, To := z102 : GEdge }])))))
        (rc (v98)))
def M_b_Edges_L1_E (_ : GTask) (_ : Int) (_ : List Int) : ((List GEdge)) → Option (List GEdge) := fun v98 => some v98
theorem M_b_Edges_L1_eq (a0 : GTask) (v68 : Int) (y88 : List Int) (v98 : List GEdge) {m : Nat} (hm : ((a0.Ops.map cGOp).length : Int) = (m : Int)) (hl : m < 9223372036854775807) : M_b_Edges_L1 a0 v68 y88 ((((a0.Ops.map cGOp).length : Int)).toNat + 1) 0 v98 = Rn (M_b_Edges_L1_B a0 v68 y88) (M_b_Edges_L1_E a0 v68 y88) m 0 v98 := rn_e (L := fun k i v98 => M_b_Edges_L1 a0 v68 y88 k i v98) hm hl (fun _ _ _ => rfl) v98
def M_b_Edges_L2_B (a0 : GTask) (_ : List (List Int)) (_y88 : List Int) (v68 : Int) : ((List GEdge)) → (((List GEdge)) → Option (List GEdge)) → Option (List GEdge) := fun v69 rc => ob1 (ixv _y88 (fun y88 =>
        M_b_Edges_L1 a0 v68 y88 ((((a0.Ops.map cGOp).length : Int)).toNat + 1) 0 v69) : Option (List GEdge))
       (fun v86 => rc (v86))
def M_b_Edges_L2_E (_ : GTask) (_ : List (List Int)) : ((List GEdge)) → Option (List GEdge) := fun v69 => grd (v69.length ≤ 140737488355328) (some v69)
theorem M_b_Edges_L2_eq (a0 : GTask) (z1 : List (List Int)) (v69 : List GEdge) (hl : z1.length < 9223372036854775807) : M_b_Edges_L2 a0 z1 (((z1.map cL_cI).length : Int).toNat + 1) 0 v69 = Rg (M_b_Edges_L2_B a0 z1) (M_b_Edges_L2_E a0 z1) z1 0 v69 := rg_e2 (L := fun k i v69 => M_b_Edges_L2 a0 z1 k i v69) hl (fun k n p y hy h1 h2 => by first | (simp only [M_b_Edges_L2, M_b_Edges_L2_B, List.length_map, decide_lt h1, sel, ix_at hy, ixv, h2]; done) | (simp only [List.length_map] at h1 hy; (simp only [M_b_Edges_L2, M_b_Edges_L2_B, List.length_map, decide_lt h1, sel, ix_at hy, ixv, h2]; done))) (fun k p => by simp only [M_b_Edges_L2, M_b_Edges_L2_E, List.length_map, decide_ge, sel]) v69
def M_b_Distances_L1_B (a0 : GTask) (_ : List (List Int)) (_y34 : List Int) (v31 : Int) : ((List Int)) → (((List Int)) → Option (List Int)) → Option (List Int) := fun v32 rc => ixv _y34 (fun y34 =>
       ixn v32 ((v31).toNat) (fun _ =>
        grd (v31 < ((v32.length : Nat) : Int)) (ob1 (M_b_Holds a0.Goal y34) (fun z36 =>
         sel z36
          (ixn (v32.set ((v31).toNat) 1125899906842624) ((v31).toNat) (fun _ =>
            rc (((v32.set ((v31).toNat) 1125899906842624).set ((v31).toNat) 0))))
          (rc ((v32.set ((v31).toNat) 1125899906842624)))))))
def M_b_Distances_L1_E (_ : GTask) (_ : List (List Int)) : ((List Int)) → Option (List Int) := fun v32 => some v32
theorem M_b_Distances_L1_eq (a0 : GTask) (z1 : List (List Int)) (v32 : List Int) (hl : z1.length < 9223372036854775807) : M_b_Distances_L1 a0 z1 (((z1.map cL_cI).length : Int).toNat + 1) 0 v32 = Rg (M_b_Distances_L1_B a0 z1) (M_b_Distances_L1_E a0 z1) z1 0 v32 := rg_e1 (L := fun k i v32 => M_b_Distances_L1 a0 z1 k i v32) hl (fun _ _ _ => rfl) v32
def M_b_Distances_L2_B (a0 : GTask) (_ : List GEdge) (_y316 : GEdge) (_ : Int) : ((Bool) × (List Int)) → (((Bool) × (List Int)) → Option (Bool × (List Int))) → Option (Bool × (List Int)) := fun (v312, v314) rc => ixv _y316 (fun y316 =>
       ix a0.Ops y316.Op (fun y317 =>
        ob1 (some () : Option (Unit))
         (fun _ => ob1 (ixn v314 ((y316.To).toNat) (fun y324 =>
             sel (decide (y324 < 1125899906842624))
              (ixn v314 ((y316.To).toNat) (fun y325 =>
                ixn v314 ((y316.From).toNat) (fun y326 =>
                 grd (0 ≤ y316.To) (grd (y316.To < ((v314.length : Nat) : Int)) (grd (0 ≤ y316.From) (grd (y316.From < ((v314.length : Nat) : Int)) (some (decide ((IntKind.i64.wrap (y325 + y317.Cost)) < y326)))))))))
              (grd (0 ≤ y316.To) (grd (y316.To < ((v314.length : Nat) : Int)) (some false)))) : Option (Bool))
            (fun v322 => sel v322
               (ixn v314 ((y316.To).toNat) (fun y327 =>
                 ixn v314 ((y316.From).toNat) (fun _ =>
                  grd (0 ≤ y316.To) (grd (y316.To < ((v314.length : Nat) : Int)) (grd (0 ≤ y316.From) (grd (y316.From < ((v314.length : Nat) : Int)) (rc (true, (v314.set ((y316.From).toNat) (IntKind.i64.wrap (y327 + y317.Cost)))))))))))
               (rc (v312, v314))))))
def M_b_Distances_L2_E (_ : GTask) (_ : List GEdge) : ((Bool) × (List Int)) → Option (Bool × (List Int)) := fun (v312, v314) => some (v312, v314)
theorem M_b_Distances_L2_eq (a0 : GTask) (z38 : List GEdge) (v312 : Bool) (v314 : List Int) (hl : z38.length < 9223372036854775807) : M_b_Distances_L2 a0 z38 (((z38.map cGEdge).length : Int).toNat + 1) v312 0 v314 = Rg (M_b_Distances_L2_B a0 z38) (M_b_Distances_L2_E a0 z38) z38 0 (v312, v314) := rg_e1 (L := fun k i p => match p with | (v312, v314) => M_b_Distances_L2 a0 z38 k v312 i v314) hl (fun _ _ ⟨_, _⟩ => rfl) (v312, v314)
end Go.Proofs.YtohjegemooakpaaGreat.Am
namespace Go.Proofs.YtohjegemooakpaaGreat.Am
open Go.RowKit
def rankF : List Int → List Int → Int → Int
  | k :: r, x :: t, v => rankF r t (v * k + x)
  | _, _, v => v
theorem flat_at (m : Nat) : ∀ (out : List (List Int)) (i x : Nat) (s : List Int), out[i]? = some s → x < m → (out.flatMap fun s => extF s m 0)[i * m + x]? = some (s ++ [(x : Int)])
  | [], i, x, s, h, _ => by simp at h
  | u :: out, i, x, s, h, hx => by
    have hext : ∀ (u : List Int) (m : Nat) (j : Int) (x : Nat), x < m → (extF u m j)[x]? = some (u ++ [j + (x : Int)]) := by
      intro u m
      induction m with
      | zero => intro j x hx; omega
      | succ m ih =>
        intro j x hx
        rw [extF]
        cases x with
        | zero => simp
        | succ x => rw [List.getElem?_cons_succ, ih (j + 1) x (by omega)]; congr 3; omega
    rw [List.flatMap_cons]
    cases i with
    | zero =>
      simp only [List.getElem?_cons_zero, Option.some.injEq] at h
      subst h
      rw [Nat.zero_mul, Nat.zero_add, List.getElem?_append_left (by rw [extF_len]; exact hx), hext u m 0 x hx]
      congr 3; omega
    | succ i =>
      rw [List.getElem?_cons_succ] at h
      rw [List.getElem?_append_right (by rw [extF_len, Nat.add_mul]; omega), extF_len, show (i + 1) * m + x - m = i * m + x from by rw [Nat.add_mul]; omega]
      exact flat_at m out i x s h hx
theorem rank_at : ∀ (r : List Int) (out : List (List Int)) (i : Nat) (s u : List Int), out[i]? = some s → stateF r u = true → ∃ k : Nat, rankF r u i = (k : Int) ∧ (statesG r out)[k]? = some (s ++ u)
  | [], out, i, s, u, h, hu => by
    cases u with
    | nil => exact ⟨i, rfl, by rw [statesG, List.append_nil]; exact h⟩
    | cons x u => simp [stateF] at hu
  | k :: r, out, i, s, u, h, hu => by
    cases u with
    | nil => simp [stateF] at hu
    | cons x u =>
      rw [stateF, Bool.and_eq_true, decide_eq_true_iff] at hu
      obtain ⟨m, rfl⟩ : ∃ m : Nat, k = m := ⟨k.toNat, by omega⟩
      obtain ⟨y, rfl⟩ : ∃ y : Nat, x = y := ⟨x.toNat, by omega⟩
      have h1 := flat_at m out i y s h (by omega)
      obtain ⟨q, e1, e2⟩ := rank_at r _ (i * m + y) (s ++ [(y : Int)]) u h1 hu.2
      refine ⟨q, ?_, by rw [statesG, Int.toNat_natCast, e2, List.append_assoc]; rfl⟩
      rw [rankF, ← e1, Int.natCast_add, Int.natCast_mul]
theorem rank_all {t : GTask} {s : List Int} (hs : stateF t.Vars s = true) : ∃ k : Nat, rankF t.Vars s 0 = (k : Int) ∧ (allF t)[k]? = some s := rank_at t.Vars [[]] 0 [] s rfl hs
theorem rank_loop (vars s : List Int) (B : Int) (hB : B ≤ 1000000) : ∀ (u r : List Int) (n : Nat) (v : Int), s.drop n = u → vars.drop n = r → u.length = r.length → 0 ≤ v → stateF r u = true → (∀ k ∈ r, 1 ≤ k ∧ k ≤ 64) → rankF r u v ≤ B →
    Rg (M_b_Rank_L1_B vars s) (M_b_Rank_L1_E vars s) u n v = some (rankF r u v)
  | [], r, n, v, hs, hr, hl, hv, hst, _, _ => by
    cases r with
    | nil => rfl
    | cons k r => simp at hl
  | x :: u, r, n, v, hs, hr, hl, hv, hst, hk, hb => by
    cases r with
    | nil => simp at hl
    | cons k r =>
      obtain ⟨hx, hs2, -⟩ := drop_cons hs
      obtain ⟨hk1, hr2, -⟩ := drop_cons hr
      rw [stateF, Bool.and_eq_true, decide_eq_true_iff] at hst
      obtain ⟨k1, k2⟩ := hk k (List.mem_cons_self ..)
      rw [rankF] at hb ⊢
      have hmono : ∀ (r u : List Int) (v : Int), stateF r u = true → 0 ≤ v → (∀ k ∈ r, 1 ≤ k ∧ k ≤ 64) → v ≤ rankF r u v := by
        intro r
        induction r with
        | nil => intro u v _ _ _; cases u <;> exact Int.le_refl _
        | cons k r ih =>
          intro u v hu hv hk
          cases u with
          | nil => simp [stateF] at hu
          | cons x u =>
            rw [stateF, Bool.and_eq_true, decide_eq_true_iff] at hu
            have hk1 := hk k (List.mem_cons_self ..)
            have hm : v * 1 ≤ v * k := Int.mul_le_mul_of_nonneg_left hk1.1 hv
            have h2 := ih u (v * k + x) hu.2 (by omega) (fun y hy => hk y (List.mem_cons_of_mem _ hy))
            rw [rankF]; omega
      have hvk : 0 ≤ v * k := Int.mul_nonneg hv (by omega)
      have hle := hmono r u (v * k + x) hst.2 (by omega) (fun y hy => hk y (List.mem_cons_of_mem _ hy))
      have w1 : IntKind.i64.wrap (v * k) = v * k := wrap_eq (by omega) (by omega)
      have w2 : IntKind.i64.wrap (v * k + x) = v * k + x := wrap_eq (by omega) (by omega)
      rw [Rg, M_b_Rank_L1_B, ix_at hk1, ixv, w1, w2]
      exact rank_loop vars s B hB u r (n + 1) (v * k + x) hs2 hr2 (by simpa using hl) (by omega) hst.2 (fun y hy => hk y (List.mem_cons_of_mem _ hy)) hb
theorem rank_eq {t : GTask} (hsm : smallF t = true) {s : List Int} (hs : stateF t.Vars s = true) : ∃ k : Nat, M_b_Rank t.Vars s = some (k : Int) ∧ (allF t)[k]? = some s := by
  obtain ⟨k, e1, e2⟩ := rank_all hs
  have hlen := (stateF_st hs).len
  have hv := (small_good hsm).2.1
  have hk : k < (allF t).length := (List.getElem?_eq_some_iff.1 e2).1
  have hal := allF_len t hsm
  refine ⟨k, ?_, e2⟩
  rw [M_b_Rank, M_b_Rank_L1_eq t.Vars s 0 (by omega)]
  have := rank_loop t.Vars s 1000000 (by decide) s t.Vars 0 0 rfl rfl hlen (by decide) hs (good_dom (small_good hsm).1).dom (by rw [e1]; omega)
  rw [e1] at this
  exact this
structure EdgP (t : GTask) (e : GEdge) : Prop where
  ex : ∃ (a b q : Nat) (s : List Int) (o : GOp), e.From = (a : Int) ∧ e.To = (b : Int) ∧ e.Op = (q : Int) ∧ (allF t)[a]? = some s ∧ (allF t)[b]? = some (nextF s o) ∧ t.Ops[q]? = some o ∧ holdsF s o.Pre = true
theorem edges1 {t : GTask} (hsm : smallF t = true) (i : Nat) (s : List Int) (hi : (allF t)[i]? = some s) : ∀ (l : List GOp) (m j : Nat) (v : List GEdge), t.Ops.drop j = l → l.length = m → v.length + m ≤ 100000 → (∀ e ∈ v, EdgP t e) →
    ∃ v', Rn (M_b_Edges_L1_B t i s) (M_b_Edges_L1_E t i s) m j v = some v' ∧ v'.length ≤ v.length + m ∧ ∀ e ∈ v', EdgP t e
  | [], m, j, v, _, hm, _, hv => by subst hm; exact ⟨v, rfl, Nat.le_refl _, hv⟩
  | o :: os, m, j, v, hdr, hm, hlen, hv => by
    have hgood := (small_good hsm).1
    obtain ⟨hj, hd', hlt⟩ := drop_cons hdr
    obtain ⟨m, rfl⟩ : ∃ k, m = k + 1 := ⟨os.length, hm.symm⟩
    have hst := (allF_mem t s).1 (List.mem_of_getElem? hi)
    have hm' : os.length = m := by simpa using hm
    rw [Rn, M_b_Edges_L1_B, apply_eq t hgood s (stateF_st hst) j o hj]
    by_cases hp : holdsF s o.Pre = true
    · obtain ⟨k, e1, e2⟩ := rank_eq hsm (next_state hgood hst (List.mem_of_getElem? hj))
      rw [if_pos hp, ob2_some, sel_tt, e1, ob1_some, grd_t (by omega)]
      obtain ⟨v', h1, h2, h3⟩ := edges1 hsm i s hi os m (j + 1) (v ++ [{ From := (i : Int), Op := (j : Int), To := (k : Int) }]) hd' hm' (by simp; omega) (fun e he => by
        rcases List.mem_append.1 he with he | he
        · exact hv e he
        · rw [List.mem_singleton.1 he]; exact ⟨⟨i, k, j, s, o, rfl, rfl, rfl, hi, e2, hj, hp⟩⟩)
      exact ⟨v', h1, by simp at h2; omega, h3⟩
    · rw [if_neg hp, ob2_some, sel_ff]
      obtain ⟨v', h1, h2, h3⟩ := edges1 hsm i s hi os m (j + 1) v hd' hm' (by omega) hv
      exact ⟨v', h1, by omega, h3⟩
theorem edges2 {t : GTask} (hsm : smallF t = true) : ∀ (r : List (List Int)) (i : Nat) (v : List GEdge), (allF t).drop i = r → v.length + r.length * 20 ≤ 100000 → (∀ e ∈ v, EdgP t e) →
    ∃ v', Rg (M_b_Edges_L2_B t (allF t)) (M_b_Edges_L2_E t (allF t)) r i v = some v' ∧ v'.length ≤ 100000 ∧ ∀ e ∈ v', EdgP t e
  | [], i, v, _, hl, hv => ⟨v, by rw [Rg, M_b_Edges_L2_E, grd_t (by simp at hl; omega)], by simpa using hl, hv⟩
  | s :: r, i, v, hdr, hl, hv => by
    obtain ⟨hi, hd', hlt⟩ := drop_cons hdr
    have hops := (small_good hsm).2.2
    rw [List.length_cons] at hl
    rw [Rg, M_b_Edges_L2_B, ixv, M_b_Edges_L1_eq t i s v (m := t.Ops.length) (by rw [List.length_map]) (by omega)]
    obtain ⟨v1, h1, h2, h3⟩ := edges1 hsm i s hi t.Ops t.Ops.length 0 v rfl rfl (by omega) hv
    have h1' : Rn (M_b_Edges_L1_B t i s) (M_b_Edges_L1_E t i s) t.Ops.length 0 v = some v1 := h1
    rw [h1', ob1_some]
    exact edges2 hsm r (i + 1) v1 hd' (by omega) h3
theorem edges_eq {t : GTask} (hsm : smallF t = true) : ∃ es, M_b_Edges t = some es ∧ es.length ≤ 100000 ∧ ∀ e ∈ es, EdgP t e := by
  have hal := allF_len t hsm
  obtain ⟨es, h1, h2, h3⟩ := edges2 hsm (allF t) 0 [] rfl (by simp; omega) (fun e he => by cases he)
  refine ⟨es, ?_, h2, h3⟩
  rw [M_b_Edges, states_eq t hsm, ob1_some, M_b_Edges_L2_eq t (allF t) [] (by omega)]
  exact h1
end Go.Proofs.YtohjegemooakpaaGreat.Am
namespace Go.Proofs.YtohjegemooakpaaGreat.Am
open Go.RowKit
abbrev infD : Int := 1125899906842624
theorem take_set (x : Int) : ∀ (l : List Int) (n : Nat), n < l.length → (l.set n x).take (n + 1) = l.take n ++ [x]
  | [], n, h => by simp at h
  | y :: l, 0, _ => by simp
  | y :: l, n + 1, h => by
    rw [List.set_cons_succ, List.take_succ_cons, take_set x l n (by simpa using h), List.take_succ_cons, List.cons_append]
theorem sum_set (x : Int) : ∀ (l : List Int) (n : Nat) (y : Int), l[n]? = some y → (l.set n x).sum = l.sum - y + x
  | [], n, y, h => by simp at h
  | z :: l, 0, y, h => by
    simp only [List.getElem?_cons_zero, Option.some.injEq] at h
    subst h
    rw [List.set_cons_zero, List.sum_cons, List.sum_cons]; omega
  | z :: l, n + 1, y, h => by
    rw [List.getElem?_cons_succ] at h
    rw [List.set_cons_succ, List.sum_cons, List.sum_cons, sum_set x l n y h]; omega
theorem sum_pos : ∀ (l : List Int), (∀ x ∈ l, 0 ≤ x) → 0 ≤ l.sum
  | [], _ => by simp
  | x :: l, h => by
    have h0 := h x (List.mem_cons_self ..)
    have := sum_pos l (fun y hy => h y (List.mem_cons_of_mem _ hy))
    rw [List.sum_cons]; omega
theorem sum_le (B : Int) : ∀ (l : List Int), (∀ x ∈ l, x ≤ B) → l.sum ≤ B * l.length
  | [], _ => by simp
  | x :: l, h => by
    have h0 := h x (List.mem_cons_self ..)
    have := sum_le B l (fun y hy => h y (List.mem_cons_of_mem _ hy))
    rw [List.sum_cons, List.length_cons, Int.natCast_add, Int.mul_add]; omega
structure DInv (t : GTask) (Q : List Int → Int → Prop) (d : List Int) : Prop where
  len : d.length = (allF t).length
  ok : ∀ (i : Nat) (s : List Int) (x : Int), (allF t)[i]? = some s → d[i]? = some x → 0 ≤ x ∧ x ≤ infD ∧ (x ≠ infD → Q s x)
theorem DInv.all {t : GTask} {Q : List Int → Int → Prop} {d : List Int} (h : DInv t Q d) : ∀ x ∈ d, 0 ≤ x ∧ x ≤ infD := fun x hx => by
  obtain ⟨i, hi⟩ := List.getElem?_of_mem hx
  have hlt := (List.getElem?_eq_some_iff.1 hi).1
  have hs : (allF t)[i]? = some ((allF t)[i]'(by rw [← h.len]; exact hlt)) := List.getElem?_eq_getElem _
  obtain ⟨h1, h2, -⟩ := h.ok i _ x hs hi
  exact ⟨h1, h2⟩
structure DQ (t : GTask) (Q : List Int → Int → Prop) : Prop where
  goal : ∀ s ∈ allF t, holdsF s t.Goal = true → Q s 0
  step : ∀ s ∈ allF t, ∀ o ∈ t.Ops, holdsF s o.Pre = true → ∀ x : Int, 0 ≤ x → Q (nextF s o) x → Q s (x + o.Cost)
theorem dis1 {t : GTask} (hgood : goodF t = true) : ∀ (r : List (List Int)) (n : Nat) (v : List Int), (allF t).drop n = r → v.length = (allF t).length →
    Rg (M_b_Distances_L1_B t (allF t)) (M_b_Distances_L1_E t (allF t)) r n v = some (v.take n ++ r.map fun s => if holdsF s t.Goal = true then 0 else infD)
  | [], n, v, hd, hl => by
    have hn := congrArg List.length hd
    simp only [List.length_drop, List.length_nil] at hn
    rw [Rg, M_b_Distances_L1_E, List.map_nil, List.append_nil, List.take_of_length_le (by omega)]
  | s :: r, n, v, hd, hl => by
    obtain ⟨hs, hd', hlt⟩ := drop_cons hd
    have hv : v[n]? = some (v[n]'(by omega)) := List.getElem?_eq_getElem _
    have hv2 : (v.set n 1125899906842624)[n]? = some 1125899906842624 := List.getElem?_set_self (by omega)
    rw [Rg, M_b_Distances_L1_B, ixv, Int.toNat_natCast, ixn_at hv, grd_t (by omega), holds_eq t.Goal s (prop_sh (good_dom hgood).len (good_goal hgood)), ob1_some, List.map_cons]
    have hcast : ((n : Int) + 1) = ((n + 1 : Nat) : Int) := rfl
    by_cases hh : holdsF s t.Goal = true
    · rw [hh, sel_tt, ixn_at hv2, List.set_set, hcast, dis1 hgood r (n + 1) _ hd' (by rw [List.length_set]; exact hl), take_set 0 v n (by omega), if_pos rfl, List.append_assoc]; rfl
    · rw [Bool.eq_false_iff.2 hh, sel_ff, hcast, dis1 hgood r (n + 1) _ hd' (by rw [List.length_set]; exact hl), take_set _ v n (by omega), if_neg (by decide), List.append_assoc]; rfl
theorem dis2 {t : GTask} (hgood : goodF t = true) {Q : List Int → Int → Prop} (hQ : DQ t Q) (es : List GEdge) : ∀ (r : List GEdge) (i : Int) (b : Bool) (d : List Int), (∀ e ∈ r, EdgP t e) → DInv t Q d →
    ∃ b' d', Rg (M_b_Distances_L2_B t es) (M_b_Distances_L2_E t es) r i (b, d) = some (b', d') ∧ DInv t Q d' ∧ ((b' = b ∧ d' = d) ∨ (b' = true ∧ d'.sum < d.sum))
  | [], i, b, d, _, hd => ⟨b, d, rfl, hd, .inl ⟨rfl, rfl⟩⟩
  | e :: r, i, b, d, he, hd => by
    have her : ∀ e ∈ r, EdgP t e := fun u hu => he u (List.mem_cons_of_mem _ hu)
    obtain ⟨a, bb, q, s, o, e1, e2, e3, h1, h2, h3, h4⟩ := (he e (List.mem_cons_self ..)).ex
    obtain ⟨F, O, T⟩ := e
    simp only at e1 e2 e3
    subst e1 e2 e3
    have ho := List.mem_of_getElem? h3
    have hcost := good_cost hgood ho
    have hla : a < d.length := by rw [hd.len]; exact (List.getElem?_eq_some_iff.1 h1).1
    have hlb : bb < d.length := by rw [hd.len]; exact (List.getElem?_eq_some_iff.1 h2).1
    obtain ⟨x, hx⟩ : ∃ x, d[bb]? = some x := ⟨_, List.getElem?_eq_getElem hlb⟩
    obtain ⟨y, hy⟩ : ∃ y, d[a]? = some y := ⟨_, List.getElem?_eq_getElem hla⟩
    obtain ⟨x0, x1, xq⟩ := hd.ok bb _ x h2 hx
    obtain ⟨y0, y1, yq⟩ := hd.ok a s y h1 hy
    unfold infD at x1 y1 xq
    have hw : IntKind.i64.wrap (x + o.Cost) = x + o.Cost := wrap_eq (by omega) (by omega)
    rw [Rg, M_b_Distances_L2_B]
    simp only [ixv, ix_at h3, ob1_some, Int.toNat_natCast, ixn_at hx, ixn_at hy, sel_dec]
    by_cases hlt : x < 1125899906842624
    · rw [if_pos hlt, grd_t (by omega), grd_t (by omega), grd_t (by omega), grd_t (by omega), ob1_some, hw]
      by_cases hr : x + o.Cost < y
      · rw [decide_eq_true hr, sel_tt, grd_t (by omega), grd_t (by omega), grd_t (by omega), grd_t (by omega)]
        have hd1 : DInv t Q (d.set a (x + o.Cost)) := by
          refine ⟨by rw [List.length_set]; exact hd.len, fun i s' z hs' hz => ?_⟩
          by_cases hai : a = i
          · subst hai
            rw [List.getElem?_set_self hla] at hz
            injection hz with hz
            rw [h1] at hs'
            injection hs' with hs'
            subst hz hs'
            exact ⟨by omega, by unfold infD; omega, fun _ => hQ.step s (List.mem_of_getElem? h1) o ho h4 x x0 (xq (by omega))⟩
          · rw [List.getElem?_set_ne hai] at hz
            exact hd.ok i s' z hs' hz
        obtain ⟨b', d', g1, g2, g3⟩ := dis2 hgood hQ es r (i + 1) true _ her hd1
        have hsum := sum_set (x + o.Cost) d a y hy
        refine ⟨b', d', g1, g2, .inr ?_⟩
        rcases g3 with ⟨g3, g4⟩ | ⟨g3, g4⟩
        · exact ⟨g3, by rw [g4, hsum]; omega⟩
        · exact ⟨g3, by rw [hsum] at g4; omega⟩
      · rw [decide_eq_false hr, sel_ff]
        exact dis2 hgood hQ es r (i + 1) b d her hd
    · rw [if_neg hlt, grd_t (by omega), grd_t (by omega), ob1_some, sel_ff]
      exact dis2 hgood hQ es r (i + 1) b d her hd
theorem dis3 {t : GTask} (hgood : goodF t = true) {Q : List Int → Int → Prop} (hQ : DQ t Q) (es : List GEdge) (hes : ∀ e ∈ es, EdgP t e) (hlen : es.length ≤ 100000) (hal : (allF t).length ≤ 512) : ∀ (S k : Nat) (d : List Int), DInv t Q d → d.sum ≤ S → S + 2 ≤ k → ∃ d', M_b_Distances_L3 t es k true d = some d' ∧ DInv t Q d' := by
  intro S
  induction S with
  | zero =>
    intro k d hd hs hk
    obtain ⟨k, rfl⟩ : ∃ j, k = j + 2 := ⟨k - 2, by omega⟩
    obtain ⟨b', d', g1, g2, g3⟩ := dis2 hgood hQ es es 0 false d hes hd
    have hpos := sum_pos d' (fun x hx => (g2.all x hx).1)
    rcases g3 with ⟨rfl, rfl⟩ | ⟨-, g4⟩
    · refine ⟨d', ?_, g2⟩
      have hl := g2.len
      rw [M_b_Distances_L3, sel_tt, M_b_Distances_L2_eq t es false d' (by omega), g1, ob1_some]
      simp only
      rw [M_b_Distances_L3, sel_ff, grd_t (by omega)]
    · omega
  | succ S ih =>
    intro k d hd hs hk
    obtain ⟨k, rfl⟩ : ∃ j, k = j + 2 := ⟨k - 2, by omega⟩
    obtain ⟨b', d', g1, g2, g3⟩ := dis2 hgood hQ es es 0 false d hes hd
    rw [M_b_Distances_L3, sel_tt, M_b_Distances_L2_eq t es false d (by omega), g1, ob1_some]
    simp only
    rcases g3 with ⟨rfl, rfl⟩ | ⟨rfl, g4⟩
    · have hl := g2.len
      exact ⟨d', by rw [M_b_Distances_L3, sel_ff, grd_t (by omega)], g2⟩
    · exact ih (k + 1) d' g2 (by omega) (by omega)
theorem dis_eq {t : GTask} (hsm : smallF t = true) {Q : List Int → Int → Prop} (hQ : DQ t Q) (g : Nat) (hg : 1000000000000000000 ≤ g) (u : List Int) : ∃ d, M_b_Distances g t u = some d ∧ DInv t Q d := by
  have hgood := (small_good hsm).1
  have hal := allF_len t hsm
  obtain ⟨es, h1, h2, h3⟩ := edges_eq hsm
  have hd0 : DInv t Q ((allF t).map fun s => if holdsF s t.Goal = true then 0 else infD) := by
    refine ⟨List.length_map _, fun i s x hs hx => ?_⟩
    rw [List.getElem?_map, hs] at hx
    simp only [Option.map_some, Option.some.injEq] at hx
    subst hx
    by_cases hh : holdsF s t.Goal = true
    · rw [if_pos hh]; exact ⟨by decide, by decide, fun _ => hQ.goal s (List.mem_of_getElem? hs) hh⟩
    · rw [if_neg hh]; exact ⟨by decide, by decide, fun h => absurd rfl h⟩
  have hsum := sum_le infD _ (fun x hx => (hd0.all x hx).2)
  rw [hd0.len] at hsum
  have hle : infD * ((allF t).length : Int) ≤ infD * 512 := Int.mul_le_mul_of_nonneg_left (by omega) (by decide)
  have hs2 : ((allF t).map fun s => if holdsF s t.Goal = true then 0 else infD).sum ≤ (576460752303423488 : Nat) := Int.le_trans hsum (Int.le_trans hle (by decide))
  obtain ⟨d, e1, e2⟩ := dis3 hgood hQ es h3 h2 hal 576460752303423488 g _ hd0 hs2 (by omega)
  refine ⟨d, ?_, e2⟩
  have hrep : (List.replicate ((((allF t).map cL_cI).length : Int)).toNat (0 : Int)).length = (allF t).length := by rw [List.length_replicate, List.length_map, Int.toNat_natCast]
  have hd1 := dis1 hgood (allF t) 0 (List.replicate ((((allF t).map cL_cI).length : Int)).toNat 0) rfl hrep
  have hd1' : Rg (M_b_Distances_L1_B t (allF t)) (M_b_Distances_L1_E t (allF t)) (allF t) 0 (List.replicate ((((allF t).map cL_cI).length : Int)).toNat 0) = _ := hd1
  have hlm : ((allF t).map cL_cI).length = (allF t).length := List.length_map _
  rw [M_b_Distances, states_eq t hsm, ob1_some, grd_t (by omega), grd_t (by omega), M_b_Distances_L1_eq t (allF t) _ (by omega), hd1', List.take_zero, List.nil_append, ob1_some, h1, ob1_some]
  exact e1
end Go.Proofs.YtohjegemooakpaaGreat.Am
namespace Go.Proofs.YtohjegemooakpaaGreat.Am
open Go.RowKit
theorem ext_at (u : List Int) : ∀ (m : Nat) (j : Int) (x : Nat) (z : List Int), (extF u m j)[x]? = some z → x < m ∧ z = u ++ [j + (x : Int)]
  | 0, j, x, z, h => by simp [extF] at h
  | m + 1, j, 0, z, h => by
    simp only [extF, List.getElem?_cons_zero, Option.some.injEq] at h
    exact ⟨by omega, by rw [← h]; simp⟩
  | m + 1, j, x + 1, z, h => by
    rw [extF, List.getElem?_cons_succ] at h
    obtain ⟨h1, h2⟩ := ext_at u m (j + 1) x z h
    refine ⟨by omega, ?_⟩
    rw [h2, show j + 1 + (x : Int) = j + ((x + 1 : Nat) : Int) from by omega]
theorem flat_inv (m : Nat) : ∀ (out : List (List Int)) (j : Nat) (z : List Int), (out.flatMap fun s => extF s m 0)[j]? = some z → ∃ (i x : Nat) (s : List Int), j = i * m + x ∧ x < m ∧ out[i]? = some s ∧ z = s ++ [(x : Int)]
  | [], j, z, h => by simp at h
  | u :: out, j, z, h => by
    rw [List.flatMap_cons] at h
    by_cases hj : j < (extF u m 0).length
    · rw [List.getElem?_append_left hj] at h
      obtain ⟨h1, h2⟩ := ext_at u m 0 j z h
      exact ⟨0, j, u, by omega, h1, rfl, by rw [h2]; congr 2; omega⟩
    · rw [List.getElem?_append_right (by omega), extF_len] at h
      rw [extF_len] at hj
      obtain ⟨i, x, s, e1, e2, e3, e4⟩ := flat_inv m out (j - m) z h
      exact ⟨i + 1, x, s, by rw [Nat.add_mul]; omega, e2, by rw [List.getElem?_cons_succ]; exact e3, e4⟩
theorem rank_inv : ∀ (r : List Int) (out : List (List Int)) (k : Nat) (z : List Int), (∀ y ∈ r, 1 ≤ y) → (statesG r out)[k]? = some z → ∃ (i : Nat) (s u : List Int), out[i]? = some s ∧ z = s ++ u ∧ stateF r u = true ∧ rankF r u i = (k : Int)
  | [], out, k, z, _, h => ⟨k, z, [], h, (List.append_nil z).symm, rfl, rfl⟩
  | y :: r, out, k, z, hy, h => by
    rw [statesG] at h
    obtain ⟨j, s, u, h1, h2, h3, h4⟩ := rank_inv r _ k z (fun x hx => hy x (List.mem_cons_of_mem _ hx)) h
    obtain ⟨i, x, s0, e1, e2, e3, e4⟩ := flat_inv y.toNat out j s h1
    have hy0 := hy y (List.mem_cons_self ..)
    refine ⟨i, s0, (x : Int) :: u, e3, by rw [h2, e4, List.append_assoc]; rfl, ?_, ?_⟩
    · rw [stateF, Bool.and_eq_true, decide_eq_true_iff]
      exact ⟨by omega, h3⟩
    · rw [rankF, ← h4, e1, Int.natCast_add, Int.natCast_mul, show ((y.toNat : Nat) : Int) = y from by omega]
theorem place_one {t : GTask} (hgood : goodF t = true) {i j : Nat} {s : List Int} (hi : (allF t)[i]? = some s) (hj : (allF t)[j]? = some s) : i = j := by
  have key : ∀ k : Nat, (allF t)[k]? = some s → rankF t.Vars s 0 = (k : Int) := fun k hk => by
    obtain ⟨i0, s0, u, h1, h2, -, h4⟩ := rank_inv t.Vars [[]] k s (fun y hy => ((good_dom hgood).dom y hy).1) hk
    cases i0 with
    | zero =>
      simp only [List.getElem?_cons_zero, Option.some.injEq] at h1
      subst h1
      rw [List.nil_append] at h2
      subst h2
      exact h4
    | succ i0 => simp at h1
  have h1 := key i hi
  have h2 := key j hj
  omega
def EdgI (t : GTask) (i q : Nat) (o : GOp) (s : List Int) (e : GEdge) : Prop := ∃ k : Nat, e = { From := (i : Int), Op := (q : Int), To := (k : Int) } ∧ (allF t)[k]? = some (nextF s o)
theorem edges1c {t : GTask} (hsm : smallF t = true) (i : Nat) (s : List Int) (hi : (allF t)[i]? = some s) : ∀ (l : List GOp) (m j : Nat) (v : List GEdge), t.Ops.drop j = l → l.length = m → v.length + m ≤ 100000 →
    ∃ v', Rn (M_b_Edges_L1_B t i s) (M_b_Edges_L1_E t i s) m j v = some v' ∧ v'.length ≤ v.length + m ∧ (∀ e ∈ v, e ∈ v') ∧ ∀ q o, j ≤ q → t.Ops[q]? = some o → holdsF s o.Pre = true → ∃ e ∈ v', EdgI t i q o s e
  | [], m, j, v, hdr, hm, _ => by
    subst hm
    refine ⟨v, rfl, Nat.le_refl _, fun _ h => h, fun q o hq ho _ => ?_⟩
    have hlt := (List.getElem?_eq_some_iff.1 ho).1
    have hn := congrArg List.length hdr
    simp only [List.length_drop, List.length_nil] at hn
    omega
  | o :: os, m, j, v, hdr, hm, hlen => by
    have hgood := (small_good hsm).1
    obtain ⟨hj, hd', hlt⟩ := drop_cons hdr
    obtain ⟨m, rfl⟩ : ∃ k, m = k + 1 := ⟨os.length, hm.symm⟩
    have hst := (allF_mem t s).1 (List.mem_of_getElem? hi)
    have hm' : os.length = m := by simpa using hm
    rw [Rn, M_b_Edges_L1_B, apply_eq t hgood s (stateF_st hst) j o hj]
    by_cases hp : holdsF s o.Pre = true
    · obtain ⟨k, e1, e2⟩ := rank_eq hsm (next_state hgood hst (List.mem_of_getElem? hj))
      rw [if_pos hp, ob2_some, sel_tt, e1, ob1_some, grd_t (by omega)]
      obtain ⟨v', h1, h2, h3, h4⟩ := edges1c hsm i s hi os m (j + 1) (v ++ [{ From := (i : Int), Op := (j : Int), To := (k : Int) }]) hd' hm' (by simp; omega)
      refine ⟨v', h1, by simp at h2; omega, fun e he => h3 e (List.mem_append.2 (.inl he)), fun q u hq hu hpu => ?_⟩
      rcases Nat.lt_or_ge j q with hjq | hjq
      · exact h4 q u (by omega) hu hpu
      · obtain rfl : q = j := by omega
        rw [hj] at hu
        injection hu with hu
        subst hu
        exact ⟨_, h3 _ (List.mem_append.2 (.inr (List.mem_singleton.2 rfl))), k, rfl, e2⟩
    · rw [if_neg hp, ob2_some, sel_ff]
      obtain ⟨v', h1, h2, h3, h4⟩ := edges1c hsm i s hi os m (j + 1) v hd' hm' (by omega)
      refine ⟨v', h1, by omega, h3, fun q u hq hu hpu => ?_⟩
      rcases Nat.lt_or_ge j q with hjq | hjq
      · exact h4 q u (by omega) hu hpu
      · obtain rfl : q = j := by omega
        rw [hj] at hu
        injection hu with hu
        subst hu
        exact absurd hpu hp
theorem edges2c {t : GTask} (hsm : smallF t = true) : ∀ (r : List (List Int)) (i : Nat) (v : List GEdge), (allF t).drop i = r → v.length + r.length * 20 ≤ 100000 →
    ∃ v', Rg (M_b_Edges_L2_B t (allF t)) (M_b_Edges_L2_E t (allF t)) r i v = some v' ∧ (∀ e ∈ v, e ∈ v') ∧ ∀ k s q o, i ≤ k → (allF t)[k]? = some s → t.Ops[q]? = some o → holdsF s o.Pre = true → ∃ e ∈ v', EdgI t k q o s e
  | [], i, v, hdr, hl => by
    refine ⟨v, by rw [Rg, M_b_Edges_L2_E, grd_t (by simp at hl; omega)], fun _ h => h, fun k s q o hk hs _ _ => ?_⟩
    have hlt := (List.getElem?_eq_some_iff.1 hs).1
    have hn := congrArg List.length hdr
    simp only [List.length_drop, List.length_nil] at hn
    omega
  | s :: r, i, v, hdr, hl => by
    obtain ⟨hi, hd', hlt⟩ := drop_cons hdr
    have hops := (small_good hsm).2.2
    rw [List.length_cons] at hl
    rw [Rg, M_b_Edges_L2_B, ixv, M_b_Edges_L1_eq t i s v (m := t.Ops.length) (by rw [List.length_map]) (by omega)]
    obtain ⟨v1, h1, h2, h3, h4⟩ := edges1c hsm i s hi t.Ops t.Ops.length 0 v rfl rfl (by omega)
    have h1' : Rn (M_b_Edges_L1_B t i s) (M_b_Edges_L1_E t i s) t.Ops.length 0 v = some v1 := h1
    rw [h1', ob1_some]
    obtain ⟨v', g1, g2, g3⟩ := edges2c hsm r (i + 1) v1 hd' (by omega)
    refine ⟨v', g1, fun e he => g2 e (h3 e he), fun k u q o hk hu ho hp => ?_⟩
    rcases Nat.lt_or_ge i k with hik | hik
    · exact g3 k u q o (by omega) hu ho hp
    · obtain rfl : k = i := by omega
      rw [hi] at hu
      injection hu with hu
      subst hu
      obtain ⟨e, he, hx⟩ := h4 q o (Nat.zero_le _) ho hp
      exact ⟨e, g2 e he, hx⟩
theorem edges_all {t : GTask} (hsm : smallF t = true) : ∃ es, M_b_Edges t = some es ∧ es.length ≤ 100000 ∧ (∀ e ∈ es, EdgP t e) ∧ ∀ k s q o, (allF t)[k]? = some s → t.Ops[q]? = some o → holdsF s o.Pre = true → ∃ e ∈ es, EdgI t k q o s e := by
  have hal := allF_len t hsm
  obtain ⟨es, h1, h2, h3⟩ := edges_eq hsm
  obtain ⟨es', g1, -, g3⟩ := edges2c hsm (allF t) 0 [] rfl (by simp; omega)
  have he : M_b_Edges t = some es' := by
    rw [M_b_Edges, states_eq t hsm, ob1_some, M_b_Edges_L2_eq t (allF t) [] (by omega)]
    exact g1
  rw [h1] at he
  obtain rfl := Option.some.inj he
  exact ⟨es, h1, h2, h3, fun k s q o hk ho hp => g3 k s q o (Nat.zero_le _) hk ho hp⟩
def finN (d : List Int) : Nat := (d.filter fun x => decide (x ≠ infD)).length
theorem finN_set : ∀ (d : List Int) (a : Nat) (y v : Int), d[a]? = some y → v ≠ infD → finN (d.set a v) = finN d + (if y = infD then 1 else 0)
  | [], a, y, v, h, _ => by simp at h
  | z :: d, 0, y, v, h, hv => by
    simp only [List.getElem?_cons_zero, Option.some.injEq] at h
    subst h
    unfold finN
    rw [List.set_cons_zero, List.filter_cons, List.filter_cons, if_pos (decide_eq_true hv)]
    by_cases hz : z = infD
    · rw [if_neg (by simp [hz]), if_pos hz, List.length_cons]
    · rw [if_pos (decide_eq_true hz), if_neg hz, List.length_cons, List.length_cons, Nat.add_zero]
  | z :: d, a + 1, y, v, h, hv => by
    rw [List.getElem?_cons_succ] at h
    have ih := finN_set d a y v h hv
    unfold finN at ih ⊢
    rw [List.set_cons_succ, List.filter_cons, List.filter_cons]
    split
    · rw [List.length_cons, List.length_cons, ih]; omega
    · exact ih
theorem finN_le (d : List Int) : finN d ≤ d.length := List.length_filter_le _ _
structure DG (t : GTask) (d : List Int) : Prop where
  len : d.length = (allF t).length
  ok : ∀ (i : Nat) (s : List Int) (x : Int), (allF t)[i]? = some s → d[i]? = some x → 0 ≤ x ∧ x ≤ infD ∧ (holdsF s t.Goal = true → x = 0)
  bnd : ∀ x ∈ d, x ≠ infD → x ≤ 1048576 * (finN d : Int)
theorem DG.all {t : GTask} {d : List Int} (h : DG t d) : ∀ x ∈ d, 0 ≤ x ∧ x ≤ infD := fun x hx => by
  obtain ⟨i, hi⟩ := List.getElem?_of_mem hx
  have hlt := (List.getElem?_eq_some_iff.1 hi).1
  have hs : (allF t)[i]? = some ((allF t)[i]'(by rw [← h.len]; exact hlt)) := List.getElem?_eq_getElem _
  obtain ⟨h1, h2, -⟩ := h.ok i _ x hs hi
  exact ⟨h1, h2⟩
def Calm (t : GTask) (d : List Int) (e : GEdge) : Prop := ∀ (a b q : Nat) (o : GOp) (x y : Int), e = { From := (a : Int), Op := (q : Int), To := (b : Int) } → t.Ops[q]? = some o → d[b]? = some x → d[a]? = some y → x < infD → y ≤ x + o.Cost
theorem dis2c {t : GTask} (hgood : goodF t = true) (es : List GEdge) : ∀ (r : List GEdge) (i : Int) (b : Bool) (d : List Int), (∀ e ∈ r, EdgP t e) → DG t d →
    ∃ b' d', Rg (M_b_Distances_L2_B t es) (M_b_Distances_L2_E t es) r i (b, d) = some (b', d') ∧ DG t d' ∧ ((b' = b ∧ d' = d ∧ ∀ e ∈ r, Calm t d e) ∨ (b' = true ∧ d'.sum < d.sum))
  | [], i, b, d, _, hd => ⟨b, d, rfl, hd, .inl ⟨rfl, rfl, fun e he => by cases he⟩⟩
  | e :: r, i, b, d, he, hd => by
    have her : ∀ e ∈ r, EdgP t e := fun u hu => he u (List.mem_cons_of_mem _ hu)
    obtain ⟨a, bb, q, s, o, e1, e2, e3, h1, h2, h3, h4⟩ := (he e (List.mem_cons_self ..)).ex
    obtain ⟨F, O, T⟩ := e
    simp only at e1 e2 e3
    subst e1 e2 e3
    have ho := List.mem_of_getElem? h3
    have hcost := good_cost hgood ho
    have hla : a < d.length := by rw [hd.len]; exact (List.getElem?_eq_some_iff.1 h1).1
    have hlb : bb < d.length := by rw [hd.len]; exact (List.getElem?_eq_some_iff.1 h2).1
    obtain ⟨x, hx⟩ : ∃ x, d[bb]? = some x := ⟨_, List.getElem?_eq_getElem hlb⟩
    obtain ⟨y, hy⟩ : ∃ y, d[a]? = some y := ⟨_, List.getElem?_eq_getElem hla⟩
    obtain ⟨x0, x1, -⟩ := hd.ok bb _ x h2 hx
    obtain ⟨y0, y1, yq⟩ := hd.ok a s y h1 hy
    have hcalm : (x < infD → y ≤ x + o.Cost) → Calm t d { From := (a : Int), Op := (q : Int), To := (bb : Int) } := fun hh a' b' q' o' x' y' e ho' hx' hy' hlt => by
      simp only [GEdge.mk.injEq] at e
      obtain ⟨ea, eq, eb⟩ := e
      obtain rfl : a' = a := by omega
      obtain rfl : b' = bb := by omega
      obtain rfl : q' = q := by omega
      rw [h3] at ho'; rw [hx] at hx'; rw [hy] at hy'
      injection ho' with ho'; injection hx' with hx'; injection hy' with hy'
      subst ho' hx' hy'
      exact hh hlt
    unfold infD at x1 y1 hcalm
    have hw : IntKind.i64.wrap (x + o.Cost) = x + o.Cost := wrap_eq (by omega) (by omega)
    have hcons : (x < 1125899906842624 → y ≤ x + o.Cost) → ∃ b' d', Rg (M_b_Distances_L2_B t es) (M_b_Distances_L2_E t es) r (i + 1) (b, d) = some (b', d') ∧ DG t d' ∧ ((b' = b ∧ d' = d ∧ ∀ e ∈ ({ From := (a : Int), Op := (q : Int), To := (bb : Int) } : GEdge) :: r, Calm t d e) ∨ (b' = true ∧ d'.sum < d.sum)) := fun hh => by
      obtain ⟨b', d', g1, g2, g3⟩ := dis2c hgood es r (i + 1) b d her hd
      refine ⟨b', d', g1, g2, g3.imp (fun ⟨q1, q2, q3⟩ => ⟨q1, q2, fun e he => ?_⟩) id⟩
      rcases List.mem_cons.1 he with rfl | he
      · exact hcalm hh
      · exact q3 e he
    rw [Rg, M_b_Distances_L2_B]
    simp only [ixv, ix_at h3, ob1_some, Int.toNat_natCast, ixn_at hx, ixn_at hy, sel_dec]
    by_cases hlt : x < 1125899906842624
    · rw [if_pos hlt, grd_t (by omega), grd_t (by omega), grd_t (by omega), grd_t (by omega), ob1_some, hw]
      by_cases hr : x + o.Cost < y
      · rw [decide_eq_true hr, sel_tt, grd_t (by omega), grd_t (by omega), grd_t (by omega), grd_t (by omega)]
        have hd1 : DG t (d.set a (x + o.Cost)) := by
          have hbx := hd.bnd x (List.mem_of_getElem? hx) (by unfold infD; omega)
          have hfin := finN_set d a y (x + o.Cost) hy (by unfold infD; omega)
          refine ⟨by rw [List.length_set]; exact hd.len, fun i s' z hs' hz => ?_, fun z hz hne => ?_⟩
          rotate_left
          · rw [hfin]
            rcases List.mem_or_eq_of_mem_set hz with hz | rfl
            · have := hd.bnd z hz hne
              split <;> omega
            · by_cases hyi : y = infD
              · rw [if_pos hyi]; omega
              · have := hd.bnd y (List.mem_of_getElem? hy) hyi
                rw [if_neg hyi]; omega
          by_cases hai : a = i
          · subst hai
            rw [List.getElem?_set_self hla] at hz
            injection hz with hz
            rw [h1] at hs'
            injection hs' with hs'
            subst hz hs'
            exact ⟨by omega, by unfold infD; omega, fun hg => by have := yq hg; omega⟩
          · rw [List.getElem?_set_ne hai] at hz
            exact hd.ok i s' z hs' hz
        obtain ⟨b', d', g1, g2, g3⟩ := dis2c hgood es r (i + 1) true _ her hd1
        have hsum := sum_set (x + o.Cost) d a y hy
        refine ⟨b', d', g1, g2, .inr ?_⟩
        rcases g3 with ⟨g3, g4, -⟩ | ⟨g3, g4⟩
        · exact ⟨g3, by rw [g4, hsum]; omega⟩
        · exact ⟨g3, by rw [hsum] at g4; omega⟩
      · rw [decide_eq_false hr, sel_ff]
        exact hcons (fun _ => by omega)
    · rw [if_neg hlt, grd_t (by omega), grd_t (by omega), ob1_some, sel_ff]
      exact hcons (fun h => absurd h hlt)
theorem dis3c {t : GTask} (hgood : goodF t = true) (es : List GEdge) (hes : ∀ e ∈ es, EdgP t e) (hlen : es.length ≤ 100000) (hal : (allF t).length ≤ 512) : ∀ (S k : Nat) (d : List Int), DG t d → d.sum ≤ S → S + 2 ≤ k → ∃ d', M_b_Distances_L3 t es k true d = some d' ∧ DG t d' ∧ ∀ e ∈ es, Calm t d' e := by
  intro S
  induction S with
  | zero =>
    intro k d hd hs hk
    obtain ⟨k, rfl⟩ : ∃ j, k = j + 2 := ⟨k - 2, by omega⟩
    obtain ⟨b', d', g1, g2, g3⟩ := dis2c hgood es es 0 false d hes hd
    have hpos := sum_pos d' (fun x hx => (g2.all x hx).1)
    rcases g3 with ⟨rfl, rfl, g5⟩ | ⟨-, g4⟩
    · refine ⟨d', ?_, g2, g5⟩
      have hl := g2.len
      rw [M_b_Distances_L3, sel_tt, M_b_Distances_L2_eq t es false d' (by omega), g1, ob1_some]
      simp only
      rw [M_b_Distances_L3, sel_ff, grd_t (by omega)]
    · omega
  | succ S ih =>
    intro k d hd hs hk
    obtain ⟨k, rfl⟩ : ∃ j, k = j + 2 := ⟨k - 2, by omega⟩
    obtain ⟨b', d', g1, g2, g3⟩ := dis2c hgood es es 0 false d hes hd
    rw [M_b_Distances_L3, sel_tt, M_b_Distances_L2_eq t es false d (by omega), g1, ob1_some]
    simp only
    rcases g3 with ⟨rfl, rfl, g5⟩ | ⟨rfl, g4⟩
    · have hl := g2.len
      exact ⟨d', by rw [M_b_Distances_L3, sel_ff, grd_t (by omega)], g2, g5⟩
    · exact ih (k + 1) d' g2 (by omega) (by omega)
structure DFix (t : GTask) (d : List Int) : Prop where
  g : DG t d
  step : ∀ (i k : Nat) (s : List Int) (o : GOp) (x y : Int), (allF t)[i]? = some s → o ∈ t.Ops → holdsF s o.Pre = true → (allF t)[k]? = some (nextF s o) → d[k]? = some x → d[i]? = some y → x < infD → y ≤ x + o.Cost
theorem fix_eq {t : GTask} (hsm : smallF t = true) (g : Nat) (hg : 1000000000000000000 ≤ g) (u : List Int) : ∃ d, M_b_Distances g t u = some d ∧ DFix t d := by
  have hgood := (small_good hsm).1
  have hal := allF_len t hsm
  obtain ⟨es, h1, h2, h3, h4⟩ := edges_all hsm
  have hd0 : DG t ((allF t).map fun s => if holdsF s t.Goal = true then 0 else infD) := by
    refine ⟨List.length_map _, fun i s x hs hx => ?_, fun x hx hne => ?_⟩
    · rw [List.getElem?_map, hs] at hx
      simp only [Option.map_some, Option.some.injEq] at hx
      subst hx
      by_cases hh : holdsF s t.Goal = true
      · rw [if_pos hh]; exact ⟨by decide, by decide, fun _ => rfl⟩
      · rw [if_neg hh]; exact ⟨by decide, by decide, fun h => absurd h hh⟩
    · obtain ⟨s, -, rfl⟩ := List.mem_map.1 hx
      by_cases hh : holdsF s t.Goal = true
      · rw [if_pos hh]; omega
      · rw [if_neg hh] at hne; exact absurd rfl hne
  have hsum := sum_le infD _ (fun x hx => (hd0.all x hx).2)
  rw [hd0.len] at hsum
  have hle : infD * ((allF t).length : Int) ≤ infD * 512 := Int.mul_le_mul_of_nonneg_left (by omega) (by decide)
  have hs2 : ((allF t).map fun s => if holdsF s t.Goal = true then 0 else infD).sum ≤ (576460752303423488 : Nat) := Int.le_trans hsum (Int.le_trans hle (by decide))
  obtain ⟨d, e1, e2, e3⟩ := dis3c hgood es h3 h2 hal 576460752303423488 g _ hd0 hs2 (by omega)
  refine ⟨d, ?_, e2, fun i k s o x y hi ho hp hk hx hy hlt => ?_⟩
  · have hrep : (List.replicate ((((allF t).map cL_cI).length : Int)).toNat (0 : Int)).length = (allF t).length := by rw [List.length_replicate, List.length_map, Int.toNat_natCast]
    have hd1 := dis1 hgood (allF t) 0 (List.replicate ((((allF t).map cL_cI).length : Int)).toNat 0) rfl hrep
    have hd1' : Rg (M_b_Distances_L1_B t (allF t)) (M_b_Distances_L1_E t (allF t)) (allF t) 0 (List.replicate ((((allF t).map cL_cI).length : Int)).toNat 0) = _ := hd1
    have hlm : ((allF t).map cL_cI).length = (allF t).length := List.length_map _
    rw [M_b_Distances, states_eq t hsm, ob1_some, grd_t (by omega), grd_t (by omega), M_b_Distances_L1_eq t (allF t) _ (by omega), hd1', List.take_zero, List.nil_append, ob1_some, h1, ob1_some]
    exact e1
  · obtain ⟨q, hq⟩ := List.getElem?_of_mem ho
    obtain ⟨e, he, kk, hee, hkk⟩ := h4 i s q o hi hq hp
    have := place_one hgood hk hkk
    subst this
    exact e3 e he i k q o x y hee hq hx hy hlt
end Go.Proofs.YtohjegemooakpaaGreat.Am
namespace Go.Proofs.YtohjegemooakpaaGreat.Am
open Go.RowKit
theorem awakeE : M_l32_awake 1000000000000000000 = some true := by kernel_rfl
theorem fix_rch {t : GTask} (hsm : smallF t = true) {d : List Int} (hd : DFix t d) {b : Int} (hb : 0 ≤ b) {s : List Int} {x : Int} (h : Rch t b s x) : ∀ (i : Nat) (y : Int), (allF t)[i]? = some s → d[i]? = some y → x < 1125899906842624 - 2000000 → 0 ≤ x ∧ y ≤ x := by
  have hgood := (small_good hsm).1
  induction h with
  | @goal s hg =>
    intro i y hi hy _
    have := (hd.g.ok i s y hi hy).2.2 hg
    omega
  | @step s o c ho hp hr ih =>
    intro i y hi hy hx
    have hc := op_cost hgood ho
    have hwc : wc b o = o.Cost := if_neg (by omega)
    rw [hwc] at hx ⊢
    have hs : stateF t.Vars s = true := (allF_mem t s).1 (List.mem_of_getElem? hi)
    obtain ⟨k, -, hk⟩ := rank_all (next_state hgood hs ho)
    have hlt : k < d.length := by rw [hd.g.len]; exact (List.getElem?_eq_some_iff.1 hk).1
    have hz : d[k]? = some d[k] := List.getElem?_eq_getElem hlt
    obtain ⟨h1, h2⟩ := ih k _ hk hz (by omega)
    have := hd.step i k s o _ y hi ho hp hk hz hy (by show d[k] < 1125899906842624; omega)
    omega
theorem fix_rch0 {t : GTask} (hsm : smallF t = true) {d : List Int} (hd : DFix t d) {b : Int} {s : List Int} {x : Int} (h : Rch t b s x) : ∀ (i : Nat) (y : Int), (allF t)[i]? = some s → d[i]? = some y → y < 1125899906842624 := by
  have hgood := (small_good hsm).1
  have hal := allF_len t hsm
  have hfin : ∀ (i : Nat) (y : Int), d[i]? = some y → y ≠ 1125899906842624 → y ≤ 1048576 * 512 := fun i y hy hne => by
    have h1 := hd.g.bnd y (List.mem_of_getElem? hy) hne
    have h2 := finN_le d
    have h3 := hd.g.len
    omega
  induction h with
  | @goal s hg =>
    intro i y hi hy
    have := (hd.g.ok i s y hi hy).2.2 hg
    omega
  | @step s o c ho hp hr ih =>
    intro i y hi hy
    have hc := op_cost hgood ho
    have hs : stateF t.Vars s = true := (allF_mem t s).1 (List.mem_of_getElem? hi)
    obtain ⟨k, -, hk⟩ := rank_all (next_state hgood hs ho)
    have hlt : k < d.length := by rw [hd.g.len]; exact (List.getElem?_eq_some_iff.1 hk).1
    have hz : d[k]? = some d[k] := List.getElem?_eq_getElem hlt
    have h1 := ih k _ hk hz
    have h2 := hd.step i k s o _ y hi ho hp hk hz hy h1
    have h3 := hfin k _ hz (by omega)
    omega
def LowQ (b : Int) (ns : List Nogood) (s : List Int) (x : Int) : Prop := (b < 0 ∨ x < b) → ∃ n ∈ ns, n.2 ≤ (if b < 0 then 0 else x) ∧ holdsF s n.1 = true
theorem low_dq {t : GTask} (hf : Fit t) {b : Int} {ns : List Nogood} (hI : Inv t b [] ns) : DQ t (LowQ b ns) := by
  have hneed : ∀ p d, Need t b ns p d → Covd ns p d := fun p d h => by
    rcases hI.need p d h with h | ⟨e, he, _⟩
    · exact h
    · cases he
  refine ⟨fun s _ hg _ => ?_, fun s hs o ho hp x hx hQ hlt => ?_⟩
  · obtain ⟨n, hn, h1, h2⟩ := hneed t.Goal 0 (.inl ⟨rfl, rfl⟩)
    exact ⟨n, hn, by split <;> omega, holdsF_sub h2 hg⟩
  · have hc := op_cost hf.good ho
    obtain ⟨n, hn, h1, h2⟩ := hQ (by omega)
    have hnp := hI.nP n hn
    have hsF := (allF_mem t s).1 hs
    have st := stateF_st hsF
    obtain ⟨l, l1, l2, -⟩ := regT hf.cap hf.good hnp.prop ho
    have hsome := (some_regO hf.good ho st hnp.prop l1).2 ⟨hp, (holds_next hf.good st ho hnp.prop).1 h2⟩
    obtain ⟨z, hz, hzs⟩ := hsome
    have hn2 := hnp.d2
    have hle : b < 0 ∨ n.2 + o.Cost < b := by
      rcases hlt with h | h
      · exact .inl h
      · by_cases hbn : b < 0
        · exact .inl hbn
        · rw [if_neg hbn] at h1; exact .inr (by omega)
    obtain ⟨m, hm, m1, m2⟩ := hneed z (if b < 0 then 0 else n.2 + o.Cost) (.inr ⟨n, hn, o, ⟨ho, hle, rfl⟩, l, l1, hz⟩)
    refine ⟨m, hm, ?_, holdsF_sub m2 hzs⟩
    by_cases hbn : b < 0
    · rw [if_pos hbn] at m1 ⊢; exact m1
    · rw [if_neg hbn] at m1 h1 ⊢; omega
end Go.Proofs.YtohjegemooakpaaGreat.Am
namespace Go.Proofs.YtohjegemooakpaaGreat.Am
open Go.RowKit
def NF (e : Er) : Prop := e = .nil ∨ e = .no 10
theorem ask_nf (t : GTask) (c : GCertificate) (p : List Fact) (d r : Int) : (askC t c p d r).2.1 = .no 10 ∨ ((askC t c p d r).2.1 = .nil ∧ (askC t c p d r).1 = covB t c d p) := by
  unfold askC
  split
  · exact .inr ⟨rfl, rfl⟩
  · exact .inl rfl
theorem stepL_nf (t : GTask) (c : GCertificate) (d : Int) : ∀ (l : List (List Fact)) (r : Int), (∀ p ∈ l, covB t c d p = true) → NF (stepL t c d l r).1
  | [], r, _ => .inl rfl
  | p :: ps, r, h => by
    have ha := ask_nf t c p d r
    have hp := h p (List.mem_cons_self ..)
    rw [stepL]
    rcases hk : askC t c p d r with ⟨b, e, r'⟩
    rw [hk] at ha
    rcases ha with ha | ⟨ha, hb⟩
    · simp only at ha
      subst ha
      cases b <;> exact .inr rfl
    · simp only at ha hb
      subst ha
      rw [hp] at hb
      subst hb
      exact stepL_nf t c d ps r' (fun q hq => h q (List.mem_cons_of_mem _ hq))
section
variable {t : GTask} (hf : Fit t) {c : GCertificate} (hc : CertP t.Vars c) (ha : Acc t c)
include hf hc ha
theorem stepO_nf {n : Nogood} (hn : n ∈ c.Nogoods) {o : GOp} (ho : o ∈ t.Ops) (r : Int) : NF (stepO t c n o r).1 := by
  unfold stepO
  split
  · exact .inl rfl
  · rename_i hsk
    obtain ⟨l, l1, l2, -⟩ := regT hf.cap hf.good (hc.prop n hn) ho
    rw [l1]
    refine stepL_nf t c _ l r (fun p hp => (covB_true hf.good hc (l2 p hp) _).2 fun s hs hh => ?_)
    exact ha.step n hn o ho (Bool.eq_false_iff.2 hsk) s ((allF_mem t s).2 hs) ((inF_iff hf.good ho (stateF_st hs) (hc.prop n hn) l1).1 ⟨p, hp, hh⟩)
theorem opsC_nf {n : Nogood} (hn : n ∈ c.Nogoods) (i : Int) : ∀ (l : List GOp) (j r : Int), (∀ o ∈ l, o ∈ t.Ops) → (∃ r', opsC t c n i l j r = .inl r') ∨ ∃ x, opsC t c n i l j r = .inr x ∧ x.2.2 = .no 10
  | [], j, r, _ => .inl ⟨r, rfl⟩
  | o :: os, j, r, h => by
    have hs := stepO_nf hf hc ha hn (h o (List.mem_cons_self ..)) r
    rw [opsC]
    rcases hk : stepO t c n o r with ⟨e, r'⟩
    rw [hk] at hs
    rcases hs with hs | hs <;> (simp only at hs; subst hs)
    · exact opsC_nf hn i os (j + 1) r' (fun u hu => h u (List.mem_cons_of_mem _ hu))
    · exact .inr ⟨_, rfl, rfl⟩
theorem nogC_nf : ∀ (l : List Nogood) (i r : Int), (∀ n ∈ l, n ∈ c.Nogoods) → NF (nogC t c l i r).2.2
  | [], i, r, _ => .inl rfl
  | n :: ns, i, r, h => by
    rw [nogC]
    rcases opsC_nf hf hc ha (h n (List.mem_cons_self ..)) i t.Ops 0 r (fun _ h => h) with ⟨r', h1⟩ | ⟨x, h1, h2⟩
    · rw [h1]; exact nogC_nf ns (i + 1) r' (fun u hu => h u (List.mem_cons_of_mem _ hu))
    · rw [h1]; exact .inr h2
theorem acc_ver (steps : Int) : NF (verF t c steps) := by
  unfold verF whereF
  rw [(good_check t).1 hf.good]
  simp only
  rw [(properF_nil t.Vars c).2 hc]
  simp only
  unfold whereC
  have hi : ¬ (c.Nogoods.any fun n => holdsF t.Init n.1) = true := fun h => by
    obtain ⟨n, hn, h2⟩ := List.any_eq_true.1 h
    rw [ha.init n hn] at h2
    cases h2
  rw [if_neg hi]
  split
  · exact nogC_nf hf hc ha _ _ _ fun _ h => h
  · rename_i hb
    have hk := ask_nf t c t.Goal 0 (max 0 (min steps 1048576))
    have hg : covB t c 0 t.Goal = true := (covB_true hf.good hc (good_goal hf.good) 0).2 fun s hs hh => ha.goal hb s ((allF_mem t s).2 hs) hh
    rcases hk2 : askC t c t.Goal 0 (max 0 (min steps 1048576)) with ⟨b, e, r'⟩
    rw [hk2] at hk
    rcases hk with hk | ⟨hk, hb2⟩
    · simp only at hk; subst hk
      cases b <;> exact .inr rfl
    · simp only at hk hb2
      subst hk
      rw [hg] at hb2
      subst hb2
      exact nogC_nf hf hc ha _ _ _ fun _ h => h
end
end Go.Proofs.YtohjegemooakpaaGreat.Am
namespace Go.Proofs.YtohjegemooakpaaGreat.Am
set_option maxHeartbeats 16000000
set_option maxRecDepth 100000
open Go.RowKit
theorem zb_XDLwr {P : Prop} (h : P := by repeat (first | exact BWL.nil | exact bwll_nil | exact bw_c | exact BW.sl | exact BW.nil | exact bwll_same rfl FrI.h | refine BWL.cons ?_ ?_ | refine bwll_cons ?_ ?_ | (refine bw_own3 rfl rfl rfl FrI.h ?_ ?_ ?_) | exact BW.fr FrV.h | exact BW.fr (by assumption) | refine bw_agg ?_ | refine bw_clo ?_ | refine bw_ptr rfl rfl rfl ?_ | (refine bw_own rfl rfl rfl ?_ FrI.h ?_ ?_) | assumption | omega | rfl | (rw [List.length_map, ← List.length_append]; assumption) | (refine bwll_same ?_ FrI.h; (simp [cGTask, cI, cF, cGOp, cGEffect, cGCertificate, cN] <;> fail)) | (rw [List.map_set]; refine bwll_set (by first | rfl | omega | simp) ?_ ?_) | refine bwll_set (by first | rfl | omega | simp) ?_ ?_ | (rw [List.map_replicate]; refine bwll_rep ?_) | refine bwll_rep ?_ | (rw [List.map_append]; refine bwll_append ?_ ?_) | refine bwll_append ?_ ?_ | (simp [cGTask, cI, cF, cGOp, cGEffect, cGCertificate, cN, take_len_map] <;> fail) | (rw [List.drop_zero, List.take_of_length_le] <;> first | rfl | (simp [cGTask, cI, cF, cGOp, cGEffect, cGCertificate, cN] <;> fail)) | (simp; omega) | (simp only [List.length_map, List.length_append, List.drop_zero, List.length_cons, List.length_nil, Nat.zero_add, Nat.add_zero] at *; omega))) : P := h
theorem ci_XDLwr {p K : Prop} (k : K) (h : p := by first | rfl | exact ⟨rfl, rfl⟩ | exact BW.fr FrV.h | (refine BW.fr ?_; assumption) | (refine ⟨rfl, ?_⟩; (simp [cGTask, cI, cF, cGOp, cGEffect, cGCertificate, cN, take_len_map]; done)) | (refine RowK.same ?_ FrI.h; first | rfl | (simp [cGTask, cI, cF, cGOp, cGEffect, cGCertificate, cN, take_len_map]; done)) | (refine row_part1 ?_; (exact zb_XDLwr); done) | ((exact zb_XDLwr); done) | (simp [cGTask, cI, cF, cGOp, cGEffect, cGCertificate, cN, take_len_map]; done)) : p ∧ K := ⟨h, k⟩
theorem ca_XDLwr {P : Prop} (h : P := by repeat (first | exact True.intro | refine ci_XDLwr ?_)) : P := h
theorem pr_XDLwr {p K : Prop} (k : K) (h : p := by first | assumption | exact Int.natCast_nonneg _ | exact Nat.le_refl _ | exact Nat.zero_le _ | omega | (simp; done) | (simp; omega)) : p ∧ K := ⟨h, k⟩
theorem dr_XDLwr {b : Bool} {p K : Prop} (k : K) (h : b = true → p := by intro h; first | (cases h; done) | exact ⟨by kernel_rfl, by kernel_rfl⟩) : (b = true → p) ∧ K := ⟨h, k⟩
theorem cl_XDLwr {C : Cx} {n : Nat} {o : Oper} {τ : Nat → AV} {η : Nat → Ent} {f : FuncId} {os : Array Operand} {ats : Array TypeId} {r : AV} {args : List AV} {K : Foot → Prop} (ho : o.op = .call ⟨.value (.func f), os, ats⟩) (hc : ACall C f args r) (k : K ⟨r, [], []⟩)
    (hd : InB n o.dst := by exact Nat.le_of_ble_eq_true rfl) (hargs : os.toList.map (evA τ) = args := by first | rfl | (simp [cGTask, cI, cF, cGOp, cGEffect, cGCertificate, cN]; done) | (repeat (first | exact rfl | refine cons_eq ?_ ?_ | exact sl_dt rfl))) (hfr : frs args := by repeat (first | exact trivial | exact fr1_eA _ | exact fr0_eA _ | exact fr1_fr (by assumption) | exact FrV.h | refine And.intro ?_ ?_)) (hr : fr1 r := by repeat (first | exact trivial | exact fr1_eA _ | exact fr0_eA _ | exact fr1_fr (by assumption) | exact FrV.h | refine And.intro ?_ ?_)) : ∃ f : Foot, LF C n o τ η f ∧ K f := ⟨_, lf_call ho hd hargs hc hfr hr, k⟩
theorem clb_XDLwr {C : Cx} {n : Nat} {o : Oper} {τ : Nat → AV} {η : Nat → Ent} {f : FuncId} {os : Array Operand} {ats : Array TypeId} {r : AV} {xs ys : List AV} {K : Foot → Prop} (bs : List Nat) (ho : o.op = .call ⟨.value (.func f), os, ats⟩) (hargs : os.toList.map (evA τ) = xs) (hc : ACall C f ys r) (k : K ⟨r, [], bs⟩)
    (hd : InB n o.dst := by exact Nat.le_of_ble_eq_true rfl) (hb : BWL η (dropB η bs) xs ys := by exact zb_XDLwr) (hr : scal r := by repeat (first | exact trivial | exact scal0_eA _ | exact scal_eA _ | refine And.intro ?_ ?_)) : ∃ f : Foot, LF C n o τ η f ∧ K f := ⟨_, lf_callB bs ho hd hargs hb hc hr, k⟩
def M_l30_Same_L1 (a0 : GCertificate) (a1 : GCertificate) : Nat → Int → Option (Bool)
  | 0, _ => none
  | k15 + 1, v14 =>
    sel (decide (v14 < ((a0.Nogoods.map cN).length : Int)))
     (ix a0.Nogoods v14 (fun y16 =>
       ix a1.Nogoods v14 (fun y17 =>
        sel (y16.2 != y17.2)
         (some false)
         (ix a0.Nogoods v14 (fun y18 =>
           ix a1.Nogoods v14 (fun y19 =>
            ob1 (M_b_Facts y18.1 y19.1) (fun z20 =>
             sel (!z20)
              (some false)
              (M_l30_Same_L1 a0 a1 k15 (IntKind.i64.wrap (v14 + 1))))))))))
     (some true)
def M_l30_Same (a0 : GCertificate) (a1 : GCertificate) : Option (Bool) :=
  ob1 (sel (a0.Bound != a1.Bound)
    (some (.inr false))
    (sel (((a0.Nogoods.map cN).length : Int) != ((a1.Nogoods.map cN).length : Int))
      (some (.inr false))
      (some (.inl ()))) : Option (Unit ⊕ Bool))
   (osum
   (fun _ => M_l30_Same_L1 a0 a1 ((((a0.Nogoods.map cN).length : Int)).toNat + 1) 0)
   (fun r1 => some r1))
theorem A_l30_Same (a0 : GCertificate) (a1 : GCertificate) {r1 : Bool} (h : M_l30_Same a0 a1 = some r1) : ACall cx 24 [.agg [.c (.int .i64 a0.Bound), .sl 2 (a0.Nogoods.map cN)], .agg [.c (.int .i64 a1.Bound), .sl 2 (a1.Nogoods.map cN)]] (.c (.bool r1)) := by
  refine aOf Tryz.func24 rfl (by decide) rfl (Nat.le_of_ble_eq_true rfl) ?_; intro _; unfold M_l30_Same at h; refine aSR ?_; intro _; refine dr_XDLwr ?_; obtain ⟨o1, h, hK2⟩ := ob1_ok h; refine awp_cut (α := Unit) (fun _ => mkS 56 [(2, .ptr 2 0 0 0), (3, .ptr 3 0 0 0)] [(2, ⟨31, 2, true, [[.c (.int .i64 a0.Bound), .sl 2 (a0.Nogoods.map cN)]]⟩), (3, ⟨31, 2, true, [[.c (.int .i64 a1.Bound), .sl 2 (a1.Nogoods.map cN)]]⟩)]) (fun v => o1 = (.inl v)) ?_ ?_
  · refine aSR ?_; intro _; refine spf h (fun c3 h => ?_) (fun c3 h => ?_)
    · intro _; refine dr_XDLwr ?_; refine aCd ?_; intro _; refine spl h (fun c4 h => ?_) (fun c4 h => ?_)
      · refine aSR ?_; intro _; refine dr_XDLwr ?_; refine aRt ?_; have j5 := Option.some.inj h; subst j5; replace h := (osum_r hK2); intro _; obtain rfl := inj1 h; exact ca_XDLwr
      · refine aSk ?_; refine ⟨(), (Option.some.inj h).symm, ?_⟩; exact ca_XDLwr
    · intro _; refine dr_XDLwr ?_; refine aCd ?_; intro _; refine litT ?_; refine aSR ?_; intro _; refine dr_XDLwr ?_; refine aRt ?_; have j6 := Option.some.inj h; subst j6; replace h := (osum_r hK2); intro _; obtain rfl := inj1 h; exact ca_XDLwr
  · rintro _ ho; have ho := ho.symm; subst ho; intro _; replace h := (osum_l hK2); refine aSq ?_; refine aSR ?_; intro _; refine dr_XDLwr ?_; refine aBk ?_; refine awp_loop (α := Nat × Int) (fun x => mkS 56 [(2, .ptr 2 0 0 0), (3, .ptr 3 0 0 0), (22, .c (.int .i64 ((a0.Nogoods.map cN).length : Int))), (23, .c (.int .i64 x.2))] [(2, ⟨31, 2, true, [[.c (.int .i64 a0.Bound), .sl 2 (a0.Nogoods.map cN)]]⟩), (3, ⟨31, 2, true, [[.c (.int .i64 a1.Bound), .sl 2 (a1.Nogoods.map cN)]]⟩)]) (fun x => M_l30_Same_L1 a0 a1 x.1 x.2 = some r1) (fun x => x.1) ((((a0.Nogoods.map cN).length : Int)).toNat + 1, 0) h ?_ ?_
    · exact ca_XDLwr
    · intro x7 h; intro _; obtain ⟨k15, m8, h⟩ := succ_of (f := fun n => M_l30_Same_L1 a0 a1 n x7.2) rfl h; replace h : M_l30_Same_L1 a0 a1 (k15 + 1) x7.2 = some r1 := h; rw [M_l30_Same_L1] at h; refine aSR ?_; intro _; refine dr_XDLwr ?_; refine aSq ?_; refine aCd ?_; intro _; refine spl h (fun c9 h => ?_) (fun c9 h => ?_)
      · refine aSk ?_; refine aSq ?_; refine aBk ?_; refine aSR ?_; intro _; refine dr_XDLwr ?_; refine aSR ?_; intro _; obtain ⟨y16, w10, q11, h⟩ := ix_ok h; refine Exists.intro (cN y16) (And.intro (map_at' w10) ?_); intro _; obtain ⟨y17, w12, q13, h⟩ := ix_ok h; refine Exists.intro (cN y17) (And.intro (map_at' w12) ?_); intro _; refine spf h (fun c14 h => ?_) (fun c14 h => ?_)
        · intro _; obtain ⟨y18, w15, q16, h⟩ := ix_ok h; refine Exists.intro (cN y18) (And.intro (map_at' w15) ?_); intro _; obtain ⟨y19, w17, q18, h⟩ := ix_ok h; refine Exists.intro (cN y19) (And.intro (map_at' w17) ?_); intro _; obtain ⟨z20, u19, h⟩ := ob1_ok h; refine cl_XDLwr rfl (A_b_Facts y18.1 y19.1 u19) ?_; intro _; refine pr_XDLwr ?_; refine pr_XDLwr ?_; refine pr_XDLwr ?_; refine pr_XDLwr ?_; refine dr_XDLwr ?_; refine aCd ?_; intro _; refine spl h (fun c20 h => ?_) (fun c20 h => ?_)
          · refine aSR ?_; intro _; refine dr_XDLwr ?_; refine aRt ?_; intro _; obtain rfl := inj1 h; exact ca_XDLwr
          · refine aSk ?_; refine aRg ?_; intro _; refine dr_XDLwr ?_; refine ⟨(k15, (IntKind.i64.wrap (x7.2 + 1))), h, ltS m8, ?_⟩; exact ca_XDLwr
        · intro _; refine pr_XDLwr ?_; refine pr_XDLwr ?_; refine dr_XDLwr ?_; refine aCd ?_; intro _; refine litT ?_; refine aSR ?_; intro _; refine dr_XDLwr ?_; refine aRt ?_; intro _; obtain rfl := inj1 h; exact ca_XDLwr
      · refine aEx ?_; refine aSR ?_; intro _; refine dr_XDLwr ?_; refine aRt ?_; intro _; obtain rfl := inj1 h; exact ca_XDLwr
def M_b_Best (g : Nat) (a0 : GTask) : Option (Int) :=
  ob1 (M_b_Distances g a0 []) (fun z1 =>
   ob1 (M_b_Rank a0.Vars a0.Init) (fun z2 =>
    ix z1 z2 (fun y3 =>
     some y3)))
theorem A_b_Best (g : Nat) (a0 : GTask) {r1 : Int} (h : M_b_Best g a0 = some r1) : ACall cx 25 [.agg [.sl 1 (a0.Vars.map cI), .sl 1 (a0.Init.map cI), .sl 2 (a0.Goal.map cF), .sl 4 (a0.Ops.map cGOp)]] (.c (.int .i64 r1)) := by
  refine aOf Tryz.func25 rfl (by decide) rfl (Nat.le_of_ble_eq_true rfl) ?_; intro _; unfold M_b_Best at h; refine aSR ?_; intro _; refine dr_XDLwr ?_; refine aSR ?_; intro _; obtain ⟨z1, u1, h⟩ := ob1_ok h; refine cl_XDLwr rfl (A_b_Distances g a0 [] u1) ?_; intro _; obtain ⟨z2, u2, h⟩ := ob1_ok h; refine cl_XDLwr rfl (A_b_Rank a0.Vars a0.Init u2) ?_; intro _; obtain ⟨y3, w3, q4, h⟩ := ix_ok h; refine Exists.intro (cI y3) (And.intro (map_at' w3) ?_); intro _; refine pr_XDLwr ?_; refine dr_XDLwr ?_; refine aRt ?_; intro _; obtain rfl := inj1 h; exact ca_XDLwr
def M_l32_CertifyLower (g : Nat) (a0 : GTask) (a1 : Int) : Option (Bool) :=
  ob1 (ob1 (M_l32_fit a0) (fun z7 =>
    sel (!z7)
     (ob1 (M_l32_awake g) (fun z10 =>
       some (.inr z10)))
     (ob1 (M_l32_awake g) (fun z8 =>
       sel (!z8)
        (ob1 (M_l32_awake g) (fun z9 =>
          some (.inr z9)))
        (some (.inl ()))))) : Option (Unit ⊕ Bool))
   (osum
   (fun _ => ob2 (M_certify_Lower g a0 a1 4096) (fun z11 z12 =>
      ob1 (sel (decide (a1 < (-1)))
        (ob1 (M_b_Is z12 1) (fun z21 =>
          sel z21
           (ob1 (M_l30_Same z11 ({ Bound := 0, Nogoods := [] : GCertificate })) (fun z22 =>
             some (.inr z22)))
           (some (.inr false))))
        (sel (decide (a1 > 1099511627776))
          (ob1 (M_b_Is z12 1) (fun z19 =>
            sel z19
             (ob1 (M_l30_Same z11 ({ Bound := 0, Nogoods := [] : GCertificate })) (fun z20 =>
               some (.inr z20)))
             (some (.inr false))))
          (some (.inl ()))) : Option (Unit ⊕ Bool))
       (osum
       (fun _ => ob1 (M_b_Best g a0) (fun z23 =>
          ob1 (sel (decide (a1 < 0))
            (sel (decide (z23 < 1125899906842624))
              (ob1 (M_b_Is z12 13) (fun z34 =>
                sel z34
                 (ob1 (M_l30_Same z11 ({ Bound := 0, Nogoods := [] : GCertificate })) (fun z35 =>
                   some (.inr z35)))
                 (some (.inr false))))
              (sel (decide (a1 > z23))
                (ob1 (M_b_Is z12 13) (fun z32 =>
                  sel z32
                   (ob1 (M_l30_Same z11 ({ Bound := 0, Nogoods := [] : GCertificate })) (fun z33 =>
                     some (.inr z33)))
                   (some (.inr false))))
                (some (.inl ()))))
            (sel (decide (a1 > z23))
              (ob1 (M_b_Is z12 13) (fun z36 =>
                sel z36
                 (ob1 (M_l30_Same z11 ({ Bound := 0, Nogoods := [] : GCertificate })) (fun z37 =>
                   some (.inr z37)))
                 (some (.inr false))))
              (some (.inl ()))) : Option (Unit ⊕ Bool))
           (osum
           (fun _ => ob1 (M_checker_Verify g a0 z11 1048576) (fun z38 =>
              erM z12
               (erM z38
                 (sel (z11.Bound == a1)
                   (some true)
                   (some false))
                 (fun e40 => sel (z11.Bound == a1)
                   (ob1 (M_b_Is (Er.no e40) 10) (fun z41 =>
                     sel z41
                      (some (decide (((z11.Nogoods.map cN).length : Int) > 100)))
                      (some false)))
                   (some false)))
               (fun _ => some false)))
           (fun r30 => some r30))))
       (fun r17 => some r17))))
   (fun r5 => some r5))
theorem A_l32_CertifyLower (g : Nat) (a0 : GTask) (a1 : Int) {r1 : Bool} (h : M_l32_CertifyLower g a0 a1 = some r1) : ACall cx 6 [.agg [.sl 1 (a0.Vars.map cI), .sl 1 (a0.Init.map cI), .sl 2 (a0.Goal.map cF), .sl 4 (a0.Ops.map cGOp)], .c (.int .i64 a1)] (.c (.bool r1)) := by
  refine aOf Tryz.func6 rfl (by decide) rfl (Nat.le_of_ble_eq_true rfl) ?_; intro _; unfold M_l32_CertifyLower at h; refine aSR ?_; intro _; refine dr_XDLwr ?_; obtain ⟨o1, h, hK2⟩ := ob1_ok h; refine awp_cut (α := Unit) (fun _ => mkS 81 [(1, .c (.int .i64 a1)), (2, .ptr 2 0 0 0)] [(2, ⟨26, 4, true, [[.sl 1 (a0.Vars.map cI), .sl 1 (a0.Init.map cI), .sl 2 (a0.Goal.map cF), .sl 4 (a0.Ops.map cGOp)]]⟩)]) (fun v => o1 = (.inl v)) ?_ ?_
  · refine aSR ?_; intro _; obtain ⟨z7, u3, h⟩ := ob1_ok h; refine cl_XDLwr rfl (A_l32_fit a0 u3) ?_; intro _; refine spf h (fun c4 h => ?_) (fun c4 h => ?_)
    · intro _; obtain ⟨z8, u5, h⟩ := ob1_ok h; refine cl_XDLwr rfl (A_l32_awake g u5) ?_; intro _; refine dr_XDLwr ?_; refine aCd ?_; intro _; refine spl h (fun c6 h => ?_) (fun c6 h => ?_)
      · refine aSR ?_; intro _; obtain ⟨z9, u7, h⟩ := ob1_ok h; refine cl_XDLwr rfl (A_l32_awake g u7) ?_; intro _; refine dr_XDLwr ?_; refine aRt ?_; have j8 := Option.some.inj h; subst j8; replace h := (osum_r hK2); intro _; obtain rfl := inj1 h; exact ca_XDLwr
      · refine aSk ?_; refine ⟨(), (Option.some.inj h).symm, ?_⟩; exact ca_XDLwr
    · intro _; refine dr_XDLwr ?_; refine aCd ?_; intro _; refine litT ?_; refine aSR ?_; intro _; obtain ⟨z10, u9, h⟩ := ob1_ok h; refine cl_XDLwr rfl (A_l32_awake g u9) ?_; intro _; refine dr_XDLwr ?_; refine aRt ?_; have j10 := Option.some.inj h; subst j10; replace h := (osum_r hK2); intro _; obtain rfl := inj1 h; exact ca_XDLwr
  · rintro _ ho; have ho := ho.symm; subst ho; intro _; replace h := (osum_l hK2); refine aSR ?_; intro _; obtain ⟨z11, z12, u11, h⟩ := ob2_ok h; refine cl_XDLwr rfl (A_certify_Lower g a0 a1 4096 u11) ?_; intro _; refine dr_XDLwr ?_; obtain ⟨o12, h, hK13⟩ := ob1_ok h; refine awp_cut (α := Unit) (fun _ => mkS 81 [(1, .c (.int .i64 a1)), (2, .ptr 2 0 0 0), (5, .ptr 5 0 0 0), (6, eA z12)] [(2, ⟨26, 4, true, [[.sl 1 (a0.Vars.map cI), .sl 1 (a0.Init.map cI), .sl 2 (a0.Goal.map cF), .sl 4 (a0.Ops.map cGOp)]]⟩), (5, ⟨31, 2, true, [[.c (.int .i64 z11.Bound), .sl 2 (z11.Nogoods.map cN)]]⟩)]) (fun v => o12 = (.inl v)) ?_ ?_
    · refine aSR ?_; intro _; refine spf h (fun c14 h => ?_) (fun c14 h => ?_)
      · intro _; refine dr_XDLwr ?_; refine aCd ?_; intro _; refine spl h (fun c15 h => ?_) (fun c15 h => ?_)
        · refine aSR ?_; intro _; obtain ⟨z19, u16, h⟩ := ob1_ok h; refine cl_XDLwr rfl (A_b_Is z12 1 u16) ?_; intro _; refine spl h (fun c17 h => ?_) (fun c17 h => ?_)
          · intro _; obtain ⟨z20, u18, h⟩ := ob1_ok h; refine clb_XDLwr [] rfl rfl (A_l30_Same z11 ({ Bound := 0, Nogoods := [] : GCertificate }) u18) ?_; intro _; refine dr_XDLwr ?_; refine aRt ?_; have j19 := Option.some.inj h; subst j19; replace h := (osum_r hK13); intro _; obtain rfl := inj1 h; exact ca_XDLwr
          · intro _; refine dr_XDLwr ?_; refine aRt ?_; have j20 := Option.some.inj h; subst j20; replace h := (osum_r hK13); intro _; obtain rfl := inj1 h; exact ca_XDLwr
        · refine aSk ?_; refine ⟨(), (Option.some.inj h).symm, ?_⟩; all_goals (cases z12); all_goals exact ca_XDLwr
      · intro _; refine dr_XDLwr ?_; refine aCd ?_; intro _; refine litT ?_; refine aSR ?_; intro _; obtain ⟨z21, u21, h⟩ := ob1_ok h; refine cl_XDLwr rfl (A_b_Is z12 1 u21) ?_; intro _; refine spl h (fun c22 h => ?_) (fun c22 h => ?_)
        · intro _; obtain ⟨z22, u23, h⟩ := ob1_ok h; refine clb_XDLwr [] rfl rfl (A_l30_Same z11 ({ Bound := 0, Nogoods := [] : GCertificate }) u23) ?_; intro _; refine dr_XDLwr ?_; refine aRt ?_; have j24 := Option.some.inj h; subst j24; replace h := (osum_r hK13); intro _; obtain rfl := inj1 h; exact ca_XDLwr
        · intro _; refine dr_XDLwr ?_; refine aRt ?_; have j25 := Option.some.inj h; subst j25; replace h := (osum_r hK13); intro _; obtain rfl := inj1 h; exact ca_XDLwr
    · rintro _ ho; have ho := ho.symm; subst ho; intro _; replace h := (osum_l hK13); refine aSR ?_; intro _; obtain ⟨z23, u26, h⟩ := ob1_ok h; refine cl_XDLwr rfl (A_b_Best g a0 u26) ?_; intro _; refine dr_XDLwr ?_; obtain ⟨o27, h, hK28⟩ := ob1_ok h; refine awp_cut (α := Unit) (fun _ => mkS 81 [(1, .c (.int .i64 a1)), (2, .ptr 2 0 0 0), (5, .ptr 5 0 0 0), (6, eA z12)] [(2, ⟨26, 4, true, [[.sl 1 (a0.Vars.map cI), .sl 1 (a0.Init.map cI), .sl 2 (a0.Goal.map cF), .sl 4 (a0.Ops.map cGOp)]]⟩), (5, ⟨31, 2, true, [[.c (.int .i64 z11.Bound), .sl 2 (z11.Nogoods.map cN)]]⟩)]) (fun v => o27 = (.inl v)) ?_ ?_
      · refine aSR ?_; intro _; refine spl h (fun c29 h => ?_) (fun c29 h => ?_)
        · intro _; refine spf h (fun c30 h => ?_) (fun c30 h => ?_)
          · intro _; refine dr_XDLwr ?_; refine aCd ?_; intro _; refine spl h (fun c31 h => ?_) (fun c31 h => ?_)
            · refine aSR ?_; intro _; obtain ⟨z32, u32, h⟩ := ob1_ok h; refine cl_XDLwr rfl (A_b_Is z12 13 u32) ?_; intro _; refine spl h (fun c33 h => ?_) (fun c33 h => ?_)
              · intro _; obtain ⟨z33, u34, h⟩ := ob1_ok h; refine clb_XDLwr [] rfl rfl (A_l30_Same z11 ({ Bound := 0, Nogoods := [] : GCertificate }) u34) ?_; intro _; refine dr_XDLwr ?_; refine aRt ?_; have j35 := Option.some.inj h; subst j35; replace h := (osum_r hK28); intro _; obtain rfl := inj1 h; exact ca_XDLwr
              · intro _; refine dr_XDLwr ?_; refine aRt ?_; have j36 := Option.some.inj h; subst j36; replace h := (osum_r hK28); intro _; obtain rfl := inj1 h; exact ca_XDLwr
            · refine aSk ?_; refine ⟨(), (Option.some.inj h).symm, ?_⟩; all_goals (cases z12); all_goals exact ca_XDLwr
          · intro _; refine dr_XDLwr ?_; refine aCd ?_; intro _; refine litT ?_; refine aSR ?_; intro _; obtain ⟨z34, u37, h⟩ := ob1_ok h; refine cl_XDLwr rfl (A_b_Is z12 13 u37) ?_; intro _; refine spl h (fun c38 h => ?_) (fun c38 h => ?_)
            · intro _; obtain ⟨z35, u39, h⟩ := ob1_ok h; refine clb_XDLwr [] rfl rfl (A_l30_Same z11 ({ Bound := 0, Nogoods := [] : GCertificate }) u39) ?_; intro _; refine dr_XDLwr ?_; refine aRt ?_; have j40 := Option.some.inj h; subst j40; replace h := (osum_r hK28); intro _; obtain rfl := inj1 h; exact ca_XDLwr
            · intro _; refine dr_XDLwr ?_; refine aRt ?_; have j41 := Option.some.inj h; subst j41; replace h := (osum_r hK28); intro _; obtain rfl := inj1 h; exact ca_XDLwr
        · intro _; refine dr_XDLwr ?_; refine aCd ?_; intro _; refine spl h (fun c42 h => ?_) (fun c42 h => ?_)
          · refine aSR ?_; intro _; obtain ⟨z36, u43, h⟩ := ob1_ok h; refine cl_XDLwr rfl (A_b_Is z12 13 u43) ?_; intro _; refine spl h (fun c44 h => ?_) (fun c44 h => ?_)
            · intro _; obtain ⟨z37, u45, h⟩ := ob1_ok h; refine clb_XDLwr [] rfl rfl (A_l30_Same z11 ({ Bound := 0, Nogoods := [] : GCertificate }) u45) ?_; intro _; refine dr_XDLwr ?_; refine aRt ?_; have j46 := Option.some.inj h; subst j46; replace h := (osum_r hK28); intro _; obtain rfl := inj1 h; exact ca_XDLwr
            · intro _; refine dr_XDLwr ?_; refine aRt ?_; have j47 := Option.some.inj h; subst j47; replace h := (osum_r hK28); intro _; obtain rfl := inj1 h; exact ca_XDLwr
          · refine aSk ?_; refine ⟨(), (Option.some.inj h).symm, ?_⟩; all_goals (cases z12); all_goals exact ca_XDLwr
      · rintro _ ho; have ho := ho.symm; subst ho; intro _; replace h := (osum_l hK28); refine aSR ?_; intro _; obtain ⟨z38, u48, h⟩ := ob1_ok h; refine cl_XDLwr rfl (A_checker_Verify g a0 z11 1048576 u48) ?_; intro _; refine dr_XDLwr ?_; refine aSq ?_; rcases z12 with _ | e39
        · replace h := erM_nil h; rcases z38 with _ | e40
          · replace h := erM_nil h; refine aRg ?_; intro _; refine litT ?_; intro _; refine spl h (fun c49 h => ?_) (fun c49 h => ?_)
            · intro _; refine litTf ?_; intro _; refine dr_XDLwr ?_; refine aRt ?_; intro _; obtain rfl := inj1 h; exact ca_XDLwr
            · intro _; refine dr_XDLwr ?_; refine aRt ?_; intro _; obtain rfl := inj1 h; exact ca_XDLwr
          · replace h := erM_no h; refine aRg ?_; intro _; refine litT ?_; intro _; refine spl h (fun c50 h => ?_) (fun c50 h => ?_)
            · intro _; refine litFf ?_; intro _; obtain ⟨z41, u51, h⟩ := ob1_ok h; refine cl_XDLwr rfl (A_b_Is (Er.no e40) 10 u51) ?_; intro _; refine spl h (fun c52 h => ?_) (fun c52 h => ?_)
              · intro _; refine dr_XDLwr ?_; refine aRt ?_; intro _; obtain rfl := inj1 h; exact ca_XDLwr
              · intro _; refine dr_XDLwr ?_; refine aRt ?_; intro _; obtain rfl := inj1 h; exact ca_XDLwr
            · intro _; refine dr_XDLwr ?_; refine aRt ?_; intro _; obtain rfl := inj1 h; exact ca_XDLwr
        · replace h := erM_no h; refine aRg ?_; intro _; refine litF ?_; intro _; refine dr_XDLwr ?_; refine aRt ?_; intro _; obtain rfl := inj1 h; exact ca_XDLwr
end Go.Proofs.YtohjegemooakpaaGreat.Am
namespace Go.Proofs.YtohjegemooakpaaGreat.Am
def M_l30_Same_L1_B (a0 : GCertificate) (a1 : GCertificate) (_y16 : Nogood) (v14 : Int) : Unit → (Unit → Option (Bool)) → Option (Bool) := fun _ rc => ixv _y16 (fun y16 =>
       ix a1.Nogoods v14 (fun y17 =>
        sel (y16.2 != y17.2)
         (some false)
         (ix a0.Nogoods v14 (fun y18 =>
           ix a1.Nogoods v14 (fun y19 =>
            ob1 (M_b_Facts y18.1 y19.1) (fun z20 =>
             sel (!z20)
              (some false)
              (rc ())))))))
def M_l30_Same_L1_E (_ : GCertificate) (_ : GCertificate) : Unit → Option (Bool) := fun _ => some true
theorem M_l30_Same_L1_eq (a0 : GCertificate) (a1 : GCertificate)  (hl : a0.Nogoods.length < 9223372036854775807) : M_l30_Same_L1 a0 a1 (((a0.Nogoods.map cN).length : Int).toNat + 1) 0 = Rg (M_l30_Same_L1_B a0 a1) (M_l30_Same_L1_E a0 a1) a0.Nogoods 0 () := rg_e1 (L := fun k i _ => M_l30_Same_L1 a0 a1 k i) hl (fun _ _ _ => rfl) ()
end Go.Proofs.YtohjegemooakpaaGreat.Am
namespace Go.Proofs.YtohjegemooakpaaGreat.Am
open Go.RowKit
theorem bfacts_loop (a b : List Fact) : ∀ (r s : List Fact) (n : Nat), a.drop n = r → b.drop n = s → r.length = s.length → Rg (M_b_Facts_L1_B a b) (M_b_Facts_L1_E a b) r n () = some (decide (r = s))
  | [], [], n, _, _, _ => by rw [Rg, M_b_Facts_L1_E, decide_eq_true rfl]
  | [], _ :: _, n, _, _, h => by cases h
  | _ :: _, [], n, _, _, h => by cases h
  | x :: r, y :: s, n, h1, h2, hl => by
    obtain ⟨hy, hd, -⟩ := drop_cons h2
    have ih := bfacts_loop a b r s (n + 1) (drop_cons h1).2.1 hd (by simpa using hl)
    rw [Rg, M_b_Facts_L1_B, ixv, ix_at hy, fact_beq]
    by_cases e : x = y
    · rw [decide_eq_true e, Bool.not_true, sel_ff]
      refine Eq.trans ih ?_
      subst e; simp
    · rw [decide_eq_false e, Bool.not_false, sel_tt, decide_eq_false]
      intro h; exact e (List.cons.inj h).1
theorem bfacts_eq (a b : List Fact) (ha : Sh a) : M_b_Facts a b = some (decide (a = b)) := by
  rw [M_b_Facts, List.length_map, List.length_map, bne_len]
  by_cases h : a.length = b.length
  · rw [decide_eq_false (by simp [h]), sel_ff]
    have e := M_b_Facts_L1_eq a b ha.lt
    rw [List.length_map] at e
    rw [e]
    exact bfacts_loop a b a b 0 rfl rfl h
  · rw [decide_eq_true h, sel_tt, decide_eq_false]
    rintro rfl; exact h rfl
theorem same_refl (c : GCertificate) (hl : c.Nogoods.length ≤ 1000) (hn : ∀ n ∈ c.Nogoods, n.1.length ≤ 1000) : M_l30_Same c c = some true := by
  have key : ∀ (r : List Nogood) (n : Nat), c.Nogoods.drop n = r → n ≤ c.Nogoods.length → Rg (M_l30_Same_L1_B c c) (M_l30_Same_L1_E c c) r n () = some true := by
    intro r
    induction r with
    | nil => intro n _ _; rfl
    | cons y r ih =>
      intro n hd hle
      obtain ⟨hy, hd', hlt⟩ := drop_cons hd
      have h1 := ih (n + 1) hd' (by omega)
      rw [show ((n + 1 : Nat) : Int) = (n : Int) + 1 from rfl] at h1
      have hm := hn y (List.mem_of_getElem? hy)
      rw [Rg, M_l30_Same_L1_B, ixv]
      simp only [ix_at hy]
      rw [show (y.2 != y.2) = false from by rw [bne_eq_false_iff_eq], sel_ff, bfacts_eq y.1 y.1 (by unfold Sh; omega), ob1_some, decide_eq_true rfl, Bool.not_true, sel_ff]
      exact h1
  rw [M_l30_Same, show (c.Bound != c.Bound) = false from by rw [bne_eq_false_iff_eq], sel_ff, show ((((c.Nogoods.map cN).length : Nat) : Int) != (((c.Nogoods.map cN).length : Nat) : Int)) = false from by rw [bne_eq_false_iff_eq], sel_ff, ob1_some, osum_inl, M_l30_Same_L1_eq c c (by omega)]
  exact key c.Nogoods 0 (List.drop_zero ..) (Nat.zero_le _)
theorem ask_one {t : GTask} {c : GCertificate} {p : List Fact} {d r : Int} (h : Covd c.Nogoods p d) (hr : 1 ≤ r) : askC t c p d r = (true, .nil, r - 1) := by
  have h1 : covA t.Vars p (countL c.Nogoods d) = (true, 1) := by
    obtain ⟨n, hn, h1, h2⟩ := h
    rw [covA, decA, if_pos]
    exact List.any_eq_true.2 ⟨n.1, List.mem_map.2 ⟨n, List.mem_filter.2 ⟨hn, decide_eq_true h1⟩, rfl⟩, h2⟩
  unfold askC
  rw [h1, if_pos hr]
structure Found (t : GTask) (c : GCertificate) : Prop where
  init : ∀ n ∈ c.Nogoods, holdsF t.Init n.1 = false
  goal : c.Bound ≠ 0 → Covd c.Nogoods t.Goal 0
  step : ∀ n ∈ c.Nogoods, ∀ o ∈ t.Ops, skipO c n o = false → ∀ l, regO t.Vars o n.1 = some l → ∀ p ∈ l, Covd c.Nogoods p (distO c n o)
theorem stepL_one {t : GTask} {c : GCertificate} (d : Int) : ∀ (l : List (List Fact)) (r : Int), (∀ p ∈ l, Covd c.Nogoods p d) → (l.length : Int) ≤ r → stepL t c d l r = (.nil, r - (l.length : Int))
  | [], r, _, _ => by rw [stepL, List.length_nil]; congr 1; omega
  | p :: ps, r, h, hr => by
    rw [List.length_cons] at hr ⊢
    rw [stepL, ask_one (h p (List.mem_cons_self ..)) (by omega)]
    show stepL t c d ps (r - 1) = _
    rw [stepL_one d ps (r - 1) (fun q hq => h q (List.mem_cons_of_mem _ hq)) (by omega)]
    congr 1
    omega
section
variable {t : GTask} (hf : Fit t) {c : GCertificate} (hp : ∀ n ∈ c.Nogoods, propF t.Vars (-1) n.1 = true) (ha : Found t c)
include hf hp ha
theorem stepO_one {n : Nogood} (hn : n ∈ c.Nogoods) {o : GOp} (ho : o ∈ t.Ops) (r : Int) (hr : 1024 ≤ r) : ∃ r', stepO t c n o r = (.nil, r') ∧ r - 1024 ≤ r' := by
  unfold stepO
  split
  · exact ⟨r, rfl, by omega⟩
  · rename_i hsk
    obtain ⟨l, l1, l2, l3⟩ := regT hf.cap hf.good (hp n hn) ho
    rw [l1]
    refine ⟨r - (l.length : Int), stepL_one _ l r (ha.step n hn o ho (Bool.eq_false_iff.2 hsk) l l1) (by omega), by omega⟩
theorem opsC_one {n : Nogood} (hn : n ∈ c.Nogoods) (i : Int) : ∀ (l : List GOp) (j r : Int), (∀ o ∈ l, o ∈ t.Ops) → 1024 * (l.length : Int) ≤ r → ∃ r', opsC t c n i l j r = .inl r' ∧ r - 1024 * (l.length : Int) ≤ r'
  | [], j, r, _, _ => ⟨r, rfl, by simp⟩
  | o :: os, j, r, h, hr => by
    rw [List.length_cons] at hr ⊢
    obtain ⟨r1, h1, h2⟩ := stepO_one hf hp ha hn (h o (List.mem_cons_self ..)) r (by omega)
    obtain ⟨r2, h3, h4⟩ := opsC_one hn i os (j + 1) r1 (fun u hu => h u (List.mem_cons_of_mem _ hu)) (by omega)
    exact ⟨r2, by rw [opsC, h1]; exact h3, by omega⟩
theorem nogC_one : ∀ (l : List Nogood) (i r : Int), (∀ n ∈ l, n ∈ c.Nogoods) → 10240 * (l.length : Int) ≤ r → nogC t c l i r = (-1, -1, .nil)
  | [], i, r, _, _ => rfl
  | n :: ns, i, r, h, hr => by
    rw [List.length_cons] at hr
    have ho := hf.ops
    obtain ⟨r1, h1, h2⟩ := opsC_one hf hp ha (h n (List.mem_cons_self ..)) i t.Ops 0 r (fun _ h => h) (by omega)
    rw [nogC, h1]
    exact nogC_one ns (i + 1) r1 (fun u hu => h u (List.mem_cons_of_mem _ hu)) (by omega)
theorem ver_one (hc : CertP t.Vars c) (hl : c.Nogoods.length ≤ 100) : verF t c 1048576 = .nil := by
  unfold verF whereF
  rw [(good_check t).1 hf.good]
  simp only
  rw [(properF_nil t.Vars c).2 hc]
  simp only
  unfold whereC
  have hi : ¬ (c.Nogoods.any fun n => holdsF t.Init n.1) = true := fun h => by
    obtain ⟨n, hn, h2⟩ := List.any_eq_true.1 h
    rw [ha.init n hn] at h2
    cases h2
  rw [if_neg hi, show max 0 (min (1048576 : Int) 1048576) = 1048576 from rfl]
  split
  · rw [nogC_one hf hp ha c.Nogoods 0 1048576 (fun _ h => h) (by omega)]
  · rename_i hb
    rw [ask_one (ha.goal hb) (by decide)]
    show (nogC t c c.Nogoods 0 (1048576 - 1)).2.2 = _
    rw [nogC_one hf hp ha c.Nogoods 0 (1048576 - 1) (fun _ h => h) (by omega)]
end
theorem covd_claims {ns : List Nogood} {p : List Fact} {d : Int} (h : Covd ns p d) {s : List Int} (hs : holdsF s p = true) : claimsF ns s d = true := by
  obtain ⟨n, hn, h1, h2⟩ := h
  exact List.any_eq_true.2 ⟨n, hn, by rw [decide_eq_true h1, Bool.true_and]; exact holdsF_sub h2 hs⟩
theorem found_acc {t : GTask} (hf : Fit t) {c : GCertificate} (hp : ∀ n ∈ c.Nogoods, propF t.Vars (-1) n.1 = true) (ha : Found t c) : Acc t c := by
  refine ⟨ha.init, fun hb s _ hh => covd_claims (ha.goal hb) hh, fun n hn o ho hsk s hs hi => ?_⟩
  obtain ⟨l, l1, -, -⟩ := regT hf.cap hf.good (hp n hn) ho
  obtain ⟨z, hz, hh⟩ := (inF_iff hf.good ho (stateF_st ((allF_mem t s).1 hs)) (hp n hn) l1).2 hi
  exact covd_claims (ha.step n hn o ho hsk l l1 z hz) hh
theorem inv_found {t : GTask} {c : GCertificate} (hI : Inv t c.Bound [] c.Nogoods) : Found t c := by
  have hneed : ∀ p d, Need t c.Bound c.Nogoods p d → Covd c.Nogoods p d := fun p d h => by
    rcases hI.need p d h with h | ⟨e, he, _⟩
    · exact h
    · cases he
  refine ⟨hI.nI, fun _ => hneed _ _ (.inl ⟨rfl, rfl⟩), fun n hn o ho hsk l hl p hp => hneed _ _ (.inr ⟨n, hn, o, ⟨ho, ?_, ?_⟩, l, hl, hp⟩)⟩
  · unfold skipO at hsk
    rw [decide_eq_false_iff_not] at hsk
    omega
  · unfold distO
    split <;> split <;> omega
theorem good_init {t : GTask} (h : goodF t = true) : stateF t.Vars t.Init = true := by
  unfold goodF at h
  simp only [Bool.and_eq_true] at h
  exact h.2.2.1
theorem inv_certP {t : GTask} (hf : Fit t) {c : GCertificate} (h0 : -1 ≤ c.Bound) (h1 : c.Bound ≤ 1099511627776) (hP : ∀ n ∈ c.Nogoods, EnP t c.Bound n.1 n.2) (hl : c.Nogoods.length ≤ 4096) : CertP t.Vars c := by
  have hv : t.Vars.length ≤ 64 := by have := hf.cap.len; omega
  refine ⟨h0, h1, hl, fun n hn => (hP n hn).prop, fun n hn => ?_, fun n hn => (hP n hn).d0, fun n hn => (hP n hn).d1, fun n hn => (hP n hn).d2⟩
  have hp := (hP n hn).prop
  rw [frmF, propF_vF' hp, Bool.true_and]
  exact prop_frm hv hf.cap.dom hp
theorem lower_true (t : GTask) (ht : ShT t) (b : Int) : M_l32_CertifyLower 1000000000000000000 t b = some true := by
  rw [M_l32_CertifyLower, awakeE, fit_eq t ht, ob1_some]
  cases hfit : fitF t with
  | false => rfl
  | true =>
    have hf := fit_of hfit
    rw [Bool.not_true, sel_ff, ob1_some, Bool.not_true, sel_ff, ob1_some, osum_inl]
    have same0 : M_l30_Same { Bound := 0, Nogoods := [] } { Bound := 0, Nogoods := [] } = some true := same_refl _ (by simp) (fun n hn => by cases hn)
    by_cases hrange : -1 ≤ b ∧ b ≤ 1099511627776
    · obtain ⟨d, d1, d2⟩ := fix_eq hf.small 1000000000000000000 (Nat.le_refl _) []
      have hst := good_init hf.good
      obtain ⟨k, k1, k2⟩ := rank_eq hf.small hst
      have hlt : k < d.length := by rw [d2.g.len]; exact (List.getElem?_eq_some_iff.1 k2).1
      obtain ⟨y, hy⟩ : ∃ y, d[k]? = some y := ⟨_, List.getElem?_eq_getElem hlt⟩
      have hbest : M_b_Best 1000000000000000000 t = some y := by rw [M_b_Best, d1, ob1_some, k1, ob1_some, ix_at hy]
      obtain ⟨y0, y1, -⟩ := d2.g.ok k _ y k2 hy
      have y1' : y ≤ 1125899906842624 := y1
      have fin13 : (b < 0 ∧ y < 1125899906842624) ∨ b > y → (sel (decide (b < 0)) (sel (decide (y < 1125899906842624)) (ob1 (M_b_Is (.no 13) 13) (fun z34 => sel z34 (ob1 (M_l30_Same { Bound := 0, Nogoods := [] } { Bound := 0, Nogoods := [] }) (fun z35 => some (.inr z35))) (some (.inr false))))
          (sel (decide (b > y)) (ob1 (M_b_Is (.no 13) 13) (fun z32 => sel z32 (ob1 (M_l30_Same { Bound := 0, Nogoods := [] } { Bound := 0, Nogoods := [] }) (fun z33 => some (.inr z33))) (some (.inr false)))) (some (.inl ()))))
          (sel (decide (b > y)) (ob1 (M_b_Is (.no 13) 13) (fun z36 => sel z36 (ob1 (M_l30_Same { Bound := 0, Nogoods := [] } { Bound := 0, Nogoods := [] }) (fun z37 => some (.inr z37))) (some (.inr false)))) (some (.inl ()))) : Option (Unit ⊕ Bool)) = some (.inr true) := fun h => by
        rw [same0, is_no, sel_dec, sel_dec, sel_dec]
        by_cases c1 : b < 0
        · rw [if_pos c1]
          by_cases c2 : y < 1125899906842624
          · rw [if_pos c2]; rfl
          · omega
        · rw [if_neg c1, if_pos (by omega)]; rfl
      have finok : ∀ (c : GCertificate) (e : Er), ¬ ((b < 0 ∧ y < 1125899906842624) ∨ b > y) → (sel (decide (b < 0)) (sel (decide (y < 1125899906842624)) (ob1 (M_b_Is e 13) (fun z34 => sel z34 (ob1 (M_l30_Same c { Bound := 0, Nogoods := [] }) (fun z35 => some (.inr z35))) (some (.inr false))))
          (sel (decide (b > y)) (ob1 (M_b_Is e 13) (fun z32 => sel z32 (ob1 (M_l30_Same c { Bound := 0, Nogoods := [] }) (fun z33 => some (.inr z33))) (some (.inr false)))) (some (.inl ()))))
          (sel (decide (b > y)) (ob1 (M_b_Is e 13) (fun z36 => sel z36 (ob1 (M_l30_Same c { Bound := 0, Nogoods := [] }) (fun z37 => some (.inr z37))) (some (.inr false)))) (some (.inl ()))) : Option (Unit ⊕ Bool)) = some (.inl ()) := fun c e h => by
        rw [sel_dec, sel_dec, sel_dec]
        by_cases c1 : b < 0
        · rw [if_pos c1, if_neg (by omega), if_neg (by omega)]
        · rw [if_neg c1, if_neg (by omega)]
      have hin : (sel (decide (b < (-1))) (ob1 (M_b_Is (.no 13) 1) (fun _ => some (Sum.inr false : Unit ⊕ Bool))) (some (.inl ()))) = some (.inl ()) := by rw [sel_dec, if_neg (by omega)]
      have good : ∀ c : GCertificate, c.Bound = b → CertP t.Vars c → Found t c → ¬ ((b < 0 ∧ y < 1125899906842624) ∨ b > y) →
          ob1 (M_b_Best 1000000000000000000 t) (fun z23 => ob1 (sel (decide (b < 0)) (sel (decide (z23 < 1125899906842624)) (ob1 (M_b_Is .nil 13) (fun z34 => sel z34 (ob1 (M_l30_Same c { Bound := 0, Nogoods := [] }) (fun z35 => some (.inr z35))) (some (.inr false))))
            (sel (decide (b > z23)) (ob1 (M_b_Is .nil 13) (fun z32 => sel z32 (ob1 (M_l30_Same c { Bound := 0, Nogoods := [] }) (fun z33 => some (.inr z33))) (some (.inr false)))) (some (.inl ()))))
            (sel (decide (b > z23)) (ob1 (M_b_Is .nil 13) (fun z36 => sel z36 (ob1 (M_l30_Same c { Bound := 0, Nogoods := [] }) (fun z37 => some (.inr z37))) (some (.inr false)))) (some (.inl ()))) : Option (Unit ⊕ Bool))
            (osum (fun _ => ob1 (M_checker_Verify 1000000000000000000 t c 1048576) (fun z38 => erM .nil (erM z38 (sel (c.Bound == b) (some true) (some false)) (fun e40 => sel (c.Bound == b) (ob1 (M_b_Is (Er.no e40) 10) (fun z41 => sel z41 (some (decide (((c.Nogoods.map cN).length : Int) > 100))) (some false))) (some false))) (fun _ => some false)))
              (fun r30 => some r30))) = some true := fun c hcb hcp hfd hno => by
        have hsh : ShC c := ⟨by have := hcp.len; unfold Sh; omega, fun n hn => prop_sh (by have := hf.cap.len; omega) (hcp.prop n hn)⟩
        rw [hbest, ob1_some, finok c .nil hno, ob1_some, osum_inl, verify_eq t ht c hsh 1048576 _ (by decide), ob1_some]
        have hbb : (c.Bound == b) = true := by rw [beq_iff_eq]; exact hcb
        rcases acc_ver hf hcp (found_acc hf hcp.prop hfd) 1048576 with hv | hv
        · rw [hv, hbb]; rfl
        · by_cases hl : c.Nogoods.length ≤ 100
          · rw [ver_one hf hcp.prop hfd hcp hl] at hv
            cases hv
          · rw [hv, hbb, List.length_map, decide_eq_true (by omega)]; rfl
      by_cases hz : b = 0
      · subst hz
        have : M_certify_Lower 1000000000000000000 t 0 4096 = some ({ Bound := 0, Nogoods := [] }, .nil) := by
          rw [M_certify_Lower, check_eq t ht, (good_check t).1 hf.good, ob1_some]
          rfl
        rw [this, ob2_some]
        exact good { Bound := 0, Nogoods := [] } rfl ⟨by decide, by decide, Nat.zero_le _, (fun n hn => by cases hn), (fun n hn => by cases hn), (fun n hn => by cases hn), (fun n hn => by cases hn), (fun n hn => by cases hn)⟩ ⟨(fun n hn => by cases hn), fun h => absurd rfl h, fun n hn => by cases hn⟩ (by omega)
      · obtain ⟨r, h1, h2⟩ := lower_eq (g := 1000000000000000000) (by decide) ht hf hrange.1 hrange.2 hz 4096
        rw [h1]
        rcases h2 with ⟨e1, e2, e3, e4⟩ | ⟨rfl, p, dd, hE, hh⟩ | ⟨rfl, hlim⟩
        · obtain ⟨c, e⟩ := r
          simp only at e1 e2 e3 e4
          subst e1
          obtain ⟨dq, q1, q2⟩ := dis_eq hf.small (low_dq hf e3) 1000000000000000000 (Nat.le_refl _) []
          rw [d1] at q1
          obtain rfl := Option.some.inj q1
          have hno : ¬ ((b < 0 ∧ y < 1125899906842624) ∨ b > y) := fun hc => by
            obtain ⟨n, hn, -, hh⟩ := (q2.ok k _ y k2 hy).2.2 (by show y ≠ 1125899906842624; omega) (by omega)
            rw [e3.nI n hn] at hh
            cases hh
          subst e2
          rw [ob2_some, sel_dec, if_neg (by omega), sel_dec, if_neg (by omega), ob1_some, osum_inl]
          exact good c rfl (inv_certP hf hrange.1 hrange.2 e3.nP (by omega)) (inv_found e3) hno
        · have hr := hE.snd _ hst hh
          have hcond : (b < 0 ∧ y < 1125899906842624) ∨ b > y := by
            by_cases c1 : b < 0
            · exact .inl ⟨c1, fix_rch0 hf.small d2 hr k y k2 hy⟩
            · have := hE.d1 (by omega)
              have := (fix_rch hf.small d2 (by omega) hr k y k2 hy (by omega)).2
              exact .inr (by omega)
          rw [ob2_some, sel_dec, if_neg (by omega), sel_dec, if_neg (by omega), ob1_some, osum_inl]
          show ob1 (M_b_Best 1000000000000000000 t) _ = _
          rw [hbest, ob1_some]
          show ob1 (sel (decide (b < 0)) _ _) _ = _
          rw [fin13 hcond]
          rfl
        · omega
    · have hbd : M_certify_bounded b = some false := by
        rw [M_certify_bounded, sel_dec]
        by_cases h : b ≥ -1
        · rw [if_pos h, decide_eq_false (by omega)]
        · rw [if_neg h]
      have hlow : M_certify_Lower 1000000000000000000 t b 4096 = some ({ Bound := 0, Nogoods := [] }, .no 1) := by
        rw [M_certify_Lower, check_eq t ht, (good_check t).1 hf.good, ob1_some]
        show ob1 (M_certify_bounded b) _ = _
        rw [hbd]
        rfl
      rw [hlow, ob2_some, is_no, ob1_some, same0, ob1_some, sel_dec, sel_dec]
      by_cases h : b < -1
      · rw [if_pos h]; rfl
      · rw [if_neg h, if_pos (by omega)]; rfl
end Go.Proofs.YtohjegemooakpaaGreat.Am
namespace Go.Proofs.YtohjegemooakpaaGreat
open Go.RowKit Go.ChangeShapes Go.WideShapes Go.Deep Go.Joins

def I64 (x : Int) : Prop := -9223372036854775808 ≤ x ∧ x ≤ 9223372036854775807
theorem I64.of {x : Int} (h : (Lit.int .i64 x).wf = true) : I64 x := by
  have := bounds_i64 h
  exact this

section
variable {H : Type} {enc : TypeId × Value → H} {P : Program} {w : World} {base : Nat} {spare : Nat → Bool} {held : Bool}

def Sized (P : Program) (t : TypeId) (d : DataW H) : Prop := ∀ n ∈ d.weights P t, n ≤ reachBytes
theorem sized_arg {ts : List TypeId} {ds : List (DataW H)} (h : (DataW.weightsEach P ts ds).all (· ≤ reachBytes) = true) {j : Nat} {t : TypeId} {d : DataW H} (ht : ts[j]? = some t) (hd : ds[j]? = some d) : Sized P t d :=
  fun n hn => of_decide_eq_true (List.all_eq_true.1 h n (DataW.weights_mem_each ht hd n hn))
theorem sized_field {t : TypeId} {fs : Array Field} {parts : List (DataW H)} (h : Sized P t (.agg parts)) (hu : P.underlying t = some (.struct fs)) {j : Nat} {f : Field} {d : DataW H} (hf : fs[j]? = some f) (hd : parts[j]? = some d) : Sized P f.type d :=
  fun n hn => h n (by
    simp only [DataW.weights, hu]
    exact DataW.weights_mem_each (j := j) (by simp [List.getElem?_map, hf]) hd n hn)
theorem weightsAll_mem {e : TypeId} : ∀ {l : List (DataW H)} {d : DataW H}, d ∈ l → ∀ n ∈ d.weights P e, n ∈ DataW.weightsAll P e l
  | x :: l, d, hd, n, hn => by
    simp only [DataW.weightsAll, List.mem_append]
    rcases List.mem_cons.1 hd with rfl | h
    · exact Or.inl hn
    · exact Or.inr (weightsAll_mem h n hn)
theorem sized_elem {t e : TypeId} {elems sp : List (DataW H)} (h : Sized P t (.slice elems sp)) (hu : P.underlying t = some (.slice e)) {d : DataW H} (hd : d ∈ elems) : Sized P e d :=
  fun n hn => h n (by
    simp only [DataW.weights, hu, List.mem_cons, List.mem_append]
    exact Or.inr (Or.inl (weightsAll_mem hd n hn)))
theorem sized_len {t e : TypeId} {elems sp : List (DataW H)} (h : Sized P t (.slice elems sp)) (hu : P.underlying t = some (.slice e)) : elems.length * P.bytesOf e ≤ 140737488355328 := by
  have h1 := h ((elems.length + sp.length) * P.bytesOf e) (by simp [DataW.weights, hu])
  have h2 : elems.length * P.bytesOf e ≤ (elems.length + sp.length) * P.bytesOf e := Nat.mul_le_mul_right _ (by omega)
  have h3 : reachBytes ≤ 140737488355328 := by decide
  omega

end

theorem spot_of_cell {w : World} {p : Addr} {v : Value} (h : w.cell? p = some v) : p.spot = none := by
  unfold World.cell? at h
  split at h
  · split at h
    · cases h
    · rename_i hs; simpa using hs
  · cases h
theorem addr_of_cell {w : World} {a : Addr} {k : Nat} {v : Value} (h0 : ∃ u, w.cell? (a.add 0) = some u) (h : w.cell? (a.add k) = some v) : a = ⟨a.block, a.off, none⟩ ∧ w.cell? ⟨a.block, a.off + k, none⟩ = some v := by
  obtain ⟨u, hu⟩ := h0
  have hs := spot_of_cell hu
  obtain ⟨b, off, sp⟩ := a
  simp [Addr.add] at hs
  subst hs
  refine ⟨rfl, ?_⟩
  rw [← h]
  congr 1
  unfold Addr.add
  split
  · subst k; rfl
  · rfl

theorem list_of {α : Type} (n : Nat) (R : Nat → α → Prop) (h : ∀ i, i < n → ∃ x, R i x) : ∃ l : List α, l.length = n ∧ ∀ k x, l[k]? = some x → R k x := by
  induction n with
  | zero => exact ⟨[], rfl, fun k x hx => by simp at hx⟩
  | succ n ih =>
    obtain ⟨l, hl, hr⟩ := ih (fun i hi => h i (by omega))
    obtain ⟨x, hx⟩ := h n (by omega)
    refine ⟨l ++ [x], by simp [hl], fun k y hy => ?_⟩
    by_cases hk : k < n
    · rw [List.getElem?_append_left (by omega)] at hy
      exact hr k y hy
    · rw [List.getElem?_append_right (by omega)] at hy
      have hk' : k - l.length = 0 := by
        have := (List.getElem?_eq_some_iff.1 hy).1
        simp at this
        omega
      rw [hk'] at hy
      simp at hy
      subst hy
      obtain rfl : k = n := by omega
      exact hx

variable {H : Type} {enc : TypeId × Value → H} {w : World} {base : Nat} {spare : Nat → Bool} {held : Bool}
end Go.Proofs.YtohjegemooakpaaGreat
