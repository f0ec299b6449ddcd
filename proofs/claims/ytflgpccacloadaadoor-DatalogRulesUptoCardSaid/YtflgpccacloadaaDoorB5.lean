/- stratagemlaw16.DatalogRules returns true for every input of bulk at most 1048576. No condition beyond the card's own. -/
import Derived.Test.YtflgpccacloadaaDoorB2
import Derived.Test.YtflgpccacloadaaDoorB4
import Derived.Test.YtflgpccacloadaaDoorCards
import Derived.Test.YtflgpccacloadaaDoorTie
import Derived.Test.YtflgpccacloadaaDoorB1
import Derived.WalkKit
import Derived.ProofKit
import Derived.OpenShut
import Derived.Deep.DeepHandedRow
import Derived.Lib.LaidTab
import Derived.Lib.ItoaNum
set_option linter.unusedVariables false
set_option linter.unusedSectionVars false
set_option linter.unusedSimpArgs false
/- Models printed by my decompiler, and the proofs that the code computes them. -/
namespace Go.Proofs.YtflgpccacloadaaDoor.Am
set_option maxHeartbeats 16000000
set_option maxRecDepth 100000
open Go.RowKit
theorem zg_XDCk {P : Prop} (h : P := by repeat (first | exact True.intro | exact gb_nil rfl rfl | exact gb_take rfl ⟨rfl, rfl, rfl⟩ List.map_take FrI.h | exact gb_take rfl ⟨rfl, rfl, rfl⟩ (takeC (by omega)) FrI.h | exact gb_take rfl ⟨rfl, rfl, rfl⟩ (takeC0 (by omega)) FrI.h |  refine gb_some ⟨rfl, rfl, rfl⟩ ?_ | refine And.intro ?_ ?_ | refine gw_ren rfl rfl rfl rfl rfl ?_ | exact gw_oren rfl rfl rfl rfl rfl | exact gw_opren rfl rfl rfl rfl rfl | exact gw_onil rfl rfl | exact gw_mren rfl rfl rfl rfl | refine gw_pren rfl rfl rfl rfl rfl | exact gw_thaw rfl rfl rfl | refine gw_tup ?_ | refine gw_ifc ?_ | exact GWL.nil | exact gwll_nil | exact gw_c | exact GW.sl | exact GW.nil | exact gwll_same rfl FrI.h | refine GWL.cons ?_ ?_ | refine gwll_cons ?_ ?_ | (refine gw_own3 rfl rfl rfl FrI.h ?_ ?_ ?_) | exact GW.mpf rfl rfl rfl FrI.h rfl | refine CloK.bw ?_ | exact GW.fr FrV.h | exact GW.fr (by assumption) | refine gw_agg ?_ | refine gw_clo ?_ | refine gw_ptr rfl rfl rfl ?_ | (refine gw_own rfl rfl rfl ?_ FrI.h ?_ ?_) | assumption | omega | rfl | (rw [List.length_map, ← List.length_append]; assumption) | (refine gwll_same ?_ FrI.h; (simp [cGRule, cGAtom, cS, cA2_cS, cF] <;> fail)) | (rw [List.map_set]; refine gwll_set (by first | rfl | omega | simp) ?_ ?_) | refine gwll_set (by first | rfl | omega | simp) ?_ ?_ | (rw [List.map_replicate]; refine gwll_rep ?_) | refine gwll_rep ?_ | (rw [List.map_append]; refine gwll_append ?_ ?_) | refine gwll_append ?_ ?_ | (simp [cGRule, cGAtom, cS, cA2_cS, cF, take_len_map] <;> fail) | (rw [List.drop_zero, List.take_of_length_le] <;> first | rfl | (simp [cGRule, cGAtom, cS, cA2_cS, cF] <;> fail)) | (simp; omega) | (simp only [List.length_map, List.length_append, List.drop_zero, List.length_cons, List.length_nil, Nat.zero_add, Nat.add_zero] at *; omega))) : P := h
theorem ci_XDCk {p K : Prop} (k : K) (h : p := by first | rfl | exact ⟨rfl, rfl⟩ | exact BW.mpf rfl rfl rfl FrI.h rfl | exact cloK3 rfl rfl rfl rfl rfl rfl rfl rfl rfl | exact CloK.bw (BW.fr (by assumption)) | exact BW.fr FrV.h | (refine BW.fr ?_; assumption) | (refine ⟨rfl, ?_⟩; (simp [cGRule, cGAtom, cS, cA2_cS, cF, take_len_map]; done)) | (refine RowK.same ?_ FrI.h; first | rfl | (simp [cGRule, cGAtom, cS, cA2_cS, cF, take_len_map]; done)) | (refine row_part1 ?_; (repeat (first | exact BWL.nil | exact bwll_nil | exact bw_c | exact BW.sl | exact BW.nil | exact bwll_same rfl FrI.h | refine BWL.cons ?_ ?_ | refine bwll_cons ?_ ?_ | (refine bw_own3 rfl rfl rfl FrI.h ?_ ?_ ?_) | exact BW.mpf rfl rfl rfl FrI.h rfl | exact cloK3 rfl rfl rfl rfl rfl rfl rfl rfl rfl | exact CloK.bw (BW.fr (by assumption)) | exact BW.fr FrV.h | exact BW.fr (by assumption) | refine bw_agg ?_ | refine bw_clo ?_ | refine bw_ptr rfl rfl rfl ?_ | (refine bw_own rfl rfl rfl ?_ FrI.h ?_ ?_) | assumption | omega | rfl | (rw [List.length_map, ← List.length_append]; assumption) | (refine bwll_same ?_ FrI.h; (simp [cGRule, cGAtom, cS, cA2_cS, cF] <;> fail)) | (rw [List.map_set]; refine bwll_set (by first | rfl | omega | simp) ?_ ?_) | refine bwll_set (by first | rfl | omega | simp) ?_ ?_ | (rw [List.map_replicate]; refine bwll_rep ?_) | refine bwll_rep ?_ | (rw [List.map_append]; refine bwll_append ?_ ?_) | refine bwll_append ?_ ?_ | (simp [cGRule, cGAtom, cS, cA2_cS, cF, take_len_map] <;> fail) | (rw [List.drop_zero, List.take_of_length_le] <;> first | rfl | (simp [cGRule, cGAtom, cS, cA2_cS, cF] <;> fail)) | (simp; omega) | (simp only [List.length_map, List.length_append, List.drop_zero, List.length_cons, List.length_nil, Nat.zero_add, Nat.add_zero] at *; omega))); done) | ((repeat (first | exact BWL.nil | exact bwll_nil | exact bw_c | exact BW.sl | exact BW.nil | exact bwll_same rfl FrI.h | refine BWL.cons ?_ ?_ | refine bwll_cons ?_ ?_ | (refine bw_own3 rfl rfl rfl FrI.h ?_ ?_ ?_) | exact BW.mpf rfl rfl rfl FrI.h rfl | exact cloK3 rfl rfl rfl rfl rfl rfl rfl rfl rfl | exact CloK.bw (BW.fr (by assumption)) | exact BW.fr FrV.h | exact BW.fr (by assumption) | refine bw_agg ?_ | refine bw_clo ?_ | refine bw_ptr rfl rfl rfl ?_ | (refine bw_own rfl rfl rfl ?_ FrI.h ?_ ?_) | assumption | omega | rfl | (rw [List.length_map, ← List.length_append]; assumption) | (refine bwll_same ?_ FrI.h; (simp [cGRule, cGAtom, cS, cA2_cS, cF] <;> fail)) | (rw [List.map_set]; refine bwll_set (by first | rfl | omega | simp) ?_ ?_) | refine bwll_set (by first | rfl | omega | simp) ?_ ?_ | (rw [List.map_replicate]; refine bwll_rep ?_) | refine bwll_rep ?_ | (rw [List.map_append]; refine bwll_append ?_ ?_) | refine bwll_append ?_ ?_ | (simp [cGRule, cGAtom, cS, cA2_cS, cF, take_len_map] <;> fail) | (rw [List.drop_zero, List.take_of_length_le] <;> first | rfl | (simp [cGRule, cGAtom, cS, cA2_cS, cF] <;> fail)) | (simp; omega) | (simp only [List.length_map, List.length_append, List.drop_zero, List.length_cons, List.length_nil, Nat.zero_add, Nat.add_zero] at *; omega))); done) | (simp [cGRule, cGAtom, cS, cA2_cS, cF, take_len_map]; done)) : p ∧ K := ⟨h, k⟩
theorem ca_XDCk {P : Prop} (h : P := by repeat (first | exact True.intro | refine ci_XDCk ?_)) : P := h
theorem pr_XDCk {p K : Prop} (k : K) (h : p := by first | assumption | exact Int.natCast_nonneg _ | exact Nat.le_refl _ | exact Nat.zero_le _ | omega | (simp; done) | (simp; omega)) : p ∧ K := ⟨h, k⟩
theorem pl_XDCk {p K : Prop} (k : K) (h : p := by first | rfl | exact List.length_map _ | (simp; done) | (simp; omega)) : p ∧ K := ⟨h, k⟩
theorem pe_XDCk {p K : Prop} (k : K) (h : p := by first | omega | (simp; omega) | (simp only [List.length_map, List.length_cons, List.length_nil, List.length_append]; omega) | (simp only [List.length_map, List.drop_zero, List.length_cons, List.length_nil, Nat.zero_add, Nat.add_zero] at *; omega)) : p ∧ K := ⟨h, k⟩
theorem dr_XDCk {b : Bool} {p K : Prop} (k : K) (h : b = true → p := by intro h; first | (cases h; done) | exact ⟨by kernel_rfl, by kernel_rfl⟩) : (b = true → p) ∧ K := ⟨h, k⟩
theorem cl_XDCk {C : Cx} {n : Nat} {o : Oper} {τ : Nat → AV} {η : Nat → Ent} {f : FuncId} {os : Array Operand} {ats : Array TypeId} {r : AV} {args : List AV} {K : Foot → Prop} (ho : o.op = .call ⟨.value (.func f), os, ats⟩) (hc : ACall C f args r) (k : K ⟨r, [], []⟩)
    (hd : InB n o.dst := by exact Nat.le_of_ble_eq_true rfl) (hargs : os.toList.map (evA τ) = args := by first | rfl | (simp [cGRule, cGAtom, cS, cA2_cS, cF]; done) | (repeat (first | exact rfl | refine cons_eq ?_ ?_ | exact sl_dt rfl))) (hfr : frs args := by repeat (first | exact trivial | exact fr1_eA _ | exact fr0_eA _ | exact fr1_fr (by assumption) | exact FrV.h | exact fr1_fr FrV.h | refine And.intro ?_ ?_)) (hr : fr1 r := by repeat (first | exact trivial | exact fr1_eA _ | exact fr0_eA _ | exact fr1_fr (by assumption) | exact FrV.h | exact fr1_fr FrV.h | refine And.intro ?_ ?_)) : ∃ f : Foot, LF C n o τ η f ∧ K f := ⟨_, lf_call ho hd hargs hc hfr hr, k⟩
theorem clc_XDCk {C : Cx} {n : Nat} {o : Oper} {τ : Nat → AV} {η : Nat → Ent} {c : Operand} {os : Array Operand} {ats : Array TypeId} {r F : AV} {xs : List AV} {K : Foot → Prop} (ho : o.op = .call ⟨.value c, os, ats⟩) (hc : CCl C F xs r) (hfF : Fr F) (k : K ⟨r, [], []⟩)
    (hd : InB n o.dst := by exact Nat.le_of_ble_eq_true rfl) (hF : evA τ c = F := by rfl) (hargs : os.toList.map (evA τ) = xs := by first | rfl | (simp [cGRule, cGAtom, cS, cA2_cS, cF]; done) | (repeat (first | exact rfl | refine cons_eq ?_ ?_ | exact sl_dt rfl))) (hfr : frs xs := by repeat (first | exact trivial | exact fr1_eA _ | exact fr0_eA _ | exact fr1_fr (by assumption) | exact FrV.h | exact fr1_fr FrV.h | refine And.intro ?_ ?_)) (hr : fr1 r := by repeat (first | exact trivial | exact fr1_eA _ | exact fr0_eA _ | exact fr1_fr (by assumption) | exact FrV.h | exact fr1_fr FrV.h | refine And.intro ?_ ?_)) : ∃ f : Foot, LF C n o τ η f ∧ K f := ⟨_, lf_clo ho hd hF hargs hc hfF hfr hr, k⟩
theorem clb_XDCk {C : Cx} {n : Nat} {o : Oper} {τ : Nat → AV} {η : Nat → Ent} {f : FuncId} {os : Array Operand} {ats : Array TypeId} {r : AV} {xs ys : List AV} {K : Foot → Prop} (bs : List Nat) (ho : o.op = .call ⟨.value (.func f), os, ats⟩) (hargs : os.toList.map (evA τ) = xs) (hc : ACall C f ys r) (k : K ⟨r, [], bs⟩)
    (hd : InB n o.dst := by exact Nat.le_of_ble_eq_true rfl) (hb : BWL η (dropB η bs) xs ys := by repeat (first | exact BWL.nil | exact bwll_nil | exact bw_c | exact BW.sl | exact BW.nil | exact bwll_same rfl FrI.h | refine BWL.cons ?_ ?_ | refine bwll_cons ?_ ?_ | (refine bw_own3 rfl rfl rfl FrI.h ?_ ?_ ?_) | exact BW.mpf rfl rfl rfl FrI.h rfl | refine CloK.bw ?_ | exact BW.fr FrV.h | exact BW.fr (by assumption) | refine bw_agg ?_ | refine bw_clo ?_ | refine bw_ptr rfl rfl rfl ?_ | (refine bw_own rfl rfl rfl ?_ FrI.h ?_ ?_) | assumption | omega | rfl | (rw [List.length_map, ← List.length_append]; assumption) | (refine bwll_same ?_ FrI.h; (simp [cGRule, cGAtom, cS, cA2_cS, cF] <;> fail)) | (rw [List.map_set]; refine bwll_set (by first | rfl | omega | simp) ?_ ?_) | refine bwll_set (by first | rfl | omega | simp) ?_ ?_ | (rw [List.map_replicate]; refine bwll_rep ?_) | refine bwll_rep ?_ | (rw [List.map_append]; refine bwll_append ?_ ?_) | refine bwll_append ?_ ?_ | (simp [cGRule, cGAtom, cS, cA2_cS, cF, take_len_map] <;> fail) | (rw [List.drop_zero, List.take_of_length_le] <;> first | rfl | (simp [cGRule, cGAtom, cS, cA2_cS, cF] <;> fail)) | (simp; omega) | (simp only [List.length_map, List.length_append, List.drop_zero, List.length_cons, List.length_nil, Nat.zero_add, Nat.add_zero] at *; omega))) (hr : scal r := by repeat (first | exact trivial | exact scal0_eA _ | exact scal_eA _ | refine And.intro ?_ ?_)) : ∃ f : Foot, LF C n o τ η f ∧ K f := ⟨_, lf_callB bs ho hd hargs hb hc hr, k⟩
theorem clg_XDCk {C : Cx} {n : Nat} {o : Oper} {τ : Nat → AV} {η : Nat → Ent} {f : FuncId} {os : Array Operand} {ats : Array TypeId} {r : AV} {xs ys : List AV} {bs bs' : List (Nat × Blk)} {ks : List Nat} {K : Foot → Prop} (ρ : List (Nat × Nat)) (fz : List Nat) (go nb : List (Nat × Ent)) (r' : AV) (ho : o.op = .call ⟨.value (.func f), os, ats⟩) (hargs : os.toList.map (evA τ) = xs)
    (hc : ACallG C f ys bs ks r bs') (k : K ⟨r', go ++ nb, []⟩) (hd : InB n o.dst := by exact Nat.le_of_ble_eq_true rfl) (hok : okC ρ fz bs ks bs' (idsE go) = true := by rfl) (hgo : allUs η go := by repeat (first | exact trivial | refine And.intro rfl ?_)) (hgl : ltUs n go := by repeat (first | exact trivial | refine And.intro (Nat.le_of_ble_eq_true rfl) ?_))
    (hw : GWL η (fE bs) (lk ρ) (fun i => inB fz i = true) (fun i => inB (keys bs) i = true) xs ys := by exact zg_XDCk) (hb : GBL η (fE bs) (lk ρ) (fun i => inB fz i = true) (fun i => inB (keys bs) i = true) bs := by exact zg_XDCk)
    (hr : GW (fE bs') (updAll η (go ++ nb)) (lk (backN ρ bs')) (fun _ => False) (fun i => inB (idsE nb) i = true) r r' := by exact zg_XDCk)
    (hnb : nbOk n η (updAll η (go ++ nb)) ρ ks (fE bs') (lk (backN ρ bs')) (fun i => inB (idsE nb) i = true) bs' nb := by repeat (first | exact True.intro | rfl | exact Nat.le_of_ble_eq_true rfl | exact gb_nil rfl rfl | exact gb_take rfl ⟨rfl, rfl, rfl⟩ List.map_take FrI.h | exact gb_take rfl ⟨rfl, rfl, rfl⟩ (takeC (by omega)) FrI.h | exact gb_take rfl ⟨rfl, rfl, rfl⟩ (takeC0 (by omega)) FrI.h |  refine gb_some ⟨rfl, rfl, rfl⟩ ?_ | refine And.intro ?_ ?_ | refine gw_ren rfl rfl rfl rfl rfl ?_ | exact gw_oren rfl rfl rfl rfl rfl | exact gw_opren rfl rfl rfl rfl rfl | exact gw_onil rfl rfl | exact gw_mren rfl rfl rfl rfl | refine gw_pren rfl rfl rfl rfl rfl | exact gw_thaw rfl rfl rfl | refine gw_tup ?_ | refine gw_ifc ?_ | exact GWL.nil | exact gwll_nil | exact gw_c | exact GW.sl | exact GW.nil | exact gwll_same rfl FrI.h | refine GWL.cons ?_ ?_ | refine gwll_cons ?_ ?_ | (refine gw_own3 rfl rfl rfl FrI.h ?_ ?_ ?_) | exact GW.mpf rfl rfl rfl FrI.h rfl | refine CloK.bw ?_ | exact GW.fr FrV.h | exact GW.fr (by assumption) | refine gw_agg ?_ | refine gw_clo ?_ | refine gw_ptr rfl rfl rfl ?_ | (refine gw_own rfl rfl rfl ?_ FrI.h ?_ ?_) | assumption | omega | rfl | (rw [List.length_map, ← List.length_append]; assumption) | (refine gwll_same ?_ FrI.h; (simp [cGRule, cGAtom, cS, cA2_cS, cF] <;> fail)) | (rw [List.map_set]; refine gwll_set (by first | rfl | omega | simp) ?_ ?_) | refine gwll_set (by first | rfl | omega | simp) ?_ ?_ | (rw [List.map_replicate]; refine gwll_rep ?_) | refine gwll_rep ?_ | (rw [List.map_append]; refine gwll_append ?_ ?_) | refine gwll_append ?_ ?_ | (simp [cGRule, cGAtom, cS, cA2_cS, cF, take_len_map] <;> fail) | (rw [List.drop_zero, List.take_of_length_le] <;> first | rfl | (simp [cGRule, cGAtom, cS, cA2_cS, cF] <;> fail)) | (simp; omega) | (simp only [List.length_map, List.length_append, List.drop_zero, List.length_cons, List.length_nil, Nat.zero_add, Nat.add_zero] at *; omega))) : ∃ f : Foot, LF C n o τ η f ∧ K f := ⟨_, lf_callG ρ fz go nb ho hd hargs hc hok hgo hgl hw hb hr hnb, k⟩
def M_s_Index_string_L1 (a0 : List ByteArray) (a1 : ByteArray) : Nat → Int → Option (Int)
  | 0, _ => none
  | k5 + 1, v4 =>
    sel (decide (v4 < ((a0.map cS).length : Int)))
     (ix a0 v4 (fun y6 =>
       sel (a1.toList == y6.toList)
        (some v4)
        (M_s_Index_string_L1 a0 a1 k5 (IntKind.i64.wrap (v4 + 1)))))
     (some (-1))
def M_s_Index_string (a0 : List ByteArray) (a1 : ByteArray) : Option (Int) :=
  M_s_Index_string_L1 a0 a1 ((((a0.map cS).length : Int)).toNat + 1) 0
theorem A_s_Index_string (a0 : List ByteArray) (a1 : ByteArray) {r1 : Int} (h : M_s_Index_string a0 a1 = some r1) : ACall cx 57 [.sl 1 (a0.map cS), .c (.string a1)] (.c (.int .i64 r1)) := by
  refine aOf Tryd.func57 rfl (by decide) rfl (Nat.le_of_ble_eq_true rfl) ?_; intro _; unfold M_s_Index_string at h; refine aSR ?_; intro _; refine dr_XDCk ?_; refine aSq ?_; refine aSR ?_; intro _; refine dr_XDCk ?_; refine aBk ?_; refine awp_loop (α := Nat × Int) (fun x => mkS 19 [(0, .sl 1 (a0.map cS)), (1, .c (.string a1)), (7, .c (.int .i64 ((a0.map cS).length : Int))), (8, .c (.int .i64 x.2))] []) (fun x => M_s_Index_string_L1 a0 a1 x.1 x.2 = some r1) (fun x => x.1) ((((a0.map cS).length : Int)).toNat + 1, 0) h ?_ ?_
  · exact ca_XDCk
  · intro x1 h; intro _; obtain ⟨k5, m2, h⟩ := succ_of (f := fun n => M_s_Index_string_L1 a0 a1 n x1.2) rfl h; replace h : M_s_Index_string_L1 a0 a1 (k5 + 1) x1.2 = some r1 := h; rw [M_s_Index_string_L1] at h; refine aSR ?_; intro _; refine dr_XDCk ?_; refine aSq ?_; refine aCd ?_; intro _; refine spl h (fun c3 h => ?_) (fun c3 h => ?_)
    · refine aSk ?_; refine aSq ?_; refine aBk ?_; refine aSR ?_; intro _; refine dr_XDCk ?_; refine aSR ?_; intro _; obtain ⟨y6, w4, q5, h⟩ := ix_ok h; refine Exists.intro (cS y6) (And.intro (map_at' w4) ?_); intro _; refine pr_XDCk ?_; refine dr_XDCk ?_; refine aCd ?_; intro _; refine spl h (fun c6 h => ?_) (fun c6 h => ?_)
      · refine aSR ?_; intro _; refine dr_XDCk ?_; refine aRt ?_; intro _; obtain rfl := inj1 h; exact ca_XDCk
      · refine aSk ?_; refine aRg ?_; intro _; refine dr_XDCk ?_; refine ⟨(k5, (IntKind.i64.wrap (x1.2 + 1))), h, ltS m2, ?_⟩; exact ca_XDCk
    · refine aEx ?_; refine aSR ?_; intro _; refine dr_XDCk ?_; refine aRt ?_; intro _; obtain rfl := inj1 h; exact ca_XDCk
def M_s_Contains_string (a0 : List ByteArray) (a1 : ByteArray) : Option (Bool) :=
  ob1 (M_s_Index_string a0 a1) (fun z1 =>
   some (decide (z1 ≥ 0)))
theorem A_s_Contains_string (a0 : List ByteArray) (a1 : ByteArray) {r1 : Bool} (h : M_s_Contains_string a0 a1 = some r1) : ACall cx 38 [.sl 1 (a0.map cS), .c (.string a1)] (.c (.bool r1)) := by
  refine aOf Tryd.func38 rfl (by decide) rfl (Nat.le_of_ble_eq_true rfl) ?_; intro _; unfold M_s_Contains_string at h; refine aSR ?_; intro _; refine dr_XDCk ?_; refine aSR ?_; intro _; obtain ⟨z1, u1, h⟩ := ob1_ok h; refine cl_XDCk rfl (A_s_Index_string a0 a1 u1) ?_; intro _; refine dr_XDCk ?_; refine aRt ?_; intro _; obtain rfl := inj1 h; exact ca_XDCk
def M_datalog_Variables_L1 (y87 : GAtom) : Nat → Int → (List ByteArray) → Option (List ByteArray)
  | 0, _, _ => none
  | k98 + 1, v96, v97 =>
    sel (decide (v96 < ((y87.Args.map cS).length : Int)))
     (ix y87.Args v96 (fun y99 =>
       ob1 (M_datalog_variable y99) (fun z100 =>
        sel z100
         (grd (v97.length ≤ 140737488355328) (ob1 (M_s_Contains_string v97 y99) (fun z101 =>
           sel (!z101)
            (grd ((v97.length + 1) * 16 ≤ 140737488355328) (M_datalog_Variables_L1 y87 k98 (IntKind.i64.wrap (v96 + 1)) (v97 ++ [y99])))
            (M_datalog_Variables_L1 y87 k98 (IntKind.i64.wrap (v96 + 1)) v97))))
         (M_datalog_Variables_L1 y87 k98 (IntKind.i64.wrap (v96 + 1)) v97))))
     (some v97)
def M_datalog_Variables_L2 (a0 : List GAtom) : Nat → Int → (List ByteArray) → Option (List ByteArray)
  | 0, _, _ => none
  | k69 + 1, v67, v68 =>
    sel (decide (v67 < ((a0.map cGAtom).length : Int)))
     (ob1 (ix a0 v67 (fun y87 =>
        M_datalog_Variables_L1 y87 ((((y87.Args.map cS).length : Int)).toNat + 1) 0 v68) : Option (List ByteArray))
       (fun v85 => M_datalog_Variables_L2 a0 k69 (IntKind.i64.wrap (v67 + 1)) v85))
     (grd (v68.length ≤ 140737488355328) (some v68))
def M_datalog_Variables (a0 : List GAtom) : Option (List ByteArray) :=
  M_datalog_Variables_L2 a0 ((((a0.map cGAtom).length : Int)).toNat + 1) 0 []
theorem A_datalog_Variables (a0 : List GAtom) {r1 : List ByteArray} (h : M_datalog_Variables a0 = some r1) : ACall cx 33 [.sl 2 (a0.map cGAtom)] (.sl 1 (r1.map cS)) := by
  refine aOf Tryd.func33 rfl (by decide) rfl (Nat.le_of_ble_eq_true rfl) ?_; intro _; unfold M_datalog_Variables at h; refine aSR ?_; intro _; refine dr_XDCk ?_; refine aSR ?_; intro _; refine dr_XDCk ?_; refine aSq ?_; refine aSR ?_; intro _; refine dr_XDCk ?_; refine aBk ?_; refine awp_loop (α := Nat × Int × (List ByteArray)) (fun x => mkS 36 [(3, .own 32 0 0 x.2.2.length), (8, .sl 2 (a0.map cGAtom)), (9, .c (.int .i64 ((a0.map cGAtom).length : Int))), (10, .c (.int .i64 x.2.1))] [(32, ⟨9, 1, false, x.2.2.map cS⟩)]) (fun x => M_datalog_Variables_L2 a0 x.1 x.2.1 x.2.2 = some r1) (fun x => x.1) ((((a0.map cGAtom).length : Int)).toNat + 1, 0, []) h ?_ ?_
  · exact ca_XDCk
  · intro x1 h; intro _; obtain ⟨k69, m2, h⟩ := succ_of (f := fun n => M_datalog_Variables_L2 a0 n x1.2.1 x1.2.2) rfl h; replace h : M_datalog_Variables_L2 a0 (k69 + 1) x1.2.1 x1.2.2 = some r1 := h; rw [M_datalog_Variables_L2] at h; refine aSR ?_; intro _; refine dr_XDCk ?_; refine aSq ?_; refine aCd ?_; intro _; refine spl h (fun c3 h => ?_) (fun c3 h => ?_)
    · refine aSk ?_; obtain ⟨o4, h, hK5⟩ := ob1_ok h; refine awp_cut (α := List ByteArray) (fun v85 => mkS 36 [(3, .own 32 0 0 v85.length), (8, .sl 2 (a0.map cGAtom)), (9, .c (.int .i64 ((a0.map cGAtom).length : Int))), (10, .c (.int .i64 x1.2.1))] [(32, ⟨9, 1, false, v85.map cS⟩)]) (fun v => o4 = v) ?_ ?_
      · refine aBk ?_; refine aSR ?_; intro _; obtain ⟨y87, w6, q7, h⟩ := ix_ok h; refine Exists.intro (cGAtom y87) (And.intro (map_at' w6) ?_); intro _; refine pr_XDCk ?_; refine dr_XDCk ?_; refine aSR ?_; intro _; refine dr_XDCk ?_; refine aBk ?_; refine awp_loop (α := Nat × Int × (List ByteArray)) (fun x => mkS 36 [(3, .own 32 0 0 x.2.2.length), (8, .sl 2 (a0.map cGAtom)), (9, .c (.int .i64 ((a0.map cGAtom).length : Int))), (10, .c (.int .i64 x1.2.1)), (15, .sl 1 (y87.Args.map cS)), (16, .c (.int .i64 ((y87.Args.map cS).length : Int))), (17, .c (.int .i64 x.2.1))] [(32, ⟨9, 1, false, x.2.2.map cS⟩)]) (fun x => M_datalog_Variables_L1 y87 x.1 x.2.1 x.2.2 = some o4) (fun x => x.1) ((((y87.Args.map cS).length : Int)).toNat + 1, 0, x1.2.2) h ?_ ?_
        · exact ca_XDCk
        · intro x8 h; intro _; obtain ⟨k98, m9, h⟩ := succ_of (f := fun n => M_datalog_Variables_L1 y87 n x8.2.1 x8.2.2) rfl h; replace h : M_datalog_Variables_L1 y87 (k98 + 1) x8.2.1 x8.2.2 = some o4 := h; rw [M_datalog_Variables_L1] at h; refine aSR ?_; intro _; refine dr_XDCk ?_; refine aSq ?_; refine aCd ?_; intro _; refine spl h (fun c10 h => ?_) (fun c10 h => ?_)
          · refine aSk ?_; refine aSq ?_; refine aBk ?_; refine aSR ?_; intro _; obtain ⟨y99, w11, q12, h⟩ := ix_ok h; refine Exists.intro (cS y99) (And.intro (map_at' w11) ?_); intro _; refine pr_XDCk ?_; refine dr_XDCk ?_; refine aSR ?_; intro _; obtain ⟨z100, u13, h⟩ := ob1_ok h; refine cl_XDCk rfl (A_datalog_variable y99 u13) ?_; intro _; refine spl h (fun c14 h => ?_) (fun c14 h => ?_)
            · intro _; obtain ⟨q15, h⟩ := grd_ok h; obtain ⟨z101, u16, h⟩ := ob1_ok h; refine clb_XDCk [32] rfl rfl (A_s_Contains_string x8.2.2 y99 u16) ?_; intro _; refine dr_XDCk ?_; refine aCd ?_; intro _; refine spl h (fun c17 h => ?_) (fun c17 h => ?_)
              · refine aRg ?_; intro _; obtain ⟨q18, h⟩ := grd_ok h; refine pl_XDCk ?_; refine pl_XDCk ?_; refine And.intro (by first | with_reducible assumption | (show (x8.2.2.length + 1) * 16 ≤ 140737488355328; with_reducible assumption) | omega | (simp; omega)) ?_; refine pe_XDCk ?_; refine dr_XDCk ?_; refine aRg ?_; intro _; refine dr_XDCk ?_; refine ⟨(k98, (IntKind.i64.wrap (x8.2.1 + 1)), (x8.2.2 ++ [y99])), h, ltS m9, ?_⟩; exact ca_XDCk
              · refine aSk ?_; refine aRg ?_; intro _; refine dr_XDCk ?_; refine ⟨(k98, (IntKind.i64.wrap (x8.2.1 + 1)), x8.2.2), h, ltS m9, ?_⟩; exact ca_XDCk
            · intro _; refine dr_XDCk ?_; refine aCd ?_; intro _; refine litF ?_; refine aSk ?_; refine aRg ?_; intro _; refine dr_XDCk ?_; refine ⟨(k98, (IntKind.i64.wrap (x8.2.1 + 1)), x8.2.2), h, ltS m9, ?_⟩; exact ca_XDCk
          · refine aEx ?_; refine ⟨x8.2.2, (Option.some.inj h).symm, ?_⟩; exact ca_XDCk
      · rintro v85 ho; have ho := ho.symm; subst ho; intro _; replace h := hK5; refine aRg ?_; intro _; refine dr_XDCk ?_; refine ⟨(k69, (IntKind.i64.wrap (x1.2.1 + 1)), v85), h, ltS m2, ?_⟩; exact ca_XDCk
    · refine aEx ?_; refine aSR ?_; intro _; refine dr_XDCk ?_; refine aRt ?_; obtain ⟨q19, h⟩ := grd_ok h; intro _; obtain rfl := inj1 h; exact ca_XDCk
def M_s_IndexFunc_string_L1 (a0 : List ByteArray) (a1 : ByteArray → Option Bool) : Nat → Int → Option (Int)
  | 0, _ => none
  | k7 + 1, v6 =>
    sel (decide (v6 < ((a0.map cS).length : Int)))
     (ix a0 v6 (fun y8 =>
       ob1 (a1 y8) (fun z9 =>
        sel z9
         (some v6)
         (M_s_IndexFunc_string_L1 a0 a1 k7 (IntKind.i64.wrap (v6 + 1))))))
     (some (-1))
def M_s_IndexFunc_string (a0 : List ByteArray) (a1 : ByteArray → Option Bool) : Option (Int) :=
  M_s_IndexFunc_string_L1 a0 a1 ((((a0.map cS).length : Int)).toNat + 1) 0
theorem A_s_IndexFunc_string (a0 : List ByteArray) (a1 : ByteArray → Option Bool) (Fa1 : AV) (hFa1 : Fr Fa1) (ea1 : ∃ f fs cap, Fa1 = .clo (.func f) fs cap) (ha1 : ∀ (x0 : ByteArray) (y0 : Bool), a1 x0 = some y0 → CCl cx Fa1 [.c (.string x0)] (.c (.bool y0))) {r1 : Int} (h : M_s_IndexFunc_string a0 a1 = some r1) : ACall cx 55 [.sl 1 (a0.map cS), Fa1] (.c (.int .i64 r1)) := by
  obtain ⟨fa1, sa1, qa1, rfl⟩ := ea1; refine aOf Tryd.func55 rfl (by decide) rfl (Nat.le_of_ble_eq_true rfl) ?_; intro _; unfold M_s_IndexFunc_string at h; refine aSR ?_; intro _; refine dr_XDCk ?_; refine aSq ?_; refine aSR ?_; intro _; refine dr_XDCk ?_; refine aBk ?_; refine awp_loop (α := Nat × Int) (fun x => mkS 19 [(0, .sl 1 (a0.map cS)), (1, .clo (.func fa1) sa1 qa1), (7, .c (.int .i64 ((a0.map cS).length : Int))), (8, .c (.int .i64 x.2))] []) (fun x => M_s_IndexFunc_string_L1 a0 a1 x.1 x.2 = some r1) (fun x => x.1) ((((a0.map cS).length : Int)).toNat + 1, 0) h ?_ ?_
  · exact ca_XDCk
  · intro x1 h; intro _; obtain ⟨k7, m2, h⟩ := succ_of (f := fun n => M_s_IndexFunc_string_L1 a0 a1 n x1.2) rfl h; replace h : M_s_IndexFunc_string_L1 a0 a1 (k7 + 1) x1.2 = some r1 := h; rw [M_s_IndexFunc_string_L1] at h; refine aSR ?_; intro _; refine dr_XDCk ?_; refine aSq ?_; refine aCd ?_; intro _; refine spl h (fun c3 h => ?_) (fun c3 h => ?_)
    · refine aSk ?_; refine aSq ?_; refine aBk ?_; refine aSR ?_; intro _; refine dr_XDCk ?_; refine aSR ?_; intro _; obtain ⟨y8, w4, q5, h⟩ := ix_ok h; refine Exists.intro (cS y8) (And.intro (map_at' w4) ?_); intro _; obtain ⟨z9, u6, h⟩ := ob1_ok h; refine clc_XDCk rfl (ha1 _ _ u6) hFa1 ?_; intro _; refine pr_XDCk ?_; refine dr_XDCk ?_; refine aCd ?_; intro _; refine spl h (fun c7 h => ?_) (fun c7 h => ?_)
      · refine aSR ?_; intro _; refine dr_XDCk ?_; refine aRt ?_; intro _; obtain rfl := inj1 h; exact ca_XDCk
      · refine aSk ?_; refine aRg ?_; intro _; refine dr_XDCk ?_; refine ⟨(k7, (IntKind.i64.wrap (x1.2 + 1))), h, ltS m2, ?_⟩; exact ca_XDCk
    · refine aEx ?_; refine aSR ?_; intro _; refine dr_XDCk ?_; refine aRt ?_; intro _; obtain rfl := inj1 h; exact ca_XDCk
def M_s_ContainsFunc_string (a0 : List ByteArray) (a1 : ByteArray → Option Bool) : Option (Bool) :=
  ob1 (M_s_IndexFunc_string a0 a1) (fun z1 =>
   some (decide (z1 ≥ 0)))
theorem A_s_ContainsFunc_string (a0 : List ByteArray) (a1 : ByteArray → Option Bool) (Fa1 : AV) (hFa1 : Fr Fa1) (ea1 : ∃ f fs cap, Fa1 = .clo (.func f) fs cap) (ha1 : ∀ (x0 : ByteArray) (y0 : Bool), a1 x0 = some y0 → CCl cx Fa1 [.c (.string x0)] (.c (.bool y0))) {r1 : Bool} (h : M_s_ContainsFunc_string a0 a1 = some r1) : ACall cx 35 [.sl 1 (a0.map cS), Fa1] (.c (.bool r1)) := by
  obtain ⟨fa1, sa1, qa1, rfl⟩ := ea1; refine aOf Tryd.func35 rfl (by decide) rfl (Nat.le_of_ble_eq_true rfl) ?_; intro _; unfold M_s_ContainsFunc_string at h; refine aSR ?_; intro _; refine dr_XDCk ?_; refine aSR ?_; intro _; obtain ⟨z1, u1, h⟩ := ob1_ok h; refine cl_XDCk rfl (A_s_IndexFunc_string a0 a1 (.clo (.func fa1) sa1 qa1) hFa1 ⟨_, _, _, rfl⟩ ha1 u1) ?_; intro _; refine dr_XDCk ?_; refine aRt ?_; intro _; obtain rfl := inj1 h; exact ca_XDCk
def M_datalog_CheckRule_1 (b0 : List ByteArray) (a0 : ByteArray) : Option (Bool) :=
  ob1 (M_datalog_variable a0) (fun z1 =>
   sel z1
    (ob1 (M_s_Contains_string b0 a0) (fun z2 =>
      some (!z2)))
    (some false))
theorem A_datalog_CheckRule_1 (b0 : List ByteArray) (a0 : ByteArray) {r1 : Bool} (h : M_datalog_CheckRule_1 b0 a0 = some r1) : ACall cx 36 [.c (.string a0), .pim [.sl 1 (b0.map cS)] 0] (.c (.bool r1)) := by
  refine aOf Tryd.func36 rfl (by decide) rfl (Nat.le_of_ble_eq_true rfl) ?_; intro _; unfold M_datalog_CheckRule_1 at h; refine aSR ?_; intro _; refine dr_XDCk ?_; refine aSR ?_; intro _; obtain ⟨z1, u1, h⟩ := ob1_ok h; refine cl_XDCk rfl (A_datalog_variable a0 u1) ?_; intro _; refine spl h (fun c2 h => ?_) (fun c2 h => ?_)
  · intro _; obtain ⟨z2, u3, h⟩ := ob1_ok h; refine cl_XDCk rfl (A_s_Contains_string b0 a0 u3) ?_; intro _; refine dr_XDCk ?_; refine aRt ?_; intro _; obtain rfl := inj1 h; exact ca_XDCk
  · intro _; refine dr_XDCk ?_; refine aRt ?_; intro _; obtain rfl := inj1 h; exact ca_XDCk
def M_s_IndexFunc_Atom_L1 (a0 : List GAtom) (a1 : GAtom → Option Bool) : Nat → Int → Option (Int)
  | 0, _ => none
  | k7 + 1, v6 =>
    sel (decide (v6 < ((a0.map cGAtom).length : Int)))
     (ix a0 v6 (fun y8 =>
       ob1 (a1 y8) (fun z9 =>
        sel z9
         (some v6)
         (M_s_IndexFunc_Atom_L1 a0 a1 k7 (IntKind.i64.wrap (v6 + 1))))))
     (some (-1))
def M_s_IndexFunc_Atom (a0 : List GAtom) (a1 : GAtom → Option Bool) : Option (Int) :=
  M_s_IndexFunc_Atom_L1 a0 a1 ((((a0.map cGAtom).length : Int)).toNat + 1) 0
theorem A_s_IndexFunc_Atom (a0 : List GAtom) (a1 : GAtom → Option Bool) (Fa1 : AV) (hFa1 : Fr Fa1) (ea1 : ∃ f fs cap, Fa1 = .clo (.func f) fs cap) (ha1 : ∀ (x0 : GAtom) (y0 : Bool), a1 x0 = some y0 → CCl cx Fa1 [.agg [.c (.string x0.Name), .sl 1 (x0.Args.map cS)]] (.c (.bool y0))) {r1 : Int} (h : M_s_IndexFunc_Atom a0 a1 = some r1) : ACall cx 58 [.sl 2 (a0.map cGAtom), Fa1] (.c (.int .i64 r1)) := by
  obtain ⟨fa1, sa1, qa1, rfl⟩ := ea1; refine aOf Tryd.func58 rfl (by decide) rfl (Nat.le_of_ble_eq_true rfl) ?_; intro _; unfold M_s_IndexFunc_Atom at h; refine aSR ?_; intro _; refine dr_XDCk ?_; refine aSq ?_; refine aSR ?_; intro _; refine dr_XDCk ?_; refine aBk ?_; refine awp_loop (α := Nat × Int) (fun x => mkS 19 [(0, .sl 2 (a0.map cGAtom)), (1, .clo (.func fa1) sa1 qa1), (7, .c (.int .i64 ((a0.map cGAtom).length : Int))), (8, .c (.int .i64 x.2))] []) (fun x => M_s_IndexFunc_Atom_L1 a0 a1 x.1 x.2 = some r1) (fun x => x.1) ((((a0.map cGAtom).length : Int)).toNat + 1, 0) h ?_ ?_
  · exact ca_XDCk
  · intro x1 h; intro _; obtain ⟨k7, m2, h⟩ := succ_of (f := fun n => M_s_IndexFunc_Atom_L1 a0 a1 n x1.2) rfl h; replace h : M_s_IndexFunc_Atom_L1 a0 a1 (k7 + 1) x1.2 = some r1 := h; rw [M_s_IndexFunc_Atom_L1] at h; refine aSR ?_; intro _; refine dr_XDCk ?_; refine aSq ?_; refine aCd ?_; intro _; refine spl h (fun c3 h => ?_) (fun c3 h => ?_)
    · refine aSk ?_; refine aSq ?_; refine aBk ?_; refine aSR ?_; intro _; refine dr_XDCk ?_; refine aSR ?_; intro _; obtain ⟨y8, w4, q5, h⟩ := ix_ok h; refine Exists.intro (cGAtom y8) (And.intro (map_at' w4) ?_); intro _; obtain ⟨z9, u6, h⟩ := ob1_ok h; refine clc_XDCk rfl (ha1 _ _ u6) hFa1 ?_; intro _; refine pr_XDCk ?_; refine dr_XDCk ?_; refine aCd ?_; intro _; refine spl h (fun c7 h => ?_) (fun c7 h => ?_)
      · refine aSR ?_; intro _; refine dr_XDCk ?_; refine aRt ?_; intro _; obtain rfl := inj1 h; exact ca_XDCk
      · refine aSk ?_; refine aRg ?_; intro _; refine dr_XDCk ?_; refine ⟨(k7, (IntKind.i64.wrap (x1.2 + 1))), h, ltS m2, ?_⟩; exact ca_XDCk
    · refine aEx ?_; refine aSR ?_; intro _; refine dr_XDCk ?_; refine aRt ?_; intro _; obtain rfl := inj1 h; exact ca_XDCk
def M_s_ContainsFunc_Atom (a0 : List GAtom) (a1 : GAtom → Option Bool) : Option (Bool) :=
  ob1 (M_s_IndexFunc_Atom a0 a1) (fun z1 =>
   some (decide (z1 ≥ 0)))
theorem A_s_ContainsFunc_Atom (a0 : List GAtom) (a1 : GAtom → Option Bool) (Fa1 : AV) (hFa1 : Fr Fa1) (ea1 : ∃ f fs cap, Fa1 = .clo (.func f) fs cap) (ha1 : ∀ (x0 : GAtom) (y0 : Bool), a1 x0 = some y0 → CCl cx Fa1 [.agg [.c (.string x0.Name), .sl 1 (x0.Args.map cS)]] (.c (.bool y0))) {r1 : Bool} (h : M_s_ContainsFunc_Atom a0 a1 = some r1) : ACall cx 39 [.sl 2 (a0.map cGAtom), Fa1] (.c (.bool r1)) := by
  obtain ⟨fa1, sa1, qa1, rfl⟩ := ea1; refine aOf Tryd.func39 rfl (by decide) rfl (Nat.le_of_ble_eq_true rfl) ?_; intro _; unfold M_s_ContainsFunc_Atom at h; refine aSR ?_; intro _; refine dr_XDCk ?_; refine aSR ?_; intro _; obtain ⟨z1, u1, h⟩ := ob1_ok h; refine cl_XDCk rfl (A_s_IndexFunc_Atom a0 a1 (.clo (.func fa1) sa1 qa1) hFa1 ⟨_, _, _, rfl⟩ ha1 u1) ?_; intro _; refine dr_XDCk ?_; refine aRt ?_; intro _; obtain rfl := inj1 h; exact ca_XDCk
def M_datalog_CheckRule_2 (a0 : GAtom) : Option (Bool) :=
  some (decide (((a0.Args.map cS).length : Int) > 6))
theorem A_datalog_CheckRule_2 (a0 : GAtom) {r1 : Bool} (h : M_datalog_CheckRule_2 a0 = some r1) : ACall cx 40 [.agg [.c (.string a0.Name), .sl 1 (a0.Args.map cS)]] (.c (.bool r1)) := by
  refine aOf Tryd.func40 rfl (by decide) rfl (Nat.le_of_ble_eq_true rfl) ?_; intro _; unfold M_datalog_CheckRule_2 at h; refine aSR ?_; intro _; refine dr_XDCk ?_; refine aSR ?_; intro _; refine dr_XDCk ?_; refine aRt ?_; intro _; obtain rfl := inj1 h; exact ca_XDCk
def M_datalog_CheckRule_3 (a0 : GAtom) : Option (Bool) :=
  some (a0.Name.toList == (⟨#[]⟩ : ByteArray).toList)
theorem A_datalog_CheckRule_3 (a0 : GAtom) {r1 : Bool} (h : M_datalog_CheckRule_3 a0 = some r1) : ACall cx 41 [.agg [.c (.string a0.Name), .sl 1 (a0.Args.map cS)]] (.c (.bool r1)) := by
  refine aOf Tryd.func41 rfl (by decide) rfl (Nat.le_of_ble_eq_true rfl) ?_; intro _; unfold M_datalog_CheckRule_3 at h; refine aSR ?_; intro _; refine dr_XDCk ?_; refine aSR ?_; intro _; refine dr_XDCk ?_; refine aRt ?_; intro _; obtain rfl := inj1 h; exact ca_XDCk
def M_datalog_CheckRule_L1 (a0 : GRule) : Nat → Int → (List ByteArray) → Option (List ByteArray)
  | 0, _, _ => none
  | k19 + 1, v17, v18 =>
    sel (decide (v17 < ((a0.Unequal.map cA2_cS).length : Int)))
     (ix a0.Unequal v17 (fun y20 =>
       grd ((v18.length + 2) * 16 ≤ 140737488355328) (M_datalog_CheckRule_L1 a0 k19 (IntKind.i64.wrap (v17 + 1)) (v18 ++ [y20.1, y20.2]))))
     (some v18)
def M_datalog_CheckRule (a0 : GRule) : Option (Er) :=
  ob1 (M_datalog_Variables a0.Body) (fun z1 =>
   ob1 (M_cloneSo a0.Head.Args) (fun z2 =>
    ob1 (M_datalog_CheckRule_L1 a0 ((((a0.Unequal.map cA2_cS).length : Int)).toNat + 1) 0 z2 : Option (List ByteArray))
     (fun v11 => grd (v11.length ≤ 140737488355328) (ob1 (M_s_ContainsFunc_string v11 (M_datalog_CheckRule_1 z1)) (fun z21 =>
        sel z21
         (some (Er.no 2))
         (grd ((1 + a0.Body.length) * 40 ≤ 140737488355328) (ob1 (sel (decide (((a0.Body.map cGAtom).length : Int) > 16))
            (some (.inr (Er.no 5)))
            (grd (([a0.Head] ++ a0.Body).length ≤ 140737488355328) (ob1 (M_s_ContainsFunc_Atom ([a0.Head] ++ a0.Body) M_datalog_CheckRule_2) (fun z25 =>
              sel z25
               (some (.inr (Er.no 5)))
               (some (.inl ()))))) : Option (Unit ⊕ Er))
           (osum
           (fun _ => grd (([a0.Head] ++ a0.Body).length ≤ 140737488355328) (ob1 (M_s_ContainsFunc_Atom ([a0.Head] ++ a0.Body) M_datalog_CheckRule_3) (fun z26 =>
              sel z26
               (some (Er.no 8))
               (some Er.nil))))
           (fun r23 => some r23)))))))))
theorem A_datalog_CheckRule (a0 : GRule) {r1 : Er} (h : M_datalog_CheckRule a0 = some r1) : ACall cx 13 [.agg [.c (.string a0.Head.Name), .sl 1 (a0.Head.Args.map cS), .sl 2 (a0.Body.map cGAtom), .sl 2 (a0.Unequal.map cA2_cS)]] (eA r1) := by
  refine aOf Tryd.func13 rfl (by decide) rfl (Nat.le_of_ble_eq_true rfl) ?_; intro _; unfold M_datalog_CheckRule at h; refine aSR ?_; intro _; refine dr_XDCk ?_; refine aSR ?_; intro _; obtain ⟨z1, u1, h⟩ := ob1_ok h; refine cl_XDCk rfl (A_datalog_Variables a0.Body u1) ?_; intro _; refine dr_XDCk ?_; refine aSR ?_; intro _; obtain ⟨z2, u2, h⟩ := ob1_ok h; refine clg_XDCk [(0, 14)] [] [] [(14, ⟨2, some ⟨9, 1, false, z2.map cS⟩⟩)] (.own 14 2 0 z2.length) rfl rfl (A_cloneSo a0.Head.Args u2) ?_; intro _; refine dr_XDCk ?_; obtain ⟨o3, h, hK4⟩ := ob1_ok h; refine awp_cut (α := List ByteArray) (fun v11 => mkS 52 [(1, .ptr 1 0 0 0), (3, .ptr 3 0 0 0), (4, .own 14 0 0 v11.length)] [(1, ⟨28, 4, true, [[.c (.string a0.Head.Name), .sl 1 (a0.Head.Args.map cS), .sl 2 (a0.Body.map cGAtom), .sl 2 (a0.Unequal.map cA2_cS)]]⟩), (3, ⟨22, 1, true, [[.sl 1 (z1.map cS)]]⟩), (14, ⟨9, 1, false, v11.map cS⟩)]) (fun v => o3 = v) ?_ ?_
  · refine aSR ?_; intro _; refine dr_XDCk ?_; refine aBk ?_; refine awp_loop (α := Nat × Int × (List ByteArray)) (fun x => mkS 52 [(1, .ptr 1 0 0 0), (3, .ptr 3 0 0 0), (4, .own 14 0 0 x.2.2.length), (16, .sl 2 (a0.Unequal.map cA2_cS)), (17, .c (.int .i64 ((a0.Unequal.map cA2_cS).length : Int))), (18, .c (.int .i64 x.2.1))] [(1, ⟨28, 4, true, [[.c (.string a0.Head.Name), .sl 1 (a0.Head.Args.map cS), .sl 2 (a0.Body.map cGAtom), .sl 2 (a0.Unequal.map cA2_cS)]]⟩), (3, ⟨22, 1, true, [[.sl 1 (z1.map cS)]]⟩), (14, ⟨9, 1, false, x.2.2.map cS⟩)]) (fun x => M_datalog_CheckRule_L1 a0 x.1 x.2.1 x.2.2 = some o3) (fun x => x.1) ((((a0.Unequal.map cA2_cS).length : Int)).toNat + 1, 0, z2) h ?_ ?_
    · exact ca_XDCk
    · intro x5 h; intro _; obtain ⟨k19, m6, h⟩ := succ_of (f := fun n => M_datalog_CheckRule_L1 a0 n x5.2.1 x5.2.2) rfl h; replace h : M_datalog_CheckRule_L1 a0 (k19 + 1) x5.2.1 x5.2.2 = some o3 := h; rw [M_datalog_CheckRule_L1] at h; refine aSR ?_; intro _; refine dr_XDCk ?_; refine aSq ?_; refine aCd ?_; intro _; refine spl h (fun c7 h => ?_) (fun c7 h => ?_)
      · refine aSk ?_; refine aSq ?_; refine aBk ?_; refine aSR ?_; intro _; obtain ⟨y20, w8, q9, h⟩ := ix_ok h; refine Exists.intro (cA2_cS y20) (And.intro (map_at' w8) ?_); intro _; refine pr_XDCk ?_; refine dr_XDCk ?_; refine aRg ?_; intro _; refine ⟨_, lf_arrAt rfl (Nat.le_of_ble_eq_true rfl) rfl rfl rfl (tyTab_ok 58 _ rfl) rfl (tyTab_ok 9 _ rfl) (by decide) (by decide), ?_⟩; intro _; refine ⟨_, lf_arrAt rfl (Nat.le_of_ble_eq_true rfl) rfl rfl rfl (tyTab_ok 58 _ rfl) rfl (tyTab_ok 9 _ rfl) (by decide) (by decide), ?_⟩; intro _; obtain ⟨q10, h⟩ := grd_ok h; refine pl_XDCk ?_; refine pl_XDCk ?_; refine And.intro (by first | with_reducible assumption | (show (x5.2.2.length + 2) * 16 ≤ 140737488355328; with_reducible assumption) | omega | (simp; omega)) ?_; refine pe_XDCk ?_; refine dr_XDCk ?_; refine aRg ?_; intro _; refine dr_XDCk ?_; refine ⟨(k19, (IntKind.i64.wrap (x5.2.1 + 1)), (x5.2.2 ++ [y20.1, y20.2])), h, ltS m6, ?_⟩; exact ca_XDCk
      · refine aEx ?_; refine ⟨x5.2.2, (Option.some.inj h).symm, ?_⟩; exact ca_XDCk
  · rintro v11 ho; have ho := ho.symm; subst ho; intro _; replace h := hK4; refine aSq ?_; refine aSR ?_; intro _; refine ⟨_, lf_func rfl (Nat.le_of_ble_eq_true rfl) rfl rfl, ?_⟩; intro _; obtain ⟨q11, h⟩ := grd_ok h; obtain ⟨z21, u12, h⟩ := ob1_ok h; refine clb_XDCk [3, 14] rfl rfl (A_s_ContainsFunc_string v11 (M_datalog_CheckRule_1 z1) (.clo (.func 36) [] [.pim [.sl 1 (z1.map cS)] 0]) (Fr.clo FrC_nil FrE.h) ⟨_, _, _, rfl⟩ (fun x0 y0 hx => ⟨36, [], _, rfl, A_datalog_CheckRule_1 z1 x0 hx⟩) u12) ?_; intro _; refine dr_XDCk ?_; refine aCd ?_; intro _; refine spl h (fun c13 h => ?_) (fun c13 h => ?_)
    · refine aSR ?_; intro _; refine dr_XDCk ?_; refine aRt ?_; intro _; obtain rfl := inj1 h; exact ca_XDCk
    · refine aSk ?_; refine aSR ?_; intro _; obtain ⟨q14, h⟩ := grd_ok h; refine pl_XDCk ?_; refine And.intro (by first | with_reducible assumption | (show (1 + a0.Body.length) * 40 ≤ 140737488355328; with_reducible assumption) | omega | (simp; omega)) ?_; refine pe_XDCk ?_; refine dr_XDCk ?_; obtain ⟨o15, h, hK16⟩ := ob1_ok h; refine awp_cut (α := Unit) (fun _ => mkS 52 [(7, .own 36 0 0 (([a0.Head] ++ a0.Body).length))] [(36, ⟨24, 2, false, ([a0.Head] ++ a0.Body).map cGAtom⟩)]) (fun v => o15 = (.inl v)) ?_ ?_
      · refine aSR ?_; intro _; refine spf h (fun c17 h => ?_) (fun c17 h => ?_)
        · intro _; obtain ⟨q18, h⟩ := grd_ok h; obtain ⟨z25, u19, h⟩ := ob1_ok h; refine clb_XDCk [36] rfl rfl (A_s_ContainsFunc_Atom ([a0.Head] ++ a0.Body) M_datalog_CheckRule_2 (.clo (.func 40) [] []) (Fr.clo FrC_nil FrE.h) ⟨_, _, _, rfl⟩ (fun x0 y0 hx => ⟨40, [], _, rfl, A_datalog_CheckRule_2 x0 hx⟩) u19) ?_; intro _; refine dr_XDCk ?_; refine aCd ?_; intro _; refine spl h (fun c20 h => ?_) (fun c20 h => ?_)
          · refine aSR ?_; intro _; refine dr_XDCk ?_; refine aRt ?_; have j21 := Option.some.inj h; subst j21; replace h := (osum_r hK16); intro _; obtain rfl := inj1 h; exact ca_XDCk
          · refine aSk ?_; refine ⟨(), (Option.some.inj h).symm, ?_⟩; exact ca_XDCk
        · intro _; refine dr_XDCk ?_; refine aCd ?_; intro _; refine litT ?_; refine aSR ?_; intro _; refine dr_XDCk ?_; refine aRt ?_; have j22 := Option.some.inj h; subst j22; replace h := (osum_r hK16); intro _; obtain rfl := inj1 h; exact ca_XDCk
      · rintro _ ho; have ho := ho.symm; subst ho; intro _; replace h := (osum_l hK16); refine aSq ?_; refine aSR ?_; intro _; obtain ⟨q23, h⟩ := grd_ok h; obtain ⟨z26, u24, h⟩ := ob1_ok h; refine clb_XDCk [36] rfl rfl (A_s_ContainsFunc_Atom ([a0.Head] ++ a0.Body) M_datalog_CheckRule_3 (.clo (.func 41) [] []) (Fr.clo FrC_nil FrE.h) ⟨_, _, _, rfl⟩ (fun x0 y0 hx => ⟨41, [], _, rfl, A_datalog_CheckRule_3 x0 hx⟩) u24) ?_; intro _; refine dr_XDCk ?_; refine aCd ?_; intro _; refine spl h (fun c25 h => ?_) (fun c25 h => ?_)
        · refine aSR ?_; intro _; refine dr_XDCk ?_; refine aRt ?_; intro _; obtain rfl := inj1 h; exact ca_XDCk
        · refine aSk ?_; refine aSR ?_; intro _; refine dr_XDCk ?_; refine aRt ?_; intro _; obtain rfl := inj1 h; exact ca_XDCk
end Go.Proofs.YtflgpccacloadaaDoor.Am
/- Plain law: what CheckRule returns. -/
namespace Go.Proofs.YtflgpccacloadaaDoor.Am
open Go.RowKit
instance memDec (s : ByteArray) (l : List ByteArray) : Decidable (s ∈ l) := decidable_of_iff (l.any (fun x => decide (x = s)) = true) (by simp)
theorem index_loop (l : List ByteArray) (s : ByteArray) (hl : l.length ≤ 4611686018427387904) : ∀ (k i : Nat), i + k = l.length + 1 → i ≤ l.length → ∃ z : Int, M_s_Index_string_L1 l s k (i : Int) = some z ∧ (0 ≤ z ↔ s ∈ l.drop i) := by
  intro k
  induction k with
  | zero => intro i h1 h2; omega
  | succ k ih =>
    intro i h1 h2
    rw [M_s_Index_string_L1]
    by_cases h : i < l.length
    · have hy := List.getElem?_eq_getElem h
      rw [show decide ((i : Int) < ((l.map cS).length : Int)) = true by simp; omega]
      show ∃ z, ix l (i : Int) _ = _ ∧ _
      rw [ix_at hy, beq_bl, sel_dec, dropC hy]
      by_cases e : s = l[i]
      · rw [if_pos e]
        exact ⟨_, rfl, fun _ => List.mem_cons.2 (.inl e), fun _ => by omega⟩
      · rw [if_neg e, wrap_eq (by omega) (by omega)]
        obtain ⟨z, h3, h4⟩ := ih (i + 1) (by omega) (by omega)
        refine ⟨z, h3, h4.trans ⟨fun q => List.mem_cons_of_mem _ q, fun q => ?_⟩⟩
        rcases List.mem_cons.1 q with q | q
        · exact absurd q e
        · exact q
    · rw [show decide ((i : Int) < ((l.map cS).length : Int)) = false by simp; omega]
      rw [List.drop_of_length_le (by omega)]
      exact ⟨-1, rfl, by simp⟩
theorem contains_eq (l : List ByteArray) (s : ByteArray) (hl : l.length ≤ 4611686018427387904) : M_s_Contains_string l s = some (decide (s ∈ l)) := by
  unfold M_s_Contains_string M_s_Index_string
  rw [show (((l.map cS).length : Int)).toNat + 1 = l.length + 1 by simp]
  obtain ⟨z, h1, h2⟩ := index_loop l s hl (l.length + 1) 0 (by omega) (Nat.zero_le _)
  rw [show ((0 : Nat) : Int) = 0 from rfl] at h1
  rw [h1, ob1_some]
  exact congrArg some (decide_eq_decide.2 (by rw [List.drop_zero] at h2; exact h2))
theorem cfS_loop (l : List ByteArray) (f : ByteArray → Option Bool) (p : ByteArray → Bool) (hf : ∀ x ∈ l, f x = some (p x)) (hl : l.length ≤ 4611686018427387904) : ∀ (k i : Nat), i + k = l.length + 1 → i ≤ l.length → ∃ z : Int, M_s_IndexFunc_string_L1 l f k (i : Int) = some z ∧ (decide (z ≥ 0) = (l.drop i).any p) := by
  intro k
  induction k with
  | zero => intro i h1 h2; omega
  | succ k ih =>
    intro i h1 h2
    rw [M_s_IndexFunc_string_L1]
    by_cases h : i < l.length
    · have hy := List.getElem?_eq_getElem h
      rw [show decide ((i : Int) < ((l.map cS).length : Int)) = true by simp; omega]
      show ∃ z, ix l (i : Int) _ = _ ∧ _
      rw [ix_at hy, hf _ (List.getElem_mem h), ob1_some, dropC hy, List.any_cons]
      cases hp : p l[i] with
      | true => exact ⟨i, rfl, by simp⟩
      | false =>
        show ∃ z, M_s_IndexFunc_string_L1 l f k _ = _ ∧ _
        rw [wrap_eq (by omega) (by omega)]
        obtain ⟨z, h3, h4⟩ := ih (i + 1) (by omega) (by omega)
        exact ⟨z, h3, by rw [h4]; simp⟩
    · rw [show decide ((i : Int) < ((l.map cS).length : Int)) = false by simp; omega]
      rw [List.drop_of_length_le (by omega)]
      exact ⟨-1, rfl, rfl⟩
theorem cfS_eq (l : List ByteArray) (f : ByteArray → Option Bool) (p : ByteArray → Bool) (hf : ∀ x ∈ l, f x = some (p x)) (hl : l.length ≤ 4611686018427387904) : M_s_ContainsFunc_string l f = some (l.any p) := by
  unfold M_s_ContainsFunc_string M_s_IndexFunc_string
  rw [show (((l.map cS).length : Int)).toNat + 1 = l.length + 1 by simp]
  obtain ⟨z, h1, h2⟩ := cfS_loop l f p hf hl (l.length + 1) 0 (by omega) (Nat.zero_le _)
  rw [show ((0 : Nat) : Int) = 0 from rfl] at h1
  rw [h1, ob1_some, h2, List.drop_zero]
theorem cfA_loop (l : List GAtom) (f : GAtom → Option Bool) (p : GAtom → Bool) (hf : ∀ x ∈ l, f x = some (p x)) (hl : l.length ≤ 4611686018427387904) : ∀ (k i : Nat), i + k = l.length + 1 → i ≤ l.length → ∃ z : Int, M_s_IndexFunc_Atom_L1 l f k (i : Int) = some z ∧ (decide (z ≥ 0) = (l.drop i).any p) := by
  intro k
  induction k with
  | zero => intro i h1 h2; omega
  | succ k ih =>
    intro i h1 h2
    rw [M_s_IndexFunc_Atom_L1]
    by_cases h : i < l.length
    · have hy := List.getElem?_eq_getElem h
      rw [show decide ((i : Int) < ((l.map cGAtom).length : Int)) = true by simp; omega]
      show ∃ z, ix l (i : Int) _ = _ ∧ _
      rw [ix_at hy, hf _ (List.getElem_mem h), ob1_some, dropC hy, List.any_cons]
      cases hp : p l[i] with
      | true => exact ⟨i, rfl, by simp⟩
      | false =>
        show ∃ z, M_s_IndexFunc_Atom_L1 l f k _ = _ ∧ _
        rw [wrap_eq (by omega) (by omega)]
        obtain ⟨z, h3, h4⟩ := ih (i + 1) (by omega) (by omega)
        exact ⟨z, h3, by rw [h4]; simp⟩
    · rw [show decide ((i : Int) < ((l.map cGAtom).length : Int)) = false by simp; omega]
      rw [List.drop_of_length_le (by omega)]
      exact ⟨-1, rfl, rfl⟩
theorem cfA_eq (l : List GAtom) (f : GAtom → Option Bool) (p : GAtom → Bool) (hf : ∀ x ∈ l, f x = some (p x)) (hl : l.length ≤ 4611686018427387904) : M_s_ContainsFunc_Atom l f = some (l.any p) := by
  unfold M_s_ContainsFunc_Atom M_s_IndexFunc_Atom
  rw [show (((l.map cGAtom).length : Int)).toNat + 1 = l.length + 1 by simp]
  obtain ⟨z, h1, h2⟩ := cfA_loop l f p hf hl (l.length + 1) 0 (by omega) (Nat.zero_le _)
  rw [show ((0 : Nat) : Int) = 0 from rfl] at h1
  rw [h1, ob1_some, h2, List.drop_zero]
/-- the variables of a list of terms, each once, in the order of their first occurrence -/
def addV (out : List ByteArray) (s : ByteArray) : List ByteArray := if isV s = true then if s ∈ out then out else out ++ [s] else out
def vars (body : List GAtom) : List ByteArray := (body.flatMap (·.Args)).foldl addV []
theorem addV_len : ∀ (l : List ByteArray) (out : List ByteArray), (l.foldl addV out).length ≤ out.length + l.length
  | [], out => Nat.le_refl _
  | s :: r, out => by
    have h1 := addV_len r (addV out s)
    have h2 : (addV out s).length ≤ out.length + 1 := by
      unfold addV
      split
      · split <;> simp
      · omega
    rw [List.foldl_cons]
    simp only [List.length_cons]
    omega
theorem varL1 (a : GAtom) (hA : a.Args.length ≤ 4611686018427387904) : ∀ (k i : Nat) (out : List ByteArray), i + k = a.Args.length + 1 → i ≤ a.Args.length → (out.length + (a.Args.length - i)) * 16 ≤ 140737488355328 → M_datalog_Variables_L1 a k (i : Int) out = some ((a.Args.drop i).foldl addV out) := by
  intro k
  induction k with
  | zero => intro i out h1 h2; omega
  | succ k ih =>
    intro i out h1 h2 h3
    rw [M_datalog_Variables_L1]
    by_cases h : i < a.Args.length
    · have hy := List.getElem?_eq_getElem h
      rw [show decide ((i : Int) < ((a.Args.map cS).length : Int)) = true by simp; omega]
      show ix a.Args (i : Int) _ = _
      rw [ix_at hy, variable_eq, ob1_some, dropC hy, List.foldl_cons, wrap_eq (by omega) (by omega)]
      unfold addV
      cases hv : isV a.Args[i] with
      | false =>
        rw [if_neg (by decide)]
        exact ih (i + 1) out (by omega) (by omega) (by omega)
      | true =>
        rw [if_pos rfl]
        refine grd_mk (by omega) ?_
        rw [contains_eq out _ (by omega), ob1_some, sel_not, sel_dec]
        by_cases e : a.Args[i] ∈ out
        · rw [if_pos e, if_pos e]
          exact ih (i + 1) out (by omega) (by omega) (by omega)
        · rw [if_neg e, if_neg e]
          exact grd_mk (by omega) (ih (i + 1) (out ++ [a.Args[i]]) (by omega) (by omega) (by simp; omega))
    · rw [show decide ((i : Int) < ((a.Args.map cS).length : Int)) = false by simp; omega]
      rw [List.drop_of_length_le (by omega)]
      rfl
theorem varL2 (body : List GAtom) (hb : body.length ≤ 4611686018427387904) : ∀ (k i : Nat) (out : List ByteArray), i + k = body.length + 1 → i ≤ body.length → (out.length + ((body.drop i).flatMap (·.Args)).length) * 16 ≤ 140737488355328 → M_datalog_Variables_L2 body k (i : Int) out = some (((body.drop i).flatMap (·.Args)).foldl addV out) := by
  intro k
  induction k with
  | zero => intro i out h1 h2; omega
  | succ k ih =>
    intro i out h1 h2 h3
    rw [M_datalog_Variables_L2]
    by_cases h : i < body.length
    · have hy := List.getElem?_eq_getElem h
      rw [show decide ((i : Int) < ((body.map cGAtom).length : Int)) = true by simp; omega]
      show ob1 (ix body (i : Int) _) _ = _
      rw [dropC hy, List.flatMap_cons, List.length_append] at h3
      have h4 := addV_len body[i].Args out
      have h5 := varL1 body[i] (by omega) (body[i].Args.length + 1) 0 out (by omega) (Nat.zero_le _) (by omega)
      rw [List.drop_zero, show ((0 : Nat) : Int) = 0 from rfl] at h5
      rw [ix_at hy, show (((body[i].Args.map cS).length : Int)).toNat + 1 = body[i].Args.length + 1 by simp, h5, ob1_some, wrap_eq (by omega) (by omega), dropC hy, List.flatMap_cons, List.foldl_append]
      exact ih (i + 1) _ (by omega) (by omega) (by omega)
    · rw [show decide ((i : Int) < ((body.map cGAtom).length : Int)) = false by simp; omega]
      rw [List.drop_of_length_le (by omega)]
      exact grd_mk (by omega) rfl
theorem variables_eq (body : List GAtom) (hb : body.length ≤ 4611686018427387904) (ht : (body.flatMap (·.Args)).length * 16 ≤ 140737488355328) : M_datalog_Variables body = some (vars body) := by
  unfold M_datalog_Variables
  rw [show (((body.map cGAtom).length : Int)).toNat + 1 = body.length + 1 by simp]
  have := varL2 body hb (body.length + 1) 0 [] (by omega) (Nat.zero_le _) (by rw [List.drop_zero]; simpa using ht)
  rw [List.drop_zero, show ((0 : Nat) : Int) = 0 from rfl] at this
  exact this
end Go.Proofs.YtflgpccacloadaaDoor.Am
/- Models printed by my decompiler, and the proofs that the code computes them. -/
namespace Go.Proofs.YtflgpccacloadaaDoor.Am
open Go.RowKit
theorem ci_XDSv {p K : Prop} (k : K) (h : p := by first | rfl | exact ⟨rfl, rfl⟩ | exact BW.mpf rfl rfl rfl FrI.h rfl | exact cloK3 rfl rfl rfl rfl rfl rfl rfl rfl rfl | exact CloK.bw (BW.fr (by assumption)) | exact BW.fr FrV.h | (refine BW.fr ?_; assumption) | (refine ⟨rfl, ?_⟩; (simp [cGAtom, cS, cGRule, cA2_cS, cF, take_len_map]; done)) | (refine RowK.same ?_ FrI.h; first | rfl | (simp [cGAtom, cS, cGRule, cA2_cS, cF, take_len_map]; done)) | (refine row_part1 ?_; (repeat (first | exact BWL.nil | exact bwll_nil | exact bw_c | exact BW.sl | exact BW.nil | exact bwll_same rfl FrI.h | refine BWL.cons ?_ ?_ | refine bwll_cons ?_ ?_ | (refine bw_own3 rfl rfl rfl FrI.h ?_ ?_ ?_) | exact BW.mpf rfl rfl rfl FrI.h rfl | exact cloK3 rfl rfl rfl rfl rfl rfl rfl rfl rfl | exact CloK.bw (BW.fr (by assumption)) | exact BW.fr FrV.h | exact BW.fr (by assumption) | refine bw_agg ?_ | refine bw_clo ?_ | refine bw_ptr rfl rfl rfl ?_ | (refine bw_own rfl rfl rfl ?_ FrI.h ?_ ?_) | assumption | omega | rfl | (rw [List.length_map, ← List.length_append]; assumption) | (refine bwll_same ?_ FrI.h; (simp [cGAtom, cS, cGRule, cA2_cS, cF] <;> fail)) | (rw [List.map_set]; refine bwll_set (by first | rfl | omega | simp) ?_ ?_) | refine bwll_set (by first | rfl | omega | simp) ?_ ?_ | (rw [List.map_replicate]; refine bwll_rep ?_) | refine bwll_rep ?_ | (rw [List.map_append]; refine bwll_append ?_ ?_) | refine bwll_append ?_ ?_ | (simp [cGAtom, cS, cGRule, cA2_cS, cF, take_len_map] <;> fail) | (rw [List.drop_zero, List.take_of_length_le] <;> first | rfl | (simp [cGAtom, cS, cGRule, cA2_cS, cF] <;> fail)) | (simp; omega) | (simp only [List.length_map, List.length_append, List.drop_zero, List.length_cons, List.length_nil, Nat.zero_add, Nat.add_zero] at *; omega))); done) | ((repeat (first | exact BWL.nil | exact bwll_nil | exact bw_c | exact BW.sl | exact BW.nil | exact bwll_same rfl FrI.h | refine BWL.cons ?_ ?_ | refine bwll_cons ?_ ?_ | (refine bw_own3 rfl rfl rfl FrI.h ?_ ?_ ?_) | exact BW.mpf rfl rfl rfl FrI.h rfl | exact cloK3 rfl rfl rfl rfl rfl rfl rfl rfl rfl | exact CloK.bw (BW.fr (by assumption)) | exact BW.fr FrV.h | exact BW.fr (by assumption) | refine bw_agg ?_ | refine bw_clo ?_ | refine bw_ptr rfl rfl rfl ?_ | (refine bw_own rfl rfl rfl ?_ FrI.h ?_ ?_) | assumption | omega | rfl | (rw [List.length_map, ← List.length_append]; assumption) | (refine bwll_same ?_ FrI.h; (simp [cGAtom, cS, cGRule, cA2_cS, cF] <;> fail)) | (rw [List.map_set]; refine bwll_set (by first | rfl | omega | simp) ?_ ?_) | refine bwll_set (by first | rfl | omega | simp) ?_ ?_ | (rw [List.map_replicate]; refine bwll_rep ?_) | refine bwll_rep ?_ | (rw [List.map_append]; refine bwll_append ?_ ?_) | refine bwll_append ?_ ?_ | (simp [cGAtom, cS, cGRule, cA2_cS, cF, take_len_map] <;> fail) | (rw [List.drop_zero, List.take_of_length_le] <;> first | rfl | (simp [cGAtom, cS, cGRule, cA2_cS, cF] <;> fail)) | (simp; omega) | (simp only [List.length_map, List.length_append, List.drop_zero, List.length_cons, List.length_nil, Nat.zero_add, Nat.add_zero] at *; omega))); done) | (simp [cGAtom, cS, cGRule, cA2_cS, cF, take_len_map]; done)) : p ∧ K := ⟨h, k⟩
theorem ca_XDSv {P : Prop} (h : P := by repeat (first | exact True.intro | refine ci_XDSv ?_)) : P := h
theorem pr_XDSv {p K : Prop} (k : K) (h : p := by first | assumption | exact Int.natCast_nonneg _ | exact Nat.le_refl _ | exact Nat.zero_le _ | omega | (simp; done) | (simp; omega)) : p ∧ K := ⟨h, k⟩
theorem dr_XDSv {b : Bool} {p K : Prop} (k : K) (h : b = true → p := by intro h; first | (cases h; done) | exact ⟨by kernel_rfl, by kernel_rfl⟩) : (b = true → p) ∧ K := ⟨h, k⟩
theorem cl_XDSv {C : Cx} {n : Nat} {o : Oper} {τ : Nat → AV} {η : Nat → Ent} {f : FuncId} {os : Array Operand} {ats : Array TypeId} {r : AV} {args : List AV} {K : Foot → Prop} (ho : o.op = .call ⟨.value (.func f), os, ats⟩) (hc : ACall C f args r) (k : K ⟨r, [], []⟩)
    (hd : InB n o.dst := by exact Nat.le_of_ble_eq_true rfl) (hargs : os.toList.map (evA τ) = args := by first | rfl | (simp [cGAtom, cS, cGRule, cA2_cS, cF]; done) | (repeat (first | exact rfl | refine cons_eq ?_ ?_ | exact sl_dt rfl))) (hfr : frs args := by repeat (first | exact trivial | exact fr1_eA _ | exact fr0_eA _ | exact fr1_fr (by assumption) | exact FrV.h | exact fr0_fr FrV.h | exact fr1_fr FrV.h | refine And.intro ?_ ?_)) (hr : fr1 r := by repeat (first | exact trivial | exact fr1_eA _ | exact fr0_eA _ | exact fr1_fr (by assumption) | exact FrV.h | exact fr0_fr FrV.h | exact fr1_fr FrV.h | refine And.intro ?_ ?_)) : ∃ f : Foot, LF C n o τ η f ∧ K f := ⟨_, lf_call ho hd hargs hc hfr hr, k⟩
theorem clb_XDSv {C : Cx} {n : Nat} {o : Oper} {τ : Nat → AV} {η : Nat → Ent} {f : FuncId} {os : Array Operand} {ats : Array TypeId} {r : AV} {xs ys : List AV} {K : Foot → Prop} (bs : List Nat) (ho : o.op = .call ⟨.value (.func f), os, ats⟩) (hargs : os.toList.map (evA τ) = xs) (hc : ACall C f ys r) (k : K ⟨r, [], bs⟩)
    (hd : InB n o.dst := by exact Nat.le_of_ble_eq_true rfl) (hb : BWL η (dropB η bs) xs ys := by repeat (first | exact BWL.nil | exact bwll_nil | exact bw_c | exact BW.sl | exact BW.nil | exact bwll_same rfl FrI.h | refine BWL.cons ?_ ?_ | refine bwll_cons ?_ ?_ | (refine bw_own3 rfl rfl rfl FrI.h ?_ ?_ ?_) | exact BW.mpf rfl rfl rfl FrI.h rfl | refine CloK.bw ?_ | exact BW.fr FrV.h | exact BW.fr (by assumption) | refine bw_agg ?_ | refine bw_clo ?_ | refine bw_ptr rfl rfl rfl ?_ | (refine bw_own rfl rfl rfl ?_ FrI.h ?_ ?_) | assumption | omega | rfl | (rw [List.length_map, ← List.length_append]; assumption) | (refine bwll_same ?_ FrI.h; (simp [cGAtom, cS, cGRule, cA2_cS, cF] <;> fail)) | (rw [List.map_set]; refine bwll_set (by first | rfl | omega | simp) ?_ ?_) | refine bwll_set (by first | rfl | omega | simp) ?_ ?_ | (rw [List.map_replicate]; refine bwll_rep ?_) | refine bwll_rep ?_ | (rw [List.map_append]; refine bwll_append ?_ ?_) | refine bwll_append ?_ ?_ | (simp [cGAtom, cS, cGRule, cA2_cS, cF, take_len_map] <;> fail) | (rw [List.drop_zero, List.take_of_length_le] <;> first | rfl | (simp [cGAtom, cS, cGRule, cA2_cS, cF] <;> fail)) | (simp; omega) | (simp only [List.length_map, List.length_append, List.drop_zero, List.length_cons, List.length_nil, Nat.zero_add, Nat.add_zero] at *; omega))) (hr : scal r := by repeat (first | exact trivial | exact scal0_eA _ | exact scal_eA _ | refine And.intro ?_ ?_)) : ∃ f : Foot, LF C n o τ η f ∧ K f := ⟨_, lf_callB bs ho hd hargs hb hc hr, k⟩
def M_datalog_Solve_1 (a0 : GAtom) : Option (Bool) :=
  sel (a0.Name.toList == (⟨#[]⟩ : ByteArray).toList)
   (some true)
   (ob1 (M_s_ContainsFunc_string a0.Args M_datalog_variable) (fun z1 =>
     some z1))
set_option maxHeartbeats 16000000 in
set_option maxRecDepth 100000 in
theorem A_datalog_Solve_1 (a0 : GAtom) {r1 : Bool} (h : M_datalog_Solve_1 a0 = some r1) : ACall cx 47 [.agg [.c (.string a0.Name), .sl 1 (a0.Args.map cS)]] (.c (.bool r1)) := by
  refine aOf Tryd.func47 rfl (by decide) rfl (Nat.le_of_ble_eq_true rfl) ?_; intro _; unfold M_datalog_Solve_1 at h; refine aSR ?_; intro _; refine dr_XDSv ?_; refine aSR ?_; intro _; refine spf h (fun c1 h => ?_) (fun c1 h => ?_)
  · intro _; obtain ⟨z1, u2, h⟩ := ob1_ok h; refine clb_XDSv [] rfl rfl (A_s_ContainsFunc_string a0.Args M_datalog_variable (.clo (.func 37) [] []) (Fr.clo FrC_nil FrE.h) ⟨_, _, _, rfl⟩ (fun x0 y0 hx => ⟨37, [], _, rfl, A_datalog_variable x0 hx⟩) u2) ?_; intro _; refine dr_XDSv ?_; refine aRt ?_; intro _; obtain rfl := inj1 h; exact ca_XDSv
  · intro _; refine dr_XDSv ?_; refine aRt ?_; intro _; obtain rfl := inj1 h; exact ca_XDSv
def M_datalog_Solve_L1 (a1 : List GRule) : Nat → Int → Option (Unit ⊕ ((List GAtom) × Er))
  | 0, _ => none
  | k24 + 1, v23 =>
    sel (decide (v23 < ((a1.map cGRule).length : Int)))
     (ix a1 v23 (fun y25 =>
       ob1 (M_datalog_CheckRule y25) (fun z26 =>
        erM z26
         (M_datalog_Solve_L1 a1 k24 (IntKind.i64.wrap (v23 + 1)))
         (fun e27 => some (.inr ([], (Er.no e27)))))))
     (some (.inl ()))
def M_datalog_Solve_L2 (a1 : List GRule) (g : Nat) : Nat → GSet → Option ((List GAtom) × Er)
  | 0, _ => none
  | k41 + 1, v40 =>
    ob2 (M_datalog_round g v40 a1) (fun z42 z43 =>
     erM z43
      (opM z42
        (none)
        (fun z45 => sel (decide (((z45.map cGAtom).length : Int) > 4096))
          (some ([], (Er.no 5)))
          (sel (((z45.map cGAtom).length : Int) == ((v40.map cGAtom).length : Int))
            (some (v40, Er.nil))
            (M_datalog_Solve_L2 a1 g k41 z45))))
      (fun e44 => some ([], (Er.no e44))))
def M_datalog_Solve (g : Nat) (a0 : List GAtom) (a1 : List GRule) : Option ((List GAtom) × Er) :=
  ob1 (M_datalog_Solve_L1 a1 ((((a1.map cGRule).length : Int)).toNat + 1) 0 : Option (Unit ⊕ ((List GAtom) × Er)))
   (osum
   (fun _ => ob1 (M_s_ContainsFunc_Atom a0 M_datalog_Solve_1) (fun z28 =>
      sel z28
       (some ([], (Er.no 2)))
       (sel (decide (((a1.map cGRule).length : Int) > 1024))
         (some ([], (Er.no 5)))
         (ob1 (M_datalog_made g a0) (fun z29 =>
           opM z29
            (none)
            (fun z30 => sel (decide (((z30.map cGAtom).length : Int) > 4096))
              (some ([], (Er.no 5)))
              (M_datalog_Solve_L2 a1 g g z30)))))))
   (fun (r13, r14) => some (r13, r14)))
set_option maxHeartbeats 16000000 in
set_option maxRecDepth 100000 in
theorem A_datalog_Solve (g : Nat) (a0 : List GAtom) (a1 : List GRule) {r1 : List GAtom} {r2 : Er} (h : M_datalog_Solve g a0 a1 = some (r1, r2)) : ACall cx 16 [.sl 2 (a0.map cGAtom), .sl 4 (a1.map cGRule)] (.tup [.sl 2 (r1.map cGAtom), eA r2]) := by
  refine aOf Tryd.func16 rfl (by decide) rfl (Nat.le_of_ble_eq_true rfl) ?_; intro _; unfold M_datalog_Solve at h; refine aSR ?_; intro _; refine dr_XDSv ?_; obtain ⟨o1, h, hK2⟩ := ob1_ok h; refine awp_cut (α := Unit) (fun _ => mkS 72 [(0, .sl 2 (a0.map cGAtom)), (1, .sl 4 (a1.map cGRule))] []) (fun v => o1 = (.inl v)) ?_ ?_
  · refine aSR ?_; intro _; refine dr_XDSv ?_; refine aBk ?_; refine awp_loop (α := Nat × Int) (fun x => mkS 72 [(0, .sl 2 (a0.map cGAtom)), (1, .sl 4 (a1.map cGRule)), (12, .sl 4 (a1.map cGRule)), (13, .c (.int .i64 ((a1.map cGRule).length : Int))), (14, .c (.int .i64 x.2))] []) (fun x => M_datalog_Solve_L1 a1 x.1 x.2 = some o1) (fun x => x.1) ((((a1.map cGRule).length : Int)).toNat + 1, 0) h ?_ ?_
    · exact ca_XDSv
    · intro x3 h; intro _; obtain ⟨k24, m4, h⟩ := succ_of (f := fun n => M_datalog_Solve_L1 a1 n x3.2) rfl h; replace h : M_datalog_Solve_L1 a1 (k24 + 1) x3.2 = some o1 := h; rw [M_datalog_Solve_L1] at h; refine aSR ?_; intro _; refine dr_XDSv ?_; refine aSq ?_; refine aCd ?_; intro _; refine spl h (fun c5 h => ?_) (fun c5 h => ?_)
      · refine aSk ?_; refine aSq ?_; refine aBk ?_; refine aSR ?_; intro _; obtain ⟨y25, w6, q7, h⟩ := ix_ok h; refine Exists.intro (cGRule y25) (And.intro (map_at' w6) ?_); intro _; refine pr_XDSv ?_; refine dr_XDSv ?_; refine aSR ?_; intro _; obtain ⟨z26, u8, h⟩ := ob1_ok h; refine cl_XDSv rfl (A_datalog_CheckRule y25 u8) ?_; intro _; refine dr_XDSv ?_; refine aSq ?_; rcases z26 with _ | e27
        · replace h := erM_nil h; refine aRg ?_; intro _; refine dr_XDSv ?_; refine aCd ?_; intro _; refine litF ?_; refine aSk ?_; refine aRg ?_; intro _; refine dr_XDSv ?_; refine ⟨(k24, (IntKind.i64.wrap (x3.2 + 1))), h, ltS m4, ?_⟩; exact ca_XDSv
        · replace h := erM_no h; refine aRg ?_; intro _; refine dr_XDSv ?_; refine aCd ?_; intro _; refine litT ?_; refine aSR ?_; intro _; refine dr_XDSv ?_; refine aRt ?_; have j9 := Option.some.inj h; subst j9; replace h := (osum_r hK2); intro _; obtain ⟨rfl, rfl⟩ := inj2 h; exact ca_XDSv
      · refine aEx ?_; refine ⟨(), (Option.some.inj h).symm, ?_⟩; exact ca_XDSv
  · rintro _ ho; have ho := ho.symm; subst ho; intro _; replace h := (osum_l hK2); refine aSq ?_; refine aSR ?_; intro _; obtain ⟨z28, u10, h⟩ := ob1_ok h; refine clb_XDSv [] rfl rfl (A_s_ContainsFunc_Atom a0 M_datalog_Solve_1 (.clo (.func 47) [] []) (Fr.clo FrC_nil FrE.h) ⟨_, _, _, rfl⟩ (fun x0 y0 hx => ⟨47, [], _, rfl, A_datalog_Solve_1 x0 hx⟩) u10) ?_; intro _; refine dr_XDSv ?_; refine aCd ?_; intro _; refine spl h (fun c11 h => ?_) (fun c11 h => ?_)
    · refine aSR ?_; intro _; refine dr_XDSv ?_; refine aRt ?_; intro _; obtain ⟨rfl, rfl⟩ := inj2 h; exact ca_XDSv
    · refine aSk ?_; refine aSq ?_; refine aSR ?_; intro _; refine dr_XDSv ?_; refine aCd ?_; intro _; refine spl h (fun c12 h => ?_) (fun c12 h => ?_)
      · refine aSR ?_; intro _; refine dr_XDSv ?_; refine aRt ?_; intro _; obtain ⟨rfl, rfl⟩ := inj2 h; exact ca_XDSv
      · refine aSk ?_; refine aSR ?_; intro _; obtain ⟨z29, u13, h⟩ := ob1_ok h; refine cl_XDSv rfl (A_datalog_made g a0 u13) ?_; intro _; refine dr_XDSv ?_; refine aSq ?_; refine aSq ?_; rcases z29 with _ | z30
        · replace h := opM_none h; cases h
        · replace h := opM_some h; refine aRg ?_; intro _; refine dr_XDSv ?_; refine aCd ?_; intro _; refine spl h (fun c14 h => ?_) (fun c14 h => ?_)
          · refine aSR ?_; intro _; refine dr_XDSv ?_; refine aRt ?_; intro _; obtain ⟨rfl, rfl⟩ := inj2 h; exact ca_XDSv
          · refine aSk ?_; refine aBk ?_; refine awp_loop (α := Nat × GSet) (fun x => mkS 72 [(1, .sl 4 (a1.map cGRule)), (9, .pim [.sl 2 (x.2.map cGAtom), .mpi (mE kF vR (formsM x.2))] 0)] []) (fun x => M_datalog_Solve_L2 a1 g x.1 x.2 = some (r1, r2)) (fun x => x.1) (g, z30) h ?_ ?_
            · exact ca_XDSv
            · intro x15 h; intro _; obtain ⟨k41, m16, h⟩ := succ_of (f := fun n => M_datalog_Solve_L2 a1 g n x15.2) rfl h; replace h : M_datalog_Solve_L2 a1 g (k41 + 1) x15.2 = some (r1, r2) := h; rw [M_datalog_Solve_L2] at h; refine aBk ?_; refine aSR ?_; intro _; obtain ⟨z42, z43, u17, h⟩ := ob2_ok h; refine cl_XDSv rfl (A_datalog_round g x15.2 a1 u17) ?_; intro _; refine dr_XDSv ?_; refine aSq ?_; refine aSq ?_; rcases z43 with _ | e44
              · replace h := erM_nil h; refine aRg ?_; intro _; refine dr_XDSv ?_; refine aCd ?_; intro _; refine litF ?_; refine aSk ?_; refine aSq ?_; refine aSq ?_; rcases z42 with _ | z45
                · replace h := opM_none h; cases h
                · replace h := opM_some h; refine aRg ?_; intro _; refine dr_XDSv ?_; refine aCd ?_; intro _; refine spl h (fun c18 h => ?_) (fun c18 h => ?_)
                  · refine aSR ?_; intro _; refine dr_XDSv ?_; refine aRt ?_; intro _; obtain ⟨rfl, rfl⟩ := inj2 h; exact ca_XDSv
                  · refine aSk ?_; refine aSq ?_; refine aSR ?_; intro _; refine dr_XDSv ?_; refine aCd ?_; intro _; refine spl h (fun c19 h => ?_) (fun c19 h => ?_)
                    · refine aSR ?_; intro _; refine dr_XDSv ?_; refine aRt ?_; intro _; obtain ⟨rfl, rfl⟩ := inj2 h; exact ca_XDSv
                    · refine aSk ?_; refine aRg ?_; intro _; refine dr_XDSv ?_; refine ⟨(k41, z45), h, ltS m16, ?_⟩; exact ca_XDSv
              · replace h := erM_no h; refine aRg ?_; intro _; refine dr_XDSv ?_; refine aCd ?_; intro _; refine litT ?_; refine aSR ?_; intro _; refine dr_XDSv ?_; refine aRt ?_; intro _; obtain ⟨rfl, rfl⟩ := inj2 h; exact ca_XDSv
end Go.Proofs.YtflgpccacloadaaDoor.Am
/- Plain law: CheckRule and Solve. -/
namespace Go.Proofs.YtflgpccacloadaaDoor.Am
open Go.RowKit
def terms (r : GRule) : List ByteArray := r.Head.Args ++ r.Unequal.flatMap (fun p => [p.1, p.2])
def badT (known : List ByteArray) (s : ByteArray) : Bool := isV s && !decide (s ∈ known)
def longA (a : GAtom) : Bool := decide (6 < a.Args.length)
def namA (a : GAtom) : Bool := decide (a.Name = (⟨#[]⟩ : ByteArray))
def ckR (r : GRule) : Er :=
  if (terms r).any (badT (vars r.Body)) = true then .no 2
  else if 16 < r.Body.length then .no 5
  else if (r.Head :: r.Body).any longA = true then .no 5
  else if (r.Head :: r.Body).any namA = true then .no 8
  else .nil
/-- the size of a rule -/
structure CkOk (r : GRule) : Prop where
  tot : (r.Body.flatMap (·.Args)).length * 16 ≤ 140737488355328
  term : (r.Head.Args.length + r.Unequal.length * 2) * 16 ≤ 140737488355328
  body : (1 + r.Body.length) * 40 ≤ 140737488355328
theorem ck1_eq (known : List ByteArray) (hk : known.length ≤ 4611686018427387904) (s : ByteArray) : M_datalog_CheckRule_1 known s = some (badT known s) := by
  unfold M_datalog_CheckRule_1 badT
  rw [variable_eq, ob1_some, contains_eq known s hk, ob1_some]
  cases isV s <;> rfl
theorem ckTerms (r : GRule) (hn : r.Unequal.length ≤ 4611686018427387904) : ∀ (k i : Nat) (out : List ByteArray), i + k = r.Unequal.length + 1 → i ≤ r.Unequal.length → (out.length + (r.Unequal.length - i) * 2) * 16 ≤ 140737488355328 →
    M_datalog_CheckRule_L1 r k (i : Int) out = some (out ++ (r.Unequal.drop i).flatMap (fun p => [p.1, p.2])) := by
  intro k
  induction k with
  | zero => intro i out h1 h2; omega
  | succ k ih =>
    intro i out h1 h2 h3
    rw [M_datalog_CheckRule_L1]
    by_cases h : i < r.Unequal.length
    · have hy := List.getElem?_eq_getElem h
      rw [show decide ((i : Int) < ((r.Unequal.map cA2_cS).length : Int)) = true by simp; omega]
      show ix r.Unequal (i : Int) _ = _
      rw [ix_at hy, dropC hy, List.flatMap_cons, wrap_eq (by omega) (by omega)]
      refine grd_mk (by omega) ?_
      have := ih (i + 1) (out ++ [r.Unequal[i].1, r.Unequal[i].2]) (by omega) (by omega) (by simp; omega)
      rw [List.append_assoc] at this
      exact this
    · rw [show decide ((i : Int) < ((r.Unequal.map cA2_cS).length : Int)) = false by simp; omega]
      rw [List.drop_of_length_le (by omega)]
      simp [sel]
theorem vars_len (body : List GAtom) : (vars body).length ≤ (body.flatMap (·.Args)).length := by
  have := addV_len (body.flatMap (·.Args)) []
  simpa [vars] using this
theorem check_eq (r : GRule) (h : CkOk r) : M_datalog_CheckRule r = some (ckR r) := by
  obtain ⟨h1, h2, h3⟩ := h
  unfold M_datalog_CheckRule
  have hvl := vars_len r.Body
  rw [variables_eq r.Body (by omega) h1, ob1_some, show M_cloneSo r.Head.Args = some r.Head.Args from grd_mk (by omega) rfl, ob1_some]
  rw [show (((r.Unequal.map cA2_cS).length : Int)).toNat + 1 = r.Unequal.length + 1 by simp]
  have h4 := ckTerms r (by omega) (r.Unequal.length + 1) 0 r.Head.Args (by omega) (Nat.zero_le _) (by rw [Nat.sub_zero]; exact h2)
  rw [List.drop_zero, show ((0 : Nat) : Int) = 0 from rfl] at h4
  rw [h4, ob1_some]
  have htl : (terms r).length = r.Head.Args.length + r.Unequal.length * 2 := by
    unfold terms
    rw [List.length_append]
    have : ∀ l : List (ByteArray × ByteArray), (l.flatMap (fun p => [p.1, p.2])).length = l.length * 2 := by
      intro l
      induction l with
      | nil => rfl
      | cons x q ih => rw [List.flatMap_cons, List.length_append, ih]; simp; omega
    rw [this]
  refine grd_mk (by show (terms r).length ≤ _; omega) ?_
  rw [show M_s_ContainsFunc_string (r.Head.Args ++ r.Unequal.flatMap (fun p => [p.1, p.2])) (M_datalog_CheckRule_1 (vars r.Body)) = some ((terms r).any (badT (vars r.Body))) from cfS_eq (terms r) _ _ (fun x _ => ck1_eq _ (by omega) x) (by omega), ob1_some]
  unfold ckR
  cases hb : (terms r).any (badT (vars r.Body)) with
  | true => rfl
  | false =>
    rw [if_neg (by decide)]
    refine grd_mk h3 ?_
    have hll : ([r.Head] ++ r.Body).length = 1 + r.Body.length := by simp; omega
    have e5 : M_s_ContainsFunc_Atom ([r.Head] ++ r.Body) M_datalog_CheckRule_2 = some ((r.Head :: r.Body).any longA) := cfA_eq ([r.Head] ++ r.Body) _ longA (fun x _ => by
      unfold M_datalog_CheckRule_2 longA
      exact congrArg some (decide_eq_decide.2 (by rw [List.length_map]; omega))) (by omega)
    have e8 : M_s_ContainsFunc_Atom ([r.Head] ++ r.Body) M_datalog_CheckRule_3 = some ((r.Head :: r.Body).any namA) := cfA_eq ([r.Head] ++ r.Body) _ namA (fun x _ => by
      unfold M_datalog_CheckRule_3 namA
      rw [beq_bl]) (by omega)
    rw [e5, e8]
    have hg : ∀ {α : Type} (x : Option α), grd (([r.Head] ++ r.Body).length ≤ 140737488355328) x = x := fun x => grd_mk (by omega) rfl
    rw [hg, hg, sel_dec]
    by_cases h16 : 16 < r.Body.length
    · rw [if_pos h16, if_pos (by rw [List.length_map]; omega)]
      rfl
    · rw [if_neg h16, if_neg (by rw [List.length_map]; omega)]
      cases (r.Head :: r.Body).any longA with
      | true => rfl
      | false =>
        cases (r.Head :: r.Body).any namA <;> rfl
/-- a fact that is none -/
def badF (a : GAtom) : Bool := decide (a.Name = (⟨#[]⟩ : ByteArray)) || a.Args.any isV
theorem slv1_eq (a : GAtom) (h : a.Args.length ≤ 4611686018427387904) : M_datalog_Solve_1 a = some (badF a) := by
  unfold M_datalog_Solve_1 badF
  rw [beq_bl, cfS_eq a.Args _ isV (fun x _ => variable_eq x) h, ob1_some]
  by_cases e : a.Name = (⟨#[]⟩ : ByteArray)
  · rw [decide_eq_true e]; rfl
  · rw [decide_eq_false e]; rfl
/-- the first error of the rules -/
def firstE : List GRule → Er
  | [] => .nil
  | r :: q => match ckR r with
    | .nil => firstE q
    | .no e => .no e
theorem slvL1 (rules : List GRule) (hok : ∀ r ∈ rules, CkOk r) (hn : rules.length ≤ 4611686018427387904) : ∀ (k i : Nat), i + k = rules.length + 1 → i ≤ rules.length →
    M_datalog_Solve_L1 rules k (i : Int) = some (match firstE (rules.drop i) with | .nil => .inl () | .no e => .inr ([], .no e)) := by
  intro k
  induction k with
  | zero => intro i h1 h2; omega
  | succ k ih =>
    intro i h1 h2
    rw [M_datalog_Solve_L1]
    by_cases h : i < rules.length
    · have hy := List.getElem?_eq_getElem h
      rw [show decide ((i : Int) < ((rules.map cGRule).length : Int)) = true by simp; omega]
      show ix rules (i : Int) _ = _
      rw [ix_at hy, check_eq _ (hok _ (List.getElem_mem h)), ob1_some, dropC hy, firstE, wrap_eq (by omega) (by omega)]
      cases hc : ckR rules[i] with
      | nil => exact ih (i + 1) (by omega) (by omega)
      | no e => rfl
    · rw [show decide ((i : Int) < ((rules.map cGRule).length : Int)) = false by simp; omega]
      rw [List.drop_of_length_le (by omega)]
      rfl
end Go.Proofs.YtflgpccacloadaaDoor.Am
/- Models printed by my decompiler, and the proofs that the code computes them. -/
namespace Go.Proofs.YtflgpccacloadaaDoor.Am
set_option maxHeartbeats 16000000
set_option maxRecDepth 100000
open Go.RowKit
structure GProgram where
  Facts : List GAtom
  Rules : List GRule
  deriving DecidableEq
def cGProgram (x : GProgram) : List AV := [.sl 2 (x.Facts.map cGAtom), .sl 4 (x.Rules.map cGRule)]
theorem fr_cGProgram (x : GProgram) : ∀ y ∈ cGProgram x, Fr y := FrC_cons (.sl (frl_cGAtom _)) (FrC_cons (.sl (frl_cGRule _)) (FrC_nil))
theorem frl_cGProgram (l : List GProgram) : FrL (l.map cGProgram) := FrL_map (fun x _ => fr_cGProgram x)
instance {l : List GProgram} : FrI (l.map cGProgram) := ⟨frl_cGProgram l⟩
def cL_cS (x : List ByteArray) : List AV := [.sl 1 (x.map cS)]
theorem fr_cL_cS (x : List ByteArray) : ∀ y ∈ cL_cS x, Fr y := FrC_cons (.sl (frl_cS _)) (FrC_nil)
theorem frl_cL_cS (l : List (List ByteArray)) : FrL (l.map cL_cS) := FrL_map (fun x _ => fr_cL_cS x)
instance {l : List (List ByteArray)} : FrI (l.map cL_cS) := ⟨frl_cL_cS l⟩
theorem zb_XDLb {P : Prop} (h : P := by repeat (first | exact BWL.nil | exact bwll_nil | exact bw_c | exact BW.sl | exact BW.nil | exact bwll_same rfl FrI.h | refine BWL.cons ?_ ?_ | refine bwll_cons ?_ ?_ | (refine bw_own3 rfl rfl rfl FrI.h ?_ ?_ ?_) | exact BW.mpf rfl rfl rfl FrI.h rfl | refine CloK.bw ?_ | exact BW.fr FrV.h | exact BW.fr (by assumption) | refine bw_agg ?_ | refine bw_clo ?_ | refine bw_ptr rfl rfl rfl ?_ | (refine bw_own rfl rfl rfl ?_ FrI.h ?_ ?_) | assumption | omega | rfl | (rw [List.length_map, ← List.length_append]; assumption) | (refine bwll_same ?_ FrI.h; (simp [cS, cGAtom, cGProgram, cGRule, cA2_cS, cL_cS, cF] <;> fail)) | (rw [List.map_set]; refine bwll_set (by first | rfl | omega | simp) ?_ ?_) | refine bwll_set (by first | rfl | omega | simp) ?_ ?_ | (rw [List.map_replicate]; refine bwll_rep ?_) | refine bwll_rep ?_ | (rw [List.map_append]; refine bwll_append ?_ ?_) | refine bwll_append ?_ ?_ | (simp [cS, cGAtom, cGProgram, cGRule, cA2_cS, cL_cS, cF, take_len_map] <;> fail) | (rw [List.drop_zero, List.take_of_length_le] <;> first | rfl | (simp [cS, cGAtom, cGProgram, cGRule, cA2_cS, cL_cS, cF] <;> fail)) | (simp; omega) | (simp only [List.length_map, List.length_append, List.drop_zero, List.length_cons, List.length_nil, Nat.zero_add, Nat.add_zero] at *; omega))) : P := h
theorem ci_XDLb {p K : Prop} (k : K) (h : p := by first | rfl | exact ⟨rfl, rfl⟩ | exact BW.mpf rfl rfl rfl FrI.h rfl | exact cloK3 rfl rfl rfl rfl rfl rfl rfl rfl rfl | exact CloK.bw (BW.fr (by assumption)) | exact BW.fr FrV.h | (refine BW.fr ?_; assumption) | (refine ⟨rfl, ?_⟩; (simp [cS, cGAtom, cGProgram, cGRule, cA2_cS, cL_cS, cF, take_len_map]; done)) | (refine RowK.same ?_ FrI.h; first | rfl | (simp [cS, cGAtom, cGProgram, cGRule, cA2_cS, cL_cS, cF, take_len_map]; done)) | (refine row_part1 ?_; (repeat (first | exact BWL.nil | exact bwll_nil | exact bw_c | exact BW.sl | exact BW.nil | exact bwll_same rfl FrI.h | refine BWL.cons ?_ ?_ | refine bwll_cons ?_ ?_ | (refine bw_own3 rfl rfl rfl FrI.h ?_ ?_ ?_) | exact BW.mpf rfl rfl rfl FrI.h rfl | exact cloK3 rfl rfl rfl rfl rfl rfl rfl rfl rfl | exact CloK.bw (BW.fr (by assumption)) | exact BW.fr FrV.h | exact BW.fr (by assumption) | refine bw_agg ?_ | refine bw_clo ?_ | refine bw_ptr rfl rfl rfl ?_ | (refine bw_own rfl rfl rfl ?_ FrI.h ?_ ?_) | assumption | omega | rfl | (rw [List.length_map, ← List.length_append]; assumption) | (refine bwll_same ?_ FrI.h; (simp [cS, cGAtom, cGProgram, cGRule, cA2_cS, cL_cS, cF] <;> fail)) | (rw [List.map_set]; refine bwll_set (by first | rfl | omega | simp) ?_ ?_) | refine bwll_set (by first | rfl | omega | simp) ?_ ?_ | (rw [List.map_replicate]; refine bwll_rep ?_) | refine bwll_rep ?_ | (rw [List.map_append]; refine bwll_append ?_ ?_) | refine bwll_append ?_ ?_ | (simp [cS, cGAtom, cGProgram, cGRule, cA2_cS, cL_cS, cF, take_len_map] <;> fail) | (rw [List.drop_zero, List.take_of_length_le] <;> first | rfl | (simp [cS, cGAtom, cGProgram, cGRule, cA2_cS, cL_cS, cF] <;> fail)) | (simp; omega) | (simp only [List.length_map, List.length_append, List.drop_zero, List.length_cons, List.length_nil, Nat.zero_add, Nat.add_zero] at *; omega))); done) | ((repeat (first | exact BWL.nil | exact bwll_nil | exact bw_c | exact BW.sl | exact BW.nil | exact bwll_same rfl FrI.h | refine BWL.cons ?_ ?_ | refine bwll_cons ?_ ?_ | (refine bw_own3 rfl rfl rfl FrI.h ?_ ?_ ?_) | exact BW.mpf rfl rfl rfl FrI.h rfl | exact cloK3 rfl rfl rfl rfl rfl rfl rfl rfl rfl | exact CloK.bw (BW.fr (by assumption)) | exact BW.fr FrV.h | exact BW.fr (by assumption) | refine bw_agg ?_ | refine bw_clo ?_ | refine bw_ptr rfl rfl rfl ?_ | (refine bw_own rfl rfl rfl ?_ FrI.h ?_ ?_) | assumption | omega | rfl | (rw [List.length_map, ← List.length_append]; assumption) | (refine bwll_same ?_ FrI.h; (simp [cS, cGAtom, cGProgram, cGRule, cA2_cS, cL_cS, cF] <;> fail)) | (rw [List.map_set]; refine bwll_set (by first | rfl | omega | simp) ?_ ?_) | refine bwll_set (by first | rfl | omega | simp) ?_ ?_ | (rw [List.map_replicate]; refine bwll_rep ?_) | refine bwll_rep ?_ | (rw [List.map_append]; refine bwll_append ?_ ?_) | refine bwll_append ?_ ?_ | (simp [cS, cGAtom, cGProgram, cGRule, cA2_cS, cL_cS, cF, take_len_map] <;> fail) | (rw [List.drop_zero, List.take_of_length_le] <;> first | rfl | (simp [cS, cGAtom, cGProgram, cGRule, cA2_cS, cL_cS, cF] <;> fail)) | (simp; omega) | (simp only [List.length_map, List.length_append, List.drop_zero, List.length_cons, List.length_nil, Nat.zero_add, Nat.add_zero] at *; omega))); done) | (simp [cS, cGAtom, cGProgram, cGRule, cA2_cS, cL_cS, cF, take_len_map]; done)) : p ∧ K := ⟨h, k⟩
theorem ca_XDLb {P : Prop} (h : P := by repeat (first | exact True.intro | refine ci_XDLb ?_)) : P := h
theorem pr_XDLb {p K : Prop} (k : K) (h : p := by first | assumption | exact Int.natCast_nonneg _ | exact Nat.le_refl _ | exact Nat.zero_le _ | omega | (simp; done) | (simp; omega)) : p ∧ K := ⟨h, k⟩
theorem pl_XDLb {p K : Prop} (k : K) (h : p := by first | rfl | exact List.length_map _ | (simp; done) | (simp; omega)) : p ∧ K := ⟨h, k⟩
theorem pe_XDLb {p K : Prop} (k : K) (h : p := by first | omega | (simp; omega) | (simp only [List.length_map, List.length_cons, List.length_nil, List.length_append]; omega) | (simp only [List.length_map, List.drop_zero, List.length_cons, List.length_nil, Nat.zero_add, Nat.add_zero] at *; omega)) : p ∧ K := ⟨h, k⟩
theorem dr_XDLb {b : Bool} {p K : Prop} (k : K) (h : b = true → p := by intro h; first | (cases h; done) | exact ⟨by kernel_rfl, by kernel_rfl⟩) : (b = true → p) ∧ K := ⟨h, k⟩
theorem cl_XDLb {C : Cx} {n : Nat} {o : Oper} {τ : Nat → AV} {η : Nat → Ent} {f : FuncId} {os : Array Operand} {ats : Array TypeId} {r : AV} {args : List AV} {K : Foot → Prop} (ho : o.op = .call ⟨.value (.func f), os, ats⟩) (hc : ACall C f args r) (k : K ⟨r, [], []⟩)
    (hd : InB n o.dst := by exact Nat.le_of_ble_eq_true rfl) (hargs : os.toList.map (evA τ) = args := by first | rfl | (simp [cS, cGAtom, cGProgram, cGRule, cA2_cS, cL_cS, cF]; done) | (repeat (first | exact rfl | refine cons_eq ?_ ?_ | exact sl_dt rfl))) (hfr : frs args := by repeat (first | exact trivial | exact fr1_eA _ | exact fr0_eA _ | exact fr1_fr (by assumption) | exact FrV.h | exact fr0_fr FrV.h | exact fr1_fr FrV.h | refine And.intro ?_ ?_)) (hr : fr1 r := by repeat (first | exact trivial | exact fr1_eA _ | exact fr0_eA _ | exact fr1_fr (by assumption) | exact FrV.h | exact fr0_fr FrV.h | exact fr1_fr FrV.h | refine And.intro ?_ ?_)) : ∃ f : Foot, LF C n o τ η f ∧ K f := ⟨_, lf_call ho hd hargs hc hfr hr, k⟩
theorem clb_XDLb {C : Cx} {n : Nat} {o : Oper} {τ : Nat → AV} {η : Nat → Ent} {f : FuncId} {os : Array Operand} {ats : Array TypeId} {r : AV} {xs ys : List AV} {K : Foot → Prop} (bs : List Nat) (ho : o.op = .call ⟨.value (.func f), os, ats⟩) (hargs : os.toList.map (evA τ) = xs) (hc : ACall C f ys r) (k : K ⟨r, [], bs⟩)
    (hd : InB n o.dst := by exact Nat.le_of_ble_eq_true rfl) (hb : BWL η (dropB η bs) xs ys := by exact zb_XDLb) (hr : scal r := by repeat (first | exact trivial | exact scal0_eA _ | exact scal_eA _ | refine And.intro ?_ ?_)) : ∃ f : Foot, LF C n o τ η f ∧ K f := ⟨_, lf_callB bs ho hd hargs hb hc hr, k⟩
theorem clf_XDLb {C : Cx} {n : Nat} {o : Oper} {τ : Nat → AV} {η : Nat → Ent} {f : FuncId} {os : Array Operand} {ats : Array TypeId} {r : AV} {xs ys : List AV} {K : Foot → Prop} (us : List (Nat × Ent)) (ho : o.op = .call ⟨.value (.func f), os, ats⟩) (hargs : os.toList.map (evA τ) = xs) (hc : ACall C f ys r) (k : K ⟨r, us, []⟩)
    (hus : allUs η us := by repeat (first | exact trivial | refine And.intro rfl ?_)) (hul : ltUs n us := by repeat (first | exact trivial | refine And.intro (Nat.le_of_ble_eq_true rfl) ?_)) (hd : InB n o.dst := by exact Nat.le_of_ble_eq_true rfl) (hb : BWL η (dropB η (us.map (·.1))) xs ys := by exact zb_XDLb) (hr : fr1 r := by repeat (first | exact trivial | exact fr1_eA _ | exact fr0_eA _ | exact fr1_fr (by assumption) | exact FrV.h | exact fr0_fr FrV.h | exact fr1_fr FrV.h | refine And.intro ?_ ?_)) : ∃ f : Foot, LF C n o τ η f ∧ K f := ⟨_, lf_callF us (allUs_at hus) (ltUs_at hul) ho hd hargs hb hc hr, k⟩
def M_l16_atom (a0 : ByteArray) (a1 : List ByteArray) : Option (GAtom) :=
  some ({ Name := a0, Args := a1 : GAtom })
theorem A_l16_atom (a0 : ByteArray) (a1 : List ByteArray) {r1 : GAtom} (h : M_l16_atom a0 a1 = some r1) : ACall cx 25 [.c (.string a0), .sl 1 (a1.map cS)] (.agg [.c (.string r1.Name), .sl 1 (r1.Args.map cS)]) := by
  refine aOf Tryd.func25 rfl (by decide) rfl (Nat.le_of_ble_eq_true rfl) ?_; intro _; unfold M_l16_atom at h; refine aSR ?_; intro _; refine dr_XDLb ?_; refine aSR ?_; intro _; refine dr_XDLb ?_; refine aRt ?_; intro _; obtain rfl := inj1 h; exact ca_XDLb
def M_b_Texts_L1 (a0 : List ByteArray) (a1 : List ByteArray) : Nat → Int → Option (Bool)
  | 0, _ => none
  | k7 + 1, v6 =>
    sel (decide (v6 < ((a0.map cS).length : Int)))
     (ix a0 v6 (fun y8 =>
       ix a1 v6 (fun y9 =>
        sel (!(y8.toList == y9.toList))
         (some false)
         (M_b_Texts_L1 a0 a1 k7 (IntKind.i64.wrap (v6 + 1))))))
     (some true)
def M_b_Texts (a0 : List ByteArray) (a1 : List ByteArray) : Option (Bool) :=
  sel (((a0.map cS).length : Int) != ((a1.map cS).length : Int))
   (some false)
   (M_b_Texts_L1 a0 a1 ((((a0.map cS).length : Int)).toNat + 1) 0)
theorem A_b_Texts (a0 : List ByteArray) (a1 : List ByteArray) {r1 : Bool} (h : M_b_Texts a0 a1 = some r1) : ACall cx 32 [.sl 1 (a0.map cS), .sl 1 (a1.map cS)] (.c (.bool r1)) := by
  refine aOf Tryd.func32 rfl (by decide) rfl (Nat.le_of_ble_eq_true rfl) ?_; intro _; unfold M_b_Texts at h; refine aSR ?_; intro _; refine dr_XDLb ?_; refine aSq ?_; refine aSR ?_; intro _; refine dr_XDLb ?_; refine aCd ?_; intro _; refine spl h (fun c1 h => ?_) (fun c1 h => ?_)
  · refine aSR ?_; intro _; refine dr_XDLb ?_; refine aRt ?_; intro _; obtain rfl := inj1 h; exact ca_XDLb
  · refine aSk ?_; refine aSq ?_; refine aSR ?_; intro _; refine dr_XDLb ?_; refine aBk ?_; refine awp_loop (α := Nat × Int) (fun x => mkS 26 [(0, .sl 1 (a0.map cS)), (1, .sl 1 (a1.map cS)), (12, .c (.int .i64 ((a0.map cS).length : Int))), (13, .c (.int .i64 x.2))] []) (fun x => M_b_Texts_L1 a0 a1 x.1 x.2 = some r1) (fun x => x.1) ((((a0.map cS).length : Int)).toNat + 1, 0) h ?_ ?_
    · exact ca_XDLb
    · intro x2 h; intro _; obtain ⟨k7, m3, h⟩ := succ_of (f := fun n => M_b_Texts_L1 a0 a1 n x2.2) rfl h; replace h : M_b_Texts_L1 a0 a1 (k7 + 1) x2.2 = some r1 := h; rw [M_b_Texts_L1] at h; refine aSR ?_; intro _; refine dr_XDLb ?_; refine aSq ?_; refine aCd ?_; intro _; refine spl h (fun c4 h => ?_) (fun c4 h => ?_)
      · refine aSk ?_; refine aSq ?_; refine aBk ?_; refine aSR ?_; intro _; refine dr_XDLb ?_; refine aSR ?_; intro _; obtain ⟨y8, w5, q6, h⟩ := ix_ok h; refine Exists.intro (cS y8) (And.intro (map_at' w5) ?_); intro _; obtain ⟨y9, w7, q8, h⟩ := ix_ok h; refine Exists.intro (cS y9) (And.intro (map_at' w7) ?_); intro _; refine pr_XDLb ?_; refine pr_XDLb ?_; refine dr_XDLb ?_; refine aCd ?_; intro _; refine spl h (fun c9 h => ?_) (fun c9 h => ?_)
        · refine aSR ?_; intro _; refine dr_XDLb ?_; refine aRt ?_; intro _; obtain rfl := inj1 h; exact ca_XDLb
        · refine aSk ?_; refine aRg ?_; intro _; refine dr_XDLb ?_; refine ⟨(k7, (IntKind.i64.wrap (x2.2 + 1))), h, ltS m3, ?_⟩; exact ca_XDLb
      · refine aEx ?_; refine aSR ?_; intro _; refine dr_XDLb ?_; refine aRt ?_; intro _; obtain rfl := inj1 h; exact ca_XDLb
def M_l16_awake (g : Nat) : Option (Bool) :=
  ob1 (M_l16_atom (⟨#[101]⟩ : ByteArray) [(⟨#[97]⟩ : ByteArray), (⟨#[98]⟩ : ByteArray)]) (fun z1 =>
   ob1 (M_l16_atom (⟨#[101]⟩ : ByteArray) [(⟨#[98]⟩ : ByteArray), (⟨#[99]⟩ : ByteArray)]) (fun z2 =>
    ob1 (M_l16_atom (⟨#[114]⟩ : ByteArray) [(⟨#[63, 120]⟩ : ByteArray), (⟨#[63, 122]⟩ : ByteArray)]) (fun z3 =>
     ob1 (M_l16_atom (⟨#[101]⟩ : ByteArray) [(⟨#[63, 120]⟩ : ByteArray), (⟨#[63, 121]⟩ : ByteArray)]) (fun z4 =>
      ob1 (M_l16_atom (⟨#[101]⟩ : ByteArray) [(⟨#[63, 121]⟩ : ByteArray), (⟨#[63, 122]⟩ : ByteArray)]) (fun z5 =>
       ob2 (M_datalog_Solve g [z1, z2] [{ Head := z3, Body := [z4, z5], Unequal := [] : GRule }]) (fun z6 z7 =>
        erM z7
         (sel (((z6.map cGAtom).length : Int) == 3)
           (ix z6 2 (fun y9 =>
             sel (y9.Name.toList == (⟨#[114]⟩ : ByteArray).toList)
              (ix z6 2 (fun y10 =>
                ob1 (M_b_Texts y10.Args [(⟨#[97]⟩ : ByteArray), (⟨#[99]⟩ : ByteArray)]) (fun z11 =>
                 some z11)))
              (some false)))
           (some false))
         (fun _ => some false)))))))
theorem A_l16_awake (g : Nat) {r1 : Bool} (h : M_l16_awake g = some r1) : ACall cx 11 [] (.c (.bool r1)) := by
  refine aOf Tryd.func11 rfl (by decide) rfl (Nat.le_of_ble_eq_true rfl) ?_; intro _; unfold M_l16_awake at h; refine aSR ?_; intro _; refine dr_XDLb ?_; refine aSR ?_; intro _; obtain ⟨z1, u1, h⟩ := ob1_ok h; refine clf_XDLb [(4, ⟨2, none⟩)] rfl rfl (A_l16_atom (⟨#[101]⟩ : ByteArray) [(⟨#[97]⟩ : ByteArray), (⟨#[98]⟩ : ByteArray)] u1) ?_; intro _; obtain ⟨z2, u2, h⟩ := ob1_ok h; refine clf_XDLb [(6, ⟨2, none⟩)] rfl rfl (A_l16_atom (⟨#[101]⟩ : ByteArray) [(⟨#[98]⟩ : ByteArray), (⟨#[99]⟩ : ByteArray)] u2) ?_; intro _; obtain ⟨z3, u3, h⟩ := ob1_ok h; refine clf_XDLb [(9, ⟨2, none⟩)] rfl rfl (A_l16_atom (⟨#[114]⟩ : ByteArray) [(⟨#[63, 120]⟩ : ByteArray), (⟨#[63, 122]⟩ : ByteArray)] u3) ?_; intro _; obtain ⟨z4, u4, h⟩ := ob1_ok h; refine clf_XDLb [(11, ⟨2, none⟩)] rfl rfl (A_l16_atom (⟨#[101]⟩ : ByteArray) [(⟨#[63, 120]⟩ : ByteArray), (⟨#[63, 121]⟩ : ByteArray)] u4) ?_; intro _; obtain ⟨z5, u5, h⟩ := ob1_ok h; refine clf_XDLb [(13, ⟨2, none⟩)] rfl rfl (A_l16_atom (⟨#[101]⟩ : ByteArray) [(⟨#[63, 121]⟩ : ByteArray), (⟨#[63, 122]⟩ : ByteArray)] u5) ?_; intro _; obtain ⟨z6, z7, u6, h⟩ := ob2_ok h; refine clf_XDLb [(8, ⟨2, none⟩), (15, ⟨2, none⟩), (17, ⟨2, none⟩)] rfl rfl (A_datalog_Solve g [z1, z2] [{ Head := z3, Body := [z4, z5], Unequal := [] : GRule }] u6) ?_; intro _; refine dr_XDLb ?_; refine aSq ?_; rcases z7 with _ | e8
  · replace h := erM_nil h; refine aRg ?_; intro _; refine litT ?_; intro _; refine spl h (fun c7 h => ?_) (fun c7 h => ?_)
    · intro _; obtain ⟨y9, w8, q9, h⟩ := ix_ok h; refine Exists.intro (cGAtom y9) (And.intro (map_at' w8) ?_); intro _; refine spl h (fun c10 h => ?_) (fun c10 h => ?_)
      · intro _; obtain ⟨y10, w11, q12, h⟩ := ix_ok h; refine Exists.intro (cGAtom y10) (And.intro (map_at' w11) ?_); intro _; obtain ⟨z11, u13, h⟩ := ob1_ok h; refine clb_XDLb [40] rfl rfl (A_b_Texts y10.Args [(⟨#[97]⟩ : ByteArray), (⟨#[99]⟩ : ByteArray)] u13) ?_; intro _; refine pr_XDLb ?_; refine pr_XDLb ?_; refine dr_XDLb ?_; refine aRt ?_; intro _; obtain rfl := inj1 h; exact ca_XDLb
      · intro _; refine pr_XDLb ?_; refine dr_XDLb ?_; refine aRt ?_; intro _; obtain rfl := inj1 h; exact ca_XDLb
    · intro _; refine dr_XDLb ?_; refine aRt ?_; intro _; obtain rfl := inj1 h; exact ca_XDLb
  · replace h := erM_no h; refine aRg ?_; intro _; refine litF ?_; intro _; refine dr_XDLb ?_; refine aRt ?_; intro _; obtain rfl := inj1 h; exact ca_XDLb
def M_r16_Variable (a0 : ByteArray) : Option (Bool) :=
  sel (decide ((a0.size : Int) > 0))
   (grd (0 < (a0.size : Int)) (some ((byt a0 0) == 63)))
   (some false)
theorem A_r16_Variable (a0 : ByteArray) {r1 : Bool} (h : M_r16_Variable a0 = some r1) : ACall cx 59 [.c (.string a0)] (.c (.bool r1)) := by
  refine aOf Tryd.func59 rfl (by decide) rfl (Nat.le_of_ble_eq_true rfl) ?_; intro _; unfold M_r16_Variable at h; refine aSR ?_; intro _; refine dr_XDLb ?_; refine aSR ?_; intro _; refine spl h (fun c1 h => ?_) (fun c1 h => ?_)
  · intro _; obtain ⟨q2, h⟩ := grd_ok h; refine pr_XDLb ?_; refine pr_XDLb ?_; refine dr_XDLb ?_; refine aRt ?_; intro _; obtain rfl := inj1 h; exact ca_XDLb
  · intro _; refine dr_XDLb ?_; refine aRt ?_; intro _; obtain rfl := inj1 h; exact ca_XDLb
def M_r16_has_L1 (a0 : List ByteArray) (a1 : ByteArray) : Nat → Int → Option (Bool)
  | 0, _ => none
  | k5 + 1, v4 =>
    sel (decide (v4 < ((a0.map cS).length : Int)))
     (ix a0 v4 (fun y6 =>
       sel (y6.toList == a1.toList)
        (some true)
        (M_r16_has_L1 a0 a1 k5 (IntKind.i64.wrap (v4 + 1)))))
     (some false)
def M_r16_has (g : Nat) (a0 : List ByteArray) (a1 : ByteArray) : Option (Bool) :=
  M_r16_has_L1 a0 a1 g 0
theorem A_r16_has (g : Nat) (a0 : List ByteArray) (a1 : ByteArray) {r1 : Bool} (h : M_r16_has g a0 a1 = some r1) : ACall cx 54 [.sl 1 (a0.map cS), .c (.string a1)] (.c (.bool r1)) := by
  refine aOf Tryd.func54 rfl (by decide) rfl (Nat.le_of_ble_eq_true rfl) ?_; intro _; unfold M_r16_has at h; refine aSR ?_; intro _; refine dr_XDLb ?_; refine aSq ?_; refine aSR ?_; intro _; refine dr_XDLb ?_; refine aBk ?_; refine awp_loop (α := Nat × Int) (fun x => mkS 18 [(0, .sl 1 (a0.map cS)), (1, .c (.string a1)), (5, .c (.int .i64 x.2))] []) (fun x => M_r16_has_L1 a0 a1 x.1 x.2 = some r1) (fun x => x.1) (g, 0) h ?_ ?_
  · exact ca_XDLb
  · intro x1 h; intro _; obtain ⟨k5, m2, h⟩ := succ_of (f := fun n => M_r16_has_L1 a0 a1 n x1.2) rfl h; replace h : M_r16_has_L1 a0 a1 (k5 + 1) x1.2 = some r1 := h; rw [M_r16_has_L1] at h; refine aSq ?_; refine aSR ?_; intro _; refine dr_XDLb ?_; refine aCd ?_; intro _; refine spl h (fun c3 h => ?_) (fun c3 h => ?_)
    · refine aSk ?_; refine aSq ?_; refine aBk ?_; refine aSR ?_; intro _; obtain ⟨y6, w4, q5, h⟩ := ix_ok h; refine Exists.intro (cS y6) (And.intro (map_at' w4) ?_); intro _; refine pr_XDLb ?_; refine dr_XDLb ?_; refine aCd ?_; intro _; refine spl h (fun c6 h => ?_) (fun c6 h => ?_)
      · refine aSR ?_; intro _; refine dr_XDLb ?_; refine aRt ?_; intro _; obtain rfl := inj1 h; exact ca_XDLb
      · refine aSk ?_; refine aRg ?_; intro _; refine dr_XDLb ?_; refine ⟨(k5, (IntKind.i64.wrap (x1.2 + 1))), h, ltS m2, ?_⟩; exact ca_XDLb
    · refine aEx ?_; refine aSR ?_; intro _; refine dr_XDLb ?_; refine aRt ?_; intro _; obtain rfl := inj1 h; exact ca_XDLb
def M_r16_Variables_L1 (a0 : List GAtom) (g : Nat) (v87 : Int) : Nat → Int → (List ByteArray) → Option (List ByteArray)
  | 0, _, _ => none
  | k126 + 1, v124, v125 =>
    ix a0 v87 (fun y127 =>
     sel (decide (v124 < ((y127.Args.map cS).length : Int)))
      (ix a0 v87 (fun y128 =>
        ix y128.Args v124 (fun y129 =>
         ob1 (M_r16_Variable y129) (fun z130 =>
          sel z130
           (grd (v125.length ≤ 140737488355328) (ob1 (M_r16_has g v125 y129) (fun z131 =>
             sel (!z131)
              (grd ((v125.length + 1) * 16 ≤ 140737488355328) (M_r16_Variables_L1 a0 g v87 k126 (IntKind.i64.wrap (v124 + 1)) (v125 ++ [y129])))
              (M_r16_Variables_L1 a0 g v87 k126 (IntKind.i64.wrap (v124 + 1)) v125))))
           (M_r16_Variables_L1 a0 g v87 k126 (IntKind.i64.wrap (v124 + 1)) v125)))))
      (some v125))
def M_r16_Variables_L2 (a0 : List GAtom) (g : Nat) : Nat → Int → (List ByteArray) → Option (List ByteArray)
  | 0, _, _ => none
  | k89 + 1, v87, v88 =>
    sel (decide (v87 < ((a0.map cGAtom).length : Int)))
     (ob1 (M_r16_Variables_L1 a0 g v87 g 0 v88 : Option (List ByteArray))
       (fun v110 => M_r16_Variables_L2 a0 g k89 (IntKind.i64.wrap (v87 + 1)) v110))
     (grd (v88.length ≤ 140737488355328) (some v88))
def M_r16_Variables (g : Nat) (a0 : List GAtom) : Option (List ByteArray) :=
  M_r16_Variables_L2 a0 g g 0 []
theorem A_r16_Variables (g : Nat) (a0 : List GAtom) {r1 : List ByteArray} (h : M_r16_Variables g a0 = some r1) : ACall cx 42 [.sl 2 (a0.map cGAtom)] (.sl 1 (r1.map cS)) := by
  refine aOf Tryd.func42 rfl (by decide) rfl (Nat.le_of_ble_eq_true rfl) ?_; intro _; unfold M_r16_Variables at h; refine aSR ?_; intro _; refine dr_XDLb ?_; refine aSR ?_; intro _; refine dr_XDLb ?_; refine aSq ?_; refine aSR ?_; intro _; refine dr_XDLb ?_; refine aBk ?_; refine awp_loop (α := Nat × Int × (List ByteArray)) (fun x => mkS 44 [(0, .sl 2 (a0.map cGAtom)), (3, .own 42 0 0 x.2.2.length), (4, .c (.int .i64 x.2.1))] [(42, ⟨9, 1, false, x.2.2.map cS⟩)]) (fun x => M_r16_Variables_L2 a0 g x.1 x.2.1 x.2.2 = some r1) (fun x => x.1) (g, 0, []) h ?_ ?_
  · exact ca_XDLb
  · intro x1 h; intro _; obtain ⟨k89, m2, h⟩ := succ_of (f := fun n => M_r16_Variables_L2 a0 g n x1.2.1 x1.2.2) rfl h; replace h : M_r16_Variables_L2 a0 g (k89 + 1) x1.2.1 x1.2.2 = some r1 := h; rw [M_r16_Variables_L2] at h; refine aSq ?_; refine aSR ?_; intro _; refine dr_XDLb ?_; refine aCd ?_; intro _; refine spl h (fun c3 h => ?_) (fun c3 h => ?_)
    · refine aSk ?_; obtain ⟨o4, h, hK5⟩ := ob1_ok h; refine awp_cut (α := List ByteArray) (fun v110 => mkS 44 [(0, .sl 2 (a0.map cGAtom)), (3, .own 42 0 0 v110.length), (4, .c (.int .i64 x1.2.1))] [(42, ⟨9, 1, false, v110.map cS⟩)]) (fun v => o4 = v) ?_ ?_
      · refine aBk ?_; refine aSR ?_; intro _; refine dr_XDLb ?_; refine aBk ?_; refine awp_loop (α := Nat × Int × (List ByteArray)) (fun x => mkS 44 [(0, .sl 2 (a0.map cGAtom)), (3, .own 42 0 0 x.2.2.length), (4, .c (.int .i64 x1.2.1)), (5, .c (.int .i64 x.2.1))] [(42, ⟨9, 1, false, x.2.2.map cS⟩)]) (fun x => M_r16_Variables_L1 a0 g x1.2.1 x.1 x.2.1 x.2.2 = some o4) (fun x => x.1) (g, 0, x1.2.2) h ?_ ?_
        · exact ca_XDLb
        · intro x6 h; intro _; obtain ⟨k126, m7, h⟩ := succ_of (f := fun n => M_r16_Variables_L1 a0 g x1.2.1 n x6.2.1 x6.2.2) rfl h; replace h : M_r16_Variables_L1 a0 g x1.2.1 (k126 + 1) x6.2.1 x6.2.2 = some o4 := h; rw [M_r16_Variables_L1] at h; refine aSq ?_; refine aSR ?_; intro _; obtain ⟨y127, w8, q9, h⟩ := ix_ok h; refine Exists.intro (cGAtom y127) (And.intro (map_at' w8) ?_); intro _; refine pr_XDLb ?_; refine dr_XDLb ?_; refine aCd ?_; intro _; refine spl h (fun c10 h => ?_) (fun c10 h => ?_)
          · refine aSk ?_; refine aSq ?_; refine aBk ?_; refine aSR ?_; intro _; obtain ⟨y128, w11, q12, h⟩ := ix_ok h; refine Exists.intro (cGAtom y128) (And.intro (map_at' w11) ?_); intro _; obtain ⟨y129, w13, q14, h⟩ := ix_ok h; refine Exists.intro (cS y129) (And.intro (map_at' w13) ?_); intro _; refine pr_XDLb ?_; refine pr_XDLb ?_; refine dr_XDLb ?_; refine aSR ?_; intro _; obtain ⟨z130, u15, h⟩ := ob1_ok h; refine cl_XDLb rfl (A_r16_Variable y129 u15) ?_; intro _; refine spl h (fun c16 h => ?_) (fun c16 h => ?_)
            · intro _; obtain ⟨q17, h⟩ := grd_ok h; obtain ⟨z131, u18, h⟩ := ob1_ok h; refine clb_XDLb [42] rfl rfl (A_r16_has g x6.2.2 y129 u18) ?_; intro _; refine dr_XDLb ?_; refine aCd ?_; intro _; refine spl h (fun c19 h => ?_) (fun c19 h => ?_)
              · refine aRg ?_; intro _; obtain ⟨q20, h⟩ := grd_ok h; refine pl_XDLb ?_; refine pl_XDLb ?_; refine And.intro (by first | with_reducible assumption | (show (x6.2.2.length + 1) * 16 ≤ 140737488355328; with_reducible assumption) | omega | (simp; omega)) ?_; refine pe_XDLb ?_; refine dr_XDLb ?_; refine aRg ?_; intro _; refine dr_XDLb ?_; refine ⟨(k126, (IntKind.i64.wrap (x6.2.1 + 1)), (x6.2.2 ++ [y129])), h, ltS m7, ?_⟩; exact ca_XDLb
              · refine aSk ?_; refine aRg ?_; intro _; refine dr_XDLb ?_; refine ⟨(k126, (IntKind.i64.wrap (x6.2.1 + 1)), x6.2.2), h, ltS m7, ?_⟩; exact ca_XDLb
            · intro _; refine dr_XDLb ?_; refine aCd ?_; intro _; refine litF ?_; refine aSk ?_; refine aRg ?_; intro _; refine dr_XDLb ?_; refine ⟨(k126, (IntKind.i64.wrap (x6.2.1 + 1)), x6.2.2), h, ltS m7, ?_⟩; exact ca_XDLb
          · refine aEx ?_; refine ⟨x6.2.2, (Option.some.inj h).symm, ?_⟩; exact ca_XDLb
      · rintro v110 ho; have ho := ho.symm; subst ho; intro _; replace h := hK5; refine aRg ?_; intro _; refine dr_XDLb ?_; refine ⟨(k89, (IntKind.i64.wrap (x1.2.1 + 1)), v110), h, ltS m2, ?_⟩; exact ca_XDLb
    · refine aEx ?_; refine aSR ?_; intro _; refine dr_XDLb ?_; refine aRt ?_; obtain ⟨q21, h⟩ := grd_ok h; intro _; obtain rfl := inj1 h; exact ca_XDLb
def M_r16_unbound_L1 (a0 : List ByteArray) (a1 : List ByteArray) (g : Nat) : Nat → Int → Option (Bool)
  | 0, _ => none
  | k11 + 1, v10 =>
    sel (decide (v10 < ((a0.map cS).length : Int)))
     (ix a0 v10 (fun y12 =>
       ob1 (M_r16_Variable y12) (fun z13 =>
        sel z13
         (ix a0 v10 (fun y14 =>
           ob1 (M_r16_has g a1 y14) (fun z15 =>
            sel (!z15)
             (some true)
             (M_r16_unbound_L1 a0 a1 g k11 (IntKind.i64.wrap (v10 + 1))))))
         (M_r16_unbound_L1 a0 a1 g k11 (IntKind.i64.wrap (v10 + 1))))))
     (some false)
def M_r16_unbound (g : Nat) (a0 : List ByteArray) (a1 : List ByteArray) : Option (Bool) :=
  M_r16_unbound_L1 a0 a1 g g 0
theorem A_r16_unbound (g : Nat) (a0 : List ByteArray) (a1 : List ByteArray) {r1 : Bool} (h : M_r16_unbound g a0 a1 = some r1) : ACall cx 43 [.sl 1 (a0.map cS), .sl 1 (a1.map cS)] (.c (.bool r1)) := by
  refine aOf Tryd.func43 rfl (by decide) rfl (Nat.le_of_ble_eq_true rfl) ?_; intro _; unfold M_r16_unbound at h; refine aSR ?_; intro _; refine dr_XDLb ?_; refine aSq ?_; refine aSR ?_; intro _; refine dr_XDLb ?_; refine aBk ?_; refine awp_loop (α := Nat × Int) (fun x => mkS 26 [(0, .sl 1 (a0.map cS)), (1, .sl 1 (a1.map cS)), (5, .c (.int .i64 x.2))] []) (fun x => M_r16_unbound_L1 a0 a1 g x.1 x.2 = some r1) (fun x => x.1) (g, 0) h ?_ ?_
  · exact ca_XDLb
  · intro x1 h; intro _; obtain ⟨k11, m2, h⟩ := succ_of (f := fun n => M_r16_unbound_L1 a0 a1 g n x1.2) rfl h; replace h : M_r16_unbound_L1 a0 a1 g (k11 + 1) x1.2 = some r1 := h; rw [M_r16_unbound_L1] at h; refine aSq ?_; refine aSR ?_; intro _; refine dr_XDLb ?_; refine aCd ?_; intro _; refine spl h (fun c3 h => ?_) (fun c3 h => ?_)
    · refine aSk ?_; refine aSq ?_; refine aBk ?_; refine aSR ?_; intro _; obtain ⟨y12, w4, q5, h⟩ := ix_ok h; refine Exists.intro (cS y12) (And.intro (map_at' w4) ?_); intro _; obtain ⟨z13, u6, h⟩ := ob1_ok h; refine cl_XDLb rfl (A_r16_Variable y12 u6) ?_; intro _; refine spl h (fun c7 h => ?_) (fun c7 h => ?_)
      · intro _; obtain ⟨y14, w8, q9, h⟩ := ix_ok h; refine Exists.intro (cS y14) (And.intro (map_at' w8) ?_); intro _; obtain ⟨z15, u10, h⟩ := ob1_ok h; refine cl_XDLb rfl (A_r16_has g a1 y14 u10) ?_; intro _; refine pr_XDLb ?_; refine pr_XDLb ?_; refine dr_XDLb ?_; refine aCd ?_; intro _; refine spl h (fun c11 h => ?_) (fun c11 h => ?_)
        · refine aSR ?_; intro _; refine dr_XDLb ?_; refine aRt ?_; intro _; obtain rfl := inj1 h; exact ca_XDLb
        · refine aSk ?_; refine aRg ?_; intro _; refine dr_XDLb ?_; refine ⟨(k11, (IntKind.i64.wrap (x1.2 + 1))), h, ltS m2, ?_⟩; exact ca_XDLb
      · intro _; refine pr_XDLb ?_; refine dr_XDLb ?_; refine aCd ?_; intro _; refine litF ?_; refine aSk ?_; refine aRg ?_; intro _; refine dr_XDLb ?_; refine ⟨(k11, (IntKind.i64.wrap (x1.2 + 1))), h, ltS m2, ?_⟩; exact ca_XDLb
    · refine aEx ?_; refine aSR ?_; intro _; refine dr_XDLb ?_; refine aRt ?_; intro _; obtain rfl := inj1 h; exact ca_XDLb
def M_r16_CheckRule_L1 (a0 : GRule) (g : Nat) (z1 : List ByteArray) : Nat → Int → Option (Unit ⊕ Int)
  | 0, _ => none
  | k25 + 1, v24 =>
    sel (decide (v24 < ((a0.Unequal.map cA2_cS).length : Int)))
     (ix a0.Unequal v24 (fun y26 =>
       ix a0.Unequal v24 (fun y27 =>
        ob1 (M_r16_unbound g [y26.1, y27.2] z1) (fun z28 =>
         sel z28
          (some (.inr 2))
          (M_r16_CheckRule_L1 a0 g z1 k25 (IntKind.i64.wrap (v24 + 1)))))))
     (some (.inl ()))
def M_r16_CheckRule_L2 (a0 : GRule) : Nat → Bool → Bool → Int → Option (Bool × Bool)
  | 0, _, _, _ => none
  | k62 + 1, v59, v60, v61 =>
    sel (decide (v61 < ((a0.Body.map cGAtom).length : Int)))
     (sel v59
       (sel v60
         (M_r16_CheckRule_L2 a0 k62 true true (IntKind.i64.wrap (v61 + 1)))
         (ix a0.Body v61 (fun y65 =>
           M_r16_CheckRule_L2 a0 k62 true (y65.Name.toList == (⟨#[]⟩ : ByteArray).toList) (IntKind.i64.wrap (v61 + 1)))))
       (ix a0.Body v61 (fun y63 =>
         sel v60
          (M_r16_CheckRule_L2 a0 k62 (decide (((y63.Args.map cS).length : Int) > 6)) true (IntKind.i64.wrap (v61 + 1)))
          (ix a0.Body v61 (fun y64 =>
            M_r16_CheckRule_L2 a0 k62 (decide (((y63.Args.map cS).length : Int) > 6)) (y64.Name.toList == (⟨#[]⟩ : ByteArray).toList) (IntKind.i64.wrap (v61 + 1)))))))
     (some (v59, v60))
def M_r16_CheckRule (g : Nat) (a0 : GRule) : Option (Int) :=
  ob1 (M_r16_Variables g a0.Body) (fun z1 =>
   ob1 (M_r16_unbound g a0.Head.Args z1) (fun z2 =>
    sel z2
     (some 2)
     (ob1 (M_r16_CheckRule_L1 a0 g z1 g 0 : Option (Unit ⊕ Int))
       (osum
       (fun _ => ob1 (sel (decide (((a0.Head.Args.map cS).length : Int) > 6))
           (some true)
           (some (decide (((a0.Body.map cGAtom).length : Int) > 16))) : Option (Bool))
          (fun v29 => ob1 (M_r16_CheckRule_L2 a0 g v29 (a0.Head.Name.toList == (⟨#[]⟩ : ByteArray).toList) 0 : Option (Bool × Bool))
             (fun (v47, v48) => sel v47
                (some 5)
                (sel v48
                  (some 8)
                  (some 0)))))
       (fun r15 => some r15)))))
theorem A_r16_CheckRule (g : Nat) (a0 : GRule) {r1 : Int} (h : M_r16_CheckRule g a0 = some r1) : ACall cx 14 [.agg [.c (.string a0.Head.Name), .sl 1 (a0.Head.Args.map cS), .sl 2 (a0.Body.map cGAtom), .sl 2 (a0.Unequal.map cA2_cS)]] (.c (.int .i64 r1)) := by
  refine aOf Tryd.func14 rfl (by decide) rfl (Nat.le_of_ble_eq_true rfl) ?_; intro _; unfold M_r16_CheckRule at h; refine aSR ?_; intro _; refine dr_XDLb ?_; refine aSR ?_; intro _; obtain ⟨z1, u1, h⟩ := ob1_ok h; refine cl_XDLb rfl (A_r16_Variables g a0.Body u1) ?_; intro _; refine dr_XDLb ?_; refine aSq ?_; refine aSR ?_; intro _; obtain ⟨z2, u2, h⟩ := ob1_ok h; refine cl_XDLb rfl (A_r16_unbound g a0.Head.Args z1 u2) ?_; intro _; refine dr_XDLb ?_; refine aCd ?_; intro _; refine spl h (fun c3 h => ?_) (fun c3 h => ?_)
  · refine aSR ?_; intro _; refine dr_XDLb ?_; refine aRt ?_; intro _; obtain rfl := inj1 h; exact ca_XDLb
  · refine aSk ?_; obtain ⟨o4, h, hK5⟩ := ob1_ok h; refine awp_cut (α := Unit) (fun _ => mkS 83 [(1, .ptr 1 0 0 0)] [(1, ⟨28, 4, true, [[.c (.string a0.Head.Name), .sl 1 (a0.Head.Args.map cS), .sl 2 (a0.Body.map cGAtom), .sl 2 (a0.Unequal.map cA2_cS)]]⟩)]) (fun v => o4 = (.inl v)) ?_ ?_
    · refine aSR ?_; intro _; refine dr_XDLb ?_; refine aBk ?_; refine awp_loop (α := Nat × Int) (fun x => mkS 83 [(1, .ptr 1 0 0 0), (3, .sl 1 (z1.map cS)), (4, .c (.int .i64 x.2))] [(1, ⟨28, 4, true, [[.c (.string a0.Head.Name), .sl 1 (a0.Head.Args.map cS), .sl 2 (a0.Body.map cGAtom), .sl 2 (a0.Unequal.map cA2_cS)]]⟩)]) (fun x => M_r16_CheckRule_L1 a0 g z1 x.1 x.2 = some o4) (fun x => x.1) (g, 0) h ?_ ?_
      · exact ca_XDLb
      · intro x6 h; intro _; obtain ⟨k25, m7, h⟩ := succ_of (f := fun n => M_r16_CheckRule_L1 a0 g z1 n x6.2) rfl h; replace h : M_r16_CheckRule_L1 a0 g z1 (k25 + 1) x6.2 = some o4 := h; rw [M_r16_CheckRule_L1] at h; refine aSq ?_; refine aSR ?_; intro _; refine dr_XDLb ?_; refine aCd ?_; intro _; refine spl h (fun c8 h => ?_) (fun c8 h => ?_)
        · refine aSk ?_; refine aSq ?_; refine aBk ?_; refine aSR ?_; intro _; obtain ⟨y26, w9, q10, h⟩ := ix_ok h; refine Exists.intro (cA2_cS y26) (And.intro (map_at' w9) ?_); intro _; refine ⟨_, lf_arrAtI rfl (Nat.le_of_ble_eq_true rfl) rfl rfl (tyTab_ok 58 _ rfl) rfl (tyTab_ok 9 _ rfl) (by decide) (by decide), ?_⟩; intro _; obtain ⟨y27, w11, q12, h⟩ := ix_ok h; refine Exists.intro (cA2_cS y27) (And.intro (map_at' w11) ?_); intro _; refine ⟨_, lf_arrAtI rfl (Nat.le_of_ble_eq_true rfl) rfl rfl (tyTab_ok 58 _ rfl) rfl (tyTab_ok 9 _ rfl) (by decide) (by decide), ?_⟩; intro _; obtain ⟨z28, u13, h⟩ := ob1_ok h; refine clb_XDLb [35] rfl rfl (A_r16_unbound g [y26.1, y27.2] z1 u13) ?_; intro _; refine pr_XDLb ?_; refine pr_XDLb ?_; refine dr_XDLb ?_; refine aCd ?_; intro _; refine spl h (fun c14 h => ?_) (fun c14 h => ?_)
          · refine aSR ?_; intro _; refine dr_XDLb ?_; refine aRt ?_; have j15 := Option.some.inj h; subst j15; replace h := (osum_r hK5); intro _; obtain rfl := inj1 h; exact ca_XDLb
          · refine aSk ?_; refine aRg ?_; intro _; refine dr_XDLb ?_; refine ⟨(k25, (IntKind.i64.wrap (x6.2 + 1))), h, ltS m7, ?_⟩; exact ca_XDLb
        · refine aEx ?_; refine ⟨(), (Option.some.inj h).symm, ?_⟩; exact ca_XDLb
    · rintro _ ho; have ho := ho.symm; subst ho; intro _; replace h := (osum_l hK5); obtain ⟨o16, h, hK17⟩ := ob1_ok h; refine awp_cut (α := Bool) (fun v29 => mkS 83 [(1, .ptr 1 0 0 0), (5, .c (.bool v29)), (6, .c (.bool (a0.Head.Name.toList == (⟨#[]⟩ : ByteArray).toList)))] [(1, ⟨28, 4, true, [[.c (.string a0.Head.Name), .sl 1 (a0.Head.Args.map cS), .sl 2 (a0.Body.map cGAtom), .sl 2 (a0.Unequal.map cA2_cS)]]⟩)]) (fun v => o16 = v) ?_ ?_
      · refine aRg ?_; intro _; refine spf h (fun c18 h => ?_) (fun c18 h => ?_)
        · intro _; refine dr_XDLb ?_; refine ⟨(decide (((a0.Body.map cGAtom).length : Int) > 16)), (Option.some.inj h).symm, ?_⟩; exact ca_XDLb
        · intro _; refine dr_XDLb ?_; refine ⟨true, (Option.some.inj h).symm, ?_⟩; exact ca_XDLb
      · rintro v29 ho; have ho := ho.symm; subst ho; intro _; replace h := hK17; obtain ⟨o19, h, hK20⟩ := ob1_ok h; refine awp_cut (α := Bool × Bool) (fun (v47, v48) => mkS 83 [(5, .c (.bool v47)), (6, .c (.bool v48))] []) (fun v => o19 = v) ?_ ?_
        · refine aSR ?_; intro _; refine dr_XDLb ?_; refine aBk ?_; refine awp_loop (α := Nat × Bool × Bool × Int) (fun x => mkS 83 [(1, .ptr 1 0 0 0), (5, .c (.bool x.2.1)), (6, .c (.bool x.2.2.1)), (7, .c (.int .i64 x.2.2.2))] [(1, ⟨28, 4, true, [[.c (.string a0.Head.Name), .sl 1 (a0.Head.Args.map cS), .sl 2 (a0.Body.map cGAtom), .sl 2 (a0.Unequal.map cA2_cS)]]⟩)]) (fun x => M_r16_CheckRule_L2 a0 x.1 x.2.1 x.2.2.1 x.2.2.2 = some o19) (fun x => x.1) (g, v29, (a0.Head.Name.toList == (⟨#[]⟩ : ByteArray).toList), 0) h ?_ ?_
          · exact ca_XDLb
          · intro x21 h; intro _; obtain ⟨k62, m22, h⟩ := succ_of (f := fun n => M_r16_CheckRule_L2 a0 n x21.2.1 x21.2.2.1 x21.2.2.2) rfl h; replace h : M_r16_CheckRule_L2 a0 (k62 + 1) x21.2.1 x21.2.2.1 x21.2.2.2 = some o19 := h; rw [M_r16_CheckRule_L2] at h; refine aSq ?_; refine aSR ?_; intro _; refine dr_XDLb ?_; refine aCd ?_; intro _; refine spl h (fun c23 h => ?_) (fun c23 h => ?_)
            · refine aSk ?_; refine aSq ?_; refine aBk ?_; refine aSR ?_; intro _; refine spf h (fun c24 h => ?_) (fun c24 h => ?_)
              · intro _; obtain ⟨y63, w25, q26, h⟩ := ix_ok h; refine Exists.intro (cGAtom y63) (And.intro (map_at' w25) ?_); intro _; refine pr_XDLb ?_; refine dr_XDLb ?_; refine aRg ?_; intro _; refine spf h (fun c27 h => ?_) (fun c27 h => ?_)
                · intro _; obtain ⟨y64, w28, q29, h⟩ := ix_ok h; refine Exists.intro (cGAtom y64) (And.intro (map_at' w28) ?_); intro _; refine pr_XDLb ?_; refine dr_XDLb ?_; refine aRg ?_; intro _; refine dr_XDLb ?_; refine ⟨(k62, (decide (((y63.Args.map cS).length : Int) > 6)), (y64.Name.toList == (⟨#[]⟩ : ByteArray).toList), (IntKind.i64.wrap (x21.2.2.2 + 1))), h, ltS m22, ?_⟩; exact ca_XDLb
                · intro _; refine dr_XDLb ?_; refine aRg ?_; intro _; refine dr_XDLb ?_; refine ⟨(k62, (decide (((y63.Args.map cS).length : Int) > 6)), true, (IntKind.i64.wrap (x21.2.2.2 + 1))), h, ltS m22, ?_⟩; exact ca_XDLb
              · intro _; refine dr_XDLb ?_; refine aRg ?_; intro _; refine spf h (fun c30 h => ?_) (fun c30 h => ?_)
                · intro _; obtain ⟨y65, w31, q32, h⟩ := ix_ok h; refine Exists.intro (cGAtom y65) (And.intro (map_at' w31) ?_); intro _; refine pr_XDLb ?_; refine dr_XDLb ?_; refine aRg ?_; intro _; refine dr_XDLb ?_; refine ⟨(k62, true, (y65.Name.toList == (⟨#[]⟩ : ByteArray).toList), (IntKind.i64.wrap (x21.2.2.2 + 1))), h, ltS m22, ?_⟩; exact ca_XDLb
                · intro _; refine dr_XDLb ?_; refine aRg ?_; intro _; refine dr_XDLb ?_; refine ⟨(k62, true, true, (IntKind.i64.wrap (x21.2.2.2 + 1))), h, ltS m22, ?_⟩; exact ca_XDLb
            · refine aEx ?_; refine ⟨(x21.2.1, x21.2.2.1), (Option.some.inj h).symm, ?_⟩; exact ca_XDLb
        · rintro ⟨v47, v48⟩ ho; have ho := ho.symm; subst ho; intro _; replace h := hK20; refine aSq ?_; refine aSR ?_; intro _; refine dr_XDLb ?_; refine aCd ?_; intro _; refine spl h (fun c33 h => ?_) (fun c33 h => ?_)
          · refine aSR ?_; intro _; refine dr_XDLb ?_; refine aRt ?_; intro _; obtain rfl := inj1 h; exact ca_XDLb
          · refine aSk ?_; refine aSq ?_; refine aSR ?_; intro _; refine dr_XDLb ?_; refine aCd ?_; intro _; refine spl h (fun c34 h => ?_) (fun c34 h => ?_)
            · refine aSR ?_; intro _; refine dr_XDLb ?_; refine aRt ?_; intro _; obtain rfl := inj1 h; exact ca_XDLb
            · refine aSk ?_; refine aSR ?_; intro _; refine dr_XDLb ?_; refine aRt ?_; intro _; obtain rfl := inj1 h; exact ca_XDLb
def M_b_Num (a0 : Er) : Option (Int) :=
  erM a0
   (some 0)
   (fun e1 => some e1)
theorem A_b_Num (a0 : Er) {r1 : Int} (h : M_b_Num a0 = some r1) : ACall cx 12 [eA a0] (.c (.int .i64 r1)) := by
  refine aOf Tryd.func12 rfl (by decide) rfl (Nat.le_of_ble_eq_true rfl) ?_; intro _; unfold M_b_Num at h; refine aSR ?_; intro _; refine dr_XDLb ?_; refine aSq ?_; refine aSq ?_; rcases a0 with _ | e1
  · replace h := erM_nil h; refine aRg ?_; intro _; refine dr_XDLb ?_; refine aCd ?_; intro _; refine litT ?_; refine aSR ?_; intro _; refine dr_XDLb ?_; refine aRt ?_; intro _; obtain rfl := inj1 h; exact ca_XDLb
  · replace h := erM_no h; refine aRg ?_; intro _; refine dr_XDLb ?_; refine aCd ?_; intro _; refine litF ?_; refine aSk ?_; refine aSq ?_; refine aSR ?_; intro _; refine ⟨_, lf_assert rfl (Nat.le_of_ble_eq_true rfl) rfl asErrno, ?_⟩; intro _; refine dr_XDLb ?_; refine aSR ?_; intro _; refine dr_XDLb ?_; refine aCd ?_; intro _; refine litT ?_; refine aSR ?_; intro _; refine dr_XDLb ?_; refine aRt ?_; intro _; obtain rfl := inj1 h; exact ca_XDLb
end Go.Proofs.YtflgpccacloadaaDoor.Am
/- Plain law: the reference's CheckRule. -/
namespace Go.Proofs.YtflgpccacloadaaDoor.Am
open Go.RowKit
theorem rvar_eq (s : ByteArray) : M_r16_Variable s = some (isV s) := by
  unfold M_r16_Variable isV
  rw [sel_dec, toList_bl, toList_bl, bl_extract]
  have hl := bl_len s
  obtain ⟨⟨l⟩⟩ := s
  have hbl : bl (⟨⟨l⟩⟩ : ByteArray) = l := rfl
  rw [hbl] at hl ⊢
  rw [← hl]
  cases l with
  | nil => rfl
  | cons c q =>
    rw [if_pos (by simp)]
    refine grd_mk (by simp) ?_
    have e1 : (byt (⟨⟨c :: q⟩⟩ : ByteArray) 0) = (c.toNat : Int) := rfl
    rw [e1, beq_int]
    have e2 : decide (1 ≤ (c :: q).length) = true := by simp
    have e3 : bl (⟨#[63]⟩ : ByteArray) = [63] := rfl
    rw [e2, e3]
    simp only [List.drop_zero, Nat.sub_zero, List.take_succ_cons, List.take_zero, Bool.true_and]
    by_cases e : c = 63
    · subst e; rfl
    · have : ¬ ((c.toNat : Int) = 63) := fun q => e (UInt8.toNat_inj.1 (by simpa using Int.ofNat.inj q))
      rw [decide_eq_false this]
      simp [e]
theorem rhas_loop (l : List ByteArray) (s : ByteArray) (hl : l.length ≤ 4611686018427387904) : ∀ (k i : Nat), l.length + 1 ≤ i + k → i ≤ l.length → M_r16_has_L1 l s k (i : Int) = some (decide (s ∈ l.drop i)) := by
  intro k
  induction k with
  | zero => intro i h1 h2; omega
  | succ k ih =>
    intro i h1 h2
    rw [M_r16_has_L1]
    by_cases h : i < l.length
    · have hy := List.getElem?_eq_getElem h
      rw [show decide ((i : Int) < ((l.map cS).length : Int)) = true by simp; omega]
      show ix l (i : Int) _ = _
      rw [ix_at hy, beq_bl, sel_dec, dropC hy]
      by_cases e : l[i] = s
      · rw [if_pos e]
        exact congrArg some (decide_eq_true (List.mem_cons.2 (.inl e.symm))).symm
      · rw [if_neg e, wrap_eq (by omega) (by omega)]
        have := ih (i + 1) (by omega) (by omega)
        rw [show ((i + 1 : Nat) : Int) = (i : Int) + 1 from rfl] at this
        rw [this]
        refine congrArg some (decide_eq_decide.2 ⟨fun q => List.mem_cons_of_mem _ q, fun q => ?_⟩)
        rcases List.mem_cons.1 q with q | q
        · exact absurd q.symm e
        · exact q
    · rw [show decide ((i : Int) < ((l.map cS).length : Int)) = false by simp; omega]
      rw [List.drop_of_length_le (by omega)]
      rfl
theorem rhas_eq (g : Nat) (l : List ByteArray) (s : ByteArray) (hl : l.length ≤ 4611686018427387904) (hg : l.length < g) : M_r16_has g l s = some (decide (s ∈ l)) := by
  unfold M_r16_has
  have := rhas_loop l s hl g 0 (by omega) (Nat.zero_le _)
  rw [List.drop_zero] at this
  exact this
theorem runb_loop (l known : List ByteArray) (g : Nat) (hl : l.length ≤ 4611686018427387904) (hk : known.length ≤ 4611686018427387904) (hg : known.length < g) : ∀ (k i : Nat), l.length + 1 ≤ i + k → i ≤ l.length → M_r16_unbound_L1 l known g k (i : Int) = some ((l.drop i).any (badT known)) := by
  intro k
  induction k with
  | zero => intro i h1 h2; omega
  | succ k ih =>
    intro i h1 h2
    rw [M_r16_unbound_L1]
    by_cases h : i < l.length
    · have hy := List.getElem?_eq_getElem h
      rw [show decide ((i : Int) < ((l.map cS).length : Int)) = true by simp; omega]
      show ix l (i : Int) _ = _
      have hw : IntKind.i64.wrap ((i : Int) + 1) = ((i + 1 : Nat) : Int) := wrap_eq (by omega) (by omega)
      rw [ix_at hy, rvar_eq, ob1_some, dropC hy, List.any_cons, hw, ih (i + 1) (by omega) (by omega)]
      unfold badT
      cases hv : isV l[i] with
      | false => simp [sel]
      | true =>
        show ix l (i : Int) _ = _
        rw [ix_at hy, rhas_eq g known _ hk hg, ob1_some]
        cases hd : decide (l[i] ∈ known) with
        | false => simp [sel]
        | true => simp [sel]
    · rw [show decide ((i : Int) < ((l.map cS).length : Int)) = false by simp; omega]
      rw [List.drop_of_length_le (by omega)]
      rfl
theorem runb_eq (l known : List ByteArray) (g : Nat) (hl : l.length ≤ 4611686018427387904) (hk : known.length ≤ 4611686018427387904) (hg : known.length < g) (hg2 : l.length < g) : M_r16_unbound g l known = some (l.any (badT known)) := by
  unfold M_r16_unbound
  have := runb_loop l known g hl hk hg g 0 (by omega) (Nat.zero_le _)
  rw [List.drop_zero] at this
  exact this
theorem rvarL1 (body : List GAtom) (g v : Nat) (a : GAtom) (ha : body[v]? = some a) (hA : a.Args.length ≤ 4611686018427387904) : ∀ (k i : Nat) (out : List ByteArray), a.Args.length + 1 ≤ i + k → i ≤ a.Args.length → (out.length + (a.Args.length - i)) * 16 ≤ 140737488355328 → out.length + (a.Args.length - i) < g →
    M_r16_Variables_L1 body g (v : Int) k (i : Int) out = some ((a.Args.drop i).foldl addV out) := by
  intro k
  induction k with
  | zero => intro i out h1 h2; omega
  | succ k ih =>
    intro i out h1 h2 h3 h4
    rw [M_r16_Variables_L1, ix_at ha]
    by_cases h : i < a.Args.length
    · have hy := List.getElem?_eq_getElem h
      rw [show decide ((i : Int) < ((a.Args.map cS).length : Int)) = true by simp; omega]
      show ix body (v : Int) _ = _
      rw [ix_at ha, ix_at hy, rvar_eq, ob1_some, dropC hy, List.foldl_cons, wrap_eq (by omega) (by omega)]
      unfold addV
      cases hv : isV a.Args[i] with
      | false =>
        rw [if_neg (by decide)]
        exact ih (i + 1) out (by omega) (by omega) (by omega) (by omega)
      | true =>
        rw [if_pos rfl]
        refine grd_mk (by omega) ?_
        rw [rhas_eq g out _ (by omega) (by omega), ob1_some, sel_not, sel_dec]
        by_cases e : a.Args[i] ∈ out
        · rw [if_pos e, if_pos e]
          exact ih (i + 1) out (by omega) (by omega) (by omega) (by omega)
        · rw [if_neg e, if_neg e]
          exact grd_mk (by omega) (ih (i + 1) (out ++ [a.Args[i]]) (by omega) (by omega) (by simp; omega) (by simp; omega))
    · rw [show decide ((i : Int) < ((a.Args.map cS).length : Int)) = false by simp; omega]
      rw [List.drop_of_length_le (by omega)]
      rfl
theorem rvarL2 (body : List GAtom) (g : Nat) (hb : body.length ≤ 4611686018427387904) : ∀ (k i : Nat) (out : List ByteArray), body.length + 1 ≤ i + k → i ≤ body.length → (out.length + ((body.drop i).flatMap (·.Args)).length) * 16 ≤ 140737488355328 → out.length + ((body.drop i).flatMap (·.Args)).length < g →
    M_r16_Variables_L2 body g k (i : Int) out = some (((body.drop i).flatMap (·.Args)).foldl addV out) := by
  intro k
  induction k with
  | zero => intro i out h1 h2; omega
  | succ k ih =>
    intro i out h1 h2 h3 h4
    rw [M_r16_Variables_L2]
    by_cases h : i < body.length
    · have hy := List.getElem?_eq_getElem h
      rw [show decide ((i : Int) < ((body.map cGAtom).length : Int)) = true by simp; omega]
      rw [dropC hy, List.flatMap_cons, List.length_append] at h3 h4
      have h6 := addV_len body[i].Args out
      have h5 := rvarL1 body g i body[i] hy (by omega) g 0 out (by omega) (Nat.zero_le _) (by omega) (by omega)
      rw [List.drop_zero, show ((0 : Nat) : Int) = 0 from rfl] at h5
      show ob1 (M_r16_Variables_L1 body g (i : Int) g 0 out) _ = _
      rw [h5, ob1_some, wrap_eq (by omega) (by omega), dropC hy, List.flatMap_cons, List.foldl_append]
      exact ih (i + 1) _ (by omega) (by omega) (by omega) (by omega)
    · rw [show decide ((i : Int) < ((body.map cGAtom).length : Int)) = false by simp; omega]
      rw [List.drop_of_length_le (by omega)]
      exact grd_mk (by omega) rfl
theorem rvars_eq (body : List GAtom) (g : Nat) (hb : body.length < g) (hb2 : body.length ≤ 4611686018427387904) (ht : (body.flatMap (·.Args)).length * 16 ≤ 140737488355328) (hg : (body.flatMap (·.Args)).length < g) : M_r16_Variables g body = some (vars body) := by
  unfold M_r16_Variables
  have := rvarL2 body g hb2 g 0 [] (by omega) (Nat.zero_le _) (by rw [List.drop_zero]; simpa using ht) (by rw [List.drop_zero]; simpa using hg)
  rw [List.drop_zero] at this
  exact this
theorem rck1 (r : GRule) (g : Nat) (known : List ByteArray) (hn : r.Unequal.length ≤ 4611686018427387904) (hk : known.length ≤ 4611686018427387904) (hg : known.length < g) (hg2 : 2 < g) : ∀ (k i : Nat), r.Unequal.length + 1 ≤ i + k → i ≤ r.Unequal.length →
    M_r16_CheckRule_L1 r g known k (i : Int) = some (if ((r.Unequal.drop i).flatMap (fun p => [p.1, p.2])).any (badT known) = true then .inr 2 else .inl ()) := by
  intro k
  induction k with
  | zero => intro i h1 h2; omega
  | succ k ih =>
    intro i h1 h2
    rw [M_r16_CheckRule_L1]
    by_cases h : i < r.Unequal.length
    · have hy := List.getElem?_eq_getElem h
      rw [show decide ((i : Int) < ((r.Unequal.map cA2_cS).length : Int)) = true by simp; omega]
      show ix r.Unequal (i : Int) _ = _
      rw [ix_at hy, ix_at hy, runb_eq [r.Unequal[i].1, r.Unequal[i].2] known g (by simp) hk hg (by simpa using hg2), ob1_some, dropC hy, List.flatMap_cons, List.any_append]
      cases hb : [r.Unequal[i].1, r.Unequal[i].2].any (badT known) with
      | true => simp [sel]
      | false =>
        show M_r16_CheckRule_L1 r g known k _ = _
        rw [wrap_eq (by omega) (by omega), Bool.false_or]
        exact ih (i + 1) (by omega) (by omega)
    · rw [show decide ((i : Int) < ((r.Unequal.map cA2_cS).length : Int)) = false by simp; omega]
      rw [List.drop_of_length_le (by omega)]
      rfl
theorem rck2 (r : GRule) (hb : r.Body.length ≤ 4611686018427387904) : ∀ (k i : Nat) (x y : Bool), r.Body.length + 1 ≤ i + k → i ≤ r.Body.length →
    M_r16_CheckRule_L2 r k x y (i : Int) = some (x || (r.Body.drop i).any longA, y || (r.Body.drop i).any namA) := by
  intro k
  induction k with
  | zero => intro i x y h1 h2; omega
  | succ k ih =>
    intro i x y h1 h2
    rw [M_r16_CheckRule_L2]
    by_cases h : i < r.Body.length
    · have hy := List.getElem?_eq_getElem h
      rw [show decide ((i : Int) < ((r.Body.map cGAtom).length : Int)) = true by simp; omega]
      have hw : IntKind.i64.wrap ((i : Int) + 1) = ((i + 1 : Nat) : Int) := wrap_eq (by omega) (by omega)
      rw [dropC hy, List.any_cons, List.any_cons, hw]
      have hlong : decide (((r.Body[i].Args.map cS).length : Int) > 6) = longA r.Body[i] := decide_eq_decide.2 (by rw [List.length_map]; omega)
      have hname : (r.Body[i].Name.toList == (⟨#[]⟩ : ByteArray).toList) = namA r.Body[i] := beq_bl _ _
      cases x <;> cases y
      · show ix r.Body (i : Int) _ = _
        rw [ix_at hy]
        show ix r.Body (i : Int) _ = _
        rw [ix_at hy, hlong, hname, ih (i + 1) _ _ (by omega) (by omega)]
        simp
      · show ix r.Body (i : Int) _ = _
        rw [ix_at hy]
        show M_r16_CheckRule_L2 r k _ _ _ = _
        rw [hlong, ih (i + 1) _ _ (by omega) (by omega)]
        simp
      · show ix r.Body (i : Int) _ = _
        rw [ix_at hy, hname, ih (i + 1) _ _ (by omega) (by omega)]
        simp
      · show M_r16_CheckRule_L2 r k _ _ _ = _
        rw [ih (i + 1) _ _ (by omega) (by omega)]
        simp
    · rw [show decide ((i : Int) < ((r.Body.map cGAtom).length : Int)) = false by simp; omega]
      rw [List.drop_of_length_le (by omega)]
      simp [sel]
def codeE : Er → Int
  | .nil => 0
  | .no e => e
theorem rcheck_eq (g : Nat) (r : GRule) (h : CkOk r) (hg : (r.Body.flatMap (·.Args)).length < g) (hg2 : r.Body.length < g) (hg3 : r.Head.Args.length < g) (hg4 : r.Unequal.length < g) (hg5 : 2 < g) : M_r16_CheckRule g r = some (codeE (ckR r)) := by
  obtain ⟨h1, h2, h3⟩ := h
  have hvl := vars_len r.Body
  unfold M_r16_CheckRule
  rw [rvars_eq r.Body g hg2 (by omega) h1 hg, ob1_some, runb_eq r.Head.Args (vars r.Body) g (by omega) (by omega) (by omega) hg3, ob1_some]
  have e1 := rck1 r g (vars r.Body) (by omega) (by omega) (by omega) hg5 g 0 (by omega) (Nat.zero_le _)
  rw [List.drop_zero, show ((0 : Nat) : Int) = 0 from rfl] at e1
  unfold ckR terms
  rw [List.any_append]
  cases hh : r.Head.Args.any (badT (vars r.Body)) with
  | true => simp [sel, codeE]
  | false =>
    show ob1 (M_r16_CheckRule_L1 r g (vars r.Body) g 0) _ = _
    rw [e1, ob1_some, Bool.false_or]
    cases hu : (r.Unequal.flatMap (fun p => [p.1, p.2])).any (badT (vars r.Body)) with
    | true => simp [osum, codeE]
    | false =>
      rw [if_neg (by decide), if_neg (by decide)]
      have hx : (sel (decide (((r.Head.Args.map cS).length : Int) > 6)) (some true) (some (decide (((r.Body.map cGAtom).length : Int) > 16))) : Option Bool) = some (longA r.Head || decide (16 < r.Body.length)) := by
        rw [show decide (((r.Head.Args.map cS).length : Int) > 6) = longA r.Head from decide_eq_decide.2 (by rw [List.length_map]; omega), show decide (((r.Body.map cGAtom).length : Int) > 16) = decide (16 < r.Body.length) from decide_eq_decide.2 (by rw [List.length_map]; omega)]
        cases longA r.Head <;> rfl
      show ob1 (sel _ _ _) _ = _
      have e2 := rck2 r (by omega) g 0 (longA r.Head || decide (16 < r.Body.length)) (namA r.Head) (by omega) (Nat.zero_le _)
      rw [List.drop_zero, show ((0 : Nat) : Int) = 0 from rfl] at e2
      rw [hx, ob1_some, show (r.Head.Name.toList == (⟨#[]⟩ : ByteArray).toList) = namA r.Head from beq_bl _ _, e2, ob1_some, List.any_cons, List.any_cons]
      show sel (longA r.Head || decide (16 < r.Body.length) || r.Body.any longA) _ _ = _
      by_cases h16 : 16 < r.Body.length
      · rw [if_pos h16, decide_eq_true h16]
        simp [sel, codeE]
      · rw [if_neg h16, decide_eq_false h16, Bool.or_false]
        cases (longA r.Head || r.Body.any longA) with
        | true => rfl
        | false =>
          show sel (namA r.Head || r.Body.any namA) _ _ = _
          cases (namA r.Head || r.Body.any namA) <;> rfl
end Go.Proofs.YtflgpccacloadaaDoor.Am
/- Plain law: Solve as a loop of rounds. -/
namespace Go.Proofs.YtflgpccacloadaaDoor.Am
open Go.RowKit
def nextS (rules : List GRule) (S : GSet) : GSet := setA (S ++ allH S rules)
theorem mem_next {rules : List GRule} {S : GSet} {z : GAtom} : z ∈ nextS rules S ↔ z ∈ S ∨ z ∈ allH S rules := by
  unfold nextS
  rw [(setA_spec _).2.1, List.mem_append]
theorem strA_nodup {l : List GAtom} (hl : StrA l) : l.Nodup := hl.imp (fun {x y} hxy e => by rw [e, atomC_cmp.self] at hxy; omega)
theorem nodup_sub {α : Type} [DecidableEq α] {a b : List α} (ha : a.Nodup) (hs : ∀ x ∈ a, x ∈ b) : a.length ≤ b.length := nodupL a b ha hs
theorem next_ge {rules : List GRule} {S : GSet} (hS : StrA S) : S.length ≤ (nextS rules S).length := nodup_sub (strA_nodup hS) (fun x hx => mem_next.2 (.inl hx))
/-- what a round asks -/
structure RndOk (rules : List GRule) (S : GSet) : Prop where
  rule : ∀ r ∈ rules, RuleOk S r
  args : ∀ a ∈ S, a.Args.length * 16 ≤ 140737488355328
  cnt : (allH S rules).length ≤ 1048576
def runS (rules : List GRule) : Nat → GSet → List GAtom × Er
  | 0, _ => ([], .nil)
  | k + 1, S => if 4096 < (nextS rules S).length then ([], .no 5) else if (nextS rules S).length = S.length then (S, .nil) else runS rules k (nextS rules S)
theorem run_eq (rules : List GRule) (g : Nat) (Inv : GSet → Prop) (hI : ∀ S, Inv S → RndOk rules S) (hN : ∀ S, Inv S → (nextS rules S).length ≤ 4096 → Inv (nextS rules S)) (hb : ∀ r ∈ rules, r.Body.length < g) (hn : rules.length ≤ 4611686018427387904) (hg : 3000000 < g) :
    ∀ (k : Nat) (S : GSet), Inv S → StrA S → S.length ≤ 4096 → 4097 ≤ k + S.length → M_datalog_Solve_L2 rules g k S = some (runS rules k S) := by
  intro k
  induction k with
  | zero => intro S h1 h2 h3 h4; omega
  | succ k ih =>
    intro S h1 h2 h3 h4
    obtain ⟨r1, r2, r3⟩ := hI S h1
    rw [M_datalog_Solve_L2, round_eq g S rules r1 (by omega) r2 hb hn r3 hg]
    show sel _ _ _ = _
    rw [sel_dec, runS]
    have hge := next_ge (rules := rules) h2
    by_cases e1 : 4096 < (nextS rules S).length
    · rw [if_pos e1, if_pos (by rw [List.length_map]; exact Int.ofNat_lt.2 e1)]
    · rw [if_neg e1, if_neg (by rw [List.length_map]; exact fun q => e1 (Int.ofNat_lt.1 q)), beq_int, sel_dec]
      by_cases e2 : (nextS rules S).length = S.length
      · rw [if_pos e2, if_pos (by rw [List.length_map, List.length_map]; exact congrArg Int.ofNat e2)]
      · rw [if_neg e2, if_neg (by rw [List.length_map, List.length_map]; exact fun q => e2 (Int.ofNat.inj q))]
        exact ih (nextS rules S) (hN S h1 (by omega)) (setA_spec _).1 (by omega) (by omega)
/-- what Solve returns -/
def solveS (g : Nat) (facts : List GAtom) (rules : List GRule) : List GAtom × Er :=
  match firstE rules with
  | .no e => ([], .no e)
  | .nil => if facts.any badF = true then ([], .no 2) else if 1024 < rules.length then ([], .no 5) else if 4096 < (setA facts).length then ([], .no 5) else runS rules g (setA facts)
theorem solve_eq (g : Nat) (facts : List GAtom) (rules : List GRule) (hck : ∀ r ∈ rules, CkOk r) (hf : MadeOk facts) (hn : rules.length ≤ 4611686018427387904) (hb : ∀ r ∈ rules, r.Body.length < g) (hg : 3000000 < g) (hfl : facts.length < g)
    (Inv : GSet → Prop) (h0 : firstE rules = .nil → facts.any badF = false → rules.length ≤ 1024 → Inv (setA facts)) (hI : ∀ S, Inv S → RndOk rules S) (hN : ∀ S, Inv S → (nextS rules S).length ≤ 4096 → Inv (nextS rules S)) :
    M_datalog_Solve g facts rules = some (solveS g facts rules) := by
  unfold M_datalog_Solve
  have hf2 := hf.2
  rw [show (((rules.map cGRule).length : Int)).toNat + 1 = rules.length + 1 by simp]
  have h1 := slvL1 rules hck hn (rules.length + 1) 0 (by omega) (Nat.zero_le _)
  rw [List.drop_zero, show ((0 : Nat) : Int) = 0 from rfl] at h1
  rw [h1, ob1_some]
  unfold solveS
  cases he : firstE rules with
  | no e => rfl
  | nil =>
    show ob1 (M_s_ContainsFunc_Atom facts M_datalog_Solve_1) _ = _
    rw [cfA_eq facts _ badF (fun x hx => slv1_eq x (by have := hf.1 x hx; omega)) (by omega), ob1_some]
    cases hbf : facts.any badF with
    | true => rfl
    | false =>
      rw [if_neg (by decide), show ∀ (x y : Option (List GAtom × Er)), sel false x y = y from fun _ _ => rfl, sel_dec]
      by_cases e1 : 1024 < rules.length
      · rw [if_pos e1, if_pos (by rw [List.length_map]; omega)]
        try rfl
      · rw [if_neg e1, if_neg (by rw [List.length_map]; omega), made_eq g facts hf hfl, ob1_some]
        show sel _ _ _ = _
        rw [sel_dec]
        by_cases e2 : 4096 < (setA facts).length
        · rw [if_pos e2, if_pos (by rw [List.length_map]; exact Int.ofNat_lt.2 e2)]
        · rw [if_neg e2, if_neg (by rw [List.length_map]; exact fun q => e2 (Int.ofNat_lt.1 q))]
          exact run_eq rules g Inv hI hN hb hn hg g (setA facts) (h0 he hbf (by omega)) (setA_spec _).1 (by omega) (by omega)
end Go.Proofs.YtflgpccacloadaaDoor.Am
/- Plain law: the fixed example. -/
namespace Go.Proofs.YtflgpccacloadaaDoor.Am
open Go.RowKit
def isV' (s : ByteArray) : Bool := match bl s with | c :: _ => decide (c = 63) | [] => false
theorem isV_eq (s : ByteArray) : isV s = isV' s := by
  unfold isV isV'
  rw [toList_bl, toList_bl, bl_extract]
  have hl := bl_len s
  cases h : bl s with
  | nil => rw [h] at hl; simp at hl; rw [← hl]; rfl
  | cons c q =>
    rw [h] at hl
    rw [← hl]
    have e3 : bl (⟨#[63]⟩ : ByteArray) = [63] := rfl
    rw [e3]
    simp
    by_cases e : c = 63 <;> simp [e]
def tB' (b : Bd) (s : ByteArray) : Option ByteArray := if isV' s then getM b s else some s
theorem tB_eq (b : Bd) (s : ByteArray) : tB b s = tB' b s := by unfold tB tB'; rw [isV_eq]
def uni' : Bd → List ByteArray → List ByteArray → Bool × Bd
  | b, s :: r, c :: q =>
    match tB' b s with
    | none => uni' (setM b s c) r q
    | some x => if x = c then uni' b r q else (false, b)
  | b, _, _ => (true, b)
theorem uni_eq' : ∀ (xs cs : List ByteArray) (b : Bd) (fr : List ByteArray), (uni b fr xs cs).2 = uni' b xs cs
  | [], cs, b, fr => by rw [uni, uni'] <;> simp
  | s :: r, [], b, fr => by rw [uni, uni'] <;> simp
  | s :: r, c :: q, b, fr => by
    rw [uni, uni', tB_eq]
    cases tB' b s with
    | none => exact uni_eq' r q _ _
    | some x =>
      simp only []
      split
      · exact uni_eq' r q _ _
      · rfl
def dif' (b : Bd) (un : List (ByteArray × ByteArray)) : Bool := un.all (fun p => match tB' b p.1, tB' b p.2 with | some x, some y => decide (x ≠ y) | _, _ => true)
theorem dif_eq (b : Bd) (un : List (ByteArray × ByteArray)) : dif b un = dif' b un := by
  unfold dif dif'
  congr 1
  funext p
  unfold difP
  rw [tB_eq, tB_eq]
  rfl
def sols' (S : GSet) (un : List (ByteArray × ByteArray)) : List GAtom → Bd → List Bd
  | [], b => if dif' b un then [b] else []
  | a :: r, b => if dif' b un then (S.filter (fun f => decide (keyF f = keyF a))).flatMap (fun f => if (uni' b a.Args f.Args).1 then sols' S un r (uni' b a.Args f.Args).2 else []) else []
theorem sols_eq' (S : GSet) (un : List (ByteArray × ByteArray)) : ∀ (body : List GAtom) (b : Bd), sols S un body b = sols' S un body b
  | [], b => by rw [sols, sols', dif_eq]
  | a :: r, b => by
    rw [sols, sols', dif_eq, grp_eq]
    congr 2
    funext f
    rw [← uni_eq' a.Args f.Args b [], sols_eq' S un r]
def hatom' (b : Bd) (h : GAtom) : GAtom := ⟨h.Name, h.Args.map (fun t => (tB' b t).getD (⟨#[]⟩ : ByteArray))⟩
theorem hatom_eq (b : Bd) (h : GAtom) : hatom b h = hatom' b h := by
  unfold hatom hatom'
  simp only [tB_eq]
theorem rheads_eq (S : GSet) (r : GRule) : rheads S r = (sols' S r.Unequal r.Body []).map (fun b => hatom' b r.Head) := by
  unfold rheads rsols
  rw [sols_eq']
  exact List.map_congr_left (fun b _ => hatom_eq b _)
/-- the example -/
def exE1 : GAtom := ⟨⟨#[101]⟩, [⟨#[97]⟩, ⟨#[98]⟩]⟩
def exE2 : GAtom := ⟨⟨#[101]⟩, [⟨#[98]⟩, ⟨#[99]⟩]⟩
def exX : GAtom := ⟨⟨#[114]⟩, [⟨#[97]⟩, ⟨#[99]⟩]⟩
def exR : GRule := { Head := ⟨⟨#[114]⟩, [⟨#[63, 120]⟩, ⟨#[63, 122]⟩]⟩, Body := [⟨⟨#[101]⟩, [⟨#[63, 120]⟩, ⟨#[63, 121]⟩]⟩, ⟨⟨#[101]⟩, [⟨#[63, 121]⟩, ⟨#[63, 122]⟩]⟩], Unequal := [] }
theorem exH0 : rheads [exE1, exE2] exR = [exX] := by
  rw [rheads_eq]
  decide +kernel
theorem exH1 : rheads [exE1, exE2, exX] exR = [exX] := by
  rw [rheads_eq]
  decide +kernel
theorem exS : StrA [exE1, exE2, exX] := by
  unfold StrA
  have h1 : atomC exE1 exE2 < 0 := by decide +kernel
  have h2 : atomC exE1 exX < 0 := by decide +kernel
  have h3 : atomC exE2 exX < 0 := by decide +kernel
  simp [h1, h2, h3]
theorem isV_fun : isV = isV' := funext isV_eq
theorem exCk : ckR exR = .nil := by
  unfold ckR vars addV badT
  rw [isV_fun]
  decide +kernel
theorem exF : [exE1, exE2].any badF = false := by
  unfold badF
  rw [isV_fun]
  decide +kernel
theorem exKey : KeyOk exX := by
  refine ⟨?_, by decide⟩
  rw [← bl_len]
  unfold atomKey exX
  rw [bl_fold, bl_append, bl_append, bl_ita]
  have h1 : (⟨#[114]⟩ : ByteArray).size = 1 := rfl
  have h2 : (⟨#[97]⟩ : ByteArray).size = 1 := rfl
  have h3 : (⟨#[99]⟩ : ByteArray).size = 1 := rfl
  simp only [encL, h1, h2, h3, dec_sm (show 1 < 10 by decide), List.flatMap_cons, List.flatMap_nil, List.length_append, List.length_cons, List.length_nil, bl_len]
  decide
theorem exAll (S : GSet) (h : rheads S exR = [exX]) : allH S [exR] = [exX] := by
  unfold allH
  rw [List.flatMap_cons, List.flatMap_nil, h]
  rfl
theorem exSet0 : setA [exE1, exE2] = [exE1, exE2] := by
  refine strA_unique (setA_spec _).1 ?_ (setA_spec _).2.1
  have := exS
  unfold StrA at this ⊢
  exact this.sublist (by simp)
theorem exN0 : nextS [exR] [exE1, exE2] = [exE1, exE2, exX] := by
  refine strA_unique (setA_spec _).1 exS (fun z => ?_)
  rw [mem_next, exAll _ exH0]
  simp [or_assoc]
theorem exN1 : nextS [exR] [exE1, exE2, exX] = [exE1, exE2, exX] := by
  refine strA_unique (setA_spec _).1 exS (fun z => ?_)
  rw [mem_next, exAll _ exH1]
  simp
  exact fun h => .inr (.inr h)
theorem exOk (S : GSet) (h : rheads S exR = [exX]) : RuleOk S exR := ⟨by decide, by decide, by decide, fun a ha => by
  rw [h] at ha
  rw [List.mem_singleton.1 ha]
  exact exKey⟩
theorem exRnd (S : GSet) (h : rheads S exR = [exX]) (hS : ∀ a ∈ S, a.Args.length * 16 ≤ 140737488355328) : RndOk [exR] S :=
  ⟨fun r hr => by rw [List.mem_singleton.1 hr]; exact exOk S h, hS, by rw [exAll S h]; decide⟩
theorem exSolve (g : Nat) (hg : 3000000 < g) : M_datalog_Solve g [exE1, exE2] [exR] = some ([exE1, exE2, exX], .nil) := by
  have h1 := solve_eq g [exE1, exE2] [exR] (fun r hr => by rw [List.mem_singleton.1 hr]; exact ⟨by decide, by decide, by decide⟩) ⟨by decide, by decide⟩ (by decide) (fun r hr => by rw [List.mem_singleton.1 hr]; show 2 < g; omega) hg (by show 2 < g; omega)
    (fun S => S = [exE1, exE2] ∨ S = [exE1, exE2, exX]) (fun _ _ _ => .inl exSet0)
    (fun S hS => by
      rcases hS with e | e
      · rw [e]; exact exRnd _ exH0 (by decide)
      · rw [e]; exact exRnd _ exH1 (by decide))
    (fun S hS _ => by
      rcases hS with e | e
      · rw [e]; exact .inr exN0
      · rw [e]; exact .inr exN1)
  rw [h1]
  unfold solveS
  have h2 : firstE [exR] = .nil := by rw [firstE, exCk]; rfl
  rw [h2]
  show some (if [exE1, exE2].any badF = true then _ else _) = _
  rw [exF, if_neg (by decide), if_neg (by decide), exSet0, if_neg (by decide)]
  obtain ⟨k, rfl⟩ : ∃ k, g = k + 2 := ⟨g - 2, by omega⟩
  rw [runS, exN0, if_neg (by decide), if_neg (by decide), runS, exN1, if_neg (by decide), if_pos rfl]
theorem texts_loop (a b : List ByteArray) : ∀ (k : Nat) (i : Int), M_b_Texts_L1 a b k i = M_s_Equal_string_L1 a b k i
  | 0, _ => rfl
  | k + 1, i => by
    rw [M_b_Texts_L1, M_s_Equal_string_L1]
    congr 1
    congr 1
    funext y
    congr 1
    funext z
    rw [texts_loop a b k]
theorem textsE (a b : List ByteArray) (ha : a.length ≤ 4611686018427387904) (hb : b.length ≤ 4611686018427387904) : M_b_Texts a b = some (decide (a = b)) := by
  rw [← eqS_eq a b ha hb]
  unfold M_b_Texts M_s_Equal_string
  rw [texts_loop]
theorem awake16 (g : Nat) (hg : 3000000 < g) : M_l16_awake g = some true := by
  unfold M_l16_awake
  show ob2 (M_datalog_Solve g [exE1, exE2] [exR]) _ = _
  rw [exSolve g hg, ob2_some]
  have e : ((([exE1, exE2, exX].map cGAtom).length : Int) == 3) = true := by decide
  show sel ((([exE1, exE2, exX].map cGAtom).length : Int) == 3) (ix _ _ _) (some false) = some true
  rw [e]
  show ix [exE1, exE2, exX] 2 _ = _
  rw [show (2 : Int) = ((2 : Nat) : Int) from rfl, ix_at (show [exE1, exE2, exX][2]? = some exX from rfl), beq_bl]
  rw [show decide (exX.Name = (⟨#[114]⟩ : ByteArray)) = true by decide +kernel]
  show ix [exE1, exE2, exX] 2 _ = _
  rw [show (2 : Int) = ((2 : Nat) : Int) from rfl, ix_at (show [exE1, exE2, exX][2]? = some exX from rfl), textsE _ _ (by decide) (by decide), ob1_some]
  decide +kernel
end Go.Proofs.YtflgpccacloadaaDoor.Am
/- Models printed by my decompiler, and the proofs that the code computes them. -/
namespace Go.Proofs.YtflgpccacloadaaDoor.Am
open Go.RowKit
theorem ci_XDLRules {p K : Prop} (k : K) (h : p := by first | rfl | exact ⟨rfl, rfl⟩ | exact BW.mpf rfl rfl rfl FrI.h rfl | exact cloK3 rfl rfl rfl rfl rfl rfl rfl rfl rfl | exact CloK.bw (BW.fr (by assumption)) | exact BW.fr FrV.h | (refine BW.fr ?_; assumption) | (refine ⟨rfl, ?_⟩; (simp [cGRule, cGAtom, cS, cA2_cS, cF, take_len_map]; done)) | (refine RowK.same ?_ FrI.h; first | rfl | (simp [cGRule, cGAtom, cS, cA2_cS, cF, take_len_map]; done)) | (refine row_part1 ?_; (repeat (first | exact BWL.nil | exact bwll_nil | exact bw_c | exact BW.sl | exact BW.nil | exact bwll_same rfl FrI.h | refine BWL.cons ?_ ?_ | refine bwll_cons ?_ ?_ | (refine bw_own3 rfl rfl rfl FrI.h ?_ ?_ ?_) | exact BW.mpf rfl rfl rfl FrI.h rfl | exact cloK3 rfl rfl rfl rfl rfl rfl rfl rfl rfl | exact CloK.bw (BW.fr (by assumption)) | exact BW.fr FrV.h | exact BW.fr (by assumption) | refine bw_agg ?_ | refine bw_clo ?_ | refine bw_ptr rfl rfl rfl ?_ | (refine bw_own rfl rfl rfl ?_ FrI.h ?_ ?_) | assumption | omega | rfl | (rw [List.length_map, ← List.length_append]; assumption) | (refine bwll_same ?_ FrI.h; (simp [cGRule, cGAtom, cS, cA2_cS, cF] <;> fail)) | (rw [List.map_set]; refine bwll_set (by first | rfl | omega | simp) ?_ ?_) | refine bwll_set (by first | rfl | omega | simp) ?_ ?_ | (rw [List.map_replicate]; refine bwll_rep ?_) | refine bwll_rep ?_ | (rw [List.map_append]; refine bwll_append ?_ ?_) | refine bwll_append ?_ ?_ | (simp [cGRule, cGAtom, cS, cA2_cS, cF, take_len_map] <;> fail) | (rw [List.drop_zero, List.take_of_length_le] <;> first | rfl | (simp [cGRule, cGAtom, cS, cA2_cS, cF] <;> fail)) | (simp; omega) | (simp only [List.length_map, List.length_append, List.drop_zero, List.length_cons, List.length_nil, Nat.zero_add, Nat.add_zero] at *; omega))); done) | ((repeat (first | exact BWL.nil | exact bwll_nil | exact bw_c | exact BW.sl | exact BW.nil | exact bwll_same rfl FrI.h | refine BWL.cons ?_ ?_ | refine bwll_cons ?_ ?_ | (refine bw_own3 rfl rfl rfl FrI.h ?_ ?_ ?_) | exact BW.mpf rfl rfl rfl FrI.h rfl | exact cloK3 rfl rfl rfl rfl rfl rfl rfl rfl rfl | exact CloK.bw (BW.fr (by assumption)) | exact BW.fr FrV.h | exact BW.fr (by assumption) | refine bw_agg ?_ | refine bw_clo ?_ | refine bw_ptr rfl rfl rfl ?_ | (refine bw_own rfl rfl rfl ?_ FrI.h ?_ ?_) | assumption | omega | rfl | (rw [List.length_map, ← List.length_append]; assumption) | (refine bwll_same ?_ FrI.h; (simp [cGRule, cGAtom, cS, cA2_cS, cF] <;> fail)) | (rw [List.map_set]; refine bwll_set (by first | rfl | omega | simp) ?_ ?_) | refine bwll_set (by first | rfl | omega | simp) ?_ ?_ | (rw [List.map_replicate]; refine bwll_rep ?_) | refine bwll_rep ?_ | (rw [List.map_append]; refine bwll_append ?_ ?_) | refine bwll_append ?_ ?_ | (simp [cGRule, cGAtom, cS, cA2_cS, cF, take_len_map] <;> fail) | (rw [List.drop_zero, List.take_of_length_le] <;> first | rfl | (simp [cGRule, cGAtom, cS, cA2_cS, cF] <;> fail)) | (simp; omega) | (simp only [List.length_map, List.length_append, List.drop_zero, List.length_cons, List.length_nil, Nat.zero_add, Nat.add_zero] at *; omega))); done) | (simp [cGRule, cGAtom, cS, cA2_cS, cF, take_len_map]; done)) : p ∧ K := ⟨h, k⟩
theorem ca_XDLRules {P : Prop} (h : P := by repeat (first | exact True.intro | refine ci_XDLRules ?_)) : P := h
theorem dr_XDLRules {b : Bool} {p K : Prop} (k : K) (h : b = true → p := by intro h; first | (cases h; done) | exact ⟨by kernel_rfl, by kernel_rfl⟩) : (b = true → p) ∧ K := ⟨h, k⟩
theorem cl_XDLRules {C : Cx} {n : Nat} {o : Oper} {τ : Nat → AV} {η : Nat → Ent} {f : FuncId} {os : Array Operand} {ats : Array TypeId} {r : AV} {args : List AV} {K : Foot → Prop} (ho : o.op = .call ⟨.value (.func f), os, ats⟩) (hc : ACall C f args r) (k : K ⟨r, [], []⟩)
    (hd : InB n o.dst := by exact Nat.le_of_ble_eq_true rfl) (hargs : os.toList.map (evA τ) = args := by first | rfl | (simp [cGRule, cGAtom, cS, cA2_cS, cF]; done) | (repeat (first | exact rfl | refine cons_eq ?_ ?_ | exact sl_dt rfl))) (hfr : frs args := by repeat (first | exact trivial | exact fr1_eA _ | exact fr0_eA _ | exact fr1_fr (by assumption) | exact FrV.h | exact fr0_fr FrV.h | exact fr1_fr FrV.h | refine And.intro ?_ ?_)) (hr : fr1 r := by repeat (first | exact trivial | exact fr1_eA _ | exact fr0_eA _ | exact fr1_fr (by assumption) | exact FrV.h | exact fr0_fr FrV.h | exact fr1_fr FrV.h | refine And.intro ?_ ?_)) : ∃ f : Foot, LF C n o τ η f ∧ K f := ⟨_, lf_call ho hd hargs hc hfr hr, k⟩
def M_l16_DatalogRules (g : Nat) (a0 : GRule) : Option (Bool) :=
  sel (decide (((a0.Body.map cGAtom).length : Int) > 30))
   (ob1 (M_l16_awake g) (fun z7 =>
     some z7))
   (sel (decide (((a0.Unequal.map cA2_cS).length : Int) > 30))
     (ob1 (M_l16_awake g) (fun z6 =>
       some z6))
     (ob1 (M_l16_awake g) (fun z1 =>
       sel (!z1)
        (ob1 (M_l16_awake g) (fun z2 =>
          some z2))
        (ob1 (M_datalog_CheckRule a0) (fun z3 =>
          ob1 (M_b_Num z3) (fun z4 =>
           ob1 (M_r16_CheckRule g a0) (fun z5 =>
            some (z4 == z5))))))))
set_option maxHeartbeats 16000000 in
set_option maxRecDepth 100000 in
theorem A_l16_DatalogRules (g : Nat) (a0 : GRule) {r1 : Bool} (h : M_l16_DatalogRules g a0 = some r1) : ACall cx 3 [.agg [.c (.string a0.Head.Name), .sl 1 (a0.Head.Args.map cS), .sl 2 (a0.Body.map cGAtom), .sl 2 (a0.Unequal.map cA2_cS)]] (.c (.bool r1)) := by
  refine aOf Tryd.func3 rfl (by decide) rfl (Nat.le_of_ble_eq_true rfl) ?_; intro _; unfold M_l16_DatalogRules at h; refine aSR ?_; intro _; refine dr_XDLRules ?_; refine aSq ?_; refine aSR ?_; intro _; refine spf h (fun c1 h => ?_) (fun c1 h => ?_)
  · intro _; refine spf h (fun c2 h => ?_) (fun c2 h => ?_)
    · intro _; obtain ⟨z1, u3, h⟩ := ob1_ok h; refine cl_XDLRules rfl (A_l16_awake g u3) ?_; intro _; refine dr_XDLRules ?_; refine aCd ?_; intro _; refine spl h (fun c4 h => ?_) (fun c4 h => ?_)
      · refine aSR ?_; intro _; obtain ⟨z2, u5, h⟩ := ob1_ok h; refine cl_XDLRules rfl (A_l16_awake g u5) ?_; intro _; refine dr_XDLRules ?_; refine aRt ?_; intro _; obtain rfl := inj1 h; exact ca_XDLRules
      · refine aSk ?_; refine aSR ?_; intro _; obtain ⟨z3, u6, h⟩ := ob1_ok h; refine cl_XDLRules rfl (A_datalog_CheckRule a0 u6) ?_; intro _; obtain ⟨z4, u7, h⟩ := ob1_ok h; refine cl_XDLRules rfl (A_b_Num z3 u7) ?_; intro _; obtain ⟨z5, u8, h⟩ := ob1_ok h; refine cl_XDLRules rfl (A_r16_CheckRule g a0 u8) ?_; intro _; refine dr_XDLRules ?_; refine aRt ?_; intro _; obtain rfl := inj1 h; exact ca_XDLRules
    · intro _; refine dr_XDLRules ?_; refine aCd ?_; intro _; refine litT ?_; refine aSR ?_; intro _; obtain ⟨z6, u9, h⟩ := ob1_ok h; refine cl_XDLRules rfl (A_l16_awake g u9) ?_; intro _; refine dr_XDLRules ?_; refine aRt ?_; intro _; obtain rfl := inj1 h; exact ca_XDLRules
  · intro _; refine dr_XDLRules ?_; refine aCd ?_; intro _; refine litT ?_; refine aSR ?_; intro _; obtain ⟨z7, u10, h⟩ := ob1_ok h; refine cl_XDLRules rfl (A_l16_awake g u10) ?_; intro _; refine dr_XDLRules ?_; refine aRt ?_; intro _; obtain rfl := inj1 h; exact ca_XDLRules
end Go.Proofs.YtflgpccacloadaaDoor.Am
/- Plain law: DatalogRules. -/
namespace Go.Proofs.YtflgpccacloadaaDoor.Am
open Go.RowKit
theorem num_eq (e : Er) : M_b_Num e = some (codeE e) := by cases e <;> rfl
theorem rules_true (r : GRule) (h : CkOk r) : ∃ g, M_l16_DatalogRules g r = some true := by
  refine ⟨4000000 + (r.Body.flatMap (·.Args)).length + r.Body.length + r.Head.Args.length + r.Unequal.length, ?_⟩
  generalize hg : 4000000 + (r.Body.flatMap (·.Args)).length + r.Body.length + r.Head.Args.length + r.Unequal.length = g
  unfold M_l16_DatalogRules
  rw [awake16 g (by omega), check_eq r h, rcheck_eq g r h (by omega) (by omega) (by omega) (by omega) (by omega)]
  simp only [ob1_some, num_eq]
  cases decide (((r.Body.map cGAtom).length : Int) > 30) with
  | true => rfl
  | false =>
    cases decide (((r.Unequal.map cA2_cS).length : Int) > 30) with
    | true => rfl
    | false => simp [sel]
end Go.Proofs.YtflgpccacloadaaDoor.Am
/- Readers of atoms and rules, with a bound on their bulk. -/
namespace Go.Proofs.YtflgpccacloadaaDoor.Am
open Go.RowKit Go.ChangeShapes Go.WideShapes Go.Deep Go.Joins
section
variable {H : Type} {enc : TypeId × Value → H} {w : World} {base : Nat} {spare : Nat → Bool} {held : Bool}
set_option maxRecDepth 100000 in
theorem bStrs : OpensB enc Tryd.prog w base spare held 22 (fun l : List ByteArray => [.sl 1 (l.map cS)]) (fun l => l.length * 16 ≤ 140737488355328 ∧ ∀ s ∈ l, s.size ≤ 140737488355328) (fun l => (l.map (fun s : ByteArray => s.size + 1)).sum + 1) :=
  opensB_slice Tryd.underlying22 (by kernel_rfl) (by kernel_rfl) (by decide) (by decide) (opensB_str Tryd.underlying9)
set_option maxRecDepth 100000 in
theorem bPair : OpensB enc Tryd.prog w base spare held 58 cA2_cS (fun _ => True) (fun p => p.1.size + p.2.size + 2) := by
  intro fuel cs x hx hsz
  obtain ⟨xs, m, _, rfl, hcl, hxl, hf⟩ := DataW.trod_array Tryd.underlying58 hx
  have hc : Tryd.prog.cellsOf 58 = 2 := by kernel_rfl
  have hi : Tryd.prog.cellsOf 9 = 1 := by kernel_rfl
  rw [hc] at hcl
  match cs, hcl, xs, hxl, hf with
  | [c0, c1], _, [x0, x1], _, hf =>
    have h0 := hf 0 (by decide)
    have h1 := hf 1 (by decide)
    rw [hi] at h0 h1
    obtain ⟨z0, e0, q0, _⟩ := DataW.trod_string Tryd.underlying9 h0
    obtain ⟨z1, e1, q1, _⟩ := DataW.trod_string Tryd.underlying9 h1
    have e0' : c0 = .string z0 := by simpa using e0
    have e1' : c1 = .string z1 := by simpa using e1
    subst e0' e1'
    refine ⟨(z0, z1), trivial, ?_, cells_append (cells_one1 (.c _) rfl (.c _)) (cells_one1 (.c _) rfl (.c _))⟩
    rw [q0, q1]
    have k0 : z0.data.toList.length = z0.size := by rw [Array.length_toList]; rfl
    have k1 : z1.data.toList.length = z1.size := by rw [Array.length_toList]; rfl
    simp only [List.map_cons, List.map_nil, Rows.uptoBulk, Rows.uptoBulkAll, k0, k1]
    omega
/-- how much an atom, a rule weigh -/
def wA (a : GAtom) : Nat := (a.Name.size + 1) + ((a.Args.map (fun s : ByteArray => s.size + 1)).sum + 1)
def wAs (l : List GAtom) : Nat := (l.map wA).sum + 1
def wUn (l : List (ByteArray × ByteArray)) : Nat := (l.map (fun p => p.1.size + p.2.size + 2)).sum + 1
def wR (r : GRule) : Nat := wA r.Head + (wAs r.Body + wUn r.Unequal)
set_option maxRecDepth 100000 in
theorem bAtom : OpensB enc Tryd.prog w base spare held 24 cGAtom (fun a => a.Args.length * 16 ≤ 140737488355328) wA :=
  opensB_conv (fun p : ByteArray × List ByteArray => { Name := p.1, Args := p.2 : GAtom })
    (opensB_struct Tryd.underlying24
      (opensFB_cons (off' := 1) (en := fun s : ByteArray => [AV.c (.string s)]) (R := fun s => s.size ≤ 140737488355328) (wt := fun s => s.size + 1) (en' := fun l : List ByteArray => [AV.sl 1 (l.map cS)]) (R' := fun l : List ByteArray => l.length * 16 ≤ 140737488355328 ∧ ∀ s ∈ l, s.size ≤ 140737488355328) (wt' := fun l : List ByteArray => (l.map (fun s : ByteArray => s.size + 1)).sum + 1) rfl (by kernel_rfl) (opensB_str Tryd.underlying9) (opensFB_last rfl (by kernel_rfl) bStrs)))
    (fun _ => rfl) (fun _ h => h.2.1) (fun _ => Nat.le_refl _)
set_option maxRecDepth 100000 in
theorem bAtoms : OpensB enc Tryd.prog w base spare held 25 (fun l : List GAtom => [.sl 2 (l.map cGAtom)]) (fun l => l.length * 40 ≤ 140737488355328 ∧ ∀ a ∈ l, a.Args.length * 16 ≤ 140737488355328) wAs :=
  opensB_slice (sz := 2) (by_ := 40) Tryd.underlying25 (by kernel_rfl) (by kernel_rfl) (by decide) (by decide) bAtom
set_option maxRecDepth 100000 in
theorem bUn : OpensB enc Tryd.prog w base spare held 26 (fun l : List (ByteArray × ByteArray) => [.sl 2 (l.map cA2_cS)]) (fun _ => True) wUn :=
  opensB_conv id (opensB_slice (sz := 2) (by_ := 32) Tryd.underlying26 (by kernel_rfl) (by kernel_rfl) (by decide) (by decide) bPair) (fun _ => rfl) (fun _ _ => trivial) (fun _ => Nat.le_refl _)
set_option maxRecDepth 100000 in
theorem bRule : OpensB enc Tryd.prog w base spare held 28 cGRule (fun _ => True) wR :=
  opensB_conv (fun p : GAtom × (List GAtom × List (ByteArray × ByteArray)) => { Head := p.1, Body := p.2.1, Unequal := p.2.2 : GRule })
    (opensB_struct Tryd.underlying28
      (opensFB_cons (off' := 2) (en := cGAtom) (R := fun a => a.Args.length * 16 ≤ 140737488355328) (wt := wA) (en' := fun p : List GAtom × List (ByteArray × ByteArray) => [AV.sl 2 (p.1.map cGAtom)] ++ [AV.sl 2 (p.2.map cA2_cS)]) (R' := fun p => (p.1.length * 40 ≤ 140737488355328 ∧ ∀ a ∈ p.1, a.Args.length * 16 ≤ 140737488355328) ∧ True) (wt' := fun p => wAs p.1 + wUn p.2) rfl (by kernel_rfl) bAtom
        (opensFB_cons (off' := 3) (en := fun l : List GAtom => [AV.sl 2 (l.map cGAtom)]) (R := fun l => l.length * 40 ≤ 140737488355328 ∧ ∀ a ∈ l, a.Args.length * 16 ≤ 140737488355328) (wt := wAs) (en' := fun l : List (ByteArray × ByteArray) => [AV.sl 2 (l.map cA2_cS)]) (R' := fun _ => True) (wt' := wUn) rfl (by kernel_rfl) bAtoms (opensFB_last rfl (by kernel_rfl) bUn))))
    (fun _ => rfl) (fun _ _ => trivial) (fun _ => Nat.le_refl _)
/-- a struct argument -/
theorem arg_structB {P : Program} {t : TypeId} {fs : Array Field} {α : Type} {en : α → List AV} {R : α → Prop} {wt : α → Nat} {r : Reach} {b0 : Nat} {v : Value} {d : DataW H} {p : List MemPlace} (ht : P.underlying t = some (.struct fs)) (hv : Value.okWide P w r b0 t v) (ho : OpensB enc P w base spare held t en R wt) (h : DataW.Trod enc P w base spare held t v d p) (hs : Sized P t d) :
    ∃ a, R a ∧ wt a ≤ Rows.uptoBulk d ∧ RV w nov mZ (.agg (en a)) v := by
  obtain ⟨cs, rfl, hsz⟩ := okWide_struct ht hv
  obtain ⟨fuel, hf⟩ := h
  obtain ⟨a, ha, hw, hc⟩ := ho fuel _ _ hf hs
  exact ⟨a, ha, hw, agg_rv hc⟩
end
theorem wA_args (a : GAtom) : a.Args.length ≤ wA a := by
  unfold wA
  have : ∀ l : List ByteArray, l.length ≤ (l.map (fun s : ByteArray => s.size + 1)).sum := by
    intro l
    induction l with
    | nil => simp
    | cons x r ih => simp only [List.map_cons, List.sum_cons, List.length_cons]; omega
  have := this a.Args
  omega
theorem wAs_args : ∀ l : List GAtom, (l.flatMap (·.Args)).length + l.length ≤ wAs l
  | [] => by simp [wAs]
  | a :: r => by
    have h1 := wAs_args r
    have h2 : a.Args.length + 1 ≤ wA a := by
      have : ∀ l : List ByteArray, l.length ≤ (l.map (fun s : ByteArray => s.size + 1)).sum := by
        intro l
        induction l with
        | nil => simp
        | cons x r ih => simp only [List.map_cons, List.sum_cons, List.length_cons]; omega
      have := this a.Args
      unfold wA
      omega
    unfold wAs at h1 ⊢
    simp only [List.flatMap_cons, List.length_append, List.map_cons, List.sum_cons, List.length_cons]
    omega
theorem wUn_len : ∀ l : List (ByteArray × ByteArray), l.length * 2 ≤ wUn l
  | [] => by simp [wUn]
  | p :: r => by
    have h1 := wUn_len r
    unfold wUn at h1 ⊢
    simp only [List.map_cons, List.sum_cons, List.length_cons]
    omega
theorem ckOk_of (r : GRule) (h : wR r ≤ 1048576) : CkOk r := by
  unfold wR at h
  have h1 := wA_args r.Head
  have h2 := wAs_args r.Body
  have h3 := wUn_len r.Unequal
  exact ⟨by omega, by omega, by omega⟩
end Go.Proofs.YtflgpccacloadaaDoor.Am
/- What the listed package-level variables hold, as cells, for the witness. -/
namespace Go.Proofs.YtflgpccacloadaaDoor
open Go.ChangeShapes Go.WideShapes Go.ChangeAt Go.RowKit
theorem own : ownKnob Tryd.prog.godebug = none := by kernel_rfl
theorem laidOut : laidOutB Tryd.prog = true := by kernel_rfl
def tab32 : Array Value := #[.int .u8 0, .int .u8 1, .int .u8 28, .int .u8 2, .int .u8 29, .int .u8 14, .int .u8 24, .int .u8 3, .int .u8 30, .int .u8 22, .int .u8 20, .int .u8 15, .int .u8 25, .int .u8 17, .int .u8 4, .int .u8 8, .int .u8 31, .int .u8 27, .int .u8 13, .int .u8 23, .int .u8 21, .int .u8 19, .int .u8 16, .int .u8 7, .int .u8 26, .int .u8 12, .int .u8 18, .int .u8 6, .int .u8 11, .int .u8 5, .int .u8 10, .int .u8 9]
def tab64 : Array Value := #[.int .u8 0, .int .u8 1, .int .u8 56, .int .u8 2, .int .u8 57, .int .u8 49, .int .u8 28, .int .u8 3, .int .u8 61, .int .u8 58, .int .u8 42, .int .u8 50, .int .u8 38, .int .u8 29, .int .u8 17, .int .u8 4, .int .u8 62, .int .u8 47, .int .u8 59, .int .u8 36, .int .u8 45, .int .u8 43, .int .u8 51, .int .u8 22, .int .u8 53, .int .u8 39, .int .u8 33, .int .u8 30, .int .u8 24, .int .u8 18, .int .u8 12, .int .u8 5, .int .u8 63, .int .u8 55, .int .u8 48, .int .u8 27, .int .u8 60, .int .u8 41, .int .u8 37, .int .u8 16, .int .u8 46, .int .u8 35, .int .u8 44, .int .u8 21, .int .u8 52, .int .u8 32, .int .u8 23, .int .u8 11, .int .u8 54, .int .u8 26, .int .u8 40, .int .u8 15, .int .u8 34, .int .u8 20, .int .u8 31, .int .u8 10, .int .u8 25, .int .u8 14, .int .u8 19, .int .u8 9, .int .u8 13, .int .u8 8, .int .u8 7, .int .u8 6]
def tabPow : Array Value := #[.int .u64 1, .int .u64 10, .int .u64 100, .int .u64 1000, .int .u64 10000, .int .u64 100000, .int .u64 1000000, .int .u64 10000000, .int .u64 100000000, .int .u64 1000000000, .int .u64 10000000000, .int .u64 100000000000, .int .u64 1000000000000, .int .u64 10000000000000, .int .u64 100000000000000, .int .u64 1000000000000000, .int .u64 10000000000000000, .int .u64 100000000000000000, .int .u64 1000000000000000000, .int .u64 10000000000000000000]

def putCells (cs : Array Value) : Obj → Obj
  | .cells _ t frozen => .cells cs t frozen
  | o => o
/-- A world for the witnesses: the settled one, the tables holding what their initialisers lay. -/
noncomputable def laidWorld (os : Os) : World :=
  { World.holding Tryd.prog os ⟨#[], #[], []⟩ with heap := (((World.holding Tryd.prog os ⟨#[], #[], []⟩).heap.modify 0 (putCells tabPow)).modify 1 (putCells tab32)).modify 2 (putCells tab64) }
end Go.Proofs.YtflgpccacloadaaDoor
/- stratagemlaw16.DatalogRules returns true for every input of bulk at most 1048576. No condition beyond the card's own. -/
namespace Go.Proofs.YtflgpccacloadaaDoor.rowRules
open Go.ChangeShapes Go.WideShapes Go.ChangeAt Go.RowKit Am

theorem table {W : World} (h : laidMetH Tryd.prog Rows.datalogRulesUptoRow.laid W) : TabOk W := by
  obtain ⟨ps, ⟨_, _, _, _, _, _, _, _, _, _, ⟨_, _, _, _, _, _, _, _, _, _, hr, _⟩, _⟩, _⟩ := h
  obtain ⟨g', t', cs, fuel, p, q, hg', ht', hvar, hd, _, _⟩ := hr
  obtain rfl := Option.some.inj (gPow.symm.trans hg')
  obtain rfl := Option.some.inj ((show (Tryd.prog.globals[0]?).map (·.type) = some 152 by kernel_rfl).symm.trans ht')
  unfold TabOk Lib.TabIs
  rw [hvar, ← Lib.cells_of_tab (zs := Lib.pow10Tab) Tryd.underlying152 Tryd.underlying134 (by kernel_rfl) (by kernel_rfl) hd]
set_option maxRecDepth 100000 in
theorem contract (H : Type) (enc : TypeId × Value → H) (W : World) (base : Nat) (args : Array Value) (ds gs : List (DataW H)) (before : List MemPlace)
    (hval : ∀ (j : Nat) t v, Tryd.f3.params[j]? = some t → args[j]? = some v → Value.okWide Tryd.prog W .any base t v)
    (hW : DataW.Whole enc Tryd.prog Tryd.f3.params.toList Rows.datalogRulesSpec.vars false W args.toList ds gs before) (hL : laidMetH Tryd.prog Rows.datalogRulesUptoRow.laid W)
    (hsz : (DataW.weightsEach Tryd.prog (Tryd.f3.params.toList ++ (OpenSpec.ofChange Rows.datalogRulesSpec).bare.plain.varTypes Tryd.prog) (ds ++ gs)).all (· ≤ reachBytes) = true) (hsh : W.ShapedOpen Tryd.prog) (hk : Rows.uptoSmall H (ds ++ gs) = true) :
    Calls Tryd.prog 3 args W fun e W' => ∃ v, e = .returned v ∧ Rows.datalogRulesSpec.post enc Tryd.prog Tryd.f3 false true false false W args v W' := by
  have hW' := hW
  obtain ⟨p, q, hA0, hV, rfl, hfz, hnd⟩ := hW
  have hA : DataW.TrodAll enc Tryd.prog W 0 (fun _ => true) true Tryd.f3.params.toList args.toList ds p := hA0
  rw [Tryd.params3] at hA hval
  obtain ⟨v0, vs0, d0, ds0, p0, q0, hargs, rfl, rfl, h0, r0⟩ := trodAll_cons hA
  obtain ⟨rfl, rfl, rfl⟩ := trodAll_nil r0
  obtain rfl : args = #[v0] := Array.ext' hargs
  obtain ⟨rfl, rfl⟩ := trodVars_none hV
  simp only [List.append_nil] at hW' hA0 hsz hk
  rw [Tryd.params3] at hsz
  obtain ⟨r, _, hb, k0⟩ := arg_structB Tryd.underlying28 (hval 0 28 v0 rfl rfl) bRule h0 (sized_arg hsz (j := 0) rfl rfl)
  have hl : wR r ≤ 1048576 := by
    have h1 := of_decide_eq_true hk
    simp only [Rows.uptoBulkAll] at h1
    omega
  obtain ⟨g, hg⟩ := rules_true r (ckOk_of r hl)
  refine (law_of (A_l16_DatalogRules g r hg) ⟨table hL, trivial⟩ rfl (fun j x v hx hv => ?_)).mono fun e W' ⟨he, hb⟩ => ?_
  · match j, hx, hv with
    | 0, hx, hv => simp at hx hv; subst hx hv; exact k0
    | j + 1, hx, hv => simp at hx
  · subst he
    exact ⟨_, rfl, law_post laidOut rfl (by kernel_rfl) Tryd.underlying4 (by kernel_rfl) hW' hA0 rfl rfl rfl hb⟩
theorem laid_met (os : Os) : laidMet Tryd.prog Rows.datalogRulesUptoRow.laid ((laidWorld os).forCall (fun _ _ => 0) ⟨#[], #[.agg #[.string ⟨#[]⟩, .slice none 0 0, .slice none 0 0, .slice none 0 0]], []⟩).memory :=
  laidMet_of_run' 8 (by kernel_rfl) (by kernel_rfl)
theorem reads (os : Os) {H : Type} (enc : TypeId × Value → H) : ∃ places, DataW.whole enc Tryd.prog ((laidWorld os).forCall (fun _ _ => 0) ⟨#[], #[.agg #[.string ⟨#[]⟩, .slice none 0 0, .slice none 0 0, .slice none 0 0]], []⟩).memory Tryd.f3.params.toList Rows.datalogRulesSpec.vars false (#[.agg #[.string ⟨#[]⟩, .slice none 0 0, .slice none 0 0, .slice none 0 0]] : Array Value).toList 8 = some ([.agg [.agg [.lit (.string []), .nil], .nil, .nil]], [], places) :=
  ⟨[], by kernel_rfl⟩

set_option maxRecDepth 100000 in
theorem lifted (os : Os) (started : os.Started) (H : Type) (enc : TypeId × Value → H) (F : Stop.Interp) :
    ReturnsInHanded {} Tryd.checked os 3 .any ((Rows.OpenSpec.upto Rows.datalogRulesSpec).preRow enc Tryd.prog Tryd.f3 Rows.datalogRulesUptoRow.domain false Rows.datalogRulesUptoRow.laid) (((Rows.OpenSpec.upto Rows.datalogRulesSpec).at F).post enc Tryd.prog Tryd.f3 false true false false) := by
  obtain ⟨places, hx⟩ := reads os enc
  refine returnsInHanded_of_row (C := Tryd.checked) (s := Rows.OpenSpec.upto Rows.datalogRulesSpec) own started (by kernel_rfl) Tryd.func3
    (witness_row_at (enc := enc) (C := Tryd.checked) false (laidWorld os) #[.agg #[.string ⟨#[]⟩, .slice none 0 0, .slice none 0 0, .slice none 0 0]] rfl (by kernel_rfl) (by kernel_rfl) (by kernel_rfl)
      (OpenSpec.preRow_of_cond 8 hx (by kernel_rfl) (fun k hk => by cases hk; kernel_rfl) (by kernel_rfl) (laid_met os))) ?_
  intro W base args ds gs before hval hW _ hcond hsz hL hsh _
  exact contract H enc W base args ds gs before hval hW hL hsz hsh (hcond _ rfl)

theorem said : Rows.DatalogRulesUptoSaid :=
  OpenClaim.holds_of_cond 3 Tryd.f3 rfl rfl rfl rfl rfl rfl rfl ⟨rfl, rfl, rfl, rfl, rfl⟩ rfl rfl rfl rfl rfl (by kernel_rfl) Tryd.func3 (by kernel_rfl)
    (of_decide_eq_true (by kernel_rfl)) (by unfold Func.isWrapper; first | (rw [if_pos (by decide +kernel)]; kernel_rfl) | (rw [if_neg (by decide +kernel)]; exact ⟨rfl, rfl⟩))
    (fun os started H enc _ F => by rw [OpenClaim.pre_eq_preRow]; exact lifted os started H enc F)

theorem plain (f : FuncId) (fn : Func) (hf : Tryd.pinned.checked.prog.funcNamed Rows.datalogRulesUptoRow.func = some f) (hfn : Tryd.pinned.checked.prog.funcs[f]? = some fn) :
    true = Tryd.pinned.checked.prog.looks [] ∧ ∀ (j : Nat) t, fn.params[j]? = some t → Tryd.pinned.checked.prog.wantsStandIn t = false := by
  obtain rfl : f = 3 := Option.some.inj ((show Tryd.prog.funcNamed Rows.datalogRulesUptoRow.func = some 3 by kernel_rfl).symm.trans hf) |>.symm
  obtain rfl : fn = Tryd.f3 := (Option.some.inj (Tryd.func3.symm.trans hfn)).symm
  refine ⟨by kernel_rfl, fun j t ht => ?_⟩
  have hall : Tryd.f3.params.toList.all (fun t => !Tryd.prog.wantsStandIn t) = true := by kernel_rfl
  have := List.all_eq_true.1 hall t (by simpa using Array.mem_of_getElem? ht)
  have h2 : Tryd.prog.wantsStandIn t = false := by simpa using this
  exact h2

/-- THE CARD: stratagemlaw16's statement holds. -/
theorem card : Rows.DatalogRulesUptoCardSaid :=
  Claim7.holds_tied_plain_at .later [] _ _ _ _ said (fun _ h => by cases h) (by kernel_rfl) (fun _ h => by cases h) datalogRulesUpto_row_tie rfl ⟨rfl, rfl⟩ (by kernel_rfl) rfl plain (by kernel_rfl)
end Go.Proofs.YtflgpccacloadaaDoor.rowRules
