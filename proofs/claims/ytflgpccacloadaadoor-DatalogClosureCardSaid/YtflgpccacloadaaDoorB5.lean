/- stratagemlaw16.DatalogClosure returns true for every input. No condition beyond the card's own. -/
import Derived.Test.YtflgpccacloadaaDoorB2
import Derived.Test.YtflgpccacloadaaDoorB4
import Derived.Test.YtflgpccacloadaaDoorB3
import Derived.Laws.Append
import Derived.Laws.BytesArg
import Derived.Test.YtflgpccacloadaaDoorCards
import Derived.Test.YtflgpccacloadaaDoorTie
import Derived.Test.YtflgpccacloadaaDoorB1
import Derived.WalkKit
import Derived.ProofKit
import Derived.OpenShut
import Derived.Deep.DeepHandedRow
import Derived.Lib.LaidTab
import Derived.Lib.ItoaNum
set_option linter.unusedVariables false
set_option linter.unusedSectionVars false
set_option linter.unusedSimpArgs false
/- Models printed by my decompiler, and the proofs that the code computes them. -/
namespace Go.Proofs.YtflgpccacloadaaDoor.Am
set_option maxHeartbeats 16000000
set_option maxRecDepth 100000
open Go.RowKit
theorem zg_XDCk {P : Prop} (h : P := by repeat (first | exact True.intro | exact gb_nil rfl rfl | exact gb_take rfl ⟨rfl, rfl, rfl⟩ List.map_take FrI.h | exact gb_take rfl ⟨rfl, rfl, rfl⟩ (takeC (by omega)) FrI.h | exact gb_take rfl ⟨rfl, rfl, rfl⟩ (takeC0 (by omega)) FrI.h |  refine gb_some ⟨rfl, rfl, rfl⟩ ?_ | refine And.intro ?_ ?_ | refine gw_ren rfl rfl rfl rfl rfl ?_ | exact gw_oren rfl rfl rfl rfl rfl | exact gw_opren rfl rfl rfl rfl rfl | exact gw_onil rfl rfl | exact gw_mren rfl rfl rfl rfl | refine gw_pren rfl rfl rfl rfl rfl | exact gw_thaw rfl rfl rfl | refine gw_tup ?_ | refine gw_ifc ?_ | exact GWL.nil | exact gwll_nil | exact gw_c | exact GW.sl | exact GW.nil | exact gwll_same rfl FrI.h | refine GWL.cons ?_ ?_ | refine gwll_cons ?_ ?_ | (refine gw_own3 rfl rfl rfl FrI.h ?_ ?_ ?_) | exact GW.mpf rfl rfl rfl FrI.h rfl | refine CloK.bw ?_ | exact GW.fr FrV.h | exact GW.fr (by assumption) | refine gw_agg ?_ | refine gw_clo ?_ | refine gw_ptr rfl rfl rfl ?_ | (refine gw_own rfl rfl rfl ?_ FrI.h ?_ ?_) | assumption | omega | rfl | (rw [List.length_map, ← List.length_append]; assumption) | (refine gwll_same ?_ FrI.h; (simp [cGRule, cGAtom, cS, cA2_cS, cF] <;> fail)) | (rw [List.map_set]; refine gwll_set (by first | rfl | omega | simp) ?_ ?_) | refine gwll_set (by first | rfl | omega | simp) ?_ ?_ | (rw [List.map_replicate]; refine gwll_rep ?_) | refine gwll_rep ?_ | (rw [List.map_append]; refine gwll_append ?_ ?_) | refine gwll_append ?_ ?_ | (simp [cGRule, cGAtom, cS, cA2_cS, cF, take_len_map] <;> fail) | (rw [List.drop_zero, List.take_of_length_le] <;> first | rfl | (simp [cGRule, cGAtom, cS, cA2_cS, cF] <;> fail)) | (simp; omega) | (simp only [List.length_map, List.length_append, List.drop_zero, List.length_cons, List.length_nil, Nat.zero_add, Nat.add_zero] at *; omega))) : P := h
theorem ci_XDCk {p K : Prop} (k : K) (h : p := by first | rfl | exact ⟨rfl, rfl⟩ | exact BW.mpf rfl rfl rfl FrI.h rfl | exact cloK3 rfl rfl rfl rfl rfl rfl rfl rfl rfl | exact CloK.bw (BW.fr (by assumption)) | exact BW.fr FrV.h | (refine BW.fr ?_; assumption) | (refine ⟨rfl, ?_⟩; (simp [cGRule, cGAtom, cS, cA2_cS, cF, take_len_map]; done)) | (refine RowK.same ?_ FrI.h; first | rfl | (simp [cGRule, cGAtom, cS, cA2_cS, cF, take_len_map]; done)) | (refine row_part1 ?_; (repeat (first | exact BWL.nil | exact bwll_nil | exact bw_c | exact BW.sl | exact BW.nil | exact bwll_same rfl FrI.h | refine BWL.cons ?_ ?_ | refine bwll_cons ?_ ?_ | (refine bw_own3 rfl rfl rfl FrI.h ?_ ?_ ?_) | exact BW.mpf rfl rfl rfl FrI.h rfl | exact cloK3 rfl rfl rfl rfl rfl rfl rfl rfl rfl | exact CloK.bw (BW.fr (by assumption)) | exact BW.fr FrV.h | exact BW.fr (by assumption) | refine bw_agg ?_ | refine bw_clo ?_ | refine bw_ptr rfl rfl rfl ?_ | (refine bw_own rfl rfl rfl ?_ FrI.h ?_ ?_) | assumption | omega | rfl | (rw [List.length_map, ← List.length_append]; assumption) | (refine bwll_same ?_ FrI.h; (simp [cGRule, cGAtom, cS, cA2_cS, cF] <;> fail)) | (rw [List.map_set]; refine bwll_set (by first | rfl | omega | simp) ?_ ?_) | refine bwll_set (by first | rfl | omega | simp) ?_ ?_ | (rw [List.map_replicate]; refine bwll_rep ?_) | refine bwll_rep ?_ | (rw [List.map_append]; refine bwll_append ?_ ?_) | refine bwll_append ?_ ?_ | (simp [cGRule, cGAtom, cS, cA2_cS, cF, take_len_map] <;> fail) | (rw [List.drop_zero, List.take_of_length_le] <;> first | rfl | (simp [cGRule, cGAtom, cS, cA2_cS, cF] <;> fail)) | (simp; omega) | (simp only [List.length_map, List.length_append, List.drop_zero, List.length_cons, List.length_nil, Nat.zero_add, Nat.add_zero] at *; omega))); done) | ((repeat (first | exact BWL.nil | exact bwll_nil | exact bw_c | exact BW.sl | exact BW.nil | exact bwll_same rfl FrI.h | refine BWL.cons ?_ ?_ | refine bwll_cons ?_ ?_ | (refine bw_own3 rfl rfl rfl FrI.h ?_ ?_ ?_) | exact BW.mpf rfl rfl rfl FrI.h rfl | exact cloK3 rfl rfl rfl rfl rfl rfl rfl rfl rfl | exact CloK.bw (BW.fr (by assumption)) | exact BW.fr FrV.h | exact BW.fr (by assumption) | refine bw_agg ?_ | refine bw_clo ?_ | refine bw_ptr rfl rfl rfl ?_ | (refine bw_own rfl rfl rfl ?_ FrI.h ?_ ?_) | assumption | omega | rfl | (rw [List.length_map, ← List.length_append]; assumption) | (refine bwll_same ?_ FrI.h; (simp [cGRule, cGAtom, cS, cA2_cS, cF] <;> fail)) | (rw [List.map_set]; refine bwll_set (by first | rfl | omega | simp) ?_ ?_) | refine bwll_set (by first | rfl | omega | simp) ?_ ?_ | (rw [List.map_replicate]; refine bwll_rep ?_) | refine bwll_rep ?_ | (rw [List.map_append]; refine bwll_append ?_ ?_) | refine bwll_append ?_ ?_ | (simp [cGRule, cGAtom, cS, cA2_cS, cF, take_len_map] <;> fail) | (rw [List.drop_zero, List.take_of_length_le] <;> first | rfl | (simp [cGRule, cGAtom, cS, cA2_cS, cF] <;> fail)) | (simp; omega) | (simp only [List.length_map, List.length_append, List.drop_zero, List.length_cons, List.length_nil, Nat.zero_add, Nat.add_zero] at *; omega))); done) | (simp [cGRule, cGAtom, cS, cA2_cS, cF, take_len_map]; done)) : p ∧ K := ⟨h, k⟩
theorem ca_XDCk {P : Prop} (h : P := by repeat (first | exact True.intro | refine ci_XDCk ?_)) : P := h
theorem pr_XDCk {p K : Prop} (k : K) (h : p := by first | assumption | exact Int.natCast_nonneg _ | exact Nat.le_refl _ | exact Nat.zero_le _ | omega | (simp; done) | (simp; omega)) : p ∧ K := ⟨h, k⟩
theorem pl_XDCk {p K : Prop} (k : K) (h : p := by first | rfl | exact List.length_map _ | (simp; done) | (simp; omega)) : p ∧ K := ⟨h, k⟩
theorem pe_XDCk {p K : Prop} (k : K) (h : p := by first | omega | (simp; omega) | (simp only [List.length_map, List.length_cons, List.length_nil, List.length_append]; omega) | (simp only [List.length_map, List.drop_zero, List.length_cons, List.length_nil, Nat.zero_add, Nat.add_zero] at *; omega)) : p ∧ K := ⟨h, k⟩
theorem dr_XDCk {b : Bool} {p K : Prop} (k : K) (h : b = true → p := by intro h; first | (cases h; done) | exact ⟨by kernel_rfl, by kernel_rfl⟩) : (b = true → p) ∧ K := ⟨h, k⟩
theorem cl_XDCk {C : Cx} {n : Nat} {o : Oper} {τ : Nat → AV} {η : Nat → Ent} {f : FuncId} {os : Array Operand} {ats : Array TypeId} {r : AV} {args : List AV} {K : Foot → Prop} (ho : o.op = .call ⟨.value (.func f), os, ats⟩) (hc : ACall C f args r) (k : K ⟨r, [], []⟩)
    (hd : InB n o.dst := by exact Nat.le_of_ble_eq_true rfl) (hargs : os.toList.map (evA τ) = args := by first | rfl | (simp [cGRule, cGAtom, cS, cA2_cS, cF]; done) | (repeat (first | exact rfl | refine cons_eq ?_ ?_ | exact sl_dt rfl))) (hfr : frs args := by repeat (first | exact trivial | exact fr1_eA _ | exact fr0_eA _ | exact fr1_fr (by assumption) | exact FrV.h | exact fr1_fr FrV.h | refine And.intro ?_ ?_)) (hr : fr1 r := by repeat (first | exact trivial | exact fr1_eA _ | exact fr0_eA _ | exact fr1_fr (by assumption) | exact FrV.h | exact fr1_fr FrV.h | refine And.intro ?_ ?_)) : ∃ f : Foot, LF C n o τ η f ∧ K f := ⟨_, lf_call ho hd hargs hc hfr hr, k⟩
theorem clc_XDCk {C : Cx} {n : Nat} {o : Oper} {τ : Nat → AV} {η : Nat → Ent} {c : Operand} {os : Array Operand} {ats : Array TypeId} {r F : AV} {xs : List AV} {K : Foot → Prop} (ho : o.op = .call ⟨.value c, os, ats⟩) (hc : CCl C F xs r) (hfF : Fr F) (k : K ⟨r, [], []⟩)
    (hd : InB n o.dst := by exact Nat.le_of_ble_eq_true rfl) (hF : evA τ c = F := by rfl) (hargs : os.toList.map (evA τ) = xs := by first | rfl | (simp [cGRule, cGAtom, cS, cA2_cS, cF]; done) | (repeat (first | exact rfl | refine cons_eq ?_ ?_ | exact sl_dt rfl))) (hfr : frs xs := by repeat (first | exact trivial | exact fr1_eA _ | exact fr0_eA _ | exact fr1_fr (by assumption) | exact FrV.h | exact fr1_fr FrV.h | refine And.intro ?_ ?_)) (hr : fr1 r := by repeat (first | exact trivial | exact fr1_eA _ | exact fr0_eA _ | exact fr1_fr (by assumption) | exact FrV.h | exact fr1_fr FrV.h | refine And.intro ?_ ?_)) : ∃ f : Foot, LF C n o τ η f ∧ K f := ⟨_, lf_clo ho hd hF hargs hc hfF hfr hr, k⟩
theorem clb_XDCk {C : Cx} {n : Nat} {o : Oper} {τ : Nat → AV} {η : Nat → Ent} {f : FuncId} {os : Array Operand} {ats : Array TypeId} {r : AV} {xs ys : List AV} {K : Foot → Prop} (bs : List Nat) (ho : o.op = .call ⟨.value (.func f), os, ats⟩) (hargs : os.toList.map (evA τ) = xs) (hc : ACall C f ys r) (k : K ⟨r, [], bs⟩)
    (hd : InB n o.dst := by exact Nat.le_of_ble_eq_true rfl) (hb : BWL η (dropB η bs) xs ys := by repeat (first | exact BWL.nil | exact bwll_nil | exact bw_c | exact BW.sl | exact BW.nil | exact bwll_same rfl FrI.h | refine BWL.cons ?_ ?_ | refine bwll_cons ?_ ?_ | (refine bw_own3 rfl rfl rfl FrI.h ?_ ?_ ?_) | exact BW.mpf rfl rfl rfl FrI.h rfl | refine CloK.bw ?_ | exact BW.fr FrV.h | exact BW.fr (by assumption) | refine bw_agg ?_ | refine bw_clo ?_ | refine bw_ptr rfl rfl rfl ?_ | (refine bw_own rfl rfl rfl ?_ FrI.h ?_ ?_) | assumption | omega | rfl | (rw [List.length_map, ← List.length_append]; assumption) | (refine bwll_same ?_ FrI.h; (simp [cGRule, cGAtom, cS, cA2_cS, cF] <;> fail)) | (rw [List.map_set]; refine bwll_set (by first | rfl | omega | simp) ?_ ?_) | refine bwll_set (by first | rfl | omega | simp) ?_ ?_ | (rw [List.map_replicate]; refine bwll_rep ?_) | refine bwll_rep ?_ | (rw [List.map_append]; refine bwll_append ?_ ?_) | refine bwll_append ?_ ?_ | (simp [cGRule, cGAtom, cS, cA2_cS, cF, take_len_map] <;> fail) | (rw [List.drop_zero, List.take_of_length_le] <;> first | rfl | (simp [cGRule, cGAtom, cS, cA2_cS, cF] <;> fail)) | (simp; omega) | (simp only [List.length_map, List.length_append, List.drop_zero, List.length_cons, List.length_nil, Nat.zero_add, Nat.add_zero] at *; omega))) (hr : scal r := by repeat (first | exact trivial | exact scal0_eA _ | exact scal_eA _ | refine And.intro ?_ ?_)) : ∃ f : Foot, LF C n o τ η f ∧ K f := ⟨_, lf_callB bs ho hd hargs hb hc hr, k⟩
theorem clg_XDCk {C : Cx} {n : Nat} {o : Oper} {τ : Nat → AV} {η : Nat → Ent} {f : FuncId} {os : Array Operand} {ats : Array TypeId} {r : AV} {xs ys : List AV} {bs bs' : List (Nat × Blk)} {ks : List Nat} {K : Foot → Prop} (ρ : List (Nat × Nat)) (fz : List Nat) (go nb : List (Nat × Ent)) (r' : AV) (ho : o.op = .call ⟨.value (.func f), os, ats⟩) (hargs : os.toList.map (evA τ) = xs)
    (hc : ACallG C f ys bs ks r bs') (k : K ⟨r', go ++ nb, []⟩) (hd : InB n o.dst := by exact Nat.le_of_ble_eq_true rfl) (hok : okC ρ fz bs ks bs' (idsE go) = true := by rfl) (hgo : allUs η go := by repeat (first | exact trivial | refine And.intro rfl ?_)) (hgl : ltUs n go := by repeat (first | exact trivial | refine And.intro (Nat.le_of_ble_eq_true rfl) ?_))
    (hw : GWL η (fE bs) (lk ρ) (fun i => inB fz i = true) (fun i => inB (keys bs) i = true) xs ys := by exact zg_XDCk) (hb : GBL η (fE bs) (lk ρ) (fun i => inB fz i = true) (fun i => inB (keys bs) i = true) bs := by exact zg_XDCk)
    (hr : GW (fE bs') (updAll η (go ++ nb)) (lk (backN ρ bs')) (fun _ => False) (fun i => inB (idsE nb) i = true) r r' := by exact zg_XDCk)
    (hnb : nbOk n η (updAll η (go ++ nb)) ρ ks (fE bs') (lk (backN ρ bs')) (fun i => inB (idsE nb) i = true) bs' nb := by repeat (first | exact True.intro | rfl | exact Nat.le_of_ble_eq_true rfl | exact gb_nil rfl rfl | exact gb_take rfl ⟨rfl, rfl, rfl⟩ List.map_take FrI.h | exact gb_take rfl ⟨rfl, rfl, rfl⟩ (takeC (by omega)) FrI.h | exact gb_take rfl ⟨rfl, rfl, rfl⟩ (takeC0 (by omega)) FrI.h |  refine gb_some ⟨rfl, rfl, rfl⟩ ?_ | refine And.intro ?_ ?_ | refine gw_ren rfl rfl rfl rfl rfl ?_ | exact gw_oren rfl rfl rfl rfl rfl | exact gw_opren rfl rfl rfl rfl rfl | exact gw_onil rfl rfl | exact gw_mren rfl rfl rfl rfl | refine gw_pren rfl rfl rfl rfl rfl | exact gw_thaw rfl rfl rfl | refine gw_tup ?_ | refine gw_ifc ?_ | exact GWL.nil | exact gwll_nil | exact gw_c | exact GW.sl | exact GW.nil | exact gwll_same rfl FrI.h | refine GWL.cons ?_ ?_ | refine gwll_cons ?_ ?_ | (refine gw_own3 rfl rfl rfl FrI.h ?_ ?_ ?_) | exact GW.mpf rfl rfl rfl FrI.h rfl | refine CloK.bw ?_ | exact GW.fr FrV.h | exact GW.fr (by assumption) | refine gw_agg ?_ | refine gw_clo ?_ | refine gw_ptr rfl rfl rfl ?_ | (refine gw_own rfl rfl rfl ?_ FrI.h ?_ ?_) | assumption | omega | rfl | (rw [List.length_map, ← List.length_append]; assumption) | (refine gwll_same ?_ FrI.h; (simp [cGRule, cGAtom, cS, cA2_cS, cF] <;> fail)) | (rw [List.map_set]; refine gwll_set (by first | rfl | omega | simp) ?_ ?_) | refine gwll_set (by first | rfl | omega | simp) ?_ ?_ | (rw [List.map_replicate]; refine gwll_rep ?_) | refine gwll_rep ?_ | (rw [List.map_append]; refine gwll_append ?_ ?_) | refine gwll_append ?_ ?_ | (simp [cGRule, cGAtom, cS, cA2_cS, cF, take_len_map] <;> fail) | (rw [List.drop_zero, List.take_of_length_le] <;> first | rfl | (simp [cGRule, cGAtom, cS, cA2_cS, cF] <;> fail)) | (simp; omega) | (simp only [List.length_map, List.length_append, List.drop_zero, List.length_cons, List.length_nil, Nat.zero_add, Nat.add_zero] at *; omega))) : ∃ f : Foot, LF C n o τ η f ∧ K f := ⟨_, lf_callG ρ fz go nb ho hd hargs hc hok hgo hgl hw hb hr hnb, k⟩
def M_s_Index_string_L1 (a0 : List ByteArray) (a1 : ByteArray) : Nat → Int → Option (Int)
  | 0, _ => none
  | k5 + 1, v4 =>
    sel (decide (v4 < ((a0.map cS).length : Int)))
     (ix a0 v4 (fun y6 =>
       sel (a1.toList == y6.toList)
        (some v4)
        (M_s_Index_string_L1 a0 a1 k5 (IntKind.i64.wrap (v4 + 1)))))
     (some (-1))
def M_s_Index_string (a0 : List ByteArray) (a1 : ByteArray) : Option (Int) :=
  M_s_Index_string_L1 a0 a1 ((((a0.map cS).length : Int)).toNat + 1) 0
theorem A_s_Index_string (a0 : List ByteArray) (a1 : ByteArray) {r1 : Int} (h : M_s_Index_string a0 a1 = some r1) : ACall cx 57 [.sl 1 (a0.map cS), .c (.string a1)] (.c (.int .i64 r1)) := by
  refine aOf Tryd.func57 rfl (by decide) rfl (Nat.le_of_ble_eq_true rfl) ?_; intro _; unfold M_s_Index_string at h; refine aSR ?_; intro _; refine dr_XDCk ?_; refine aSq ?_; refine aSR ?_; intro _; refine dr_XDCk ?_; refine aBk ?_; refine awp_loop (α := Nat × Int) (fun x => mkS 19 [(0, .sl 1 (a0.map cS)), (1, .c (.string a1)), (7, .c (.int .i64 ((a0.map cS).length : Int))), (8, .c (.int .i64 x.2))] []) (fun x => M_s_Index_string_L1 a0 a1 x.1 x.2 = some r1) (fun x => x.1) ((((a0.map cS).length : Int)).toNat + 1, 0) h ?_ ?_
  · exact ca_XDCk
  · intro x1 h; intro _; obtain ⟨k5, m2, h⟩ := succ_of (f := fun n => M_s_Index_string_L1 a0 a1 n x1.2) rfl h; replace h : M_s_Index_string_L1 a0 a1 (k5 + 1) x1.2 = some r1 := h; rw [M_s_Index_string_L1] at h; refine aSR ?_; intro _; refine dr_XDCk ?_; refine aSq ?_; refine aCd ?_; intro _; refine spl h (fun c3 h => ?_) (fun c3 h => ?_)
    · refine aSk ?_; refine aSq ?_; refine aBk ?_; refine aSR ?_; intro _; refine dr_XDCk ?_; refine aSR ?_; intro _; obtain ⟨y6, w4, q5, h⟩ := ix_ok h; refine Exists.intro (cS y6) (And.intro (map_at' w4) ?_); intro _; refine pr_XDCk ?_; refine dr_XDCk ?_; refine aCd ?_; intro _; refine spl h (fun c6 h => ?_) (fun c6 h => ?_)
      · refine aSR ?_; intro _; refine dr_XDCk ?_; refine aRt ?_; intro _; obtain rfl := inj1 h; exact ca_XDCk
      · refine aSk ?_; refine aRg ?_; intro _; refine dr_XDCk ?_; refine ⟨(k5, (IntKind.i64.wrap (x1.2 + 1))), h, ltS m2, ?_⟩; exact ca_XDCk
    · refine aEx ?_; refine aSR ?_; intro _; refine dr_XDCk ?_; refine aRt ?_; intro _; obtain rfl := inj1 h; exact ca_XDCk
def M_s_Contains_string (a0 : List ByteArray) (a1 : ByteArray) : Option (Bool) :=
  ob1 (M_s_Index_string a0 a1) (fun z1 =>
   some (decide (z1 ≥ 0)))
theorem A_s_Contains_string (a0 : List ByteArray) (a1 : ByteArray) {r1 : Bool} (h : M_s_Contains_string a0 a1 = some r1) : ACall cx 38 [.sl 1 (a0.map cS), .c (.string a1)] (.c (.bool r1)) := by
  refine aOf Tryd.func38 rfl (by decide) rfl (Nat.le_of_ble_eq_true rfl) ?_; intro _; unfold M_s_Contains_string at h; refine aSR ?_; intro _; refine dr_XDCk ?_; refine aSR ?_; intro _; obtain ⟨z1, u1, h⟩ := ob1_ok h; refine cl_XDCk rfl (A_s_Index_string a0 a1 u1) ?_; intro _; refine dr_XDCk ?_; refine aRt ?_; intro _; obtain rfl := inj1 h; exact ca_XDCk
def M_datalog_Variables_L1 (y87 : GAtom) : Nat → Int → (List ByteArray) → Option (List ByteArray)
  | 0, _, _ => none
  | k98 + 1, v96, v97 =>
    sel (decide (v96 < ((y87.Args.map cS).length : Int)))
     (ix y87.Args v96 (fun y99 =>
       ob1 (M_datalog_variable y99) (fun z100 =>
        sel z100
         (grd (v97.length ≤ 140737488355328) (ob1 (M_s_Contains_string v97 y99) (fun z101 =>
           sel (!z101)
            (grd ((v97.length + 1) * 16 ≤ 140737488355328) (M_datalog_Variables_L1 y87 k98 (IntKind.i64.wrap (v96 + 1)) (v97 ++ [y99])))
            (M_datalog_Variables_L1 y87 k98 (IntKind.i64.wrap (v96 + 1)) v97))))
         (M_datalog_Variables_L1 y87 k98 (IntKind.i64.wrap (v96 + 1)) v97))))
     (some v97)
def M_datalog_Variables_L2 (a0 : List GAtom) : Nat → Int → (List ByteArray) → Option (List ByteArray)
  | 0, _, _ => none
  | k69 + 1, v67, v68 =>
    sel (decide (v67 < ((a0.map cGAtom).length : Int)))
     (ob1 (ix a0 v67 (fun y87 =>
        M_datalog_Variables_L1 y87 ((((y87.Args.map cS).length : Int)).toNat + 1) 0 v68) : Option (List ByteArray))
       (fun v85 => M_datalog_Variables_L2 a0 k69 (IntKind.i64.wrap (v67 + 1)) v85))
     (grd (v68.length ≤ 140737488355328) (some v68))
def M_datalog_Variables (a0 : List GAtom) : Option (List ByteArray) :=
  M_datalog_Variables_L2 a0 ((((a0.map cGAtom).length : Int)).toNat + 1) 0 []
theorem A_datalog_Variables (a0 : List GAtom) {r1 : List ByteArray} (h : M_datalog_Variables a0 = some r1) : ACall cx 33 [.sl 2 (a0.map cGAtom)] (.sl 1 (r1.map cS)) := by
  refine aOf Tryd.func33 rfl (by decide) rfl (Nat.le_of_ble_eq_true rfl) ?_; intro _; unfold M_datalog_Variables at h; refine aSR ?_; intro _; refine dr_XDCk ?_; refine aSR ?_; intro _; refine dr_XDCk ?_; refine aSq ?_; refine aSR ?_; intro _; refine dr_XDCk ?_; refine aBk ?_; refine awp_loop (α := Nat × Int × (List ByteArray)) (fun x => mkS 36 [(3, .own 32 0 0 x.2.2.length), (8, .sl 2 (a0.map cGAtom)), (9, .c (.int .i64 ((a0.map cGAtom).length : Int))), (10, .c (.int .i64 x.2.1))] [(32, ⟨9, 1, false, x.2.2.map cS⟩)]) (fun x => M_datalog_Variables_L2 a0 x.1 x.2.1 x.2.2 = some r1) (fun x => x.1) ((((a0.map cGAtom).length : Int)).toNat + 1, 0, []) h ?_ ?_
  · exact ca_XDCk
  · intro x1 h; intro _; obtain ⟨k69, m2, h⟩ := succ_of (f := fun n => M_datalog_Variables_L2 a0 n x1.2.1 x1.2.2) rfl h; replace h : M_datalog_Variables_L2 a0 (k69 + 1) x1.2.1 x1.2.2 = some r1 := h; rw [M_datalog_Variables_L2] at h; refine aSR ?_; intro _; refine dr_XDCk ?_; refine aSq ?_; refine aCd ?_; intro _; refine spl h (fun c3 h => ?_) (fun c3 h => ?_)
    · refine aSk ?_; obtain ⟨o4, h, hK5⟩ := ob1_ok h; refine awp_cut (α := List ByteArray) (fun v85 => mkS 36 [(3, .own 32 0 0 v85.length), (8, .sl 2 (a0.map cGAtom)), (9, .c (.int .i64 ((a0.map cGAtom).length : Int))), (10, .c (.int .i64 x1.2.1))] [(32, ⟨9, 1, false, v85.map cS⟩)]) (fun v => o4 = v) ?_ ?_
      · refine aBk ?_; refine aSR ?_; intro _; obtain ⟨y87, w6, q7, h⟩ := ix_ok h; refine Exists.intro (cGAtom y87) (And.intro (map_at' w6) ?_); intro _; refine pr_XDCk ?_; refine dr_XDCk ?_; refine aSR ?_; intro _; refine dr_XDCk ?_; refine aBk ?_; refine awp_loop (α := Nat × Int × (List ByteArray)) (fun x => mkS 36 [(3, .own 32 0 0 x.2.2.length), (8, .sl 2 (a0.map cGAtom)), (9, .c (.int .i64 ((a0.map cGAtom).length : Int))), (10, .c (.int .i64 x1.2.1)), (15, .sl 1 (y87.Args.map cS)), (16, .c (.int .i64 ((y87.Args.map cS).length : Int))), (17, .c (.int .i64 x.2.1))] [(32, ⟨9, 1, false, x.2.2.map cS⟩)]) (fun x => M_datalog_Variables_L1 y87 x.1 x.2.1 x.2.2 = some o4) (fun x => x.1) ((((y87.Args.map cS).length : Int)).toNat + 1, 0, x1.2.2) h ?_ ?_
        · exact ca_XDCk
        · intro x8 h; intro _; obtain ⟨k98, m9, h⟩ := succ_of (f := fun n => M_datalog_Variables_L1 y87 n x8.2.1 x8.2.2) rfl h; replace h : M_datalog_Variables_L1 y87 (k98 + 1) x8.2.1 x8.2.2 = some o4 := h; rw [M_datalog_Variables_L1] at h; refine aSR ?_; intro _; refine dr_XDCk ?_; refine aSq ?_; refine aCd ?_; intro _; refine spl h (fun c10 h => ?_) (fun c10 h => ?_)
          · refine aSk ?_; refine aSq ?_; refine aBk ?_; refine aSR ?_; intro _; obtain ⟨y99, w11, q12, h⟩ := ix_ok h; refine Exists.intro (cS y99) (And.intro (map_at' w11) ?_); intro _; refine pr_XDCk ?_; refine dr_XDCk ?_; refine aSR ?_; intro _; obtain ⟨z100, u13, h⟩ := ob1_ok h; refine cl_XDCk rfl (A_datalog_variable y99 u13) ?_; intro _; refine spl h (fun c14 h => ?_) (fun c14 h => ?_)
            · intro _; obtain ⟨q15, h⟩ := grd_ok h; obtain ⟨z101, u16, h⟩ := ob1_ok h; refine clb_XDCk [32] rfl rfl (A_s_Contains_string x8.2.2 y99 u16) ?_; intro _; refine dr_XDCk ?_; refine aCd ?_; intro _; refine spl h (fun c17 h => ?_) (fun c17 h => ?_)
              · refine aRg ?_; intro _; obtain ⟨q18, h⟩ := grd_ok h; refine pl_XDCk ?_; refine pl_XDCk ?_; refine And.intro (by first | with_reducible assumption | (show (x8.2.2.length + 1) * 16 ≤ 140737488355328; with_reducible assumption) | omega | (simp; omega)) ?_; refine pe_XDCk ?_; refine dr_XDCk ?_; refine aRg ?_; intro _; refine dr_XDCk ?_; refine ⟨(k98, (IntKind.i64.wrap (x8.2.1 + 1)), (x8.2.2 ++ [y99])), h, ltS m9, ?_⟩; exact ca_XDCk
              · refine aSk ?_; refine aRg ?_; intro _; refine dr_XDCk ?_; refine ⟨(k98, (IntKind.i64.wrap (x8.2.1 + 1)), x8.2.2), h, ltS m9, ?_⟩; exact ca_XDCk
            · intro _; refine dr_XDCk ?_; refine aCd ?_; intro _; refine litF ?_; refine aSk ?_; refine aRg ?_; intro _; refine dr_XDCk ?_; refine ⟨(k98, (IntKind.i64.wrap (x8.2.1 + 1)), x8.2.2), h, ltS m9, ?_⟩; exact ca_XDCk
          · refine aEx ?_; refine ⟨x8.2.2, (Option.some.inj h).symm, ?_⟩; exact ca_XDCk
      · rintro v85 ho; have ho := ho.symm; subst ho; intro _; replace h := hK5; refine aRg ?_; intro _; refine dr_XDCk ?_; refine ⟨(k69, (IntKind.i64.wrap (x1.2.1 + 1)), v85), h, ltS m2, ?_⟩; exact ca_XDCk
    · refine aEx ?_; refine aSR ?_; intro _; refine dr_XDCk ?_; refine aRt ?_; obtain ⟨q19, h⟩ := grd_ok h; intro _; obtain rfl := inj1 h; exact ca_XDCk
def M_s_IndexFunc_string_L1 (a0 : List ByteArray) (a1 : ByteArray → Option Bool) : Nat → Int → Option (Int)
  | 0, _ => none
  | k7 + 1, v6 =>
    sel (decide (v6 < ((a0.map cS).length : Int)))
     (ix a0 v6 (fun y8 =>
       ob1 (a1 y8) (fun z9 =>
        sel z9
         (some v6)
         (M_s_IndexFunc_string_L1 a0 a1 k7 (IntKind.i64.wrap (v6 + 1))))))
     (some (-1))
def M_s_IndexFunc_string (a0 : List ByteArray) (a1 : ByteArray → Option Bool) : Option (Int) :=
  M_s_IndexFunc_string_L1 a0 a1 ((((a0.map cS).length : Int)).toNat + 1) 0
theorem A_s_IndexFunc_string (a0 : List ByteArray) (a1 : ByteArray → Option Bool) (Fa1 : AV) (hFa1 : Fr Fa1) (ea1 : ∃ f fs cap, Fa1 = .clo (.func f) fs cap) (ha1 : ∀ (x0 : ByteArray) (y0 : Bool), a1 x0 = some y0 → CCl cx Fa1 [.c (.string x0)] (.c (.bool y0))) {r1 : Int} (h : M_s_IndexFunc_string a0 a1 = some r1) : ACall cx 55 [.sl 1 (a0.map cS), Fa1] (.c (.int .i64 r1)) := by
  obtain ⟨fa1, sa1, qa1, rfl⟩ := ea1; refine aOf Tryd.func55 rfl (by decide) rfl (Nat.le_of_ble_eq_true rfl) ?_; intro _; unfold M_s_IndexFunc_string at h; refine aSR ?_; intro _; refine dr_XDCk ?_; refine aSq ?_; refine aSR ?_; intro _; refine dr_XDCk ?_; refine aBk ?_; refine awp_loop (α := Nat × Int) (fun x => mkS 19 [(0, .sl 1 (a0.map cS)), (1, .clo (.func fa1) sa1 qa1), (7, .c (.int .i64 ((a0.map cS).length : Int))), (8, .c (.int .i64 x.2))] []) (fun x => M_s_IndexFunc_string_L1 a0 a1 x.1 x.2 = some r1) (fun x => x.1) ((((a0.map cS).length : Int)).toNat + 1, 0) h ?_ ?_
  · exact ca_XDCk
  · intro x1 h; intro _; obtain ⟨k7, m2, h⟩ := succ_of (f := fun n => M_s_IndexFunc_string_L1 a0 a1 n x1.2) rfl h; replace h : M_s_IndexFunc_string_L1 a0 a1 (k7 + 1) x1.2 = some r1 := h; rw [M_s_IndexFunc_string_L1] at h; refine aSR ?_; intro _; refine dr_XDCk ?_; refine aSq ?_; refine aCd ?_; intro _; refine spl h (fun c3 h => ?_) (fun c3 h => ?_)
    · refine aSk ?_; refine aSq ?_; refine aBk ?_; refine aSR ?_; intro _; refine dr_XDCk ?_; refine aSR ?_; intro _; obtain ⟨y8, w4, q5, h⟩ := ix_ok h; refine Exists.intro (cS y8) (And.intro (map_at' w4) ?_); intro _; obtain ⟨z9, u6, h⟩ := ob1_ok h; refine clc_XDCk rfl (ha1 _ _ u6) hFa1 ?_; intro _; refine pr_XDCk ?_; refine dr_XDCk ?_; refine aCd ?_; intro _; refine spl h (fun c7 h => ?_) (fun c7 h => ?_)
      · refine aSR ?_; intro _; refine dr_XDCk ?_; refine aRt ?_; intro _; obtain rfl := inj1 h; exact ca_XDCk
      · refine aSk ?_; refine aRg ?_; intro _; refine dr_XDCk ?_; refine ⟨(k7, (IntKind.i64.wrap (x1.2 + 1))), h, ltS m2, ?_⟩; exact ca_XDCk
    · refine aEx ?_; refine aSR ?_; intro _; refine dr_XDCk ?_; refine aRt ?_; intro _; obtain rfl := inj1 h; exact ca_XDCk
def M_s_ContainsFunc_string (a0 : List ByteArray) (a1 : ByteArray → Option Bool) : Option (Bool) :=
  ob1 (M_s_IndexFunc_string a0 a1) (fun z1 =>
   some (decide (z1 ≥ 0)))
theorem A_s_ContainsFunc_string (a0 : List ByteArray) (a1 : ByteArray → Option Bool) (Fa1 : AV) (hFa1 : Fr Fa1) (ea1 : ∃ f fs cap, Fa1 = .clo (.func f) fs cap) (ha1 : ∀ (x0 : ByteArray) (y0 : Bool), a1 x0 = some y0 → CCl cx Fa1 [.c (.string x0)] (.c (.bool y0))) {r1 : Bool} (h : M_s_ContainsFunc_string a0 a1 = some r1) : ACall cx 35 [.sl 1 (a0.map cS), Fa1] (.c (.bool r1)) := by
  obtain ⟨fa1, sa1, qa1, rfl⟩ := ea1; refine aOf Tryd.func35 rfl (by decide) rfl (Nat.le_of_ble_eq_true rfl) ?_; intro _; unfold M_s_ContainsFunc_string at h; refine aSR ?_; intro _; refine dr_XDCk ?_; refine aSR ?_; intro _; obtain ⟨z1, u1, h⟩ := ob1_ok h; refine cl_XDCk rfl (A_s_IndexFunc_string a0 a1 (.clo (.func fa1) sa1 qa1) hFa1 ⟨_, _, _, rfl⟩ ha1 u1) ?_; intro _; refine dr_XDCk ?_; refine aRt ?_; intro _; obtain rfl := inj1 h; exact ca_XDCk
def M_datalog_CheckRule_1 (b0 : List ByteArray) (a0 : ByteArray) : Option (Bool) :=
  ob1 (M_datalog_variable a0) (fun z1 =>
   sel z1
    (ob1 (M_s_Contains_string b0 a0) (fun z2 =>
      some (!z2)))
    (some false))
theorem A_datalog_CheckRule_1 (b0 : List ByteArray) (a0 : ByteArray) {r1 : Bool} (h : M_datalog_CheckRule_1 b0 a0 = some r1) : ACall cx 36 [.c (.string a0), .pim [.sl 1 (b0.map cS)] 0] (.c (.bool r1)) := by
  refine aOf Tryd.func36 rfl (by decide) rfl (Nat.le_of_ble_eq_true rfl) ?_; intro _; unfold M_datalog_CheckRule_1 at h; refine aSR ?_; intro _; refine dr_XDCk ?_; refine aSR ?_; intro _; obtain ⟨z1, u1, h⟩ := ob1_ok h; refine cl_XDCk rfl (A_datalog_variable a0 u1) ?_; intro _; refine spl h (fun c2 h => ?_) (fun c2 h => ?_)
  · intro _; obtain ⟨z2, u3, h⟩ := ob1_ok h; refine cl_XDCk rfl (A_s_Contains_string b0 a0 u3) ?_; intro _; refine dr_XDCk ?_; refine aRt ?_; intro _; obtain rfl := inj1 h; exact ca_XDCk
  · intro _; refine dr_XDCk ?_; refine aRt ?_; intro _; obtain rfl := inj1 h; exact ca_XDCk
def M_s_IndexFunc_Atom_L1 (a0 : List GAtom) (a1 : GAtom → Option Bool) : Nat → Int → Option (Int)
  | 0, _ => none
  | k7 + 1, v6 =>
    sel (decide (v6 < ((a0.map cGAtom).length : Int)))
     (ix a0 v6 (fun y8 =>
       ob1 (a1 y8) (fun z9 =>
        sel z9
         (some v6)
         (M_s_IndexFunc_Atom_L1 a0 a1 k7 (IntKind.i64.wrap (v6 + 1))))))
     (some (-1))
def M_s_IndexFunc_Atom (a0 : List GAtom) (a1 : GAtom → Option Bool) : Option (Int) :=
  M_s_IndexFunc_Atom_L1 a0 a1 ((((a0.map cGAtom).length : Int)).toNat + 1) 0
theorem A_s_IndexFunc_Atom (a0 : List GAtom) (a1 : GAtom → Option Bool) (Fa1 : AV) (hFa1 : Fr Fa1) (ea1 : ∃ f fs cap, Fa1 = .clo (.func f) fs cap) (ha1 : ∀ (x0 : GAtom) (y0 : Bool), a1 x0 = some y0 → CCl cx Fa1 [.agg [.c (.string x0.Name), .sl 1 (x0.Args.map cS)]] (.c (.bool y0))) {r1 : Int} (h : M_s_IndexFunc_Atom a0 a1 = some r1) : ACall cx 58 [.sl 2 (a0.map cGAtom), Fa1] (.c (.int .i64 r1)) := by
  obtain ⟨fa1, sa1, qa1, rfl⟩ := ea1; refine aOf Tryd.func58 rfl (by decide) rfl (Nat.le_of_ble_eq_true rfl) ?_; intro _; unfold M_s_IndexFunc_Atom at h; refine aSR ?_; intro _; refine dr_XDCk ?_; refine aSq ?_; refine aSR ?_; intro _; refine dr_XDCk ?_; refine aBk ?_; refine awp_loop (α := Nat × Int) (fun x => mkS 19 [(0, .sl 2 (a0.map cGAtom)), (1, .clo (.func fa1) sa1 qa1), (7, .c (.int .i64 ((a0.map cGAtom).length : Int))), (8, .c (.int .i64 x.2))] []) (fun x => M_s_IndexFunc_Atom_L1 a0 a1 x.1 x.2 = some r1) (fun x => x.1) ((((a0.map cGAtom).length : Int)).toNat + 1, 0) h ?_ ?_
  · exact ca_XDCk
  · intro x1 h; intro _; obtain ⟨k7, m2, h⟩ := succ_of (f := fun n => M_s_IndexFunc_Atom_L1 a0 a1 n x1.2) rfl h; replace h : M_s_IndexFunc_Atom_L1 a0 a1 (k7 + 1) x1.2 = some r1 := h; rw [M_s_IndexFunc_Atom_L1] at h; refine aSR ?_; intro _; refine dr_XDCk ?_; refine aSq ?_; refine aCd ?_; intro _; refine spl h (fun c3 h => ?_) (fun c3 h => ?_)
    · refine aSk ?_; refine aSq ?_; refine aBk ?_; refine aSR ?_; intro _; refine dr_XDCk ?_; refine aSR ?_; intro _; obtain ⟨y8, w4, q5, h⟩ := ix_ok h; refine Exists.intro (cGAtom y8) (And.intro (map_at' w4) ?_); intro _; obtain ⟨z9, u6, h⟩ := ob1_ok h; refine clc_XDCk rfl (ha1 _ _ u6) hFa1 ?_; intro _; refine pr_XDCk ?_; refine dr_XDCk ?_; refine aCd ?_; intro _; refine spl h (fun c7 h => ?_) (fun c7 h => ?_)
      · refine aSR ?_; intro _; refine dr_XDCk ?_; refine aRt ?_; intro _; obtain rfl := inj1 h; exact ca_XDCk
      · refine aSk ?_; refine aRg ?_; intro _; refine dr_XDCk ?_; refine ⟨(k7, (IntKind.i64.wrap (x1.2 + 1))), h, ltS m2, ?_⟩; exact ca_XDCk
    · refine aEx ?_; refine aSR ?_; intro _; refine dr_XDCk ?_; refine aRt ?_; intro _; obtain rfl := inj1 h; exact ca_XDCk
def M_s_ContainsFunc_Atom (a0 : List GAtom) (a1 : GAtom → Option Bool) : Option (Bool) :=
  ob1 (M_s_IndexFunc_Atom a0 a1) (fun z1 =>
   some (decide (z1 ≥ 0)))
theorem A_s_ContainsFunc_Atom (a0 : List GAtom) (a1 : GAtom → Option Bool) (Fa1 : AV) (hFa1 : Fr Fa1) (ea1 : ∃ f fs cap, Fa1 = .clo (.func f) fs cap) (ha1 : ∀ (x0 : GAtom) (y0 : Bool), a1 x0 = some y0 → CCl cx Fa1 [.agg [.c (.string x0.Name), .sl 1 (x0.Args.map cS)]] (.c (.bool y0))) {r1 : Bool} (h : M_s_ContainsFunc_Atom a0 a1 = some r1) : ACall cx 39 [.sl 2 (a0.map cGAtom), Fa1] (.c (.bool r1)) := by
  obtain ⟨fa1, sa1, qa1, rfl⟩ := ea1; refine aOf Tryd.func39 rfl (by decide) rfl (Nat.le_of_ble_eq_true rfl) ?_; intro _; unfold M_s_ContainsFunc_Atom at h; refine aSR ?_; intro _; refine dr_XDCk ?_; refine aSR ?_; intro _; obtain ⟨z1, u1, h⟩ := ob1_ok h; refine cl_XDCk rfl (A_s_IndexFunc_Atom a0 a1 (.clo (.func fa1) sa1 qa1) hFa1 ⟨_, _, _, rfl⟩ ha1 u1) ?_; intro _; refine dr_XDCk ?_; refine aRt ?_; intro _; obtain rfl := inj1 h; exact ca_XDCk
def M_datalog_CheckRule_2 (a0 : GAtom) : Option (Bool) :=
  some (decide (((a0.Args.map cS).length : Int) > 6))
theorem A_datalog_CheckRule_2 (a0 : GAtom) {r1 : Bool} (h : M_datalog_CheckRule_2 a0 = some r1) : ACall cx 40 [.agg [.c (.string a0.Name), .sl 1 (a0.Args.map cS)]] (.c (.bool r1)) := by
  refine aOf Tryd.func40 rfl (by decide) rfl (Nat.le_of_ble_eq_true rfl) ?_; intro _; unfold M_datalog_CheckRule_2 at h; refine aSR ?_; intro _; refine dr_XDCk ?_; refine aSR ?_; intro _; refine dr_XDCk ?_; refine aRt ?_; intro _; obtain rfl := inj1 h; exact ca_XDCk
def M_datalog_CheckRule_3 (a0 : GAtom) : Option (Bool) :=
  some (a0.Name.toList == (⟨#[]⟩ : ByteArray).toList)
theorem A_datalog_CheckRule_3 (a0 : GAtom) {r1 : Bool} (h : M_datalog_CheckRule_3 a0 = some r1) : ACall cx 41 [.agg [.c (.string a0.Name), .sl 1 (a0.Args.map cS)]] (.c (.bool r1)) := by
  refine aOf Tryd.func41 rfl (by decide) rfl (Nat.le_of_ble_eq_true rfl) ?_; intro _; unfold M_datalog_CheckRule_3 at h; refine aSR ?_; intro _; refine dr_XDCk ?_; refine aSR ?_; intro _; refine dr_XDCk ?_; refine aRt ?_; intro _; obtain rfl := inj1 h; exact ca_XDCk
def M_datalog_CheckRule_L1 (a0 : GRule) : Nat → Int → (List ByteArray) → Option (List ByteArray)
  | 0, _, _ => none
  | k19 + 1, v17, v18 =>
    sel (decide (v17 < ((a0.Unequal.map cA2_cS).length : Int)))
     (ix a0.Unequal v17 (fun y20 =>
       grd ((v18.length + 2) * 16 ≤ 140737488355328) (M_datalog_CheckRule_L1 a0 k19 (IntKind.i64.wrap (v17 + 1)) (v18 ++ [y20.1, y20.2]))))
     (some v18)
def M_datalog_CheckRule (a0 : GRule) : Option (Er) :=
  ob1 (M_datalog_Variables a0.Body) (fun z1 =>
   ob1 (M_cloneSo a0.Head.Args) (fun z2 =>
    ob1 (M_datalog_CheckRule_L1 a0 ((((a0.Unequal.map cA2_cS).length : Int)).toNat + 1) 0 z2 : Option (List ByteArray))
     (fun v11 => grd (v11.length ≤ 140737488355328) (ob1 (M_s_ContainsFunc_string v11 (M_datalog_CheckRule_1 z1)) (fun z21 =>
        sel z21
         (some (Er.no 2))
         (grd ((1 + a0.Body.length) * 40 ≤ 140737488355328) (ob1 (sel (decide (((a0.Body.map cGAtom).length : Int) > 16))
            (some (.inr (Er.no 5)))
            (grd (([a0.Head] ++ a0.Body).length ≤ 140737488355328) (ob1 (M_s_ContainsFunc_Atom ([a0.Head] ++ a0.Body) M_datalog_CheckRule_2) (fun z25 =>
              sel z25
               (some (.inr (Er.no 5)))
               (some (.inl ()))))) : Option (Unit ⊕ Er))
           (osum
           (fun _ => grd (([a0.Head] ++ a0.Body).length ≤ 140737488355328) (ob1 (M_s_ContainsFunc_Atom ([a0.Head] ++ a0.Body) M_datalog_CheckRule_3) (fun z26 =>
              sel z26
               (some (Er.no 8))
               (some Er.nil))))
           (fun r23 => some r23)))))))))
theorem A_datalog_CheckRule (a0 : GRule) {r1 : Er} (h : M_datalog_CheckRule a0 = some r1) : ACall cx 13 [.agg [.c (.string a0.Head.Name), .sl 1 (a0.Head.Args.map cS), .sl 2 (a0.Body.map cGAtom), .sl 2 (a0.Unequal.map cA2_cS)]] (eA r1) := by
  refine aOf Tryd.func13 rfl (by decide) rfl (Nat.le_of_ble_eq_true rfl) ?_; intro _; unfold M_datalog_CheckRule at h; refine aSR ?_; intro _; refine dr_XDCk ?_; refine aSR ?_; intro _; obtain ⟨z1, u1, h⟩ := ob1_ok h; refine cl_XDCk rfl (A_datalog_Variables a0.Body u1) ?_; intro _; refine dr_XDCk ?_; refine aSR ?_; intro _; obtain ⟨z2, u2, h⟩ := ob1_ok h; refine clg_XDCk [(0, 14)] [] [] [(14, ⟨2, some ⟨9, 1, false, z2.map cS⟩⟩)] (.own 14 2 0 z2.length) rfl rfl (A_cloneSo a0.Head.Args u2) ?_; intro _; refine dr_XDCk ?_; obtain ⟨o3, h, hK4⟩ := ob1_ok h; refine awp_cut (α := List ByteArray) (fun v11 => mkS 52 [(1, .ptr 1 0 0 0), (3, .ptr 3 0 0 0), (4, .own 14 0 0 v11.length)] [(1, ⟨28, 4, true, [[.c (.string a0.Head.Name), .sl 1 (a0.Head.Args.map cS), .sl 2 (a0.Body.map cGAtom), .sl 2 (a0.Unequal.map cA2_cS)]]⟩), (3, ⟨22, 1, true, [[.sl 1 (z1.map cS)]]⟩), (14, ⟨9, 1, false, v11.map cS⟩)]) (fun v => o3 = v) ?_ ?_
  · refine aSR ?_; intro _; refine dr_XDCk ?_; refine aBk ?_; refine awp_loop (α := Nat × Int × (List ByteArray)) (fun x => mkS 52 [(1, .ptr 1 0 0 0), (3, .ptr 3 0 0 0), (4, .own 14 0 0 x.2.2.length), (16, .sl 2 (a0.Unequal.map cA2_cS)), (17, .c (.int .i64 ((a0.Unequal.map cA2_cS).length : Int))), (18, .c (.int .i64 x.2.1))] [(1, ⟨28, 4, true, [[.c (.string a0.Head.Name), .sl 1 (a0.Head.Args.map cS), .sl 2 (a0.Body.map cGAtom), .sl 2 (a0.Unequal.map cA2_cS)]]⟩), (3, ⟨22, 1, true, [[.sl 1 (z1.map cS)]]⟩), (14, ⟨9, 1, false, x.2.2.map cS⟩)]) (fun x => M_datalog_CheckRule_L1 a0 x.1 x.2.1 x.2.2 = some o3) (fun x => x.1) ((((a0.Unequal.map cA2_cS).length : Int)).toNat + 1, 0, z2) h ?_ ?_
    · exact ca_XDCk
    · intro x5 h; intro _; obtain ⟨k19, m6, h⟩ := succ_of (f := fun n => M_datalog_CheckRule_L1 a0 n x5.2.1 x5.2.2) rfl h; replace h : M_datalog_CheckRule_L1 a0 (k19 + 1) x5.2.1 x5.2.2 = some o3 := h; rw [M_datalog_CheckRule_L1] at h; refine aSR ?_; intro _; refine dr_XDCk ?_; refine aSq ?_; refine aCd ?_; intro _; refine spl h (fun c7 h => ?_) (fun c7 h => ?_)
      · refine aSk ?_; refine aSq ?_; refine aBk ?_; refine aSR ?_; intro _; obtain ⟨y20, w8, q9, h⟩ := ix_ok h; refine Exists.intro (cA2_cS y20) (And.intro (map_at' w8) ?_); intro _; refine pr_XDCk ?_; refine dr_XDCk ?_; refine aRg ?_; intro _; refine ⟨_, lf_arrAt rfl (Nat.le_of_ble_eq_true rfl) rfl rfl rfl (tyTab_ok 58 _ rfl) rfl (tyTab_ok 9 _ rfl) (by decide) (by decide), ?_⟩; intro _; refine ⟨_, lf_arrAt rfl (Nat.le_of_ble_eq_true rfl) rfl rfl rfl (tyTab_ok 58 _ rfl) rfl (tyTab_ok 9 _ rfl) (by decide) (by decide), ?_⟩; intro _; obtain ⟨q10, h⟩ := grd_ok h; refine pl_XDCk ?_; refine pl_XDCk ?_; refine And.intro (by first | with_reducible assumption | (show (x5.2.2.length + 2) * 16 ≤ 140737488355328; with_reducible assumption) | omega | (simp; omega)) ?_; refine pe_XDCk ?_; refine dr_XDCk ?_; refine aRg ?_; intro _; refine dr_XDCk ?_; refine ⟨(k19, (IntKind.i64.wrap (x5.2.1 + 1)), (x5.2.2 ++ [y20.1, y20.2])), h, ltS m6, ?_⟩; exact ca_XDCk
      · refine aEx ?_; refine ⟨x5.2.2, (Option.some.inj h).symm, ?_⟩; exact ca_XDCk
  · rintro v11 ho; have ho := ho.symm; subst ho; intro _; replace h := hK4; refine aSq ?_; refine aSR ?_; intro _; refine ⟨_, lf_func rfl (Nat.le_of_ble_eq_true rfl) rfl rfl, ?_⟩; intro _; obtain ⟨q11, h⟩ := grd_ok h; obtain ⟨z21, u12, h⟩ := ob1_ok h; refine clb_XDCk [3, 14] rfl rfl (A_s_ContainsFunc_string v11 (M_datalog_CheckRule_1 z1) (.clo (.func 36) [] [.pim [.sl 1 (z1.map cS)] 0]) (Fr.clo FrC_nil FrE.h) ⟨_, _, _, rfl⟩ (fun x0 y0 hx => ⟨36, [], _, rfl, A_datalog_CheckRule_1 z1 x0 hx⟩) u12) ?_; intro _; refine dr_XDCk ?_; refine aCd ?_; intro _; refine spl h (fun c13 h => ?_) (fun c13 h => ?_)
    · refine aSR ?_; intro _; refine dr_XDCk ?_; refine aRt ?_; intro _; obtain rfl := inj1 h; exact ca_XDCk
    · refine aSk ?_; refine aSR ?_; intro _; obtain ⟨q14, h⟩ := grd_ok h; refine pl_XDCk ?_; refine And.intro (by first | with_reducible assumption | (show (1 + a0.Body.length) * 40 ≤ 140737488355328; with_reducible assumption) | omega | (simp; omega)) ?_; refine pe_XDCk ?_; refine dr_XDCk ?_; obtain ⟨o15, h, hK16⟩ := ob1_ok h; refine awp_cut (α := Unit) (fun _ => mkS 52 [(7, .own 36 0 0 (([a0.Head] ++ a0.Body).length))] [(36, ⟨24, 2, false, ([a0.Head] ++ a0.Body).map cGAtom⟩)]) (fun v => o15 = (.inl v)) ?_ ?_
      · refine aSR ?_; intro _; refine spf h (fun c17 h => ?_) (fun c17 h => ?_)
        · intro _; obtain ⟨q18, h⟩ := grd_ok h; obtain ⟨z25, u19, h⟩ := ob1_ok h; refine clb_XDCk [36] rfl rfl (A_s_ContainsFunc_Atom ([a0.Head] ++ a0.Body) M_datalog_CheckRule_2 (.clo (.func 40) [] []) (Fr.clo FrC_nil FrE.h) ⟨_, _, _, rfl⟩ (fun x0 y0 hx => ⟨40, [], _, rfl, A_datalog_CheckRule_2 x0 hx⟩) u19) ?_; intro _; refine dr_XDCk ?_; refine aCd ?_; intro _; refine spl h (fun c20 h => ?_) (fun c20 h => ?_)
          · refine aSR ?_; intro _; refine dr_XDCk ?_; refine aRt ?_; have j21 := Option.some.inj h; subst j21; replace h := (osum_r hK16); intro _; obtain rfl := inj1 h; exact ca_XDCk
          · refine aSk ?_; refine ⟨(), (Option.some.inj h).symm, ?_⟩; exact ca_XDCk
        · intro _; refine dr_XDCk ?_; refine aCd ?_; intro _; refine litT ?_; refine aSR ?_; intro _; refine dr_XDCk ?_; refine aRt ?_; have j22 := Option.some.inj h; subst j22; replace h := (osum_r hK16); intro _; obtain rfl := inj1 h; exact ca_XDCk
      · rintro _ ho; have ho := ho.symm; subst ho; intro _; replace h := (osum_l hK16); refine aSq ?_; refine aSR ?_; intro _; obtain ⟨q23, h⟩ := grd_ok h; obtain ⟨z26, u24, h⟩ := ob1_ok h; refine clb_XDCk [36] rfl rfl (A_s_ContainsFunc_Atom ([a0.Head] ++ a0.Body) M_datalog_CheckRule_3 (.clo (.func 41) [] []) (Fr.clo FrC_nil FrE.h) ⟨_, _, _, rfl⟩ (fun x0 y0 hx => ⟨41, [], _, rfl, A_datalog_CheckRule_3 x0 hx⟩) u24) ?_; intro _; refine dr_XDCk ?_; refine aCd ?_; intro _; refine spl h (fun c25 h => ?_) (fun c25 h => ?_)
        · refine aSR ?_; intro _; refine dr_XDCk ?_; refine aRt ?_; intro _; obtain rfl := inj1 h; exact ca_XDCk
        · refine aSk ?_; refine aSR ?_; intro _; refine dr_XDCk ?_; refine aRt ?_; intro _; obtain rfl := inj1 h; exact ca_XDCk
end Go.Proofs.YtflgpccacloadaaDoor.Am
/- Plain law: what CheckRule returns. -/
namespace Go.Proofs.YtflgpccacloadaaDoor.Am
open Go.RowKit
instance memDec (s : ByteArray) (l : List ByteArray) : Decidable (s ∈ l) := decidable_of_iff (l.any (fun x => decide (x = s)) = true) (by simp)
theorem index_loop (l : List ByteArray) (s : ByteArray) (hl : l.length ≤ 4611686018427387904) : ∀ (k i : Nat), i + k = l.length + 1 → i ≤ l.length → ∃ z : Int, M_s_Index_string_L1 l s k (i : Int) = some z ∧ (0 ≤ z ↔ s ∈ l.drop i) := by
  intro k
  induction k with
  | zero => intro i h1 h2; omega
  | succ k ih =>
    intro i h1 h2
    rw [M_s_Index_string_L1]
    by_cases h : i < l.length
    · have hy := List.getElem?_eq_getElem h
      rw [show decide ((i : Int) < ((l.map cS).length : Int)) = true by simp; omega]
      show ∃ z, ix l (i : Int) _ = _ ∧ _
      rw [ix_at hy, beq_bl, sel_dec, dropC hy]
      by_cases e : s = l[i]
      · rw [if_pos e]
        exact ⟨_, rfl, fun _ => List.mem_cons.2 (.inl e), fun _ => by omega⟩
      · rw [if_neg e, wrap_eq (by omega) (by omega)]
        obtain ⟨z, h3, h4⟩ := ih (i + 1) (by omega) (by omega)
        refine ⟨z, h3, h4.trans ⟨fun q => List.mem_cons_of_mem _ q, fun q => ?_⟩⟩
        rcases List.mem_cons.1 q with q | q
        · exact absurd q e
        · exact q
    · rw [show decide ((i : Int) < ((l.map cS).length : Int)) = false by simp; omega]
      rw [List.drop_of_length_le (by omega)]
      exact ⟨-1, rfl, by simp⟩
theorem contains_eq (l : List ByteArray) (s : ByteArray) (hl : l.length ≤ 4611686018427387904) : M_s_Contains_string l s = some (decide (s ∈ l)) := by
  unfold M_s_Contains_string M_s_Index_string
  rw [show (((l.map cS).length : Int)).toNat + 1 = l.length + 1 by simp]
  obtain ⟨z, h1, h2⟩ := index_loop l s hl (l.length + 1) 0 (by omega) (Nat.zero_le _)
  rw [show ((0 : Nat) : Int) = 0 from rfl] at h1
  rw [h1, ob1_some]
  exact congrArg some (decide_eq_decide.2 (by rw [List.drop_zero] at h2; exact h2))
theorem cfS_loop (l : List ByteArray) (f : ByteArray → Option Bool) (p : ByteArray → Bool) (hf : ∀ x ∈ l, f x = some (p x)) (hl : l.length ≤ 4611686018427387904) : ∀ (k i : Nat), i + k = l.length + 1 → i ≤ l.length → ∃ z : Int, M_s_IndexFunc_string_L1 l f k (i : Int) = some z ∧ (decide (z ≥ 0) = (l.drop i).any p) := by
  intro k
  induction k with
  | zero => intro i h1 h2; omega
  | succ k ih =>
    intro i h1 h2
    rw [M_s_IndexFunc_string_L1]
    by_cases h : i < l.length
    · have hy := List.getElem?_eq_getElem h
      rw [show decide ((i : Int) < ((l.map cS).length : Int)) = true by simp; omega]
      show ∃ z, ix l (i : Int) _ = _ ∧ _
      rw [ix_at hy, hf _ (List.getElem_mem h), ob1_some, dropC hy, List.any_cons]
      cases hp : p l[i] with
      | true => exact ⟨i, rfl, by simp⟩
      | false =>
        show ∃ z, M_s_IndexFunc_string_L1 l f k _ = _ ∧ _
        rw [wrap_eq (by omega) (by omega)]
        obtain ⟨z, h3, h4⟩ := ih (i + 1) (by omega) (by omega)
        exact ⟨z, h3, by rw [h4]; simp⟩
    · rw [show decide ((i : Int) < ((l.map cS).length : Int)) = false by simp; omega]
      rw [List.drop_of_length_le (by omega)]
      exact ⟨-1, rfl, rfl⟩
theorem cfS_eq (l : List ByteArray) (f : ByteArray → Option Bool) (p : ByteArray → Bool) (hf : ∀ x ∈ l, f x = some (p x)) (hl : l.length ≤ 4611686018427387904) : M_s_ContainsFunc_string l f = some (l.any p) := by
  unfold M_s_ContainsFunc_string M_s_IndexFunc_string
  rw [show (((l.map cS).length : Int)).toNat + 1 = l.length + 1 by simp]
  obtain ⟨z, h1, h2⟩ := cfS_loop l f p hf hl (l.length + 1) 0 (by omega) (Nat.zero_le _)
  rw [show ((0 : Nat) : Int) = 0 from rfl] at h1
  rw [h1, ob1_some, h2, List.drop_zero]
theorem cfA_loop (l : List GAtom) (f : GAtom → Option Bool) (p : GAtom → Bool) (hf : ∀ x ∈ l, f x = some (p x)) (hl : l.length ≤ 4611686018427387904) : ∀ (k i : Nat), i + k = l.length + 1 → i ≤ l.length → ∃ z : Int, M_s_IndexFunc_Atom_L1 l f k (i : Int) = some z ∧ (decide (z ≥ 0) = (l.drop i).any p) := by
  intro k
  induction k with
  | zero => intro i h1 h2; omega
  | succ k ih =>
    intro i h1 h2
    rw [M_s_IndexFunc_Atom_L1]
    by_cases h : i < l.length
    · have hy := List.getElem?_eq_getElem h
      rw [show decide ((i : Int) < ((l.map cGAtom).length : Int)) = true by simp; omega]
      show ∃ z, ix l (i : Int) _ = _ ∧ _
      rw [ix_at hy, hf _ (List.getElem_mem h), ob1_some, dropC hy, List.any_cons]
      cases hp : p l[i] with
      | true => exact ⟨i, rfl, by simp⟩
      | false =>
        show ∃ z, M_s_IndexFunc_Atom_L1 l f k _ = _ ∧ _
        rw [wrap_eq (by omega) (by omega)]
        obtain ⟨z, h3, h4⟩ := ih (i + 1) (by omega) (by omega)
        exact ⟨z, h3, by rw [h4]; simp⟩
    · rw [show decide ((i : Int) < ((l.map cGAtom).length : Int)) = false by simp; omega]
      rw [List.drop_of_length_le (by omega)]
      exact ⟨-1, rfl, rfl⟩
theorem cfA_eq (l : List GAtom) (f : GAtom → Option Bool) (p : GAtom → Bool) (hf : ∀ x ∈ l, f x = some (p x)) (hl : l.length ≤ 4611686018427387904) : M_s_ContainsFunc_Atom l f = some (l.any p) := by
  unfold M_s_ContainsFunc_Atom M_s_IndexFunc_Atom
  rw [show (((l.map cGAtom).length : Int)).toNat + 1 = l.length + 1 by simp]
  obtain ⟨z, h1, h2⟩ := cfA_loop l f p hf hl (l.length + 1) 0 (by omega) (Nat.zero_le _)
  rw [show ((0 : Nat) : Int) = 0 from rfl] at h1
  rw [h1, ob1_some, h2, List.drop_zero]
/-- the variables of a list of terms, each once, in the order of their first occurrence -/
def addV (out : List ByteArray) (s : ByteArray) : List ByteArray := if isV s = true then if s ∈ out then out else out ++ [s] else out
def vars (body : List GAtom) : List ByteArray := (body.flatMap (·.Args)).foldl addV []
theorem addV_len : ∀ (l : List ByteArray) (out : List ByteArray), (l.foldl addV out).length ≤ out.length + l.length
  | [], out => Nat.le_refl _
  | s :: r, out => by
    have h1 := addV_len r (addV out s)
    have h2 : (addV out s).length ≤ out.length + 1 := by
      unfold addV
      split
      · split <;> simp
      · omega
    rw [List.foldl_cons]
    simp only [List.length_cons]
    omega
theorem varL1 (a : GAtom) (hA : a.Args.length ≤ 4611686018427387904) : ∀ (k i : Nat) (out : List ByteArray), i + k = a.Args.length + 1 → i ≤ a.Args.length → (out.length + (a.Args.length - i)) * 16 ≤ 140737488355328 → M_datalog_Variables_L1 a k (i : Int) out = some ((a.Args.drop i).foldl addV out) := by
  intro k
  induction k with
  | zero => intro i out h1 h2; omega
  | succ k ih =>
    intro i out h1 h2 h3
    rw [M_datalog_Variables_L1]
    by_cases h : i < a.Args.length
    · have hy := List.getElem?_eq_getElem h
      rw [show decide ((i : Int) < ((a.Args.map cS).length : Int)) = true by simp; omega]
      show ix a.Args (i : Int) _ = _
      rw [ix_at hy, variable_eq, ob1_some, dropC hy, List.foldl_cons, wrap_eq (by omega) (by omega)]
      unfold addV
      cases hv : isV a.Args[i] with
      | false =>
        rw [if_neg (by decide)]
        exact ih (i + 1) out (by omega) (by omega) (by omega)
      | true =>
        rw [if_pos rfl]
        refine grd_mk (by omega) ?_
        rw [contains_eq out _ (by omega), ob1_some, sel_not, sel_dec]
        by_cases e : a.Args[i] ∈ out
        · rw [if_pos e, if_pos e]
          exact ih (i + 1) out (by omega) (by omega) (by omega)
        · rw [if_neg e, if_neg e]
          exact grd_mk (by omega) (ih (i + 1) (out ++ [a.Args[i]]) (by omega) (by omega) (by simp; omega))
    · rw [show decide ((i : Int) < ((a.Args.map cS).length : Int)) = false by simp; omega]
      rw [List.drop_of_length_le (by omega)]
      rfl
theorem varL2 (body : List GAtom) (hb : body.length ≤ 4611686018427387904) : ∀ (k i : Nat) (out : List ByteArray), i + k = body.length + 1 → i ≤ body.length → (out.length + ((body.drop i).flatMap (·.Args)).length) * 16 ≤ 140737488355328 → M_datalog_Variables_L2 body k (i : Int) out = some (((body.drop i).flatMap (·.Args)).foldl addV out) := by
  intro k
  induction k with
  | zero => intro i out h1 h2; omega
  | succ k ih =>
    intro i out h1 h2 h3
    rw [M_datalog_Variables_L2]
    by_cases h : i < body.length
    · have hy := List.getElem?_eq_getElem h
      rw [show decide ((i : Int) < ((body.map cGAtom).length : Int)) = true by simp; omega]
      show ob1 (ix body (i : Int) _) _ = _
      rw [dropC hy, List.flatMap_cons, List.length_append] at h3
      have h4 := addV_len body[i].Args out
      have h5 := varL1 body[i] (by omega) (body[i].Args.length + 1) 0 out (by omega) (Nat.zero_le _) (by omega)
      rw [List.drop_zero, show ((0 : Nat) : Int) = 0 from rfl] at h5
      rw [ix_at hy, show (((body[i].Args.map cS).length : Int)).toNat + 1 = body[i].Args.length + 1 by simp, h5, ob1_some, wrap_eq (by omega) (by omega), dropC hy, List.flatMap_cons, List.foldl_append]
      exact ih (i + 1) _ (by omega) (by omega) (by omega)
    · rw [show decide ((i : Int) < ((body.map cGAtom).length : Int)) = false by simp; omega]
      rw [List.drop_of_length_le (by omega)]
      exact grd_mk (by omega) rfl
theorem variables_eq (body : List GAtom) (hb : body.length ≤ 4611686018427387904) (ht : (body.flatMap (·.Args)).length * 16 ≤ 140737488355328) : M_datalog_Variables body = some (vars body) := by
  unfold M_datalog_Variables
  rw [show (((body.map cGAtom).length : Int)).toNat + 1 = body.length + 1 by simp]
  have := varL2 body hb (body.length + 1) 0 [] (by omega) (Nat.zero_le _) (by rw [List.drop_zero]; simpa using ht)
  rw [List.drop_zero, show ((0 : Nat) : Int) = 0 from rfl] at this
  exact this
end Go.Proofs.YtflgpccacloadaaDoor.Am
/- Models printed by my decompiler, and the proofs that the code computes them. -/
namespace Go.Proofs.YtflgpccacloadaaDoor.Am
open Go.RowKit
theorem ci_XDSv {p K : Prop} (k : K) (h : p := by first | rfl | exact ⟨rfl, rfl⟩ | exact BW.mpf rfl rfl rfl FrI.h rfl | exact cloK3 rfl rfl rfl rfl rfl rfl rfl rfl rfl | exact CloK.bw (BW.fr (by assumption)) | exact BW.fr FrV.h | (refine BW.fr ?_; assumption) | (refine ⟨rfl, ?_⟩; (simp [cGAtom, cS, cGRule, cA2_cS, cF, take_len_map]; done)) | (refine RowK.same ?_ FrI.h; first | rfl | (simp [cGAtom, cS, cGRule, cA2_cS, cF, take_len_map]; done)) | (refine row_part1 ?_; (repeat (first | exact BWL.nil | exact bwll_nil | exact bw_c | exact BW.sl | exact BW.nil | exact bwll_same rfl FrI.h | refine BWL.cons ?_ ?_ | refine bwll_cons ?_ ?_ | (refine bw_own3 rfl rfl rfl FrI.h ?_ ?_ ?_) | exact BW.mpf rfl rfl rfl FrI.h rfl | exact cloK3 rfl rfl rfl rfl rfl rfl rfl rfl rfl | exact CloK.bw (BW.fr (by assumption)) | exact BW.fr FrV.h | exact BW.fr (by assumption) | refine bw_agg ?_ | refine bw_clo ?_ | refine bw_ptr rfl rfl rfl ?_ | (refine bw_own rfl rfl rfl ?_ FrI.h ?_ ?_) | assumption | omega | rfl | (rw [List.length_map, ← List.length_append]; assumption) | (refine bwll_same ?_ FrI.h; (simp [cGAtom, cS, cGRule, cA2_cS, cF] <;> fail)) | (rw [List.map_set]; refine bwll_set (by first | rfl | omega | simp) ?_ ?_) | refine bwll_set (by first | rfl | omega | simp) ?_ ?_ | (rw [List.map_replicate]; refine bwll_rep ?_) | refine bwll_rep ?_ | (rw [List.map_append]; refine bwll_append ?_ ?_) | refine bwll_append ?_ ?_ | (simp [cGAtom, cS, cGRule, cA2_cS, cF, take_len_map] <;> fail) | (rw [List.drop_zero, List.take_of_length_le] <;> first | rfl | (simp [cGAtom, cS, cGRule, cA2_cS, cF] <;> fail)) | (simp; omega) | (simp only [List.length_map, List.length_append, List.drop_zero, List.length_cons, List.length_nil, Nat.zero_add, Nat.add_zero] at *; omega))); done) | ((repeat (first | exact BWL.nil | exact bwll_nil | exact bw_c | exact BW.sl | exact BW.nil | exact bwll_same rfl FrI.h | refine BWL.cons ?_ ?_ | refine bwll_cons ?_ ?_ | (refine bw_own3 rfl rfl rfl FrI.h ?_ ?_ ?_) | exact BW.mpf rfl rfl rfl FrI.h rfl | exact cloK3 rfl rfl rfl rfl rfl rfl rfl rfl rfl | exact CloK.bw (BW.fr (by assumption)) | exact BW.fr FrV.h | exact BW.fr (by assumption) | refine bw_agg ?_ | refine bw_clo ?_ | refine bw_ptr rfl rfl rfl ?_ | (refine bw_own rfl rfl rfl ?_ FrI.h ?_ ?_) | assumption | omega | rfl | (rw [List.length_map, ← List.length_append]; assumption) | (refine bwll_same ?_ FrI.h; (simp [cGAtom, cS, cGRule, cA2_cS, cF] <;> fail)) | (rw [List.map_set]; refine bwll_set (by first | rfl | omega | simp) ?_ ?_) | refine bwll_set (by first | rfl | omega | simp) ?_ ?_ | (rw [List.map_replicate]; refine bwll_rep ?_) | refine bwll_rep ?_ | (rw [List.map_append]; refine bwll_append ?_ ?_) | refine bwll_append ?_ ?_ | (simp [cGAtom, cS, cGRule, cA2_cS, cF, take_len_map] <;> fail) | (rw [List.drop_zero, List.take_of_length_le] <;> first | rfl | (simp [cGAtom, cS, cGRule, cA2_cS, cF] <;> fail)) | (simp; omega) | (simp only [List.length_map, List.length_append, List.drop_zero, List.length_cons, List.length_nil, Nat.zero_add, Nat.add_zero] at *; omega))); done) | (simp [cGAtom, cS, cGRule, cA2_cS, cF, take_len_map]; done)) : p ∧ K := ⟨h, k⟩
theorem ca_XDSv {P : Prop} (h : P := by repeat (first | exact True.intro | refine ci_XDSv ?_)) : P := h
theorem pr_XDSv {p K : Prop} (k : K) (h : p := by first | assumption | exact Int.natCast_nonneg _ | exact Nat.le_refl _ | exact Nat.zero_le _ | omega | (simp; done) | (simp; omega)) : p ∧ K := ⟨h, k⟩
theorem dr_XDSv {b : Bool} {p K : Prop} (k : K) (h : b = true → p := by intro h; first | (cases h; done) | exact ⟨by kernel_rfl, by kernel_rfl⟩) : (b = true → p) ∧ K := ⟨h, k⟩
theorem cl_XDSv {C : Cx} {n : Nat} {o : Oper} {τ : Nat → AV} {η : Nat → Ent} {f : FuncId} {os : Array Operand} {ats : Array TypeId} {r : AV} {args : List AV} {K : Foot → Prop} (ho : o.op = .call ⟨.value (.func f), os, ats⟩) (hc : ACall C f args r) (k : K ⟨r, [], []⟩)
    (hd : InB n o.dst := by exact Nat.le_of_ble_eq_true rfl) (hargs : os.toList.map (evA τ) = args := by first | rfl | (simp [cGAtom, cS, cGRule, cA2_cS, cF]; done) | (repeat (first | exact rfl | refine cons_eq ?_ ?_ | exact sl_dt rfl))) (hfr : frs args := by repeat (first | exact trivial | exact fr1_eA _ | exact fr0_eA _ | exact fr1_fr (by assumption) | exact FrV.h | exact fr0_fr FrV.h | exact fr1_fr FrV.h | refine And.intro ?_ ?_)) (hr : fr1 r := by repeat (first | exact trivial | exact fr1_eA _ | exact fr0_eA _ | exact fr1_fr (by assumption) | exact FrV.h | exact fr0_fr FrV.h | exact fr1_fr FrV.h | refine And.intro ?_ ?_)) : ∃ f : Foot, LF C n o τ η f ∧ K f := ⟨_, lf_call ho hd hargs hc hfr hr, k⟩
theorem clb_XDSv {C : Cx} {n : Nat} {o : Oper} {τ : Nat → AV} {η : Nat → Ent} {f : FuncId} {os : Array Operand} {ats : Array TypeId} {r : AV} {xs ys : List AV} {K : Foot → Prop} (bs : List Nat) (ho : o.op = .call ⟨.value (.func f), os, ats⟩) (hargs : os.toList.map (evA τ) = xs) (hc : ACall C f ys r) (k : K ⟨r, [], bs⟩)
    (hd : InB n o.dst := by exact Nat.le_of_ble_eq_true rfl) (hb : BWL η (dropB η bs) xs ys := by repeat (first | exact BWL.nil | exact bwll_nil | exact bw_c | exact BW.sl | exact BW.nil | exact bwll_same rfl FrI.h | refine BWL.cons ?_ ?_ | refine bwll_cons ?_ ?_ | (refine bw_own3 rfl rfl rfl FrI.h ?_ ?_ ?_) | exact BW.mpf rfl rfl rfl FrI.h rfl | refine CloK.bw ?_ | exact BW.fr FrV.h | exact BW.fr (by assumption) | refine bw_agg ?_ | refine bw_clo ?_ | refine bw_ptr rfl rfl rfl ?_ | (refine bw_own rfl rfl rfl ?_ FrI.h ?_ ?_) | assumption | omega | rfl | (rw [List.length_map, ← List.length_append]; assumption) | (refine bwll_same ?_ FrI.h; (simp [cGAtom, cS, cGRule, cA2_cS, cF] <;> fail)) | (rw [List.map_set]; refine bwll_set (by first | rfl | omega | simp) ?_ ?_) | refine bwll_set (by first | rfl | omega | simp) ?_ ?_ | (rw [List.map_replicate]; refine bwll_rep ?_) | refine bwll_rep ?_ | (rw [List.map_append]; refine bwll_append ?_ ?_) | refine bwll_append ?_ ?_ | (simp [cGAtom, cS, cGRule, cA2_cS, cF, take_len_map] <;> fail) | (rw [List.drop_zero, List.take_of_length_le] <;> first | rfl | (simp [cGAtom, cS, cGRule, cA2_cS, cF] <;> fail)) | (simp; omega) | (simp only [List.length_map, List.length_append, List.drop_zero, List.length_cons, List.length_nil, Nat.zero_add, Nat.add_zero] at *; omega))) (hr : scal r := by repeat (first | exact trivial | exact scal0_eA _ | exact scal_eA _ | refine And.intro ?_ ?_)) : ∃ f : Foot, LF C n o τ η f ∧ K f := ⟨_, lf_callB bs ho hd hargs hb hc hr, k⟩
def M_datalog_Solve_1 (a0 : GAtom) : Option (Bool) :=
  sel (a0.Name.toList == (⟨#[]⟩ : ByteArray).toList)
   (some true)
   (ob1 (M_s_ContainsFunc_string a0.Args M_datalog_variable) (fun z1 =>
     some z1))
set_option maxHeartbeats 16000000 in
set_option maxRecDepth 100000 in
theorem A_datalog_Solve_1 (a0 : GAtom) {r1 : Bool} (h : M_datalog_Solve_1 a0 = some r1) : ACall cx 47 [.agg [.c (.string a0.Name), .sl 1 (a0.Args.map cS)]] (.c (.bool r1)) := by
  refine aOf Tryd.func47 rfl (by decide) rfl (Nat.le_of_ble_eq_true rfl) ?_; intro _; unfold M_datalog_Solve_1 at h; refine aSR ?_; intro _; refine dr_XDSv ?_; refine aSR ?_; intro _; refine spf h (fun c1 h => ?_) (fun c1 h => ?_)
  · intro _; obtain ⟨z1, u2, h⟩ := ob1_ok h; refine clb_XDSv [] rfl rfl (A_s_ContainsFunc_string a0.Args M_datalog_variable (.clo (.func 37) [] []) (Fr.clo FrC_nil FrE.h) ⟨_, _, _, rfl⟩ (fun x0 y0 hx => ⟨37, [], _, rfl, A_datalog_variable x0 hx⟩) u2) ?_; intro _; refine dr_XDSv ?_; refine aRt ?_; intro _; obtain rfl := inj1 h; exact ca_XDSv
  · intro _; refine dr_XDSv ?_; refine aRt ?_; intro _; obtain rfl := inj1 h; exact ca_XDSv
def M_datalog_Solve_L1 (a1 : List GRule) : Nat → Int → Option (Unit ⊕ ((List GAtom) × Er))
  | 0, _ => none
  | k24 + 1, v23 =>
    sel (decide (v23 < ((a1.map cGRule).length : Int)))
     (ix a1 v23 (fun y25 =>
       ob1 (M_datalog_CheckRule y25) (fun z26 =>
        erM z26
         (M_datalog_Solve_L1 a1 k24 (IntKind.i64.wrap (v23 + 1)))
         (fun e27 => some (.inr ([], (Er.no e27)))))))
     (some (.inl ()))
def M_datalog_Solve_L2 (a1 : List GRule) (g : Nat) : Nat → GSet → Option ((List GAtom) × Er)
  | 0, _ => none
  | k41 + 1, v40 =>
    ob2 (M_datalog_round g v40 a1) (fun z42 z43 =>
     erM z43
      (opM z42
        (none)
        (fun z45 => sel (decide (((z45.map cGAtom).length : Int) > 4096))
          (some ([], (Er.no 5)))
          (sel (((z45.map cGAtom).length : Int) == ((v40.map cGAtom).length : Int))
            (some (v40, Er.nil))
            (M_datalog_Solve_L2 a1 g k41 z45))))
      (fun e44 => some ([], (Er.no e44))))
def M_datalog_Solve (g : Nat) (a0 : List GAtom) (a1 : List GRule) : Option ((List GAtom) × Er) :=
  ob1 (M_datalog_Solve_L1 a1 ((((a1.map cGRule).length : Int)).toNat + 1) 0 : Option (Unit ⊕ ((List GAtom) × Er)))
   (osum
   (fun _ => ob1 (M_s_ContainsFunc_Atom a0 M_datalog_Solve_1) (fun z28 =>
      sel z28
       (some ([], (Er.no 2)))
       (sel (decide (((a1.map cGRule).length : Int) > 1024))
         (some ([], (Er.no 5)))
         (ob1 (M_datalog_made g a0) (fun z29 =>
           opM z29
            (none)
            (fun z30 => sel (decide (((z30.map cGAtom).length : Int) > 4096))
              (some ([], (Er.no 5)))
              (M_datalog_Solve_L2 a1 g g z30)))))))
   (fun (r13, r14) => some (r13, r14)))
set_option maxHeartbeats 16000000 in
set_option maxRecDepth 100000 in
theorem A_datalog_Solve (g : Nat) (a0 : List GAtom) (a1 : List GRule) {r1 : List GAtom} {r2 : Er} (h : M_datalog_Solve g a0 a1 = some (r1, r2)) : ACall cx 16 [.sl 2 (a0.map cGAtom), .sl 4 (a1.map cGRule)] (.tup [.sl 2 (r1.map cGAtom), eA r2]) := by
  refine aOf Tryd.func16 rfl (by decide) rfl (Nat.le_of_ble_eq_true rfl) ?_; intro _; unfold M_datalog_Solve at h; refine aSR ?_; intro _; refine dr_XDSv ?_; obtain ⟨o1, h, hK2⟩ := ob1_ok h; refine awp_cut (α := Unit) (fun _ => mkS 72 [(0, .sl 2 (a0.map cGAtom)), (1, .sl 4 (a1.map cGRule))] []) (fun v => o1 = (.inl v)) ?_ ?_
  · refine aSR ?_; intro _; refine dr_XDSv ?_; refine aBk ?_; refine awp_loop (α := Nat × Int) (fun x => mkS 72 [(0, .sl 2 (a0.map cGAtom)), (1, .sl 4 (a1.map cGRule)), (12, .sl 4 (a1.map cGRule)), (13, .c (.int .i64 ((a1.map cGRule).length : Int))), (14, .c (.int .i64 x.2))] []) (fun x => M_datalog_Solve_L1 a1 x.1 x.2 = some o1) (fun x => x.1) ((((a1.map cGRule).length : Int)).toNat + 1, 0) h ?_ ?_
    · exact ca_XDSv
    · intro x3 h; intro _; obtain ⟨k24, m4, h⟩ := succ_of (f := fun n => M_datalog_Solve_L1 a1 n x3.2) rfl h; replace h : M_datalog_Solve_L1 a1 (k24 + 1) x3.2 = some o1 := h; rw [M_datalog_Solve_L1] at h; refine aSR ?_; intro _; refine dr_XDSv ?_; refine aSq ?_; refine aCd ?_; intro _; refine spl h (fun c5 h => ?_) (fun c5 h => ?_)
      · refine aSk ?_; refine aSq ?_; refine aBk ?_; refine aSR ?_; intro _; obtain ⟨y25, w6, q7, h⟩ := ix_ok h; refine Exists.intro (cGRule y25) (And.intro (map_at' w6) ?_); intro _; refine pr_XDSv ?_; refine dr_XDSv ?_; refine aSR ?_; intro _; obtain ⟨z26, u8, h⟩ := ob1_ok h; refine cl_XDSv rfl (A_datalog_CheckRule y25 u8) ?_; intro _; refine dr_XDSv ?_; refine aSq ?_; rcases z26 with _ | e27
        · replace h := erM_nil h; refine aRg ?_; intro _; refine dr_XDSv ?_; refine aCd ?_; intro _; refine litF ?_; refine aSk ?_; refine aRg ?_; intro _; refine dr_XDSv ?_; refine ⟨(k24, (IntKind.i64.wrap (x3.2 + 1))), h, ltS m4, ?_⟩; exact ca_XDSv
        · replace h := erM_no h; refine aRg ?_; intro _; refine dr_XDSv ?_; refine aCd ?_; intro _; refine litT ?_; refine aSR ?_; intro _; refine dr_XDSv ?_; refine aRt ?_; have j9 := Option.some.inj h; subst j9; replace h := (osum_r hK2); intro _; obtain ⟨rfl, rfl⟩ := inj2 h; exact ca_XDSv
      · refine aEx ?_; refine ⟨(), (Option.some.inj h).symm, ?_⟩; exact ca_XDSv
  · rintro _ ho; have ho := ho.symm; subst ho; intro _; replace h := (osum_l hK2); refine aSq ?_; refine aSR ?_; intro _; obtain ⟨z28, u10, h⟩ := ob1_ok h; refine clb_XDSv [] rfl rfl (A_s_ContainsFunc_Atom a0 M_datalog_Solve_1 (.clo (.func 47) [] []) (Fr.clo FrC_nil FrE.h) ⟨_, _, _, rfl⟩ (fun x0 y0 hx => ⟨47, [], _, rfl, A_datalog_Solve_1 x0 hx⟩) u10) ?_; intro _; refine dr_XDSv ?_; refine aCd ?_; intro _; refine spl h (fun c11 h => ?_) (fun c11 h => ?_)
    · refine aSR ?_; intro _; refine dr_XDSv ?_; refine aRt ?_; intro _; obtain ⟨rfl, rfl⟩ := inj2 h; exact ca_XDSv
    · refine aSk ?_; refine aSq ?_; refine aSR ?_; intro _; refine dr_XDSv ?_; refine aCd ?_; intro _; refine spl h (fun c12 h => ?_) (fun c12 h => ?_)
      · refine aSR ?_; intro _; refine dr_XDSv ?_; refine aRt ?_; intro _; obtain ⟨rfl, rfl⟩ := inj2 h; exact ca_XDSv
      · refine aSk ?_; refine aSR ?_; intro _; obtain ⟨z29, u13, h⟩ := ob1_ok h; refine cl_XDSv rfl (A_datalog_made g a0 u13) ?_; intro _; refine dr_XDSv ?_; refine aSq ?_; refine aSq ?_; rcases z29 with _ | z30
        · replace h := opM_none h; cases h
        · replace h := opM_some h; refine aRg ?_; intro _; refine dr_XDSv ?_; refine aCd ?_; intro _; refine spl h (fun c14 h => ?_) (fun c14 h => ?_)
          · refine aSR ?_; intro _; refine dr_XDSv ?_; refine aRt ?_; intro _; obtain ⟨rfl, rfl⟩ := inj2 h; exact ca_XDSv
          · refine aSk ?_; refine aBk ?_; refine awp_loop (α := Nat × GSet) (fun x => mkS 72 [(1, .sl 4 (a1.map cGRule)), (9, .pim [.sl 2 (x.2.map cGAtom), .mpi (mE kF vR (formsM x.2))] 0)] []) (fun x => M_datalog_Solve_L2 a1 g x.1 x.2 = some (r1, r2)) (fun x => x.1) (g, z30) h ?_ ?_
            · exact ca_XDSv
            · intro x15 h; intro _; obtain ⟨k41, m16, h⟩ := succ_of (f := fun n => M_datalog_Solve_L2 a1 g n x15.2) rfl h; replace h : M_datalog_Solve_L2 a1 g (k41 + 1) x15.2 = some (r1, r2) := h; rw [M_datalog_Solve_L2] at h; refine aBk ?_; refine aSR ?_; intro _; obtain ⟨z42, z43, u17, h⟩ := ob2_ok h; refine cl_XDSv rfl (A_datalog_round g x15.2 a1 u17) ?_; intro _; refine dr_XDSv ?_; refine aSq ?_; refine aSq ?_; rcases z43 with _ | e44
              · replace h := erM_nil h; refine aRg ?_; intro _; refine dr_XDSv ?_; refine aCd ?_; intro _; refine litF ?_; refine aSk ?_; refine aSq ?_; refine aSq ?_; rcases z42 with _ | z45
                · replace h := opM_none h; cases h
                · replace h := opM_some h; refine aRg ?_; intro _; refine dr_XDSv ?_; refine aCd ?_; intro _; refine spl h (fun c18 h => ?_) (fun c18 h => ?_)
                  · refine aSR ?_; intro _; refine dr_XDSv ?_; refine aRt ?_; intro _; obtain ⟨rfl, rfl⟩ := inj2 h; exact ca_XDSv
                  · refine aSk ?_; refine aSq ?_; refine aSR ?_; intro _; refine dr_XDSv ?_; refine aCd ?_; intro _; refine spl h (fun c19 h => ?_) (fun c19 h => ?_)
                    · refine aSR ?_; intro _; refine dr_XDSv ?_; refine aRt ?_; intro _; obtain ⟨rfl, rfl⟩ := inj2 h; exact ca_XDSv
                    · refine aSk ?_; refine aRg ?_; intro _; refine dr_XDSv ?_; refine ⟨(k41, z45), h, ltS m16, ?_⟩; exact ca_XDSv
              · replace h := erM_no h; refine aRg ?_; intro _; refine dr_XDSv ?_; refine aCd ?_; intro _; refine litT ?_; refine aSR ?_; intro _; refine dr_XDSv ?_; refine aRt ?_; intro _; obtain ⟨rfl, rfl⟩ := inj2 h; exact ca_XDSv
end Go.Proofs.YtflgpccacloadaaDoor.Am
/- Plain law: CheckRule and Solve. -/
namespace Go.Proofs.YtflgpccacloadaaDoor.Am
open Go.RowKit
def terms (r : GRule) : List ByteArray := r.Head.Args ++ r.Unequal.flatMap (fun p => [p.1, p.2])
def badT (known : List ByteArray) (s : ByteArray) : Bool := isV s && !decide (s ∈ known)
def longA (a : GAtom) : Bool := decide (6 < a.Args.length)
def namA (a : GAtom) : Bool := decide (a.Name = (⟨#[]⟩ : ByteArray))
def ckR (r : GRule) : Er :=
  if (terms r).any (badT (vars r.Body)) = true then .no 2
  else if 16 < r.Body.length then .no 5
  else if (r.Head :: r.Body).any longA = true then .no 5
  else if (r.Head :: r.Body).any namA = true then .no 8
  else .nil
/-- the size of a rule -/
structure CkOk (r : GRule) : Prop where
  tot : (r.Body.flatMap (·.Args)).length * 16 ≤ 140737488355328
  term : (r.Head.Args.length + r.Unequal.length * 2) * 16 ≤ 140737488355328
  body : (1 + r.Body.length) * 40 ≤ 140737488355328
theorem ck1_eq (known : List ByteArray) (hk : known.length ≤ 4611686018427387904) (s : ByteArray) : M_datalog_CheckRule_1 known s = some (badT known s) := by
  unfold M_datalog_CheckRule_1 badT
  rw [variable_eq, ob1_some, contains_eq known s hk, ob1_some]
  cases isV s <;> rfl
theorem ckTerms (r : GRule) (hn : r.Unequal.length ≤ 4611686018427387904) : ∀ (k i : Nat) (out : List ByteArray), i + k = r.Unequal.length + 1 → i ≤ r.Unequal.length → (out.length + (r.Unequal.length - i) * 2) * 16 ≤ 140737488355328 →
    M_datalog_CheckRule_L1 r k (i : Int) out = some (out ++ (r.Unequal.drop i).flatMap (fun p => [p.1, p.2])) := by
  intro k
  induction k with
  | zero => intro i out h1 h2; omega
  | succ k ih =>
    intro i out h1 h2 h3
    rw [M_datalog_CheckRule_L1]
    by_cases h : i < r.Unequal.length
    · have hy := List.getElem?_eq_getElem h
      rw [show decide ((i : Int) < ((r.Unequal.map cA2_cS).length : Int)) = true by simp; omega]
      show ix r.Unequal (i : Int) _ = _
      rw [ix_at hy, dropC hy, List.flatMap_cons, wrap_eq (by omega) (by omega)]
      refine grd_mk (by omega) ?_
      have := ih (i + 1) (out ++ [r.Unequal[i].1, r.Unequal[i].2]) (by omega) (by omega) (by simp; omega)
      rw [List.append_assoc] at this
      exact this
    · rw [show decide ((i : Int) < ((r.Unequal.map cA2_cS).length : Int)) = false by simp; omega]
      rw [List.drop_of_length_le (by omega)]
      simp [sel]
theorem vars_len (body : List GAtom) : (vars body).length ≤ (body.flatMap (·.Args)).length := by
  have := addV_len (body.flatMap (·.Args)) []
  simpa [vars] using this
theorem check_eq (r : GRule) (h : CkOk r) : M_datalog_CheckRule r = some (ckR r) := by
  obtain ⟨h1, h2, h3⟩ := h
  unfold M_datalog_CheckRule
  have hvl := vars_len r.Body
  rw [variables_eq r.Body (by omega) h1, ob1_some, show M_cloneSo r.Head.Args = some r.Head.Args from grd_mk (by omega) rfl, ob1_some]
  rw [show (((r.Unequal.map cA2_cS).length : Int)).toNat + 1 = r.Unequal.length + 1 by simp]
  have h4 := ckTerms r (by omega) (r.Unequal.length + 1) 0 r.Head.Args (by omega) (Nat.zero_le _) (by rw [Nat.sub_zero]; exact h2)
  rw [List.drop_zero, show ((0 : Nat) : Int) = 0 from rfl] at h4
  rw [h4, ob1_some]
  have htl : (terms r).length = r.Head.Args.length + r.Unequal.length * 2 := by
    unfold terms
    rw [List.length_append]
    have : ∀ l : List (ByteArray × ByteArray), (l.flatMap (fun p => [p.1, p.2])).length = l.length * 2 := by
      intro l
      induction l with
      | nil => rfl
      | cons x q ih => rw [List.flatMap_cons, List.length_append, ih]; simp; omega
    rw [this]
  refine grd_mk (by show (terms r).length ≤ _; omega) ?_
  rw [show M_s_ContainsFunc_string (r.Head.Args ++ r.Unequal.flatMap (fun p => [p.1, p.2])) (M_datalog_CheckRule_1 (vars r.Body)) = some ((terms r).any (badT (vars r.Body))) from cfS_eq (terms r) _ _ (fun x _ => ck1_eq _ (by omega) x) (by omega), ob1_some]
  unfold ckR
  cases hb : (terms r).any (badT (vars r.Body)) with
  | true => rfl
  | false =>
    rw [if_neg (by decide)]
    refine grd_mk h3 ?_
    have hll : ([r.Head] ++ r.Body).length = 1 + r.Body.length := by simp; omega
    have e5 : M_s_ContainsFunc_Atom ([r.Head] ++ r.Body) M_datalog_CheckRule_2 = some ((r.Head :: r.Body).any longA) := cfA_eq ([r.Head] ++ r.Body) _ longA (fun x _ => by
      unfold M_datalog_CheckRule_2 longA
      exact congrArg some (decide_eq_decide.2 (by rw [List.length_map]; omega))) (by omega)
    have e8 : M_s_ContainsFunc_Atom ([r.Head] ++ r.Body) M_datalog_CheckRule_3 = some ((r.Head :: r.Body).any namA) := cfA_eq ([r.Head] ++ r.Body) _ namA (fun x _ => by
      unfold M_datalog_CheckRule_3 namA
      rw [beq_bl]) (by omega)
    rw [e5, e8]
    have hg : ∀ {α : Type} (x : Option α), grd (([r.Head] ++ r.Body).length ≤ 140737488355328) x = x := fun x => grd_mk (by omega) rfl
    rw [hg, hg, sel_dec]
    by_cases h16 : 16 < r.Body.length
    · rw [if_pos h16, if_pos (by rw [List.length_map]; omega)]
      rfl
    · rw [if_neg h16, if_neg (by rw [List.length_map]; omega)]
      cases (r.Head :: r.Body).any longA with
      | true => rfl
      | false =>
        cases (r.Head :: r.Body).any namA <;> rfl
/-- a fact that is none -/
def badF (a : GAtom) : Bool := decide (a.Name = (⟨#[]⟩ : ByteArray)) || a.Args.any isV
theorem slv1_eq (a : GAtom) (h : a.Args.length ≤ 4611686018427387904) : M_datalog_Solve_1 a = some (badF a) := by
  unfold M_datalog_Solve_1 badF
  rw [beq_bl, cfS_eq a.Args _ isV (fun x _ => variable_eq x) h, ob1_some]
  by_cases e : a.Name = (⟨#[]⟩ : ByteArray)
  · rw [decide_eq_true e]; rfl
  · rw [decide_eq_false e]; rfl
/-- the first error of the rules -/
def firstE : List GRule → Er
  | [] => .nil
  | r :: q => match ckR r with
    | .nil => firstE q
    | .no e => .no e
theorem slvL1 (rules : List GRule) (hok : ∀ r ∈ rules, CkOk r) (hn : rules.length ≤ 4611686018427387904) : ∀ (k i : Nat), i + k = rules.length + 1 → i ≤ rules.length →
    M_datalog_Solve_L1 rules k (i : Int) = some (match firstE (rules.drop i) with | .nil => .inl () | .no e => .inr ([], .no e)) := by
  intro k
  induction k with
  | zero => intro i h1 h2; omega
  | succ k ih =>
    intro i h1 h2
    rw [M_datalog_Solve_L1]
    by_cases h : i < rules.length
    · have hy := List.getElem?_eq_getElem h
      rw [show decide ((i : Int) < ((rules.map cGRule).length : Int)) = true by simp; omega]
      show ix rules (i : Int) _ = _
      rw [ix_at hy, check_eq _ (hok _ (List.getElem_mem h)), ob1_some, dropC hy, firstE, wrap_eq (by omega) (by omega)]
      cases hc : ckR rules[i] with
      | nil => exact ih (i + 1) (by omega) (by omega)
      | no e => rfl
    · rw [show decide ((i : Int) < ((rules.map cGRule).length : Int)) = false by simp; omega]
      rw [List.drop_of_length_le (by omega)]
      rfl
end Go.Proofs.YtflgpccacloadaaDoor.Am
/- Models printed by my decompiler, and the proofs that the code computes them. -/
namespace Go.Proofs.YtflgpccacloadaaDoor.Am
set_option maxHeartbeats 16000000
set_option maxRecDepth 100000
open Go.RowKit
structure GProgram where
  Facts : List GAtom
  Rules : List GRule
  deriving DecidableEq
def cGProgram (x : GProgram) : List AV := [.sl 2 (x.Facts.map cGAtom), .sl 4 (x.Rules.map cGRule)]
theorem fr_cGProgram (x : GProgram) : ∀ y ∈ cGProgram x, Fr y := FrC_cons (.sl (frl_cGAtom _)) (FrC_cons (.sl (frl_cGRule _)) (FrC_nil))
theorem frl_cGProgram (l : List GProgram) : FrL (l.map cGProgram) := FrL_map (fun x _ => fr_cGProgram x)
instance {l : List GProgram} : FrI (l.map cGProgram) := ⟨frl_cGProgram l⟩
def cL_cS (x : List ByteArray) : List AV := [.sl 1 (x.map cS)]
theorem fr_cL_cS (x : List ByteArray) : ∀ y ∈ cL_cS x, Fr y := FrC_cons (.sl (frl_cS _)) (FrC_nil)
theorem frl_cL_cS (l : List (List ByteArray)) : FrL (l.map cL_cS) := FrL_map (fun x _ => fr_cL_cS x)
instance {l : List (List ByteArray)} : FrI (l.map cL_cS) := ⟨frl_cL_cS l⟩
theorem zb_XDLb {P : Prop} (h : P := by repeat (first | exact BWL.nil | exact bwll_nil | exact bw_c | exact BW.sl | exact BW.nil | exact bwll_same rfl FrI.h | refine BWL.cons ?_ ?_ | refine bwll_cons ?_ ?_ | (refine bw_own3 rfl rfl rfl FrI.h ?_ ?_ ?_) | exact BW.mpf rfl rfl rfl FrI.h rfl | refine CloK.bw ?_ | exact BW.fr FrV.h | exact BW.fr (by assumption) | refine bw_agg ?_ | refine bw_clo ?_ | refine bw_ptr rfl rfl rfl ?_ | (refine bw_own rfl rfl rfl ?_ FrI.h ?_ ?_) | assumption | omega | rfl | (rw [List.length_map, ← List.length_append]; assumption) | (refine bwll_same ?_ FrI.h; (simp [cS, cGAtom, cGProgram, cGRule, cA2_cS, cL_cS, cF] <;> fail)) | (rw [List.map_set]; refine bwll_set (by first | rfl | omega | simp) ?_ ?_) | refine bwll_set (by first | rfl | omega | simp) ?_ ?_ | (rw [List.map_replicate]; refine bwll_rep ?_) | refine bwll_rep ?_ | (rw [List.map_append]; refine bwll_append ?_ ?_) | refine bwll_append ?_ ?_ | (simp [cS, cGAtom, cGProgram, cGRule, cA2_cS, cL_cS, cF, take_len_map] <;> fail) | (rw [List.drop_zero, List.take_of_length_le] <;> first | rfl | (simp [cS, cGAtom, cGProgram, cGRule, cA2_cS, cL_cS, cF] <;> fail)) | (simp; omega) | (simp only [List.length_map, List.length_append, List.drop_zero, List.length_cons, List.length_nil, Nat.zero_add, Nat.add_zero] at *; omega))) : P := h
theorem ci_XDLb {p K : Prop} (k : K) (h : p := by first | rfl | exact ⟨rfl, rfl⟩ | exact BW.mpf rfl rfl rfl FrI.h rfl | exact cloK3 rfl rfl rfl rfl rfl rfl rfl rfl rfl | exact CloK.bw (BW.fr (by assumption)) | exact BW.fr FrV.h | (refine BW.fr ?_; assumption) | (refine ⟨rfl, ?_⟩; (simp [cS, cGAtom, cGProgram, cGRule, cA2_cS, cL_cS, cF, take_len_map]; done)) | (refine RowK.same ?_ FrI.h; first | rfl | (simp [cS, cGAtom, cGProgram, cGRule, cA2_cS, cL_cS, cF, take_len_map]; done)) | (refine row_part1 ?_; (repeat (first | exact BWL.nil | exact bwll_nil | exact bw_c | exact BW.sl | exact BW.nil | exact bwll_same rfl FrI.h | refine BWL.cons ?_ ?_ | refine bwll_cons ?_ ?_ | (refine bw_own3 rfl rfl rfl FrI.h ?_ ?_ ?_) | exact BW.mpf rfl rfl rfl FrI.h rfl | exact cloK3 rfl rfl rfl rfl rfl rfl rfl rfl rfl | exact CloK.bw (BW.fr (by assumption)) | exact BW.fr FrV.h | exact BW.fr (by assumption) | refine bw_agg ?_ | refine bw_clo ?_ | refine bw_ptr rfl rfl rfl ?_ | (refine bw_own rfl rfl rfl ?_ FrI.h ?_ ?_) | assumption | omega | rfl | (rw [List.length_map, ← List.length_append]; assumption) | (refine bwll_same ?_ FrI.h; (simp [cS, cGAtom, cGProgram, cGRule, cA2_cS, cL_cS, cF] <;> fail)) | (rw [List.map_set]; refine bwll_set (by first | rfl | omega | simp) ?_ ?_) | refine bwll_set (by first | rfl | omega | simp) ?_ ?_ | (rw [List.map_replicate]; refine bwll_rep ?_) | refine bwll_rep ?_ | (rw [List.map_append]; refine bwll_append ?_ ?_) | refine bwll_append ?_ ?_ | (simp [cS, cGAtom, cGProgram, cGRule, cA2_cS, cL_cS, cF, take_len_map] <;> fail) | (rw [List.drop_zero, List.take_of_length_le] <;> first | rfl | (simp [cS, cGAtom, cGProgram, cGRule, cA2_cS, cL_cS, cF] <;> fail)) | (simp; omega) | (simp only [List.length_map, List.length_append, List.drop_zero, List.length_cons, List.length_nil, Nat.zero_add, Nat.add_zero] at *; omega))); done) | ((repeat (first | exact BWL.nil | exact bwll_nil | exact bw_c | exact BW.sl | exact BW.nil | exact bwll_same rfl FrI.h | refine BWL.cons ?_ ?_ | refine bwll_cons ?_ ?_ | (refine bw_own3 rfl rfl rfl FrI.h ?_ ?_ ?_) | exact BW.mpf rfl rfl rfl FrI.h rfl | exact cloK3 rfl rfl rfl rfl rfl rfl rfl rfl rfl | exact CloK.bw (BW.fr (by assumption)) | exact BW.fr FrV.h | exact BW.fr (by assumption) | refine bw_agg ?_ | refine bw_clo ?_ | refine bw_ptr rfl rfl rfl ?_ | (refine bw_own rfl rfl rfl ?_ FrI.h ?_ ?_) | assumption | omega | rfl | (rw [List.length_map, ← List.length_append]; assumption) | (refine bwll_same ?_ FrI.h; (simp [cS, cGAtom, cGProgram, cGRule, cA2_cS, cL_cS, cF] <;> fail)) | (rw [List.map_set]; refine bwll_set (by first | rfl | omega | simp) ?_ ?_) | refine bwll_set (by first | rfl | omega | simp) ?_ ?_ | (rw [List.map_replicate]; refine bwll_rep ?_) | refine bwll_rep ?_ | (rw [List.map_append]; refine bwll_append ?_ ?_) | refine bwll_append ?_ ?_ | (simp [cS, cGAtom, cGProgram, cGRule, cA2_cS, cL_cS, cF, take_len_map] <;> fail) | (rw [List.drop_zero, List.take_of_length_le] <;> first | rfl | (simp [cS, cGAtom, cGProgram, cGRule, cA2_cS, cL_cS, cF] <;> fail)) | (simp; omega) | (simp only [List.length_map, List.length_append, List.drop_zero, List.length_cons, List.length_nil, Nat.zero_add, Nat.add_zero] at *; omega))); done) | (simp [cS, cGAtom, cGProgram, cGRule, cA2_cS, cL_cS, cF, take_len_map]; done)) : p ∧ K := ⟨h, k⟩
theorem ca_XDLb {P : Prop} (h : P := by repeat (first | exact True.intro | refine ci_XDLb ?_)) : P := h
theorem pr_XDLb {p K : Prop} (k : K) (h : p := by first | assumption | exact Int.natCast_nonneg _ | exact Nat.le_refl _ | exact Nat.zero_le _ | omega | (simp; done) | (simp; omega)) : p ∧ K := ⟨h, k⟩
theorem dr_XDLb {b : Bool} {p K : Prop} (k : K) (h : b = true → p := by intro h; first | (cases h; done) | exact ⟨by kernel_rfl, by kernel_rfl⟩) : (b = true → p) ∧ K := ⟨h, k⟩
theorem cl_XDLb {C : Cx} {n : Nat} {o : Oper} {τ : Nat → AV} {η : Nat → Ent} {f : FuncId} {os : Array Operand} {ats : Array TypeId} {r : AV} {args : List AV} {K : Foot → Prop} (ho : o.op = .call ⟨.value (.func f), os, ats⟩) (hc : ACall C f args r) (k : K ⟨r, [], []⟩)
    (hd : InB n o.dst := by exact Nat.le_of_ble_eq_true rfl) (hargs : os.toList.map (evA τ) = args := by first | rfl | (simp [cS, cGAtom, cGProgram, cGRule, cA2_cS, cL_cS, cF]; done) | (repeat (first | exact rfl | refine cons_eq ?_ ?_ | exact sl_dt rfl))) (hfr : frs args := by repeat (first | exact trivial | exact fr1_eA _ | exact fr0_eA _ | exact fr1_fr (by assumption) | exact FrV.h | exact fr0_fr FrV.h | exact fr1_fr FrV.h | refine And.intro ?_ ?_)) (hr : fr1 r := by repeat (first | exact trivial | exact fr1_eA _ | exact fr0_eA _ | exact fr1_fr (by assumption) | exact FrV.h | exact fr0_fr FrV.h | exact fr1_fr FrV.h | refine And.intro ?_ ?_)) : ∃ f : Foot, LF C n o τ η f ∧ K f := ⟨_, lf_call ho hd hargs hc hfr hr, k⟩
theorem clb_XDLb {C : Cx} {n : Nat} {o : Oper} {τ : Nat → AV} {η : Nat → Ent} {f : FuncId} {os : Array Operand} {ats : Array TypeId} {r : AV} {xs ys : List AV} {K : Foot → Prop} (bs : List Nat) (ho : o.op = .call ⟨.value (.func f), os, ats⟩) (hargs : os.toList.map (evA τ) = xs) (hc : ACall C f ys r) (k : K ⟨r, [], bs⟩)
    (hd : InB n o.dst := by exact Nat.le_of_ble_eq_true rfl) (hb : BWL η (dropB η bs) xs ys := by exact zb_XDLb) (hr : scal r := by repeat (first | exact trivial | exact scal0_eA _ | exact scal_eA _ | refine And.intro ?_ ?_)) : ∃ f : Foot, LF C n o τ η f ∧ K f := ⟨_, lf_callB bs ho hd hargs hb hc hr, k⟩
theorem clf_XDLb {C : Cx} {n : Nat} {o : Oper} {τ : Nat → AV} {η : Nat → Ent} {f : FuncId} {os : Array Operand} {ats : Array TypeId} {r : AV} {xs ys : List AV} {K : Foot → Prop} (us : List (Nat × Ent)) (ho : o.op = .call ⟨.value (.func f), os, ats⟩) (hargs : os.toList.map (evA τ) = xs) (hc : ACall C f ys r) (k : K ⟨r, us, []⟩)
    (hus : allUs η us := by repeat (first | exact trivial | refine And.intro rfl ?_)) (hul : ltUs n us := by repeat (first | exact trivial | refine And.intro (Nat.le_of_ble_eq_true rfl) ?_)) (hd : InB n o.dst := by exact Nat.le_of_ble_eq_true rfl) (hb : BWL η (dropB η (us.map (·.1))) xs ys := by exact zb_XDLb) (hr : fr1 r := by repeat (first | exact trivial | exact fr1_eA _ | exact fr0_eA _ | exact fr1_fr (by assumption) | exact FrV.h | exact fr0_fr FrV.h | exact fr1_fr FrV.h | refine And.intro ?_ ?_)) : ∃ f : Foot, LF C n o τ η f ∧ K f := ⟨_, lf_callF us (allUs_at hus) (ltUs_at hul) ho hd hargs hb hc hr, k⟩
def M_l16_atom (a0 : ByteArray) (a1 : List ByteArray) : Option (GAtom) :=
  some ({ Name := a0, Args := a1 : GAtom })
theorem A_l16_atom (a0 : ByteArray) (a1 : List ByteArray) {r1 : GAtom} (h : M_l16_atom a0 a1 = some r1) : ACall cx 25 [.c (.string a0), .sl 1 (a1.map cS)] (.agg [.c (.string r1.Name), .sl 1 (r1.Args.map cS)]) := by
  refine aOf Tryd.func25 rfl (by decide) rfl (Nat.le_of_ble_eq_true rfl) ?_; intro _; unfold M_l16_atom at h; refine aSR ?_; intro _; refine dr_XDLb ?_; refine aSR ?_; intro _; refine dr_XDLb ?_; refine aRt ?_; intro _; obtain rfl := inj1 h; exact ca_XDLb
def M_b_Texts_L1 (a0 : List ByteArray) (a1 : List ByteArray) : Nat → Int → Option (Bool)
  | 0, _ => none
  | k7 + 1, v6 =>
    sel (decide (v6 < ((a0.map cS).length : Int)))
     (ix a0 v6 (fun y8 =>
       ix a1 v6 (fun y9 =>
        sel (!(y8.toList == y9.toList))
         (some false)
         (M_b_Texts_L1 a0 a1 k7 (IntKind.i64.wrap (v6 + 1))))))
     (some true)
def M_b_Texts (a0 : List ByteArray) (a1 : List ByteArray) : Option (Bool) :=
  sel (((a0.map cS).length : Int) != ((a1.map cS).length : Int))
   (some false)
   (M_b_Texts_L1 a0 a1 ((((a0.map cS).length : Int)).toNat + 1) 0)
theorem A_b_Texts (a0 : List ByteArray) (a1 : List ByteArray) {r1 : Bool} (h : M_b_Texts a0 a1 = some r1) : ACall cx 32 [.sl 1 (a0.map cS), .sl 1 (a1.map cS)] (.c (.bool r1)) := by
  refine aOf Tryd.func32 rfl (by decide) rfl (Nat.le_of_ble_eq_true rfl) ?_; intro _; unfold M_b_Texts at h; refine aSR ?_; intro _; refine dr_XDLb ?_; refine aSq ?_; refine aSR ?_; intro _; refine dr_XDLb ?_; refine aCd ?_; intro _; refine spl h (fun c1 h => ?_) (fun c1 h => ?_)
  · refine aSR ?_; intro _; refine dr_XDLb ?_; refine aRt ?_; intro _; obtain rfl := inj1 h; exact ca_XDLb
  · refine aSk ?_; refine aSq ?_; refine aSR ?_; intro _; refine dr_XDLb ?_; refine aBk ?_; refine awp_loop (α := Nat × Int) (fun x => mkS 26 [(0, .sl 1 (a0.map cS)), (1, .sl 1 (a1.map cS)), (12, .c (.int .i64 ((a0.map cS).length : Int))), (13, .c (.int .i64 x.2))] []) (fun x => M_b_Texts_L1 a0 a1 x.1 x.2 = some r1) (fun x => x.1) ((((a0.map cS).length : Int)).toNat + 1, 0) h ?_ ?_
    · exact ca_XDLb
    · intro x2 h; intro _; obtain ⟨k7, m3, h⟩ := succ_of (f := fun n => M_b_Texts_L1 a0 a1 n x2.2) rfl h; replace h : M_b_Texts_L1 a0 a1 (k7 + 1) x2.2 = some r1 := h; rw [M_b_Texts_L1] at h; refine aSR ?_; intro _; refine dr_XDLb ?_; refine aSq ?_; refine aCd ?_; intro _; refine spl h (fun c4 h => ?_) (fun c4 h => ?_)
      · refine aSk ?_; refine aSq ?_; refine aBk ?_; refine aSR ?_; intro _; refine dr_XDLb ?_; refine aSR ?_; intro _; obtain ⟨y8, w5, q6, h⟩ := ix_ok h; refine Exists.intro (cS y8) (And.intro (map_at' w5) ?_); intro _; obtain ⟨y9, w7, q8, h⟩ := ix_ok h; refine Exists.intro (cS y9) (And.intro (map_at' w7) ?_); intro _; refine pr_XDLb ?_; refine pr_XDLb ?_; refine dr_XDLb ?_; refine aCd ?_; intro _; refine spl h (fun c9 h => ?_) (fun c9 h => ?_)
        · refine aSR ?_; intro _; refine dr_XDLb ?_; refine aRt ?_; intro _; obtain rfl := inj1 h; exact ca_XDLb
        · refine aSk ?_; refine aRg ?_; intro _; refine dr_XDLb ?_; refine ⟨(k7, (IntKind.i64.wrap (x2.2 + 1))), h, ltS m3, ?_⟩; exact ca_XDLb
      · refine aEx ?_; refine aSR ?_; intro _; refine dr_XDLb ?_; refine aRt ?_; intro _; obtain rfl := inj1 h; exact ca_XDLb
def M_l16_awake (g : Nat) : Option (Bool) :=
  ob1 (M_l16_atom (⟨#[101]⟩ : ByteArray) [(⟨#[97]⟩ : ByteArray), (⟨#[98]⟩ : ByteArray)]) (fun z1 =>
   ob1 (M_l16_atom (⟨#[101]⟩ : ByteArray) [(⟨#[98]⟩ : ByteArray), (⟨#[99]⟩ : ByteArray)]) (fun z2 =>
    ob1 (M_l16_atom (⟨#[114]⟩ : ByteArray) [(⟨#[63, 120]⟩ : ByteArray), (⟨#[63, 122]⟩ : ByteArray)]) (fun z3 =>
     ob1 (M_l16_atom (⟨#[101]⟩ : ByteArray) [(⟨#[63, 120]⟩ : ByteArray), (⟨#[63, 121]⟩ : ByteArray)]) (fun z4 =>
      ob1 (M_l16_atom (⟨#[101]⟩ : ByteArray) [(⟨#[63, 121]⟩ : ByteArray), (⟨#[63, 122]⟩ : ByteArray)]) (fun z5 =>
       ob2 (M_datalog_Solve g [z1, z2] [{ Head := z3, Body := [z4, z5], Unequal := [] : GRule }]) (fun z6 z7 =>
        erM z7
         (sel (((z6.map cGAtom).length : Int) == 3)
           (ix z6 2 (fun y9 =>
             sel (y9.Name.toList == (⟨#[114]⟩ : ByteArray).toList)
              (ix z6 2 (fun y10 =>
                ob1 (M_b_Texts y10.Args [(⟨#[97]⟩ : ByteArray), (⟨#[99]⟩ : ByteArray)]) (fun z11 =>
                 some z11)))
              (some false)))
           (some false))
         (fun _ => some false)))))))
theorem A_l16_awake (g : Nat) {r1 : Bool} (h : M_l16_awake g = some r1) : ACall cx 11 [] (.c (.bool r1)) := by
  refine aOf Tryd.func11 rfl (by decide) rfl (Nat.le_of_ble_eq_true rfl) ?_; intro _; unfold M_l16_awake at h; refine aSR ?_; intro _; refine dr_XDLb ?_; refine aSR ?_; intro _; obtain ⟨z1, u1, h⟩ := ob1_ok h; refine clf_XDLb [(4, ⟨2, none⟩)] rfl rfl (A_l16_atom (⟨#[101]⟩ : ByteArray) [(⟨#[97]⟩ : ByteArray), (⟨#[98]⟩ : ByteArray)] u1) ?_; intro _; obtain ⟨z2, u2, h⟩ := ob1_ok h; refine clf_XDLb [(6, ⟨2, none⟩)] rfl rfl (A_l16_atom (⟨#[101]⟩ : ByteArray) [(⟨#[98]⟩ : ByteArray), (⟨#[99]⟩ : ByteArray)] u2) ?_; intro _; obtain ⟨z3, u3, h⟩ := ob1_ok h; refine clf_XDLb [(9, ⟨2, none⟩)] rfl rfl (A_l16_atom (⟨#[114]⟩ : ByteArray) [(⟨#[63, 120]⟩ : ByteArray), (⟨#[63, 122]⟩ : ByteArray)] u3) ?_; intro _; obtain ⟨z4, u4, h⟩ := ob1_ok h; refine clf_XDLb [(11, ⟨2, none⟩)] rfl rfl (A_l16_atom (⟨#[101]⟩ : ByteArray) [(⟨#[63, 120]⟩ : ByteArray), (⟨#[63, 121]⟩ : ByteArray)] u4) ?_; intro _; obtain ⟨z5, u5, h⟩ := ob1_ok h; refine clf_XDLb [(13, ⟨2, none⟩)] rfl rfl (A_l16_atom (⟨#[101]⟩ : ByteArray) [(⟨#[63, 121]⟩ : ByteArray), (⟨#[63, 122]⟩ : ByteArray)] u5) ?_; intro _; obtain ⟨z6, z7, u6, h⟩ := ob2_ok h; refine clf_XDLb [(8, ⟨2, none⟩), (15, ⟨2, none⟩), (17, ⟨2, none⟩)] rfl rfl (A_datalog_Solve g [z1, z2] [{ Head := z3, Body := [z4, z5], Unequal := [] : GRule }] u6) ?_; intro _; refine dr_XDLb ?_; refine aSq ?_; rcases z7 with _ | e8
  · replace h := erM_nil h; refine aRg ?_; intro _; refine litT ?_; intro _; refine spl h (fun c7 h => ?_) (fun c7 h => ?_)
    · intro _; obtain ⟨y9, w8, q9, h⟩ := ix_ok h; refine Exists.intro (cGAtom y9) (And.intro (map_at' w8) ?_); intro _; refine spl h (fun c10 h => ?_) (fun c10 h => ?_)
      · intro _; obtain ⟨y10, w11, q12, h⟩ := ix_ok h; refine Exists.intro (cGAtom y10) (And.intro (map_at' w11) ?_); intro _; obtain ⟨z11, u13, h⟩ := ob1_ok h; refine clb_XDLb [40] rfl rfl (A_b_Texts y10.Args [(⟨#[97]⟩ : ByteArray), (⟨#[99]⟩ : ByteArray)] u13) ?_; intro _; refine pr_XDLb ?_; refine pr_XDLb ?_; refine dr_XDLb ?_; refine aRt ?_; intro _; obtain rfl := inj1 h; exact ca_XDLb
      · intro _; refine pr_XDLb ?_; refine dr_XDLb ?_; refine aRt ?_; intro _; obtain rfl := inj1 h; exact ca_XDLb
    · intro _; refine dr_XDLb ?_; refine aRt ?_; intro _; obtain rfl := inj1 h; exact ca_XDLb
  · replace h := erM_no h; refine aRg ?_; intro _; refine litF ?_; intro _; refine dr_XDLb ?_; refine aRt ?_; intro _; obtain rfl := inj1 h; exact ca_XDLb
def M_r10_Compare_L1 (a0 : GAtom) (a1 : GAtom) : Nat → Int → Option (Unit ⊕ Int)
  | 0, _ => none
  | k33 + 1, v32 =>
    ob1 (sel (decide (v32 < ((a0.Args.map cS).length : Int)))
      (sel (decide (v32 < ((a1.Args.map cS).length : Int)))
        (some (.inl ()))
        (some (.inr ())))
      (some (.inr ())) : Option (Unit ⊕ Unit))
     (osum
     (fun _ => ix a0.Args v32 (fun y35 =>
        ix a1.Args v32 (fun y36 =>
         sel (Op.bytesLess y35.toList y36.toList)
          (some (.inr (-1)))
          (ix a0.Args v32 (fun y37 =>
            ix a1.Args v32 (fun y38 =>
             sel (!(Op.bytesLess y37.toList y38.toList || y37.toList == y38.toList))
              (some (.inr 1))
              (M_r10_Compare_L1 a0 a1 k33 (IntKind.i64.wrap (v32 + 1)))))))))
     (fun _ => some (.inl ())))
def M_r10_Compare (g : Nat) (a0 : GAtom) (a1 : GAtom) : Option (Int) :=
  sel (!(a0.Name.toList == a1.Name.toList))
   (sel (Op.bytesLess a0.Name.toList a1.Name.toList)
     (some (-1))
     (some 1))
   (ob1 (M_r10_Compare_L1 a0 a1 g 0 : Option (Unit ⊕ Int))
     (osum
     (fun _ => some (IntKind.i64.wrap (((a0.Args.map cS).length : Int) - ((a1.Args.map cS).length : Int))))
     (fun r19 => some r19)))
theorem A_r10_Compare (g : Nat) (a0 : GAtom) (a1 : GAtom) {r1 : Int} (h : M_r10_Compare g a0 a1 = some r1) : ACall cx 19 [.agg [.c (.string a0.Name), .sl 1 (a0.Args.map cS)], .agg [.c (.string a1.Name), .sl 1 (a1.Args.map cS)]] (.c (.int .i64 r1)) := by
  refine aOf Tryd.func19 rfl (by decide) rfl (Nat.le_of_ble_eq_true rfl) ?_; intro _; unfold M_r10_Compare at h; refine aSR ?_; intro _; refine dr_XDLb ?_; refine aSq ?_; refine aSR ?_; intro _; refine dr_XDLb ?_; refine aCd ?_; intro _; refine spl h (fun c1 h => ?_) (fun c1 h => ?_)
  · refine aSq ?_; refine aSR ?_; intro _; refine dr_XDLb ?_; refine aCd ?_; intro _; refine spl h (fun c2 h => ?_) (fun c2 h => ?_)
    · refine aSR ?_; intro _; refine dr_XDLb ?_; refine aRt ?_; intro _; obtain rfl := inj1 h; exact ca_XDLb
    · refine aSk ?_; refine aSR ?_; intro _; refine dr_XDLb ?_; refine aRt ?_; intro _; obtain rfl := inj1 h; exact ca_XDLb
  · refine aSk ?_; obtain ⟨o3, h, hK4⟩ := ob1_ok h; refine awp_cut (α := Unit) (fun _ => mkS 59 [(2, .ptr 2 0 0 0), (3, .ptr 3 0 0 0)] [(2, ⟨24, 2, true, [[.c (.string a0.Name), .sl 1 (a0.Args.map cS)]]⟩), (3, ⟨24, 2, true, [[.c (.string a1.Name), .sl 1 (a1.Args.map cS)]]⟩)]) (fun v => o3 = (.inl v)) ?_ ?_
    · refine aSR ?_; intro _; refine dr_XDLb ?_; refine aBk ?_; refine awp_loop (α := Nat × Int) (fun x => mkS 59 [(2, .ptr 2 0 0 0), (3, .ptr 3 0 0 0), (5, .c (.int .i64 x.2))] [(2, ⟨24, 2, true, [[.c (.string a0.Name), .sl 1 (a0.Args.map cS)]]⟩), (3, ⟨24, 2, true, [[.c (.string a1.Name), .sl 1 (a1.Args.map cS)]]⟩)]) (fun x => M_r10_Compare_L1 a0 a1 x.1 x.2 = some o3) (fun x => x.1) (g, 0) h ?_ ?_
      · exact ca_XDLb
      · intro x5 h; intro _; obtain ⟨k33, m6, h⟩ := succ_of (f := fun n => M_r10_Compare_L1 a0 a1 n x5.2) rfl h; replace h : M_r10_Compare_L1 a0 a1 (k33 + 1) x5.2 = some o3 := h; rw [M_r10_Compare_L1] at h; obtain ⟨o7, h, hK8⟩ := ob1_ok h; refine awp_cut (α := Unit) (fun _ => mkS 59 [(2, .ptr 2 0 0 0), (3, .ptr 3 0 0 0), (5, .c (.int .i64 x5.2)), (22, .c (.int .i64 x5.2)), (23, .ptr 3 0 0 1), (24, .sl 1 (a1.Args.map cS)), (25, .c (.int .i64 ((a1.Args.map cS).length : Int))), (26, .c (.bool (decide (x5.2 < ((a1.Args.map cS).length : Int)))))] [(2, ⟨24, 2, true, [[.c (.string a0.Name), .sl 1 (a0.Args.map cS)]]⟩), (3, ⟨24, 2, true, [[.c (.string a1.Name), .sl 1 (a1.Args.map cS)]]⟩)]) (fun v => o7 = (.inl v)) ?_ ?_
        · refine aSR ?_; intro _; refine spl h (fun c9 h => ?_) (fun c9 h => ?_)
          · intro _; refine dr_XDLb ?_; refine aCd ?_; intro _; refine spl h (fun c10 h => ?_) (fun c10 h => ?_)
            · refine aSk ?_; refine ⟨(), (Option.some.inj h).symm, ?_⟩; exact ca_XDLb
            · refine aEx ?_; have j11 := Option.some.inj h; subst j11; replace h := (osum_r hK8); refine ⟨(), (Option.some.inj h).symm, ?_⟩; exact ca_XDLb
          · intro _; refine dr_XDLb ?_; refine aCd ?_; intro _; refine litF ?_; refine aEx ?_; have j12 := Option.some.inj h; subst j12; replace h := (osum_r hK8); refine ⟨(), (Option.some.inj h).symm, ?_⟩; exact ca_XDLb
        · rintro _ ho; have ho := ho.symm; subst ho; intro _; replace h := (osum_l hK8); refine aSq ?_; refine aBk ?_; refine aSq ?_; refine aSR ?_; intro _; obtain ⟨y35, w13, q14, h⟩ := ix_ok h; refine Exists.intro (cS y35) (And.intro (map_at' w13) ?_); intro _; obtain ⟨y36, w15, q16, h⟩ := ix_ok h; refine Exists.intro (cS y36) (And.intro (map_at' w15) ?_); intro _; refine pr_XDLb ?_; refine pr_XDLb ?_; refine dr_XDLb ?_; refine aCd ?_; intro _; refine spl h (fun c17 h => ?_) (fun c17 h => ?_)
          · refine aSR ?_; intro _; refine dr_XDLb ?_; refine aRt ?_; have j18 := Option.some.inj h; subst j18; replace h := (osum_r hK4); intro _; obtain rfl := inj1 h; exact ca_XDLb
          · refine aSk ?_; refine aSR ?_; intro _; obtain ⟨y37, w19, q20, h⟩ := ix_ok h; refine Exists.intro (cS y37) (And.intro (map_at' w19) ?_); intro _; obtain ⟨y38, w21, q22, h⟩ := ix_ok h; refine Exists.intro (cS y38) (And.intro (map_at' w21) ?_); intro _; refine pr_XDLb ?_; refine pr_XDLb ?_; refine dr_XDLb ?_; refine aCd ?_; intro _; refine spl h (fun c23 h => ?_) (fun c23 h => ?_)
            · refine aSR ?_; intro _; refine dr_XDLb ?_; refine aRt ?_; have j24 := Option.some.inj h; subst j24; replace h := (osum_r hK4); intro _; obtain rfl := inj1 h; exact ca_XDLb
            · refine aSk ?_; refine aRg ?_; intro _; refine dr_XDLb ?_; refine ⟨(k33, (IntKind.i64.wrap (x5.2 + 1))), h, ltS m6, ?_⟩; exact ca_XDLb
    · rintro _ ho; have ho := ho.symm; subst ho; intro _; replace h := (osum_l hK4); refine aSR ?_; intro _; refine dr_XDLb ?_; refine aRt ?_; intro _; obtain rfl := inj1 h; exact ca_XDLb
def M_r10_Has_L1 (a0 : List GAtom) (a1 : GAtom) (g : Nat) : Nat → Int → Option (Bool)
  | 0, _ => none
  | k7 + 1, v6 =>
    sel (decide (v6 < ((a0.map cGAtom).length : Int)))
     (ix a0 v6 (fun y8 =>
       ob1 (M_r10_Compare g y8 a1) (fun z9 =>
        sel (z9 == 0)
         (some true)
         (M_r10_Has_L1 a0 a1 g k7 (IntKind.i64.wrap (v6 + 1))))))
     (some false)
def M_r10_Has (g : Nat) (a0 : List GAtom) (a1 : GAtom) : Option (Bool) :=
  M_r10_Has_L1 a0 a1 g g 0
theorem A_r10_Has (g : Nat) (a0 : List GAtom) (a1 : GAtom) {r1 : Bool} (h : M_r10_Has g a0 a1 = some r1) : ACall cx 20 [.sl 2 (a0.map cGAtom), .agg [.c (.string a1.Name), .sl 1 (a1.Args.map cS)]] (.c (.bool r1)) := by
  refine aOf Tryd.func20 rfl (by decide) rfl (Nat.le_of_ble_eq_true rfl) ?_; intro _; unfold M_r10_Has at h; refine aSR ?_; intro _; refine dr_XDLb ?_; refine aSq ?_; refine aSR ?_; intro _; refine dr_XDLb ?_; refine aBk ?_; refine awp_loop (α := Nat × Int) (fun x => mkS 19 [(0, .sl 2 (a0.map cGAtom)), (3, .ptr 3 0 0 0), (5, .c (.int .i64 x.2))] [(3, ⟨24, 2, true, [[.c (.string a1.Name), .sl 1 (a1.Args.map cS)]]⟩)]) (fun x => M_r10_Has_L1 a0 a1 g x.1 x.2 = some r1) (fun x => x.1) (g, 0) h ?_ ?_
  · exact ca_XDLb
  · intro x1 h; intro _; obtain ⟨k7, m2, h⟩ := succ_of (f := fun n => M_r10_Has_L1 a0 a1 g n x1.2) rfl h; replace h : M_r10_Has_L1 a0 a1 g (k7 + 1) x1.2 = some r1 := h; rw [M_r10_Has_L1] at h; refine aSq ?_; refine aSR ?_; intro _; refine dr_XDLb ?_; refine aCd ?_; intro _; refine spl h (fun c3 h => ?_) (fun c3 h => ?_)
    · refine aSk ?_; refine aSq ?_; refine aBk ?_; refine aSR ?_; intro _; obtain ⟨y8, w4, q5, h⟩ := ix_ok h; refine Exists.intro (cGAtom y8) (And.intro (map_at' w4) ?_); intro _; obtain ⟨z9, u6, h⟩ := ob1_ok h; refine cl_XDLb rfl (A_r10_Compare g y8 a1 u6) ?_; intro _; refine pr_XDLb ?_; refine dr_XDLb ?_; refine aCd ?_; intro _; refine spl h (fun c7 h => ?_) (fun c7 h => ?_)
      · refine aSR ?_; intro _; refine dr_XDLb ?_; refine aRt ?_; intro _; obtain rfl := inj1 h; exact ca_XDLb
      · refine aSk ?_; refine aRg ?_; intro _; refine dr_XDLb ?_; refine ⟨(k7, (IntKind.i64.wrap (x1.2 + 1))), h, ltS m2, ?_⟩; exact ca_XDLb
    · refine aEx ?_; refine aSR ?_; intro _; refine dr_XDLb ?_; refine aRt ?_; intro _; obtain rfl := inj1 h; exact ca_XDLb
end Go.Proofs.YtflgpccacloadaaDoor.Am
/- Plain law: the reference's CheckRule. -/
namespace Go.Proofs.YtflgpccacloadaaDoor.Am
open Go.RowKit
end Go.Proofs.YtflgpccacloadaaDoor.Am
/- Plain law: Solve as a loop of rounds. -/
namespace Go.Proofs.YtflgpccacloadaaDoor.Am
open Go.RowKit
def nextS (rules : List GRule) (S : GSet) : GSet := setA (S ++ allH S rules)
theorem mem_next {rules : List GRule} {S : GSet} {z : GAtom} : z ∈ nextS rules S ↔ z ∈ S ∨ z ∈ allH S rules := by
  unfold nextS
  rw [(setA_spec _).2.1, List.mem_append]
theorem strA_nodup {l : List GAtom} (hl : StrA l) : l.Nodup := hl.imp (fun {x y} hxy e => by rw [e, atomC_cmp.self] at hxy; omega)
theorem nodup_sub {α : Type} [DecidableEq α] {a b : List α} (ha : a.Nodup) (hs : ∀ x ∈ a, x ∈ b) : a.length ≤ b.length := nodupL a b ha hs
theorem next_ge {rules : List GRule} {S : GSet} (hS : StrA S) : S.length ≤ (nextS rules S).length := nodup_sub (strA_nodup hS) (fun x hx => mem_next.2 (.inl hx))
/-- a round that adds nothing -/
theorem next_fix {rules : List GRule} {S : GSet} (hS : StrA S) (h : (nextS rules S).length = S.length) : nextS rules S = S := by
  refine strA_unique (setA_spec _).1 hS (fun z => ⟨fun hz => ?_, fun hz => mem_next.2 (.inl hz)⟩)
  refine Classical.byContradiction fun hn => ?_
  have : (z :: S).length ≤ (nextS rules S).length := nodup_sub (List.nodup_cons.2 ⟨hn, strA_nodup hS⟩) (fun x hx => by
    rcases List.mem_cons.1 hx with e | e
    · rw [e]; exact hz
    · exact mem_next.2 (.inl e))
  simp at this
  omega
/-- what a round asks -/
structure RndOk (rules : List GRule) (S : GSet) : Prop where
  rule : ∀ r ∈ rules, RuleOk S r
  args : ∀ a ∈ S, a.Args.length * 16 ≤ 140737488355328
  cnt : (allH S rules).length ≤ 1048576
def runS (rules : List GRule) : Nat → GSet → List GAtom × Er
  | 0, _ => ([], .nil)
  | k + 1, S => if 4096 < (nextS rules S).length then ([], .no 5) else if (nextS rules S).length = S.length then (S, .nil) else runS rules k (nextS rules S)
theorem run_eq (rules : List GRule) (g : Nat) (Inv : GSet → Prop) (hI : ∀ S, Inv S → RndOk rules S) (hN : ∀ S, Inv S → (nextS rules S).length ≤ 4096 → Inv (nextS rules S)) (hb : ∀ r ∈ rules, r.Body.length < g) (hn : rules.length ≤ 4611686018427387904) (hg : 3000000 < g) :
    ∀ (k : Nat) (S : GSet), Inv S → StrA S → S.length ≤ 4096 → 4097 ≤ k + S.length → M_datalog_Solve_L2 rules g k S = some (runS rules k S) := by
  intro k
  induction k with
  | zero => intro S h1 h2 h3 h4; omega
  | succ k ih =>
    intro S h1 h2 h3 h4
    obtain ⟨r1, r2, r3⟩ := hI S h1
    rw [M_datalog_Solve_L2, round_eq g S rules r1 (by omega) r2 hb hn r3 hg]
    show sel _ _ _ = _
    rw [sel_dec, runS]
    have hge := next_ge (rules := rules) h2
    by_cases e1 : 4096 < (nextS rules S).length
    · rw [if_pos e1, if_pos (by rw [List.length_map]; exact Int.ofNat_lt.2 e1)]
    · rw [if_neg e1, if_neg (by rw [List.length_map]; exact fun q => e1 (Int.ofNat_lt.1 q)), beq_int, sel_dec]
      by_cases e2 : (nextS rules S).length = S.length
      · rw [if_pos e2, if_pos (by rw [List.length_map, List.length_map]; exact congrArg Int.ofNat e2)]
      · rw [if_neg e2, if_neg (by rw [List.length_map, List.length_map]; exact fun q => e2 (Int.ofNat.inj q))]
        exact ih (nextS rules S) (hN S h1 (by omega)) (setA_spec _).1 (by omega) (by omega)
/-- what Solve returns -/
def solveS (g : Nat) (facts : List GAtom) (rules : List GRule) : List GAtom × Er :=
  match firstE rules with
  | .no e => ([], .no e)
  | .nil => if facts.any badF = true then ([], .no 2) else if 1024 < rules.length then ([], .no 5) else if 4096 < (setA facts).length then ([], .no 5) else runS rules g (setA facts)
theorem solve_eq (g : Nat) (facts : List GAtom) (rules : List GRule) (hck : ∀ r ∈ rules, CkOk r) (hf : MadeOk facts) (hn : rules.length ≤ 4611686018427387904) (hb : ∀ r ∈ rules, r.Body.length < g) (hg : 3000000 < g) (hfl : facts.length < g)
    (Inv : GSet → Prop) (h0 : firstE rules = .nil → facts.any badF = false → rules.length ≤ 1024 → Inv (setA facts)) (hI : ∀ S, Inv S → RndOk rules S) (hN : ∀ S, Inv S → (nextS rules S).length ≤ 4096 → Inv (nextS rules S)) :
    M_datalog_Solve g facts rules = some (solveS g facts rules) := by
  unfold M_datalog_Solve
  have hf2 := hf.2
  rw [show (((rules.map cGRule).length : Int)).toNat + 1 = rules.length + 1 by simp]
  have h1 := slvL1 rules hck hn (rules.length + 1) 0 (by omega) (Nat.zero_le _)
  rw [List.drop_zero, show ((0 : Nat) : Int) = 0 from rfl] at h1
  rw [h1, ob1_some]
  unfold solveS
  cases he : firstE rules with
  | no e => rfl
  | nil =>
    show ob1 (M_s_ContainsFunc_Atom facts M_datalog_Solve_1) _ = _
    rw [cfA_eq facts _ badF (fun x hx => slv1_eq x (by have := hf.1 x hx; omega)) (by omega), ob1_some]
    cases hbf : facts.any badF with
    | true => rfl
    | false =>
      rw [if_neg (by decide), show ∀ (x y : Option (List GAtom × Er)), sel false x y = y from fun _ _ => rfl, sel_dec]
      by_cases e1 : 1024 < rules.length
      · rw [if_pos e1, if_pos (by rw [List.length_map]; omega)]
        try rfl
      · rw [if_neg e1, if_neg (by rw [List.length_map]; omega), made_eq g facts hf hfl, ob1_some]
        show sel _ _ _ = _
        rw [sel_dec]
        by_cases e2 : 4096 < (setA facts).length
        · rw [if_pos e2, if_pos (by rw [List.length_map]; exact Int.ofNat_lt.2 e2)]
        · rw [if_neg e2, if_neg (by rw [List.length_map]; exact fun q => e2 (Int.ofNat_lt.1 q))]
          exact run_eq rules g Inv hI hN hb hn hg g (setA facts) (h0 he hbf (by omega)) (setA_spec _).1 (by omega) (by omega)
end Go.Proofs.YtflgpccacloadaaDoor.Am
/- Plain law: the fixed example. -/
namespace Go.Proofs.YtflgpccacloadaaDoor.Am
open Go.RowKit
def isV' (s : ByteArray) : Bool := match bl s with | c :: _ => decide (c = 63) | [] => false
theorem isV_eq (s : ByteArray) : isV s = isV' s := by
  unfold isV isV'
  rw [toList_bl, toList_bl, bl_extract]
  have hl := bl_len s
  cases h : bl s with
  | nil => rw [h] at hl; simp at hl; rw [← hl]; rfl
  | cons c q =>
    rw [h] at hl
    rw [← hl]
    have e3 : bl (⟨#[63]⟩ : ByteArray) = [63] := rfl
    rw [e3]
    simp
    by_cases e : c = 63 <;> simp [e]
def tB' (b : Bd) (s : ByteArray) : Option ByteArray := if isV' s then getM b s else some s
theorem tB_eq (b : Bd) (s : ByteArray) : tB b s = tB' b s := by unfold tB tB'; rw [isV_eq]
def uni' : Bd → List ByteArray → List ByteArray → Bool × Bd
  | b, s :: r, c :: q =>
    match tB' b s with
    | none => uni' (setM b s c) r q
    | some x => if x = c then uni' b r q else (false, b)
  | b, _, _ => (true, b)
theorem uni_eq' : ∀ (xs cs : List ByteArray) (b : Bd) (fr : List ByteArray), (uni b fr xs cs).2 = uni' b xs cs
  | [], cs, b, fr => by rw [uni, uni'] <;> simp
  | s :: r, [], b, fr => by rw [uni, uni'] <;> simp
  | s :: r, c :: q, b, fr => by
    rw [uni, uni', tB_eq]
    cases tB' b s with
    | none => exact uni_eq' r q _ _
    | some x =>
      simp only []
      split
      · exact uni_eq' r q _ _
      · rfl
def dif' (b : Bd) (un : List (ByteArray × ByteArray)) : Bool := un.all (fun p => match tB' b p.1, tB' b p.2 with | some x, some y => decide (x ≠ y) | _, _ => true)
theorem dif_eq (b : Bd) (un : List (ByteArray × ByteArray)) : dif b un = dif' b un := by
  unfold dif dif'
  congr 1
  funext p
  unfold difP
  (rw [tB_eq, tB_eq]) <;> rfl
def sols' (S : GSet) (un : List (ByteArray × ByteArray)) : List GAtom → Bd → List Bd
  | [], b => if dif' b un then [b] else []
  | a :: r, b => if dif' b un then (S.filter (fun f => decide (keyF f = keyF a))).flatMap (fun f => if (uni' b a.Args f.Args).1 then sols' S un r (uni' b a.Args f.Args).2 else []) else []
theorem sols_eq' (S : GSet) (un : List (ByteArray × ByteArray)) : ∀ (body : List GAtom) (b : Bd), sols S un body b = sols' S un body b
  | [], b => by rw [sols, sols', dif_eq]
  | a :: r, b => by
    rw [sols, sols', dif_eq, grp_eq]
    congr 2
    funext f
    rw [← uni_eq' a.Args f.Args b [], sols_eq' S un r]
def hatom' (b : Bd) (h : GAtom) : GAtom := ⟨h.Name, h.Args.map (fun t => (tB' b t).getD (⟨#[]⟩ : ByteArray))⟩
theorem hatom_eq (b : Bd) (h : GAtom) : hatom b h = hatom' b h := by
  unfold hatom hatom'
  simp only [tB_eq]
theorem rheads_eq (S : GSet) (r : GRule) : rheads S r = (sols' S r.Unequal r.Body []).map (fun b => hatom' b r.Head) := by
  unfold rheads rsols
  rw [sols_eq']
  exact List.map_congr_left (fun b _ => hatom_eq b _)
/-- the example -/
def exE1 : GAtom := ⟨⟨#[101]⟩, [⟨#[97]⟩, ⟨#[98]⟩]⟩
def exE2 : GAtom := ⟨⟨#[101]⟩, [⟨#[98]⟩, ⟨#[99]⟩]⟩
def exX : GAtom := ⟨⟨#[114]⟩, [⟨#[97]⟩, ⟨#[99]⟩]⟩
def exR : GRule := { Head := ⟨⟨#[114]⟩, [⟨#[63, 120]⟩, ⟨#[63, 122]⟩]⟩, Body := [⟨⟨#[101]⟩, [⟨#[63, 120]⟩, ⟨#[63, 121]⟩]⟩, ⟨⟨#[101]⟩, [⟨#[63, 121]⟩, ⟨#[63, 122]⟩]⟩], Unequal := [] }
theorem exH0 : rheads [exE1, exE2] exR = [exX] := by
  rw [rheads_eq]
  decide +kernel
theorem exH1 : rheads [exE1, exE2, exX] exR = [exX] := by
  rw [rheads_eq]
  decide +kernel
theorem exS : StrA [exE1, exE2, exX] := by
  unfold StrA
  have h1 : atomC exE1 exE2 < 0 := by decide +kernel
  have h2 : atomC exE1 exX < 0 := by decide +kernel
  have h3 : atomC exE2 exX < 0 := by decide +kernel
  simp [h1, h2, h3]
theorem isV_fun : isV = isV' := funext isV_eq
theorem exCk : ckR exR = .nil := by
  unfold ckR vars addV badT
  rw [isV_fun]
  decide +kernel
theorem exF : [exE1, exE2].any badF = false := by
  unfold badF
  rw [isV_fun]
  decide +kernel
theorem exKey : KeyOk exX := by
  refine ⟨?_, by decide⟩
  rw [← bl_len]
  unfold atomKey exX
  rw [bl_fold, bl_append, bl_append, bl_ita]
  have h1 : (⟨#[114]⟩ : ByteArray).size = 1 := rfl
  have h2 : (⟨#[97]⟩ : ByteArray).size = 1 := rfl
  have h3 : (⟨#[99]⟩ : ByteArray).size = 1 := rfl
  simp only [encL, h1, h2, h3, dec_sm (show 1 < 10 by decide), List.flatMap_cons, List.flatMap_nil, List.length_append, List.length_cons, List.length_nil, bl_len]
  decide
theorem exAll (S : GSet) (h : rheads S exR = [exX]) : allH S [exR] = [exX] := by
  unfold allH
  rw [List.flatMap_cons, List.flatMap_nil, h]
  rfl
theorem exSet0 : setA [exE1, exE2] = [exE1, exE2] := by
  refine strA_unique (setA_spec _).1 ?_ (setA_spec _).2.1
  have := exS
  unfold StrA at this ⊢
  exact this.sublist (by simp)
theorem exN0 : nextS [exR] [exE1, exE2] = [exE1, exE2, exX] := by
  refine strA_unique (setA_spec _).1 exS (fun z => ?_)
  rw [mem_next, exAll _ exH0]
  simp [or_assoc]
theorem exN1 : nextS [exR] [exE1, exE2, exX] = [exE1, exE2, exX] := by
  refine strA_unique (setA_spec _).1 exS (fun z => ?_)
  rw [mem_next, exAll _ exH1]
  simp
  exact fun h => .inr (.inr h)
theorem exOk (S : GSet) (h : rheads S exR = [exX]) : RuleOk S exR := ⟨by decide, by decide, by decide, fun a ha => by
  rw [h] at ha
  rw [List.mem_singleton.1 ha]
  exact exKey⟩
theorem exRnd (S : GSet) (h : rheads S exR = [exX]) (hS : ∀ a ∈ S, a.Args.length * 16 ≤ 140737488355328) : RndOk [exR] S :=
  ⟨fun r hr => by rw [List.mem_singleton.1 hr]; exact exOk S h, hS, by rw [exAll S h]; decide⟩
theorem exSolve (g : Nat) (hg : 3000000 < g) : M_datalog_Solve g [exE1, exE2] [exR] = some ([exE1, exE2, exX], .nil) := by
  have h1 := solve_eq g [exE1, exE2] [exR] (fun r hr => by rw [List.mem_singleton.1 hr]; exact ⟨by decide, by decide, by decide⟩) ⟨by decide, by decide⟩ (by decide) (fun r hr => by rw [List.mem_singleton.1 hr]; show 2 < g; omega) hg (by show 2 < g; omega)
    (fun S => S = [exE1, exE2] ∨ S = [exE1, exE2, exX]) (fun _ _ _ => .inl exSet0)
    (fun S hS => by
      rcases hS with e | e
      · rw [e]; exact exRnd _ exH0 (by decide)
      · rw [e]; exact exRnd _ exH1 (by decide))
    (fun S hS _ => by
      rcases hS with e | e
      · rw [e]; exact .inr exN0
      · rw [e]; exact .inr exN1)
  rw [h1]
  unfold solveS
  have h2 : firstE [exR] = .nil := by rw [firstE, exCk]; rfl
  rw [h2]
  show some (if [exE1, exE2].any badF = true then _ else _) = _
  rw [exF, if_neg (by decide), if_neg (by decide), exSet0, if_neg (by decide)]
  obtain ⟨k, rfl⟩ : ∃ k, g = k + 2 := ⟨g - 2, by omega⟩
  rw [runS, exN0, if_neg (by decide), if_neg (by decide), runS, exN1, if_neg (by decide), if_pos rfl]
theorem texts_loop (a b : List ByteArray) : ∀ (k : Nat) (i : Int), M_b_Texts_L1 a b k i = M_s_Equal_string_L1 a b k i
  | 0, _ => rfl
  | k + 1, i => by
    rw [M_b_Texts_L1, M_s_Equal_string_L1]
    congr 1
    congr 1
    funext y
    congr 1
    funext z
    rw [texts_loop a b k]
theorem textsE (a b : List ByteArray) (ha : a.length ≤ 4611686018427387904) (hb : b.length ≤ 4611686018427387904) : M_b_Texts a b = some (decide (a = b)) := by
  rw [← eqS_eq a b ha hb]
  unfold M_b_Texts M_s_Equal_string
  rw [texts_loop]
theorem awake16 (g : Nat) (hg : 3000000 < g) : M_l16_awake g = some true := by
  unfold M_l16_awake
  show ob2 (M_datalog_Solve g [exE1, exE2] [exR]) _ = _
  rw [exSolve g hg, ob2_some]
  have e : ((([exE1, exE2, exX].map cGAtom).length : Int) == 3) = true := by decide
  show sel ((([exE1, exE2, exX].map cGAtom).length : Int) == 3) (ix _ _ _) (some false) = some true
  rw [e]
  show ix [exE1, exE2, exX] 2 _ = _
  rw [show (2 : Int) = ((2 : Nat) : Int) from rfl, ix_at (show [exE1, exE2, exX][2]? = some exX from rfl), beq_bl]
  rw [show decide (exX.Name = (⟨#[114]⟩ : ByteArray)) = true by decide +kernel]
  show ix [exE1, exE2, exX] 2 _ = _
  rw [show (2 : Int) = ((2 : Nat) : Int) from rfl, ix_at (show [exE1, exE2, exX][2]? = some exX from rfl), textsE _ _ (by decide) (by decide), ob1_some]
  decide +kernel
end Go.Proofs.YtflgpccacloadaaDoor.Am
/- Models printed by my decompiler, and the proofs that the code computes them. -/
namespace Go.Proofs.YtflgpccacloadaaDoor.Am
open Go.RowKit
end Go.Proofs.YtflgpccacloadaaDoor.Am
/- Plain law: DatalogRules. -/
namespace Go.Proofs.YtflgpccacloadaaDoor.Am
open Go.RowKit
end Go.Proofs.YtflgpccacloadaaDoor.Am
/- Readers of atoms and rules, with a bound on their bulk. -/
namespace Go.Proofs.YtflgpccacloadaaDoor.Am
open Go.RowKit Go.ChangeShapes Go.WideShapes Go.Deep Go.Joins
section
variable {H : Type} {enc : TypeId × Value → H} {w : World} {base : Nat} {spare : Nat → Bool} {held : Bool}
end
end Go.Proofs.YtflgpccacloadaaDoor.Am
/- Plain law: what the search finds, said by assignments. -/
namespace Go.Proofs.YtflgpccacloadaaDoor.Am
open Go.RowKit
abbrev Asg := ByteArray → ByteArray
def trm (σ : Asg) (s : ByteArray) : ByteArray := if isV s = true then σ s else s
def inst (σ : Asg) (a : GAtom) : GAtom := ⟨a.Name, a.Args.map (trm σ)⟩
/-- an assignment goes on from a binding -/
def Agr (b : Bd) (σ : Asg) : Prop := ∀ s v, getM b s = some v → σ s = v
theorem getM_setM {b : Bd} {k v s : ByteArray} : getM (setM b k v) s = if k = s then some v else getM b s := by
  induction b with
  | nil => rw [setM, getM]; split <;> simp [getM] <;> assumption
  | cons y r ih =>
    obtain ⟨x, u⟩ := y
    rw [setM]
    by_cases e : x = k
    · rw [if_pos e, getM, getM]
      by_cases e2 : k = s
      · rw [if_pos e2, if_pos e2]
      · rw [if_neg e2, if_neg e2, if_neg (fun e3 => e2 (e ▸ e3))]
    · rw [if_neg e, getM, getM, ih]
      by_cases e2 : x = s
      · rw [if_pos e2, if_pos e2, if_neg (fun e3 => e (e2.trans e3.symm))]
      · rw [if_neg e2, if_neg e2]
theorem tB_none {b : Bd} {s : ByteArray} (h : tB b s = none) : isV s = true ∧ getM b s = none := by
  unfold tB at h
  split at h
  · exact ⟨by assumption, h⟩
  · cases h
theorem agr_set {b : Bd} {s c : ByteArray} {σ : Asg} (h : getM b s = none) : Agr (setM b s c) σ ↔ Agr b σ ∧ σ s = c := by
  constructor
  · intro ha
    refine ⟨fun t v ht => ha t v ?_, ha s c ?_⟩
    · rw [getM_setM, if_neg (fun e => by rw [e, ht] at h; cases h)]; exact ht
    · rw [getM_setM, if_pos rfl]
  · rintro ⟨h1, h2⟩ t v ht
    rw [getM_setM] at ht
    split at ht
    · rename_i e; rw [← e, h2]; exact Option.some.inj ht
    · exact h1 t v ht
theorem tB_agr {b : Bd} {s x : ByteArray} {σ : Asg} (ha : Agr b σ) (h : tB b s = some x) : trm σ s = x := by
  unfold tB at h
  unfold trm
  split at h
  · rename_i e; rw [if_pos e]; exact ha _ _ h
  · rename_i e; rw [if_neg e]; exact Option.some.inj h
theorem uni_sound {σ : Asg} : ∀ (xs cs : List ByteArray) (b : Bd) (fr : List ByteArray), xs.length = cs.length → (uni b fr xs cs).2.1 = true → Agr (uni b fr xs cs).2.2 σ → xs.map (trm σ) = cs ∧ Agr b σ
  | [], [], b, fr, _, _, h => ⟨rfl, by rw [uni] at h; exact h; simp⟩
  | s :: r, [], b, fr, hl, _, _ => by simp at hl
  | [], c :: q, b, fr, hl, _, _ => by simp at hl
  | s :: r, c :: q, b, fr, hl, h1, h2 => by
    rw [uni] at h1 h2
    cases ht : tB b s with
    | none =>
      rw [ht] at h1 h2
      obtain ⟨hv, hg⟩ := tB_none ht
      obtain ⟨h3, h4⟩ := uni_sound r q _ _ (by simpa using hl) h1 h2
      obtain ⟨h5, h6⟩ := (agr_set hg).1 h4
      exact ⟨by rw [List.map_cons, h3, trm, if_pos hv, h6], h5⟩
    | some x =>
      rw [ht] at h1 h2
      simp only [] at h1 h2
      by_cases e : x = c
      · rw [if_pos e] at h1 h2
        obtain ⟨h3, h4⟩ := uni_sound r q _ _ (by simpa using hl) h1 h2
        exact ⟨by rw [List.map_cons, h3, tB_agr h4 ht, e], h4⟩
      · rw [if_neg e] at h1; cases h1
theorem uni_comp {σ : Asg} : ∀ (xs cs : List ByteArray) (b : Bd) (fr : List ByteArray), xs.map (trm σ) = cs → Agr b σ → (uni b fr xs cs).2.1 = true ∧ Agr (uni b fr xs cs).2.2 σ
  | [], [], b, fr, _, h => by rw [uni]; exact ⟨rfl, h⟩; simp
  | s :: r, [], b, fr, hl, _ => by simp at hl
  | [], c :: q, b, fr, hl, _ => by simp at hl
  | s :: r, c :: q, b, fr, hl, ha => by
    obtain ⟨h1, h2⟩ := List.cons.inj hl
    rw [uni]
    cases ht : tB b s with
    | none =>
      obtain ⟨hv, hg⟩ := tB_none ht
      refine uni_comp r q _ _ h2 ((agr_set hg).2 ⟨ha, ?_⟩)
      rw [← h1, trm, if_pos hv]
    | some x =>
      simp only []
      rw [if_pos (by rw [← h1, tB_agr ha ht])]
      exact uni_comp r q _ _ h2 ha
theorem getM_key {b : Bd} {s : ByteArray} : getM b s = none ↔ s ∉ b.map Prod.fst := by
  induction b with
  | nil => simp [getM]
  | cons y r ih =>
    obtain ⟨x, u⟩ := y
    rw [getM, List.map_cons, List.mem_cons]
    by_cases e : x = s
    · rw [if_pos e]; simp [e]
    · rw [if_neg e, ih]
      simp [Ne.symm e]
theorem set_keys {b : Bd} {s c : ByteArray} (h : getM b s = none) : (setM b s c).map Prod.fst = b.map Prod.fst ++ [s] := by
  rw [setM_none (fun p hp e => (getM_key.1 h) (List.mem_map.2 ⟨p, hp, e⟩)), List.map_append]
  rfl
theorem uni_keys : ∀ (xs cs : List ByteArray) (b : Bd) (fr : List ByteArray), xs.length = cs.length → (uni b fr xs cs).2.1 = true → (uni b fr xs cs).2.2.map Prod.fst = xs.foldl addV (b.map Prod.fst)
  | [], [], b, fr, _, _ => by rw [uni]; rfl; simp
  | s :: r, [], b, fr, hl, _ => by simp at hl
  | [], c :: q, b, fr, hl, _ => by simp at hl
  | s :: r, c :: q, b, fr, hl, h1 => by
    rw [uni] at h1 ⊢
    rw [List.foldl_cons]
    cases ht : tB b s with
    | none =>
      rw [ht] at h1
      obtain ⟨hv, hg⟩ := tB_none ht
      have := uni_keys r q _ _ (by simpa using hl) h1
      refine this.trans ?_
      rw [set_keys hg, addV, if_pos hv, if_neg (getM_key.1 hg)]
    | some x =>
      rw [ht] at h1
      simp only [] at h1 ⊢
      by_cases e : x = c
      · rw [if_pos e] at h1 ⊢
        refine (uni_keys r q _ _ (by simpa using hl) h1).trans ?_
        unfold tB at ht
        split at ht
        · rename_i hv
          rw [addV, if_pos hv, if_pos]
          refine Classical.byContradiction fun hn => ?_
          rw [getM_key.2 hn] at ht
          cases ht
        · rename_i hv
          rw [addV, if_neg hv]
      · rw [if_neg e] at h1; cases h1
theorem dif_agr {b : Bd} {un : List (ByteArray × ByteArray)} {σ : Asg} (ha : Agr b σ) (h : ∀ p ∈ un, trm σ p.1 ≠ trm σ p.2) : dif b un = true := by
  refine List.all_eq_true.2 fun p hp => ?_
  unfold difP
  split
  · rename_i x y h1 h2
    rw [← tB_agr ha h1, ← tB_agr ha h2]
    exact decide_eq_true (h p hp)
  · rfl
theorem sols_comp {S : GSet} {un : List (ByteArray × ByteArray)} {σ : Asg} (hu : ∀ p ∈ un, trm σ p.1 ≠ trm σ p.2) : ∀ (body : List GAtom) (b : Bd), Agr b σ → (∀ a ∈ body, inst σ a ∈ S) → ∃ b' ∈ sols S un body b, Agr b' σ
  | [], b, ha, _ => by
    rw [sols, if_pos (dif_agr ha hu)]
    exact ⟨b, List.mem_singleton.2 rfl, ha⟩
  | a :: r, b, ha, h => by
    rw [sols, if_pos (dif_agr ha hu)]
    have h1 := h a (List.mem_cons_self ..)
    obtain ⟨h2, h3⟩ := uni_comp a.Args (inst σ a).Args b [] rfl ha
    obtain ⟨b', h4, h5⟩ := sols_comp hu r _ h3 (fun x hx => h x (List.mem_cons_of_mem _ hx))
    refine ⟨b', List.mem_flatMap.2 ⟨inst σ a, grp_mem.2 ⟨h1, rfl, by simp [inst]⟩, ?_⟩, h5⟩
    rw [if_pos h2]
    exact h4
theorem sols_sound {S : GSet} {un : List (ByteArray × ByteArray)} : ∀ (body : List GAtom) (b b' : Bd), b' ∈ sols S un body b →
    dif b' un = true ∧ b'.map Prod.fst = (body.flatMap (·.Args)).foldl addV (b.map Prod.fst) ∧ ∀ σ, Agr b' σ → Agr b σ ∧ ∀ a ∈ body, inst σ a ∈ S
  | [], b, b', h => by
    rw [sols] at h
    split at h
    · rename_i hd
      rw [List.mem_singleton.1 h]
      exact ⟨hd, rfl, fun σ hs => ⟨hs, fun a ha => by cases ha⟩⟩
    · cases h
  | a :: r, b, b', h => by
    rw [sols] at h
    split at h
    · obtain ⟨f, hf, h⟩ := List.mem_flatMap.1 h
      obtain ⟨g1, g2, g3⟩ := grp_mem.1 hf
      split at h
      · rename_i hu
        obtain ⟨h1, h2, h3⟩ := sols_sound r _ b' h
        refine ⟨h1, ?_, fun σ hs => ?_⟩
        · rw [h2, uni_keys _ _ _ _ g3.symm hu, List.flatMap_cons, List.foldl_append]
        · obtain ⟨h4, h5⟩ := h3 σ hs
          obtain ⟨h6, h7⟩ := uni_sound _ _ _ _ g3.symm hu h4
          refine ⟨h7, fun x hx => ?_⟩
          rcases List.mem_cons.1 hx with e | e
          · subst e
            have : inst σ x = f := by
              obtain ⟨n, q⟩ := f
              unfold inst
              simp only at g2 h6
              rw [h6, g2]
            rw [this]; exact g1
          · exact h5 x e
      · cases h
    · cases h
/-- the assignment of a binding -/
def asg (b : Bd) : Asg := fun s => (getM b s).getD (⟨#[]⟩ : ByteArray)
theorem agr_asg (b : Bd) : Agr b (asg b) := fun s v h => by unfold asg; rw [h]; rfl
theorem tB_key {b : Bd} {s : ByteArray} (h : isV s = true → s ∈ b.map Prod.fst) : ∃ x, tB b s = some x := by
  unfold tB
  split
  · rename_i hv
    cases hg : getM b s with
    | none => exact absurd (h hv) (getM_key.1 hg)
    | some x => exact ⟨x, rfl⟩
  · exact ⟨s, rfl⟩
theorem hatom_agr {b : Bd} {h : GAtom} {σ : Asg} (ha : Agr b σ) (hk : ∀ s ∈ h.Args, isV s = true → s ∈ b.map Prod.fst) : hatom b h = inst σ h := by
  unfold hatom inst
  congr 1
  refine List.map_congr_left fun s hs => ?_
  obtain ⟨x, hx⟩ := tB_key (hk s hs)
  rw [hx, tB_agr ha hx]
  rfl
theorem dif_sound {b : Bd} {un : List (ByteArray × ByteArray)} {σ : Asg} (ha : Agr b σ) (hk : ∀ p ∈ un, (isV p.1 = true → p.1 ∈ b.map Prod.fst) ∧ (isV p.2 = true → p.2 ∈ b.map Prod.fst)) (h : dif b un = true) : ∀ p ∈ un, trm σ p.1 ≠ trm σ p.2 := by
  intro p hp
  have h1 := List.all_eq_true.1 h p hp
  obtain ⟨x, hx⟩ := tB_key (hk p hp).1
  obtain ⟨y, hy⟩ := tB_key (hk p hp).2
  unfold difP at h1
  rw [hx, hy] at h1
  rw [tB_agr ha hx, tB_agr ha hy]
  exact of_decide_eq_true h1
/-- a rule whose terms are known -/
structure Known (r : GRule) : Prop where
  head : ∀ s ∈ r.Head.Args, isV s = true → s ∈ vars r.Body
  un : ∀ p ∈ r.Unequal, (isV p.1 = true → p.1 ∈ vars r.Body) ∧ (isV p.2 = true → p.2 ∈ vars r.Body)
theorem known_of {r : GRule} (h : ckR r = .nil) : Known r := by
  unfold ckR at h
  split at h
  · cases h
  · rename_i hn
    have hn : ∀ s ∈ terms r, isV s = true → s ∈ vars r.Body := fun s hs hv => Classical.byContradiction fun q => hn (List.any_eq_true.2 ⟨s, hs, by unfold badT; rw [hv, decide_eq_false q]; rfl⟩)
    refine ⟨fun s hs => hn s (List.mem_append_left _ hs), fun p hp => ⟨hn _ (List.mem_append_right _ ?_), hn _ (List.mem_append_right _ ?_)⟩⟩
    · exact List.mem_flatMap.2 ⟨p, hp, by simp⟩
    · exact List.mem_flatMap.2 ⟨p, hp, by simp⟩
/-- an assignment that satisfies a rule's body -/
def Sat (S : GAtom → Prop) (r : GRule) (σ : Asg) : Prop := (∀ a ∈ r.Body, S (inst σ a)) ∧ ∀ p ∈ r.Unequal, trm σ p.1 ≠ trm σ p.2
theorem rheads_mem {S : GSet} {r : GRule} (hk : Known r) {z : GAtom} : z ∈ rheads S r ↔ ∃ σ, Sat (· ∈ S) r σ ∧ z = inst σ r.Head := by
  unfold rheads rsols
  rw [List.mem_map]
  constructor
  · rintro ⟨b, hb, rfl⟩
    obtain ⟨h1, h2, h3⟩ := sols_sound _ _ _ hb
    refine ⟨asg b, ⟨(h3 _ (agr_asg b)).2, dif_sound (agr_asg b) (fun p hp => ?_) h1⟩, hatom_agr (agr_asg b) (fun s hs => ?_)⟩
    · rw [h2]; exact hk.un p hp
    · rw [h2]; exact hk.head s hs
  · rintro ⟨σ, ⟨h1, h2⟩, rfl⟩
    obtain ⟨b, hb, ha⟩ := sols_comp h2 r.Body [] (fun s v h => by cases h) h1
    refine ⟨b, hb, hatom_agr ha (fun s hs => ?_)⟩
    rw [(sols_sound _ _ _ hb).2.1]
    exact hk.head s hs
theorem allH_mem {S : GSet} {rules : List GRule} (hk : ∀ r ∈ rules, Known r) {z : GAtom} : z ∈ allH S rules ↔ ∃ r ∈ rules, ∃ σ, Sat (· ∈ S) r σ ∧ z = inst σ r.Head := by
  unfold allH
  rw [List.mem_flatMap]
  constructor
  · rintro ⟨r, hr, h⟩; exact ⟨r, hr, (rheads_mem (hk r hr)).1 h⟩
  · rintro ⟨r, hr, h⟩; exact ⟨r, hr, (rheads_mem (hk r hr)).2 h⟩
end Go.Proofs.YtflgpccacloadaaDoor.Am
/- Plain law: how many bindings and heads there are. -/
namespace Go.Proofs.YtflgpccacloadaaDoor.Am
open Go.RowKit
def prodL (C : List ByteArray) : Nat → List (List ByteArray)
  | 0 => [[]]
  | n + 1 => C.flatMap (fun c => (prodL C n).map (c :: ·))
theorem prodL_len (C : List ByteArray) : ∀ n, (prodL C n).length = C.length ^ n
  | 0 => rfl
  | n + 1 => by
    have h := prodL_len C n
    rw [prodL, List.length_flatMap]
    have : (C.map fun c => ((prodL C n).map (c :: ·)).length).sum = C.length * (prodL C n).length := by
      generalize prodL C n = P
      induction C with
      | nil => simp
      | cons x r ih => 
        have e : ∀ l : List ByteArray, (l.map fun c => (P.map (c :: ·)).length).sum = l.length * P.length := by
          intro l
          induction l with
          | nil => simp
          | cons y q ih2 => rw [List.map_cons, List.sum_cons, ih2, List.length_map, List.length_cons, Nat.succ_mul]; omega
        exact e _
    rw [this, h, Nat.pow_succ, Nat.mul_comm]
theorem prodL_mem {C : List ByteArray} : ∀ {n : Nat} {l : List ByteArray}, l.length = n → (∀ x ∈ l, x ∈ C) → l ∈ prodL C n
  | 0, [], _, _ => List.mem_singleton.2 rfl
  | n + 1, x :: r, h, hc => by
    rw [prodL]
    exact List.mem_flatMap.2 ⟨x, hc x (List.mem_cons_self ..), List.mem_map.2 ⟨r, prodL_mem (by simpa using h) (fun y hy => hc y (List.mem_cons_of_mem _ hy)), rfl⟩⟩
  | 0, x :: r, h, _ => by simp at h
  | n + 1, [], h, _ => by simp at h
theorem nodup_flatMap {α β : Type} {f : α → List β} : ∀ {l : List α}, l.Nodup → (∀ x ∈ l, (f x).Nodup) → (∀ x ∈ l, ∀ y ∈ l, x ≠ y → ∀ z, z ∈ f x → z ∈ f y → False) → (l.flatMap f).Nodup
  | [], _, _, _ => List.nodup_nil
  | a :: r, hn, h1, h2 => by
    obtain ⟨ha, hr⟩ := List.nodup_cons.1 hn
    rw [List.flatMap_cons]
    refine List.nodup_append.2 ⟨h1 a (List.mem_cons_self ..), nodup_flatMap hr (fun x hx => h1 x (List.mem_cons_of_mem _ hx)) (fun x hx y hy => h2 x (List.mem_cons_of_mem _ hx) y (List.mem_cons_of_mem _ hy)), fun z hz w hw e => ?_⟩
    obtain ⟨x, hx, hw⟩ := List.mem_flatMap.1 hw
    exact h2 a (List.mem_cons_self ..) x (List.mem_cons_of_mem _ hx) (fun q => ha (q ▸ hx)) z hz (e ▸ hw)
theorem sols_nodup {S : GSet} (hS : S.Nodup) {un : List (ByteArray × ByteArray)} : ∀ (body : List GAtom) (b : Bd), (sols S un body b).Nodup
  | [], b => by
    rw [sols]
    split <;> simp
  | a :: r, b => by
    rw [sols]
    split
    · refine nodup_flatMap (by rw [grp_eq]; exact hS.filter _) (fun f _ => ?_) (fun f hf f' hf' hne z hz hz' => ?_)
      · split
        · exact sols_nodup hS r _
        · exact List.nodup_nil
      · obtain ⟨_, g2, g3⟩ := grp_mem.1 hf
        obtain ⟨_, g2', g3'⟩ := grp_mem.1 hf'
        split at hz
        · rename_i hu
          split at hz'
          · rename_i hu'
            have h1 := ((sols_sound r _ z hz).2.2 _ (agr_asg z)).1
            have h1' := ((sols_sound r _ z hz').2.2 _ (agr_asg z)).1
            have h2 := (uni_sound _ _ _ _ g3.symm hu h1).1
            have h2' := (uni_sound _ _ _ _ g3'.symm hu' h1').1
            refine hne ?_
            obtain ⟨n, x⟩ := f
            obtain ⟨n', x'⟩ := f'
            simp only at g2 g2' h2 h2'
            rw [g2, g2', ← h2, ← h2']
          · cases hz'
        · cases hz
    · exact List.nodup_nil
theorem uni_vals {C : List ByteArray} : ∀ (xs cs : List ByteArray) (b : Bd) (fr : List ByteArray), (∀ x ∈ cs, x ∈ C) → (∀ p ∈ b, p.2 ∈ C) → ∀ p ∈ (uni b fr xs cs).2.2, p.2 ∈ C
  | [], cs, b, fr, _, h => by rw [uni]; exact h; simp
  | s :: r, [], b, fr, _, h => by rw [uni]; exact h; simp
  | s :: r, c :: q, b, fr, hc, h => by
    rw [uni]
    cases ht : tB b s with
    | none =>
      refine uni_vals r q _ _ (fun x hx => hc x (List.mem_cons_of_mem _ hx)) (fun p hp => ?_)
      rw [setM_none (fun p hp e => (getM_key.1 (tB_none ht).2) (List.mem_map.2 ⟨p, hp, e⟩))] at hp
      rcases List.mem_append.1 hp with e | e
      · exact h p e
      · rw [List.mem_singleton.1 e]; exact hc c (List.mem_cons_self ..)
    | some x =>
      simp only []
      split
      · exact uni_vals r q _ _ (fun x hx => hc x (List.mem_cons_of_mem _ hx)) h
      · exact h
/-- a set over some constants -/
def Over (C : List ByteArray) (S : GSet) : Prop := ∀ a ∈ S, ∀ x ∈ a.Args, x ∈ C
theorem sols_vals {C : List ByteArray} {S : GSet} (hS : Over C S) {un : List (ByteArray × ByteArray)} : ∀ (body : List GAtom) (b b' : Bd), (∀ p ∈ b, p.2 ∈ C) → b' ∈ sols S un body b → ∀ p ∈ b', p.2 ∈ C
  | [], b, b', hb, h => by
    rw [sols] at h
    split at h
    · rw [List.mem_singleton.1 h]; exact hb
    · cases h
  | a :: r, b, b', hb, h => by
    rw [sols] at h
    split at h
    · obtain ⟨f, hf, h⟩ := List.mem_flatMap.1 h
      split at h
      · exact sols_vals hS r _ b' (uni_vals _ _ _ _ (hS f (grp_mem.1 hf).1) hb) h
      · cases h
    · cases h
theorem zip_eq {α β : Type} : ∀ {l l' : List (α × β)}, l.map Prod.fst = l'.map Prod.fst → l.map Prod.snd = l'.map Prod.snd → l = l'
  | [], [], _, _ => rfl
  | [], y :: r, h, _ => by simp at h
  | x :: r, [], h, _ => by simp at h
  | (a, b) :: r, (c, d) :: q, h, h' => by
    obtain ⟨h1, h2⟩ := List.cons.inj h
    obtain ⟨h3, h4⟩ := List.cons.inj h'
    simp only at h1 h3
    rw [h1, h3, zip_eq h2 h4]
theorem rsols_len {C : List ByteArray} {S : GSet} (hS : Over C S) (hn : S.Nodup) (r : GRule) : (rsols S r).length ≤ C.length ^ (vars r.Body).length := by
  have h1 : ((rsols S r).map (fun b => b.map Prod.snd)).Nodup := by
    refine List.pairwise_map.2 ((sols_nodup hn r.Body []).imp_of_mem (fun {b b'} hb hb' hne e => hne (zip_eq ?_ e)))
    rw [(sols_sound _ _ _ hb).2.1, (sols_sound _ _ _ hb').2.1]
  have h2 := nodup_sub (b := prodL C (vars r.Body).length) h1 (fun l hl => by
    obtain ⟨b, hb, rfl⟩ := List.mem_map.1 hl
    refine prodL_mem ?_ (fun x hx => ?_)
    · rw [List.length_map, ← List.length_map (f := Prod.fst), (sols_sound _ _ _ hb).2.1]; rfl
    · obtain ⟨p, hp, rfl⟩ := List.mem_map.1 hx
      exact sols_vals hS _ _ _ (fun p hp => by cases hp) hb p hp)
  rw [prodL_len, List.length_map] at h2
  exact h2
/-- the atoms that a rule can make -/
def made1 (C : List ByteArray) (r : GRule) : List GAtom :=
  if r.Head.Args.length ≤ (vars r.Body).length then (prodL C r.Head.Args.length).map (fun l => ⟨r.Head.Name, l⟩)
  else (prodL C (vars r.Body).length).map (fun l => hatom ((vars r.Body).zip l) r.Head)
theorem made1_len (C : List ByteArray) (r : GRule) : (made1 C r).length = C.length ^ min r.Head.Args.length (vars r.Body).length := by
  unfold made1
  split
  · rw [List.length_map, prodL_len, Nat.min_eq_left (by assumption)]
  · rw [List.length_map, prodL_len, Nat.min_eq_right (by omega)]
theorem zip_self {α β : Type} : ∀ l : List (α × β), (l.map Prod.fst).zip (l.map Prod.snd) = l
  | [] => rfl
  | (a, b) :: r => by rw [List.map_cons, List.map_cons, List.zip_cons_cons, zip_self r]
theorem getM_val {b : Bd} {s v : ByteArray} (h : getM b s = some v) : ∃ p ∈ b, p.2 = v := by
  induction b with
  | nil => cases h
  | cons y r ih =>
    obtain ⟨x, u⟩ := y
    rw [getM] at h
    split at h
    · exact ⟨_, List.mem_cons_self .., Option.some.inj h⟩
    · obtain ⟨p, hp, e⟩ := ih h
      exact ⟨p, List.mem_cons_of_mem _ hp, e⟩
theorem rheads_made {C : List ByteArray} {S : GSet} (hS : Over C S) {r : GRule} (hk : Known r) (hc : ∀ x ∈ r.Head.Args, isV x = false → x ∈ C) {z : GAtom} (hz : z ∈ rheads S r) : z ∈ made1 C r ∧ ∀ x ∈ z.Args, x ∈ C := by
  obtain ⟨b, hb, rfl⟩ := List.mem_map.1 hz
  obtain ⟨_, h2, _⟩ := sols_sound _ _ _ hb
  have hv := sols_vals hS _ _ _ (fun p hp => by cases hp) hb
  have h3 : ∀ x ∈ (hatom b r.Head).Args, x ∈ C := by
    intro x hx
    obtain ⟨t, ht, rfl⟩ := List.mem_map.1 hx
    unfold tB
    cases ht2 : isV t with
    | false => exact hc t ht ht2
    | true =>
      rw [if_pos rfl]
      cases hg : getM b t with
      | none => exact absurd (by rw [h2]; exact hk.head t ht ht2) (getM_key.1 hg)
      | some v =>
        obtain ⟨p, hp, e⟩ := getM_val hg
        rw [Option.getD_some, ← e]
        exact hv p hp
  refine ⟨?_, h3⟩
  unfold made1
  split
  · exact List.mem_map.2 ⟨(hatom b r.Head).Args, prodL_mem (by simp [hatom]) h3, rfl⟩
  · refine List.mem_map.2 ⟨b.map Prod.snd, prodL_mem ?_ (fun x hx => ?_), ?_⟩
    · rw [List.length_map, ← List.length_map (f := Prod.fst), h2]; rfl
    · obtain ⟨p, hp, rfl⟩ := List.mem_map.1 hx
      exact hv p hp
    · have : vars r.Body = b.map Prod.fst := h2.symm
      rw [this, zip_self]
theorem flat_len {α β : Type} (f : α → List β) (n : α → Nat) (hf : ∀ x, (f x).length = n x) : ∀ l : List α, (l.flatMap f).length = (l.map n).sum
  | [] => rfl
  | x :: r => by rw [List.flatMap_cons, List.length_append, flat_len f n hf r, List.map_cons, List.sum_cons, hf]
theorem flat_le {α β : Type} (f : α → List β) (k : Nat) : ∀ l : List α, (∀ x ∈ l, (f x).length ≤ k) → (l.flatMap f).length ≤ l.length * k
  | [], _ => by simp
  | x :: r, h => by
    rw [List.flatMap_cons, List.length_append, List.length_cons, Nat.succ_mul]
    have h1 := h x (List.mem_cons_self ..)
    have h2 := flat_le f k r (fun y hy => h y (List.mem_cons_of_mem _ hy))
    omega
/-- the constants of a program -/
def addC (out : List ByteArray) (s : ByteArray) : List ByteArray := if s ∈ out then out else if isV s = true then out else out ++ [s]
def consts (l : List GAtom) : List ByteArray := (l.flatMap (·.Args)).foldl addC []
theorem addC_mem : ∀ (l out : List ByteArray) (x : ByteArray), x ∈ l.foldl addC out ↔ x ∈ out ∨ x ∈ l ∧ isV x = false
  | [], out, x => by simp
  | s :: r, out, x => by
    rw [List.foldl_cons, addC_mem r, List.mem_cons]
    unfold addC
    by_cases h1 : s ∈ out
    · rw [if_pos h1]
      constructor
      · rintro (h | ⟨h, h'⟩)
        · exact .inl h
        · exact .inr ⟨.inr h, h'⟩
      · rintro (h | ⟨h | h, h'⟩)
        · exact .inl h
        · exact .inl (h ▸ h1)
        · exact .inr ⟨h, h'⟩
    · rw [if_neg h1]
      cases hv : isV s with
      | true =>
        rw [if_pos rfl]
        constructor
        · rintro (h | ⟨h, h'⟩)
          · exact .inl h
          · exact .inr ⟨.inr h, h'⟩
        · rintro (h | ⟨h | h, h'⟩)
          · exact .inl h
          · rw [h, hv] at h'; cases h'
          · exact .inr ⟨h, h'⟩
      | false =>
        rw [if_neg (by decide), List.mem_append, List.mem_singleton]
        constructor
        · rintro ((h | h) | ⟨h, h'⟩)
          · exact .inl h
          · exact .inr ⟨.inl h, h ▸ hv⟩
          · exact .inr ⟨.inr h, h'⟩
        · rintro (h | ⟨h | h, h'⟩)
          · exact .inl (.inl h)
          · exact .inl (.inr h)
          · exact .inr ⟨h, h'⟩
end Go.Proofs.YtflgpccacloadaaDoor.Am
/- Plain law: the sizes of a program (Large). -/
namespace Go.Proofs.YtflgpccacloadaaDoor.Am
open Go.RowKit
/-- a rule that is not too large -/
structure SmR (r : GRule) : Prop where
  body : r.Body.length ≤ 3 ∨ 17 ≤ r.Body.length
  b20 : r.Body.length ≤ 20
  un : r.Unequal.length ≤ 6
  atoms : ∀ a ∈ r.Head :: r.Body, a.Args.length ≤ 8 ∧ a.Name.size ≤ 100
def rAtoms (r : GRule) : List GAtom := r.Head :: r.Body
def allA (p : GProgram) : List GAtom := p.Facts ++ p.Rules.flatMap rAtoms
structure Small (p : GProgram) : Prop where
  facts : p.Facts.length ≤ 30
  rules : p.Rules.length ≤ 8
  fargs : ∀ a ∈ p.Facts, a.Args.length ≤ 8 ∧ a.Name.size ≤ 100
  rule : ∀ r ∈ p.Rules, SmR r
  pow : ∀ r ∈ p.Rules, (consts (allA p)).length ^ (vars r.Body).length < 1000
  sum : (p.Rules.map (fun r => (consts (allA p)).length ^ min r.Head.Args.length (vars r.Body).length)).sum ≤ 300
end Go.Proofs.YtflgpccacloadaaDoor.Am
/- Plain law: the reference's comparison, membership and insertion of atoms. -/
namespace Go.Proofs.YtflgpccacloadaaDoor.Am
open Go.RowKit
def argC : List ByteArray → List ByteArray → Int
  | x :: r, y :: q => if strC x y < 0 then -1 else if x = y then argC r q else 1
  | a, b => (a.length : Int) - b.length
theorem argC_sign : ∀ a b, (argC a b < 0 ↔ lexC strC a b < 0) ∧ (argC a b = 0 ↔ lexC strC a b = 0)
  | [], [] => by simp [argC, lexC]
  | [], y :: q => by simp [argC, lexC]; omega
  | x :: r, [] => by simp [argC, lexC]; omega
  | x :: r, y :: q => by
    rw [argC, lexC]
    by_cases h : strC x y < 0
    · rw [if_pos h, if_neg (by omega)]
      exact ⟨⟨fun _ => h, fun _ => by omega⟩, ⟨fun e => by omega, fun e => by omega⟩⟩
    · rw [if_neg h]
      by_cases e : x = y
      · rw [if_pos e, if_pos ((strC_cmp.eq x y).2 e)]
        exact argC_sign r q
      · have h0 : ¬ strC x y = 0 := fun q => e ((strC_cmp.eq x y).1 q)
        rw [if_neg e, if_neg h0]
        exact ⟨⟨fun e => by omega, fun e => by omega⟩, ⟨fun e => by omega, fun e => by omega⟩⟩
def refC (a b : GAtom) : Int := if a.Name = b.Name then argC a.Args b.Args else if strC a.Name b.Name < 0 then -1 else 1
theorem refC_sign (a b : GAtom) : (refC a b < 0 ↔ atomC a b < 0) ∧ (refC a b = 0 ↔ a = b) := by
  rw [← atomC_cmp.eq a b, atomC_def]
  unfold refC
  by_cases e : a.Name = b.Name
  · rw [if_pos e, if_pos ((strC_cmp.eq _ _).2 e)]
    exact argC_sign _ _
  · have h0 : ¬ strC a.Name b.Name = 0 := fun q => e ((strC_cmp.eq _ _).1 q)
    rw [if_neg e, if_neg h0]
    by_cases h : strC a.Name b.Name < 0
    · rw [if_pos h]
      exact ⟨⟨fun _ => h, fun _ => by omega⟩, ⟨fun e => by omega, fun e => by omega⟩⟩
    · rw [if_neg h]
      exact ⟨⟨fun e => by omega, fun e => by omega⟩, ⟨fun e => by omega, fun e => by omega⟩⟩
theorem cmp_loop (a b : GAtom) (ha : a.Args.length ≤ 4611686018427387904) (hb : b.Args.length ≤ 4611686018427387904) : ∀ (k i : Nat), a.Args.length + 1 ≤ i + k → i ≤ a.Args.length → i ≤ b.Args.length →
    ob1 (M_r10_Compare_L1 a b k (i : Int) : Option (Unit ⊕ Int)) (osum (fun _ => some (IntKind.i64.wrap (((a.Args.map cS).length : Int) - ((b.Args.map cS).length : Int)))) (fun r19 => some r19)) = some (argC (a.Args.drop i) (b.Args.drop i)) := by
  intro k
  induction k with
  | zero => intro i h1 h2; omega
  | succ k ih =>
    intro i h1 h2 h3
    rw [M_r10_Compare_L1]
    by_cases h : i < a.Args.length
    · have hy := List.getElem?_eq_getElem h
      rw [show decide ((i : Int) < ((a.Args.map cS).length : Int)) = true by simp; omega]
      by_cases h' : i < b.Args.length
      · have hz := List.getElem?_eq_getElem h'
        rw [show decide ((i : Int) < ((b.Args.map cS).length : Int)) = true by simp; omega]
        show ob1 (ix a.Args (i : Int) _) _ = _
        rw [ix_at hy, ix_at hz, less_str, sel_dec, dropC hy, dropC hz, argC]
        by_cases e : strC a.Args[i] b.Args[i] < 0
        · rw [if_pos e, if_pos e]; rfl
        · rw [if_neg e, if_neg e, ix_at hy, ix_at hz, beq_bl]
          by_cases e2 : a.Args[i] = b.Args[i]
          · rw [if_pos e2, decide_eq_true e2, Bool.or_true, wrap_eq (by omega) (by omega)]
            exact ih (i + 1) (by omega) (by omega) (by omega)
          · rw [if_neg e2, decide_eq_false e2, less_str, decide_eq_false e]; rfl
      · rw [show decide ((i : Int) < ((b.Args.map cS).length : Int)) = false by simp; omega]
        show some (IntKind.i64.wrap _) = _
        rw [List.drop_of_length_le (show b.Args.length ≤ i by omega), dropC hy, argC, List.length_map, List.length_map, wrap_eq (by omega) (by omega)]
        · simp only [List.length_cons, List.length_drop, List.length_nil]
          exact congrArg some (by omega)
        · intro x r y q _ h; cases h
    · rw [show decide ((i : Int) < ((a.Args.map cS).length : Int)) = false by simp; omega]
      show some (IntKind.i64.wrap _) = _
      rw [List.drop_of_length_le (show a.Args.length ≤ i by omega), argC, List.length_map, List.length_map, wrap_eq (by omega) (by omega)]
      · simp only [List.length_drop, List.length_nil]
        exact congrArg some (by omega)
      · intro x r y q h; cases h
theorem cmp_eq (g : Nat) (a b : GAtom) (ha : a.Args.length ≤ 4611686018427387904) (hb : b.Args.length ≤ 4611686018427387904) (hg : a.Args.length < g) : M_r10_Compare g a b = some (refC a b) := by
  unfold M_r10_Compare refC
  rw [beq_bl, sel_not, sel_dec, less_str]
  by_cases e : a.Name = b.Name
  · rw [if_pos e, if_pos e]
    have := cmp_loop a b ha hb g 0 (by omega) (Nat.zero_le _) (Nat.zero_le _)
    rw [List.drop_zero, List.drop_zero, show ((0 : Nat) : Int) = 0 from rfl] at this
    exact this
  · rw [if_neg e, if_neg e, sel_dec]
    by_cases h : strC a.Name b.Name < 0
    · rw [if_pos h, if_pos h]
    · rw [if_neg h, if_neg h]
/-- atoms of few arguments -/
def Few (g : Nat) (l : List GAtom) : Prop := ∀ a ∈ l, a.Args.length ≤ 1000000000 ∧ a.Args.length < g
theorem has10_loop (g : Nat) (l : List GAtom) (a : GAtom) (hl : l.length ≤ 4611686018427387904) (hf : Few g l) (ha : a.Args.length ≤ 1000000000) : ∀ (k i : Nat), l.length + 1 ≤ i + k → i ≤ l.length → M_r10_Has_L1 l a g k (i : Int) = some (decide (a ∈ l.drop i)) := by
  intro k
  induction k with
  | zero => intro i h1 h2; omega
  | succ k ih =>
    intro i h1 h2
    rw [M_r10_Has_L1]
    by_cases h : i < l.length
    · have hy := List.getElem?_eq_getElem h
      have hm := hf _ (List.getElem_mem h)
      rw [show decide ((i : Int) < ((l.map cGAtom).length : Int)) = true by simp; omega]
      show ix l (i : Int) _ = _
      rw [ix_at hy, cmp_eq g _ _ (by omega) (by omega) hm.2, ob1_some, beq_int, sel_dec, dropC hy, wrap_eq (by omega) (by omega)]
      by_cases e : refC l[i] a = 0
      · rw [if_pos e]
        exact congrArg some (decide_eq_true (List.mem_cons.2 (.inl ((refC_sign _ _).2.1 e).symm))).symm
      · rw [if_neg e]
        have := ih (i + 1) (by omega) (by omega)
        rw [show ((i + 1 : Nat) : Int) = (i : Int) + 1 from rfl] at this
        rw [this]
        refine congrArg some (decide_eq_decide.2 ⟨fun q => List.mem_cons_of_mem _ q, fun q => ?_⟩)
        rcases List.mem_cons.1 q with q | q
        · exact absurd ((refC_sign _ _).2.2 q.symm) e
        · exact q
    · rw [show decide ((i : Int) < ((l.map cGAtom).length : Int)) = false by simp; omega]
      rw [List.drop_of_length_le (by omega)]
      rfl
theorem has10_eq (g : Nat) (l : List GAtom) (a : GAtom) (hl : l.length ≤ 4611686018427387904) (hf : Few g l) (ha : a.Args.length ≤ 1000000000) (hg : l.length < g) : M_r10_Has g l a = some (decide (a ∈ l)) := by
  unfold M_r10_Has
  have := has10_loop g l a hl hf ha g 0 (by omega) (Nat.zero_le _)
  rw [List.drop_zero] at this
  exact this
end Go.Proofs.YtflgpccacloadaaDoor.Am
/- Plain law: the reference's bindings. -/
namespace Go.Proofs.YtflgpccacloadaaDoor.Am
open Go.RowKit
def rep (b : Bd) (s : ByteArray) : ByteArray := (getM b s).getD s
section
variable (S : GSet) (body : List GAtom) (un : List (ByteArray × ByteArray)) (vs : List ByteArray) (G : Nat)
  (hn : vs.Nodup) (hV : ∀ s ∈ vs, isV s = true) (hvl : vs.length * 16 ≤ 140737488355328) (hgv : vs.length < G) (hgu : un.length < G) (hgS : S.length < G) (hgA : Few G body) (hfS : Few G S) (hG : G ≤ 4611686018427387904) (hbl : body.length < G)
  (hpow : ∀ m, m ≤ body.length → S.length ^ m * 24 ≤ 140737488355328)
include hn hV hvl hgv hgu hgS hgA hfS hG hbl hpow
end
end Go.Proofs.YtflgpccacloadaaDoor.Am
/- Plain law: the reference's Round and Solve. -/
namespace Go.Proofs.YtflgpccacloadaaDoor.Am
open Go.RowKit
/-- a world that is small enough -/
structure Wd (rules : List GRule) (S : GSet) : Prop where
  str : StrA S
  len : S.length ≤ 4096
  args : ∀ a ∈ S, a.Args.length ≤ 8
  known : ∀ r ∈ rules, Known r
  rule : ∀ r ∈ rules, r.Body.length ≤ 3 ∧ r.Unequal.length ≤ 6 ∧ ∀ a ∈ r.Head :: r.Body, a.Args.length ≤ 8
  cnt : (allH S rules).length ≤ 100000
  nr : rules.length ≤ 8
theorem few8 {g : Nat} (hg : 1000 < g) {l : List GAtom} (h : ∀ a ∈ l, a.Args.length ≤ 8) : Few g l := fun a ha => by have := h a ha; omega
theorem rheads_args {S : GSet} {r : GRule} {a : GAtom} (h : a ∈ rheads S r) : a.Args.length = r.Head.Args.length := by
  obtain ⟨b, _, rfl⟩ := List.mem_map.1 h
  simp [hatom]
/-- the first error of facts and rules, but for the sizes -/
def wrongE (facts : List GAtom) (rules : List GRule) : Er := match firstE rules with
  | .no e => .no e
  | .nil => if facts.any badF = true then .no 2 else .nil
end Go.Proofs.YtflgpccacloadaaDoor.Am
/- Plain law: the model of a program that is not too large. -/
namespace Go.Proofs.YtflgpccacloadaaDoor.Am
open Go.RowKit
/-- what follows from the facts by the rules -/
inductive Der (facts : List GAtom) (rules : List GRule) : GAtom → Prop
  | fact {a : GAtom} : a ∈ facts → Der facts rules a
  | rule {r : GRule} {σ : Asg} : r ∈ rules → (∀ a ∈ r.Body, Der facts rules (inst σ a)) → (∀ p ∈ r.Unequal, trm σ p.1 ≠ trm σ p.2) → Der facts rules (inst σ r.Head)
structure Good (p : GProgram) : Prop where
  sm : Small p
  hx : ∀ a ∈ allA p, ∀ x ∈ a.Args, isV x = false → x.size ≤ 140737488355328
def CC (p : GProgram) : List ByteArray := consts (allA p)
theorem mem_fact {p : GProgram} {a : GAtom} (h : a ∈ p.Facts) : a ∈ allA p := List.mem_append_left _ h
theorem mem_rule {p : GProgram} {r : GRule} {a : GAtom} (hr : r ∈ p.Rules) (h : a ∈ r.Head :: r.Body) : a ∈ allA p := List.mem_append_right _ (List.mem_flatMap.2 ⟨r, hr, h⟩)
theorem CC_mem {p : GProgram} {a : GAtom} {x : ByteArray} (ha : a ∈ allA p) (hx : x ∈ a.Args) (hv : isV x = false) : x ∈ CC p := (addC_mem _ _ _).2 (.inr ⟨List.mem_flatMap.2 ⟨a, ha, hx⟩, hv⟩)
theorem CC_size {p : GProgram} (hp : Good p) {x : ByteArray} (h : x ∈ CC p) : x.size ≤ 140737488355328 := by
  rcases (addC_mem _ _ _).1 h with q | ⟨q, hv⟩
  · cases q
  · obtain ⟨a, ha, hx⟩ := List.mem_flatMap.1 q
    exact hp.hx a ha x hx hv
theorem ckOk_small {p : GProgram} (hp : Small p) {r : GRule} (hr : r ∈ p.Rules) : CkOk r ∧ (r.Body.flatMap (·.Args)).length ≤ 160 ∧ r.Body.length ≤ 20 ∧ r.Head.Args.length ≤ 8 ∧ r.Unequal.length ≤ 6 := by
  obtain ⟨b1, b2, b3, b4⟩ := hp.rule r hr
  have hfl : (r.Body.flatMap (·.Args)).length ≤ 20 * 8 := Nat.le_trans (flat_le _ 8 r.Body (fun a ha => (b4 a (List.mem_cons_of_mem _ ha)).1)) (Nat.mul_le_mul_right _ b2)
  have hh := (b4 r.Head (List.mem_cons_self ..)).1
  exact ⟨⟨by omega, by omega, by omega⟩, by omega, by omega, by omega, by omega⟩
theorem firstE_all : ∀ {l : List GRule}, firstE l = .nil → ∀ r ∈ l, ckR r = .nil
  | [], _, r, hr => by cases hr
  | x :: q, h, r, hr => by
    rw [firstE] at h
    split at h
    · rename_i hx
      rcases List.mem_cons.1 hr with e | e
      · rw [e]; exact hx
      · exact firstE_all h r e
    · cases h
theorem firstE_of : ∀ {l : List GRule}, (∀ r ∈ l, ckR r = .nil) → firstE l = .nil
  | [], _ => rfl
  | x :: q, h => by
    rw [firstE, h x (List.mem_cons_self ..)]
    exact firstE_of (fun r hr => h r (List.mem_cons_of_mem _ hr))
theorem dec_len : ∀ u : Nat, (Lib.decDigits u).length ≤ u + 1 := by
  intro u
  induction u using Nat.strongRecOn with
  | _ u ih =>
    by_cases h : u < 10
    · rw [dec_sm h]; simp
    · rw [dec_bg h, List.length_append]
      have := ih (u / 10) (by omega)
      simp only [List.length_cons, List.length_nil]
      omega
theorem keyOk_of {a : GAtom} (hn : a.Name.size ≤ 100) (hl : a.Args.length ≤ 8) (hx : ∀ x ∈ a.Args, x.size ≤ 140737488355328) : KeyOk a := by
  refine ⟨?_, by omega⟩
  rw [← bl_len]
  unfold atomKey
  rw [bl_fold, bl_append, bl_append, bl_ita, List.length_append, List.length_append, List.length_append, bl_len, bl_len]
  have h1 := dec_len a.Name.size
  have h2 : (⟨#[32]⟩ : ByteArray).size = 1 := rfl
  have h3 : (a.Args.flatMap encL).length ≤ a.Args.length * 300000000000000 := flat_le _ _ _ (fun x hm => by
    have h4 := dec_len x.size
    have h5 := hx x hm
    unfold encL
    rw [List.length_cons, List.length_append, List.length_cons, bl_len]
    omega)
  have h4 : a.Args.length * 300000000000000 ≤ 8 * 300000000000000 := Nat.mul_le_mul_right _ hl
  omega
/-- the sets that a run reaches -/
structure Inv (p : GProgram) (S : GSet) : Prop where
  ck : ∀ r ∈ p.Rules, ckR r = .nil
  str : StrA S
  over : Over (CC p) S
  sml : ∀ a ∈ S, a.Args.length ≤ 8 ∧ a.Name.size ≤ 100
  frm : ∀ a ∈ S, a ∈ p.Facts ++ p.Rules.flatMap (made1 (CC p))
section
variable {p : GProgram} (hp : Good p)
include hp
theorem inv_len {S : GSet} (h : Inv p S) : S.length ≤ 330 := by
  have h1 := nodup_sub (strA_nodup h.str) h.frm
  rw [List.length_append, flat_len _ _ (made1_len (CC p))] at h1
  have h2 := hp.sm.facts
  have h3 := hp.sm.sum
  unfold CC at h1
  omega
theorem rsols_small {S : GSet} (h : Inv p S) {r : GRule} (hr : r ∈ p.Rules) : (rheads S r).length ≤ 1000 := by
  have h1 := rsols_len h.over (strA_nodup h.str) r
  have h2 := hp.sm.pow r hr
  have h3 : (rheads S r).length = (rsols S r).length := List.length_map _
  unfold CC at h1
  omega
theorem head_const {r : GRule} (hr : r ∈ p.Rules) : ∀ x ∈ r.Head.Args, isV x = false → x ∈ CC p := fun _ hx hv => CC_mem (mem_rule hr (List.mem_cons_self ..)) hx hv
theorem inv_allH {S : GSet} (h : Inv p S) : (allH S p.Rules).length ≤ 8000 := by
  have h1 : (allH S p.Rules).length ≤ p.Rules.length * 1000 := flat_le _ _ _ (fun r hr => rsols_small hp h hr)
  have h2 := hp.sm.rules
  omega
theorem inv_rnd {S : GSet} (h : Inv p S) : RndOk p.Rules S := by
  refine ⟨fun r hr => ?_, fun a ha => by have := (h.sml a ha).1; omega, by have := inv_allH hp h; omega⟩
  obtain ⟨b1, b2, b3, b4⟩ := hp.sm.rule r hr
  refine ⟨by omega, by omega, fun a ha => by have := (b4 a (List.mem_cons_of_mem _ ha)).1; omega, fun a ha => ?_⟩
  have h1 := rheads_made h.over (known_of (h.ck r hr)) (head_const hp hr) ha
  have h2 := b4 r.Head (List.mem_cons_self ..)
  refine keyOk_of ?_ (by rw [rheads_args ha]; exact h2.1) (fun x hx => CC_size hp (h1.2 x hx))
  obtain ⟨b, _, rfl⟩ := List.mem_map.1 ha
  exact h2.2
theorem inv_next {S : GSet} (h : Inv p S) : Inv p (nextS p.Rules S) := by
  have key : ∀ a ∈ allH S p.Rules, (∀ x ∈ a.Args, x ∈ CC p) ∧ (a.Args.length ≤ 8 ∧ a.Name.size ≤ 100) ∧ a ∈ p.Rules.flatMap (made1 (CC p)) := by
    intro a ha
    obtain ⟨r, hr, hq⟩ := List.mem_flatMap.1 ha
    have h1 := rheads_made h.over (known_of (h.ck r hr)) (head_const hp hr) hq
    have h2 := (hp.sm.rule r hr).atoms r.Head (List.mem_cons_self ..)
    refine ⟨h1.2, ⟨by rw [rheads_args hq]; exact h2.1, ?_⟩, List.mem_flatMap.2 ⟨r, hr, h1.1⟩⟩
    obtain ⟨b, _, rfl⟩ := List.mem_map.1 hq
    exact h2.2
  refine ⟨h.ck, (setA_spec _).1, fun a ha => ?_, fun a ha => ?_, fun a ha => ?_⟩
  · rcases mem_next.1 ha with q | q
    · exact h.over a q
    · exact (key a q).1
  · rcases mem_next.1 ha with q | q
    · exact h.sml a q
    · exact (key a q).2.1
  · rcases mem_next.1 ha with q | q
    · exact h.frm a q
    · exact List.mem_append_right _ (key a q).2.2
theorem inv_start (h1 : firstE p.Rules = .nil) (h2 : p.Facts.any badF = false) : Inv p (setA p.Facts) := by
  have hm : ∀ a, a ∈ setA p.Facts → a ∈ p.Facts := fun a ha => ((setA_spec _).2.1 a).1 ha
  refine ⟨firstE_all h1, (setA_spec _).1, fun a ha x hx => ?_, fun a ha => hp.sm.fargs a (hm a ha), fun a ha => List.mem_append_left _ (hm a ha)⟩
  refine CC_mem (mem_fact (hm a ha)) hx ?_
  have h3 := List.any_eq_false.1 h2 a (hm a ha)
  unfold badF at h3
  simp only [Bool.or_eq_true, not_or] at h3
  cases hv : isV x with
  | false => rfl
  | true => exact absurd (List.any_eq_true.2 ⟨x, hx, hv⟩) h3.2
theorem run_spec : ∀ (k : Nat) (S : GSet), Inv p S → 331 ≤ k + S.length → ∃ S', runS p.Rules k S = (S', .nil) ∧ Inv p S' ∧ nextS p.Rules S' = S' ∧ (∀ z ∈ S, z ∈ S') ∧ ∀ Q : GAtom → Prop, (∀ z ∈ S, Q z) → (∀ T : GSet, (∀ z ∈ T, Q z) → Inv p T → ∀ z ∈ allH T p.Rules, Q z) → ∀ z ∈ S', Q z := by
  intro k
  induction k with
  | zero => intro S h1 h2; have := inv_len hp h1; omega
  | succ k ih =>
    intro S h1 h2
    have h3 := inv_next hp h1
    have h4 := inv_len hp h3
    have hge := next_ge (rules := p.Rules) h1.str
    rw [runS, if_neg (by omega)]
    by_cases e : (nextS p.Rules S).length = S.length
    · rw [if_pos e]
      exact ⟨S, rfl, h1, next_fix h1.str e, fun z hz => hz, fun Q hQ _ => hQ⟩
    · rw [if_neg e]
      obtain ⟨S', g1, g2, g3, g4, g5⟩ := ih (nextS p.Rules S) h3 (by omega)
      refine ⟨S', g1, g2, g3, fun z hz => g4 z (mem_next.2 (.inl hz)), fun Q hQ hr => g5 Q (fun z hz => ?_) hr⟩
      rcases mem_next.1 hz with q | q
      · exact hQ z q
      · exact hr S hQ h1 z q
theorem solve_good (g : Nat) (hg : 3000000 < g) : M_datalog_Solve g p.Facts p.Rules = some (solveS g p.Facts p.Rules) := by
  have h1 := hp.sm.facts
  have h2 := hp.sm.rules
  refine solve_eq g p.Facts p.Rules (fun r hr => (ckOk_small hp.sm hr).1) ⟨fun a ha => by have := (hp.sm.fargs a ha).1; omega, by omega⟩ (by omega) (fun r hr => by have := (ckOk_small hp.sm hr).2.2.1; omega) hg (by omega) (Inv p) (fun h3 h4 _ => inv_start hp h3 h4) (fun S h => inv_rnd hp h) (fun S h _ => inv_next hp h)
theorem wrong_nil (hw : wrongE p.Facts p.Rules = .nil) : firstE p.Rules = .nil ∧ p.Facts.any badF = false := by
  unfold wrongE at hw
  cases hf : firstE p.Rules with
  | no e' => rw [hf] at hw; cases hw
  | nil =>
    rw [hf] at hw
    simp only [] at hw
    split at hw
    · cases hw
    · rename_i hb; exact ⟨rfl, by simpa using hb⟩
theorem solve_nil (g : Nat) (hw : wrongE p.Facts p.Rules = .nil) : solveS g p.Facts p.Rules = runS p.Rules g (setA p.Facts) := by
  obtain ⟨h1, h2⟩ := wrong_nil hp hw
  have h3 := hp.sm.rules
  have h4 := inv_len hp (inv_start hp h1 h2)
  unfold solveS
  rw [h1]
  simp only []
  rw [h2, if_neg (by decide), if_neg (by omega), if_neg (by omega)]
/-- the model: what follows, in order -/
theorem solve_der (g : Nat) (hg : 3000000 < g) (hw : wrongE p.Facts p.Rules = .nil) : ∃ S, solveS g p.Facts p.Rules = (S, .nil) ∧ Inv p S ∧ S.length ≤ 330 ∧ nextS p.Rules S = S ∧ ∀ z, z ∈ S ↔ Der p.Facts p.Rules z := by
  obtain ⟨h1, h2⟩ := wrong_nil hp hw
  obtain ⟨S, g1, g2, g3, g4, g5⟩ := run_spec hp g (setA p.Facts) (inv_start hp h1 h2) (by omega)
  have hk : ∀ r ∈ p.Rules, Known r := fun r hr => known_of (firstE_all h1 r hr)
  refine ⟨S, by rw [solve_nil hp g hw, g1], g2, inv_len hp g2, g3, fun z => ⟨fun hz => ?_, fun hz => ?_⟩⟩
  · refine g5 (Der p.Facts p.Rules) (fun z hz => .fact (((setA_spec _).2.1 z).1 hz)) (fun T hT _ z hz => ?_) z hz
    obtain ⟨r, hr, σ, ⟨h3, h4⟩, rfl⟩ := (allH_mem hk).1 hz
    exact .rule hr (fun a ha => hT _ (h3 a ha)) h4
  · induction hz with
    | fact h => exact g4 _ (((setA_spec _).2.1 _).2 h)
    | rule hr hb hu ih =>
      rw [← g3]
      exact mem_next.2 (.inr ((allH_mem hk).2 ⟨_, hr, _, ⟨ih, hu⟩, rfl⟩))
end
end Go.Proofs.YtflgpccacloadaaDoor.Am
/- Models printed by my decompiler, and the proofs that the code computes them. -/
namespace Go.Proofs.YtflgpccacloadaaDoor.Am
open Go.RowKit
end Go.Proofs.YtflgpccacloadaaDoor.Am
/- Plain law: DatalogSolves. -/
namespace Go.Proofs.YtflgpccacloadaaDoor.Am
open Go.RowKit
/-- what the guards ask -/
structure PrgOk (p : GProgram) : Prop where
  fl : p.Facts.length ≤ 3600000000000
  rl : p.Rules.length ≤ 3600000000000
  hx : ∀ a ∈ allA p, ∀ x ∈ a.Args, isV x = false → x.size ≤ 140737488355328
def GG : Nat := 4000000000000
end Go.Proofs.YtflgpccacloadaaDoor.Am
/- Readers of programs of facts and rules, with the sizes of their strings. -/
namespace Go.Proofs.YtflgpccacloadaaDoor.Am
open Go.RowKit Go.ChangeShapes Go.WideShapes Go.Deep Go.Joins
section
variable {H : Type} {enc : TypeId × Value → H} {w : World} {base : Nat} {spare : Nat → Bool} {held : Bool}
end
end Go.Proofs.YtflgpccacloadaaDoor.Am
/- Append to a part of a row that goes to the row's end: the row goes on, or a new row begins; both are to be shown. -/
namespace Go.Proofs.YtflgpccacloadaaDoor.Am
open Go.RowKit
section
variable {C : Cx} {n : Nat} {w0 : World} {X : XX} {τ : Nat → AV} {η : Nat → Ent} {m : MM} {a : Act} {w : World}
end
section
variable {C : Cx} {n : Nat} {o : Oper} {τ : Nat → AV} {η : Nat → Ent} {t : TypeId} {ti : TI}
end
section
variable {C : Cx} {n : Nat} {ops : Array Oper} {i : Nat} {rest : List Nat} {o : Oper} {τ : Nat → AV} {η : Nat → Ent} {w0 : World} {X : XX} {m : MM} {a : Act} {w : World}
end
/- arrays as rows of their cells -/
section
variable {C : Cx} {n : Nat} {o : Oper} {τ : Nat → AV} {η : Nat → Ent} {t : TypeId} {ti : TI}
theorem flat_cells {w : World} {vs : Shp} {m : MM} {x : AV} {v : Value} (h : RV w vs m x v) (ho : onesA (cellsA x) = true) : Flat w vs m 1 ((cellsA x).map fun c => [c]) v.cells := by
  obtain ⟨h1, h2⟩ := cells_ok h ho
  refine ⟨by simp [h1], fun k e he => ?_⟩
  rw [List.getElem?_map] at he
  obtain ⟨c, hc, rfl⟩ := Option.map_eq_some_iff.1 he
  refine ⟨rfl, fun j x hx => ?_⟩
  cases j with
  | zero =>
    simp at hx
    subst hx
    simpa using h2 k c hc
  | succ j => simp at hx
theorem lf_allocR {d : Nat} (ho : o.op = .alloc t) (hd : o.dst = some d) (hn : InB n o.dst) (hM : isM false t = false) (ht : TyOk C.P t ti) (h1 : onesA (cellsA (.c ti.zero)) = true) : LF C n o τ η ⟨.ptr d ((η d).ver + 1) 0 0, [(d, ⟨(η d).ver + 1, some ⟨t, 1, false, (cellsA (.c ti.zero)).map fun c => [c]⟩⟩)], []⟩ := by
  intro τ' η' g1 g2 w0 X m a w h
  have hη : η' d = η d := g2 d (.inr (by simp [Foot.ids]))
  have hn' : d < n := by rw [hd] at hn; exact hn
  have hf := flat_cells (w := w) (vs := shp η') (m := m) (x := .c ti.zero) (v := ti.zero) (.c _) h1
  have hr := h.fresh (i := d) (ver := (η d).ver + 1) (B := ⟨t, 1, false, (cellsA (.c ti.zero)).map fun c => [c]⟩) hM hn' (by rw [hη]; exact Nat.lt_succ_self _) hf
  have hrun : (execOp a.eval o).run C.P w = .ok (.value (.pointer (some ⟨w.heap.size, 0, none⟩))) (w.alloc (.cells ti.zero.cells t)) := by
    simp [execOp, ho, Instr.alloc, ht.zeroV, newVar, newRow, newObj, Sem.run]
  unfold Oper.wp
  rw [hrun]
  refine ⟨_, hr.put hn ?_⟩
  have := RV.ptr (w := w.alloc (.cells ti.zero.cells t)) (vs := shp (updE η' d ⟨(η d).ver + 1, some ⟨t, 1, false, (cellsA (.c ti.zero)).map fun c => [c]⟩⟩)) (m := newM m d (some w.heap.size)) (k := 0) (j := 0) shp_new (newM_same _ _ _)
  simpa using this
/-- an element of an array that is a row of cells, by its number -/
theorem lf_arrR {e : TypeId} {te : TI} {x y : Operand} {i ver k q : Nat} {kd : IntKind} {z : Int} {B : Blk} (ho : o.op = .indexAddr t x y) (hd : InB n o.dst) (hx : evA τ x = .ptr i ver k 0) (hi : η i = ⟨ver, some B⟩) (hB : B.sz = 1) (hy : evA τ y = .c (.int kd z)) (ht : TyOk C.P t ti) (hk : ti.kind = .array q e) (hte : TyOk C.P e te)
    (h0 : 0 ≤ z) (h1 : z < q) : LF C n o τ η ⟨.ptr i ver (k + z.toNat * te.sz) 0, [], [i]⟩ := by
  refine lf_pure hd (fun τ' η' g1 g2 => ?_)
  intro w0 X mm a w h
  have hi' : η' i = ⟨ver, some B⟩ := (g2 i (List.mem_singleton.2 rfl)).trans hi
  have e1 := h.ev x
  have e2 := h.ev y
  rw [g1 x (by simp [ho, Op.operands]), hx] at e1
  rw [g1 y (by simp [ho, Op.operands]), hy] at e2
  obtain ⟨b, hb, hu⟩ := rv_ptr e1 hi'
  have hv := RV.ptr (w := w) (vs := shp η') (m := mm) (i := i) (ver := ver) (sz := B.sz) (b := b) (k := k + z.toNat * te.sz) (j := 0) (by simp [shp, hi']) hb
  refine ⟨_, ?_, hv⟩
  have hrun := run_underlying (P := C.P) (ht.arrayU hk)
  simp [execOp, ho, hu, rv_c e2, Instr.indexAt, asIntOf, hrun, Instr.sureAddr, hte.size, h0, h1, add_plain, hB]
end
end Go.Proofs.YtflgpccacloadaaDoor.Am
/- string(b) of a row of bytes of the call's own. -/
namespace Go.Proofs.YtflgpccacloadaaDoor.Am
open Go.RowKit

/-- string(b): b a row of bytes of the call's own -/
theorem lf_str {C : Cx} {n : Nat} {o : Oper} {τ : Nat → AV} {η : Nat → Ent} {src dst e : TypeId} {ts td : TI} {x : Operand} {i ver len : Nat} {B : Blk} {xs : List Int} (ho : o.op = .convert src dst x) (hd : InB n o.dst) (hx : evA τ x = .own i ver 0 len) (hi : η i = ⟨ver, some B⟩) (hB : B.els = xs.map c_u8) (hsz : B.sz = 1) (hl : len = xs.length)
    (hs : TyOk C.P src ts) (hsk : ts.kind = .slice e) (ht : TyOk C.P dst td) (hk : td.kind = .str) (he : C.P.underlying e = some (.int .u8)) : LF C n o τ η ⟨.c (.string (strOfNums xs)), [], [i]⟩ := by
  refine lf_pure hd (fun τ' η' g1 g2 => ?_)
  intro w0 X mm a w h
  have hi' : η' i = ⟨ver, some B⟩ := (g2 i (List.mem_singleton.2 rfl)).trans hi
  have e1 := h.ev x
  rw [g1 x (by simp [ho, Op.operands]), hx] at e1
  obtain ⟨vs, x1, x2, x3⟩ := own_row e1 hi' (h.mem.ok i _ (by rw [hi'])) (by rw [hB, List.length_map, hl])
  refine ⟨_, ?_, .c _⟩
  have hst : C.P.underlying dst = some .string := by
    obtain ⟨d, d1, d2⟩ := ht.und
    rw [hk] at d2
    cases d <;> simp [TK.fits] at d2
    exact d1
  have hsl := hs.sliceU hsk
  have hcell : ∀ k, k < len → vs[k]? = some (.int .u8 (xs.getD k 0)) := fun k hkl => by
    have hz := List.getElem?_eq_getElem (l := xs) (i := k) (by omega)
    obtain ⟨_, q3⟩ := x2.2 k (c_u8 xs[k]) (by rw [hB, List.getElem?_map, hz]; rfl)
    obtain ⟨u, u1, _, u2⟩ := q3 0 _ rfl
    have e := rv_c u2
    rw [hsz] at u1
    have u1' : vs[k]? = some u := by simpa using u1
    rw [u1', e, List.getD_eq_getElem?_getD, hz]
    rfl
  have hfin : (convert src dst (a.eval x)).run C.P w = .ok (.string (strOfNums xs)) w := by
    rcases x1.2 with ⟨hv, h0⟩ | ⟨g, cap, cur, hv, _, hg, hnc, hcm, hcs, htk⟩
    · have : xs = [] := List.length_eq_zero_iff.1 (by omega)
      subst this
      rw [hv]
      exact run_convert_bytes_nil w src e hsl he 0 0 dst hst
    · rw [hv]
      refine run_convert_bytes_arg w src e hsl he g 0 len cap xs hl.symm (fun k hkl => ?_) dst hst
      have := x1.cells (g := g) (by rw [hv]; rfl) k _ (hcell k hkl)
      by_cases hk0 : k = 0
      · subst hk0; simpa [Addr.add] using this
      · simpa [Addr.add, hk0] using this
  simp [execOp, ho, hfin]
end Go.Proofs.YtflgpccacloadaaDoor.Am
/- Models printed by my decompiler, and the proofs that the code computes them. -/
namespace Go.Proofs.YtflgpccacloadaaDoor.Am
open Go.RowKit
def cA2_c_u8 (x : Int × Int) : List AV := [.c (.int .u8 x.1), .c (.int .u8 x.2)]
theorem fr_cA2_c_u8 (x : Int × Int) : ∀ y ∈ cA2_c_u8 x, Fr y := FrC_cons (.c _) (FrC_cons (.c _) (FrC_nil))
theorem frl_cA2_c_u8 (l : List (Int × Int)) : FrL (l.map cA2_c_u8) := FrL_map (fun x _ => fr_cA2_c_u8 x)
instance {l : List (Int × Int)} : FrI (l.map cA2_c_u8) := ⟨frl_cA2_c_u8 l⟩
theorem ci_XDLClos {p K : Prop} (k : K) (h : p := by first | rfl | exact ⟨rfl, rfl⟩ | exact BW.mpf rfl rfl rfl FrI.h rfl | exact cloK3 rfl rfl rfl rfl rfl rfl rfl rfl rfl | exact CloK.bw (BW.fr (by assumption)) | exact BW.fr FrV.h | (refine BW.fr ?_; assumption) | (refine ⟨rfl, ?_⟩; (simp [c_u8, cA2_c_u8, cB, cGAtom, cF, take_len_map]; done)) | (refine RowK.same ?_ FrI.h; first | rfl | (simp [c_u8, cA2_c_u8, cB, cGAtom, cF, take_len_map]; done)) | (refine row_part1 ?_; (repeat (first | exact BWL.nil | exact bwll_nil | exact bw_c | exact BW.sl | exact BW.nil | exact bwll_same rfl FrI.h | refine BWL.cons ?_ ?_ | refine bwll_cons ?_ ?_ | (refine bw_own3 rfl rfl rfl FrI.h ?_ ?_ ?_) | exact BW.mpf rfl rfl rfl FrI.h rfl | exact cloK3 rfl rfl rfl rfl rfl rfl rfl rfl rfl | exact CloK.bw (BW.fr (by assumption)) | exact BW.fr FrV.h | exact BW.fr (by assumption) | refine bw_agg ?_ | refine bw_clo ?_ | refine bw_ptr rfl rfl rfl ?_ | (refine bw_own rfl rfl rfl ?_ FrI.h ?_ ?_) | assumption | omega | rfl | (rw [List.length_map, ← List.length_append]; assumption) | (refine bwll_same ?_ FrI.h; (simp [c_u8, cA2_c_u8, cB, cGAtom, cF] <;> fail)) | (rw [List.map_set]; refine bwll_set (by first | rfl | omega | simp) ?_ ?_) | refine bwll_set (by first | rfl | omega | simp) ?_ ?_ | (rw [List.map_replicate]; refine bwll_rep ?_) | refine bwll_rep ?_ | (rw [List.map_append]; refine bwll_append ?_ ?_) | refine bwll_append ?_ ?_ | (simp [c_u8, cA2_c_u8, cB, cGAtom, cF, take_len_map] <;> fail) | (rw [List.drop_zero, List.take_of_length_le] <;> first | rfl | (simp [c_u8, cA2_c_u8, cB, cGAtom, cF] <;> fail)) | (simp; omega) | (simp only [List.length_map, List.length_append, List.drop_zero, List.length_cons, List.length_nil, Nat.zero_add, Nat.add_zero] at *; omega))); done) | ((repeat (first | exact BWL.nil | exact bwll_nil | exact bw_c | exact BW.sl | exact BW.nil | exact bwll_same rfl FrI.h | refine BWL.cons ?_ ?_ | refine bwll_cons ?_ ?_ | (refine bw_own3 rfl rfl rfl FrI.h ?_ ?_ ?_) | exact BW.mpf rfl rfl rfl FrI.h rfl | exact cloK3 rfl rfl rfl rfl rfl rfl rfl rfl rfl | exact CloK.bw (BW.fr (by assumption)) | exact BW.fr FrV.h | exact BW.fr (by assumption) | refine bw_agg ?_ | refine bw_clo ?_ | refine bw_ptr rfl rfl rfl ?_ | (refine bw_own rfl rfl rfl ?_ FrI.h ?_ ?_) | assumption | omega | rfl | (rw [List.length_map, ← List.length_append]; assumption) | (refine bwll_same ?_ FrI.h; (simp [c_u8, cA2_c_u8, cB, cGAtom, cF] <;> fail)) | (rw [List.map_set]; refine bwll_set (by first | rfl | omega | simp) ?_ ?_) | refine bwll_set (by first | rfl | omega | simp) ?_ ?_ | (rw [List.map_replicate]; refine bwll_rep ?_) | refine bwll_rep ?_ | (rw [List.map_append]; refine bwll_append ?_ ?_) | refine bwll_append ?_ ?_ | (simp [c_u8, cA2_c_u8, cB, cGAtom, cF, take_len_map] <;> fail) | (rw [List.drop_zero, List.take_of_length_le] <;> first | rfl | (simp [c_u8, cA2_c_u8, cB, cGAtom, cF] <;> fail)) | (simp; omega) | (simp only [List.length_map, List.length_append, List.drop_zero, List.length_cons, List.length_nil, Nat.zero_add, Nat.add_zero] at *; omega))); done) | (simp [c_u8, cA2_c_u8, cB, cGAtom, cF, take_len_map]; done)) : p ∧ K := ⟨h, k⟩
theorem ca_XDLClos {P : Prop} (h : P := by repeat (first | exact True.intro | refine ci_XDLClos ?_)) : P := h
theorem pr_XDLClos {p K : Prop} (k : K) (h : p := by first | assumption | exact Int.natCast_nonneg _ | exact Nat.le_refl _ | exact Nat.zero_le _ | omega | (simp; done) | (simp; omega)) : p ∧ K := ⟨h, k⟩
theorem pl_XDLClos {p K : Prop} (k : K) (h : p := by first | rfl | exact List.length_map _ | (simp; done) | (simp; omega)) : p ∧ K := ⟨h, k⟩
theorem pe_XDLClos {p K : Prop} (k : K) (h : p := by first | omega | (simp; omega) | (simp only [List.length_map, List.length_cons, List.length_nil, List.length_append]; omega) | (simp only [List.length_map, List.drop_zero, List.length_cons, List.length_nil, Nat.zero_add, Nat.add_zero] at *; omega)) : p ∧ K := ⟨h, k⟩
theorem dr_XDLClos {b : Bool} {p K : Prop} (k : K) (h : b = true → p := by intro h; first | (cases h; done) | exact ⟨by kernel_rfl, by kernel_rfl⟩) : (b = true → p) ∧ K := ⟨h, k⟩
theorem cl_XDLClos {C : Cx} {n : Nat} {o : Oper} {τ : Nat → AV} {η : Nat → Ent} {f : FuncId} {os : Array Operand} {ats : Array TypeId} {r : AV} {args : List AV} {K : Foot → Prop} (ho : o.op = .call ⟨.value (.func f), os, ats⟩) (hc : ACall C f args r) (k : K ⟨r, [], []⟩)
    (hd : InB n o.dst := by exact Nat.le_of_ble_eq_true rfl) (hargs : os.toList.map (evA τ) = args := by first | rfl | (simp [c_u8, cA2_c_u8, cB, cGAtom, cF]; done) | (repeat (first | exact rfl | refine cons_eq ?_ ?_ | exact sl_dt rfl))) (hfr : frs args := by repeat (first | exact trivial | exact fr1_eA _ | exact fr0_eA _ | exact fr1_fr (by assumption) | exact FrV.h | exact fr0_fr FrV.h | exact fr1_fr FrV.h | refine And.intro ?_ ?_)) (hr : fr1 r := by repeat (first | exact trivial | exact fr1_eA _ | exact fr0_eA _ | exact fr1_fr (by assumption) | exact FrV.h | exact fr0_fr FrV.h | exact fr1_fr FrV.h | refine And.intro ?_ ?_)) : ∃ f : Foot, LF C n o τ η f ∧ K f := ⟨_, lf_call ho hd hargs hc hfr hr, k⟩
theorem clf_XDLClos {C : Cx} {n : Nat} {o : Oper} {τ : Nat → AV} {η : Nat → Ent} {f : FuncId} {os : Array Operand} {ats : Array TypeId} {r : AV} {xs ys : List AV} {K : Foot → Prop} (us : List (Nat × Ent)) (ho : o.op = .call ⟨.value (.func f), os, ats⟩) (hargs : os.toList.map (evA τ) = xs) (hc : ACall C f ys r) (k : K ⟨r, us, []⟩)
    (hus : allUs η us := by repeat (first | exact trivial | refine And.intro rfl ?_)) (hul : ltUs n us := by repeat (first | exact trivial | refine And.intro (Nat.le_of_ble_eq_true rfl) ?_)) (hd : InB n o.dst := by exact Nat.le_of_ble_eq_true rfl) (hb : BWL η (dropB η (us.map (·.1))) xs ys := by repeat (first | exact BWL.nil | exact bwll_nil | exact bw_c | exact BW.sl | exact BW.nil | exact bwll_same rfl FrI.h | refine BWL.cons ?_ ?_ | refine bwll_cons ?_ ?_ | (refine bw_own3 rfl rfl rfl FrI.h ?_ ?_ ?_) | exact BW.mpf rfl rfl rfl FrI.h rfl | refine CloK.bw ?_ | exact BW.fr FrV.h | exact BW.fr (by assumption) | refine bw_agg ?_ | refine bw_clo ?_ | refine bw_ptr rfl rfl rfl ?_ | (refine bw_own rfl rfl rfl ?_ FrI.h ?_ ?_) | assumption | omega | rfl | (rw [List.length_map, ← List.length_append]; assumption) | (refine bwll_same ?_ FrI.h; (simp [c_u8, cA2_c_u8, cB, cGAtom, cF] <;> fail)) | (rw [List.map_set]; refine bwll_set (by first | rfl | omega | simp) ?_ ?_) | refine bwll_set (by first | rfl | omega | simp) ?_ ?_ | (rw [List.map_replicate]; refine bwll_rep ?_) | refine bwll_rep ?_ | (rw [List.map_append]; refine bwll_append ?_ ?_) | refine bwll_append ?_ ?_ | (simp [c_u8, cA2_c_u8, cB, cGAtom, cF, take_len_map] <;> fail) | (rw [List.drop_zero, List.take_of_length_le] <;> first | rfl | (simp [c_u8, cA2_c_u8, cB, cGAtom, cF] <;> fail)) | (simp; omega) | (simp only [List.length_map, List.length_append, List.drop_zero, List.length_cons, List.length_nil, Nat.zero_add, Nat.add_zero] at *; omega))) (hr : fr1 r := by repeat (first | exact trivial | exact fr1_eA _ | exact fr0_eA _ | exact fr1_fr (by assumption) | exact FrV.h | exact fr0_fr FrV.h | exact fr1_fr FrV.h | refine And.intro ?_ ?_)) : ∃ f : Foot, LF C n o τ η f ∧ K f := ⟨_, lf_callF us (allUs_at hus) (ltUs_at hul) ho hd hargs hb hc hr, k⟩
def M_l16_node (a0 : Int) : Option (ByteArray) :=
  grd (8 ≠ 0) (some (strOfNums [(IntKind.u8.wrap (97 + (a0.tmod 8)))]))
set_option maxHeartbeats 16000000 in
set_option maxRecDepth 100000 in
theorem A_l16_node (a0 : Int) {r1 : ByteArray} (h : M_l16_node a0 = some r1) : ACall cx 26 [.c (.int .u8 a0)] (.c (.string r1)) := by
  refine aOf Tryd.func26 rfl (by decide) rfl (Nat.le_of_ble_eq_true rfl) ?_; intro _; unfold M_l16_node at h; refine aSR ?_; intro _; refine dr_XDLClos ?_; refine aSR ?_; intro _; refine ⟨_, lf_str (xs := [(IntKind.u8.wrap (97 + (a0.tmod 8)))]) rfl (Nat.le_of_ble_eq_true rfl) rfl rfl rfl rfl (by first | rfl | simp) (tyTab_ok 64 _ rfl) rfl (tyTab_ok 9 _ rfl) rfl Tryd.underlying5, ?_⟩; intro _; obtain ⟨q1, h⟩ := grd_ok h; refine ⟨rfl, ?_⟩; refine pr_XDLClos ?_; refine dr_XDLClos ?_; refine aRt ?_; intro _; obtain rfl := inj1 h; exact ca_XDLClos
def M_l16_DatalogClosure_L1 (a0 : List (Int × Int)) : Nat → Int → (List Bool) → (List GAtom) → Option ((List Bool) × (List GAtom))
  | 0, _, _, _ => none
  | k65 + 1, v62, v63, v64 =>
    sel (decide (v62 < ((a0.map cA2_c_u8).length : Int)))
     (ix a0 v62 (fun y66 =>
       ob1 (M_l16_node y66.1) (fun z67 =>
        ix a0 v62 (fun y68 =>
         ob1 (M_l16_node y68.2) (fun z69 =>
          ob1 (M_l16_atom (⟨#[101]⟩ : ByteArray) [z67, z69]) (fun z70 =>
           grd ((v64.length + 1) * 40 ≤ 140737488355328) (ix a0 v62 (fun y71 =>
            ix a0 v62 (fun y72 =>
             grd (0 ≤ (y71.1.tmod 8)) (grd ((y71.1.tmod 8) < 8) (grd (0 ≤ (y72.2.tmod 8)) (grd ((y72.2.tmod 8) < 8) (ixn v63 (0 + ((y71.1.tmod 8)).toNat * 8 + ((y72.2.tmod 8)).toNat * 1) (fun _ =>
              grd (8 ≠ 0) (M_l16_DatalogClosure_L1 a0 k65 (IntKind.i64.wrap (v62 + 1)) (v63.set (0 + ((y71.1.tmod 8)).toNat * 8 + ((y72.2.tmod 8)).toNat * 1) true) (v64 ++ [z70]))))))))))))))))
     (some (v63, v64))
def M_l16_DatalogClosure_L2 (v1583 : Int) (v1835 : Int) : Nat → Int → (List Bool) → Option (List Bool)
  | 0, _, _ => none
  | k1879 + 1, v1877, v1878 =>
    sel (decide (v1877 < 8))
     (grd (0 ≤ v1835) (grd (v1835 < 8) (grd (0 ≤ v1877) (grd (v1877 < 8) (ixn v1878 (0 + (v1835).toNat * 8 + (v1877).toNat * 1) (fun y1880 =>
       sel y1880
        (ixn v1878 (0 + (v1835).toNat * 8 + (v1877).toNat * 1) (fun _ =>
          M_l16_DatalogClosure_L2 v1583 v1835 k1879 (IntKind.i64.wrap (v1877 + 1)) (v1878.set (0 + (v1835).toNat * 8 + (v1877).toNat * 1) true)))
        (grd (0 ≤ v1583) (grd (v1583 < 8) (ixn v1878 (0 + (v1835).toNat * 8 + (v1583).toNat * 1) (fun y1881 =>
          sel y1881
           (ixn v1878 (0 + (v1583).toNat * 8 + (v1877).toNat * 1) (fun y1882 =>
             ixn v1878 (0 + (v1835).toNat * 8 + (v1877).toNat * 1) (fun _ =>
              M_l16_DatalogClosure_L2 v1583 v1835 k1879 (IntKind.i64.wrap (v1877 + 1)) (v1878.set (0 + (v1835).toNat * 8 + (v1877).toNat * 1) y1882))))
           (ixn v1878 (0 + (v1835).toNat * 8 + (v1877).toNat * 1) (fun _ =>
             M_l16_DatalogClosure_L2 v1583 v1835 k1879 (IntKind.i64.wrap (v1877 + 1)) (v1878.set (0 + (v1835).toNat * 8 + (v1877).toNat * 1) false)))))))))))))
     (some v1878)
def M_l16_DatalogClosure_L3 (g : Nat) (v1583 : Int) : Nat → Int → (List Bool) → Option (List Bool)
  | 0, _, _ => none
  | k1837 + 1, v1835, v1836 =>
    sel (decide (v1835 < 8))
     (ob1 (M_l16_DatalogClosure_L2 v1583 v1835 g 0 v1836 : Option (List Bool))
       (fun v1861 => M_l16_DatalogClosure_L3 g v1583 k1837 (IntKind.i64.wrap (v1835 + 1)) v1861))
     (some v1836)
def M_l16_DatalogClosure_L4 (g : Nat) : Nat → Int → (List Bool) → Option (List Bool)
  | 0, _, _ => none
  | k1585 + 1, v1583, v1584 =>
    sel (decide (v1583 < 8))
     (ob1 (M_l16_DatalogClosure_L3 g v1583 g 0 v1584 : Option (List Bool))
       (fun v1735 => M_l16_DatalogClosure_L4 g k1585 (IntKind.i64.wrap (v1583 + 1)) v1735))
     (some v1584)
def M_l16_DatalogClosure_L5 (g : Nat) (v979 : List Bool) (v2033 : Int) (z1893 : List GAtom) : Nat → Int → Option (Unit ⊕ Bool)
  | 0, _ => none
  | k2092 + 1, v2091 =>
    sel (decide (v2091 < 8))
     (ob1 (M_l16_node v2033) (fun z2093 =>
       ob1 (M_l16_node v2091) (fun z2094 =>
        ob1 (M_l16_atom (⟨#[114]⟩ : ByteArray) [z2093, z2094]) (fun z2095 =>
         ob1 (M_r10_Has g z1893 z2095) (fun z2096 =>
          grd (0 ≤ v2033) (grd (v2033 < 8) (grd (0 ≤ v2091) (grd (v2091 < 8) (ixn v979 (0 + (v2033).toNat * 8 + (v2091).toNat * 1) (fun y2097 =>
           sel (!(z2096 == y2097))
            (some (.inr false))
            (ob1 (M_l16_node v2033) (fun z2098 =>
              ob1 (M_l16_node v2091) (fun z2099 =>
               ob1 (M_l16_atom (⟨#[100]⟩ : ByteArray) [z2098, z2099]) (fun z2100 =>
                ob1 (M_r10_Has g z1893 z2100) (fun z2101 =>
                 ixn v979 (0 + (v2033).toNat * 8 + (v2091).toNat * 1) (fun y2102 =>
                  sel y2102
                   (sel (!(z2101 == (v2033 != v2091)))
                     (some (.inr false))
                     (M_l16_DatalogClosure_L5 g v979 v2033 z1893 k2092 (IntKind.u8.wrap (v2091 + 1))))
                   (sel (!(z2101 == false))
                     (some (.inr false))
                     (M_l16_DatalogClosure_L5 g v979 v2033 z1893 k2092 (IntKind.u8.wrap (v2091 + 1))))))))))))))))))))
     (some (.inl ()))
def M_l16_DatalogClosure_L6 (g : Nat) (v979 : List Bool) (z1893 : List GAtom) : Nat → Int → Option (Bool)
  | 0, _ => none
  | k2034 + 1, v2033 =>
    sel (decide (v2033 < 8))
     (ob1 (M_l16_DatalogClosure_L5 g v979 v2033 z1893 g 0 : Option (Unit ⊕ Bool))
       (osum
       (fun _ => M_l16_DatalogClosure_L6 g v979 z1893 k2034 (IntKind.u8.wrap (v2033 + 1)))
       (fun r2068 => some r2068)))
     (some true)
def M_l16_DatalogClosure (g : Nat) (a0 : List (Int × Int)) : Option (Bool) :=
  ob1 (sel (decide (((a0.map cA2_c_u8).length : Int) > 30))
    (ob1 (M_l16_awake g) (fun z8 =>
      some (.inr z8)))
    (ob1 (M_l16_awake g) (fun z6 =>
      sel (!z6)
       (ob1 (M_l16_awake g) (fun z7 =>
         some (.inr z7)))
       (some (.inl ())))) : Option (Unit ⊕ Bool))
   (osum
   (fun _ => ob1 (M_l16_DatalogClosure_L1 a0 g 0 (List.replicate 64 false) [] : Option ((List Bool) × (List GAtom)))
      (fun (v40, v41) => ob1 (M_l16_DatalogClosure_L4 g g 0 v40 : Option (List Bool))
         (fun v979 => ob1 (M_l16_atom (⟨#[114]⟩ : ByteArray) [(⟨#[63, 120]⟩ : ByteArray), (⟨#[63, 121]⟩ : ByteArray)]) (fun z1886 =>
            ob1 (M_l16_atom (⟨#[101]⟩ : ByteArray) [(⟨#[63, 120]⟩ : ByteArray), (⟨#[63, 121]⟩ : ByteArray)]) (fun z1887 =>
             ob1 (M_l16_atom (⟨#[114]⟩ : ByteArray) [(⟨#[63, 120]⟩ : ByteArray), (⟨#[63, 122]⟩ : ByteArray)]) (fun z1888 =>
              ob1 (M_l16_atom (⟨#[114]⟩ : ByteArray) [(⟨#[63, 120]⟩ : ByteArray), (⟨#[63, 121]⟩ : ByteArray)]) (fun z1889 =>
               ob1 (M_l16_atom (⟨#[101]⟩ : ByteArray) [(⟨#[63, 121]⟩ : ByteArray), (⟨#[63, 122]⟩ : ByteArray)]) (fun z1890 =>
                ob1 (M_l16_atom (⟨#[100]⟩ : ByteArray) [(⟨#[63, 120]⟩ : ByteArray), (⟨#[63, 121]⟩ : ByteArray)]) (fun z1891 =>
                 ob1 (M_l16_atom (⟨#[114]⟩ : ByteArray) [(⟨#[63, 120]⟩ : ByteArray), (⟨#[63, 121]⟩ : ByteArray)]) (fun z1892 =>
                  grd (v41.length ≤ 140737488355328) (ob2 (M_datalog_Solve g v41 [{ Head := z1886, Body := [z1887], Unequal := [] : GRule }, { Head := z1888, Body := [z1889, z1890], Unequal := [] : GRule }, { Head := z1891, Body := [z1892], Unequal := [((⟨#[63, 120]⟩ : ByteArray), (⟨#[63, 121]⟩ : ByteArray))] : GRule }]) (fun z1893 z1894 =>
                   erM z1894
                    (M_l16_DatalogClosure_L6 g v979 z1893 g 0)
                    (fun _ => some false)))))))))))))
   (fun r4 => some r4))
set_option maxHeartbeats 16000000 in
set_option maxRecDepth 100000 in
theorem A_l16_DatalogClosure (g : Nat) (a0 : List (Int × Int)) {r1 : Bool} (h : M_l16_DatalogClosure g a0 = some r1) : ACall cx 8 [.sl 2 (a0.map cA2_c_u8)] (.c (.bool r1)) := by
  refine aOf Tryd.func8 rfl (by decide) rfl (Nat.le_of_ble_eq_true rfl) ?_; intro _; unfold M_l16_DatalogClosure at h; refine aSR ?_; intro _; refine dr_XDLClos ?_; obtain ⟨o1, h, hK2⟩ := ob1_ok h; refine awp_cut (α := Unit) (fun _ => mkS 166 [(0, .sl 2 (a0.map cA2_c_u8))] []) (fun v => o1 = (.inl v)) ?_ ?_
  · refine aSR ?_; intro _; refine spf h (fun c3 h => ?_) (fun c3 h => ?_)
    · intro _; obtain ⟨z6, u4, h⟩ := ob1_ok h; refine cl_XDLClos rfl (A_l16_awake g u4) ?_; intro _; refine dr_XDLClos ?_; refine aCd ?_; intro _; refine spl h (fun c5 h => ?_) (fun c5 h => ?_)
      · refine aSR ?_; intro _; obtain ⟨z7, u6, h⟩ := ob1_ok h; refine cl_XDLClos rfl (A_l16_awake g u6) ?_; intro _; refine dr_XDLClos ?_; refine aRt ?_; have j7 := Option.some.inj h; subst j7; replace h := (osum_r hK2); intro _; obtain rfl := inj1 h; exact ca_XDLClos
      · refine aSk ?_; refine ⟨(), (Option.some.inj h).symm, ?_⟩; exact ca_XDLClos
    · intro _; refine dr_XDLClos ?_; refine aCd ?_; intro _; refine litT ?_; refine aSR ?_; intro _; obtain ⟨z8, u8, h⟩ := ob1_ok h; refine cl_XDLClos rfl (A_l16_awake g u8) ?_; intro _; refine dr_XDLClos ?_; refine aRt ?_; have j9 := Option.some.inj h; subst j9; replace h := (osum_r hK2); intro _; obtain rfl := inj1 h; exact ca_XDLClos
  · rintro _ ho; have ho := ho.symm; subst ho; intro _; replace h := (osum_l hK2); refine aSR ?_; intro _; refine dr_XDLClos ?_; refine aSq ?_; refine awp_regionO [0] ?_; intro _; intro _; refine ⟨rfl, _, lf_allocR rfl rfl (Nat.le_of_ble_eq_true rfl) rfl (tyTab_ok 54 _ rfl) (by rfl), ?_⟩; intro _; refine dr_XDLClos ?_; obtain ⟨o10, h, hK11⟩ := ob1_ok h; refine awp_cut (α := (List Bool) × (List GAtom)) (fun (v40, v41) => mkS 166 [(3, .own 43 0 0 v41.length), (4, .ptr 4 0 0 0)] [(4, ⟨54, 1, false, v40.map cB⟩), (43, ⟨24, 2, false, v41.map cGAtom⟩)]) (fun v => o10 = v) ?_ ?_
    · refine aSR ?_; intro _; refine dr_XDLClos ?_; refine aBk ?_; refine awp_loop (α := Nat × Int × (List Bool) × (List GAtom)) (fun x => mkS 166 [(0, .sl 2 (a0.map cA2_c_u8)), (3, .own 43 0 0 x.2.2.2.length), (4, .ptr 4 0 0 0), (5, .c (.int .i64 x.2.1))] [(4, ⟨54, 1, false, x.2.2.1.map cB⟩), (43, ⟨24, 2, false, x.2.2.2.map cGAtom⟩)]) (fun x => M_l16_DatalogClosure_L1 a0 x.1 x.2.1 x.2.2.1 x.2.2.2 = some o10) (fun x => x.1) (g, 0, (List.replicate 64 false), []) h ?_ ?_
      · exact ca_XDLClos
      · intro x12 h; intro _; obtain ⟨k65, m13, h⟩ := succ_of (f := fun n => M_l16_DatalogClosure_L1 a0 n x12.2.1 x12.2.2.1 x12.2.2.2) rfl h; replace h : M_l16_DatalogClosure_L1 a0 (k65 + 1) x12.2.1 x12.2.2.1 x12.2.2.2 = some o10 := h; rw [M_l16_DatalogClosure_L1] at h; refine aSq ?_; refine aSR ?_; intro _; refine dr_XDLClos ?_; refine aCd ?_; intro _; refine spl h (fun c14 h => ?_) (fun c14 h => ?_)
        · refine aSk ?_; refine aSq ?_; refine aBk ?_; refine aSR ?_; intro _; obtain ⟨y66, w15, q16, h⟩ := ix_ok h; refine Exists.intro (cA2_c_u8 y66) (And.intro (map_at' w15) ?_); intro _; refine ⟨_, lf_arrAtI rfl (Nat.le_of_ble_eq_true rfl) rfl rfl (tyTab_ok 57 _ rfl) rfl (tyTab_ok 5 _ rfl) (by decide) (by decide), ?_⟩; intro _; obtain ⟨z67, u17, h⟩ := ob1_ok h; refine cl_XDLClos rfl (A_l16_node y66.1 u17) ?_; intro _; obtain ⟨y68, w18, q19, h⟩ := ix_ok h; refine Exists.intro (cA2_c_u8 y68) (And.intro (map_at' w18) ?_); intro _; refine ⟨_, lf_arrAtI rfl (Nat.le_of_ble_eq_true rfl) rfl rfl (tyTab_ok 57 _ rfl) rfl (tyTab_ok 5 _ rfl) (by decide) (by decide), ?_⟩; intro _; obtain ⟨z69, u20, h⟩ := ob1_ok h; refine cl_XDLClos rfl (A_l16_node y68.2 u20) ?_; intro _; obtain ⟨z70, u21, h⟩ := ob1_ok h; refine clf_XDLClos [(40, ⟨2, none⟩)] rfl rfl (A_l16_atom (⟨#[101]⟩ : ByteArray) [z67, z69] u21) ?_; intro _; obtain ⟨q22, h⟩ := grd_ok h; refine pr_XDLClos ?_; refine pr_XDLClos ?_; refine pl_XDLClos ?_; refine pl_XDLClos ?_; refine And.intro (by first | with_reducible assumption | (simp; omega) | (show (x12.2.2.2.length + 1) * 40 ≤ 140737488355328; with_reducible assumption) | omega | (simp; omega)) ?_; refine pe_XDLClos ?_; refine dr_XDLClos ?_; refine aRg ?_; intro _; obtain ⟨y71, w23, q24, h⟩ := ix_ok h; refine Exists.intro (cA2_c_u8 y71) (And.intro (map_at' w23) ?_); intro _; refine ⟨_, lf_arrAtI rfl (Nat.le_of_ble_eq_true rfl) rfl rfl (tyTab_ok 57 _ rfl) rfl (tyTab_ok 5 _ rfl) (by decide) (by decide), ?_⟩; intro _; obtain ⟨y72, w25, q26, h⟩ := ix_ok h; refine Exists.intro (cA2_c_u8 y72) (And.intro (map_at' w25) ?_); intro _; refine ⟨_, lf_arrAtI rfl (Nat.le_of_ble_eq_true rfl) rfl rfl (tyTab_ok 57 _ rfl) rfl (tyTab_ok 5 _ rfl) (by decide) (by decide), ?_⟩; intro _; obtain ⟨q27, h⟩ := grd_ok h; obtain ⟨q28, h⟩ := grd_ok h; refine ⟨_, lf_arrR rfl (Nat.le_of_ble_eq_true rfl) rfl rfl rfl rfl (tyTab_ok 54 _ rfl) rfl (tyTab_ok 53 _ rfl) (by first | assumption | omega) (by first | assumption | omega), ?_⟩; intro _; obtain ⟨q29, h⟩ := grd_ok h; obtain ⟨q30, h⟩ := grd_ok h; refine ⟨_, lf_arrR rfl (Nat.le_of_ble_eq_true rfl) rfl rfl rfl rfl (tyTab_ok 53 _ rfl) rfl (tyTab_ok 4 _ rfl) (by first | assumption | omega) (by first | assumption | omega), ?_⟩; intro _; obtain ⟨y73, w31, h⟩ := ixn_ok h; refine Exists.intro (cB y73) (And.intro (by first | exact map_at' w31 | (have w := map_at' (f := cB) w31; simpa [cB, Value.cells] using w)) ?_); intro _; obtain ⟨q32, h⟩ := grd_ok h; refine pr_XDLClos ?_; refine ⟨rfl, ?_⟩; refine pr_XDLClos ?_; refine pr_XDLClos ?_; refine ⟨rfl, ?_⟩; refine pr_XDLClos ?_; refine dr_XDLClos ?_; refine aRg ?_; intro _; refine dr_XDLClos ?_; refine ⟨(k65, (IntKind.i64.wrap (x12.2.1 + 1)), (x12.2.2.1.set (0 + ((y71.1.tmod 8)).toNat * 8 + ((y72.2.tmod 8)).toNat * 1) true), (x12.2.2.2 ++ [z70])), h, ltS m13, ?_⟩; exact ca_XDLClos
        · refine aEx ?_; refine ⟨(x12.2.2.1, x12.2.2.2), (Option.some.inj h).symm, ?_⟩; exact ca_XDLClos
    · rintro ⟨v40, v41⟩ ho; have ho := ho.symm; subst ho; intro _; replace h := hK11; obtain ⟨o33, h, hK34⟩ := ob1_ok h; refine awp_cut (α := List Bool) (fun v979 => mkS 166 [(3, .own 43 0 0 v41.length), (4, .ptr 4 0 0 0)] [(4, ⟨54, 1, false, v979.map cB⟩), (43, ⟨24, 2, false, v41.map cGAtom⟩)]) (fun v => o33 = v) ?_ ?_
      · refine aSR ?_; intro _; refine dr_XDLClos ?_; refine aBk ?_; refine awp_loop (α := Nat × Int × (List Bool)) (fun x => mkS 166 [(3, .own 43 0 0 v41.length), (4, .ptr 4 0 0 0), (6, .c (.int .i64 x.2.1))] [(4, ⟨54, 1, false, x.2.2.map cB⟩), (43, ⟨24, 2, false, v41.map cGAtom⟩)]) (fun x => M_l16_DatalogClosure_L4 g x.1 x.2.1 x.2.2 = some o33) (fun x => x.1) (g, 0, v40) h ?_ ?_
        · exact ca_XDLClos
        · intro x35 h; intro _; obtain ⟨k1585, m36, h⟩ := succ_of (f := fun n => M_l16_DatalogClosure_L4 g n x35.2.1 x35.2.2) rfl h; replace h : M_l16_DatalogClosure_L4 g (k1585 + 1) x35.2.1 x35.2.2 = some o33 := h; rw [M_l16_DatalogClosure_L4] at h; refine aSq ?_; refine aSR ?_; intro _; refine dr_XDLClos ?_; refine aCd ?_; intro _; refine spl h (fun c37 h => ?_) (fun c37 h => ?_)
          · refine aSk ?_; obtain ⟨o38, h, hK39⟩ := ob1_ok h; refine awp_cut (α := List Bool) (fun v1735 => mkS 166 [(3, .own 43 0 0 v41.length), (4, .ptr 4 0 0 0), (6, .c (.int .i64 x35.2.1))] [(4, ⟨54, 1, false, v1735.map cB⟩), (43, ⟨24, 2, false, v41.map cGAtom⟩)]) (fun v => o38 = v) ?_ ?_
            · refine aBk ?_; refine aSR ?_; intro _; refine dr_XDLClos ?_; refine aBk ?_; refine awp_loop (α := Nat × Int × (List Bool)) (fun x => mkS 166 [(3, .own 43 0 0 v41.length), (4, .ptr 4 0 0 0), (6, .c (.int .i64 x35.2.1)), (7, .c (.int .i64 x.2.1))] [(4, ⟨54, 1, false, x.2.2.map cB⟩), (43, ⟨24, 2, false, v41.map cGAtom⟩)]) (fun x => M_l16_DatalogClosure_L3 g x35.2.1 x.1 x.2.1 x.2.2 = some o38) (fun x => x.1) (g, 0, x35.2.2) h ?_ ?_
              · exact ca_XDLClos
              · intro x40 h; intro _; obtain ⟨k1837, m41, h⟩ := succ_of (f := fun n => M_l16_DatalogClosure_L3 g x35.2.1 n x40.2.1 x40.2.2) rfl h; replace h : M_l16_DatalogClosure_L3 g x35.2.1 (k1837 + 1) x40.2.1 x40.2.2 = some o38 := h; rw [M_l16_DatalogClosure_L3] at h; refine aSq ?_; refine aSR ?_; intro _; refine dr_XDLClos ?_; refine aCd ?_; intro _; refine spl h (fun c42 h => ?_) (fun c42 h => ?_)
                · refine aSk ?_; obtain ⟨o43, h, hK44⟩ := ob1_ok h; refine awp_cut (α := List Bool) (fun v1861 => mkS 166 [(3, .own 43 0 0 v41.length), (4, .ptr 4 0 0 0), (6, .c (.int .i64 x35.2.1)), (7, .c (.int .i64 x40.2.1))] [(4, ⟨54, 1, false, v1861.map cB⟩), (43, ⟨24, 2, false, v41.map cGAtom⟩)]) (fun v => o43 = v) ?_ ?_
                  · refine aBk ?_; refine aSR ?_; intro _; refine dr_XDLClos ?_; refine aBk ?_; refine awp_loop (α := Nat × Int × (List Bool)) (fun x => mkS 166 [(3, .own 43 0 0 v41.length), (4, .ptr 4 0 0 0), (6, .c (.int .i64 x35.2.1)), (7, .c (.int .i64 x40.2.1)), (8, .c (.int .i64 x.2.1))] [(4, ⟨54, 1, false, x.2.2.map cB⟩), (43, ⟨24, 2, false, v41.map cGAtom⟩)]) (fun x => M_l16_DatalogClosure_L2 x35.2.1 x40.2.1 x.1 x.2.1 x.2.2 = some o43) (fun x => x.1) (g, 0, x40.2.2) h ?_ ?_
                    · exact ca_XDLClos
                    · intro x45 h; intro _; obtain ⟨k1879, m46, h⟩ := succ_of (f := fun n => M_l16_DatalogClosure_L2 x35.2.1 x40.2.1 n x45.2.1 x45.2.2) rfl h; replace h : M_l16_DatalogClosure_L2 x35.2.1 x40.2.1 (k1879 + 1) x45.2.1 x45.2.2 = some o43 := h; rw [M_l16_DatalogClosure_L2] at h; refine aSq ?_; refine aSR ?_; intro _; refine dr_XDLClos ?_; refine aCd ?_; intro _; refine spl h (fun c47 h => ?_) (fun c47 h => ?_)
                      · refine aSk ?_; refine aSq ?_; refine aBk ?_; refine aRg ?_; intro _; obtain ⟨q48, h⟩ := grd_ok h; obtain ⟨q49, h⟩ := grd_ok h; refine ⟨_, lf_arrR rfl (Nat.le_of_ble_eq_true rfl) rfl rfl rfl rfl (tyTab_ok 54 _ rfl) rfl (tyTab_ok 53 _ rfl) (by first | assumption | omega) (by first | assumption | omega), ?_⟩; intro _; obtain ⟨q50, h⟩ := grd_ok h; obtain ⟨q51, h⟩ := grd_ok h; refine ⟨_, lf_arrR rfl (Nat.le_of_ble_eq_true rfl) rfl rfl rfl rfl (tyTab_ok 53 _ rfl) rfl (tyTab_ok 4 _ rfl) (by first | assumption | omega) (by first | assumption | omega), ?_⟩; intro _; obtain ⟨y1880, w52, h⟩ := ixn_ok h; refine Exists.intro (cB y1880) (And.intro (by first | exact map_at' w52 | (have w := map_at' (f := cB) w52; simpa [cB, Value.cells] using w)) ?_); intro _; refine spf h (fun c53 h => ?_) (fun c53 h => ?_)
                        · intro _; refine ⟨_, lf_arrR rfl (Nat.le_of_ble_eq_true rfl) rfl rfl rfl rfl (tyTab_ok 54 _ rfl) rfl (tyTab_ok 53 _ rfl) (by first | assumption | omega) (by first | assumption | omega), ?_⟩; intro _; obtain ⟨q54, h⟩ := grd_ok h; obtain ⟨q55, h⟩ := grd_ok h; refine ⟨_, lf_arrR rfl (Nat.le_of_ble_eq_true rfl) rfl rfl rfl rfl (tyTab_ok 53 _ rfl) rfl (tyTab_ok 4 _ rfl) (by first | assumption | omega) (by first | assumption | omega), ?_⟩; intro _; obtain ⟨y1881, w56, h⟩ := ixn_ok h; refine Exists.intro (cB y1881) (And.intro (by first | exact map_at' w56 | (have w := map_at' (f := cB) w56; simpa [cB, Value.cells] using w)) ?_); intro _; refine spl h (fun c57 h => ?_) (fun c57 h => ?_)
                          · intro _; refine ⟨_, lf_arrR rfl (Nat.le_of_ble_eq_true rfl) rfl rfl rfl rfl (tyTab_ok 54 _ rfl) rfl (tyTab_ok 53 _ rfl) (by first | assumption | omega) (by first | assumption | omega), ?_⟩; intro _; refine ⟨_, lf_arrR rfl (Nat.le_of_ble_eq_true rfl) rfl rfl rfl rfl (tyTab_ok 53 _ rfl) rfl (tyTab_ok 4 _ rfl) (by first | assumption | omega) (by first | assumption | omega), ?_⟩; intro _; obtain ⟨y1882, w58, h⟩ := ixn_ok h; refine Exists.intro (cB y1882) (And.intro (by first | exact map_at' w58 | (have w := map_at' (f := cB) w58; simpa [cB, Value.cells] using w)) ?_); intro _; refine ⟨_, lf_arrR rfl (Nat.le_of_ble_eq_true rfl) rfl rfl rfl rfl (tyTab_ok 54 _ rfl) rfl (tyTab_ok 53 _ rfl) (by first | assumption | omega) (by first | assumption | omega), ?_⟩; intro _; refine ⟨_, lf_arrR rfl (Nat.le_of_ble_eq_true rfl) rfl rfl rfl rfl (tyTab_ok 53 _ rfl) rfl (tyTab_ok 4 _ rfl) (by first | assumption | omega) (by first | assumption | omega), ?_⟩; intro _; obtain ⟨y1883, w59, h⟩ := ixn_ok h; refine Exists.intro (cB y1883) (And.intro (by first | exact map_at' w59 | (have w := map_at' (f := cB) w59; simpa [cB, Value.cells] using w)) ?_); intro _; refine dr_XDLClos ?_; refine aRg ?_; intro _; refine dr_XDLClos ?_; refine ⟨(k1879, (IntKind.i64.wrap (x45.2.1 + 1)), (x45.2.2.set (0 + (x40.2.1).toNat * 8 + (x45.2.1).toNat * 1) y1882)), h, ltS m46, ?_⟩; exact ca_XDLClos
                          · intro _; refine ⟨_, lf_arrR rfl (Nat.le_of_ble_eq_true rfl) rfl rfl rfl rfl (tyTab_ok 54 _ rfl) rfl (tyTab_ok 53 _ rfl) (by first | assumption | omega) (by first | assumption | omega), ?_⟩; intro _; refine ⟨_, lf_arrR rfl (Nat.le_of_ble_eq_true rfl) rfl rfl rfl rfl (tyTab_ok 53 _ rfl) rfl (tyTab_ok 4 _ rfl) (by first | assumption | omega) (by first | assumption | omega), ?_⟩; intro _; obtain ⟨y1884, w60, h⟩ := ixn_ok h; refine Exists.intro (cB y1884) (And.intro (by first | exact map_at' w60 | (have w := map_at' (f := cB) w60; simpa [cB, Value.cells] using w)) ?_); intro _; refine dr_XDLClos ?_; refine aRg ?_; intro _; refine dr_XDLClos ?_; refine ⟨(k1879, (IntKind.i64.wrap (x45.2.1 + 1)), (x45.2.2.set (0 + (x40.2.1).toNat * 8 + (x45.2.1).toNat * 1) false)), h, ltS m46, ?_⟩; exact ca_XDLClos
                        · intro _; refine ⟨_, lf_arrR rfl (Nat.le_of_ble_eq_true rfl) rfl rfl rfl rfl (tyTab_ok 54 _ rfl) rfl (tyTab_ok 53 _ rfl) (by first | assumption | omega) (by first | assumption | omega), ?_⟩; intro _; refine ⟨_, lf_arrR rfl (Nat.le_of_ble_eq_true rfl) rfl rfl rfl rfl (tyTab_ok 53 _ rfl) rfl (tyTab_ok 4 _ rfl) (by first | assumption | omega) (by first | assumption | omega), ?_⟩; intro _; obtain ⟨y1885, w61, h⟩ := ixn_ok h; refine Exists.intro (cB y1885) (And.intro (by first | exact map_at' w61 | (have w := map_at' (f := cB) w61; simpa [cB, Value.cells] using w)) ?_); intro _; refine dr_XDLClos ?_; refine aRg ?_; intro _; refine dr_XDLClos ?_; refine ⟨(k1879, (IntKind.i64.wrap (x45.2.1 + 1)), (x45.2.2.set (0 + (x40.2.1).toNat * 8 + (x45.2.1).toNat * 1) true)), h, ltS m46, ?_⟩; exact ca_XDLClos
                      · refine aEx ?_; refine ⟨x45.2.2, (Option.some.inj h).symm, ?_⟩; exact ca_XDLClos
                  · rintro v1861 ho; have ho := ho.symm; subst ho; intro _; replace h := hK44; refine aRg ?_; intro _; refine dr_XDLClos ?_; refine ⟨(k1837, (IntKind.i64.wrap (x40.2.1 + 1)), v1861), h, ltS m41, ?_⟩; exact ca_XDLClos
                · refine aEx ?_; refine ⟨x40.2.2, (Option.some.inj h).symm, ?_⟩; exact ca_XDLClos
            · rintro v1735 ho; have ho := ho.symm; subst ho; intro _; replace h := hK39; refine aRg ?_; intro _; refine dr_XDLClos ?_; refine ⟨(k1585, (IntKind.i64.wrap (x35.2.1 + 1)), v1735), h, ltS m36, ?_⟩; exact ca_XDLClos
          · refine aEx ?_; refine ⟨x35.2.2, (Option.some.inj h).symm, ?_⟩; exact ca_XDLClos
      · rintro v979 ho; have ho := ho.symm; subst ho; intro _; replace h := hK34; refine aSR ?_; intro _; obtain ⟨z1886, u62, h⟩ := ob1_ok h; refine clf_XDLClos [(95, ⟨2, none⟩)] rfl rfl (A_l16_atom (⟨#[114]⟩ : ByteArray) [(⟨#[63, 120]⟩ : ByteArray), (⟨#[63, 121]⟩ : ByteArray)] u62) ?_; intro _; obtain ⟨z1887, u63, h⟩ := ob1_ok h; refine clf_XDLClos [(97, ⟨2, none⟩)] rfl rfl (A_l16_atom (⟨#[101]⟩ : ByteArray) [(⟨#[63, 120]⟩ : ByteArray), (⟨#[63, 121]⟩ : ByteArray)] u63) ?_; intro _; obtain ⟨z1888, u64, h⟩ := ob1_ok h; refine clf_XDLClos [(101, ⟨2, none⟩)] rfl rfl (A_l16_atom (⟨#[114]⟩ : ByteArray) [(⟨#[63, 120]⟩ : ByteArray), (⟨#[63, 122]⟩ : ByteArray)] u64) ?_; intro _; obtain ⟨z1889, u65, h⟩ := ob1_ok h; refine clf_XDLClos [(103, ⟨2, none⟩)] rfl rfl (A_l16_atom (⟨#[114]⟩ : ByteArray) [(⟨#[63, 120]⟩ : ByteArray), (⟨#[63, 121]⟩ : ByteArray)] u65) ?_; intro _; obtain ⟨z1890, u66, h⟩ := ob1_ok h; refine clf_XDLClos [(105, ⟨2, none⟩)] rfl rfl (A_l16_atom (⟨#[101]⟩ : ByteArray) [(⟨#[63, 121]⟩ : ByteArray), (⟨#[63, 122]⟩ : ByteArray)] u66) ?_; intro _; obtain ⟨z1891, u67, h⟩ := ob1_ok h; refine clf_XDLClos [(109, ⟨2, none⟩)] rfl rfl (A_l16_atom (⟨#[100]⟩ : ByteArray) [(⟨#[63, 120]⟩ : ByteArray), (⟨#[63, 121]⟩ : ByteArray)] u67) ?_; intro _; obtain ⟨z1892, u68, h⟩ := ob1_ok h; refine clf_XDLClos [(111, ⟨2, none⟩)] rfl rfl (A_l16_atom (⟨#[114]⟩ : ByteArray) [(⟨#[63, 120]⟩ : ByteArray), (⟨#[63, 121]⟩ : ByteArray)] u68) ?_; intro _; obtain ⟨q69, h⟩ := grd_ok h; obtain ⟨z1893, z1894, u70, h⟩ := ob2_ok h; refine clf_XDLClos [(43, ⟨1, none⟩), (99, ⟨2, none⟩), (107, ⟨2, none⟩), (113, ⟨2, none⟩), (115, ⟨2, none⟩), (117, ⟨2, none⟩)] rfl rfl (A_datalog_Solve g v41 [{ Head := z1886, Body := [z1887], Unequal := [] : GRule }, { Head := z1888, Body := [z1889, z1890], Unequal := [] : GRule }, { Head := z1891, Body := [z1892], Unequal := [((⟨#[63, 120]⟩ : ByteArray), (⟨#[63, 121]⟩ : ByteArray))] : GRule }] u70) ?_; intro _; refine dr_XDLClos ?_; refine aSq ?_; refine aSq ?_; rcases z1894 with _ | e1895
        · replace h := erM_nil h; refine aRg ?_; intro _; refine dr_XDLClos ?_; refine aCd ?_; intro _; refine litF ?_; refine aSk ?_; refine aSq ?_; refine aSR ?_; intro _; refine dr_XDLClos ?_; refine aBk ?_; refine awp_loop (α := Nat × Int) (fun x => mkS 166 [(4, .ptr 4 0 0 0), (9, .sl 2 (z1893.map cGAtom)), (11, .c (.int .u8 x.2))] [(4, ⟨54, 1, false, v979.map cB⟩)]) (fun x => M_l16_DatalogClosure_L6 g v979 z1893 x.1 x.2 = some r1) (fun x => x.1) (g, 0) h ?_ ?_
          · exact ca_XDLClos
          · intro x71 h; intro _; obtain ⟨k2034, m72, h⟩ := succ_of (f := fun n => M_l16_DatalogClosure_L6 g v979 z1893 n x71.2) rfl h; replace h : M_l16_DatalogClosure_L6 g v979 z1893 (k2034 + 1) x71.2 = some r1 := h; rw [M_l16_DatalogClosure_L6] at h; refine aSq ?_; refine aSR ?_; intro _; refine dr_XDLClos ?_; refine aCd ?_; intro _; refine spl h (fun c73 h => ?_) (fun c73 h => ?_)
            · refine aSk ?_; obtain ⟨o74, h, hK75⟩ := ob1_ok h; refine awp_cut (α := Unit) (fun _ => mkS 166 [(4, .ptr 4 0 0 0), (9, .sl 2 (z1893.map cGAtom)), (11, .c (.int .u8 x71.2))] [(4, ⟨54, 1, false, v979.map cB⟩)]) (fun v => o74 = (.inl v)) ?_ ?_
              · refine aBk ?_; refine aSR ?_; intro _; refine dr_XDLClos ?_; refine aBk ?_; refine awp_loop (α := Nat × Int) (fun x => mkS 166 [(4, .ptr 4 0 0 0), (9, .sl 2 (z1893.map cGAtom)), (11, .c (.int .u8 x71.2)), (12, .c (.int .u8 x.2))] [(4, ⟨54, 1, false, v979.map cB⟩)]) (fun x => M_l16_DatalogClosure_L5 g v979 x71.2 z1893 x.1 x.2 = some o74) (fun x => x.1) (g, 0) h ?_ ?_
                · exact ca_XDLClos
                · intro x76 h; intro _; obtain ⟨k2092, m77, h⟩ := succ_of (f := fun n => M_l16_DatalogClosure_L5 g v979 x71.2 z1893 n x76.2) rfl h; replace h : M_l16_DatalogClosure_L5 g v979 x71.2 z1893 (k2092 + 1) x76.2 = some o74 := h; rw [M_l16_DatalogClosure_L5] at h; refine aSq ?_; refine aSR ?_; intro _; refine dr_XDLClos ?_; refine aCd ?_; intro _; refine spl h (fun c78 h => ?_) (fun c78 h => ?_)
                  · refine aSk ?_; refine aSq ?_; refine aBk ?_; refine aSR ?_; intro _; obtain ⟨z2093, u79, h⟩ := ob1_ok h; refine cl_XDLClos rfl (A_l16_node x71.2 u79) ?_; intro _; obtain ⟨z2094, u80, h⟩ := ob1_ok h; refine cl_XDLClos rfl (A_l16_node x76.2 u80) ?_; intro _; obtain ⟨z2095, u81, h⟩ := ob1_ok h; refine clf_XDLClos [(136, ⟨2, none⟩)] rfl rfl (A_l16_atom (⟨#[114]⟩ : ByteArray) [z2093, z2094] u81) ?_; intro _; obtain ⟨z2096, u82, h⟩ := ob1_ok h; refine cl_XDLClos rfl (A_r10_Has g z1893 z2095 u82) ?_; intro _; obtain ⟨q83, h⟩ := grd_ok h; obtain ⟨q84, h⟩ := grd_ok h; refine ⟨_, lf_arrR rfl (Nat.le_of_ble_eq_true rfl) rfl rfl rfl rfl (tyTab_ok 54 _ rfl) rfl (tyTab_ok 53 _ rfl) (by first | assumption | omega) (by first | assumption | omega), ?_⟩; intro _; obtain ⟨q85, h⟩ := grd_ok h; obtain ⟨q86, h⟩ := grd_ok h; refine ⟨_, lf_arrR rfl (Nat.le_of_ble_eq_true rfl) rfl rfl rfl rfl (tyTab_ok 53 _ rfl) rfl (tyTab_ok 4 _ rfl) (by first | assumption | omega) (by first | assumption | omega), ?_⟩; intro _; obtain ⟨y2097, w87, h⟩ := ixn_ok h; refine Exists.intro (cB y2097) (And.intro (by first | exact map_at' w87 | (have w := map_at' (f := cB) w87; simpa [cB, Value.cells] using w)) ?_); intro _; refine spf h (fun c88 h => ?_) (fun c88 h => ?_)
                    · intro _; obtain ⟨z2098, u89, h⟩ := ob1_ok h; refine cl_XDLClos rfl (A_l16_node x71.2 u89) ?_; intro _; obtain ⟨z2099, u90, h⟩ := ob1_ok h; refine cl_XDLClos rfl (A_l16_node x76.2 u90) ?_; intro _; obtain ⟨z2100, u91, h⟩ := ob1_ok h; refine clf_XDLClos [(151, ⟨2, none⟩)] rfl rfl (A_l16_atom (⟨#[100]⟩ : ByteArray) [z2098, z2099] u91) ?_; intro _; obtain ⟨z2101, u92, h⟩ := ob1_ok h; refine cl_XDLClos rfl (A_r10_Has g z1893 z2100 u92) ?_; intro _; refine ⟨_, lf_arrR rfl (Nat.le_of_ble_eq_true rfl) rfl rfl rfl rfl (tyTab_ok 54 _ rfl) rfl (tyTab_ok 53 _ rfl) (by first | assumption | omega) (by first | assumption | omega), ?_⟩; intro _; refine ⟨_, lf_arrR rfl (Nat.le_of_ble_eq_true rfl) rfl rfl rfl rfl (tyTab_ok 53 _ rfl) rfl (tyTab_ok 4 _ rfl) (by first | assumption | omega) (by first | assumption | omega), ?_⟩; intro _; obtain ⟨y2102, w93, h⟩ := ixn_ok h; refine Exists.intro (cB y2102) (And.intro (by first | exact map_at' w93 | (have w := map_at' (f := cB) w93; simpa [cB, Value.cells] using w)) ?_); intro _; refine spl h (fun c94 h => ?_) (fun c94 h => ?_)
                      · intro _; refine dr_XDLClos ?_; refine aCd ?_; intro _; refine spl h (fun c95 h => ?_) (fun c95 h => ?_)
                        · refine aSR ?_; intro _; refine dr_XDLClos ?_; refine aRt ?_; have j96 := Option.some.inj h; subst j96; replace h := (osum_r hK75); intro _; obtain rfl := inj1 h; exact ca_XDLClos
                        · refine aSk ?_; refine aRg ?_; intro _; refine dr_XDLClos ?_; refine ⟨(k2092, (IntKind.u8.wrap (x76.2 + 1))), h, ltS m77, ?_⟩; exact ca_XDLClos
                      · intro _; refine dr_XDLClos ?_; refine aCd ?_; intro _; refine spl h (fun c97 h => ?_) (fun c97 h => ?_)
                        · refine aSR ?_; intro _; refine dr_XDLClos ?_; refine aRt ?_; have j98 := Option.some.inj h; subst j98; replace h := (osum_r hK75); intro _; obtain rfl := inj1 h; exact ca_XDLClos
                        · refine aSk ?_; refine aRg ?_; intro _; refine dr_XDLClos ?_; refine ⟨(k2092, (IntKind.u8.wrap (x76.2 + 1))), h, ltS m77, ?_⟩; exact ca_XDLClos
                    · intro _; refine dr_XDLClos ?_; refine aCd ?_; intro _; refine litT ?_; refine aSR ?_; intro _; refine dr_XDLClos ?_; refine aRt ?_; have j99 := Option.some.inj h; subst j99; replace h := (osum_r hK75); intro _; obtain rfl := inj1 h; exact ca_XDLClos
                  · refine aEx ?_; refine ⟨(), (Option.some.inj h).symm, ?_⟩; exact ca_XDLClos
              · rintro _ ho; have ho := ho.symm; subst ho; intro _; replace h := (osum_l hK75); refine aRg ?_; intro _; refine dr_XDLClos ?_; refine ⟨(k2034, (IntKind.u8.wrap (x71.2 + 1))), h, ltS m72, ?_⟩; exact ca_XDLClos
            · refine aEx ?_; refine aSR ?_; intro _; refine dr_XDLClos ?_; refine aRt ?_; intro _; obtain rfl := inj1 h; exact ca_XDLClos
        · replace h := erM_no h; refine aRg ?_; intro _; refine dr_XDLClos ?_; refine aCd ?_; intro _; refine litT ?_; refine aSR ?_; intro _; refine dr_XDLClos ?_; refine aRt ?_; intro _; obtain rfl := inj1 h; exact ca_XDLClos
end Go.Proofs.YtflgpccacloadaaDoor.Am
/- Plain law: DatalogClosure. -/
namespace Go.Proofs.YtflgpccacloadaaDoor.Am
open Go.RowKit
/- the table of ways -/
def wv (w : List Bool) (i j : Nat) : Prop := w[i * 8 + j]? = some true
def wb (w : List Bool) (i j : Nat) : Bool := (w[i * 8 + j]?).getD false
theorem wb_wv (w : List Bool) (i j : Nat) : wb w i j = true ↔ wv w i j := by
  unfold wb wv
  cases w[i * 8 + j]? with
  | none => simp
  | some b => simp
theorem wb_at {w : List Bool} (hl : w.length = 64) {i j : Nat} (hi : i < 8) (hj : j < 8) : w[i * 8 + j]? = some (wb w i j) := by
  unfold wb
  rw [List.getElem?_eq_getElem (show i * 8 + j < w.length by omega)]
  rfl
theorem wv_set {w : List Bool} (hl : w.length = 64) {i j a c : Nat} (hi : i < 8) (hj : j < 8) (ha : a < 8) (hc : c < 8) (b : Bool) : wv (w.set (i * 8 + j) b) a c ↔ if i = a ∧ j = c then b = true else wv w a c := by
  unfold wv
  rw [List.getElem?_set]
  by_cases e : i = a ∧ j = c
  · rw [if_pos e, if_pos (by omega), if_pos (by omega)]
    simp
  · rw [if_neg e, if_neg (by omega)]
def stp (k i : Nat) (w : List Bool) (j : Nat) : List Bool := w.set (i * 8 + j) (wb w i j || (wb w i k && wb w k j))
theorem stp_len {k i j : Nat} {w : List Bool} : (stp k i w j).length = w.length := by simp [stp]
theorem stp_wv {w : List Bool} (hl : w.length = 64) {k i j a c : Nat} (hi : i < 8) (hj : j < 8) (ha : a < 8) (hc : c < 8) : wv (stp k i w j) a c ↔ wv w a c ∨ (i = a ∧ j = c ∧ wv w i k ∧ wv w k j) := by
  unfold stp
  rw [wv_set hl hi hj ha hc]
  by_cases e : i = a ∧ j = c
  · rw [if_pos e, Bool.or_eq_true, Bool.and_eq_true, wb_wv, wb_wv, wb_wv]
    obtain ⟨rfl, rfl⟩ := e
    simp
  · rw [if_neg e]
    exact ⟨.inl, fun q => q.elim id (fun q => absurd ⟨q.1, q.2.1⟩ e)⟩
def row8 (k i : Nat) (w : List Bool) : List Bool := (List.range 8).foldl (stp k i) w
def ph8 (k : Nat) (w : List Bool) : List Bool := (List.range 8).foldl (fun w i => row8 k i w) w
def fw8 (w : List Bool) : List Bool := (List.range 8).foldl (fun w k => ph8 k w) w
theorem cl2 (k i : Nat) (hk : k < 8) (hi : i < 8) : ∀ (n j : Nat) (w : List Bool) (fuel : Nat), j + n = 8 → n < fuel → w.length = 64 → M_l16_DatalogClosure_L2 (k : Int) (i : Int) fuel (j : Int) w = some ((List.range' j n).foldl (stp k i) w) := by
  intro n
  induction n with
  | zero =>
    intro j w fuel h1 h2 h3
    obtain ⟨f, rfl⟩ : ∃ f, fuel = f + 1 := ⟨fuel - 1, by omega⟩
    rw [M_l16_DatalogClosure_L2, decide_eq_false (show ¬ (j : Int) < 8 by omega)]
    rfl
  | succ n ih =>
    intro j w fuel h1 h2 h3
    obtain ⟨f, rfl⟩ : ∃ f, fuel = f + 1 := ⟨fuel - 1, by omega⟩
    have hj : j < 8 := by omega
    rw [M_l16_DatalogClosure_L2, decide_eq_true (show (j : Int) < 8 by omega), List.range'_succ, List.foldl_cons]
    have hidx : ∀ a b : Nat, 0 + ((a : Int)).toNat * 8 + ((b : Int)).toNat * 1 = a * 8 + b := fun a b => by simp
    have hix : ∀ (a b : Nat) (ha : a < 8) (hb : b < 8) (F : Bool → Option (List Bool)), ixn w (a * 8 + b) F = F (wb w a b) := fun a b ha hb F => by
      unfold ixn
      rw [wb_at h3 ha hb]
    have hnext : IntKind.i64.wrap ((j : Int) + 1) = ((j + 1 : Nat) : Int) := wrap_eq (by omega) (by omega)
    have hs := ih (j + 1) (stp k i w j) f (by omega) (by omega) (by rw [stp_len]; exact h3)
    rw [← hs]
    simp only [hidx, hnext]
    show grd _ _ = _
    refine grd_mk (by omega) (grd_mk (by omega) (grd_mk (by omega) (grd_mk (by omega) ?_)))
    rw [hix i j hi hj]
    unfold stp
    cases e1 : wb w i j with
    | true =>
      show ixn w (i * 8 + j) _ = _
      rw [hix i j hi hj]
      rfl
    | false =>
      show grd _ _ = _
      refine grd_mk (by omega) (grd_mk (by omega) ?_)
      rw [hix i k hi hk]
      cases e2 : wb w i k with
      | true =>
        show ixn w (k * 8 + j) _ = _
        rw [hix k j hk hj, hix i j hi hj]
        rfl
      | false =>
        show ixn w (i * 8 + j) _ = _
        rw [hix i j hi hj]
        rfl
theorem fold_len {α : Type} {f : List Bool → α → List Bool} (hf : ∀ w x, (f w x).length = w.length) : ∀ (l : List α) (w : List Bool), (l.foldl f w).length = w.length
  | [], _ => rfl
  | x :: r, w => by rw [List.foldl_cons, fold_len hf r, hf]
theorem row8_len (k i : Nat) (w : List Bool) : (row8 k i w).length = w.length := fold_len (fun w x => stp_len) _ _
theorem ph8_len (k : Nat) (w : List Bool) : (ph8 k w).length = w.length := fold_len (fun w x => row8_len k x w) _ _
theorem cl3 (g k : Nat) (hg : 100 < g) (hk : k < 8) : ∀ (n i : Nat) (w : List Bool) (fuel : Nat), i + n = 8 → n < fuel → w.length = 64 → M_l16_DatalogClosure_L3 g (k : Int) fuel (i : Int) w = some ((List.range' i n).foldl (fun w i => row8 k i w) w) := by
  intro n
  induction n with
  | zero =>
    intro i w fuel h1 h2 h3
    obtain ⟨f, rfl⟩ : ∃ f, fuel = f + 1 := ⟨fuel - 1, by omega⟩
    rw [M_l16_DatalogClosure_L3, decide_eq_false (show ¬ (i : Int) < 8 by omega)]
    rfl
  | succ n ih =>
    intro i w fuel h1 h2 h3
    obtain ⟨f, rfl⟩ : ∃ f, fuel = f + 1 := ⟨fuel - 1, by omega⟩
    rw [M_l16_DatalogClosure_L3, decide_eq_true (show (i : Int) < 8 by omega), List.range'_succ, List.foldl_cons]
    have h4 := cl2 k i hk (by omega) 8 0 w g (by omega) (by omega) h3
    rw [show ((0 : Nat) : Int) = 0 from rfl, ← List.range_eq_range'] at h4
    show ob1 (M_l16_DatalogClosure_L2 (k : Int) (i : Int) g 0 w) _ = _
    rw [h4, ob1_some, wrap_eq (by omega) (by omega)]
    exact ih (i + 1) (row8 k i w) f (by omega) (by omega) (by rw [row8_len]; exact h3)
theorem cl4 (g : Nat) (hg : 100 < g) : ∀ (n k : Nat) (w : List Bool) (fuel : Nat), k + n = 8 → n < fuel → w.length = 64 → M_l16_DatalogClosure_L4 g fuel (k : Int) w = some ((List.range' k n).foldl (fun w k => ph8 k w) w) := by
  intro n
  induction n with
  | zero =>
    intro k w fuel h1 h2 h3
    obtain ⟨f, rfl⟩ : ∃ f, fuel = f + 1 := ⟨fuel - 1, by omega⟩
    rw [M_l16_DatalogClosure_L4, decide_eq_false (show ¬ (k : Int) < 8 by omega)]
    rfl
  | succ n ih =>
    intro k w fuel h1 h2 h3
    obtain ⟨f, rfl⟩ : ∃ f, fuel = f + 1 := ⟨fuel - 1, by omega⟩
    rw [M_l16_DatalogClosure_L4, decide_eq_true (show (k : Int) < 8 by omega), List.range'_succ, List.foldl_cons]
    have h4 := cl3 g k hg (by omega) 8 0 w g (by omega) (by omega) h3
    rw [show ((0 : Nat) : Int) = 0 from rfl, ← List.range_eq_range'] at h4
    show ob1 (M_l16_DatalogClosure_L3 g (k : Int) g 0 w) _ = _
    rw [h4, ob1_some, wrap_eq (by omega) (by omega)]
    exact ih (k + 1) (ph8 k w) f (by omega) (by omega) (by rw [ph8_len]; exact h3)
theorem fw_eq (g : Nat) (hg : 100 < g) (w : List Bool) (hl : w.length = 64) : M_l16_DatalogClosure_L4 g g 0 w = some (fw8 w) := by
  have h4 := cl4 g hg 8 0 w g (by omega) (by omega) hl
  rw [show ((0 : Nat) : Int) = 0 from rfl, ← List.range_eq_range'] at h4
  exact h4
/- what the table says -/
def Grows8 (w w' : List Bool) : Prop := w'.length = 64 ∧ ∀ a c, a < 8 → c < 8 → wv w a c → wv w' a c
theorem grows_refl {w : List Bool} (h : w.length = 64) : Grows8 w w := ⟨h, fun _ _ _ _ q => q⟩
theorem Grows8.trans {a b c : List Bool} (h1 : Grows8 a b) (h2 : Grows8 b c) : Grows8 a c := ⟨h2.1, fun x y hx hy q => h2.2 x y hx hy (h1.2 x y hx hy q)⟩
theorem fold_grows {α : Type} {f : List Bool → α → List Bool} : ∀ (l : List α) (w : List Bool), w.length = 64 → (∀ x ∈ l, ∀ w, w.length = 64 → Grows8 w (f w x)) → Grows8 w (l.foldl f w)
  | [], w, hl, _ => grows_refl hl
  | x :: r, w, hl, hf => by
    have h1 := hf x (List.mem_cons_self ..) w hl
    exact h1.trans (fold_grows r (f w x) h1.1 (fun y hy => hf y (List.mem_cons_of_mem _ hy)))
theorem stp_grows {w : List Bool} (hl : w.length = 64) {k i j : Nat} (hi : i < 8) (hj : j < 8) : Grows8 w (stp k i w j) := ⟨by rw [stp_len]; exact hl, fun a c ha hc q => (stp_wv hl hi hj ha hc).2 (.inl q)⟩
theorem row_grows {w : List Bool} (hl : w.length = 64) {k i : Nat} (hi : i < 8) : Grows8 w (row8 k i w) := fold_grows _ w hl (fun _ hj _ hl => stp_grows hl hi (List.mem_range.1 hj))
theorem ph_grows {w : List Bool} (hl : w.length = 64) {k : Nat} : Grows8 w (ph8 k w) := fold_grows _ w hl (fun _ hi _ hl => row_grows hl (List.mem_range.1 hi))
/-- at some point of a fold an element is worked off -/
theorem fold_split {α : Type} {f : List Bool → α → List Bool} {l : List α} {x : α} (hx : x ∈ l) (hf : ∀ y ∈ l, ∀ w, w.length = 64 → Grows8 w (f w y)) (w : List Bool) (hl : w.length = 64) : ∃ v, Grows8 w v ∧ Grows8 (f v x) (l.foldl f w) := by
  obtain ⟨a, c, rfl⟩ := List.append_of_mem hx
  have h1 := fold_grows a w hl (fun y hy => hf y (List.mem_append_left _ hy))
  refine ⟨a.foldl f w, h1, ?_⟩
  rw [List.foldl_append, List.foldl_cons]
  have h2 := hf x hx _ h1.1
  exact fold_grows c _ h2.1 (fun y hy => hf y (List.mem_append_right _ (List.mem_cons_of_mem _ hy)))
theorem ph_gain {w : List Bool} (hl : w.length = 64) {k i j : Nat} (hk : k < 8) (hi : i < 8) (hj : j < 8) (h1 : wv w i k) (h2 : wv w k j) : wv (ph8 k w) i j := by
  obtain ⟨v, g1, g2⟩ := fold_split (f := fun w i => row8 k i w) (List.mem_range.2 hi) (fun y hy _ hl => row_grows hl (List.mem_range.1 hy)) w hl
  obtain ⟨u, g3, g4⟩ := fold_split (f := stp k i) (List.mem_range.2 hj) (fun y hy _ hl => stp_grows hl hi (List.mem_range.1 hy)) v g1.1
  refine g2.2 i j hi hj (g4.2 i j hi hj ?_)
  exact (stp_wv g3.1 hi hj hi hj).2 (.inr ⟨rfl, rfl, g3.2 i k hi hk (g1.2 i k hi hk h1), g3.2 k j hk hj (g1.2 k j hk hj h2)⟩)
theorem fold_sound {α : Type} {f : List Bool → α → List Bool} {T : Nat → Nat → Prop} : ∀ (l : List α) (w : List Bool), w.length = 64 → (∀ a c, a < 8 → c < 8 → wv w a c → T a c) → (∀ x ∈ l, ∀ w, w.length = 64 → (∀ a c, a < 8 → c < 8 → wv w a c → T a c) → (f w x).length = 64 ∧ ∀ a c, a < 8 → c < 8 → wv (f w x) a c → T a c) → (l.foldl f w).length = 64 ∧ ∀ a c, a < 8 → c < 8 → wv (l.foldl f w) a c → T a c
  | [], w, hl, h, _ => ⟨hl, h⟩
  | x :: r, w, hl, h, hf => by
    obtain ⟨h1, h2⟩ := hf x (List.mem_cons_self ..) w hl h
    exact fold_sound r (f w x) h1 h2 (fun y hy => hf y (List.mem_cons_of_mem _ hy))
theorem fw_sound {T : Nat → Nat → Prop} (hT : ∀ a b c, a < 8 → b < 8 → c < 8 → T a b → T b c → T a c) (w : List Bool) (hl : w.length = 64) (h : ∀ a c, a < 8 → c < 8 → wv w a c → T a c) : (fw8 w).length = 64 ∧ ∀ a c, a < 8 → c < 8 → wv (fw8 w) a c → T a c := by
  refine fold_sound _ w hl h (fun k hk w hl h => fold_sound _ w hl h (fun i hi w hl h => fold_sound _ w hl h (fun j hj w hl h => ⟨by rw [stp_len]; exact hl, fun a c ha hc q => ?_⟩)))
  have hk := List.mem_range.1 hk
  have hi := List.mem_range.1 hi
  have hj := List.mem_range.1 hj
  rcases (stp_wv hl hi hj ha hc).1 q with q | ⟨e1, e2, q1, q2⟩
  · exact h a c ha hc q
  · subst e1 e2
    exact hT i k j hi hk hj (h i k hi hk q1) (h k j hk hj q2)
/-- ways whose inner nodes lie below a number -/
def Pk (E : Nat → Nat → Prop) : Nat → Nat → Nat → Prop
  | 0, i, j => E i j
  | k + 1, i, j => Pk E k i j ∨ (Pk E k i k ∧ Pk E k k j)
theorem pk_trans (E : Nat → Nat → Prop) : ∀ (k i m j : Nat), m < k → Pk E k i m → Pk E k m j → Pk E k i j
  | 0, i, m, j, h, _, _ => by omega
  | k + 1, i, m, j, h, h1, h2 => by
    by_cases e : m = k
    · subst e
      have a1 : Pk E m i m := h1.elim id (fun q => q.1)
      have a2 : Pk E m m j := h2.elim id (fun q => q.2)
      exact .inr ⟨a1, a2⟩
    · have hm : m < k := by omega
      rcases h1 with h1 | ⟨h1, h1'⟩
      · rcases h2 with h2 | ⟨h2, h2'⟩
        · exact .inl (pk_trans E k i m j hm h1 h2)
        · exact .inr ⟨pk_trans E k i m k hm h1 h2, h2'⟩
      · rcases h2 with h2 | ⟨h2, h2'⟩
        · exact .inr ⟨h1, pk_trans E k k m j hm h1' h2⟩
        · exact .inr ⟨h1, h2'⟩
theorem pk_edge (E : Nat → Nat → Prop) {i j : Nat} (h : E i j) : ∀ k, Pk E k i j
  | 0 => h
  | k + 1 => .inl (pk_edge E h k)
theorem range_snoc (n : Nat) : List.range (n + 1) = List.range n ++ [n] := List.range_succ
theorem fw_comp {E : Nat → Nat → Prop} (w : List Bool) (hl : w.length = 64) (h : ∀ a c, a < 8 → c < 8 → E a c → wv w a c) : ∀ k, k ≤ 8 → ((List.range k).foldl (fun w k => ph8 k w) w).length = 64 ∧ ∀ a c, a < 8 → c < 8 → Pk E k a c → wv ((List.range k).foldl (fun w k => ph8 k w) w) a c := by
  intro k
  induction k with
  | zero =>
    intro _
    rw [List.range_zero, List.foldl_nil]
    exact ⟨hl, fun a c ha hc q => h a c ha hc q⟩
  | succ k ih =>
    intro hk
    obtain ⟨h1, h2⟩ := ih (by omega)
    rw [range_snoc, List.foldl_append, List.foldl_cons, List.foldl_nil]
    generalize (List.range k).foldl (fun w k => ph8 k w) w = v at h1 h2
    refine ⟨by rw [ph8_len]; exact h1, fun a c ha hc q => ?_⟩
    rcases q with q | ⟨q1, q2⟩
    · exact (ph_grows h1).2 a c ha hc (h2 a c ha hc q)
    · exact ph_gain h1 (by omega) ha hc (h2 a k ha (by omega) q1) (h2 k c (by omega) hc q2)
/-- ways of a graph -/
inductive Way (E : Nat → Nat → Prop) : Nat → Nat → Prop
  | one {i j : Nat} : E i j → Way E i j
  | more {i m j : Nat} : Way E i m → E m j → Way E i j
theorem way_trans {E : Nat → Nat → Prop} {i m j : Nat} (h1 : Way E i m) (h2 : Way E m j) : Way E i j := by
  induction h2 with
  | one h => exact .more h1 h
  | more _ h ih => exact .more ih h
theorem way_pk {E : Nat → Nat → Prop} (hE : ∀ i j, E i j → i < 8 ∧ j < 8) {i j : Nat} (h : Way E i j) : Pk E 8 i j ∧ i < 8 ∧ j < 8 := by
  induction h with
  | one h => exact ⟨pk_edge E h 8, hE _ _ h⟩
  | more _ h ih => exact ⟨pk_trans E 8 _ _ _ ih.2.2 ih.1 (pk_edge E h 8), ih.2.1, (hE _ _ h).2⟩
theorem fw_way {E : Nat → Nat → Prop} (hE : ∀ i j, E i j → i < 8 ∧ j < 8) (w : List Bool) (hl : w.length = 64) (h : ∀ a c, a < 8 → c < 8 → (wv w a c ↔ E a c)) {i j : Nat} (hi : i < 8) (hj : j < 8) : wv (fw8 w) i j ↔ Way E i j := by
  constructor
  · exact (fw_sound (T := Way E) (fun a b c _ _ _ h1 h2 => way_trans h1 h2) w hl (fun a c ha hc q => .one ((h a c ha hc).1 q))).2 i j hi hj
  · intro q
    exact (fw_comp w hl (fun a c ha hc q => (h a c ha hc).2 q) 8 (Nat.le_refl _)).2 i j hi hj (way_pk hE q).1
/- the graph -/
def nd (i : Nat) : ByteArray := strOfNums [IntKind.u8.wrap (97 + (i : Int))]
theorem nd_inj {i j : Nat} (hi : i < 8) (hj : j < 8) (h : nd i = nd j) : i = j := by
  have : ∀ i, i < 8 → ∀ j, j < 8 → nd i = nd j → i = j := by decide +kernel
  exact this i hi j hj h
theorem nd_const {i : Nat} (hi : i < 8) : isV (nd i) = false := by
  rw [isV_eq]
  have : ∀ i, i < 8 → isV' (nd i) = false := by decide +kernel
  exact this i hi
theorem tm8 (z : Int) (h : 0 ≤ z) : z.tmod 8 = ((z.toNat % 8 : Nat) : Int) := by
  obtain ⟨n, rfl⟩ := Int.eq_ofNat_of_zero_le h
  rw [Int.toNat_natCast]
  rfl
theorem node_eq (z : Int) (h : 0 ≤ z) : M_l16_node z = some (nd (z.toNat % 8)) := by
  unfold M_l16_node
  rw [tm8 z h]
  exact grd_mk (by decide) rfl
def nE : ByteArray := ⟨#[101]⟩
def nR : ByteArray := ⟨#[114]⟩
def nD : ByteArray := ⟨#[100]⟩
def wx : ByteArray := ⟨#[63, 120]⟩
def wy : ByteArray := ⟨#[63, 121]⟩
def wz : ByteArray := ⟨#[63, 122]⟩
def eAt (p : Int × Int) : GAtom := ⟨nE, [nd (p.1.toNat % 8), nd (p.2.toNat % 8)]⟩
def ru1 : GRule := { Head := ⟨nR, [wx, wy]⟩, Body := [⟨nE, [wx, wy]⟩], Unequal := [] }
def ru2 : GRule := { Head := ⟨nR, [wx, wz]⟩, Body := [⟨nR, [wx, wy]⟩, ⟨nE, [wy, wz]⟩], Unequal := [] }
def ru3 : GRule := { Head := ⟨nD, [wx, wy]⟩, Body := [⟨nR, [wx, wy]⟩], Unequal := [(wx, wy)] }
def EdgeL (l : List (Int × Int)) (i j : Nat) : Prop := ∃ p ∈ l, p.1.toNat % 8 = i ∧ p.2.toNat % 8 = j
theorem cl1 (l : List (Int × Int)) (hl : l.length ≤ 30) (hp : ∀ p ∈ l, 0 ≤ p.1 ∧ 0 ≤ p.2) : ∀ (k i : Nat) (w : List Bool) (out : List GAtom), l.length + 1 ≤ i + k → i ≤ l.length → w.length = 64 → out.length ≤ i →
    ∃ w', M_l16_DatalogClosure_L1 l k (i : Int) w out = some (w', out ++ (l.drop i).map eAt) ∧ w'.length = 64 ∧ ∀ a c, a < 8 → c < 8 → (wv w' a c ↔ wv w a c ∨ EdgeL (l.drop i) a c) := by
  intro k
  induction k with
  | zero => intro i w out h1 h2; omega
  | succ k ih =>
    intro i w out h1 h2 h3 h4
    rw [M_l16_DatalogClosure_L1]
    by_cases h : i < l.length
    · have hy := List.getElem?_eq_getElem h
      obtain ⟨p1, p2⟩ := hp _ (List.getElem_mem h)
      have b1 : l[i].1.toNat % 8 < 8 := Nat.mod_lt _ (by omega)
      have b2 : l[i].2.toNat % 8 < 8 := Nat.mod_lt _ (by omega)
      rw [show decide ((i : Int) < ((l.map cA2_c_u8).length : Int)) = true by simp; omega]
      obtain ⟨w', q1, q2, q3⟩ := ih (i + 1) (w.set (l[i].1.toNat % 8 * 8 + l[i].2.toNat % 8) true) (out ++ [eAt l[i]]) (by omega) (by omega) (by simpa using h3) (by simp; omega)
      refine ⟨w', ?_, q2, fun a c ha hc => ?_⟩
      · show ix l (i : Int) _ = _
        rw [ix_at hy, node_eq _ p1, ob1_some, ix_at hy, node_eq _ p2, ob1_some]
        show grd _ _ = _
        refine grd_mk (by omega) ?_
        rw [ix_at hy, ix_at hy, tm8 _ p1, tm8 _ p2]
        refine grd_mk (by omega) (grd_mk (by omega) (grd_mk (by omega) (grd_mk (by omega) ?_)))
        rw [show 0 + (((l[i].1.toNat % 8 : Nat) : Int)).toNat * 8 + (((l[i].2.toNat % 8 : Nat) : Int)).toNat * 1 = l[i].1.toNat % 8 * 8 + l[i].2.toNat % 8 by rw [Int.toNat_natCast, Int.toNat_natCast, Nat.mul_one, Nat.zero_add]]
        have hix : ∀ (F : Bool → Option ((List Bool) × (List GAtom))), ixn w (l[i].1.toNat % 8 * 8 + l[i].2.toNat % 8) F = F (wb w (l[i].1.toNat % 8) (l[i].2.toNat % 8)) := fun F => by
          unfold ixn
          rw [wb_at h3 b1 b2]
        rw [hix]
        refine grd_mk (by decide) ?_
        rw [wrap_eq (by omega) (by omega)]
        rw [dropC hy, List.map_cons]
        rw [List.append_assoc] at q1
        exact q1
      · rw [q3 a c ha hc, wv_set h3 b1 b2 ha hc, dropC hy]
        unfold EdgeL
        by_cases e : l[i].1.toNat % 8 = a ∧ l[i].2.toNat % 8 = c
        · rw [if_pos e]
          exact ⟨fun _ => .inr ⟨l[i], List.mem_cons_self .., e⟩, fun _ => .inl rfl⟩
        · rw [if_neg e]
          constructor
          · rintro (q | ⟨p, hp, q⟩)
            · exact .inl q
            · exact .inr ⟨p, List.mem_cons_of_mem _ hp, q⟩
          · rintro (q | ⟨p, hp, q⟩)
            · exact .inl q
            · rcases List.mem_cons.1 hp with e2 | e2
              · rw [e2] at q; exact absurd q e
              · exact .inr ⟨p, e2, q⟩
    · rw [show decide ((i : Int) < ((l.map cA2_c_u8).length : Int)) = false by simp; omega]
      rw [List.drop_of_length_le (show l.length ≤ i by omega)]
      refine ⟨w, by simp [sel], h3, fun a c _ _ => ⟨.inl, fun q => q.elim id (fun ⟨p, hp, _⟩ => by cases hp)⟩⟩
theorem ru_ck : ∀ r ∈ [ru1, ru2, ru3], ckR r = .nil := by
  intro r hr
  have h : ∀ r ∈ [ru1, ru2, ru3], ckR r = .nil := by
    unfold ckR vars addV badT
    rw [isV_fun]
    decide +kernel
  exact h r hr
theorem ru_vars : (vars ru1.Body).length = 2 ∧ (vars ru2.Body).length = 3 ∧ (vars ru3.Body).length = 2 := by
  unfold vars addV
  rw [isV_fun]
  decide +kernel
theorem w_V : isV wx = true ∧ isV wy = true ∧ isV wz = true := by
  rw [isV_fun]
  decide +kernel
def cProg (l : List (Int × Int)) : GProgram := ⟨l.map eAt, [ru1, ru2, ru3]⟩
theorem c_const (l : List (Int × Int)) : (consts (allA (cProg l))).length ≤ 8 := by
  have h := nodup_sub (a := consts (allA (cProg l))) (b := (List.range 8).map nd) (by
    have go : ∀ (l out : List ByteArray), out.Nodup → (l.foldl addC out).Nodup := by
      intro l
      induction l with
      | nil => intro out h; exact h
      | cons s r ih =>
        intro out h
        rw [List.foldl_cons]
        refine ih _ ?_
        unfold addC
        split
        · exact h
        · split
          · exact h
          · rename_i hn _
            refine List.nodup_append.2 ⟨h, by simp, fun x hx y hy e => ?_⟩
            simp at hy
            exact hn (by rw [← hy, ← e]; exact hx)
    exact go _ [] List.nodup_nil) (fun x hx => by
    rcases (addC_mem _ _ _).1 hx with q | ⟨q, hv⟩
    · cases q
    · obtain ⟨a, ha, hx⟩ := List.mem_flatMap.1 q
      rcases List.mem_append.1 ha with e | e
      · obtain ⟨p, _, rfl⟩ := List.mem_map.1 e
        have : ∀ n : Nat, nd (n % 8) ∈ (List.range 8).map nd := fun n => List.mem_map.2 ⟨n % 8, List.mem_range.2 (Nat.mod_lt _ (by omega)), rfl⟩
        rcases List.mem_cons.1 hx with e | e
        · rw [e]; exact this _
        · rw [List.mem_singleton.1 e]; exact this _
      · exfalso
        have hall : ∀ a ∈ [ru1, ru2, ru3].flatMap rAtoms, ∀ x ∈ a.Args, x = wx ∨ x = wy ∨ x = wz := by decide +kernel
        obtain ⟨v1, v2, v3⟩ := w_V
        rcases hall a e x hx with rfl | rfl | rfl
        · rw [v1] at hv; cases hv
        · rw [v2] at hv; cases hv
        · rw [v3] at hv; cases hv)
  simpa using h
theorem c_good (l : List (Int × Int)) (hl : l.length ≤ 30) : Good (cProg l) := by
  have hc := c_const l
  obtain ⟨v1, v2, v3⟩ := ru_vars
  have hp : ∀ n, (consts (allA (cProg l))).length ^ n ≤ 8 ^ n := fun n => Nat.pow_le_pow_left hc n
  have h2 := hp 2
  have h3 := hp 3
  have e2 : (8 : Nat) ^ 2 = 64 := by decide
  have e3 : (8 : Nat) ^ 3 = 512 := by decide
  refine ⟨⟨by simpa [cProg] using hl, (show [ru1, ru2, ru3].length ≤ 8 by decide), fun a ha => ?_, fun r hr => ?_, fun r hr => ?_, ?_⟩, fun a ha x hx hv => ?_⟩
  · obtain ⟨p, _, rfl⟩ := List.mem_map.1 ha
    exact ⟨by show 2 ≤ 8; omega, (show nE.size ≤ 100 by decide)⟩
  · have h : ∀ r ∈ [ru1, ru2, ru3], (r.Body.length ≤ 3) ∧ r.Body.length ≤ 20 ∧ r.Unequal.length ≤ 6 ∧ ∀ a ∈ r.Head :: r.Body, a.Args.length ≤ 8 ∧ a.Name.size ≤ 100 := by decide +kernel
    obtain ⟨q1, q2, q3, q4⟩ := h r hr
    exact ⟨.inl q1, q2, q3, q4⟩
  · have hr' : r = ru1 ∨ r = ru2 ∨ r = ru3 := by simpa [cProg] using hr
    rcases hr' with rfl | rfl | rfl
    · rw [v1]; omega
    · rw [v2]; omega
    · rw [v3]; omega
  · show ([ru1, ru2, ru3].map _).sum ≤ 300
    simp only [List.map_cons, List.map_nil, List.sum_cons, List.sum_nil, v1, v2, v3]
    have w1 : min ru1.Head.Args.length 2 = 2 := rfl
    have w2 : min ru2.Head.Args.length 3 = 2 := rfl
    have w3 : min ru3.Head.Args.length 2 = 2 := rfl
    rw [w1, w2, w3]
    omega
  · rcases List.mem_append.1 ha with e | e
    · obtain ⟨p, _, rfl⟩ := List.mem_map.1 e
      have hs : ∀ n, (nd n).size ≤ 1 := fun n => Nat.le_refl _
      rcases List.mem_cons.1 hx with e | e
      · rw [e]; exact Nat.le_trans (hs _) (by decide)
      · rw [List.mem_singleton.1 e]; exact Nat.le_trans (hs _) (by decide)
    · have hall : ∀ a ∈ [ru1, ru2, ru3].flatMap rAtoms, ∀ x ∈ a.Args, x.size ≤ 2 := by decide +kernel
      exact Nat.le_trans (hall a e x hx) (by decide)
theorem c_wrong (l : List (Int × Int)) : wrongE (cProg l).Facts (cProg l).Rules = .nil := by
  unfold wrongE
  rw [firstE_of (l := (cProg l).Rules) ru_ck]
  simp only []
  rw [if_neg]
  intro h
  obtain ⟨a, ha, hb⟩ := List.any_eq_true.1 h
  obtain ⟨p, _, rfl⟩ := List.mem_map.1 ha
  unfold badF eAt at hb
  have h1 := nd_const (i := p.1.toNat % 8) (Nat.mod_lt _ (by omega))
  have h2 := nd_const (i := p.2.toNat % 8) (Nat.mod_lt _ (by omega))
  have h3 : decide (nE = (⟨#[]⟩ : ByteArray)) = false := by decide +kernel
  simp [h1, h2, h3] at hb
/-- ways between names of nodes -/
inductive PathS (F : List GAtom) : ByteArray → ByteArray → Prop
  | one {x y : ByteArray} : (⟨nE, [x, y]⟩ : GAtom) ∈ F → PathS F x y
  | more {x y z : ByteArray} : PathS F x y → (⟨nE, [y, z]⟩ : GAtom) ∈ F → PathS F x z
theorem names_ne : nE ≠ nR ∧ nE ≠ nD ∧ nR ≠ nD := by decide +kernel
theorem inst2 (σ : Asg) (n a b : ByteArray) (ha : isV a = true) (hb : isV b = true) : inst σ ⟨n, [a, b]⟩ = ⟨n, [σ a, σ b]⟩ := by
  unfold inst
  simp [trm, ha, hb]
theorem c_der {F : List GAtom} (hF : ∀ a ∈ F, a.Name = nE) {z : GAtom} (h : Der F [ru1, ru2, ru3] z) : z ∈ F ∨ (∃ x y, z = ⟨nR, [x, y]⟩ ∧ PathS F x y) ∨ ∃ x y, z = ⟨nD, [x, y]⟩ ∧ PathS F x y ∧ x ≠ y := by
  obtain ⟨v1, v2, v3⟩ := w_V
  obtain ⟨n1, n2, n3⟩ := names_ne
  have fromE : ∀ x y, ((⟨nE, [x, y]⟩ : GAtom) ∈ F ∨ (∃ a b, (⟨nE, [x, y]⟩ : GAtom) = ⟨nR, [a, b]⟩ ∧ PathS F a b) ∨ ∃ a b, (⟨nE, [x, y]⟩ : GAtom) = ⟨nD, [a, b]⟩ ∧ PathS F a b ∧ a ≠ b) → (⟨nE, [x, y]⟩ : GAtom) ∈ F := by
    rintro x y (q | ⟨a, b, q, _⟩ | ⟨a, b, q, _⟩)
    · exact q
    · exact absurd (congrArg GAtom.Name q) n1
    · exact absurd (congrArg GAtom.Name q) n2
  have fromR : ∀ x y, ((⟨nR, [x, y]⟩ : GAtom) ∈ F ∨ (∃ a b, (⟨nR, [x, y]⟩ : GAtom) = ⟨nR, [a, b]⟩ ∧ PathS F a b) ∨ ∃ a b, (⟨nR, [x, y]⟩ : GAtom) = ⟨nD, [a, b]⟩ ∧ PathS F a b ∧ a ≠ b) → PathS F x y := by
    rintro x y (q | ⟨a, b, q, hp⟩ | ⟨a, b, q, _⟩)
    · exact absurd (hF _ q).symm n1
    · have h1 : [x, y] = [a, b] := congrArg GAtom.Args q
      have h2 := List.cons.inj h1
      have h3 := List.cons.inj h2.2
      rw [h2.1, h3.1]; exact hp
    · exact absurd (congrArg GAtom.Name q) n3
  induction h with
  | fact h => exact .inl h
  | @rule r σ hr _ hu ih =>
    have hr' : r = ru1 ∨ r = ru2 ∨ r = ru3 := by simpa using hr
    rcases hr' with rfl | rfl | rfl
    · have h1 := ih ⟨nE, [wx, wy]⟩ (List.mem_cons_self ..)
      rw [inst2 σ nE wx wy v1 v2] at h1
      refine .inr (.inl ⟨σ wx, σ wy, inst2 σ nR wx wy v1 v2, .one (fromE _ _ h1)⟩)
    · have h1 := ih ⟨nR, [wx, wy]⟩ (List.mem_cons_self ..)
      have h2 := ih ⟨nE, [wy, wz]⟩ (List.mem_cons_of_mem _ (List.mem_cons_self ..))
      rw [inst2 σ nR wx wy v1 v2] at h1
      rw [inst2 σ nE wy wz v2 v3] at h2
      exact .inr (.inl ⟨σ wx, σ wz, inst2 σ nR wx wz v1 v3, .more (fromR _ _ h1) (fromE _ _ h2)⟩)
    · have h1 := ih ⟨nR, [wx, wy]⟩ (List.mem_cons_self ..)
      rw [inst2 σ nR wx wy v1 v2] at h1
      have h2 := hu (wx, wy) (List.mem_cons_self ..)
      simp only [trm, v1, v2, if_true] at h2
      exact .inr (.inr ⟨σ wx, σ wy, inst2 σ nD wx wy v1 v2, fromR _ _ h1, h2⟩)
theorem c_r {F : List GAtom} {x y : ByteArray} (h : PathS F x y) : Der F [ru1, ru2, ru3] ⟨nR, [x, y]⟩ := by
  obtain ⟨v1, v2, v3⟩ := w_V
  have d1 : ¬ wy = wx := by decide +kernel
  have d2 : ¬ wz = wx := by decide +kernel
  have d3 : ¬ wz = wy := by decide +kernel
  induction h with
  | @one y h =>
    have := Der.rule (facts := F) (rules := [ru1, ru2, ru3]) (r := ru1) (σ := fun s => if s = wx then x else y) (List.mem_cons_self ..) (fun a ha => by
      rw [List.mem_singleton.1 ha, inst2 _ nE wx wy v1 v2, if_pos rfl, if_neg d1]
      exact .fact h) (fun p hp => by cases hp)
    rw [show ru1.Head = ⟨nR, [wx, wy]⟩ from rfl, inst2 _ nR wx wy v1 v2, if_pos rfl, if_neg d1] at this
    exact this
  | @more y z _ h ih =>
    have := Der.rule (facts := F) (rules := [ru1, ru2, ru3]) (r := ru2) (σ := fun s => if s = wx then x else if s = wy then y else z) (List.mem_cons_of_mem _ (List.mem_cons_self ..)) (fun a ha => by
      rcases List.mem_cons.1 ha with e | e
      · rw [e, inst2 _ nR wx wy v1 v2, if_pos rfl, if_neg d1, if_pos rfl]
        exact ih
      · rw [List.mem_singleton.1 e, inst2 _ nE wy wz v2 v3, if_neg d1, if_pos rfl, if_neg d2, if_neg d3]
        exact .fact h) (fun p hp => by cases hp)
    rw [show ru2.Head = ⟨nR, [wx, wz]⟩ from rfl, inst2 _ nR wx wz v1 v3, if_pos rfl, if_neg d2, if_neg d3] at this
    exact this
theorem c_d {F : List GAtom} {x y : ByteArray} (h : PathS F x y) (hne : x ≠ y) : Der F [ru1, ru2, ru3] ⟨nD, [x, y]⟩ := by
  obtain ⟨v1, v2, v3⟩ := w_V
  have d1 : ¬ wy = wx := by decide +kernel
  have := Der.rule (facts := F) (rules := [ru1, ru2, ru3]) (r := ru3) (σ := fun s => if s = wx then x else y) (List.mem_cons_of_mem _ (List.mem_cons_of_mem _ (List.mem_cons_self ..))) (fun a ha => by
    rw [List.mem_singleton.1 ha, inst2 _ nR wx wy v1 v2, if_pos rfl, if_neg d1]
    exact c_r h) (fun p hp => by
    rw [List.mem_singleton.1 hp]
    simp only [trm, v1, v2, if_true, if_neg d1]
    exact hne)
  rw [show ru3.Head = ⟨nD, [wx, wy]⟩ from rfl, inst2 _ nD wx wy v1 v2, if_pos rfl, if_neg d1] at this
  exact this
theorem path_way (l : List (Int × Int)) {x y : ByteArray} (h : PathS (l.map eAt) x y) : ∃ i j, i < 8 ∧ j < 8 ∧ x = nd i ∧ y = nd j ∧ Way (EdgeL l) i j := by
  have fromF : ∀ a b, (⟨nE, [a, b]⟩ : GAtom) ∈ l.map eAt → ∃ i j, i < 8 ∧ j < 8 ∧ a = nd i ∧ b = nd j ∧ EdgeL l i j := by
    intro a b q
    obtain ⟨p, hp, e⟩ := List.mem_map.1 q
    have h1 : [nd (p.1.toNat % 8), nd (p.2.toNat % 8)] = [a, b] := congrArg GAtom.Args e
    have h2 := List.cons.inj h1
    have h3 := List.cons.inj h2.2
    exact ⟨_, _, Nat.mod_lt _ (by omega), Nat.mod_lt _ (by omega), h2.1.symm, h3.1.symm, p, hp, rfl, rfl⟩
  induction h with
  | one q =>
    obtain ⟨i, j, hi, hj, e1, e2, he⟩ := fromF _ _ q
    exact ⟨i, j, hi, hj, e1, e2, .one he⟩
  | more _ q ih =>
    obtain ⟨i, m, hi, hm, e1, e2, hw⟩ := ih
    obtain ⟨m', j, hm', hj, e3, e4, he⟩ := fromF _ _ q
    have : m = m' := nd_inj hm hm' (e2.symm.trans e3)
    subst this
    exact ⟨i, j, hi, hj, e1, e4, .more hw he⟩
theorem way_path (l : List (Int × Int)) {i j : Nat} (h : Way (EdgeL l) i j) : PathS (l.map eAt) (nd i) (nd j) := by
  have toF : ∀ a b, EdgeL l a b → (⟨nE, [nd a, nd b]⟩ : GAtom) ∈ l.map eAt := by
    rintro a b ⟨p, hp, rfl, rfl⟩
    exact List.mem_map.2 ⟨p, hp, rfl⟩
  induction h with
  | one q => exact .one (toF _ _ q)
  | more _ q ih => exact .more ih (toF _ _ q)
theorem c_model (l : List (Int × Int)) {i j : Nat} (hi : i < 8) (hj : j < 8) : (Der (l.map eAt) [ru1, ru2, ru3] ⟨nR, [nd i, nd j]⟩ ↔ Way (EdgeL l) i j) ∧ (Der (l.map eAt) [ru1, ru2, ru3] ⟨nD, [nd i, nd j]⟩ ↔ Way (EdgeL l) i j ∧ i ≠ j) := by
  obtain ⟨n1, n2, n3⟩ := names_ne
  have hF : ∀ a ∈ l.map eAt, a.Name = nE := fun a ha => by obtain ⟨p, _, rfl⟩ := List.mem_map.1 ha; rfl
  have back : PathS (l.map eAt) (nd i) (nd j) → Way (EdgeL l) i j := fun h => by
    obtain ⟨a, b, ha, hb, e1, e2, hw⟩ := path_way l h
    rw [nd_inj hi ha e1, nd_inj hj hb e2]
    exact hw
  constructor
  · constructor
    · intro h
      rcases c_der hF h with q | ⟨x, y, q, hp⟩ | ⟨x, y, q, _⟩
      · exact absurd (hF _ q).symm n1
      · have h1 : [nd i, nd j] = [x, y] := congrArg GAtom.Args q
        have h2 := List.cons.inj h1
        have h3 := List.cons.inj h2.2
        exact back (by rw [h2.1, h3.1]; exact hp)
      · exact absurd (congrArg GAtom.Name q) n3
    · intro h
      exact c_r (way_path l h)
  · constructor
    · intro h
      rcases c_der hF h with q | ⟨x, y, q, _⟩ | ⟨x, y, q, hp, hne⟩
      · exact absurd (hF _ q).symm n2
      · exact absurd (congrArg GAtom.Name q).symm n3
      · have h1 : [nd i, nd j] = [x, y] := congrArg GAtom.Args q
        have h2 := List.cons.inj h1
        have h3 := List.cons.inj h2.2
        refine ⟨back (by rw [h2.1, h3.1]; exact hp), fun e => hne ?_⟩
        rw [← h2.1, ← h3.1, e]
    · rintro ⟨h, hne⟩
      exact c_d (way_path l h) (fun e => hne (nd_inj hi hj e))
theorem cl5 (g : Nat) (hg : 2000 < g) (w : List Bool) (hw : w.length = 64) (S : List GAtom) (hS : S.length ≤ 1000) (hS8 : ∀ a ∈ S, a.Args.length ≤ 8) (i : Nat) (hi : i < 8)
    (h : ∀ j, j < 8 → decide ((⟨nR, [nd i, nd j]⟩ : GAtom) ∈ S) = wb w i j ∧ decide ((⟨nD, [nd i, nd j]⟩ : GAtom) ∈ S) = (wb w i j && decide (i ≠ j))) : ∀ (n j fuel : Nat), j + n = 8 → n < fuel → M_l16_DatalogClosure_L5 g w (i : Int) S fuel (j : Int) = some (.inl ()) := by
  intro n
  induction n with
  | zero =>
    intro j fuel h1 h2
    obtain ⟨f, rfl⟩ : ∃ f, fuel = f + 1 := ⟨fuel - 1, by omega⟩
    rw [M_l16_DatalogClosure_L5, decide_eq_false (show ¬ (j : Int) < 8 by omega)]
    rfl
  | succ n ih =>
    intro j fuel h1 h2
    obtain ⟨f, rfl⟩ : ∃ f, fuel = f + 1 := ⟨fuel - 1, by omega⟩
    have hj : j < 8 := by omega
    obtain ⟨e1, e2⟩ := h j hj
    have hn1 : M_l16_node (i : Int) = some (nd i) := by rw [node_eq _ (by omega), Int.toNat_natCast, Nat.mod_eq_of_lt hi]
    have hn2 : M_l16_node (j : Int) = some (nd j) := by rw [node_eq _ (by omega), Int.toNat_natCast, Nat.mod_eq_of_lt hj]
    have hidx : 0 + ((i : Int)).toNat * 8 + ((j : Int)).toNat * 1 = i * 8 + j := by simp
    have hix : ∀ (F : Bool → Option (Unit ⊕ Bool)), ixn w (i * 8 + j) F = F (wb w i j) := fun F => by
      unfold ixn
      rw [wb_at hw hi hj]
    have hh1 : M_r10_Has g S ⟨nR, [nd i, nd j]⟩ = some (wb w i j) := by rw [has10_eq g S _ (by omega) (few8 (by omega) hS8) (by show 2 ≤ _; omega) (by omega), e1]
    have hh2 : M_r10_Has g S ⟨nD, [nd i, nd j]⟩ = some (wb w i j && decide (i ≠ j)) := by rw [has10_eq g S _ (by omega) (few8 (by omega) hS8) (by show 2 ≤ _; omega) (by omega), e2]
    have hwr : IntKind.u8.wrap ((j : Int) + 1) = ((j + 1 : Nat) : Int) := by
      have : ∀ j : Nat, j < 8 → IntKind.u8.wrap ((j : Int) + 1) = ((j + 1 : Nat) : Int) := by decide +kernel
      exact this j hj
    have hat : ∀ (n a b : ByteArray), M_l16_atom n [a, b] = some ⟨n, [a, b]⟩ := fun n a b => rfl
    have hne : (((i : Nat) : Int) != ((j : Nat) : Int)) = decide (i ≠ j) := by
      by_cases e : i = j
      · subst e; simp
      · have : ¬ ((i : Int) = (j : Int)) := by omega
        simp [e, this]
    rw [M_l16_DatalogClosure_L5, decide_eq_true (show (j : Int) < 8 by omega)]
    rw [show ∀ x y : Option (Unit ⊕ Bool), sel true x y = x from fun _ _ => rfl]
    rw [hn1, ob1_some, hn2, ob1_some, show (⟨#[114]⟩ : ByteArray) = nR from rfl, show (⟨#[100]⟩ : ByteArray) = nD from rfl, hat, ob1_some, hh1, ob1_some]
    refine grd_mk (by omega) (grd_mk (by omega) (grd_mk (by omega) (grd_mk (by omega) ?_)))
    simp only [hidx]
    rw [hix, show (!(wb w i j == wb w i j)) = false by simp, show ∀ x y : Option (Unit ⊕ Bool), sel false x y = y from fun _ _ => rfl]
    rw [ob1_some, ob1_some, hat, ob1_some, hh2, ob1_some, hix, hne, hwr]
    have hr := ih (j + 1) f (by omega) (by omega)
    cases hb : wb w i j with
    | true =>
      show sel (!((true && decide (i ≠ j)) == decide (i ≠ j))) _ _ = _
      rw [show (!((true && decide (i ≠ j)) == decide (i ≠ j))) = false by simp]
      exact hr
    | false => exact hr
theorem cl6 (g : Nat) (hg : 2000 < g) (w : List Bool) (hw : w.length = 64) (S : List GAtom) (hS : S.length ≤ 1000) (hS8 : ∀ a ∈ S, a.Args.length ≤ 8)
    (h : ∀ i j, i < 8 → j < 8 → decide ((⟨nR, [nd i, nd j]⟩ : GAtom) ∈ S) = wb w i j ∧ decide ((⟨nD, [nd i, nd j]⟩ : GAtom) ∈ S) = (wb w i j && decide (i ≠ j))) : ∀ (n i fuel : Nat), i + n = 8 → n < fuel → M_l16_DatalogClosure_L6 g w S fuel (i : Int) = some true := by
  intro n
  induction n with
  | zero =>
    intro i fuel h1 h2
    obtain ⟨f, rfl⟩ : ∃ f, fuel = f + 1 := ⟨fuel - 1, by omega⟩
    rw [M_l16_DatalogClosure_L6, decide_eq_false (show ¬ (i : Int) < 8 by omega)]
    rfl
  | succ n ih =>
    intro i fuel h1 h2
    obtain ⟨f, rfl⟩ : ∃ f, fuel = f + 1 := ⟨fuel - 1, by omega⟩
    have hi : i < 8 := by omega
    have hwr : IntKind.u8.wrap ((i : Int) + 1) = ((i + 1 : Nat) : Int) := by
      have : ∀ j : Nat, j < 8 → IntKind.u8.wrap ((j : Int) + 1) = ((j + 1 : Nat) : Int) := by decide +kernel
      exact this i hi
    have h5 := cl5 g hg w hw S hS hS8 i hi (fun j hj => h i j hi hj) 8 0 g (by omega) (by omega)
    rw [show ((0 : Nat) : Int) = 0 from rfl] at h5
    rw [M_l16_DatalogClosure_L6, decide_eq_true (show (i : Int) < 8 by omega)]
    show ob1 (M_l16_DatalogClosure_L5 g w (i : Int) S g 0) _ = _
    rw [h5]
    show M_l16_DatalogClosure_L6 g w S f _ = _
    rw [hwr]
    exact ih (i + 1) f (by omega) (by omega)
theorem closure_true (l : List (Int × Int)) (hp : ∀ p ∈ l, 0 ≤ p.1 ∧ 0 ≤ p.2) : M_l16_DatalogClosure GG l = some true := by
  obtain ⟨g, hgg⟩ : ∃ g, g = GG := ⟨GG, rfl⟩
  have hg1 : 1000000000000 < g := by rw [hgg]; decide
  rw [← hgg]
  clear hgg
  unfold M_l16_DatalogClosure
  rw [awake16 g (by omega), show decide (((l.map cA2_c_u8).length : Int) > 30) = decide (30 < l.length) from decide_eq_decide.2 (by rw [List.length_map]; omega)]
  by_cases h30 : 30 < l.length
  · rw [decide_eq_true h30]; rfl
  · rw [decide_eq_false h30]
    have hl : l.length ≤ 30 := by omega
    obtain ⟨w', q1, q2, q3⟩ := cl1 l hl hp g 0 (List.replicate 64 false) [] (by omega) (Nat.zero_le _) (by simp) (Nat.le_refl _)
    rw [List.drop_zero, List.nil_append, show ((0 : Nat) : Int) = 0 from rfl] at q1
    rw [List.drop_zero] at q3
    show ob1 (M_l16_DatalogClosure_L1 l g 0 (List.replicate 64 false) []) _ = _
    rw [q1, ob1_some]
    show ob1 (M_l16_DatalogClosure_L4 g g 0 w') _ = _
    rw [fw_eq g (by omega) w' q2, ob1_some]
    show grd _ (ob2 (M_datalog_Solve g (cProg l).Facts (cProg l).Rules) _) = _
    refine grd_mk (by rw [List.length_map]; omega) ?_
    have hgood := c_good l hl
    rw [solve_good hgood g (by omega), ob2_some]
    obtain ⟨S, a1, a2, a3, _, a5⟩ := solve_der hgood g (by omega) (c_wrong l)
    rw [a1]
    have hE : ∀ i j, EdgeL l i j → i < 8 ∧ j < 8 := by
      rintro i j ⟨p, _, rfl, rfl⟩
      exact ⟨Nat.mod_lt _ (by omega), Nat.mod_lt _ (by omega)⟩
    have hlen : (fw8 w').length = 64 := by
      have := fw_sound (T := fun _ _ => True) (fun _ _ _ _ _ _ _ _ => trivial) w' q2 (fun _ _ _ _ _ => trivial)
      exact this.1
    have hw : ∀ i j, i < 8 → j < 8 → (wb (fw8 w') i j = true ↔ Way (EdgeL l) i j) := fun i j hi hj => by
      rw [wb_wv]
      refine fw_way hE w' q2 (fun a c ha hc => ?_) hi hj
      rw [q3 a c ha hc]
      refine ⟨fun q => q.elim (fun q => ?_) id, .inr⟩
      exfalso
      unfold wv at q
      rw [List.getElem?_replicate, if_pos (by omega)] at q
      cases q
    have h6 := cl6 g (by omega) (fw8 w') hlen S (by omega) (fun a ha => (a2.sml a ha).1) (fun i j hi hj => by
      obtain ⟨m1, m2⟩ := c_model l hi hj
      have r1 : (⟨nR, [nd i, nd j]⟩ : GAtom) ∈ S ↔ Way (EdgeL l) i j := (a5 _).trans m1
      have r2 : (⟨nD, [nd i, nd j]⟩ : GAtom) ∈ S ↔ Way (EdgeL l) i j ∧ i ≠ j := (a5 _).trans m2
      have r3 := hw i j hi hj
      cases hb : wb (fw8 w') i j with
      | true =>
        have hwy := r3.1 hb
        refine ⟨decide_eq_true (r1.2 hwy), ?_⟩
        rw [Bool.true_and]
        exact decide_eq_decide.2 (r2.trans ⟨fun q => q.2, fun q => ⟨hwy, q⟩⟩)
      | false =>
        have hwy : ¬ Way (EdgeL l) i j := fun q => by rw [r3.2 q] at hb; cases hb
        exact ⟨decide_eq_false (fun q => hwy (r1.1 q)), decide_eq_false (fun q => hwy (r2.1 q).1)⟩) 8 0 g (by omega) (by omega)
    rw [show ((0 : Nat) : Int) = 0 from rfl] at h6
    exact h6
end Go.Proofs.YtflgpccacloadaaDoor.Am
/- What the listed package-level variables hold, as cells, for the witness. -/
namespace Go.Proofs.YtflgpccacloadaaDoor
open Go.ChangeShapes Go.WideShapes Go.ChangeAt Go.RowKit
theorem own : ownKnob Tryd.prog.godebug = none := by kernel_rfl
theorem laidOut : laidOutB Tryd.prog = true := by kernel_rfl
def tab32 : Array Value := #[.int .u8 0, .int .u8 1, .int .u8 28, .int .u8 2, .int .u8 29, .int .u8 14, .int .u8 24, .int .u8 3, .int .u8 30, .int .u8 22, .int .u8 20, .int .u8 15, .int .u8 25, .int .u8 17, .int .u8 4, .int .u8 8, .int .u8 31, .int .u8 27, .int .u8 13, .int .u8 23, .int .u8 21, .int .u8 19, .int .u8 16, .int .u8 7, .int .u8 26, .int .u8 12, .int .u8 18, .int .u8 6, .int .u8 11, .int .u8 5, .int .u8 10, .int .u8 9]
def tab64 : Array Value := #[.int .u8 0, .int .u8 1, .int .u8 56, .int .u8 2, .int .u8 57, .int .u8 49, .int .u8 28, .int .u8 3, .int .u8 61, .int .u8 58, .int .u8 42, .int .u8 50, .int .u8 38, .int .u8 29, .int .u8 17, .int .u8 4, .int .u8 62, .int .u8 47, .int .u8 59, .int .u8 36, .int .u8 45, .int .u8 43, .int .u8 51, .int .u8 22, .int .u8 53, .int .u8 39, .int .u8 33, .int .u8 30, .int .u8 24, .int .u8 18, .int .u8 12, .int .u8 5, .int .u8 63, .int .u8 55, .int .u8 48, .int .u8 27, .int .u8 60, .int .u8 41, .int .u8 37, .int .u8 16, .int .u8 46, .int .u8 35, .int .u8 44, .int .u8 21, .int .u8 52, .int .u8 32, .int .u8 23, .int .u8 11, .int .u8 54, .int .u8 26, .int .u8 40, .int .u8 15, .int .u8 34, .int .u8 20, .int .u8 31, .int .u8 10, .int .u8 25, .int .u8 14, .int .u8 19, .int .u8 9, .int .u8 13, .int .u8 8, .int .u8 7, .int .u8 6]
def tabPow : Array Value := #[.int .u64 1, .int .u64 10, .int .u64 100, .int .u64 1000, .int .u64 10000, .int .u64 100000, .int .u64 1000000, .int .u64 10000000, .int .u64 100000000, .int .u64 1000000000, .int .u64 10000000000, .int .u64 100000000000, .int .u64 1000000000000, .int .u64 10000000000000, .int .u64 100000000000000, .int .u64 1000000000000000, .int .u64 10000000000000000, .int .u64 100000000000000000, .int .u64 1000000000000000000, .int .u64 10000000000000000000]

def putCells (cs : Array Value) : Obj → Obj
  | .cells _ t frozen => .cells cs t frozen
  | o => o
/-- A world for the witnesses: the settled one, the tables holding what their initialisers lay. -/
noncomputable def laidWorld (os : Os) : World :=
  { World.holding Tryd.prog os ⟨#[], #[], []⟩ with heap := (((World.holding Tryd.prog os ⟨#[], #[], []⟩).heap.modify 0 (putCells tabPow)).modify 1 (putCells tab32)).modify 2 (putCells tab64) }
end Go.Proofs.YtflgpccacloadaaDoor
/- stratagemlaw16.DatalogClosure returns true for every input. No condition beyond the card's own. -/
namespace Go.Proofs.YtflgpccacloadaaDoor.rowClosure
open Go.ChangeShapes Go.WideShapes Go.ChangeAt Go.RowKit Go.Deep Go.Joins Am
section
variable {H : Type} {enc : TypeId × Value → H} {w : World} {base : Nat} {spare : Nat → Bool} {held : Bool}
theorem wf0 {z : Int} (h : (Lit.int .u8 z).wf = true) : 0 ≤ z := by
  simp only [Lit.wf, Bool.and_eq_true, decide_eq_true_eq] at h
  have h1 : IntKind.u8.min = 0 := rfl
  omega
set_option maxRecDepth 100000 in
theorem cPair : OpensB enc Tryd.prog w base spare held 57 cA2_c_u8 (fun p => 0 ≤ p.1 ∧ 0 ≤ p.2) (fun _ => 1) := by
  intro fuel cs x hx hsz
  obtain ⟨xs, m, _, rfl, hcl, hxl, hf⟩ := DataW.trod_array Tryd.underlying57 hx
  have hc : Tryd.prog.cellsOf 57 = 2 := by kernel_rfl
  have hi : Tryd.prog.cellsOf 5 = 1 := by kernel_rfl
  rw [hc] at hcl
  match cs, hcl, xs, hxl, hf with
  | [c0, c1], _, [x0, x1], _, hf =>
    have h0 := hf 0 (by decide)
    have h1 := hf 1 (by decide)
    rw [hi] at h0 h1
    obtain ⟨z0, e0, q0, w0⟩ := DataW.trod_int Tryd.underlying5 h0
    obtain ⟨z1, e1, q1, w1⟩ := DataW.trod_int Tryd.underlying5 h1
    have e0' : c0 = .int .u8 z0 := by simpa using e0
    have e1' : c1 = .int .u8 z1 := by simpa using e1
    subst e0' e1'
    refine ⟨(z0, z1), ⟨wf0 w0, wf0 w1⟩, ?_, cells_append (cells_one1 (.c _) rfl (.c _)) (cells_one1 (.c _) rfl (.c _))⟩
    rw [q0, q1]
    simp only [List.map_cons, List.map_nil, Rows.uptoBulk, Rows.uptoBulkAll]
    omega
set_option maxRecDepth 100000 in
theorem cPairs : OpensB enc Tryd.prog w base spare held 52 (fun l : List (Int × Int) => [.sl 2 (l.map cA2_c_u8)]) (fun l => l.length * 2 ≤ 140737488355328 ∧ ∀ p ∈ l, 0 ≤ p.1 ∧ 0 ≤ p.2) (fun l => (l.map fun _ => 1).sum + 1) :=
  opensB_slice (sz := 2) (by_ := 2) Tryd.underlying52 (by kernel_rfl) (by kernel_rfl) (by decide) (by decide) cPair
end

theorem table {W : World} (h : laidMetH Tryd.prog Rows.datalogClosureRow.laid W) : TabOk W := by
  obtain ⟨ps, ⟨_, _, _, _, _, _, _, _, _, _, ⟨_, _, _, _, _, _, _, _, _, _, hr, _⟩, _⟩, _⟩ := h
  obtain ⟨g', t', cs, fuel, p, q, hg', ht', hvar, hd, _, _⟩ := hr
  obtain rfl := Option.some.inj (gPow.symm.trans hg')
  obtain rfl := Option.some.inj ((show (Tryd.prog.globals[0]?).map (·.type) = some 152 by kernel_rfl).symm.trans ht')
  unfold TabOk Lib.TabIs
  rw [hvar, ← Lib.cells_of_tab (zs := Lib.pow10Tab) Tryd.underlying152 Tryd.underlying134 (by kernel_rfl) (by kernel_rfl) hd]
set_option maxRecDepth 100000 in
theorem contract (H : Type) (enc : TypeId × Value → H) (W : World) (base : Nat) (args : Array Value) (ds gs : List (DataW H)) (before : List MemPlace)
    (hval : ∀ (j : Nat) t v, Tryd.f8.params[j]? = some t → args[j]? = some v → Value.okWide Tryd.prog W .any base t v)
    (hW : DataW.Whole enc Tryd.prog Tryd.f8.params.toList Rows.datalogClosureSpec.vars false W args.toList ds gs before) (hL : laidMetH Tryd.prog Rows.datalogClosureRow.laid W)
    (hsz : (DataW.weightsEach Tryd.prog (Tryd.f8.params.toList ++ (OpenSpec.ofChange Rows.datalogClosureSpec).bare.plain.varTypes Tryd.prog) (ds ++ gs)).all (· ≤ reachBytes) = true) :
    Calls Tryd.prog 8 args W fun e W' => ∃ v, e = .returned v ∧ Rows.datalogClosureSpec.post enc Tryd.prog Tryd.f8 false true false false W args v W' := by
  have hW' := hW
  obtain ⟨p, q, hA0, hV, rfl, hfz, hnd⟩ := hW
  have hA : DataW.TrodAll enc Tryd.prog W 0 (fun _ => true) true Tryd.f8.params.toList args.toList ds p := hA0
  rw [Tryd.params8] at hA hval
  obtain ⟨v0, vs0, d0, ds0, p0, q0, hargs, rfl, rfl, h0, r0⟩ := trodAll_cons hA
  obtain ⟨rfl, rfl, rfl⟩ := trodAll_nil r0
  obtain rfl : args = #[v0] := Array.ext' hargs
  obtain ⟨rfl, rfl⟩ := trodVars_none hV
  simp only [List.append_nil] at hW' hA0 hsz
  rw [Tryd.params8] at hsz
  obtain ⟨a0, len0, cap0, rfl⟩ := okWide_slice Tryd.underlying52 (hval 0 52 v0 rfl rfl)
  obtain ⟨l, hl, _, k0⟩ := arg_oneB rfl cPairs h0 (sized_arg hsz (j := 0) rfl rfl)
  refine (law_of (A_l16_DatalogClosure GG l (closure_true l hl.2)) ⟨table hL, trivial⟩ rfl (fun j x v hx hv => ?_)).mono fun e W' ⟨he, hb⟩ => ?_
  · match j, hx, hv with
    | 0, hx, hv => simp at hx hv; subst hx hv; exact k0
    | j + 1, hx, hv => simp at hx
  · subst he
    exact ⟨_, rfl, law_post laidOut rfl (by kernel_rfl) Tryd.underlying4 (by kernel_rfl) hW' hA0 rfl rfl rfl hb⟩
theorem laid_met (os : Os) : laidMet Tryd.prog Rows.datalogClosureRow.laid ((laidWorld os).forCall (fun _ _ => 0) ⟨#[], #[.slice none 0 0], []⟩).memory :=
  laidMet_of_run' 8 (by kernel_rfl) (by kernel_rfl)
theorem reads (os : Os) {H : Type} (enc : TypeId × Value → H) : ∃ places, DataW.whole enc Tryd.prog ((laidWorld os).forCall (fun _ _ => 0) ⟨#[], #[.slice none 0 0], []⟩).memory Tryd.f8.params.toList Rows.datalogClosureSpec.vars false (#[.slice none 0 0] : Array Value).toList 8 = some ([.nil], [], places) :=
  ⟨[], by kernel_rfl⟩

set_option maxRecDepth 100000 in
theorem lifted (os : Os) (started : os.Started) (H : Type) (enc : TypeId × Value → H) (F : Stop.Interp) :
    ReturnsInHanded {} Tryd.checked os 8 .any ((OpenSpec.ofChange Rows.datalogClosureSpec).preRow enc Tryd.prog Tryd.f8 Rows.datalogClosureRow.domain false Rows.datalogClosureRow.laid) (((OpenSpec.ofChange Rows.datalogClosureSpec).at F).post enc Tryd.prog Tryd.f8 false true false false) := by
  obtain ⟨places, hx⟩ := reads os enc
  refine returnsInHanded_of_row (C := Tryd.checked) (s := OpenSpec.ofChange Rows.datalogClosureSpec) own started (by kernel_rfl) Tryd.func8
    (witness_row_at (enc := enc) (C := Tryd.checked) false (laidWorld os) #[.slice none 0 0] rfl (by kernel_rfl) (by kernel_rfl) (by kernel_rfl)
      (OpenSpec.preRow_of_cond 8 hx (by kernel_rfl) (fun k hk => by cases hk) (by kernel_rfl) (laid_met os))) ?_
  intro W base args ds gs before hval hW _ _ hsz hL _ _
  exact contract H enc W base args ds gs before hval hW hL hsz

theorem said : Rows.DatalogClosureSaid :=
  OpenClaim.holds_of_cond 8 Tryd.f8 rfl rfl rfl rfl rfl rfl rfl ⟨rfl, rfl, rfl, rfl, rfl⟩ rfl rfl rfl rfl rfl (by kernel_rfl) Tryd.func8 (by kernel_rfl)
    (of_decide_eq_true (by kernel_rfl)) (by unfold Func.isWrapper; first | (rw [if_pos (by decide +kernel)]; kernel_rfl) | (rw [if_neg (by decide +kernel)]; exact ⟨rfl, rfl⟩))
    (fun os started H enc _ F => by rw [OpenClaim.pre_eq_preRow]; exact lifted os started H enc F)

theorem plain (f : FuncId) (fn : Func) (hf : Tryd.pinned.checked.prog.funcNamed Rows.datalogClosureRow.func = some f) (hfn : Tryd.pinned.checked.prog.funcs[f]? = some fn) :
    true = Tryd.pinned.checked.prog.looks [] ∧ ∀ (j : Nat) t, fn.params[j]? = some t → Tryd.pinned.checked.prog.wantsStandIn t = false := by
  obtain rfl : f = 8 := Option.some.inj ((show Tryd.prog.funcNamed Rows.datalogClosureRow.func = some 8 by kernel_rfl).symm.trans hf) |>.symm
  obtain rfl : fn = Tryd.f8 := (Option.some.inj (Tryd.func8.symm.trans hfn)).symm
  refine ⟨by kernel_rfl, fun j t ht => ?_⟩
  have hall : Tryd.f8.params.toList.all (fun t => !Tryd.prog.wantsStandIn t) = true := by kernel_rfl
  have := List.all_eq_true.1 hall t (by simpa using Array.mem_of_getElem? ht)
  have h2 : Tryd.prog.wantsStandIn t = false := by simpa using this
  exact h2

/-- THE CARD: stratagemlaw16's statement holds. -/
theorem card : Rows.DatalogClosureCardSaid :=
  Claim7.holds_tied_plain_at .later [] _ _ _ _ said (fun _ h => by cases h) (by kernel_rfl) (fun _ h => by cases h) datalogClosure_row_tie rfl ⟨rfl, rfl⟩ (by kernel_rfl) rfl plain (by kernel_rfl)
end Go.Proofs.YtflgpccacloadaaDoor.rowClosure
