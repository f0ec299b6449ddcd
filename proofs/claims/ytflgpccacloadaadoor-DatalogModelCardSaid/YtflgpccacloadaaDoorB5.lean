/- Texts of the proof, part 5 of 6. -/
import Derived.Test.YtflgpccacloadaaDoorB2
import Derived.Test.YtflgpccacloadaaDoorB4
set_option linter.unusedVariables false
set_option linter.unusedSectionVars false
set_option linter.unusedSimpArgs false
/- Models printed by my decompiler, and the proofs that the code computes them. -/
namespace Go.Proofs.YtflgpccacloadaaDoor.Am
set_option maxHeartbeats 16000000
set_option maxRecDepth 100000
open Go.RowKit
theorem zg_XDCk {P : Prop} (h : P := by repeat (first | exact True.intro | exact gb_nil rfl rfl | exact gb_take rfl ⟨rfl, rfl, rfl⟩ List.map_take FrI.h | exact gb_take rfl ⟨rfl, rfl, rfl⟩ (takeC (by omega)) FrI.h | exact gb_take rfl ⟨rfl, rfl, rfl⟩ (takeC0 (by omega)) FrI.h |  refine gb_some ⟨rfl, rfl, rfl⟩ ?_ | refine And.intro ?_ ?_ | refine gw_ren rfl rfl rfl rfl rfl ?_ | exact gw_oren rfl rfl rfl rfl rfl | exact gw_opren rfl rfl rfl rfl rfl | exact gw_onil rfl rfl | exact gw_mren rfl rfl rfl rfl | refine gw_pren rfl rfl rfl rfl rfl | exact gw_thaw rfl rfl rfl | refine gw_tup ?_ | refine gw_ifc ?_ | exact GWL.nil | exact gwll_nil | exact gw_c | exact GW.sl | exact GW.nil | exact gwll_same rfl FrI.h | refine GWL.cons ?_ ?_ | refine gwll_cons ?_ ?_ | (refine gw_own3 rfl rfl rfl FrI.h ?_ ?_ ?_) | exact GW.mpf rfl rfl rfl FrI.h rfl | refine CloK.bw ?_ | exact GW.fr FrV.h | exact GW.fr (by assumption) | refine gw_agg ?_ | refine gw_clo ?_ | refine gw_ptr rfl rfl rfl ?_ | (refine gw_own rfl rfl rfl ?_ FrI.h ?_ ?_) | assumption | omega | rfl | (rw [List.length_map, ← List.length_append]; assumption) | (refine gwll_same ?_ FrI.h; (simp [cGRule, cGAtom, cS, cA2_cS, cF] <;> fail)) | (rw [List.map_set]; refine gwll_set (by first | rfl | omega | simp) ?_ ?_) | refine gwll_set (by first | rfl | omega | simp) ?_ ?_ | (rw [List.map_replicate]; refine gwll_rep ?_) | refine gwll_rep ?_ | (rw [List.map_append]; refine gwll_append ?_ ?_) | refine gwll_append ?_ ?_ | (simp [cGRule, cGAtom, cS, cA2_cS, cF, take_len_map] <;> fail) | (rw [List.drop_zero, List.take_of_length_le] <;> first | rfl | (simp [cGRule, cGAtom, cS, cA2_cS, cF] <;> fail)) | (simp; omega) | (simp only [List.length_map, List.length_append, List.drop_zero, List.length_cons, List.length_nil, Nat.zero_add, Nat.add_zero] at *; omega))) : P := h
theorem ci_XDCk {p K : Prop} (k : K) (h : p := by first | rfl | exact ⟨rfl, rfl⟩ | exact BW.mpf rfl rfl rfl FrI.h rfl | exact cloK3 rfl rfl rfl rfl rfl rfl rfl rfl rfl | exact CloK.bw (BW.fr (by assumption)) | exact BW.fr FrV.h | (refine BW.fr ?_; assumption) | (refine ⟨rfl, ?_⟩; (simp [cGRule, cGAtom, cS, cA2_cS, cF, take_len_map]; done)) | (refine RowK.same ?_ FrI.h; first | rfl | (simp [cGRule, cGAtom, cS, cA2_cS, cF, take_len_map]; done)) | (refine row_part1 ?_; (repeat (first | exact BWL.nil | exact bwll_nil | exact bw_c | exact BW.sl | exact BW.nil | exact bwll_same rfl FrI.h | refine BWL.cons ?_ ?_ | refine bwll_cons ?_ ?_ | (refine bw_own3 rfl rfl rfl FrI.h ?_ ?_ ?_) | exact BW.mpf rfl rfl rfl FrI.h rfl | exact cloK3 rfl rfl rfl rfl rfl rfl rfl rfl rfl | exact CloK.bw (BW.fr (by assumption)) | exact BW.fr FrV.h | exact BW.fr (by assumption) | refine bw_agg ?_ | refine bw_clo ?_ | refine bw_ptr rfl rfl rfl ?_ | (refine bw_own rfl rfl rfl ?_ FrI.h ?_ ?_) | assumption | omega | rfl | (rw [List.length_map, ← List.length_append]; assumption) | (refine bwll_same ?_ FrI.h; (simp [cGRule, cGAtom, cS, cA2_cS, cF] <;> fail)) | (rw [List.map_set]; refine bwll_set (by first | rfl | omega | simp) ?_ ?_) | refine bwll_set (by first | rfl | omega | simp) ?_ ?_ | (rw [List.map_replicate]; refine bwll_rep ?_) | refine bwll_rep ?_ | (rw [List.map_append]; refine bwll_append ?_ ?_) | refine bwll_append ?_ ?_ | (simp [cGRule, cGAtom, cS, cA2_cS, cF, take_len_map] <;> fail) | (rw [List.drop_zero, List.take_of_length_le] <;> first | rfl | (simp [cGRule, cGAtom, cS, cA2_cS, cF] <;> fail)) | (simp; omega) | (simp only [List.length_map, List.length_append, List.drop_zero, List.length_cons, List.length_nil, Nat.zero_add, Nat.add_zero] at *; omega))); done) | ((repeat (first | exact BWL.nil | exact bwll_nil | exact bw_c | exact BW.sl | exact BW.nil | exact bwll_same rfl FrI.h | refine BWL.cons ?_ ?_ | refine bwll_cons ?_ ?_ | (refine bw_own3 rfl rfl rfl FrI.h ?_ ?_ ?_) | exact BW.mpf rfl rfl rfl FrI.h rfl | exact cloK3 rfl rfl rfl rfl rfl rfl rfl rfl rfl | exact CloK.bw (BW.fr (by assumption)) | exact BW.fr FrV.h | exact BW.fr (by assumption) | refine bw_agg ?_ | refine bw_clo ?_ | refine bw_ptr rfl rfl rfl ?_ | (refine bw_own rfl rfl rfl ?_ FrI.h ?_ ?_) | assumption | omega | rfl | (rw [List.length_map, ← List.length_append]; assumption) | (refine bwll_same ?_ FrI.h; (simp [cGRule, cGAtom, cS, cA2_cS, cF] <;> fail)) | (rw [List.map_set]; refine bwll_set (by first | rfl | omega | simp) ?_ ?_) | refine bwll_set (by first | rfl | omega | simp) ?_ ?_ | (rw [List.map_replicate]; refine bwll_rep ?_) | refine bwll_rep ?_ | (rw [List.map_append]; refine bwll_append ?_ ?_) | refine bwll_append ?_ ?_ | (simp [cGRule, cGAtom, cS, cA2_cS, cF, take_len_map] <;> fail) | (rw [List.drop_zero, List.take_of_length_le] <;> first | rfl | (simp [cGRule, cGAtom, cS, cA2_cS, cF] <;> fail)) | (simp; omega) | (simp only [List.length_map, List.length_append, List.drop_zero, List.length_cons, List.length_nil, Nat.zero_add, Nat.add_zero] at *; omega))); done) | (simp [cGRule, cGAtom, cS, cA2_cS, cF, take_len_map]; done)) : p ∧ K := ⟨h, k⟩
theorem ca_XDCk {P : Prop} (h : P := by repeat (first | exact True.intro | refine ci_XDCk ?_)) : P := h
theorem pr_XDCk {p K : Prop} (k : K) (h : p := by first | assumption | exact Int.natCast_nonneg _ | exact Nat.le_refl _ | exact Nat.zero_le _ | omega | (simp; done) | (simp; omega)) : p ∧ K := ⟨h, k⟩
theorem pl_XDCk {p K : Prop} (k : K) (h : p := by first | rfl | exact List.length_map _ | (simp; done) | (simp; omega)) : p ∧ K := ⟨h, k⟩
theorem pe_XDCk {p K : Prop} (k : K) (h : p := by first | omega | (simp; omega) | (simp only [List.length_map, List.length_cons, List.length_nil, List.length_append]; omega) | (simp only [List.length_map, List.drop_zero, List.length_cons, List.length_nil, Nat.zero_add, Nat.add_zero] at *; omega)) : p ∧ K := ⟨h, k⟩
theorem dr_XDCk {b : Bool} {p K : Prop} (k : K) (h : b = true → p := by intro h; first | (cases h; done) | exact ⟨by kernel_rfl, by kernel_rfl⟩) : (b = true → p) ∧ K := ⟨h, k⟩
theorem cl_XDCk {C : Cx} {n : Nat} {o : Oper} {τ : Nat → AV} {η : Nat → Ent} {f : FuncId} {os : Array Operand} {ats : Array TypeId} {r : AV} {args : List AV} {K : Foot → Prop} (ho : o.op = .call ⟨.value (.func f), os, ats⟩) (hc : ACall C f args r) (k : K ⟨r, [], []⟩)
    (hd : InB n o.dst := by exact Nat.le_of_ble_eq_true rfl) (hargs : os.toList.map (evA τ) = args := by first | rfl | (simp [cGRule, cGAtom, cS, cA2_cS, cF]; done) | (repeat (first | exact rfl | refine cons_eq ?_ ?_ | exact sl_dt rfl))) (hfr : frs args := by repeat (first | exact trivial | exact fr1_eA _ | exact fr0_eA _ | exact fr1_fr (by assumption) | exact FrV.h | exact fr1_fr FrV.h | refine And.intro ?_ ?_)) (hr : fr1 r := by repeat (first | exact trivial | exact fr1_eA _ | exact fr0_eA _ | exact fr1_fr (by assumption) | exact FrV.h | exact fr1_fr FrV.h | refine And.intro ?_ ?_)) : ∃ f : Foot, LF C n o τ η f ∧ K f := ⟨_, lf_call ho hd hargs hc hfr hr, k⟩
theorem clc_XDCk {C : Cx} {n : Nat} {o : Oper} {τ : Nat → AV} {η : Nat → Ent} {c : Operand} {os : Array Operand} {ats : Array TypeId} {r F : AV} {xs : List AV} {K : Foot → Prop} (ho : o.op = .call ⟨.value c, os, ats⟩) (hc : CCl C F xs r) (hfF : Fr F) (k : K ⟨r, [], []⟩)
    (hd : InB n o.dst := by exact Nat.le_of_ble_eq_true rfl) (hF : evA τ c = F := by rfl) (hargs : os.toList.map (evA τ) = xs := by first | rfl | (simp [cGRule, cGAtom, cS, cA2_cS, cF]; done) | (repeat (first | exact rfl | refine cons_eq ?_ ?_ | exact sl_dt rfl))) (hfr : frs xs := by repeat (first | exact trivial | exact fr1_eA _ | exact fr0_eA _ | exact fr1_fr (by assumption) | exact FrV.h | exact fr1_fr FrV.h | refine And.intro ?_ ?_)) (hr : fr1 r := by repeat (first | exact trivial | exact fr1_eA _ | exact fr0_eA _ | exact fr1_fr (by assumption) | exact FrV.h | exact fr1_fr FrV.h | refine And.intro ?_ ?_)) : ∃ f : Foot, LF C n o τ η f ∧ K f := ⟨_, lf_clo ho hd hF hargs hc hfF hfr hr, k⟩
theorem clb_XDCk {C : Cx} {n : Nat} {o : Oper} {τ : Nat → AV} {η : Nat → Ent} {f : FuncId} {os : Array Operand} {ats : Array TypeId} {r : AV} {xs ys : List AV} {K : Foot → Prop} (bs : List Nat) (ho : o.op = .call ⟨.value (.func f), os, ats⟩) (hargs : os.toList.map (evA τ) = xs) (hc : ACall C f ys r) (k : K ⟨r, [], bs⟩)
    (hd : InB n o.dst := by exact Nat.le_of_ble_eq_true rfl) (hb : BWL η (dropB η bs) xs ys := by repeat (first | exact BWL.nil | exact bwll_nil | exact bw_c | exact BW.sl | exact BW.nil | exact bwll_same rfl FrI.h | refine BWL.cons ?_ ?_ | refine bwll_cons ?_ ?_ | (refine bw_own3 rfl rfl rfl FrI.h ?_ ?_ ?_) | exact BW.mpf rfl rfl rfl FrI.h rfl | refine CloK.bw ?_ | exact BW.fr FrV.h | exact BW.fr (by assumption) | refine bw_agg ?_ | refine bw_clo ?_ | refine bw_ptr rfl rfl rfl ?_ | (refine bw_own rfl rfl rfl ?_ FrI.h ?_ ?_) | assumption | omega | rfl | (rw [List.length_map, ← List.length_append]; assumption) | (refine bwll_same ?_ FrI.h; (simp [cGRule, cGAtom, cS, cA2_cS, cF] <;> fail)) | (rw [List.map_set]; refine bwll_set (by first | rfl | omega | simp) ?_ ?_) | refine bwll_set (by first | rfl | omega | simp) ?_ ?_ | (rw [List.map_replicate]; refine bwll_rep ?_) | refine bwll_rep ?_ | (rw [List.map_append]; refine bwll_append ?_ ?_) | refine bwll_append ?_ ?_ | (simp [cGRule, cGAtom, cS, cA2_cS, cF, take_len_map] <;> fail) | (rw [List.drop_zero, List.take_of_length_le] <;> first | rfl | (simp [cGRule, cGAtom, cS, cA2_cS, cF] <;> fail)) | (simp; omega) | (simp only [List.length_map, List.length_append, List.drop_zero, List.length_cons, List.length_nil, Nat.zero_add, Nat.add_zero] at *; omega))) (hr : scal r := by repeat (first | exact trivial | exact scal0_eA _ | exact scal_eA _ | refine And.intro ?_ ?_)) : ∃ f : Foot, LF C n o τ η f ∧ K f := ⟨_, lf_callB bs ho hd hargs hb hc hr, k⟩
theorem clg_XDCk {C : Cx} {n : Nat} {o : Oper} {τ : Nat → AV} {η : Nat → Ent} {f : FuncId} {os : Array Operand} {ats : Array TypeId} {r : AV} {xs ys : List AV} {bs bs' : List (Nat × Blk)} {ks : List Nat} {K : Foot → Prop} (ρ : List (Nat × Nat)) (fz : List Nat) (go nb : List (Nat × Ent)) (r' : AV) (ho : o.op = .call ⟨.value (.func f), os, ats⟩) (hargs : os.toList.map (evA τ) = xs)
    (hc : ACallG C f ys bs ks r bs') (k : K ⟨r', go ++ nb, []⟩) (hd : InB n o.dst := by exact Nat.le_of_ble_eq_true rfl) (hok : okC ρ fz bs ks bs' (idsE go) = true := by rfl) (hgo : allUs η go := by repeat (first | exact trivial | refine And.intro rfl ?_)) (hgl : ltUs n go := by repeat (first | exact trivial | refine And.intro (Nat.le_of_ble_eq_true rfl) ?_))
    (hw : GWL η (fE bs) (lk ρ) (fun i => inB fz i = true) (fun i => inB (keys bs) i = true) xs ys := by exact zg_XDCk) (hb : GBL η (fE bs) (lk ρ) (fun i => inB fz i = true) (fun i => inB (keys bs) i = true) bs := by exact zg_XDCk)
    (hr : GW (fE bs') (updAll η (go ++ nb)) (lk (backN ρ bs')) (fun _ => False) (fun i => inB (idsE nb) i = true) r r' := by exact zg_XDCk)
    (hnb : nbOk n η (updAll η (go ++ nb)) ρ ks (fE bs') (lk (backN ρ bs')) (fun i => inB (idsE nb) i = true) bs' nb := by repeat (first | exact True.intro | rfl | exact Nat.le_of_ble_eq_true rfl | exact gb_nil rfl rfl | exact gb_take rfl ⟨rfl, rfl, rfl⟩ List.map_take FrI.h | exact gb_take rfl ⟨rfl, rfl, rfl⟩ (takeC (by omega)) FrI.h | exact gb_take rfl ⟨rfl, rfl, rfl⟩ (takeC0 (by omega)) FrI.h |  refine gb_some ⟨rfl, rfl, rfl⟩ ?_ | refine And.intro ?_ ?_ | refine gw_ren rfl rfl rfl rfl rfl ?_ | exact gw_oren rfl rfl rfl rfl rfl | exact gw_opren rfl rfl rfl rfl rfl | exact gw_onil rfl rfl | exact gw_mren rfl rfl rfl rfl | refine gw_pren rfl rfl rfl rfl rfl | exact gw_thaw rfl rfl rfl | refine gw_tup ?_ | refine gw_ifc ?_ | exact GWL.nil | exact gwll_nil | exact gw_c | exact GW.sl | exact GW.nil | exact gwll_same rfl FrI.h | refine GWL.cons ?_ ?_ | refine gwll_cons ?_ ?_ | (refine gw_own3 rfl rfl rfl FrI.h ?_ ?_ ?_) | exact GW.mpf rfl rfl rfl FrI.h rfl | refine CloK.bw ?_ | exact GW.fr FrV.h | exact GW.fr (by assumption) | refine gw_agg ?_ | refine gw_clo ?_ | refine gw_ptr rfl rfl rfl ?_ | (refine gw_own rfl rfl rfl ?_ FrI.h ?_ ?_) | assumption | omega | rfl | (rw [List.length_map, ← List.length_append]; assumption) | (refine gwll_same ?_ FrI.h; (simp [cGRule, cGAtom, cS, cA2_cS, cF] <;> fail)) | (rw [List.map_set]; refine gwll_set (by first | rfl | omega | simp) ?_ ?_) | refine gwll_set (by first | rfl | omega | simp) ?_ ?_ | (rw [List.map_replicate]; refine gwll_rep ?_) | refine gwll_rep ?_ | (rw [List.map_append]; refine gwll_append ?_ ?_) | refine gwll_append ?_ ?_ | (simp [cGRule, cGAtom, cS, cA2_cS, cF, take_len_map] <;> fail) | (rw [List.drop_zero, List.take_of_length_le] <;> first | rfl | (simp [cGRule, cGAtom, cS, cA2_cS, cF] <;> fail)) | (simp; omega) | (simp only [List.length_map, List.length_append, List.drop_zero, List.length_cons, List.length_nil, Nat.zero_add, Nat.add_zero] at *; omega))) : ∃ f : Foot, LF C n o τ η f ∧ K f := ⟨_, lf_callG ρ fz go nb ho hd hargs hc hok hgo hgl hw hb hr hnb, k⟩
def M_s_Index_string_L1 (a0 : List ByteArray) (a1 : ByteArray) : Nat → Int → Option (Int)
  | 0, _ => none
  | k5 + 1, v4 =>
    sel (decide (v4 < ((a0.map cS).length : Int)))
     (ix a0 v4 (fun y6 =>
       sel (a1.toList == y6.toList)
        (some v4)
        (M_s_Index_string_L1 a0 a1 k5 (IntKind.i64.wrap (v4 + 1)))))
     (some (-1))
def M_s_Index_string (a0 : List ByteArray) (a1 : ByteArray) : Option (Int) :=
  M_s_Index_string_L1 a0 a1 ((((a0.map cS).length : Int)).toNat + 1) 0
theorem A_s_Index_string (a0 : List ByteArray) (a1 : ByteArray) {r1 : Int} (h : M_s_Index_string a0 a1 = some r1) : ACall cx 57 [.sl 1 (a0.map cS), .c (.string a1)] (.c (.int .i64 r1)) := by
  refine aOf Tryd.func57 rfl (by decide) rfl (Nat.le_of_ble_eq_true rfl) ?_; intro _; unfold M_s_Index_string at h; refine aSR ?_; intro _; refine dr_XDCk ?_; refine aSq ?_; refine aSR ?_; intro _; refine dr_XDCk ?_; refine aBk ?_; refine awp_loop (α := Nat × Int) (fun x => mkS 19 [(0, .sl 1 (a0.map cS)), (1, .c (.string a1)), (7, .c (.int .i64 ((a0.map cS).length : Int))), (8, .c (.int .i64 x.2))] []) (fun x => M_s_Index_string_L1 a0 a1 x.1 x.2 = some r1) (fun x => x.1) ((((a0.map cS).length : Int)).toNat + 1, 0) h ?_ ?_
  · exact ca_XDCk
  · intro x1 h; intro _; obtain ⟨k5, m2, h⟩ := succ_of (f := fun n => M_s_Index_string_L1 a0 a1 n x1.2) rfl h; replace h : M_s_Index_string_L1 a0 a1 (k5 + 1) x1.2 = some r1 := h; rw [M_s_Index_string_L1] at h; refine aSR ?_; intro _; refine dr_XDCk ?_; refine aSq ?_; refine aCd ?_; intro _; refine spl h (fun c3 h => ?_) (fun c3 h => ?_)
    · refine aSk ?_; refine aSq ?_; refine aBk ?_; refine aSR ?_; intro _; refine dr_XDCk ?_; refine aSR ?_; intro _; obtain ⟨y6, w4, q5, h⟩ := ix_ok h; refine Exists.intro (cS y6) (And.intro (map_at' w4) ?_); intro _; refine pr_XDCk ?_; refine dr_XDCk ?_; refine aCd ?_; intro _; refine spl h (fun c6 h => ?_) (fun c6 h => ?_)
      · refine aSR ?_; intro _; refine dr_XDCk ?_; refine aRt ?_; intro _; obtain rfl := inj1 h; exact ca_XDCk
      · refine aSk ?_; refine aRg ?_; intro _; refine dr_XDCk ?_; refine ⟨(k5, (IntKind.i64.wrap (x1.2 + 1))), h, ltS m2, ?_⟩; exact ca_XDCk
    · refine aEx ?_; refine aSR ?_; intro _; refine dr_XDCk ?_; refine aRt ?_; intro _; obtain rfl := inj1 h; exact ca_XDCk
def M_s_Contains_string (a0 : List ByteArray) (a1 : ByteArray) : Option (Bool) :=
  ob1 (M_s_Index_string a0 a1) (fun z1 =>
   some (decide (z1 ≥ 0)))
theorem A_s_Contains_string (a0 : List ByteArray) (a1 : ByteArray) {r1 : Bool} (h : M_s_Contains_string a0 a1 = some r1) : ACall cx 38 [.sl 1 (a0.map cS), .c (.string a1)] (.c (.bool r1)) := by
  refine aOf Tryd.func38 rfl (by decide) rfl (Nat.le_of_ble_eq_true rfl) ?_; intro _; unfold M_s_Contains_string at h; refine aSR ?_; intro _; refine dr_XDCk ?_; refine aSR ?_; intro _; obtain ⟨z1, u1, h⟩ := ob1_ok h; refine cl_XDCk rfl (A_s_Index_string a0 a1 u1) ?_; intro _; refine dr_XDCk ?_; refine aRt ?_; intro _; obtain rfl := inj1 h; exact ca_XDCk
def M_datalog_Variables_L1 (y87 : GAtom) : Nat → Int → (List ByteArray) → Option (List ByteArray)
  | 0, _, _ => none
  | k98 + 1, v96, v97 =>
    sel (decide (v96 < ((y87.Args.map cS).length : Int)))
     (ix y87.Args v96 (fun y99 =>
       ob1 (M_datalog_variable y99) (fun z100 =>
        sel z100
         (grd (v97.length ≤ 140737488355328) (ob1 (M_s_Contains_string v97 y99) (fun z101 =>
           sel (!z101)
            (grd ((v97.length + 1) * 16 ≤ 140737488355328) (M_datalog_Variables_L1 y87 k98 (IntKind.i64.wrap (v96 + 1)) (v97 ++ [y99])))
            (M_datalog_Variables_L1 y87 k98 (IntKind.i64.wrap (v96 + 1)) v97))))
         (M_datalog_Variables_L1 y87 k98 (IntKind.i64.wrap (v96 + 1)) v97))))
     (some v97)
def M_datalog_Variables_L2 (a0 : List GAtom) : Nat → Int → (List ByteArray) → Option (List ByteArray)
  | 0, _, _ => none
  | k69 + 1, v67, v68 =>
    sel (decide (v67 < ((a0.map cGAtom).length : Int)))
     (ob1 (ix a0 v67 (fun y87 =>
        M_datalog_Variables_L1 y87 ((((y87.Args.map cS).length : Int)).toNat + 1) 0 v68) : Option (List ByteArray))
       (fun v85 => M_datalog_Variables_L2 a0 k69 (IntKind.i64.wrap (v67 + 1)) v85))
     (grd (v68.length ≤ 140737488355328) (some v68))
def M_datalog_Variables (a0 : List GAtom) : Option (List ByteArray) :=
  M_datalog_Variables_L2 a0 ((((a0.map cGAtom).length : Int)).toNat + 1) 0 []
theorem A_datalog_Variables (a0 : List GAtom) {r1 : List ByteArray} (h : M_datalog_Variables a0 = some r1) : ACall cx 33 [.sl 2 (a0.map cGAtom)] (.sl 1 (r1.map cS)) := by
  refine aOf Tryd.func33 rfl (by decide) rfl (Nat.le_of_ble_eq_true rfl) ?_; intro _; unfold M_datalog_Variables at h; refine aSR ?_; intro _; refine dr_XDCk ?_; refine aSR ?_; intro _; refine dr_XDCk ?_; refine aSq ?_; refine aSR ?_; intro _; refine dr_XDCk ?_; refine aBk ?_; refine awp_loop (α := Nat × Int × (List ByteArray)) (fun x => mkS 36 [(3, .own 32 0 0 x.2.2.length), (8, .sl 2 (a0.map cGAtom)), (9, .c (.int .i64 ((a0.map cGAtom).length : Int))), (10, .c (.int .i64 x.2.1))] [(32, ⟨9, 1, false, x.2.2.map cS⟩)]) (fun x => M_datalog_Variables_L2 a0 x.1 x.2.1 x.2.2 = some r1) (fun x => x.1) ((((a0.map cGAtom).length : Int)).toNat + 1, 0, []) h ?_ ?_
  · exact ca_XDCk
  · intro x1 h; intro _; obtain ⟨k69, m2, h⟩ := succ_of (f := fun n => M_datalog_Variables_L2 a0 n x1.2.1 x1.2.2) rfl h; replace h : M_datalog_Variables_L2 a0 (k69 + 1) x1.2.1 x1.2.2 = some r1 := h; rw [M_datalog_Variables_L2] at h; refine aSR ?_; intro _; refine dr_XDCk ?_; refine aSq ?_; refine aCd ?_; intro _; refine spl h (fun c3 h => ?_) (fun c3 h => ?_)
    · refine aSk ?_; obtain ⟨o4, h, hK5⟩ := ob1_ok h; refine awp_cut (α := List ByteArray) (fun v85 => mkS 36 [(3, .own 32 0 0 v85.length), (8, .sl 2 (a0.map cGAtom)), (9, .c (.int .i64 ((a0.map cGAtom).length : Int))), (10, .c (.int .i64 x1.2.1))] [(32, ⟨9, 1, false, v85.map cS⟩)]) (fun v => o4 = v) ?_ ?_
      · refine aBk ?_; refine aSR ?_; intro _; obtain ⟨y87, w6, q7, h⟩ := ix_ok h; refine Exists.intro (cGAtom y87) (And.intro (map_at' w6) ?_); intro _; refine pr_XDCk ?_; refine dr_XDCk ?_; refine aSR ?_; intro _; refine dr_XDCk ?_; refine aBk ?_; refine awp_loop (α := Nat × Int × (List ByteArray)) (fun x => mkS 36 [(3, .own 32 0 0 x.2.2.length), (8, .sl 2 (a0.map cGAtom)), (9, .c (.int .i64 ((a0.map cGAtom).length : Int))), (10, .c (.int .i64 x1.2.1)), (15, .sl 1 (y87.Args.map cS)), (16, .c (.int .i64 ((y87.Args.map cS).length : Int))), (17, .c (.int .i64 x.2.1))] [(32, ⟨9, 1, false, x.2.2.map cS⟩)]) (fun x => M_datalog_Variables_L1 y87 x.1 x.2.1 x.2.2 = some o4) (fun x => x.1) ((((y87.Args.map cS).length : Int)).toNat + 1, 0, x1.2.2) h ?_ ?_
        · exact ca_XDCk
        · intro x8 h; intro _; obtain ⟨k98, m9, h⟩ := succ_of (f := fun n => M_datalog_Variables_L1 y87 n x8.2.1 x8.2.2) rfl h; replace h : M_datalog_Variables_L1 y87 (k98 + 1) x8.2.1 x8.2.2 = some o4 := h; rw [M_datalog_Variables_L1] at h; refine aSR ?_; intro _; refine dr_XDCk ?_; refine aSq ?_; refine aCd ?_; intro _; refine spl h (fun c10 h => ?_) (fun c10 h => ?_)
          · refine aSk ?_; refine aSq ?_; refine aBk ?_; refine aSR ?_; intro _; obtain ⟨y99, w11, q12, h⟩ := ix_ok h; refine Exists.intro (cS y99) (And.intro (map_at' w11) ?_); intro _; refine pr_XDCk ?_; refine dr_XDCk ?_; refine aSR ?_; intro _; obtain ⟨z100, u13, h⟩ := ob1_ok h; refine cl_XDCk rfl (A_datalog_variable y99 u13) ?_; intro _; refine spl h (fun c14 h => ?_) (fun c14 h => ?_)
            · intro _; obtain ⟨q15, h⟩ := grd_ok h; obtain ⟨z101, u16, h⟩ := ob1_ok h; refine clb_XDCk [32] rfl rfl (A_s_Contains_string x8.2.2 y99 u16) ?_; intro _; refine dr_XDCk ?_; refine aCd ?_; intro _; refine spl h (fun c17 h => ?_) (fun c17 h => ?_)
              · refine aRg ?_; intro _; obtain ⟨q18, h⟩ := grd_ok h; refine pl_XDCk ?_; refine pl_XDCk ?_; refine And.intro (by first | with_reducible assumption | (show (x8.2.2.length + 1) * 16 ≤ 140737488355328; with_reducible assumption) | omega | (simp; omega)) ?_; refine pe_XDCk ?_; refine dr_XDCk ?_; refine aRg ?_; intro _; refine dr_XDCk ?_; refine ⟨(k98, (IntKind.i64.wrap (x8.2.1 + 1)), (x8.2.2 ++ [y99])), h, ltS m9, ?_⟩; exact ca_XDCk
              · refine aSk ?_; refine aRg ?_; intro _; refine dr_XDCk ?_; refine ⟨(k98, (IntKind.i64.wrap (x8.2.1 + 1)), x8.2.2), h, ltS m9, ?_⟩; exact ca_XDCk
            · intro _; refine dr_XDCk ?_; refine aCd ?_; intro _; refine litF ?_; refine aSk ?_; refine aRg ?_; intro _; refine dr_XDCk ?_; refine ⟨(k98, (IntKind.i64.wrap (x8.2.1 + 1)), x8.2.2), h, ltS m9, ?_⟩; exact ca_XDCk
          · refine aEx ?_; refine ⟨x8.2.2, (Option.some.inj h).symm, ?_⟩; exact ca_XDCk
      · rintro v85 ho; have ho := ho.symm; subst ho; intro _; replace h := hK5; refine aRg ?_; intro _; refine dr_XDCk ?_; refine ⟨(k69, (IntKind.i64.wrap (x1.2.1 + 1)), v85), h, ltS m2, ?_⟩; exact ca_XDCk
    · refine aEx ?_; refine aSR ?_; intro _; refine dr_XDCk ?_; refine aRt ?_; obtain ⟨q19, h⟩ := grd_ok h; intro _; obtain rfl := inj1 h; exact ca_XDCk
def M_s_IndexFunc_string_L1 (a0 : List ByteArray) (a1 : ByteArray → Option Bool) : Nat → Int → Option (Int)
  | 0, _ => none
  | k7 + 1, v6 =>
    sel (decide (v6 < ((a0.map cS).length : Int)))
     (ix a0 v6 (fun y8 =>
       ob1 (a1 y8) (fun z9 =>
        sel z9
         (some v6)
         (M_s_IndexFunc_string_L1 a0 a1 k7 (IntKind.i64.wrap (v6 + 1))))))
     (some (-1))
def M_s_IndexFunc_string (a0 : List ByteArray) (a1 : ByteArray → Option Bool) : Option (Int) :=
  M_s_IndexFunc_string_L1 a0 a1 ((((a0.map cS).length : Int)).toNat + 1) 0
theorem A_s_IndexFunc_string (a0 : List ByteArray) (a1 : ByteArray → Option Bool) (Fa1 : AV) (hFa1 : Fr Fa1) (ea1 : ∃ f fs cap, Fa1 = .clo (.func f) fs cap) (ha1 : ∀ (x0 : ByteArray) (y0 : Bool), a1 x0 = some y0 → CCl cx Fa1 [.c (.string x0)] (.c (.bool y0))) {r1 : Int} (h : M_s_IndexFunc_string a0 a1 = some r1) : ACall cx 55 [.sl 1 (a0.map cS), Fa1] (.c (.int .i64 r1)) := by
  obtain ⟨fa1, sa1, qa1, rfl⟩ := ea1; refine aOf Tryd.func55 rfl (by decide) rfl (Nat.le_of_ble_eq_true rfl) ?_; intro _; unfold M_s_IndexFunc_string at h; refine aSR ?_; intro _; refine dr_XDCk ?_; refine aSq ?_; refine aSR ?_; intro _; refine dr_XDCk ?_; refine aBk ?_; refine awp_loop (α := Nat × Int) (fun x => mkS 19 [(0, .sl 1 (a0.map cS)), (1, .clo (.func fa1) sa1 qa1), (7, .c (.int .i64 ((a0.map cS).length : Int))), (8, .c (.int .i64 x.2))] []) (fun x => M_s_IndexFunc_string_L1 a0 a1 x.1 x.2 = some r1) (fun x => x.1) ((((a0.map cS).length : Int)).toNat + 1, 0) h ?_ ?_
  · exact ca_XDCk
  · intro x1 h; intro _; obtain ⟨k7, m2, h⟩ := succ_of (f := fun n => M_s_IndexFunc_string_L1 a0 a1 n x1.2) rfl h; replace h : M_s_IndexFunc_string_L1 a0 a1 (k7 + 1) x1.2 = some r1 := h; rw [M_s_IndexFunc_string_L1] at h; refine aSR ?_; intro _; refine dr_XDCk ?_; refine aSq ?_; refine aCd ?_; intro _; refine spl h (fun c3 h => ?_) (fun c3 h => ?_)
    · refine aSk ?_; refine aSq ?_; refine aBk ?_; refine aSR ?_; intro _; refine dr_XDCk ?_; refine aSR ?_; intro _; obtain ⟨y8, w4, q5, h⟩ := ix_ok h; refine Exists.intro (cS y8) (And.intro (map_at' w4) ?_); intro _; obtain ⟨z9, u6, h⟩ := ob1_ok h; refine clc_XDCk rfl (ha1 _ _ u6) hFa1 ?_; intro _; refine pr_XDCk ?_; refine dr_XDCk ?_; refine aCd ?_; intro _; refine spl h (fun c7 h => ?_) (fun c7 h => ?_)
      · refine aSR ?_; intro _; refine dr_XDCk ?_; refine aRt ?_; intro _; obtain rfl := inj1 h; exact ca_XDCk
      · refine aSk ?_; refine aRg ?_; intro _; refine dr_XDCk ?_; refine ⟨(k7, (IntKind.i64.wrap (x1.2 + 1))), h, ltS m2, ?_⟩; exact ca_XDCk
    · refine aEx ?_; refine aSR ?_; intro _; refine dr_XDCk ?_; refine aRt ?_; intro _; obtain rfl := inj1 h; exact ca_XDCk
def M_s_ContainsFunc_string (a0 : List ByteArray) (a1 : ByteArray → Option Bool) : Option (Bool) :=
  ob1 (M_s_IndexFunc_string a0 a1) (fun z1 =>
   some (decide (z1 ≥ 0)))
theorem A_s_ContainsFunc_string (a0 : List ByteArray) (a1 : ByteArray → Option Bool) (Fa1 : AV) (hFa1 : Fr Fa1) (ea1 : ∃ f fs cap, Fa1 = .clo (.func f) fs cap) (ha1 : ∀ (x0 : ByteArray) (y0 : Bool), a1 x0 = some y0 → CCl cx Fa1 [.c (.string x0)] (.c (.bool y0))) {r1 : Bool} (h : M_s_ContainsFunc_string a0 a1 = some r1) : ACall cx 35 [.sl 1 (a0.map cS), Fa1] (.c (.bool r1)) := by
  obtain ⟨fa1, sa1, qa1, rfl⟩ := ea1; refine aOf Tryd.func35 rfl (by decide) rfl (Nat.le_of_ble_eq_true rfl) ?_; intro _; unfold M_s_ContainsFunc_string at h; refine aSR ?_; intro _; refine dr_XDCk ?_; refine aSR ?_; intro _; obtain ⟨z1, u1, h⟩ := ob1_ok h; refine cl_XDCk rfl (A_s_IndexFunc_string a0 a1 (.clo (.func fa1) sa1 qa1) hFa1 ⟨_, _, _, rfl⟩ ha1 u1) ?_; intro _; refine dr_XDCk ?_; refine aRt ?_; intro _; obtain rfl := inj1 h; exact ca_XDCk
def M_datalog_CheckRule_1 (b0 : List ByteArray) (a0 : ByteArray) : Option (Bool) :=
  ob1 (M_datalog_variable a0) (fun z1 =>
   sel z1
    (ob1 (M_s_Contains_string b0 a0) (fun z2 =>
      some (!z2)))
    (some false))
theorem A_datalog_CheckRule_1 (b0 : List ByteArray) (a0 : ByteArray) {r1 : Bool} (h : M_datalog_CheckRule_1 b0 a0 = some r1) : ACall cx 36 [.c (.string a0), .pim [.sl 1 (b0.map cS)] 0] (.c (.bool r1)) := by
  refine aOf Tryd.func36 rfl (by decide) rfl (Nat.le_of_ble_eq_true rfl) ?_; intro _; unfold M_datalog_CheckRule_1 at h; refine aSR ?_; intro _; refine dr_XDCk ?_; refine aSR ?_; intro _; obtain ⟨z1, u1, h⟩ := ob1_ok h; refine cl_XDCk rfl (A_datalog_variable a0 u1) ?_; intro _; refine spl h (fun c2 h => ?_) (fun c2 h => ?_)
  · intro _; obtain ⟨z2, u3, h⟩ := ob1_ok h; refine cl_XDCk rfl (A_s_Contains_string b0 a0 u3) ?_; intro _; refine dr_XDCk ?_; refine aRt ?_; intro _; obtain rfl := inj1 h; exact ca_XDCk
  · intro _; refine dr_XDCk ?_; refine aRt ?_; intro _; obtain rfl := inj1 h; exact ca_XDCk
def M_s_IndexFunc_Atom_L1 (a0 : List GAtom) (a1 : GAtom → Option Bool) : Nat → Int → Option (Int)
  | 0, _ => none
  | k7 + 1, v6 =>
    sel (decide (v6 < ((a0.map cGAtom).length : Int)))
     (ix a0 v6 (fun y8 =>
       ob1 (a1 y8) (fun z9 =>
        sel z9
         (some v6)
         (M_s_IndexFunc_Atom_L1 a0 a1 k7 (IntKind.i64.wrap (v6 + 1))))))
     (some (-1))
def M_s_IndexFunc_Atom (a0 : List GAtom) (a1 : GAtom → Option Bool) : Option (Int) :=
  M_s_IndexFunc_Atom_L1 a0 a1 ((((a0.map cGAtom).length : Int)).toNat + 1) 0
theorem A_s_IndexFunc_Atom (a0 : List GAtom) (a1 : GAtom → Option Bool) (Fa1 : AV) (hFa1 : Fr Fa1) (ea1 : ∃ f fs cap, Fa1 = .clo (.func f) fs cap) (ha1 : ∀ (x0 : GAtom) (y0 : Bool), a1 x0 = some y0 → CCl cx Fa1 [.agg [.c (.string x0.Name), .sl 1 (x0.Args.map cS)]] (.c (.bool y0))) {r1 : Int} (h : M_s_IndexFunc_Atom a0 a1 = some r1) : ACall cx 58 [.sl 2 (a0.map cGAtom), Fa1] (.c (.int .i64 r1)) := by
  obtain ⟨fa1, sa1, qa1, rfl⟩ := ea1; refine aOf Tryd.func58 rfl (by decide) rfl (Nat.le_of_ble_eq_true rfl) ?_; intro _; unfold M_s_IndexFunc_Atom at h; refine aSR ?_; intro _; refine dr_XDCk ?_; refine aSq ?_; refine aSR ?_; intro _; refine dr_XDCk ?_; refine aBk ?_; refine awp_loop (α := Nat × Int) (fun x => mkS 19 [(0, .sl 2 (a0.map cGAtom)), (1, .clo (.func fa1) sa1 qa1), (7, .c (.int .i64 ((a0.map cGAtom).length : Int))), (8, .c (.int .i64 x.2))] []) (fun x => M_s_IndexFunc_Atom_L1 a0 a1 x.1 x.2 = some r1) (fun x => x.1) ((((a0.map cGAtom).length : Int)).toNat + 1, 0) h ?_ ?_
  · exact ca_XDCk
  · intro x1 h; intro _; obtain ⟨k7, m2, h⟩ := succ_of (f := fun n => M_s_IndexFunc_Atom_L1 a0 a1 n x1.2) rfl h; replace h : M_s_IndexFunc_Atom_L1 a0 a1 (k7 + 1) x1.2 = some r1 := h; rw [M_s_IndexFunc_Atom_L1] at h; refine aSR ?_; intro _; refine dr_XDCk ?_; refine aSq ?_; refine aCd ?_; intro _; refine spl h (fun c3 h => ?_) (fun c3 h => ?_)
    · refine aSk ?_; refine aSq ?_; refine aBk ?_; refine aSR ?_; intro _; refine dr_XDCk ?_; refine aSR ?_; intro _; obtain ⟨y8, w4, q5, h⟩ := ix_ok h; refine Exists.intro (cGAtom y8) (And.intro (map_at' w4) ?_); intro _; obtain ⟨z9, u6, h⟩ := ob1_ok h; refine clc_XDCk rfl (ha1 _ _ u6) hFa1 ?_; intro _; refine pr_XDCk ?_; refine dr_XDCk ?_; refine aCd ?_; intro _; refine spl h (fun c7 h => ?_) (fun c7 h => ?_)
      · refine aSR ?_; intro _; refine dr_XDCk ?_; refine aRt ?_; intro _; obtain rfl := inj1 h; exact ca_XDCk
      · refine aSk ?_; refine aRg ?_; intro _; refine dr_XDCk ?_; refine ⟨(k7, (IntKind.i64.wrap (x1.2 + 1))), h, ltS m2, ?_⟩; exact ca_XDCk
    · refine aEx ?_; refine aSR ?_; intro _; refine dr_XDCk ?_; refine aRt ?_; intro _; obtain rfl := inj1 h; exact ca_XDCk
def M_s_ContainsFunc_Atom (a0 : List GAtom) (a1 : GAtom → Option Bool) : Option (Bool) :=
  ob1 (M_s_IndexFunc_Atom a0 a1) (fun z1 =>
   some (decide (z1 ≥ 0)))
theorem A_s_ContainsFunc_Atom (a0 : List GAtom) (a1 : GAtom → Option Bool) (Fa1 : AV) (hFa1 : Fr Fa1) (ea1 : ∃ f fs cap, Fa1 = .clo (.func f) fs cap) (ha1 : ∀ (x0 : GAtom) (y0 : Bool), a1 x0 = some y0 → CCl cx Fa1 [.agg [.c (.string x0.Name), .sl 1 (x0.Args.map cS)]] (.c (.bool y0))) {r1 : Bool} (h : M_s_ContainsFunc_Atom a0 a1 = some r1) : ACall cx 39 [.sl 2 (a0.map cGAtom), Fa1] (.c (.bool r1)) := by
  obtain ⟨fa1, sa1, qa1, rfl⟩ := ea1; refine aOf Tryd.func39 rfl (by decide) rfl (Nat.le_of_ble_eq_true rfl) ?_; intro _; unfold M_s_ContainsFunc_Atom at h; refine aSR ?_; intro _; refine dr_XDCk ?_; refine aSR ?_; intro _; obtain ⟨z1, u1, h⟩ := ob1_ok h; refine cl_XDCk rfl (A_s_IndexFunc_Atom a0 a1 (.clo (.func fa1) sa1 qa1) hFa1 ⟨_, _, _, rfl⟩ ha1 u1) ?_; intro _; refine dr_XDCk ?_; refine aRt ?_; intro _; obtain rfl := inj1 h; exact ca_XDCk
def M_datalog_CheckRule_2 (a0 : GAtom) : Option (Bool) :=
  some (decide (((a0.Args.map cS).length : Int) > 6))
theorem A_datalog_CheckRule_2 (a0 : GAtom) {r1 : Bool} (h : M_datalog_CheckRule_2 a0 = some r1) : ACall cx 40 [.agg [.c (.string a0.Name), .sl 1 (a0.Args.map cS)]] (.c (.bool r1)) := by
  refine aOf Tryd.func40 rfl (by decide) rfl (Nat.le_of_ble_eq_true rfl) ?_; intro _; unfold M_datalog_CheckRule_2 at h; refine aSR ?_; intro _; refine dr_XDCk ?_; refine aSR ?_; intro _; refine dr_XDCk ?_; refine aRt ?_; intro _; obtain rfl := inj1 h; exact ca_XDCk
def M_datalog_CheckRule_3 (a0 : GAtom) : Option (Bool) :=
  some (a0.Name.toList == (⟨#[]⟩ : ByteArray).toList)
theorem A_datalog_CheckRule_3 (a0 : GAtom) {r1 : Bool} (h : M_datalog_CheckRule_3 a0 = some r1) : ACall cx 41 [.agg [.c (.string a0.Name), .sl 1 (a0.Args.map cS)]] (.c (.bool r1)) := by
  refine aOf Tryd.func41 rfl (by decide) rfl (Nat.le_of_ble_eq_true rfl) ?_; intro _; unfold M_datalog_CheckRule_3 at h; refine aSR ?_; intro _; refine dr_XDCk ?_; refine aSR ?_; intro _; refine dr_XDCk ?_; refine aRt ?_; intro _; obtain rfl := inj1 h; exact ca_XDCk
def M_datalog_CheckRule_L1 (a0 : GRule) : Nat → Int → (List ByteArray) → Option (List ByteArray)
  | 0, _, _ => none
  | k19 + 1, v17, v18 =>
    sel (decide (v17 < ((a0.Unequal.map cA2_cS).length : Int)))
     (ix a0.Unequal v17 (fun y20 =>
       grd ((v18.length + 2) * 16 ≤ 140737488355328) (M_datalog_CheckRule_L1 a0 k19 (IntKind.i64.wrap (v17 + 1)) (v18 ++ [y20.1, y20.2]))))
     (some v18)
def M_datalog_CheckRule (a0 : GRule) : Option (Er) :=
  ob1 (M_datalog_Variables a0.Body) (fun z1 =>
   ob1 (M_cloneSo a0.Head.Args) (fun z2 =>
    ob1 (M_datalog_CheckRule_L1 a0 ((((a0.Unequal.map cA2_cS).length : Int)).toNat + 1) 0 z2 : Option (List ByteArray))
     (fun v11 => grd (v11.length ≤ 140737488355328) (ob1 (M_s_ContainsFunc_string v11 (M_datalog_CheckRule_1 z1)) (fun z21 =>
        sel z21
         (some (Er.no 2))
         (grd ((1 + a0.Body.length) * 40 ≤ 140737488355328) (ob1 (sel (decide (((a0.Body.map cGAtom).length : Int) > 16))
            (some (.inr (Er.no 5)))
            (grd (([a0.Head] ++ a0.Body).length ≤ 140737488355328) (ob1 (M_s_ContainsFunc_Atom ([a0.Head] ++ a0.Body) M_datalog_CheckRule_2) (fun z25 =>
              sel z25
               (some (.inr (Er.no 5)))
               (some (.inl ()))))) : Option (Unit ⊕ Er))
           (osum
           (fun _ => grd (([a0.Head] ++ a0.Body).length ≤ 140737488355328) (ob1 (M_s_ContainsFunc_Atom ([a0.Head] ++ a0.Body) M_datalog_CheckRule_3) (fun z26 =>
              sel z26
               (some (Er.no 8))
               (some Er.nil))))
           (fun r23 => some r23)))))))))
theorem A_datalog_CheckRule (a0 : GRule) {r1 : Er} (h : M_datalog_CheckRule a0 = some r1) : ACall cx 13 [.agg [.c (.string a0.Head.Name), .sl 1 (a0.Head.Args.map cS), .sl 2 (a0.Body.map cGAtom), .sl 2 (a0.Unequal.map cA2_cS)]] (eA r1) := by
  refine aOf Tryd.func13 rfl (by decide) rfl (Nat.le_of_ble_eq_true rfl) ?_; intro _; unfold M_datalog_CheckRule at h; refine aSR ?_; intro _; refine dr_XDCk ?_; refine aSR ?_; intro _; obtain ⟨z1, u1, h⟩ := ob1_ok h; refine cl_XDCk rfl (A_datalog_Variables a0.Body u1) ?_; intro _; refine dr_XDCk ?_; refine aSR ?_; intro _; obtain ⟨z2, u2, h⟩ := ob1_ok h; refine clg_XDCk [(0, 14)] [] [] [(14, ⟨2, some ⟨9, 1, false, z2.map cS⟩⟩)] (.own 14 2 0 z2.length) rfl rfl (A_cloneSo a0.Head.Args u2) ?_; intro _; refine dr_XDCk ?_; obtain ⟨o3, h, hK4⟩ := ob1_ok h; refine awp_cut (α := List ByteArray) (fun v11 => mkS 52 [(1, .ptr 1 0 0 0), (3, .ptr 3 0 0 0), (4, .own 14 0 0 v11.length)] [(1, ⟨28, 4, true, [[.c (.string a0.Head.Name), .sl 1 (a0.Head.Args.map cS), .sl 2 (a0.Body.map cGAtom), .sl 2 (a0.Unequal.map cA2_cS)]]⟩), (3, ⟨22, 1, true, [[.sl 1 (z1.map cS)]]⟩), (14, ⟨9, 1, false, v11.map cS⟩)]) (fun v => o3 = v) ?_ ?_
  · refine aSR ?_; intro _; refine dr_XDCk ?_; refine aBk ?_; refine awp_loop (α := Nat × Int × (List ByteArray)) (fun x => mkS 52 [(1, .ptr 1 0 0 0), (3, .ptr 3 0 0 0), (4, .own 14 0 0 x.2.2.length), (16, .sl 2 (a0.Unequal.map cA2_cS)), (17, .c (.int .i64 ((a0.Unequal.map cA2_cS).length : Int))), (18, .c (.int .i64 x.2.1))] [(1, ⟨28, 4, true, [[.c (.string a0.Head.Name), .sl 1 (a0.Head.Args.map cS), .sl 2 (a0.Body.map cGAtom), .sl 2 (a0.Unequal.map cA2_cS)]]⟩), (3, ⟨22, 1, true, [[.sl 1 (z1.map cS)]]⟩), (14, ⟨9, 1, false, x.2.2.map cS⟩)]) (fun x => M_datalog_CheckRule_L1 a0 x.1 x.2.1 x.2.2 = some o3) (fun x => x.1) ((((a0.Unequal.map cA2_cS).length : Int)).toNat + 1, 0, z2) h ?_ ?_
    · exact ca_XDCk
    · intro x5 h; intro _; obtain ⟨k19, m6, h⟩ := succ_of (f := fun n => M_datalog_CheckRule_L1 a0 n x5.2.1 x5.2.2) rfl h; replace h : M_datalog_CheckRule_L1 a0 (k19 + 1) x5.2.1 x5.2.2 = some o3 := h; rw [M_datalog_CheckRule_L1] at h; refine aSR ?_; intro _; refine dr_XDCk ?_; refine aSq ?_; refine aCd ?_; intro _; refine spl h (fun c7 h => ?_) (fun c7 h => ?_)
      · refine aSk ?_; refine aSq ?_; refine aBk ?_; refine aSR ?_; intro _; obtain ⟨y20, w8, q9, h⟩ := ix_ok h; refine Exists.intro (cA2_cS y20) (And.intro (map_at' w8) ?_); intro _; refine pr_XDCk ?_; refine dr_XDCk ?_; refine aRg ?_; intro _; refine ⟨_, lf_arrAt rfl (Nat.le_of_ble_eq_true rfl) rfl rfl rfl (tyTab_ok 58 _ rfl) rfl (tyTab_ok 9 _ rfl) (by decide) (by decide), ?_⟩; intro _; refine ⟨_, lf_arrAt rfl (Nat.le_of_ble_eq_true rfl) rfl rfl rfl (tyTab_ok 58 _ rfl) rfl (tyTab_ok 9 _ rfl) (by decide) (by decide), ?_⟩; intro _; obtain ⟨q10, h⟩ := grd_ok h; refine pl_XDCk ?_; refine pl_XDCk ?_; refine And.intro (by first | with_reducible assumption | (show (x5.2.2.length + 2) * 16 ≤ 140737488355328; with_reducible assumption) | omega | (simp; omega)) ?_; refine pe_XDCk ?_; refine dr_XDCk ?_; refine aRg ?_; intro _; refine dr_XDCk ?_; refine ⟨(k19, (IntKind.i64.wrap (x5.2.1 + 1)), (x5.2.2 ++ [y20.1, y20.2])), h, ltS m6, ?_⟩; exact ca_XDCk
      · refine aEx ?_; refine ⟨x5.2.2, (Option.some.inj h).symm, ?_⟩; exact ca_XDCk
  · rintro v11 ho; have ho := ho.symm; subst ho; intro _; replace h := hK4; refine aSq ?_; refine aSR ?_; intro _; refine ⟨_, lf_func rfl (Nat.le_of_ble_eq_true rfl) rfl rfl, ?_⟩; intro _; obtain ⟨q11, h⟩ := grd_ok h; obtain ⟨z21, u12, h⟩ := ob1_ok h; refine clb_XDCk [3, 14] rfl rfl (A_s_ContainsFunc_string v11 (M_datalog_CheckRule_1 z1) (.clo (.func 36) [] [.pim [.sl 1 (z1.map cS)] 0]) (Fr.clo FrC_nil FrE.h) ⟨_, _, _, rfl⟩ (fun x0 y0 hx => ⟨36, [], _, rfl, A_datalog_CheckRule_1 z1 x0 hx⟩) u12) ?_; intro _; refine dr_XDCk ?_; refine aCd ?_; intro _; refine spl h (fun c13 h => ?_) (fun c13 h => ?_)
    · refine aSR ?_; intro _; refine dr_XDCk ?_; refine aRt ?_; intro _; obtain rfl := inj1 h; exact ca_XDCk
    · refine aSk ?_; refine aSR ?_; intro _; obtain ⟨q14, h⟩ := grd_ok h; refine pl_XDCk ?_; refine And.intro (by first | with_reducible assumption | (show (1 + a0.Body.length) * 40 ≤ 140737488355328; with_reducible assumption) | omega | (simp; omega)) ?_; refine pe_XDCk ?_; refine dr_XDCk ?_; obtain ⟨o15, h, hK16⟩ := ob1_ok h; refine awp_cut (α := Unit) (fun _ => mkS 52 [(7, .own 36 0 0 (([a0.Head] ++ a0.Body).length))] [(36, ⟨24, 2, false, ([a0.Head] ++ a0.Body).map cGAtom⟩)]) (fun v => o15 = (.inl v)) ?_ ?_
      · refine aSR ?_; intro _; refine spf h (fun c17 h => ?_) (fun c17 h => ?_)
        · intro _; obtain ⟨q18, h⟩ := grd_ok h; obtain ⟨z25, u19, h⟩ := ob1_ok h; refine clb_XDCk [36] rfl rfl (A_s_ContainsFunc_Atom ([a0.Head] ++ a0.Body) M_datalog_CheckRule_2 (.clo (.func 40) [] []) (Fr.clo FrC_nil FrE.h) ⟨_, _, _, rfl⟩ (fun x0 y0 hx => ⟨40, [], _, rfl, A_datalog_CheckRule_2 x0 hx⟩) u19) ?_; intro _; refine dr_XDCk ?_; refine aCd ?_; intro _; refine spl h (fun c20 h => ?_) (fun c20 h => ?_)
          · refine aSR ?_; intro _; refine dr_XDCk ?_; refine aRt ?_; have j21 := Option.some.inj h; subst j21; replace h := (osum_r hK16); intro _; obtain rfl := inj1 h; exact ca_XDCk
          · refine aSk ?_; refine ⟨(), (Option.some.inj h).symm, ?_⟩; exact ca_XDCk
        · intro _; refine dr_XDCk ?_; refine aCd ?_; intro _; refine litT ?_; refine aSR ?_; intro _; refine dr_XDCk ?_; refine aRt ?_; have j22 := Option.some.inj h; subst j22; replace h := (osum_r hK16); intro _; obtain rfl := inj1 h; exact ca_XDCk
      · rintro _ ho; have ho := ho.symm; subst ho; intro _; replace h := (osum_l hK16); refine aSq ?_; refine aSR ?_; intro _; obtain ⟨q23, h⟩ := grd_ok h; obtain ⟨z26, u24, h⟩ := ob1_ok h; refine clb_XDCk [36] rfl rfl (A_s_ContainsFunc_Atom ([a0.Head] ++ a0.Body) M_datalog_CheckRule_3 (.clo (.func 41) [] []) (Fr.clo FrC_nil FrE.h) ⟨_, _, _, rfl⟩ (fun x0 y0 hx => ⟨41, [], _, rfl, A_datalog_CheckRule_3 x0 hx⟩) u24) ?_; intro _; refine dr_XDCk ?_; refine aCd ?_; intro _; refine spl h (fun c25 h => ?_) (fun c25 h => ?_)
        · refine aSR ?_; intro _; refine dr_XDCk ?_; refine aRt ?_; intro _; obtain rfl := inj1 h; exact ca_XDCk
        · refine aSk ?_; refine aSR ?_; intro _; refine dr_XDCk ?_; refine aRt ?_; intro _; obtain rfl := inj1 h; exact ca_XDCk
end Go.Proofs.YtflgpccacloadaaDoor.Am
/- Plain law: what CheckRule returns. -/
namespace Go.Proofs.YtflgpccacloadaaDoor.Am
open Go.RowKit
instance memDec (s : ByteArray) (l : List ByteArray) : Decidable (s ∈ l) := decidable_of_iff (l.any (fun x => decide (x = s)) = true) (by simp)
theorem index_loop (l : List ByteArray) (s : ByteArray) (hl : l.length ≤ 4611686018427387904) : ∀ (k i : Nat), i + k = l.length + 1 → i ≤ l.length → ∃ z : Int, M_s_Index_string_L1 l s k (i : Int) = some z ∧ (0 ≤ z ↔ s ∈ l.drop i) := by
  intro k
  induction k with
  | zero => intro i h1 h2; omega
  | succ k ih =>
    intro i h1 h2
    rw [M_s_Index_string_L1]
    by_cases h : i < l.length
    · have hy := List.getElem?_eq_getElem h
      rw [show decide ((i : Int) < ((l.map cS).length : Int)) = true by simp; omega]
      show ∃ z, ix l (i : Int) _ = _ ∧ _
      rw [ix_at hy, beq_bl, sel_dec, dropC hy]
      by_cases e : s = l[i]
      · rw [if_pos e]
        exact ⟨_, rfl, fun _ => List.mem_cons.2 (.inl e), fun _ => by omega⟩
      · rw [if_neg e, wrap_eq (by omega) (by omega)]
        obtain ⟨z, h3, h4⟩ := ih (i + 1) (by omega) (by omega)
        refine ⟨z, h3, h4.trans ⟨fun q => List.mem_cons_of_mem _ q, fun q => ?_⟩⟩
        rcases List.mem_cons.1 q with q | q
        · exact absurd q e
        · exact q
    · rw [show decide ((i : Int) < ((l.map cS).length : Int)) = false by simp; omega]
      rw [List.drop_of_length_le (by omega)]
      exact ⟨-1, rfl, by simp⟩
theorem contains_eq (l : List ByteArray) (s : ByteArray) (hl : l.length ≤ 4611686018427387904) : M_s_Contains_string l s = some (decide (s ∈ l)) := by
  unfold M_s_Contains_string M_s_Index_string
  rw [show (((l.map cS).length : Int)).toNat + 1 = l.length + 1 by simp]
  obtain ⟨z, h1, h2⟩ := index_loop l s hl (l.length + 1) 0 (by omega) (Nat.zero_le _)
  rw [show ((0 : Nat) : Int) = 0 from rfl] at h1
  rw [h1, ob1_some]
  exact congrArg some (decide_eq_decide.2 (by rw [List.drop_zero] at h2; exact h2))
theorem cfS_loop (l : List ByteArray) (f : ByteArray → Option Bool) (p : ByteArray → Bool) (hf : ∀ x ∈ l, f x = some (p x)) (hl : l.length ≤ 4611686018427387904) : ∀ (k i : Nat), i + k = l.length + 1 → i ≤ l.length → ∃ z : Int, M_s_IndexFunc_string_L1 l f k (i : Int) = some z ∧ (decide (z ≥ 0) = (l.drop i).any p) := by
  intro k
  induction k with
  | zero => intro i h1 h2; omega
  | succ k ih =>
    intro i h1 h2
    rw [M_s_IndexFunc_string_L1]
    by_cases h : i < l.length
    · have hy := List.getElem?_eq_getElem h
      rw [show decide ((i : Int) < ((l.map cS).length : Int)) = true by simp; omega]
      show ∃ z, ix l (i : Int) _ = _ ∧ _
      rw [ix_at hy, hf _ (List.getElem_mem h), ob1_some, dropC hy, List.any_cons]
      cases hp : p l[i] with
      | true => exact ⟨i, rfl, by simp⟩
      | false =>
        show ∃ z, M_s_IndexFunc_string_L1 l f k _ = _ ∧ _
        rw [wrap_eq (by omega) (by omega)]
        obtain ⟨z, h3, h4⟩ := ih (i + 1) (by omega) (by omega)
        exact ⟨z, h3, by rw [h4]; simp⟩
    · rw [show decide ((i : Int) < ((l.map cS).length : Int)) = false by simp; omega]
      rw [List.drop_of_length_le (by omega)]
      exact ⟨-1, rfl, rfl⟩
theorem cfS_eq (l : List ByteArray) (f : ByteArray → Option Bool) (p : ByteArray → Bool) (hf : ∀ x ∈ l, f x = some (p x)) (hl : l.length ≤ 4611686018427387904) : M_s_ContainsFunc_string l f = some (l.any p) := by
  unfold M_s_ContainsFunc_string M_s_IndexFunc_string
  rw [show (((l.map cS).length : Int)).toNat + 1 = l.length + 1 by simp]
  obtain ⟨z, h1, h2⟩ := cfS_loop l f p hf hl (l.length + 1) 0 (by omega) (Nat.zero_le _)
  rw [show ((0 : Nat) : Int) = 0 from rfl] at h1
  rw [h1, ob1_some, h2, List.drop_zero]
theorem cfA_loop (l : List GAtom) (f : GAtom → Option Bool) (p : GAtom → Bool) (hf : ∀ x ∈ l, f x = some (p x)) (hl : l.length ≤ 4611686018427387904) : ∀ (k i : Nat), i + k = l.length + 1 → i ≤ l.length → ∃ z : Int, M_s_IndexFunc_Atom_L1 l f k (i : Int) = some z ∧ (decide (z ≥ 0) = (l.drop i).any p) := by
  intro k
  induction k with
  | zero => intro i h1 h2; omega
  | succ k ih =>
    intro i h1 h2
    rw [M_s_IndexFunc_Atom_L1]
    by_cases h : i < l.length
    · have hy := List.getElem?_eq_getElem h
      rw [show decide ((i : Int) < ((l.map cGAtom).length : Int)) = true by simp; omega]
      show ∃ z, ix l (i : Int) _ = _ ∧ _
      rw [ix_at hy, hf _ (List.getElem_mem h), ob1_some, dropC hy, List.any_cons]
      cases hp : p l[i] with
      | true => exact ⟨i, rfl, by simp⟩
      | false =>
        show ∃ z, M_s_IndexFunc_Atom_L1 l f k _ = _ ∧ _
        rw [wrap_eq (by omega) (by omega)]
        obtain ⟨z, h3, h4⟩ := ih (i + 1) (by omega) (by omega)
        exact ⟨z, h3, by rw [h4]; simp⟩
    · rw [show decide ((i : Int) < ((l.map cGAtom).length : Int)) = false by simp; omega]
      rw [List.drop_of_length_le (by omega)]
      exact ⟨-1, rfl, rfl⟩
theorem cfA_eq (l : List GAtom) (f : GAtom → Option Bool) (p : GAtom → Bool) (hf : ∀ x ∈ l, f x = some (p x)) (hl : l.length ≤ 4611686018427387904) : M_s_ContainsFunc_Atom l f = some (l.any p) := by
  unfold M_s_ContainsFunc_Atom M_s_IndexFunc_Atom
  rw [show (((l.map cGAtom).length : Int)).toNat + 1 = l.length + 1 by simp]
  obtain ⟨z, h1, h2⟩ := cfA_loop l f p hf hl (l.length + 1) 0 (by omega) (Nat.zero_le _)
  rw [show ((0 : Nat) : Int) = 0 from rfl] at h1
  rw [h1, ob1_some, h2, List.drop_zero]
/-- the variables of a list of terms, each once, in the order of their first occurrence -/
def addV (out : List ByteArray) (s : ByteArray) : List ByteArray := if isV s = true then if s ∈ out then out else out ++ [s] else out
def vars (body : List GAtom) : List ByteArray := (body.flatMap (·.Args)).foldl addV []
theorem addV_len : ∀ (l : List ByteArray) (out : List ByteArray), (l.foldl addV out).length ≤ out.length + l.length
  | [], out => Nat.le_refl _
  | s :: r, out => by
    have h1 := addV_len r (addV out s)
    have h2 : (addV out s).length ≤ out.length + 1 := by
      unfold addV
      split
      · split <;> simp
      · omega
    rw [List.foldl_cons]
    simp only [List.length_cons]
    omega
theorem varL1 (a : GAtom) (hA : a.Args.length ≤ 4611686018427387904) : ∀ (k i : Nat) (out : List ByteArray), i + k = a.Args.length + 1 → i ≤ a.Args.length → (out.length + (a.Args.length - i)) * 16 ≤ 140737488355328 → M_datalog_Variables_L1 a k (i : Int) out = some ((a.Args.drop i).foldl addV out) := by
  intro k
  induction k with
  | zero => intro i out h1 h2; omega
  | succ k ih =>
    intro i out h1 h2 h3
    rw [M_datalog_Variables_L1]
    by_cases h : i < a.Args.length
    · have hy := List.getElem?_eq_getElem h
      rw [show decide ((i : Int) < ((a.Args.map cS).length : Int)) = true by simp; omega]
      show ix a.Args (i : Int) _ = _
      rw [ix_at hy, variable_eq, ob1_some, dropC hy, List.foldl_cons, wrap_eq (by omega) (by omega)]
      unfold addV
      cases hv : isV a.Args[i] with
      | false =>
        rw [if_neg (by decide)]
        exact ih (i + 1) out (by omega) (by omega) (by omega)
      | true =>
        rw [if_pos rfl]
        refine grd_mk (by omega) ?_
        rw [contains_eq out _ (by omega), ob1_some, sel_not, sel_dec]
        by_cases e : a.Args[i] ∈ out
        · rw [if_pos e, if_pos e]
          exact ih (i + 1) out (by omega) (by omega) (by omega)
        · rw [if_neg e, if_neg e]
          exact grd_mk (by omega) (ih (i + 1) (out ++ [a.Args[i]]) (by omega) (by omega) (by simp; omega))
    · rw [show decide ((i : Int) < ((a.Args.map cS).length : Int)) = false by simp; omega]
      rw [List.drop_of_length_le (by omega)]
      rfl
theorem varL2 (body : List GAtom) (hb : body.length ≤ 4611686018427387904) : ∀ (k i : Nat) (out : List ByteArray), i + k = body.length + 1 → i ≤ body.length → (out.length + ((body.drop i).flatMap (·.Args)).length) * 16 ≤ 140737488355328 → M_datalog_Variables_L2 body k (i : Int) out = some (((body.drop i).flatMap (·.Args)).foldl addV out) := by
  intro k
  induction k with
  | zero => intro i out h1 h2; omega
  | succ k ih =>
    intro i out h1 h2 h3
    rw [M_datalog_Variables_L2]
    by_cases h : i < body.length
    · have hy := List.getElem?_eq_getElem h
      rw [show decide ((i : Int) < ((body.map cGAtom).length : Int)) = true by simp; omega]
      show ob1 (ix body (i : Int) _) _ = _
      rw [dropC hy, List.flatMap_cons, List.length_append] at h3
      have h4 := addV_len body[i].Args out
      have h5 := varL1 body[i] (by omega) (body[i].Args.length + 1) 0 out (by omega) (Nat.zero_le _) (by omega)
      rw [List.drop_zero, show ((0 : Nat) : Int) = 0 from rfl] at h5
      rw [ix_at hy, show (((body[i].Args.map cS).length : Int)).toNat + 1 = body[i].Args.length + 1 by simp, h5, ob1_some, wrap_eq (by omega) (by omega), dropC hy, List.flatMap_cons, List.foldl_append]
      exact ih (i + 1) _ (by omega) (by omega) (by omega)
    · rw [show decide ((i : Int) < ((body.map cGAtom).length : Int)) = false by simp; omega]
      rw [List.drop_of_length_le (by omega)]
      exact grd_mk (by omega) rfl
theorem variables_eq (body : List GAtom) (hb : body.length ≤ 4611686018427387904) (ht : (body.flatMap (·.Args)).length * 16 ≤ 140737488355328) : M_datalog_Variables body = some (vars body) := by
  unfold M_datalog_Variables
  rw [show (((body.map cGAtom).length : Int)).toNat + 1 = body.length + 1 by simp]
  have := varL2 body hb (body.length + 1) 0 [] (by omega) (Nat.zero_le _) (by rw [List.drop_zero]; simpa using ht)
  rw [List.drop_zero, show ((0 : Nat) : Int) = 0 from rfl] at this
  exact this
end Go.Proofs.YtflgpccacloadaaDoor.Am
/- Models printed by my decompiler, and the proofs that the code computes them. -/
namespace Go.Proofs.YtflgpccacloadaaDoor.Am
open Go.RowKit
theorem ci_XDSv {p K : Prop} (k : K) (h : p := by first | rfl | exact ⟨rfl, rfl⟩ | exact BW.mpf rfl rfl rfl FrI.h rfl | exact cloK3 rfl rfl rfl rfl rfl rfl rfl rfl rfl | exact CloK.bw (BW.fr (by assumption)) | exact BW.fr FrV.h | (refine BW.fr ?_; assumption) | (refine ⟨rfl, ?_⟩; (simp [cGAtom, cS, cGRule, cA2_cS, cF, take_len_map]; done)) | (refine RowK.same ?_ FrI.h; first | rfl | (simp [cGAtom, cS, cGRule, cA2_cS, cF, take_len_map]; done)) | (refine row_part1 ?_; (repeat (first | exact BWL.nil | exact bwll_nil | exact bw_c | exact BW.sl | exact BW.nil | exact bwll_same rfl FrI.h | refine BWL.cons ?_ ?_ | refine bwll_cons ?_ ?_ | (refine bw_own3 rfl rfl rfl FrI.h ?_ ?_ ?_) | exact BW.mpf rfl rfl rfl FrI.h rfl | exact cloK3 rfl rfl rfl rfl rfl rfl rfl rfl rfl | exact CloK.bw (BW.fr (by assumption)) | exact BW.fr FrV.h | exact BW.fr (by assumption) | refine bw_agg ?_ | refine bw_clo ?_ | refine bw_ptr rfl rfl rfl ?_ | (refine bw_own rfl rfl rfl ?_ FrI.h ?_ ?_) | assumption | omega | rfl | (rw [List.length_map, ← List.length_append]; assumption) | (refine bwll_same ?_ FrI.h; (simp [cGAtom, cS, cGRule, cA2_cS, cF] <;> fail)) | (rw [List.map_set]; refine bwll_set (by first | rfl | omega | simp) ?_ ?_) | refine bwll_set (by first | rfl | omega | simp) ?_ ?_ | (rw [List.map_replicate]; refine bwll_rep ?_) | refine bwll_rep ?_ | (rw [List.map_append]; refine bwll_append ?_ ?_) | refine bwll_append ?_ ?_ | (simp [cGAtom, cS, cGRule, cA2_cS, cF, take_len_map] <;> fail) | (rw [List.drop_zero, List.take_of_length_le] <;> first | rfl | (simp [cGAtom, cS, cGRule, cA2_cS, cF] <;> fail)) | (simp; omega) | (simp only [List.length_map, List.length_append, List.drop_zero, List.length_cons, List.length_nil, Nat.zero_add, Nat.add_zero] at *; omega))); done) | ((repeat (first | exact BWL.nil | exact bwll_nil | exact bw_c | exact BW.sl | exact BW.nil | exact bwll_same rfl FrI.h | refine BWL.cons ?_ ?_ | refine bwll_cons ?_ ?_ | (refine bw_own3 rfl rfl rfl FrI.h ?_ ?_ ?_) | exact BW.mpf rfl rfl rfl FrI.h rfl | exact cloK3 rfl rfl rfl rfl rfl rfl rfl rfl rfl | exact CloK.bw (BW.fr (by assumption)) | exact BW.fr FrV.h | exact BW.fr (by assumption) | refine bw_agg ?_ | refine bw_clo ?_ | refine bw_ptr rfl rfl rfl ?_ | (refine bw_own rfl rfl rfl ?_ FrI.h ?_ ?_) | assumption | omega | rfl | (rw [List.length_map, ← List.length_append]; assumption) | (refine bwll_same ?_ FrI.h; (simp [cGAtom, cS, cGRule, cA2_cS, cF] <;> fail)) | (rw [List.map_set]; refine bwll_set (by first | rfl | omega | simp) ?_ ?_) | refine bwll_set (by first | rfl | omega | simp) ?_ ?_ | (rw [List.map_replicate]; refine bwll_rep ?_) | refine bwll_rep ?_ | (rw [List.map_append]; refine bwll_append ?_ ?_) | refine bwll_append ?_ ?_ | (simp [cGAtom, cS, cGRule, cA2_cS, cF, take_len_map] <;> fail) | (rw [List.drop_zero, List.take_of_length_le] <;> first | rfl | (simp [cGAtom, cS, cGRule, cA2_cS, cF] <;> fail)) | (simp; omega) | (simp only [List.length_map, List.length_append, List.drop_zero, List.length_cons, List.length_nil, Nat.zero_add, Nat.add_zero] at *; omega))); done) | (simp [cGAtom, cS, cGRule, cA2_cS, cF, take_len_map]; done)) : p ∧ K := ⟨h, k⟩
theorem ca_XDSv {P : Prop} (h : P := by repeat (first | exact True.intro | refine ci_XDSv ?_)) : P := h
theorem pr_XDSv {p K : Prop} (k : K) (h : p := by first | assumption | exact Int.natCast_nonneg _ | exact Nat.le_refl _ | exact Nat.zero_le _ | omega | (simp; done) | (simp; omega)) : p ∧ K := ⟨h, k⟩
theorem dr_XDSv {b : Bool} {p K : Prop} (k : K) (h : b = true → p := by intro h; first | (cases h; done) | exact ⟨by kernel_rfl, by kernel_rfl⟩) : (b = true → p) ∧ K := ⟨h, k⟩
theorem cl_XDSv {C : Cx} {n : Nat} {o : Oper} {τ : Nat → AV} {η : Nat → Ent} {f : FuncId} {os : Array Operand} {ats : Array TypeId} {r : AV} {args : List AV} {K : Foot → Prop} (ho : o.op = .call ⟨.value (.func f), os, ats⟩) (hc : ACall C f args r) (k : K ⟨r, [], []⟩)
    (hd : InB n o.dst := by exact Nat.le_of_ble_eq_true rfl) (hargs : os.toList.map (evA τ) = args := by first | rfl | (simp [cGAtom, cS, cGRule, cA2_cS, cF]; done) | (repeat (first | exact rfl | refine cons_eq ?_ ?_ | exact sl_dt rfl))) (hfr : frs args := by repeat (first | exact trivial | exact fr1_eA _ | exact fr0_eA _ | exact fr1_fr (by assumption) | exact FrV.h | exact fr0_fr FrV.h | exact fr1_fr FrV.h | refine And.intro ?_ ?_)) (hr : fr1 r := by repeat (first | exact trivial | exact fr1_eA _ | exact fr0_eA _ | exact fr1_fr (by assumption) | exact FrV.h | exact fr0_fr FrV.h | exact fr1_fr FrV.h | refine And.intro ?_ ?_)) : ∃ f : Foot, LF C n o τ η f ∧ K f := ⟨_, lf_call ho hd hargs hc hfr hr, k⟩
theorem clb_XDSv {C : Cx} {n : Nat} {o : Oper} {τ : Nat → AV} {η : Nat → Ent} {f : FuncId} {os : Array Operand} {ats : Array TypeId} {r : AV} {xs ys : List AV} {K : Foot → Prop} (bs : List Nat) (ho : o.op = .call ⟨.value (.func f), os, ats⟩) (hargs : os.toList.map (evA τ) = xs) (hc : ACall C f ys r) (k : K ⟨r, [], bs⟩)
    (hd : InB n o.dst := by exact Nat.le_of_ble_eq_true rfl) (hb : BWL η (dropB η bs) xs ys := by repeat (first | exact BWL.nil | exact bwll_nil | exact bw_c | exact BW.sl | exact BW.nil | exact bwll_same rfl FrI.h | refine BWL.cons ?_ ?_ | refine bwll_cons ?_ ?_ | (refine bw_own3 rfl rfl rfl FrI.h ?_ ?_ ?_) | exact BW.mpf rfl rfl rfl FrI.h rfl | refine CloK.bw ?_ | exact BW.fr FrV.h | exact BW.fr (by assumption) | refine bw_agg ?_ | refine bw_clo ?_ | refine bw_ptr rfl rfl rfl ?_ | (refine bw_own rfl rfl rfl ?_ FrI.h ?_ ?_) | assumption | omega | rfl | (rw [List.length_map, ← List.length_append]; assumption) | (refine bwll_same ?_ FrI.h; (simp [cGAtom, cS, cGRule, cA2_cS, cF] <;> fail)) | (rw [List.map_set]; refine bwll_set (by first | rfl | omega | simp) ?_ ?_) | refine bwll_set (by first | rfl | omega | simp) ?_ ?_ | (rw [List.map_replicate]; refine bwll_rep ?_) | refine bwll_rep ?_ | (rw [List.map_append]; refine bwll_append ?_ ?_) | refine bwll_append ?_ ?_ | (simp [cGAtom, cS, cGRule, cA2_cS, cF, take_len_map] <;> fail) | (rw [List.drop_zero, List.take_of_length_le] <;> first | rfl | (simp [cGAtom, cS, cGRule, cA2_cS, cF] <;> fail)) | (simp; omega) | (simp only [List.length_map, List.length_append, List.drop_zero, List.length_cons, List.length_nil, Nat.zero_add, Nat.add_zero] at *; omega))) (hr : scal r := by repeat (first | exact trivial | exact scal0_eA _ | exact scal_eA _ | refine And.intro ?_ ?_)) : ∃ f : Foot, LF C n o τ η f ∧ K f := ⟨_, lf_callB bs ho hd hargs hb hc hr, k⟩
def M_datalog_Solve_1 (a0 : GAtom) : Option (Bool) :=
  sel (a0.Name.toList == (⟨#[]⟩ : ByteArray).toList)
   (some true)
   (ob1 (M_s_ContainsFunc_string a0.Args M_datalog_variable) (fun z1 =>
     some z1))
set_option maxHeartbeats 16000000 in
set_option maxRecDepth 100000 in
theorem A_datalog_Solve_1 (a0 : GAtom) {r1 : Bool} (h : M_datalog_Solve_1 a0 = some r1) : ACall cx 47 [.agg [.c (.string a0.Name), .sl 1 (a0.Args.map cS)]] (.c (.bool r1)) := by
  refine aOf Tryd.func47 rfl (by decide) rfl (Nat.le_of_ble_eq_true rfl) ?_; intro _; unfold M_datalog_Solve_1 at h; refine aSR ?_; intro _; refine dr_XDSv ?_; refine aSR ?_; intro _; refine spf h (fun c1 h => ?_) (fun c1 h => ?_)
  · intro _; obtain ⟨z1, u2, h⟩ := ob1_ok h; refine clb_XDSv [] rfl rfl (A_s_ContainsFunc_string a0.Args M_datalog_variable (.clo (.func 37) [] []) (Fr.clo FrC_nil FrE.h) ⟨_, _, _, rfl⟩ (fun x0 y0 hx => ⟨37, [], _, rfl, A_datalog_variable x0 hx⟩) u2) ?_; intro _; refine dr_XDSv ?_; refine aRt ?_; intro _; obtain rfl := inj1 h; exact ca_XDSv
  · intro _; refine dr_XDSv ?_; refine aRt ?_; intro _; obtain rfl := inj1 h; exact ca_XDSv
def M_datalog_Solve_L1 (a1 : List GRule) : Nat → Int → Option (Unit ⊕ ((List GAtom) × Er))
  | 0, _ => none
  | k24 + 1, v23 =>
    sel (decide (v23 < ((a1.map cGRule).length : Int)))
     (ix a1 v23 (fun y25 =>
       ob1 (M_datalog_CheckRule y25) (fun z26 =>
        erM z26
         (M_datalog_Solve_L1 a1 k24 (IntKind.i64.wrap (v23 + 1)))
         (fun e27 => some (.inr ([], (Er.no e27)))))))
     (some (.inl ()))
def M_datalog_Solve_L2 (a1 : List GRule) (g : Nat) : Nat → GSet → Option ((List GAtom) × Er)
  | 0, _ => none
  | k41 + 1, v40 =>
    ob2 (M_datalog_round g v40 a1) (fun z42 z43 =>
     erM z43
      (opM z42
        (none)
        (fun z45 => sel (decide (((z45.map cGAtom).length : Int) > 4096))
          (some ([], (Er.no 5)))
          (sel (((z45.map cGAtom).length : Int) == ((v40.map cGAtom).length : Int))
            (some (v40, Er.nil))
            (M_datalog_Solve_L2 a1 g k41 z45))))
      (fun e44 => some ([], (Er.no e44))))
def M_datalog_Solve (g : Nat) (a0 : List GAtom) (a1 : List GRule) : Option ((List GAtom) × Er) :=
  ob1 (M_datalog_Solve_L1 a1 ((((a1.map cGRule).length : Int)).toNat + 1) 0 : Option (Unit ⊕ ((List GAtom) × Er)))
   (osum
   (fun _ => ob1 (M_s_ContainsFunc_Atom a0 M_datalog_Solve_1) (fun z28 =>
      sel z28
       (some ([], (Er.no 2)))
       (sel (decide (((a1.map cGRule).length : Int) > 1024))
         (some ([], (Er.no 5)))
         (ob1 (M_datalog_made g a0) (fun z29 =>
           opM z29
            (none)
            (fun z30 => sel (decide (((z30.map cGAtom).length : Int) > 4096))
              (some ([], (Er.no 5)))
              (M_datalog_Solve_L2 a1 g g z30)))))))
   (fun (r13, r14) => some (r13, r14)))
set_option maxHeartbeats 16000000 in
set_option maxRecDepth 100000 in
theorem A_datalog_Solve (g : Nat) (a0 : List GAtom) (a1 : List GRule) {r1 : List GAtom} {r2 : Er} (h : M_datalog_Solve g a0 a1 = some (r1, r2)) : ACall cx 16 [.sl 2 (a0.map cGAtom), .sl 4 (a1.map cGRule)] (.tup [.sl 2 (r1.map cGAtom), eA r2]) := by
  refine aOf Tryd.func16 rfl (by decide) rfl (Nat.le_of_ble_eq_true rfl) ?_; intro _; unfold M_datalog_Solve at h; refine aSR ?_; intro _; refine dr_XDSv ?_; obtain ⟨o1, h, hK2⟩ := ob1_ok h; refine awp_cut (α := Unit) (fun _ => mkS 72 [(0, .sl 2 (a0.map cGAtom)), (1, .sl 4 (a1.map cGRule))] []) (fun v => o1 = (.inl v)) ?_ ?_
  · refine aSR ?_; intro _; refine dr_XDSv ?_; refine aBk ?_; refine awp_loop (α := Nat × Int) (fun x => mkS 72 [(0, .sl 2 (a0.map cGAtom)), (1, .sl 4 (a1.map cGRule)), (12, .sl 4 (a1.map cGRule)), (13, .c (.int .i64 ((a1.map cGRule).length : Int))), (14, .c (.int .i64 x.2))] []) (fun x => M_datalog_Solve_L1 a1 x.1 x.2 = some o1) (fun x => x.1) ((((a1.map cGRule).length : Int)).toNat + 1, 0) h ?_ ?_
    · exact ca_XDSv
    · intro x3 h; intro _; obtain ⟨k24, m4, h⟩ := succ_of (f := fun n => M_datalog_Solve_L1 a1 n x3.2) rfl h; replace h : M_datalog_Solve_L1 a1 (k24 + 1) x3.2 = some o1 := h; rw [M_datalog_Solve_L1] at h; refine aSR ?_; intro _; refine dr_XDSv ?_; refine aSq ?_; refine aCd ?_; intro _; refine spl h (fun c5 h => ?_) (fun c5 h => ?_)
      · refine aSk ?_; refine aSq ?_; refine aBk ?_; refine aSR ?_; intro _; obtain ⟨y25, w6, q7, h⟩ := ix_ok h; refine Exists.intro (cGRule y25) (And.intro (map_at' w6) ?_); intro _; refine pr_XDSv ?_; refine dr_XDSv ?_; refine aSR ?_; intro _; obtain ⟨z26, u8, h⟩ := ob1_ok h; refine cl_XDSv rfl (A_datalog_CheckRule y25 u8) ?_; intro _; refine dr_XDSv ?_; refine aSq ?_; rcases z26 with _ | e27
        · replace h := erM_nil h; refine aRg ?_; intro _; refine dr_XDSv ?_; refine aCd ?_; intro _; refine litF ?_; refine aSk ?_; refine aRg ?_; intro _; refine dr_XDSv ?_; refine ⟨(k24, (IntKind.i64.wrap (x3.2 + 1))), h, ltS m4, ?_⟩; exact ca_XDSv
        · replace h := erM_no h; refine aRg ?_; intro _; refine dr_XDSv ?_; refine aCd ?_; intro _; refine litT ?_; refine aSR ?_; intro _; refine dr_XDSv ?_; refine aRt ?_; have j9 := Option.some.inj h; subst j9; replace h := (osum_r hK2); intro _; obtain ⟨rfl, rfl⟩ := inj2 h; exact ca_XDSv
      · refine aEx ?_; refine ⟨(), (Option.some.inj h).symm, ?_⟩; exact ca_XDSv
  · rintro _ ho; have ho := ho.symm; subst ho; intro _; replace h := (osum_l hK2); refine aSq ?_; refine aSR ?_; intro _; obtain ⟨z28, u10, h⟩ := ob1_ok h; refine clb_XDSv [] rfl rfl (A_s_ContainsFunc_Atom a0 M_datalog_Solve_1 (.clo (.func 47) [] []) (Fr.clo FrC_nil FrE.h) ⟨_, _, _, rfl⟩ (fun x0 y0 hx => ⟨47, [], _, rfl, A_datalog_Solve_1 x0 hx⟩) u10) ?_; intro _; refine dr_XDSv ?_; refine aCd ?_; intro _; refine spl h (fun c11 h => ?_) (fun c11 h => ?_)
    · refine aSR ?_; intro _; refine dr_XDSv ?_; refine aRt ?_; intro _; obtain ⟨rfl, rfl⟩ := inj2 h; exact ca_XDSv
    · refine aSk ?_; refine aSq ?_; refine aSR ?_; intro _; refine dr_XDSv ?_; refine aCd ?_; intro _; refine spl h (fun c12 h => ?_) (fun c12 h => ?_)
      · refine aSR ?_; intro _; refine dr_XDSv ?_; refine aRt ?_; intro _; obtain ⟨rfl, rfl⟩ := inj2 h; exact ca_XDSv
      · refine aSk ?_; refine aSR ?_; intro _; obtain ⟨z29, u13, h⟩ := ob1_ok h; refine cl_XDSv rfl (A_datalog_made g a0 u13) ?_; intro _; refine dr_XDSv ?_; refine aSq ?_; refine aSq ?_; rcases z29 with _ | z30
        · replace h := opM_none h; cases h
        · replace h := opM_some h; refine aRg ?_; intro _; refine dr_XDSv ?_; refine aCd ?_; intro _; refine spl h (fun c14 h => ?_) (fun c14 h => ?_)
          · refine aSR ?_; intro _; refine dr_XDSv ?_; refine aRt ?_; intro _; obtain ⟨rfl, rfl⟩ := inj2 h; exact ca_XDSv
          · refine aSk ?_; refine aBk ?_; refine awp_loop (α := Nat × GSet) (fun x => mkS 72 [(1, .sl 4 (a1.map cGRule)), (9, .pim [.sl 2 (x.2.map cGAtom), .mpi (mE kF vR (formsM x.2))] 0)] []) (fun x => M_datalog_Solve_L2 a1 g x.1 x.2 = some (r1, r2)) (fun x => x.1) (g, z30) h ?_ ?_
            · exact ca_XDSv
            · intro x15 h; intro _; obtain ⟨k41, m16, h⟩ := succ_of (f := fun n => M_datalog_Solve_L2 a1 g n x15.2) rfl h; replace h : M_datalog_Solve_L2 a1 g (k41 + 1) x15.2 = some (r1, r2) := h; rw [M_datalog_Solve_L2] at h; refine aBk ?_; refine aSR ?_; intro _; obtain ⟨z42, z43, u17, h⟩ := ob2_ok h; refine cl_XDSv rfl (A_datalog_round g x15.2 a1 u17) ?_; intro _; refine dr_XDSv ?_; refine aSq ?_; refine aSq ?_; rcases z43 with _ | e44
              · replace h := erM_nil h; refine aRg ?_; intro _; refine dr_XDSv ?_; refine aCd ?_; intro _; refine litF ?_; refine aSk ?_; refine aSq ?_; refine aSq ?_; rcases z42 with _ | z45
                · replace h := opM_none h; cases h
                · replace h := opM_some h; refine aRg ?_; intro _; refine dr_XDSv ?_; refine aCd ?_; intro _; refine spl h (fun c18 h => ?_) (fun c18 h => ?_)
                  · refine aSR ?_; intro _; refine dr_XDSv ?_; refine aRt ?_; intro _; obtain ⟨rfl, rfl⟩ := inj2 h; exact ca_XDSv
                  · refine aSk ?_; refine aSq ?_; refine aSR ?_; intro _; refine dr_XDSv ?_; refine aCd ?_; intro _; refine spl h (fun c19 h => ?_) (fun c19 h => ?_)
                    · refine aSR ?_; intro _; refine dr_XDSv ?_; refine aRt ?_; intro _; obtain ⟨rfl, rfl⟩ := inj2 h; exact ca_XDSv
                    · refine aSk ?_; refine aRg ?_; intro _; refine dr_XDSv ?_; refine ⟨(k41, z45), h, ltS m16, ?_⟩; exact ca_XDSv
              · replace h := erM_no h; refine aRg ?_; intro _; refine dr_XDSv ?_; refine aCd ?_; intro _; refine litT ?_; refine aSR ?_; intro _; refine dr_XDSv ?_; refine aRt ?_; intro _; obtain ⟨rfl, rfl⟩ := inj2 h; exact ca_XDSv
end Go.Proofs.YtflgpccacloadaaDoor.Am
/- Plain law: CheckRule and Solve. -/
namespace Go.Proofs.YtflgpccacloadaaDoor.Am
open Go.RowKit
def terms (r : GRule) : List ByteArray := r.Head.Args ++ r.Unequal.flatMap (fun p => [p.1, p.2])
def badT (known : List ByteArray) (s : ByteArray) : Bool := isV s && !decide (s ∈ known)
def longA (a : GAtom) : Bool := decide (6 < a.Args.length)
def namA (a : GAtom) : Bool := decide (a.Name = (⟨#[]⟩ : ByteArray))
def ckR (r : GRule) : Er :=
  if (terms r).any (badT (vars r.Body)) = true then .no 2
  else if 16 < r.Body.length then .no 5
  else if (r.Head :: r.Body).any longA = true then .no 5
  else if (r.Head :: r.Body).any namA = true then .no 8
  else .nil
/-- the size of a rule -/
structure CkOk (r : GRule) : Prop where
  tot : (r.Body.flatMap (·.Args)).length * 16 ≤ 140737488355328
  term : (r.Head.Args.length + r.Unequal.length * 2) * 16 ≤ 140737488355328
  body : (1 + r.Body.length) * 40 ≤ 140737488355328
theorem ck1_eq (known : List ByteArray) (hk : known.length ≤ 4611686018427387904) (s : ByteArray) : M_datalog_CheckRule_1 known s = some (badT known s) := by
  unfold M_datalog_CheckRule_1 badT
  rw [variable_eq, ob1_some, contains_eq known s hk, ob1_some]
  cases isV s <;> rfl
theorem ckTerms (r : GRule) (hn : r.Unequal.length ≤ 4611686018427387904) : ∀ (k i : Nat) (out : List ByteArray), i + k = r.Unequal.length + 1 → i ≤ r.Unequal.length → (out.length + (r.Unequal.length - i) * 2) * 16 ≤ 140737488355328 →
    M_datalog_CheckRule_L1 r k (i : Int) out = some (out ++ (r.Unequal.drop i).flatMap (fun p => [p.1, p.2])) := by
  intro k
  induction k with
  | zero => intro i out h1 h2; omega
  | succ k ih =>
    intro i out h1 h2 h3
    rw [M_datalog_CheckRule_L1]
    by_cases h : i < r.Unequal.length
    · have hy := List.getElem?_eq_getElem h
      rw [show decide ((i : Int) < ((r.Unequal.map cA2_cS).length : Int)) = true by simp; omega]
      show ix r.Unequal (i : Int) _ = _
      rw [ix_at hy, dropC hy, List.flatMap_cons, wrap_eq (by omega) (by omega)]
      refine grd_mk (by omega) ?_
      have := ih (i + 1) (out ++ [r.Unequal[i].1, r.Unequal[i].2]) (by omega) (by omega) (by simp; omega)
      rw [List.append_assoc] at this
      exact this
    · rw [show decide ((i : Int) < ((r.Unequal.map cA2_cS).length : Int)) = false by simp; omega]
      rw [List.drop_of_length_le (by omega)]
      simp [sel]
theorem vars_len (body : List GAtom) : (vars body).length ≤ (body.flatMap (·.Args)).length := by
  have := addV_len (body.flatMap (·.Args)) []
  simpa [vars] using this
theorem check_eq (r : GRule) (h : CkOk r) : M_datalog_CheckRule r = some (ckR r) := by
  obtain ⟨h1, h2, h3⟩ := h
  unfold M_datalog_CheckRule
  have hvl := vars_len r.Body
  rw [variables_eq r.Body (by omega) h1, ob1_some, show M_cloneSo r.Head.Args = some r.Head.Args from grd_mk (by omega) rfl, ob1_some]
  rw [show (((r.Unequal.map cA2_cS).length : Int)).toNat + 1 = r.Unequal.length + 1 by simp]
  have h4 := ckTerms r (by omega) (r.Unequal.length + 1) 0 r.Head.Args (by omega) (Nat.zero_le _) (by rw [Nat.sub_zero]; exact h2)
  rw [List.drop_zero, show ((0 : Nat) : Int) = 0 from rfl] at h4
  rw [h4, ob1_some]
  have htl : (terms r).length = r.Head.Args.length + r.Unequal.length * 2 := by
    unfold terms
    rw [List.length_append]
    have : ∀ l : List (ByteArray × ByteArray), (l.flatMap (fun p => [p.1, p.2])).length = l.length * 2 := by
      intro l
      induction l with
      | nil => rfl
      | cons x q ih => rw [List.flatMap_cons, List.length_append, ih]; simp; omega
    rw [this]
  refine grd_mk (by show (terms r).length ≤ _; omega) ?_
  rw [show M_s_ContainsFunc_string (r.Head.Args ++ r.Unequal.flatMap (fun p => [p.1, p.2])) (M_datalog_CheckRule_1 (vars r.Body)) = some ((terms r).any (badT (vars r.Body))) from cfS_eq (terms r) _ _ (fun x _ => ck1_eq _ (by omega) x) (by omega), ob1_some]
  unfold ckR
  cases hb : (terms r).any (badT (vars r.Body)) with
  | true => rfl
  | false =>
    rw [if_neg (by decide)]
    refine grd_mk h3 ?_
    have hll : ([r.Head] ++ r.Body).length = 1 + r.Body.length := by simp; omega
    have e5 : M_s_ContainsFunc_Atom ([r.Head] ++ r.Body) M_datalog_CheckRule_2 = some ((r.Head :: r.Body).any longA) := cfA_eq ([r.Head] ++ r.Body) _ longA (fun x _ => by
      unfold M_datalog_CheckRule_2 longA
      exact congrArg some (decide_eq_decide.2 (by rw [List.length_map]; omega))) (by omega)
    have e8 : M_s_ContainsFunc_Atom ([r.Head] ++ r.Body) M_datalog_CheckRule_3 = some ((r.Head :: r.Body).any namA) := cfA_eq ([r.Head] ++ r.Body) _ namA (fun x _ => by
      unfold M_datalog_CheckRule_3 namA
      rw [beq_bl]) (by omega)
    rw [e5, e8]
    have hg : ∀ {α : Type} (x : Option α), grd (([r.Head] ++ r.Body).length ≤ 140737488355328) x = x := fun x => grd_mk (by omega) rfl
    rw [hg, hg, sel_dec]
    by_cases h16 : 16 < r.Body.length
    · rw [if_pos h16, if_pos (by rw [List.length_map]; omega)]
      rfl
    · rw [if_neg h16, if_neg (by rw [List.length_map]; omega)]
      cases (r.Head :: r.Body).any longA with
      | true => rfl
      | false =>
        cases (r.Head :: r.Body).any namA <;> rfl
/-- a fact that is none -/
def badF (a : GAtom) : Bool := decide (a.Name = (⟨#[]⟩ : ByteArray)) || a.Args.any isV
theorem slv1_eq (a : GAtom) (h : a.Args.length ≤ 4611686018427387904) : M_datalog_Solve_1 a = some (badF a) := by
  unfold M_datalog_Solve_1 badF
  rw [beq_bl, cfS_eq a.Args _ isV (fun x _ => variable_eq x) h, ob1_some]
  by_cases e : a.Name = (⟨#[]⟩ : ByteArray)
  · rw [decide_eq_true e]; rfl
  · rw [decide_eq_false e]; rfl
/-- the first error of the rules -/
def firstE : List GRule → Er
  | [] => .nil
  | r :: q => match ckR r with
    | .nil => firstE q
    | .no e => .no e
theorem slvL1 (rules : List GRule) (hok : ∀ r ∈ rules, CkOk r) (hn : rules.length ≤ 4611686018427387904) : ∀ (k i : Nat), i + k = rules.length + 1 → i ≤ rules.length →
    M_datalog_Solve_L1 rules k (i : Int) = some (match firstE (rules.drop i) with | .nil => .inl () | .no e => .inr ([], .no e)) := by
  intro k
  induction k with
  | zero => intro i h1 h2; omega
  | succ k ih =>
    intro i h1 h2
    rw [M_datalog_Solve_L1]
    by_cases h : i < rules.length
    · have hy := List.getElem?_eq_getElem h
      rw [show decide ((i : Int) < ((rules.map cGRule).length : Int)) = true by simp; omega]
      show ix rules (i : Int) _ = _
      rw [ix_at hy, check_eq _ (hok _ (List.getElem_mem h)), ob1_some, dropC hy, firstE, wrap_eq (by omega) (by omega)]
      cases hc : ckR rules[i] with
      | nil => exact ih (i + 1) (by omega) (by omega)
      | no e => rfl
    · rw [show decide ((i : Int) < ((rules.map cGRule).length : Int)) = false by simp; omega]
      rw [List.drop_of_length_le (by omega)]
      rfl
end Go.Proofs.YtflgpccacloadaaDoor.Am
/- Models printed by my decompiler, and the proofs that the code computes them. -/
namespace Go.Proofs.YtflgpccacloadaaDoor.Am
set_option maxHeartbeats 16000000
set_option maxRecDepth 100000
open Go.RowKit
structure GProgram where
  Facts : List GAtom
  Rules : List GRule
  deriving DecidableEq
def cGProgram (x : GProgram) : List AV := [.sl 2 (x.Facts.map cGAtom), .sl 4 (x.Rules.map cGRule)]
theorem fr_cGProgram (x : GProgram) : ∀ y ∈ cGProgram x, Fr y := FrC_cons (.sl (frl_cGAtom _)) (FrC_cons (.sl (frl_cGRule _)) (FrC_nil))
theorem frl_cGProgram (l : List GProgram) : FrL (l.map cGProgram) := FrL_map (fun x _ => fr_cGProgram x)
instance {l : List GProgram} : FrI (l.map cGProgram) := ⟨frl_cGProgram l⟩
def cL_cS (x : List ByteArray) : List AV := [.sl 1 (x.map cS)]
theorem fr_cL_cS (x : List ByteArray) : ∀ y ∈ cL_cS x, Fr y := FrC_cons (.sl (frl_cS _)) (FrC_nil)
theorem frl_cL_cS (l : List (List ByteArray)) : FrL (l.map cL_cS) := FrL_map (fun x _ => fr_cL_cS x)
instance {l : List (List ByteArray)} : FrI (l.map cL_cS) := ⟨frl_cL_cS l⟩
theorem zb_XDLb {P : Prop} (h : P := by repeat (first | exact BWL.nil | exact bwll_nil | exact bw_c | exact BW.sl | exact BW.nil | exact bwll_same rfl FrI.h | refine BWL.cons ?_ ?_ | refine bwll_cons ?_ ?_ | (refine bw_own3 rfl rfl rfl FrI.h ?_ ?_ ?_) | exact BW.mpf rfl rfl rfl FrI.h rfl | refine CloK.bw ?_ | exact BW.fr FrV.h | exact BW.fr (by assumption) | refine bw_agg ?_ | refine bw_clo ?_ | refine bw_ptr rfl rfl rfl ?_ | (refine bw_own rfl rfl rfl ?_ FrI.h ?_ ?_) | assumption | omega | rfl | (rw [List.length_map, ← List.length_append]; assumption) | (refine bwll_same ?_ FrI.h; (simp [cS, cGAtom, cGProgram, cGRule, cA2_cS, cL_cS, cF] <;> fail)) | (rw [List.map_set]; refine bwll_set (by first | rfl | omega | simp) ?_ ?_) | refine bwll_set (by first | rfl | omega | simp) ?_ ?_ | (rw [List.map_replicate]; refine bwll_rep ?_) | refine bwll_rep ?_ | (rw [List.map_append]; refine bwll_append ?_ ?_) | refine bwll_append ?_ ?_ | (simp [cS, cGAtom, cGProgram, cGRule, cA2_cS, cL_cS, cF, take_len_map] <;> fail) | (rw [List.drop_zero, List.take_of_length_le] <;> first | rfl | (simp [cS, cGAtom, cGProgram, cGRule, cA2_cS, cL_cS, cF] <;> fail)) | (simp; omega) | (simp only [List.length_map, List.length_append, List.drop_zero, List.length_cons, List.length_nil, Nat.zero_add, Nat.add_zero] at *; omega))) : P := h
theorem ci_XDLb {p K : Prop} (k : K) (h : p := by first | rfl | exact ⟨rfl, rfl⟩ | exact BW.mpf rfl rfl rfl FrI.h rfl | exact cloK3 rfl rfl rfl rfl rfl rfl rfl rfl rfl | exact CloK.bw (BW.fr (by assumption)) | exact BW.fr FrV.h | (refine BW.fr ?_; assumption) | (refine ⟨rfl, ?_⟩; (simp [cS, cGAtom, cGProgram, cGRule, cA2_cS, cL_cS, cF, take_len_map]; done)) | (refine RowK.same ?_ FrI.h; first | rfl | (simp [cS, cGAtom, cGProgram, cGRule, cA2_cS, cL_cS, cF, take_len_map]; done)) | (refine row_part1 ?_; (repeat (first | exact BWL.nil | exact bwll_nil | exact bw_c | exact BW.sl | exact BW.nil | exact bwll_same rfl FrI.h | refine BWL.cons ?_ ?_ | refine bwll_cons ?_ ?_ | (refine bw_own3 rfl rfl rfl FrI.h ?_ ?_ ?_) | exact BW.mpf rfl rfl rfl FrI.h rfl | exact cloK3 rfl rfl rfl rfl rfl rfl rfl rfl rfl | exact CloK.bw (BW.fr (by assumption)) | exact BW.fr FrV.h | exact BW.fr (by assumption) | refine bw_agg ?_ | refine bw_clo ?_ | refine bw_ptr rfl rfl rfl ?_ | (refine bw_own rfl rfl rfl ?_ FrI.h ?_ ?_) | assumption | omega | rfl | (rw [List.length_map, ← List.length_append]; assumption) | (refine bwll_same ?_ FrI.h; (simp [cS, cGAtom, cGProgram, cGRule, cA2_cS, cL_cS, cF] <;> fail)) | (rw [List.map_set]; refine bwll_set (by first | rfl | omega | simp) ?_ ?_) | refine bwll_set (by first | rfl | omega | simp) ?_ ?_ | (rw [List.map_replicate]; refine bwll_rep ?_) | refine bwll_rep ?_ | (rw [List.map_append]; refine bwll_append ?_ ?_) | refine bwll_append ?_ ?_ | (simp [cS, cGAtom, cGProgram, cGRule, cA2_cS, cL_cS, cF, take_len_map] <;> fail) | (rw [List.drop_zero, List.take_of_length_le] <;> first | rfl | (simp [cS, cGAtom, cGProgram, cGRule, cA2_cS, cL_cS, cF] <;> fail)) | (simp; omega) | (simp only [List.length_map, List.length_append, List.drop_zero, List.length_cons, List.length_nil, Nat.zero_add, Nat.add_zero] at *; omega))); done) | ((repeat (first | exact BWL.nil | exact bwll_nil | exact bw_c | exact BW.sl | exact BW.nil | exact bwll_same rfl FrI.h | refine BWL.cons ?_ ?_ | refine bwll_cons ?_ ?_ | (refine bw_own3 rfl rfl rfl FrI.h ?_ ?_ ?_) | exact BW.mpf rfl rfl rfl FrI.h rfl | exact cloK3 rfl rfl rfl rfl rfl rfl rfl rfl rfl | exact CloK.bw (BW.fr (by assumption)) | exact BW.fr FrV.h | exact BW.fr (by assumption) | refine bw_agg ?_ | refine bw_clo ?_ | refine bw_ptr rfl rfl rfl ?_ | (refine bw_own rfl rfl rfl ?_ FrI.h ?_ ?_) | assumption | omega | rfl | (rw [List.length_map, ← List.length_append]; assumption) | (refine bwll_same ?_ FrI.h; (simp [cS, cGAtom, cGProgram, cGRule, cA2_cS, cL_cS, cF] <;> fail)) | (rw [List.map_set]; refine bwll_set (by first | rfl | omega | simp) ?_ ?_) | refine bwll_set (by first | rfl | omega | simp) ?_ ?_ | (rw [List.map_replicate]; refine bwll_rep ?_) | refine bwll_rep ?_ | (rw [List.map_append]; refine bwll_append ?_ ?_) | refine bwll_append ?_ ?_ | (simp [cS, cGAtom, cGProgram, cGRule, cA2_cS, cL_cS, cF, take_len_map] <;> fail) | (rw [List.drop_zero, List.take_of_length_le] <;> first | rfl | (simp [cS, cGAtom, cGProgram, cGRule, cA2_cS, cL_cS, cF] <;> fail)) | (simp; omega) | (simp only [List.length_map, List.length_append, List.drop_zero, List.length_cons, List.length_nil, Nat.zero_add, Nat.add_zero] at *; omega))); done) | (simp [cS, cGAtom, cGProgram, cGRule, cA2_cS, cL_cS, cF, take_len_map]; done)) : p ∧ K := ⟨h, k⟩
theorem ca_XDLb {P : Prop} (h : P := by repeat (first | exact True.intro | refine ci_XDLb ?_)) : P := h
theorem pr_XDLb {p K : Prop} (k : K) (h : p := by first | assumption | exact Int.natCast_nonneg _ | exact Nat.le_refl _ | exact Nat.zero_le _ | omega | (simp; done) | (simp; omega)) : p ∧ K := ⟨h, k⟩
theorem pl_XDLb {p K : Prop} (k : K) (h : p := by first | rfl | exact List.length_map _ | (simp; done) | (simp; omega)) : p ∧ K := ⟨h, k⟩
theorem pe_XDLb {p K : Prop} (k : K) (h : p := by first | omega | (simp; omega) | (simp only [List.length_map, List.length_cons, List.length_nil, List.length_append]; omega) | (simp only [List.length_map, List.drop_zero, List.length_cons, List.length_nil, Nat.zero_add, Nat.add_zero] at *; omega)) : p ∧ K := ⟨h, k⟩
theorem dr_XDLb {b : Bool} {p K : Prop} (k : K) (h : b = true → p := by intro h; first | (cases h; done) | exact ⟨by kernel_rfl, by kernel_rfl⟩) : (b = true → p) ∧ K := ⟨h, k⟩
theorem cl_XDLb {C : Cx} {n : Nat} {o : Oper} {τ : Nat → AV} {η : Nat → Ent} {f : FuncId} {os : Array Operand} {ats : Array TypeId} {r : AV} {args : List AV} {K : Foot → Prop} (ho : o.op = .call ⟨.value (.func f), os, ats⟩) (hc : ACall C f args r) (k : K ⟨r, [], []⟩)
    (hd : InB n o.dst := by exact Nat.le_of_ble_eq_true rfl) (hargs : os.toList.map (evA τ) = args := by first | rfl | (simp [cS, cGAtom, cGProgram, cGRule, cA2_cS, cL_cS, cF]; done) | (repeat (first | exact rfl | refine cons_eq ?_ ?_ | exact sl_dt rfl))) (hfr : frs args := by repeat (first | exact trivial | exact fr1_eA _ | exact fr0_eA _ | exact fr1_fr (by assumption) | exact FrV.h | exact fr0_fr FrV.h | exact fr1_fr FrV.h | refine And.intro ?_ ?_)) (hr : fr1 r := by repeat (first | exact trivial | exact fr1_eA _ | exact fr0_eA _ | exact fr1_fr (by assumption) | exact FrV.h | exact fr0_fr FrV.h | exact fr1_fr FrV.h | refine And.intro ?_ ?_)) : ∃ f : Foot, LF C n o τ η f ∧ K f := ⟨_, lf_call ho hd hargs hc hfr hr, k⟩
theorem clb_XDLb {C : Cx} {n : Nat} {o : Oper} {τ : Nat → AV} {η : Nat → Ent} {f : FuncId} {os : Array Operand} {ats : Array TypeId} {r : AV} {xs ys : List AV} {K : Foot → Prop} (bs : List Nat) (ho : o.op = .call ⟨.value (.func f), os, ats⟩) (hargs : os.toList.map (evA τ) = xs) (hc : ACall C f ys r) (k : K ⟨r, [], bs⟩)
    (hd : InB n o.dst := by exact Nat.le_of_ble_eq_true rfl) (hb : BWL η (dropB η bs) xs ys := by exact zb_XDLb) (hr : scal r := by repeat (first | exact trivial | exact scal0_eA _ | exact scal_eA _ | refine And.intro ?_ ?_)) : ∃ f : Foot, LF C n o τ η f ∧ K f := ⟨_, lf_callB bs ho hd hargs hb hc hr, k⟩
theorem clf_XDLb {C : Cx} {n : Nat} {o : Oper} {τ : Nat → AV} {η : Nat → Ent} {f : FuncId} {os : Array Operand} {ats : Array TypeId} {r : AV} {xs ys : List AV} {K : Foot → Prop} (us : List (Nat × Ent)) (ho : o.op = .call ⟨.value (.func f), os, ats⟩) (hargs : os.toList.map (evA τ) = xs) (hc : ACall C f ys r) (k : K ⟨r, us, []⟩)
    (hus : allUs η us := by repeat (first | exact trivial | refine And.intro rfl ?_)) (hul : ltUs n us := by repeat (first | exact trivial | refine And.intro (Nat.le_of_ble_eq_true rfl) ?_)) (hd : InB n o.dst := by exact Nat.le_of_ble_eq_true rfl) (hb : BWL η (dropB η (us.map (·.1))) xs ys := by exact zb_XDLb) (hr : fr1 r := by repeat (first | exact trivial | exact fr1_eA _ | exact fr0_eA _ | exact fr1_fr (by assumption) | exact FrV.h | exact fr0_fr FrV.h | exact fr1_fr FrV.h | refine And.intro ?_ ?_)) : ∃ f : Foot, LF C n o τ η f ∧ K f := ⟨_, lf_callF us (allUs_at hus) (ltUs_at hul) ho hd hargs hb hc hr, k⟩
def M_l16_atom (a0 : ByteArray) (a1 : List ByteArray) : Option (GAtom) :=
  some ({ Name := a0, Args := a1 : GAtom })
theorem A_l16_atom (a0 : ByteArray) (a1 : List ByteArray) {r1 : GAtom} (h : M_l16_atom a0 a1 = some r1) : ACall cx 25 [.c (.string a0), .sl 1 (a1.map cS)] (.agg [.c (.string r1.Name), .sl 1 (r1.Args.map cS)]) := by
  refine aOf Tryd.func25 rfl (by decide) rfl (Nat.le_of_ble_eq_true rfl) ?_; intro _; unfold M_l16_atom at h; refine aSR ?_; intro _; refine dr_XDLb ?_; refine aSR ?_; intro _; refine dr_XDLb ?_; refine aRt ?_; intro _; obtain rfl := inj1 h; exact ca_XDLb
def M_b_Texts_L1 (a0 : List ByteArray) (a1 : List ByteArray) : Nat → Int → Option (Bool)
  | 0, _ => none
  | k7 + 1, v6 =>
    sel (decide (v6 < ((a0.map cS).length : Int)))
     (ix a0 v6 (fun y8 =>
       ix a1 v6 (fun y9 =>
        sel (!(y8.toList == y9.toList))
         (some false)
         (M_b_Texts_L1 a0 a1 k7 (IntKind.i64.wrap (v6 + 1))))))
     (some true)
def M_b_Texts (a0 : List ByteArray) (a1 : List ByteArray) : Option (Bool) :=
  sel (((a0.map cS).length : Int) != ((a1.map cS).length : Int))
   (some false)
   (M_b_Texts_L1 a0 a1 ((((a0.map cS).length : Int)).toNat + 1) 0)
theorem A_b_Texts (a0 : List ByteArray) (a1 : List ByteArray) {r1 : Bool} (h : M_b_Texts a0 a1 = some r1) : ACall cx 32 [.sl 1 (a0.map cS), .sl 1 (a1.map cS)] (.c (.bool r1)) := by
  refine aOf Tryd.func32 rfl (by decide) rfl (Nat.le_of_ble_eq_true rfl) ?_; intro _; unfold M_b_Texts at h; refine aSR ?_; intro _; refine dr_XDLb ?_; refine aSq ?_; refine aSR ?_; intro _; refine dr_XDLb ?_; refine aCd ?_; intro _; refine spl h (fun c1 h => ?_) (fun c1 h => ?_)
  · refine aSR ?_; intro _; refine dr_XDLb ?_; refine aRt ?_; intro _; obtain rfl := inj1 h; exact ca_XDLb
  · refine aSk ?_; refine aSq ?_; refine aSR ?_; intro _; refine dr_XDLb ?_; refine aBk ?_; refine awp_loop (α := Nat × Int) (fun x => mkS 26 [(0, .sl 1 (a0.map cS)), (1, .sl 1 (a1.map cS)), (12, .c (.int .i64 ((a0.map cS).length : Int))), (13, .c (.int .i64 x.2))] []) (fun x => M_b_Texts_L1 a0 a1 x.1 x.2 = some r1) (fun x => x.1) ((((a0.map cS).length : Int)).toNat + 1, 0) h ?_ ?_
    · exact ca_XDLb
    · intro x2 h; intro _; obtain ⟨k7, m3, h⟩ := succ_of (f := fun n => M_b_Texts_L1 a0 a1 n x2.2) rfl h; replace h : M_b_Texts_L1 a0 a1 (k7 + 1) x2.2 = some r1 := h; rw [M_b_Texts_L1] at h; refine aSR ?_; intro _; refine dr_XDLb ?_; refine aSq ?_; refine aCd ?_; intro _; refine spl h (fun c4 h => ?_) (fun c4 h => ?_)
      · refine aSk ?_; refine aSq ?_; refine aBk ?_; refine aSR ?_; intro _; refine dr_XDLb ?_; refine aSR ?_; intro _; obtain ⟨y8, w5, q6, h⟩ := ix_ok h; refine Exists.intro (cS y8) (And.intro (map_at' w5) ?_); intro _; obtain ⟨y9, w7, q8, h⟩ := ix_ok h; refine Exists.intro (cS y9) (And.intro (map_at' w7) ?_); intro _; refine pr_XDLb ?_; refine pr_XDLb ?_; refine dr_XDLb ?_; refine aCd ?_; intro _; refine spl h (fun c9 h => ?_) (fun c9 h => ?_)
        · refine aSR ?_; intro _; refine dr_XDLb ?_; refine aRt ?_; intro _; obtain rfl := inj1 h; exact ca_XDLb
        · refine aSk ?_; refine aRg ?_; intro _; refine dr_XDLb ?_; refine ⟨(k7, (IntKind.i64.wrap (x2.2 + 1))), h, ltS m3, ?_⟩; exact ca_XDLb
      · refine aEx ?_; refine aSR ?_; intro _; refine dr_XDLb ?_; refine aRt ?_; intro _; obtain rfl := inj1 h; exact ca_XDLb
def M_l16_awake (g : Nat) : Option (Bool) :=
  ob1 (M_l16_atom (⟨#[101]⟩ : ByteArray) [(⟨#[97]⟩ : ByteArray), (⟨#[98]⟩ : ByteArray)]) (fun z1 =>
   ob1 (M_l16_atom (⟨#[101]⟩ : ByteArray) [(⟨#[98]⟩ : ByteArray), (⟨#[99]⟩ : ByteArray)]) (fun z2 =>
    ob1 (M_l16_atom (⟨#[114]⟩ : ByteArray) [(⟨#[63, 120]⟩ : ByteArray), (⟨#[63, 122]⟩ : ByteArray)]) (fun z3 =>
     ob1 (M_l16_atom (⟨#[101]⟩ : ByteArray) [(⟨#[63, 120]⟩ : ByteArray), (⟨#[63, 121]⟩ : ByteArray)]) (fun z4 =>
      ob1 (M_l16_atom (⟨#[101]⟩ : ByteArray) [(⟨#[63, 121]⟩ : ByteArray), (⟨#[63, 122]⟩ : ByteArray)]) (fun z5 =>
       ob2 (M_datalog_Solve g [z1, z2] [{ Head := z3, Body := [z4, z5], Unequal := [] : GRule }]) (fun z6 z7 =>
        erM z7
         (sel (((z6.map cGAtom).length : Int) == 3)
           (ix z6 2 (fun y9 =>
             sel (y9.Name.toList == (⟨#[114]⟩ : ByteArray).toList)
              (ix z6 2 (fun y10 =>
                ob1 (M_b_Texts y10.Args [(⟨#[97]⟩ : ByteArray), (⟨#[99]⟩ : ByteArray)]) (fun z11 =>
                 some z11)))
              (some false)))
           (some false))
         (fun _ => some false)))))))
theorem A_l16_awake (g : Nat) {r1 : Bool} (h : M_l16_awake g = some r1) : ACall cx 11 [] (.c (.bool r1)) := by
  refine aOf Tryd.func11 rfl (by decide) rfl (Nat.le_of_ble_eq_true rfl) ?_; intro _; unfold M_l16_awake at h; refine aSR ?_; intro _; refine dr_XDLb ?_; refine aSR ?_; intro _; obtain ⟨z1, u1, h⟩ := ob1_ok h; refine clf_XDLb [(4, ⟨2, none⟩)] rfl rfl (A_l16_atom (⟨#[101]⟩ : ByteArray) [(⟨#[97]⟩ : ByteArray), (⟨#[98]⟩ : ByteArray)] u1) ?_; intro _; obtain ⟨z2, u2, h⟩ := ob1_ok h; refine clf_XDLb [(6, ⟨2, none⟩)] rfl rfl (A_l16_atom (⟨#[101]⟩ : ByteArray) [(⟨#[98]⟩ : ByteArray), (⟨#[99]⟩ : ByteArray)] u2) ?_; intro _; obtain ⟨z3, u3, h⟩ := ob1_ok h; refine clf_XDLb [(9, ⟨2, none⟩)] rfl rfl (A_l16_atom (⟨#[114]⟩ : ByteArray) [(⟨#[63, 120]⟩ : ByteArray), (⟨#[63, 122]⟩ : ByteArray)] u3) ?_; intro _; obtain ⟨z4, u4, h⟩ := ob1_ok h; refine clf_XDLb [(11, ⟨2, none⟩)] rfl rfl (A_l16_atom (⟨#[101]⟩ : ByteArray) [(⟨#[63, 120]⟩ : ByteArray), (⟨#[63, 121]⟩ : ByteArray)] u4) ?_; intro _; obtain ⟨z5, u5, h⟩ := ob1_ok h; refine clf_XDLb [(13, ⟨2, none⟩)] rfl rfl (A_l16_atom (⟨#[101]⟩ : ByteArray) [(⟨#[63, 121]⟩ : ByteArray), (⟨#[63, 122]⟩ : ByteArray)] u5) ?_; intro _; obtain ⟨z6, z7, u6, h⟩ := ob2_ok h; refine clf_XDLb [(8, ⟨2, none⟩), (15, ⟨2, none⟩), (17, ⟨2, none⟩)] rfl rfl (A_datalog_Solve g [z1, z2] [{ Head := z3, Body := [z4, z5], Unequal := [] : GRule }] u6) ?_; intro _; refine dr_XDLb ?_; refine aSq ?_; rcases z7 with _ | e8
  · replace h := erM_nil h; refine aRg ?_; intro _; refine litT ?_; intro _; refine spl h (fun c7 h => ?_) (fun c7 h => ?_)
    · intro _; obtain ⟨y9, w8, q9, h⟩ := ix_ok h; refine Exists.intro (cGAtom y9) (And.intro (map_at' w8) ?_); intro _; refine spl h (fun c10 h => ?_) (fun c10 h => ?_)
      · intro _; obtain ⟨y10, w11, q12, h⟩ := ix_ok h; refine Exists.intro (cGAtom y10) (And.intro (map_at' w11) ?_); intro _; obtain ⟨z11, u13, h⟩ := ob1_ok h; refine clb_XDLb [40] rfl rfl (A_b_Texts y10.Args [(⟨#[97]⟩ : ByteArray), (⟨#[99]⟩ : ByteArray)] u13) ?_; intro _; refine pr_XDLb ?_; refine pr_XDLb ?_; refine dr_XDLb ?_; refine aRt ?_; intro _; obtain rfl := inj1 h; exact ca_XDLb
      · intro _; refine pr_XDLb ?_; refine dr_XDLb ?_; refine aRt ?_; intro _; obtain rfl := inj1 h; exact ca_XDLb
    · intro _; refine dr_XDLb ?_; refine aRt ?_; intro _; obtain rfl := inj1 h; exact ca_XDLb
  · replace h := erM_no h; refine aRg ?_; intro _; refine litF ?_; intro _; refine dr_XDLb ?_; refine aRt ?_; intro _; obtain rfl := inj1 h; exact ca_XDLb
def M_l16_many_L1 (a0 : List GAtom) : Nat → Int → Option (Bool)
  | 0, _ => none
  | k7 + 1, v6 =>
    sel (decide (v6 < ((a0.map cGAtom).length : Int)))
     (ix a0 v6 (fun y8 =>
       sel (decide (((y8.Args.map cS).length : Int) > 8))
        (some true)
        (ix a0 v6 (fun y9 =>
          sel (decide ((y9.Name.size : Int) > 100))
           (some true)
           (M_l16_many_L1 a0 k7 (IntKind.i64.wrap (v6 + 1)))))))
     (some false)
def M_l16_many (g : Nat) (a0 : List GAtom) : Option (Bool) :=
  M_l16_many_L1 a0 g 0
theorem A_l16_many (g : Nat) (a0 : List GAtom) {r1 : Bool} (h : M_l16_many g a0 = some r1) : ACall cx 44 [.sl 2 (a0.map cGAtom)] (.c (.bool r1)) := by
  refine aOf Tryd.func44 rfl (by decide) rfl (Nat.le_of_ble_eq_true rfl) ?_; intro _; unfold M_l16_many at h; refine aSR ?_; intro _; refine dr_XDLb ?_; refine aSq ?_; refine aSR ?_; intro _; refine dr_XDLb ?_; refine aBk ?_; refine awp_loop (α := Nat × Int) (fun x => mkS 26 [(0, .sl 2 (a0.map cGAtom)), (3, .c (.int .i64 x.2))] []) (fun x => M_l16_many_L1 a0 x.1 x.2 = some r1) (fun x => x.1) (g, 0) h ?_ ?_
  · exact ca_XDLb
  · intro x1 h; intro _; obtain ⟨k7, m2, h⟩ := succ_of (f := fun n => M_l16_many_L1 a0 n x1.2) rfl h; replace h : M_l16_many_L1 a0 (k7 + 1) x1.2 = some r1 := h; rw [M_l16_many_L1] at h; refine aSq ?_; refine aSR ?_; intro _; refine dr_XDLb ?_; refine aCd ?_; intro _; refine spl h (fun c3 h => ?_) (fun c3 h => ?_)
    · refine aSk ?_; refine aSq ?_; refine aBk ?_; refine aSR ?_; intro _; obtain ⟨y8, w4, q5, h⟩ := ix_ok h; refine Exists.intro (cGAtom y8) (And.intro (map_at' w4) ?_); intro _; refine spf h (fun c6 h => ?_) (fun c6 h => ?_)
      · intro _; obtain ⟨y9, w7, q8, h⟩ := ix_ok h; refine Exists.intro (cGAtom y9) (And.intro (map_at' w7) ?_); intro _; refine pr_XDLb ?_; refine pr_XDLb ?_; refine dr_XDLb ?_; refine aCd ?_; intro _; refine spl h (fun c9 h => ?_) (fun c9 h => ?_)
        · refine aSR ?_; intro _; refine dr_XDLb ?_; refine aRt ?_; intro _; obtain rfl := inj1 h; exact ca_XDLb
        · refine aSk ?_; refine aRg ?_; intro _; refine dr_XDLb ?_; refine ⟨(k7, (IntKind.i64.wrap (x1.2 + 1))), h, ltS m2, ?_⟩; exact ca_XDLb
      · intro _; refine pr_XDLb ?_; refine dr_XDLb ?_; refine aCd ?_; intro _; refine litT ?_; refine aSR ?_; intro _; refine dr_XDLb ?_; refine aRt ?_; intro _; obtain rfl := inj1 h; exact ca_XDLb
    · refine aEx ?_; refine aSR ?_; intro _; refine dr_XDLb ?_; refine aRt ?_; intro _; obtain rfl := inj1 h; exact ca_XDLb
def M_r16_Variable (a0 : ByteArray) : Option (Bool) :=
  sel (decide ((a0.size : Int) > 0))
   (grd (0 < (a0.size : Int)) (some ((byt a0 0) == 63)))
   (some false)
theorem A_r16_Variable (a0 : ByteArray) {r1 : Bool} (h : M_r16_Variable a0 = some r1) : ACall cx 59 [.c (.string a0)] (.c (.bool r1)) := by
  refine aOf Tryd.func59 rfl (by decide) rfl (Nat.le_of_ble_eq_true rfl) ?_; intro _; unfold M_r16_Variable at h; refine aSR ?_; intro _; refine dr_XDLb ?_; refine aSR ?_; intro _; refine spl h (fun c1 h => ?_) (fun c1 h => ?_)
  · intro _; obtain ⟨q2, h⟩ := grd_ok h; refine pr_XDLb ?_; refine pr_XDLb ?_; refine dr_XDLb ?_; refine aRt ?_; intro _; obtain rfl := inj1 h; exact ca_XDLb
  · intro _; refine dr_XDLb ?_; refine aRt ?_; intro _; obtain rfl := inj1 h; exact ca_XDLb
def M_l16_constants_L1 (v745 : List ByteArray) : Nat → ByteArray → Int → Option (ByteArray)
  | 0, _, _ => none
  | k789 + 1, v787, v788 =>
    sel (decide (v788 < ((v745.length : Nat) : Int)))
     (ixn v745 ((v788).toNat) (fun y790 =>
       grd (0 ≤ v788) (grd (v788 < ((v745.length : Nat) : Int)) (sel (y790.toList == v787.toList)
        (M_l16_constants_L1 v745 k789 (⟨#[63]⟩ : ByteArray) (IntKind.i64.wrap (v788 + 1)))
        (M_l16_constants_L1 v745 k789 v787 (IntKind.i64.wrap (v788 + 1)))))))
     (some v787)
def M_l16_constants_L2 (a0 : List GAtom) (g : Nat) (v507 : Int) : Nat → Int → (List ByteArray) → Option (List ByteArray)
  | 0, _, _ => none
  | k746 + 1, v744, v745 =>
    ix a0 v507 (fun y747 =>
     sel (decide (v744 < ((y747.Args.map cS).length : Int)))
      (ob1 (ix a0 v507 (fun y771 =>
         ix y771.Args v744 (fun y772 =>
          ob1 (M_l16_constants_L1 v745 g y772 0 : Option (ByteArray))
           (fun v781 => ob1 (M_r16_Variable v781) (fun z791 =>
              sel (!z791)
               (grd ((v745.length + 1) * 16 ≤ 140737488355328) (some (v745 ++ [v781])))
               (some v745))))) : Option (List ByteArray))
        (fun v769 => M_l16_constants_L2 a0 g v507 k746 (IntKind.i64.wrap (v744 + 1)) v769))
      (some v745))
def M_l16_constants_L3 (a0 : List GAtom) (g : Nat) : Nat → Int → (List ByteArray) → Option (Int)
  | 0, _, _ => none
  | k509 + 1, v507, v508 =>
    sel (decide (v507 < ((a0.map cGAtom).length : Int)))
     (ob1 (M_l16_constants_L2 a0 g v507 g 0 v508 : Option (List ByteArray))
       (fun v650 => M_l16_constants_L3 a0 g k509 (IntKind.i64.wrap (v507 + 1)) v650))
     (some ((v508.length : Nat) : Int))
def M_l16_constants (g : Nat) (a0 : List GAtom) : Option (Int) :=
  M_l16_constants_L3 a0 g g 0 []
theorem A_l16_constants (g : Nat) (a0 : List GAtom) {r1 : Int} (h : M_l16_constants g a0 = some r1) : ACall cx 45 [.sl 2 (a0.map cGAtom)] (.c (.int .i64 r1)) := by
  refine aOf Tryd.func45 rfl (by decide) rfl (Nat.le_of_ble_eq_true rfl) ?_; intro _; unfold M_l16_constants at h; refine aSR ?_; intro _; refine dr_XDLb ?_; refine aSR ?_; intro _; refine dr_XDLb ?_; refine aSq ?_; refine aSR ?_; intro _; refine dr_XDLb ?_; refine aBk ?_; refine awp_loop (α := Nat × Int × (List ByteArray)) (fun x => mkS 53 [(0, .sl 2 (a0.map cGAtom)), (3, .own 50 0 0 x.2.2.length), (4, .c (.int .i64 x.2.1))] [(50, ⟨9, 1, false, x.2.2.map cS⟩)]) (fun x => M_l16_constants_L3 a0 g x.1 x.2.1 x.2.2 = some r1) (fun x => x.1) (g, 0, []) h ?_ ?_
  · exact ca_XDLb
  · intro x1 h; intro _; obtain ⟨k509, m2, h⟩ := succ_of (f := fun n => M_l16_constants_L3 a0 g n x1.2.1 x1.2.2) rfl h; replace h : M_l16_constants_L3 a0 g (k509 + 1) x1.2.1 x1.2.2 = some r1 := h; rw [M_l16_constants_L3] at h; refine aSq ?_; refine aSR ?_; intro _; refine dr_XDLb ?_; refine aCd ?_; intro _; refine spl h (fun c3 h => ?_) (fun c3 h => ?_)
    · refine aSk ?_; obtain ⟨o4, h, hK5⟩ := ob1_ok h; refine awp_cut (α := List ByteArray) (fun v650 => mkS 53 [(0, .sl 2 (a0.map cGAtom)), (3, .own 50 0 0 v650.length), (4, .c (.int .i64 x1.2.1))] [(50, ⟨9, 1, false, v650.map cS⟩)]) (fun v => o4 = v) ?_ ?_
      · refine aBk ?_; refine aSR ?_; intro _; refine dr_XDLb ?_; refine aBk ?_; refine awp_loop (α := Nat × Int × (List ByteArray)) (fun x => mkS 53 [(0, .sl 2 (a0.map cGAtom)), (3, .own 50 0 0 x.2.2.length), (4, .c (.int .i64 x1.2.1)), (5, .c (.int .i64 x.2.1))] [(50, ⟨9, 1, false, x.2.2.map cS⟩)]) (fun x => M_l16_constants_L2 a0 g x1.2.1 x.1 x.2.1 x.2.2 = some o4) (fun x => x.1) (g, 0, x1.2.2) h ?_ ?_
        · exact ca_XDLb
        · intro x6 h; intro _; obtain ⟨k746, m7, h⟩ := succ_of (f := fun n => M_l16_constants_L2 a0 g x1.2.1 n x6.2.1 x6.2.2) rfl h; replace h : M_l16_constants_L2 a0 g x1.2.1 (k746 + 1) x6.2.1 x6.2.2 = some o4 := h; rw [M_l16_constants_L2] at h; refine aSq ?_; refine aSR ?_; intro _; obtain ⟨y747, w8, q9, h⟩ := ix_ok h; refine Exists.intro (cGAtom y747) (And.intro (map_at' w8) ?_); intro _; refine pr_XDLb ?_; refine dr_XDLb ?_; refine aCd ?_; intro _; refine spl h (fun c10 h => ?_) (fun c10 h => ?_)
          · refine aSk ?_; obtain ⟨o11, h, hK12⟩ := ob1_ok h; refine awp_cut (α := List ByteArray) (fun v769 => mkS 53 [(0, .sl 2 (a0.map cGAtom)), (3, .own 50 0 0 v769.length), (4, .c (.int .i64 x1.2.1)), (5, .c (.int .i64 x6.2.1))] [(50, ⟨9, 1, false, v769.map cS⟩)]) (fun v => o11 = v) ?_ ?_
            · refine aBk ?_; refine aSR ?_; intro _; obtain ⟨y771, w13, q14, h⟩ := ix_ok h; refine Exists.intro (cGAtom y771) (And.intro (map_at' w13) ?_); intro _; obtain ⟨y772, w15, q16, h⟩ := ix_ok h; refine Exists.intro (cS y772) (And.intro (map_at' w15) ?_); intro _; refine pr_XDLb ?_; refine pr_XDLb ?_; refine dr_XDLb ?_; obtain ⟨o17, h, hK18⟩ := ob1_ok h; refine awp_cut (α := ByteArray) (fun v781 => mkS 53 [(0, .sl 2 (a0.map cGAtom)), (3, .own 50 0 0 x6.2.2.length), (4, .c (.int .i64 x1.2.1)), (5, .c (.int .i64 x6.2.1)), (6, .c (.string v781))] [(50, ⟨9, 1, false, x6.2.2.map cS⟩)]) (fun v => o17 = v) ?_ ?_
              · refine aSR ?_; intro _; refine dr_XDLb ?_; refine aBk ?_; refine awp_loop (α := Nat × ByteArray × Int) (fun x => mkS 53 [(0, .sl 2 (a0.map cGAtom)), (3, .own 50 0 0 x6.2.2.length), (4, .c (.int .i64 x1.2.1)), (5, .c (.int .i64 x6.2.1)), (6, .c (.string x.2.1)), (7, .c (.int .i64 x.2.2))] [(50, ⟨9, 1, false, x6.2.2.map cS⟩)]) (fun x => M_l16_constants_L1 x6.2.2 x.1 x.2.1 x.2.2 = some o17) (fun x => x.1) (g, y772, 0) h ?_ ?_
                · exact ca_XDLb
                · intro x19 h; intro _; obtain ⟨k789, m20, h⟩ := succ_of (f := fun n => M_l16_constants_L1 x6.2.2 n x19.2.1 x19.2.2) rfl h; replace h : M_l16_constants_L1 x6.2.2 (k789 + 1) x19.2.1 x19.2.2 = some o17 := h; rw [M_l16_constants_L1] at h; refine aSq ?_; refine aSR ?_; intro _; refine dr_XDLb ?_; refine aCd ?_; intro _; refine spl h (fun c21 h => ?_) (fun c21 h => ?_)
                  · refine aSk ?_; refine aSq ?_; refine aBk ?_; refine aSR ?_; intro _; obtain ⟨y790, w22, h⟩ := ixn_ok h; refine Exists.intro (cS y790) (And.intro (by first | exact map_at' w22 | (have w := map_at' (f := cS) w22; simpa [cS, Value.cells] using w)) ?_); intro _; obtain ⟨q23, h⟩ := grd_ok h; obtain ⟨q24, h⟩ := grd_ok h; refine pr_XDLb ?_; refine pr_XDLb ?_; refine dr_XDLb ?_; refine aCd ?_; intro _; refine spl h (fun c25 h => ?_) (fun c25 h => ?_)
                    · refine aRg ?_; intro _; refine dr_XDLb ?_; refine aRg ?_; intro _; refine dr_XDLb ?_; refine ⟨(k789, (⟨#[63]⟩ : ByteArray), (IntKind.i64.wrap (x19.2.2 + 1))), h, ltS m20, ?_⟩; exact ca_XDLb
                    · refine aSk ?_; refine aRg ?_; intro _; refine dr_XDLb ?_; refine ⟨(k789, x19.2.1, (IntKind.i64.wrap (x19.2.2 + 1))), h, ltS m20, ?_⟩; exact ca_XDLb
                  · refine aEx ?_; refine ⟨x19.2.1, (Option.some.inj h).symm, ?_⟩; exact ca_XDLb
              · rintro v781 ho; have ho := ho.symm; subst ho; intro _; replace h := hK18; refine aSR ?_; intro _; obtain ⟨z791, u26, h⟩ := ob1_ok h; refine cl_XDLb rfl (A_r16_Variable v781 u26) ?_; intro _; refine dr_XDLb ?_; refine aCd ?_; intro _; refine spl h (fun c27 h => ?_) (fun c27 h => ?_)
                · refine aRg ?_; intro _; obtain ⟨q28, h⟩ := grd_ok h; refine pl_XDLb ?_; refine pl_XDLb ?_; refine And.intro (by first | with_reducible assumption | (show (x6.2.2.length + 1) * 16 ≤ 140737488355328; with_reducible assumption) | omega | (simp; omega)) ?_; refine pe_XDLb ?_; refine dr_XDLb ?_; refine ⟨(x6.2.2 ++ [v781]), (Option.some.inj h).symm, ?_⟩; exact ca_XDLb
                · refine aSk ?_; refine ⟨x6.2.2, (Option.some.inj h).symm, ?_⟩; exact ca_XDLb
            · rintro v769 ho; have ho := ho.symm; subst ho; intro _; replace h := hK12; refine aRg ?_; intro _; refine dr_XDLb ?_; refine ⟨(k746, (IntKind.i64.wrap (x6.2.1 + 1)), v769), h, ltS m7, ?_⟩; exact ca_XDLb
          · refine aEx ?_; refine ⟨x6.2.2, (Option.some.inj h).symm, ?_⟩; exact ca_XDLb
      · rintro v650 ho; have ho := ho.symm; subst ho; intro _; replace h := hK5; refine aRg ?_; intro _; refine dr_XDLb ?_; refine ⟨(k509, (IntKind.i64.wrap (x1.2.1 + 1)), v650), h, ltS m2, ?_⟩; exact ca_XDLb
    · refine aEx ?_; refine aSR ?_; intro _; refine dr_XDLb ?_; refine aRt ?_; intro _; obtain rfl := inj1 h; exact ca_XDLb
def M_r16_has_L1 (a0 : List ByteArray) (a1 : ByteArray) : Nat → Int → Option (Bool)
  | 0, _ => none
  | k5 + 1, v4 =>
    sel (decide (v4 < ((a0.map cS).length : Int)))
     (ix a0 v4 (fun y6 =>
       sel (y6.toList == a1.toList)
        (some true)
        (M_r16_has_L1 a0 a1 k5 (IntKind.i64.wrap (v4 + 1)))))
     (some false)
def M_r16_has (g : Nat) (a0 : List ByteArray) (a1 : ByteArray) : Option (Bool) :=
  M_r16_has_L1 a0 a1 g 0
theorem A_r16_has (g : Nat) (a0 : List ByteArray) (a1 : ByteArray) {r1 : Bool} (h : M_r16_has g a0 a1 = some r1) : ACall cx 54 [.sl 1 (a0.map cS), .c (.string a1)] (.c (.bool r1)) := by
  refine aOf Tryd.func54 rfl (by decide) rfl (Nat.le_of_ble_eq_true rfl) ?_; intro _; unfold M_r16_has at h; refine aSR ?_; intro _; refine dr_XDLb ?_; refine aSq ?_; refine aSR ?_; intro _; refine dr_XDLb ?_; refine aBk ?_; refine awp_loop (α := Nat × Int) (fun x => mkS 18 [(0, .sl 1 (a0.map cS)), (1, .c (.string a1)), (5, .c (.int .i64 x.2))] []) (fun x => M_r16_has_L1 a0 a1 x.1 x.2 = some r1) (fun x => x.1) (g, 0) h ?_ ?_
  · exact ca_XDLb
  · intro x1 h; intro _; obtain ⟨k5, m2, h⟩ := succ_of (f := fun n => M_r16_has_L1 a0 a1 n x1.2) rfl h; replace h : M_r16_has_L1 a0 a1 (k5 + 1) x1.2 = some r1 := h; rw [M_r16_has_L1] at h; refine aSq ?_; refine aSR ?_; intro _; refine dr_XDLb ?_; refine aCd ?_; intro _; refine spl h (fun c3 h => ?_) (fun c3 h => ?_)
    · refine aSk ?_; refine aSq ?_; refine aBk ?_; refine aSR ?_; intro _; obtain ⟨y6, w4, q5, h⟩ := ix_ok h; refine Exists.intro (cS y6) (And.intro (map_at' w4) ?_); intro _; refine pr_XDLb ?_; refine dr_XDLb ?_; refine aCd ?_; intro _; refine spl h (fun c6 h => ?_) (fun c6 h => ?_)
      · refine aSR ?_; intro _; refine dr_XDLb ?_; refine aRt ?_; intro _; obtain rfl := inj1 h; exact ca_XDLb
      · refine aSk ?_; refine aRg ?_; intro _; refine dr_XDLb ?_; refine ⟨(k5, (IntKind.i64.wrap (x1.2 + 1))), h, ltS m2, ?_⟩; exact ca_XDLb
    · refine aEx ?_; refine aSR ?_; intro _; refine dr_XDLb ?_; refine aRt ?_; intro _; obtain rfl := inj1 h; exact ca_XDLb
def M_r16_Variables_L1 (a0 : List GAtom) (g : Nat) (v87 : Int) : Nat → Int → (List ByteArray) → Option (List ByteArray)
  | 0, _, _ => none
  | k126 + 1, v124, v125 =>
    ix a0 v87 (fun y127 =>
     sel (decide (v124 < ((y127.Args.map cS).length : Int)))
      (ix a0 v87 (fun y128 =>
        ix y128.Args v124 (fun y129 =>
         ob1 (M_r16_Variable y129) (fun z130 =>
          sel z130
           (grd (v125.length ≤ 140737488355328) (ob1 (M_r16_has g v125 y129) (fun z131 =>
             sel (!z131)
              (grd ((v125.length + 1) * 16 ≤ 140737488355328) (M_r16_Variables_L1 a0 g v87 k126 (IntKind.i64.wrap (v124 + 1)) (v125 ++ [y129])))
              (M_r16_Variables_L1 a0 g v87 k126 (IntKind.i64.wrap (v124 + 1)) v125))))
           (M_r16_Variables_L1 a0 g v87 k126 (IntKind.i64.wrap (v124 + 1)) v125)))))
      (some v125))
def M_r16_Variables_L2 (a0 : List GAtom) (g : Nat) : Nat → Int → (List ByteArray) → Option (List ByteArray)
  | 0, _, _ => none
  | k89 + 1, v87, v88 =>
    sel (decide (v87 < ((a0.map cGAtom).length : Int)))
     (ob1 (M_r16_Variables_L1 a0 g v87 g 0 v88 : Option (List ByteArray))
       (fun v110 => M_r16_Variables_L2 a0 g k89 (IntKind.i64.wrap (v87 + 1)) v110))
     (grd (v88.length ≤ 140737488355328) (some v88))
def M_r16_Variables (g : Nat) (a0 : List GAtom) : Option (List ByteArray) :=
  M_r16_Variables_L2 a0 g g 0 []
theorem A_r16_Variables (g : Nat) (a0 : List GAtom) {r1 : List ByteArray} (h : M_r16_Variables g a0 = some r1) : ACall cx 42 [.sl 2 (a0.map cGAtom)] (.sl 1 (r1.map cS)) := by
  refine aOf Tryd.func42 rfl (by decide) rfl (Nat.le_of_ble_eq_true rfl) ?_; intro _; unfold M_r16_Variables at h; refine aSR ?_; intro _; refine dr_XDLb ?_; refine aSR ?_; intro _; refine dr_XDLb ?_; refine aSq ?_; refine aSR ?_; intro _; refine dr_XDLb ?_; refine aBk ?_; refine awp_loop (α := Nat × Int × (List ByteArray)) (fun x => mkS 44 [(0, .sl 2 (a0.map cGAtom)), (3, .own 42 0 0 x.2.2.length), (4, .c (.int .i64 x.2.1))] [(42, ⟨9, 1, false, x.2.2.map cS⟩)]) (fun x => M_r16_Variables_L2 a0 g x.1 x.2.1 x.2.2 = some r1) (fun x => x.1) (g, 0, []) h ?_ ?_
  · exact ca_XDLb
  · intro x1 h; intro _; obtain ⟨k89, m2, h⟩ := succ_of (f := fun n => M_r16_Variables_L2 a0 g n x1.2.1 x1.2.2) rfl h; replace h : M_r16_Variables_L2 a0 g (k89 + 1) x1.2.1 x1.2.2 = some r1 := h; rw [M_r16_Variables_L2] at h; refine aSq ?_; refine aSR ?_; intro _; refine dr_XDLb ?_; refine aCd ?_; intro _; refine spl h (fun c3 h => ?_) (fun c3 h => ?_)
    · refine aSk ?_; obtain ⟨o4, h, hK5⟩ := ob1_ok h; refine awp_cut (α := List ByteArray) (fun v110 => mkS 44 [(0, .sl 2 (a0.map cGAtom)), (3, .own 42 0 0 v110.length), (4, .c (.int .i64 x1.2.1))] [(42, ⟨9, 1, false, v110.map cS⟩)]) (fun v => o4 = v) ?_ ?_
      · refine aBk ?_; refine aSR ?_; intro _; refine dr_XDLb ?_; refine aBk ?_; refine awp_loop (α := Nat × Int × (List ByteArray)) (fun x => mkS 44 [(0, .sl 2 (a0.map cGAtom)), (3, .own 42 0 0 x.2.2.length), (4, .c (.int .i64 x1.2.1)), (5, .c (.int .i64 x.2.1))] [(42, ⟨9, 1, false, x.2.2.map cS⟩)]) (fun x => M_r16_Variables_L1 a0 g x1.2.1 x.1 x.2.1 x.2.2 = some o4) (fun x => x.1) (g, 0, x1.2.2) h ?_ ?_
        · exact ca_XDLb
        · intro x6 h; intro _; obtain ⟨k126, m7, h⟩ := succ_of (f := fun n => M_r16_Variables_L1 a0 g x1.2.1 n x6.2.1 x6.2.2) rfl h; replace h : M_r16_Variables_L1 a0 g x1.2.1 (k126 + 1) x6.2.1 x6.2.2 = some o4 := h; rw [M_r16_Variables_L1] at h; refine aSq ?_; refine aSR ?_; intro _; obtain ⟨y127, w8, q9, h⟩ := ix_ok h; refine Exists.intro (cGAtom y127) (And.intro (map_at' w8) ?_); intro _; refine pr_XDLb ?_; refine dr_XDLb ?_; refine aCd ?_; intro _; refine spl h (fun c10 h => ?_) (fun c10 h => ?_)
          · refine aSk ?_; refine aSq ?_; refine aBk ?_; refine aSR ?_; intro _; obtain ⟨y128, w11, q12, h⟩ := ix_ok h; refine Exists.intro (cGAtom y128) (And.intro (map_at' w11) ?_); intro _; obtain ⟨y129, w13, q14, h⟩ := ix_ok h; refine Exists.intro (cS y129) (And.intro (map_at' w13) ?_); intro _; refine pr_XDLb ?_; refine pr_XDLb ?_; refine dr_XDLb ?_; refine aSR ?_; intro _; obtain ⟨z130, u15, h⟩ := ob1_ok h; refine cl_XDLb rfl (A_r16_Variable y129 u15) ?_; intro _; refine spl h (fun c16 h => ?_) (fun c16 h => ?_)
            · intro _; obtain ⟨q17, h⟩ := grd_ok h; obtain ⟨z131, u18, h⟩ := ob1_ok h; refine clb_XDLb [42] rfl rfl (A_r16_has g x6.2.2 y129 u18) ?_; intro _; refine dr_XDLb ?_; refine aCd ?_; intro _; refine spl h (fun c19 h => ?_) (fun c19 h => ?_)
              · refine aRg ?_; intro _; obtain ⟨q20, h⟩ := grd_ok h; refine pl_XDLb ?_; refine pl_XDLb ?_; refine And.intro (by first | with_reducible assumption | (show (x6.2.2.length + 1) * 16 ≤ 140737488355328; with_reducible assumption) | omega | (simp; omega)) ?_; refine pe_XDLb ?_; refine dr_XDLb ?_; refine aRg ?_; intro _; refine dr_XDLb ?_; refine ⟨(k126, (IntKind.i64.wrap (x6.2.1 + 1)), (x6.2.2 ++ [y129])), h, ltS m7, ?_⟩; exact ca_XDLb
              · refine aSk ?_; refine aRg ?_; intro _; refine dr_XDLb ?_; refine ⟨(k126, (IntKind.i64.wrap (x6.2.1 + 1)), x6.2.2), h, ltS m7, ?_⟩; exact ca_XDLb
            · intro _; refine dr_XDLb ?_; refine aCd ?_; intro _; refine litF ?_; refine aSk ?_; refine aRg ?_; intro _; refine dr_XDLb ?_; refine ⟨(k126, (IntKind.i64.wrap (x6.2.1 + 1)), x6.2.2), h, ltS m7, ?_⟩; exact ca_XDLb
          · refine aEx ?_; refine ⟨x6.2.2, (Option.some.inj h).symm, ?_⟩; exact ca_XDLb
      · rintro v110 ho; have ho := ho.symm; subst ho; intro _; replace h := hK5; refine aRg ?_; intro _; refine dr_XDLb ?_; refine ⟨(k89, (IntKind.i64.wrap (x1.2.1 + 1)), v110), h, ltS m2, ?_⟩; exact ca_XDLb
    · refine aEx ?_; refine aSR ?_; intro _; refine dr_XDLb ?_; refine aRt ?_; obtain ⟨q21, h⟩ := grd_ok h; intro _; obtain rfl := inj1 h; exact ca_XDLb
def M_l16_power_L1 (a0 : Int) (a1 : Int) : Nat → Int → Int → Option (Int)
  | 0, _, _ => none
  | k5 + 1, v3, v4 =>
    sel (decide (v4 < a1))
     (M_l16_power_L1 a0 a1 k5 (min (IntKind.i64.wrap (v3 * a0)) 1000) (IntKind.i64.wrap (v4 + 1)))
     (some v3)
def M_l16_power (g : Nat) (a0 : Int) (a1 : Int) : Option (Int) :=
  M_l16_power_L1 a0 a1 g 1 0
theorem A_l16_power (g : Nat) (a0 : Int) (a1 : Int) {r1 : Int} (h : M_l16_power g a0 a1 = some r1) : ACall cx 46 [.c (.int .i64 a0), .c (.int .i64 a1)] (.c (.int .i64 r1)) := by
  refine aOf Tryd.func46 rfl (by decide) rfl (Nat.le_of_ble_eq_true rfl) ?_; intro _; unfold M_l16_power at h; refine aSR ?_; intro _; refine dr_XDLb ?_; refine aSR ?_; intro _; refine dr_XDLb ?_; refine aSq ?_; refine aSR ?_; intro _; refine dr_XDLb ?_; refine aBk ?_; refine awp_loop (α := Nat × Int × Int) (fun x => mkS 17 [(0, .c (.int .i64 a0)), (1, .c (.int .i64 a1)), (5, .c (.int .i64 x.2.1)), (6, .c (.int .i64 x.2.2))] []) (fun x => M_l16_power_L1 a0 a1 x.1 x.2.1 x.2.2 = some r1) (fun x => x.1) (g, 1, 0) h ?_ ?_
  · exact ca_XDLb
  · intro x1 h; intro _; obtain ⟨k5, m2, h⟩ := succ_of (f := fun n => M_l16_power_L1 a0 a1 n x1.2.1 x1.2.2) rfl h; replace h : M_l16_power_L1 a0 a1 (k5 + 1) x1.2.1 x1.2.2 = some r1 := h; rw [M_l16_power_L1] at h; refine aSq ?_; refine aSR ?_; intro _; refine dr_XDLb ?_; refine aCd ?_; intro _; refine spl h (fun c3 h => ?_) (fun c3 h => ?_)
    · refine aSk ?_; refine aSq ?_; refine aBk ?_; refine aRg ?_; intro _; refine ⟨_, lf_min rfl (Nat.le_of_ble_eq_true rfl) rfl rfl, ?_⟩; intro _; refine dr_XDLb ?_; refine aRg ?_; intro _; refine dr_XDLb ?_; refine ⟨(k5, (min (IntKind.i64.wrap (x1.2.1 * a0)) 1000), (IntKind.i64.wrap (x1.2.2 + 1))), h, ltS m2, ?_⟩; exact ca_XDLb
    · refine aEx ?_; refine aSR ?_; intro _; refine dr_XDLb ?_; refine aRt ?_; intro _; obtain rfl := inj1 h; exact ca_XDLb
def M_stratagem_stratagemlaw16_Program_Large_L1 (a0 : GProgram) (g : Nat) : Nat → Int → (List GAtom) → Option ((List GAtom) ⊕ Bool)
  | 0, _, _ => none
  | k42 + 1, v40, v41 =>
    sel (decide (v40 < ((a0.Rules.map cGRule).length : Int)))
     (ix a0.Rules v40 (fun y43 =>
       sel (decide (((y43.Body.map cGAtom).length : Int) > 3))
        (sel (decide (((y43.Body.map cGAtom).length : Int) < 17))
          (some (.inr true))
          (sel (decide (((y43.Body.map cGAtom).length : Int) > 20))
            (some (.inr true))
            (sel (decide (((y43.Unequal.map cA2_cS).length : Int) > 6))
              (some (.inr true))
              (ob1 (M_l16_many g y43.Body) (fun z44 =>
                sel z44
                 (some (.inr true))
                 (ob1 (M_l16_many g [y43.Head]) (fun z45 =>
                   sel z45
                    (some (.inr true))
                    (grd ((v41.length + 1) * 40 ≤ 140737488355328) (grd ((v41.length + 1 + y43.Body.length) * 40 ≤ 140737488355328) (M_stratagem_stratagemlaw16_Program_Large_L1 a0 g k42 (IntKind.i64.wrap (v40 + 1)) ((v41 ++ [y43.Head]) ++ y43.Body)))))))))))
        (sel (decide (((y43.Body.map cGAtom).length : Int) > 20))
          (some (.inr true))
          (sel (decide (((y43.Unequal.map cA2_cS).length : Int) > 6))
            (some (.inr true))
            (ob1 (M_l16_many g y43.Body) (fun z46 =>
              sel z46
               (some (.inr true))
               (ob1 (M_l16_many g [y43.Head]) (fun z47 =>
                 sel z47
                  (some (.inr true))
                  (grd ((v41.length + 1) * 40 ≤ 140737488355328) (grd ((v41.length + 1 + y43.Body.length) * 40 ≤ 140737488355328) (M_stratagem_stratagemlaw16_Program_Large_L1 a0 g k42 (IntKind.i64.wrap (v40 + 1)) ((v41 ++ [y43.Head]) ++ y43.Body))))))))))))
     (some (.inl v41))
def M_stratagem_stratagemlaw16_Program_Large_L2 (a0 : GProgram) (g : Nat) (z48 : Int) : Nat → Int → Int → Option (Bool)
  | 0, _, _ => none
  | k63 + 1, v61, v62 =>
    sel (decide (v62 < ((a0.Rules.map cGRule).length : Int)))
     (ix a0.Rules v62 (fun y64 =>
       ob1 (M_r16_Variables g y64.Body) (fun z65 =>
        ix a0.Rules v62 (fun y66 =>
         ob1 (M_l16_power g z48 (min ((y66.Head.Args.map cS).length : Int) ((z65.map cS).length : Int))) (fun z67 =>
          ob1 (M_l16_power g z48 ((z65.map cS).length : Int)) (fun z68 =>
           sel (decide (z68 ≥ 1000))
            (some true)
            (M_stratagem_stratagemlaw16_Program_Large_L2 a0 g z48 k63 (IntKind.i64.wrap (v61 + z67)) (IntKind.i64.wrap (v62 + 1)))))))))
     (some (decide (v61 > 150)))
def M_stratagem_stratagemlaw16_Program_Large (g : Nat) (a0 : GProgram) : Option (Bool) :=
  ob1 (sel (decide (((a0.Facts.map cGAtom).length : Int) > 30))
    (some (.inr true))
    (sel (decide (((a0.Rules.map cGRule).length : Int) > 8))
      (some (.inr true))
      (ob1 (M_l16_many g a0.Facts) (fun z4 =>
        sel z4
         (some (.inr true))
         (some (.inl ()))))) : Option (Unit ⊕ Bool))
   (osum
   (fun _ => grd ((0 + a0.Facts.length) * 40 ≤ 140737488355328) (ob1 (M_stratagem_stratagemlaw16_Program_Large_L1 a0 g g 0 a0.Facts : Option ((List GAtom) ⊕ Bool))
      (osum
      (fun v25 => grd (v25.length ≤ 140737488355328) (ob1 (M_l16_constants g v25) (fun z48 =>
         M_stratagem_stratagemlaw16_Program_Large_L2 a0 g z48 g 0 0)))
      (fun r26 => some r26))))
   (fun r2 => some r2))
theorem A_stratagem_stratagemlaw16_Program_Large (g : Nat) (a0 : GProgram) {r1 : Bool} (h : M_stratagem_stratagemlaw16_Program_Large g a0 = some r1) : ACall cx 15 [.agg [.sl 2 (a0.Facts.map cGAtom), .sl 4 (a0.Rules.map cGRule)]] (.c (.bool r1)) := by
  refine aOf Tryd.func15 rfl (by decide) rfl (Nat.le_of_ble_eq_true rfl) ?_; intro _; unfold M_stratagem_stratagemlaw16_Program_Large at h; refine aSR ?_; intro _; refine dr_XDLb ?_; obtain ⟨o1, h, hK2⟩ := ob1_ok h; refine awp_cut (α := Unit) (fun _ => mkS 119 [(1, .ptr 1 0 0 0)] [(1, ⟨38, 2, true, [[.sl 2 (a0.Facts.map cGAtom), .sl 4 (a0.Rules.map cGRule)]]⟩)]) (fun v => o1 = (.inl v)) ?_ ?_
  · refine aSR ?_; intro _; refine spf h (fun c3 h => ?_) (fun c3 h => ?_)
    · intro _; refine spf h (fun c4 h => ?_) (fun c4 h => ?_)
      · intro _; obtain ⟨z4, u5, h⟩ := ob1_ok h; refine cl_XDLb rfl (A_l16_many g a0.Facts u5) ?_; intro _; refine dr_XDLb ?_; refine aCd ?_; intro _; refine spl h (fun c6 h => ?_) (fun c6 h => ?_)
        · refine aSR ?_; intro _; refine dr_XDLb ?_; refine aRt ?_; have j7 := Option.some.inj h; subst j7; replace h := (osum_r hK2); intro _; obtain rfl := inj1 h; exact ca_XDLb
        · refine aSk ?_; refine ⟨(), (Option.some.inj h).symm, ?_⟩; exact ca_XDLb
      · intro _; refine dr_XDLb ?_; refine aCd ?_; intro _; refine litT ?_; refine aSR ?_; intro _; refine dr_XDLb ?_; refine aRt ?_; have j8 := Option.some.inj h; subst j8; replace h := (osum_r hK2); intro _; obtain rfl := inj1 h; exact ca_XDLb
    · intro _; refine dr_XDLb ?_; refine aCd ?_; intro _; refine litT ?_; refine aSR ?_; intro _; refine dr_XDLb ?_; refine aRt ?_; have j9 := Option.some.inj h; subst j9; replace h := (osum_r hK2); intro _; obtain rfl := inj1 h; exact ca_XDLb
  · rintro _ ho; have ho := ho.symm; subst ho; intro _; replace h := (osum_l hK2); refine aSR ?_; intro _; obtain ⟨q10, h⟩ := grd_ok h; refine pl_XDLb ?_; refine And.intro (by first | with_reducible assumption | (show (0 + a0.Facts.length) * 40 ≤ 140737488355328; with_reducible assumption) | omega | (simp; omega)) ?_; refine pe_XDLb ?_; refine dr_XDLb ?_; obtain ⟨o11, h, hK12⟩ := ob1_ok h; refine awp_cut (α := List GAtom) (fun v25 => mkS 119 [(1, .ptr 1 0 0 0), (3, .own 25 0 0 v25.length)] [(1, ⟨38, 2, true, [[.sl 2 (a0.Facts.map cGAtom), .sl 4 (a0.Rules.map cGRule)]]⟩), (25, ⟨24, 2, false, v25.map cGAtom⟩)]) (fun v => o11 = (.inl v)) ?_ ?_
    · refine aSR ?_; intro _; refine dr_XDLb ?_; refine aBk ?_; refine awp_loop (α := Nat × Int × (List GAtom)) (fun x => mkS 119 [(1, .ptr 1 0 0 0), (3, .own 25 0 0 x.2.2.length), (4, .c (.int .i64 x.2.1))] [(1, ⟨38, 2, true, [[.sl 2 (a0.Facts.map cGAtom), .sl 4 (a0.Rules.map cGRule)]]⟩), (25, ⟨24, 2, false, x.2.2.map cGAtom⟩)]) (fun x => M_stratagem_stratagemlaw16_Program_Large_L1 a0 g x.1 x.2.1 x.2.2 = some o11) (fun x => x.1) (g, 0, a0.Facts) h ?_ ?_
      · exact ca_XDLb
      · intro x13 h; intro _; obtain ⟨k42, m14, h⟩ := succ_of (f := fun n => M_stratagem_stratagemlaw16_Program_Large_L1 a0 g n x13.2.1 x13.2.2) rfl h; replace h : M_stratagem_stratagemlaw16_Program_Large_L1 a0 g (k42 + 1) x13.2.1 x13.2.2 = some o11 := h; rw [M_stratagem_stratagemlaw16_Program_Large_L1] at h; refine aSq ?_; refine aSR ?_; intro _; refine dr_XDLb ?_; refine aCd ?_; intro _; refine spl h (fun c15 h => ?_) (fun c15 h => ?_)
        · refine aSk ?_; refine aSq ?_; refine aBk ?_; refine aSR ?_; intro _; obtain ⟨y43, w16, q17, h⟩ := ix_ok h; refine Exists.intro (cGRule y43) (And.intro (map_at' w16) ?_); intro _; refine pr_XDLb ?_; refine dr_XDLb ?_; refine aSq ?_; refine aSR ?_; intro _; refine spl h (fun c18 h => ?_) (fun c18 h => ?_)
          · intro _; refine spf h (fun c19 h => ?_) (fun c19 h => ?_)
            · intro _; refine spf h (fun c20 h => ?_) (fun c20 h => ?_)
              · intro _; refine spf h (fun c21 h => ?_) (fun c21 h => ?_)
                · intro _; obtain ⟨z44, u22, h⟩ := ob1_ok h; refine cl_XDLb rfl (A_l16_many g y43.Body u22) ?_; intro _; refine spf h (fun c23 h => ?_) (fun c23 h => ?_)
                  · intro _; obtain ⟨z45, u24, h⟩ := ob1_ok h; refine clb_XDLb [71] rfl rfl (A_l16_many g [y43.Head] u24) ?_; intro _; refine dr_XDLb ?_; refine aCd ?_; intro _; refine spl h (fun c25 h => ?_) (fun c25 h => ?_)
                    · refine aSR ?_; intro _; refine dr_XDLb ?_; refine aRt ?_; have j26 := Option.some.inj h; subst j26; replace h := (osum_r hK12); intro _; obtain rfl := inj1 h; exact ca_XDLb
                    · refine aSk ?_; refine aRg ?_; intro _; obtain ⟨q27, h⟩ := grd_ok h; obtain ⟨q28, h⟩ := grd_ok h; refine pl_XDLb ?_; refine pl_XDLb ?_; refine And.intro (by first | with_reducible assumption | (show (x13.2.2.length + 1) * 40 ≤ 140737488355328; with_reducible assumption) | omega | (simp; omega)) ?_; refine pe_XDLb ?_; refine pl_XDLb ?_; refine And.intro (by first | with_reducible assumption | (show (x13.2.2.length + 1 + y43.Body.length) * 40 ≤ 140737488355328; with_reducible assumption) | omega | (simp; omega)) ?_; refine pe_XDLb ?_; refine dr_XDLb ?_; refine aRg ?_; intro _; refine dr_XDLb ?_; refine ⟨(k42, (IntKind.i64.wrap (x13.2.1 + 1)), ((x13.2.2 ++ [y43.Head]) ++ y43.Body)), h, ltS m14, ?_⟩; exact ca_XDLb
                  · intro _; refine dr_XDLb ?_; refine aCd ?_; intro _; refine litT ?_; refine aSR ?_; intro _; refine dr_XDLb ?_; refine aRt ?_; have j29 := Option.some.inj h; subst j29; replace h := (osum_r hK12); intro _; obtain rfl := inj1 h; exact ca_XDLb
                · intro _; refine dr_XDLb ?_; refine aCd ?_; intro _; refine litT ?_; refine aSR ?_; intro _; refine dr_XDLb ?_; refine aRt ?_; have j30 := Option.some.inj h; subst j30; replace h := (osum_r hK12); intro _; obtain rfl := inj1 h; exact ca_XDLb
              · intro _; refine dr_XDLb ?_; refine aCd ?_; intro _; refine litT ?_; refine aSR ?_; intro _; refine dr_XDLb ?_; refine aRt ?_; have j31 := Option.some.inj h; subst j31; replace h := (osum_r hK12); intro _; obtain rfl := inj1 h; exact ca_XDLb
            · intro _; refine dr_XDLb ?_; refine aCd ?_; intro _; refine litT ?_; refine aSR ?_; intro _; refine dr_XDLb ?_; refine aRt ?_; have j32 := Option.some.inj h; subst j32; replace h := (osum_r hK12); intro _; obtain rfl := inj1 h; exact ca_XDLb
          · intro _; refine spf h (fun c33 h => ?_) (fun c33 h => ?_)
            · intro _; refine spf h (fun c34 h => ?_) (fun c34 h => ?_)
              · intro _; obtain ⟨z46, u35, h⟩ := ob1_ok h; refine cl_XDLb rfl (A_l16_many g y43.Body u35) ?_; intro _; refine spf h (fun c36 h => ?_) (fun c36 h => ?_)
                · intro _; obtain ⟨z47, u37, h⟩ := ob1_ok h; refine clb_XDLb [71] rfl rfl (A_l16_many g [y43.Head] u37) ?_; intro _; refine dr_XDLb ?_; refine aCd ?_; intro _; refine spl h (fun c38 h => ?_) (fun c38 h => ?_)
                  · refine aSR ?_; intro _; refine dr_XDLb ?_; refine aRt ?_; have j39 := Option.some.inj h; subst j39; replace h := (osum_r hK12); intro _; obtain rfl := inj1 h; exact ca_XDLb
                  · refine aSk ?_; refine aRg ?_; intro _; obtain ⟨q40, h⟩ := grd_ok h; obtain ⟨q41, h⟩ := grd_ok h; refine pl_XDLb ?_; refine pl_XDLb ?_; refine And.intro (by first | with_reducible assumption | (show (x13.2.2.length + 1) * 40 ≤ 140737488355328; with_reducible assumption) | omega | (simp; omega)) ?_; refine pe_XDLb ?_; refine pl_XDLb ?_; refine And.intro (by first | with_reducible assumption | (show (x13.2.2.length + 1 + y43.Body.length) * 40 ≤ 140737488355328; with_reducible assumption) | omega | (simp; omega)) ?_; refine pe_XDLb ?_; refine dr_XDLb ?_; refine aRg ?_; intro _; refine dr_XDLb ?_; refine ⟨(k42, (IntKind.i64.wrap (x13.2.1 + 1)), ((x13.2.2 ++ [y43.Head]) ++ y43.Body)), h, ltS m14, ?_⟩; exact ca_XDLb
                · intro _; refine dr_XDLb ?_; refine aCd ?_; intro _; refine litT ?_; refine aSR ?_; intro _; refine dr_XDLb ?_; refine aRt ?_; have j42 := Option.some.inj h; subst j42; replace h := (osum_r hK12); intro _; obtain rfl := inj1 h; exact ca_XDLb
              · intro _; refine dr_XDLb ?_; refine aCd ?_; intro _; refine litT ?_; refine aSR ?_; intro _; refine dr_XDLb ?_; refine aRt ?_; have j43 := Option.some.inj h; subst j43; replace h := (osum_r hK12); intro _; obtain rfl := inj1 h; exact ca_XDLb
            · intro _; refine dr_XDLb ?_; refine aCd ?_; intro _; refine litT ?_; refine aSR ?_; intro _; refine dr_XDLb ?_; refine aRt ?_; have j44 := Option.some.inj h; subst j44; replace h := (osum_r hK12); intro _; obtain rfl := inj1 h; exact ca_XDLb
        · refine aEx ?_; refine ⟨x13.2.2, (Option.some.inj h).symm, ?_⟩; exact ca_XDLb
    · rintro v25 ho; have ho := ho.symm; subst ho; intro _; replace h := (osum_l hK12); refine aSR ?_; intro _; obtain ⟨q45, h⟩ := grd_ok h; obtain ⟨z48, u46, h⟩ := ob1_ok h; refine clb_XDLb [25] rfl rfl (A_l16_constants g v25 u46) ?_; intro _; refine dr_XDLb ?_; refine aSq ?_; refine aSR ?_; intro _; refine dr_XDLb ?_; refine aBk ?_; refine awp_loop (α := Nat × Int × Int) (fun x => mkS 119 [(1, .ptr 1 0 0 0), (6, .c (.int .i64 z48)), (7, .c (.int .i64 x.2.1)), (8, .c (.int .i64 x.2.2))] [(1, ⟨38, 2, true, [[.sl 2 (a0.Facts.map cGAtom), .sl 4 (a0.Rules.map cGRule)]]⟩)]) (fun x => M_stratagem_stratagemlaw16_Program_Large_L2 a0 g z48 x.1 x.2.1 x.2.2 = some r1) (fun x => x.1) (g, 0, 0) h ?_ ?_
      · exact ca_XDLb
      · intro x47 h; intro _; obtain ⟨k63, m48, h⟩ := succ_of (f := fun n => M_stratagem_stratagemlaw16_Program_Large_L2 a0 g z48 n x47.2.1 x47.2.2) rfl h; replace h : M_stratagem_stratagemlaw16_Program_Large_L2 a0 g z48 (k63 + 1) x47.2.1 x47.2.2 = some r1 := h; rw [M_stratagem_stratagemlaw16_Program_Large_L2] at h; refine aSq ?_; refine aSR ?_; intro _; refine dr_XDLb ?_; refine aCd ?_; intro _; refine spl h (fun c49 h => ?_) (fun c49 h => ?_)
        · refine aSk ?_; refine aSq ?_; refine aBk ?_; refine aSR ?_; intro _; obtain ⟨y64, w50, q51, h⟩ := ix_ok h; refine Exists.intro (cGRule y64) (And.intro (map_at' w50) ?_); intro _; obtain ⟨z65, u52, h⟩ := ob1_ok h; refine cl_XDLb rfl (A_r16_Variables g y64.Body u52) ?_; intro _; refine pr_XDLb ?_; refine dr_XDLb ?_; refine aSR ?_; intro _; obtain ⟨y66, w53, q54, h⟩ := ix_ok h; refine Exists.intro (cGRule y66) (And.intro (map_at' w53) ?_); intro _; refine ⟨_, lf_min rfl (Nat.le_of_ble_eq_true rfl) rfl rfl, ?_⟩; intro _; obtain ⟨z67, u55, h⟩ := ob1_ok h; refine cl_XDLb rfl (A_l16_power g z48 (min ((y66.Head.Args.map cS).length : Int) ((z65.map cS).length : Int)) u55) ?_; intro _; refine pr_XDLb ?_; refine dr_XDLb ?_; refine aSR ?_; intro _; obtain ⟨z68, u56, h⟩ := ob1_ok h; refine cl_XDLb rfl (A_l16_power g z48 ((z65.map cS).length : Int) u56) ?_; intro _; refine dr_XDLb ?_; refine aCd ?_; intro _; refine spl h (fun c57 h => ?_) (fun c57 h => ?_)
          · refine aSR ?_; intro _; refine dr_XDLb ?_; refine aRt ?_; intro _; obtain rfl := inj1 h; exact ca_XDLb
          · refine aSk ?_; refine aRg ?_; intro _; refine dr_XDLb ?_; refine ⟨(k63, (IntKind.i64.wrap (x47.2.1 + z67)), (IntKind.i64.wrap (x47.2.2 + 1))), h, ltS m48, ?_⟩; exact ca_XDLb
        · refine aEx ?_; refine aSR ?_; intro _; refine dr_XDLb ?_; refine aRt ?_; intro _; obtain rfl := inj1 h; exact ca_XDLb
def M_r10_Compare_L1 (a0 : GAtom) (a1 : GAtom) : Nat → Int → Option (Unit ⊕ Int)
  | 0, _ => none
  | k33 + 1, v32 =>
    ob1 (sel (decide (v32 < ((a0.Args.map cS).length : Int)))
      (sel (decide (v32 < ((a1.Args.map cS).length : Int)))
        (some (.inl ()))
        (some (.inr ())))
      (some (.inr ())) : Option (Unit ⊕ Unit))
     (osum
     (fun _ => ix a0.Args v32 (fun y35 =>
        ix a1.Args v32 (fun y36 =>
         sel (Op.bytesLess y35.toList y36.toList)
          (some (.inr (-1)))
          (ix a0.Args v32 (fun y37 =>
            ix a1.Args v32 (fun y38 =>
             sel (!(Op.bytesLess y37.toList y38.toList || y37.toList == y38.toList))
              (some (.inr 1))
              (M_r10_Compare_L1 a0 a1 k33 (IntKind.i64.wrap (v32 + 1)))))))))
     (fun _ => some (.inl ())))
def M_r10_Compare (g : Nat) (a0 : GAtom) (a1 : GAtom) : Option (Int) :=
  sel (!(a0.Name.toList == a1.Name.toList))
   (sel (Op.bytesLess a0.Name.toList a1.Name.toList)
     (some (-1))
     (some 1))
   (ob1 (M_r10_Compare_L1 a0 a1 g 0 : Option (Unit ⊕ Int))
     (osum
     (fun _ => some (IntKind.i64.wrap (((a0.Args.map cS).length : Int) - ((a1.Args.map cS).length : Int))))
     (fun r19 => some r19)))
theorem A_r10_Compare (g : Nat) (a0 : GAtom) (a1 : GAtom) {r1 : Int} (h : M_r10_Compare g a0 a1 = some r1) : ACall cx 19 [.agg [.c (.string a0.Name), .sl 1 (a0.Args.map cS)], .agg [.c (.string a1.Name), .sl 1 (a1.Args.map cS)]] (.c (.int .i64 r1)) := by
  refine aOf Tryd.func19 rfl (by decide) rfl (Nat.le_of_ble_eq_true rfl) ?_; intro _; unfold M_r10_Compare at h; refine aSR ?_; intro _; refine dr_XDLb ?_; refine aSq ?_; refine aSR ?_; intro _; refine dr_XDLb ?_; refine aCd ?_; intro _; refine spl h (fun c1 h => ?_) (fun c1 h => ?_)
  · refine aSq ?_; refine aSR ?_; intro _; refine dr_XDLb ?_; refine aCd ?_; intro _; refine spl h (fun c2 h => ?_) (fun c2 h => ?_)
    · refine aSR ?_; intro _; refine dr_XDLb ?_; refine aRt ?_; intro _; obtain rfl := inj1 h; exact ca_XDLb
    · refine aSk ?_; refine aSR ?_; intro _; refine dr_XDLb ?_; refine aRt ?_; intro _; obtain rfl := inj1 h; exact ca_XDLb
  · refine aSk ?_; obtain ⟨o3, h, hK4⟩ := ob1_ok h; refine awp_cut (α := Unit) (fun _ => mkS 59 [(2, .ptr 2 0 0 0), (3, .ptr 3 0 0 0)] [(2, ⟨24, 2, true, [[.c (.string a0.Name), .sl 1 (a0.Args.map cS)]]⟩), (3, ⟨24, 2, true, [[.c (.string a1.Name), .sl 1 (a1.Args.map cS)]]⟩)]) (fun v => o3 = (.inl v)) ?_ ?_
    · refine aSR ?_; intro _; refine dr_XDLb ?_; refine aBk ?_; refine awp_loop (α := Nat × Int) (fun x => mkS 59 [(2, .ptr 2 0 0 0), (3, .ptr 3 0 0 0), (5, .c (.int .i64 x.2))] [(2, ⟨24, 2, true, [[.c (.string a0.Name), .sl 1 (a0.Args.map cS)]]⟩), (3, ⟨24, 2, true, [[.c (.string a1.Name), .sl 1 (a1.Args.map cS)]]⟩)]) (fun x => M_r10_Compare_L1 a0 a1 x.1 x.2 = some o3) (fun x => x.1) (g, 0) h ?_ ?_
      · exact ca_XDLb
      · intro x5 h; intro _; obtain ⟨k33, m6, h⟩ := succ_of (f := fun n => M_r10_Compare_L1 a0 a1 n x5.2) rfl h; replace h : M_r10_Compare_L1 a0 a1 (k33 + 1) x5.2 = some o3 := h; rw [M_r10_Compare_L1] at h; obtain ⟨o7, h, hK8⟩ := ob1_ok h; refine awp_cut (α := Unit) (fun _ => mkS 59 [(2, .ptr 2 0 0 0), (3, .ptr 3 0 0 0), (5, .c (.int .i64 x5.2)), (22, .c (.int .i64 x5.2)), (23, .ptr 3 0 0 1), (24, .sl 1 (a1.Args.map cS)), (25, .c (.int .i64 ((a1.Args.map cS).length : Int))), (26, .c (.bool (decide (x5.2 < ((a1.Args.map cS).length : Int)))))] [(2, ⟨24, 2, true, [[.c (.string a0.Name), .sl 1 (a0.Args.map cS)]]⟩), (3, ⟨24, 2, true, [[.c (.string a1.Name), .sl 1 (a1.Args.map cS)]]⟩)]) (fun v => o7 = (.inl v)) ?_ ?_
        · refine aSR ?_; intro _; refine spl h (fun c9 h => ?_) (fun c9 h => ?_)
          · intro _; refine dr_XDLb ?_; refine aCd ?_; intro _; refine spl h (fun c10 h => ?_) (fun c10 h => ?_)
            · refine aSk ?_; refine ⟨(), (Option.some.inj h).symm, ?_⟩; exact ca_XDLb
            · refine aEx ?_; have j11 := Option.some.inj h; subst j11; replace h := (osum_r hK8); refine ⟨(), (Option.some.inj h).symm, ?_⟩; exact ca_XDLb
          · intro _; refine dr_XDLb ?_; refine aCd ?_; intro _; refine litF ?_; refine aEx ?_; have j12 := Option.some.inj h; subst j12; replace h := (osum_r hK8); refine ⟨(), (Option.some.inj h).symm, ?_⟩; exact ca_XDLb
        · rintro _ ho; have ho := ho.symm; subst ho; intro _; replace h := (osum_l hK8); refine aSq ?_; refine aBk ?_; refine aSq ?_; refine aSR ?_; intro _; obtain ⟨y35, w13, q14, h⟩ := ix_ok h; refine Exists.intro (cS y35) (And.intro (map_at' w13) ?_); intro _; obtain ⟨y36, w15, q16, h⟩ := ix_ok h; refine Exists.intro (cS y36) (And.intro (map_at' w15) ?_); intro _; refine pr_XDLb ?_; refine pr_XDLb ?_; refine dr_XDLb ?_; refine aCd ?_; intro _; refine spl h (fun c17 h => ?_) (fun c17 h => ?_)
          · refine aSR ?_; intro _; refine dr_XDLb ?_; refine aRt ?_; have j18 := Option.some.inj h; subst j18; replace h := (osum_r hK4); intro _; obtain rfl := inj1 h; exact ca_XDLb
          · refine aSk ?_; refine aSR ?_; intro _; obtain ⟨y37, w19, q20, h⟩ := ix_ok h; refine Exists.intro (cS y37) (And.intro (map_at' w19) ?_); intro _; obtain ⟨y38, w21, q22, h⟩ := ix_ok h; refine Exists.intro (cS y38) (And.intro (map_at' w21) ?_); intro _; refine pr_XDLb ?_; refine pr_XDLb ?_; refine dr_XDLb ?_; refine aCd ?_; intro _; refine spl h (fun c23 h => ?_) (fun c23 h => ?_)
            · refine aSR ?_; intro _; refine dr_XDLb ?_; refine aRt ?_; have j24 := Option.some.inj h; subst j24; replace h := (osum_r hK4); intro _; obtain rfl := inj1 h; exact ca_XDLb
            · refine aSk ?_; refine aRg ?_; intro _; refine dr_XDLb ?_; refine ⟨(k33, (IntKind.i64.wrap (x5.2 + 1))), h, ltS m6, ?_⟩; exact ca_XDLb
    · rintro _ ho; have ho := ho.symm; subst ho; intro _; replace h := (osum_l hK4); refine aSR ?_; intro _; refine dr_XDLb ?_; refine aRt ?_; intro _; obtain rfl := inj1 h; exact ca_XDLb
def M_r10_Has_L1 (a0 : List GAtom) (a1 : GAtom) (g : Nat) : Nat → Int → Option (Bool)
  | 0, _ => none
  | k7 + 1, v6 =>
    sel (decide (v6 < ((a0.map cGAtom).length : Int)))
     (ix a0 v6 (fun y8 =>
       ob1 (M_r10_Compare g y8 a1) (fun z9 =>
        sel (z9 == 0)
         (some true)
         (M_r10_Has_L1 a0 a1 g k7 (IntKind.i64.wrap (v6 + 1))))))
     (some false)
def M_r10_Has (g : Nat) (a0 : List GAtom) (a1 : GAtom) : Option (Bool) :=
  M_r10_Has_L1 a0 a1 g g 0
theorem A_r10_Has (g : Nat) (a0 : List GAtom) (a1 : GAtom) {r1 : Bool} (h : M_r10_Has g a0 a1 = some r1) : ACall cx 20 [.sl 2 (a0.map cGAtom), .agg [.c (.string a1.Name), .sl 1 (a1.Args.map cS)]] (.c (.bool r1)) := by
  refine aOf Tryd.func20 rfl (by decide) rfl (Nat.le_of_ble_eq_true rfl) ?_; intro _; unfold M_r10_Has at h; refine aSR ?_; intro _; refine dr_XDLb ?_; refine aSq ?_; refine aSR ?_; intro _; refine dr_XDLb ?_; refine aBk ?_; refine awp_loop (α := Nat × Int) (fun x => mkS 19 [(0, .sl 2 (a0.map cGAtom)), (3, .ptr 3 0 0 0), (5, .c (.int .i64 x.2))] [(3, ⟨24, 2, true, [[.c (.string a1.Name), .sl 1 (a1.Args.map cS)]]⟩)]) (fun x => M_r10_Has_L1 a0 a1 g x.1 x.2 = some r1) (fun x => x.1) (g, 0) h ?_ ?_
  · exact ca_XDLb
  · intro x1 h; intro _; obtain ⟨k7, m2, h⟩ := succ_of (f := fun n => M_r10_Has_L1 a0 a1 g n x1.2) rfl h; replace h : M_r10_Has_L1 a0 a1 g (k7 + 1) x1.2 = some r1 := h; rw [M_r10_Has_L1] at h; refine aSq ?_; refine aSR ?_; intro _; refine dr_XDLb ?_; refine aCd ?_; intro _; refine spl h (fun c3 h => ?_) (fun c3 h => ?_)
    · refine aSk ?_; refine aSq ?_; refine aBk ?_; refine aSR ?_; intro _; obtain ⟨y8, w4, q5, h⟩ := ix_ok h; refine Exists.intro (cGAtom y8) (And.intro (map_at' w4) ?_); intro _; obtain ⟨z9, u6, h⟩ := ob1_ok h; refine cl_XDLb rfl (A_r10_Compare g y8 a1 u6) ?_; intro _; refine pr_XDLb ?_; refine dr_XDLb ?_; refine aCd ?_; intro _; refine spl h (fun c7 h => ?_) (fun c7 h => ?_)
      · refine aSR ?_; intro _; refine dr_XDLb ?_; refine aRt ?_; intro _; obtain rfl := inj1 h; exact ca_XDLb
      · refine aSk ?_; refine aRg ?_; intro _; refine dr_XDLb ?_; refine ⟨(k7, (IntKind.i64.wrap (x1.2 + 1))), h, ltS m2, ?_⟩; exact ca_XDLb
    · refine aEx ?_; refine aSR ?_; intro _; refine dr_XDLb ?_; refine aRt ?_; intro _; obtain rfl := inj1 h; exact ca_XDLb
def M_r10_Add_L1 (a0 : List GAtom) (a1 : GAtom) (g : Nat) : Nat → Int → (List GAtom) → Option (Int × (List GAtom))
  | 0, _, _ => none
  | k29 + 1, v27, v28 =>
    sel (decide (v27 < ((a0.map cGAtom).length : Int)))
     (ix a0 v27 (fun y30 =>
       ob1 (M_r10_Compare g y30 a1) (fun z31 =>
        sel (decide (z31 < 0))
         (ix a0 v27 (fun y32 =>
           grd ((v28.length + 1) * 40 ≤ 140737488355328) (M_r10_Add_L1 a0 a1 g k29 (IntKind.i64.wrap (v27 + 1)) (v28 ++ [y32]))))
         (some (v27, v28)))))
     (some (v27, v28))
def M_r10_Add (g : Nat) (a0 : List GAtom) (a1 : GAtom) : Option (List GAtom) :=
  ob1 (M_r10_Has g a0 a1) (fun z1 =>
   sel z1
    (some a0)
    (ob1 (M_r10_Add_L1 a0 a1 g g 0 [] : Option (Int × (List GAtom)))
      (fun (v16, v17) => grd ((v17.length + 1) * 40 ≤ 140737488355328) (grd (0 ≤ v16) (grd (v16.toNat ≤ (a0.map cGAtom).length) (grd ((v17.length + 1 + ((a0.take ((a0.map cGAtom).length)).drop v16.toNat).length) * 40 ≤ 140737488355328) (grd (((v17 ++ [a1]) ++ ((a0.take ((a0.map cGAtom).length)).drop v16.toNat)).length ≤ 140737488355328) (some ((v17 ++ [a1]) ++ ((a0.take ((a0.map cGAtom).length)).drop v16.toNat))))))))))
theorem A_r10_Add (g : Nat) (a0 : List GAtom) (a1 : GAtom) {r1 : List GAtom} (h : M_r10_Add g a0 a1 = some r1) : ACall cx 22 [.sl 2 (a0.map cGAtom), .agg [.c (.string a1.Name), .sl 1 (a1.Args.map cS)]] (.sl 2 (r1.map cGAtom)) := by
  refine aOf Tryd.func22 rfl (by decide) rfl (Nat.le_of_ble_eq_true rfl) ?_; intro _; unfold M_r10_Add at h; refine aSR ?_; intro _; refine dr_XDLb ?_; refine aSq ?_; refine aSR ?_; intro _; obtain ⟨z1, u1, h⟩ := ob1_ok h; refine cl_XDLb rfl (A_r10_Has g a0 a1 u1) ?_; intro _; refine dr_XDLb ?_; refine aCd ?_; intro _; refine spl h (fun c2 h => ?_) (fun c2 h => ?_)
  · refine aSR ?_; intro _; refine dr_XDLb ?_; refine aRt ?_; intro _; obtain rfl := inj1 h; exact ca_XDLb
  · refine aSk ?_; refine aSR ?_; intro _; refine dr_XDLb ?_; refine aSR ?_; intro _; refine dr_XDLb ?_; obtain ⟨o3, h, hK4⟩ := ob1_ok h; refine awp_cut (α := Int × (List GAtom)) (fun (v16, v17) => mkS 42 [(0, .sl 2 (a0.map cGAtom)), (3, .ptr 3 0 0 0), (5, .own 30 0 0 v17.length), (6, .c (.int .i64 v16))] [(3, ⟨24, 2, true, [[.c (.string a1.Name), .sl 1 (a1.Args.map cS)]]⟩), (30, ⟨24, 2, false, v17.map cGAtom⟩)]) (fun v => o3 = v) ?_ ?_
    · refine aBk ?_; refine awp_loop (α := Nat × Int × (List GAtom)) (fun x => mkS 42 [(0, .sl 2 (a0.map cGAtom)), (3, .ptr 3 0 0 0), (5, .own 30 0 0 x.2.2.length), (6, .c (.int .i64 x.2.1))] [(3, ⟨24, 2, true, [[.c (.string a1.Name), .sl 1 (a1.Args.map cS)]]⟩), (30, ⟨24, 2, false, x.2.2.map cGAtom⟩)]) (fun x => M_r10_Add_L1 a0 a1 g x.1 x.2.1 x.2.2 = some o3) (fun x => x.1) (g, 0, []) h ?_ ?_
      · exact ca_XDLb
      · intro x5 h; intro _; obtain ⟨k29, m6, h⟩ := succ_of (f := fun n => M_r10_Add_L1 a0 a1 g n x5.2.1 x5.2.2) rfl h; replace h : M_r10_Add_L1 a0 a1 g (k29 + 1) x5.2.1 x5.2.2 = some o3 := h; rw [M_r10_Add_L1] at h; refine aSq ?_; refine aSR ?_; intro _; refine spl h (fun c7 h => ?_) (fun c7 h => ?_)
        · intro _; obtain ⟨y30, w8, q9, h⟩ := ix_ok h; refine Exists.intro (cGAtom y30) (And.intro (map_at' w8) ?_); intro _; obtain ⟨z31, u10, h⟩ := ob1_ok h; refine cl_XDLb rfl (A_r10_Compare g y30 a1 u10) ?_; intro _; refine pr_XDLb ?_; refine dr_XDLb ?_; refine aCd ?_; intro _; refine spl h (fun c11 h => ?_) (fun c11 h => ?_)
          · refine aSk ?_; refine aBk ?_; refine aSR ?_; intro _; obtain ⟨y32, w12, q13, h⟩ := ix_ok h; refine Exists.intro (cGAtom y32) (And.intro (map_at' w12) ?_); intro _; obtain ⟨q14, h⟩ := grd_ok h; refine pr_XDLb ?_; refine pl_XDLb ?_; refine pl_XDLb ?_; refine And.intro (by first | with_reducible assumption | (show (x5.2.2.length + 1) * 40 ≤ 140737488355328; with_reducible assumption) | omega | (simp; omega)) ?_; refine pe_XDLb ?_; refine dr_XDLb ?_; refine aRg ?_; intro _; refine dr_XDLb ?_; refine ⟨(k29, (IntKind.i64.wrap (x5.2.1 + 1)), (x5.2.2 ++ [y32])), h, ltS m6, ?_⟩; exact ca_XDLb
          · refine aEx ?_; refine ⟨(x5.2.1, x5.2.2), (Option.some.inj h).symm, ?_⟩; exact ca_XDLb
        · intro _; refine dr_XDLb ?_; refine aCd ?_; intro _; refine litF ?_; refine aEx ?_; refine ⟨(x5.2.1, x5.2.2), (Option.some.inj h).symm, ?_⟩; exact ca_XDLb
    · rintro ⟨v16, v17⟩ ho; have ho := ho.symm; subst ho; intro _; replace h := hK4; refine aSR ?_; intro _; obtain ⟨q15, h⟩ := grd_ok h; refine pl_XDLb ?_; refine pl_XDLb ?_; refine And.intro (by first | with_reducible assumption | (show (v17.length + 1) * 40 ≤ 140737488355328; with_reducible assumption) | omega | (simp; omega)) ?_; refine pe_XDLb ?_; refine dr_XDLb ?_; refine aSR ?_; intro _; obtain ⟨q16, h⟩ := grd_ok h; obtain ⟨q17, h⟩ := grd_ok h; obtain ⟨q18, h⟩ := grd_ok h; refine pr_XDLb ?_; refine pr_XDLb ?_; refine pr_XDLb ?_; refine pl_XDLb ?_; refine And.intro (by first | with_reducible assumption | (simp only [List.drop_zero, List.length_map, List.length_take, List.length_drop, List.length_append, List.length_cons, List.length_nil, Nat.zero_add, Nat.add_zero] at q16 q17 q18 ⊢; first | with_reducible assumption | omega) | (show (v17.length + 1 + ((a0.take ((a0.map cGAtom).length)).drop v16.toNat).length) * 40 ≤ 140737488355328; with_reducible assumption) | omega | (simp; omega)) ?_; have hdt : (((a0.map cGAtom).take a0.length).drop v16.toNat).length = ((a0.take a0.length).drop v16.toNat).length := (by simp); refine pe_XDLb ?_; refine dr_XDLb ?_; refine aRt ?_; obtain ⟨q19, h⟩ := grd_ok h; intro _; obtain rfl := inj1 h; repeat (first | exact True.intro | refine And.intro (bw_ownE rfl rfl rfl (by simp [cGAtom, List.map_drop, List.map_take, List.take_of_length_le (show (a0.map cGAtom).length ≤ a0.length by simp)]) (by first | (simp; done) | (simp; omega)) FrI.h (by rw [List.length_map]; exact q19)) ?_ | refine ci_XDLb ?_)
def M_r16_Replace_L1 (a0 : ByteArray) (a1 : List ByteArray) (a2 : List ByteArray) : Nat → Int → Option (ByteArray)
  | 0, _ => none
  | k9 + 1, v8 =>
    ob1 (sel (decide (v8 < ((a1.map cS).length : Int)))
      (sel (decide (v8 < ((a2.map cS).length : Int)))
        (some (.inl ()))
        (some (.inr ())))
      (some (.inr ())) : Option (Unit ⊕ Unit))
     (osum
     (fun _ => ix a1 v8 (fun y11 =>
        sel (y11.toList == a0.toList)
         (ix a2 v8 (fun y12 =>
           some y12))
         (M_r16_Replace_L1 a0 a1 a2 k9 (IntKind.i64.wrap (v8 + 1)))))
     (fun _ => some a0))
def M_r16_Replace (g : Nat) (a0 : ByteArray) (a1 : List ByteArray) (a2 : List ByteArray) : Option (ByteArray) :=
  M_r16_Replace_L1 a0 a1 a2 g 0
theorem A_r16_Replace (g : Nat) (a0 : ByteArray) (a1 : List ByteArray) (a2 : List ByteArray) {r1 : ByteArray} (h : M_r16_Replace g a0 a1 a2 = some r1) : ACall cx 71 [.c (.string a0), .sl 1 (a1.map cS), .sl 1 (a2.map cS)] (.c (.string r1)) := by
  refine aOf Tryd.func71 rfl (by decide) rfl (Nat.le_of_ble_eq_true rfl) ?_; intro _; unfold M_r16_Replace at h; refine aSR ?_; intro _; refine dr_XDLb ?_; refine aSq ?_; refine aSR ?_; intro _; refine dr_XDLb ?_; refine aBk ?_; refine awp_loop (α := Nat × Int) (fun x => mkS 31 [(0, .c (.string a0)), (1, .sl 1 (a1.map cS)), (2, .sl 1 (a2.map cS)), (7, .c (.int .i64 x.2))] []) (fun x => M_r16_Replace_L1 a0 a1 a2 x.1 x.2 = some r1) (fun x => x.1) (g, 0) h ?_ ?_
  · exact ca_XDLb
  · intro x1 h; intro _; obtain ⟨k9, m2, h⟩ := succ_of (f := fun n => M_r16_Replace_L1 a0 a1 a2 n x1.2) rfl h; replace h : M_r16_Replace_L1 a0 a1 a2 (k9 + 1) x1.2 = some r1 := h; rw [M_r16_Replace_L1] at h; obtain ⟨o3, h, hK4⟩ := ob1_ok h; refine awp_cut (α := Unit) (fun _ => mkS 31 [(0, .c (.string a0)), (1, .sl 1 (a1.map cS)), (2, .sl 1 (a2.map cS)), (7, .c (.int .i64 x1.2)), (13, .c (.int .i64 x1.2)), (14, .sl 1 (a2.map cS)), (15, .c (.int .i64 ((a2.map cS).length : Int))), (16, .c (.bool (decide (x1.2 < ((a2.map cS).length : Int)))))] []) (fun v => o3 = (.inl v)) ?_ ?_
    · refine aSR ?_; intro _; refine spl h (fun c5 h => ?_) (fun c5 h => ?_)
      · intro _; refine dr_XDLb ?_; refine aCd ?_; intro _; refine spl h (fun c6 h => ?_) (fun c6 h => ?_)
        · refine aSk ?_; refine ⟨(), (Option.some.inj h).symm, ?_⟩; exact ca_XDLb
        · refine aEx ?_; have j7 := Option.some.inj h; subst j7; replace h := (osum_r hK4); refine aSR ?_; intro _; refine dr_XDLb ?_; refine aRt ?_; intro _; obtain rfl := inj1 h; exact ca_XDLb
      · intro _; refine dr_XDLb ?_; refine aCd ?_; intro _; refine litF ?_; refine aEx ?_; have j8 := Option.some.inj h; subst j8; replace h := (osum_r hK4); refine aSR ?_; intro _; refine dr_XDLb ?_; refine aRt ?_; intro _; obtain rfl := inj1 h; exact ca_XDLb
    · rintro _ ho; have ho := ho.symm; subst ho; intro _; replace h := (osum_l hK4); refine aSq ?_; refine aBk ?_; refine aSR ?_; intro _; obtain ⟨y11, w9, q10, h⟩ := ix_ok h; refine Exists.intro (cS y11) (And.intro (map_at' w9) ?_); intro _; refine pr_XDLb ?_; refine dr_XDLb ?_; refine aCd ?_; intro _; refine spl h (fun c11 h => ?_) (fun c11 h => ?_)
      · refine aSR ?_; intro _; obtain ⟨y12, w12, q13, h⟩ := ix_ok h; refine Exists.intro (cS y12) (And.intro (map_at' w12) ?_); intro _; refine pr_XDLb ?_; refine dr_XDLb ?_; refine aRt ?_; intro _; obtain rfl := inj1 h; exact ca_XDLb
      · refine aSk ?_; refine aRg ?_; intro _; refine dr_XDLb ?_; refine ⟨(k9, (IntKind.i64.wrap (x1.2 + 1))), h, ltS m2, ?_⟩; exact ca_XDLb
def M_r16_differ_L1 (a0 : List (ByteArray × ByteArray)) (a1 : List ByteArray) (a2 : List ByteArray) (g : Nat) : Nat → Int → Option (Bool)
  | 0, _ => none
  | k11 + 1, v10 =>
    sel (decide (v10 < ((a0.map cA2_cS).length : Int)))
     (ix a0 v10 (fun y12 =>
       ob1 (M_r16_Replace g y12.1 a1 a2) (fun z13 =>
        ix a0 v10 (fun y14 =>
         ob1 (M_r16_Replace g y14.2 a1 a2) (fun z15 =>
          sel (z13.toList == z15.toList)
           (some false)
           (M_r16_differ_L1 a0 a1 a2 g k11 (IntKind.i64.wrap (v10 + 1))))))))
     (some true)
def M_r16_differ (g : Nat) (a0 : List (ByteArray × ByteArray)) (a1 : List ByteArray) (a2 : List ByteArray) : Option (Bool) :=
  M_r16_differ_L1 a0 a1 a2 g g 0
theorem A_r16_differ (g : Nat) (a0 : List (ByteArray × ByteArray)) (a1 : List ByteArray) (a2 : List ByteArray) {r1 : Bool} (h : M_r16_differ g a0 a1 a2 = some r1) : ACall cx 69 [.sl 2 (a0.map cA2_cS), .sl 1 (a1.map cS), .sl 1 (a2.map cS)] (.c (.bool r1)) := by
  refine aOf Tryd.func69 rfl (by decide) rfl (Nat.le_of_ble_eq_true rfl) ?_; intro _; unfold M_r16_differ at h; refine aSR ?_; intro _; refine dr_XDLb ?_; refine aSq ?_; refine aSR ?_; intro _; refine dr_XDLb ?_; refine aBk ?_; refine awp_loop (α := Nat × Int) (fun x => mkS 31 [(0, .sl 2 (a0.map cA2_cS)), (1, .sl 1 (a1.map cS)), (2, .sl 1 (a2.map cS)), (7, .c (.int .i64 x.2))] []) (fun x => M_r16_differ_L1 a0 a1 a2 g x.1 x.2 = some r1) (fun x => x.1) (g, 0) h ?_ ?_
  · exact ca_XDLb
  · intro x1 h; intro _; obtain ⟨k11, m2, h⟩ := succ_of (f := fun n => M_r16_differ_L1 a0 a1 a2 g n x1.2) rfl h; replace h : M_r16_differ_L1 a0 a1 a2 g (k11 + 1) x1.2 = some r1 := h; rw [M_r16_differ_L1] at h; refine aSq ?_; refine aSR ?_; intro _; refine dr_XDLb ?_; refine aCd ?_; intro _; refine spl h (fun c3 h => ?_) (fun c3 h => ?_)
    · refine aSk ?_; refine aSq ?_; refine aBk ?_; refine aSR ?_; intro _; obtain ⟨y12, w4, q5, h⟩ := ix_ok h; refine Exists.intro (cA2_cS y12) (And.intro (map_at' w4) ?_); intro _; refine ⟨_, lf_arrAtI rfl (Nat.le_of_ble_eq_true rfl) rfl rfl (tyTab_ok 58 _ rfl) rfl (tyTab_ok 9 _ rfl) (by decide) (by decide), ?_⟩; intro _; obtain ⟨z13, u6, h⟩ := ob1_ok h; refine cl_XDLb rfl (A_r16_Replace g y12.1 a1 a2 u6) ?_; intro _; obtain ⟨y14, w7, q8, h⟩ := ix_ok h; refine Exists.intro (cA2_cS y14) (And.intro (map_at' w7) ?_); intro _; refine ⟨_, lf_arrAtI rfl (Nat.le_of_ble_eq_true rfl) rfl rfl (tyTab_ok 58 _ rfl) rfl (tyTab_ok 9 _ rfl) (by decide) (by decide), ?_⟩; intro _; obtain ⟨z15, u9, h⟩ := ob1_ok h; refine cl_XDLb rfl (A_r16_Replace g y14.2 a1 a2 u9) ?_; intro _; refine pr_XDLb ?_; refine pr_XDLb ?_; refine dr_XDLb ?_; refine aCd ?_; intro _; refine spl h (fun c10 h => ?_) (fun c10 h => ?_)
      · refine aSR ?_; intro _; refine dr_XDLb ?_; refine aRt ?_; intro _; obtain rfl := inj1 h; exact ca_XDLb
      · refine aSk ?_; refine aRg ?_; intro _; refine dr_XDLb ?_; refine ⟨(k11, (IntKind.i64.wrap (x1.2 + 1))), h, ltS m2, ?_⟩; exact ca_XDLb
    · refine aEx ?_; refine aSR ?_; intro _; refine dr_XDLb ?_; refine aRt ?_; intro _; obtain rfl := inj1 h; exact ca_XDLb
def M_r16_fit_L1 (a0 : GAtom) (a1 : GAtom) (a2 : List ByteArray) (g : Nat) : Nat → Int → (List ByteArray) → Option ((List ByteArray) × Bool)
  | 0, _, _ => none
  | k30 + 1, v28, v29 =>
    sel (decide (v28 < ((a0.Args.map cS).length : Int)))
     (ob1 (sel (decide (((v29.length : Nat) : Int) < ((a2.map cS).length : Int)))
        (ix a0.Args v28 (fun y36 =>
          ix a2 ((v29.length : Nat) : Int) (fun y37 =>
           sel (y36.toList == y37.toList)
            (ix a1.Args v28 (fun y38 =>
              grd ((v29.length + 1) * 16 ≤ 140737488355328) (some (v29 ++ [y38]))))
            (some v29))))
        (some v29) : Option (List ByteArray))
       (fun v34 => ix a0.Args v28 (fun y39 =>
          grd (v34.length ≤ 140737488355328) (ob1 (M_r16_Replace g y39 a2 v34) (fun z40 =>
           ix a1.Args v28 (fun y41 =>
            sel (!(z40.toList == y41.toList))
             (some ([], false))
             (M_r16_fit_L1 a0 a1 a2 g k30 (IntKind.i64.wrap (v28 + 1)) v34)))))))
     (grd (v29.length ≤ 140737488355328) (some (v29, true)))
def M_r16_fit (g : Nat) (a0 : GAtom) (a1 : GAtom) (a2 : List ByteArray) (a3 : List ByteArray) : Option ((List ByteArray) × Bool) :=
  ob1 (sel (!(a0.Name.toList == a1.Name.toList))
    (some (.inr ([], false)))
    (sel (((a0.Args.map cS).length : Int) != ((a1.Args.map cS).length : Int))
      (some (.inr ([], false)))
      (some (.inl ()))) : Option (Unit ⊕ ((List ByteArray) × Bool)))
   (osum
   (fun _ => grd ((0 + a3.length) * 16 ≤ 140737488355328) (M_r16_fit_L1 a0 a1 a2 g g 0 a3))
   (fun (r1, r2) => some (r1, r2)))
theorem A_r16_fit (g : Nat) (a0 : GAtom) (a1 : GAtom) (a2 : List ByteArray) (a3 : List ByteArray) {r1 : List ByteArray} {r2 : Bool} (h : M_r16_fit g a0 a1 a2 a3 = some (r1, r2)) : ACall cx 70 [.agg [.c (.string a0.Name), .sl 1 (a0.Args.map cS)], .agg [.c (.string a1.Name), .sl 1 (a1.Args.map cS)], .sl 1 (a2.map cS), .sl 1 (a3.map cS)] (.tup [.sl 1 (r1.map cS), .c (.bool r2)]) := by
  refine aOf Tryd.func70 rfl (by decide) rfl (Nat.le_of_ble_eq_true rfl) ?_; intro _; unfold M_r16_fit at h; refine aSR ?_; intro _; refine dr_XDLb ?_; obtain ⟨o1, h, hK2⟩ := ob1_ok h; refine awp_cut (α := Unit) (fun _ => mkS 77 [(2, .sl 1 (a2.map cS)), (3, .sl 1 (a3.map cS)), (4, .ptr 4 0 0 0), (5, .ptr 5 0 0 0)] [(4, ⟨24, 2, true, [[.c (.string a0.Name), .sl 1 (a0.Args.map cS)]]⟩), (5, ⟨24, 2, true, [[.c (.string a1.Name), .sl 1 (a1.Args.map cS)]]⟩)]) (fun v => o1 = (.inl v)) ?_ ?_
  · refine aSR ?_; intro _; refine spf h (fun c3 h => ?_) (fun c3 h => ?_)
    · intro _; refine dr_XDLb ?_; refine aCd ?_; intro _; refine spl h (fun c4 h => ?_) (fun c4 h => ?_)
      · refine aSR ?_; intro _; refine dr_XDLb ?_; refine aRt ?_; have j5 := Option.some.inj h; subst j5; replace h := (osum_r hK2); intro _; obtain ⟨rfl, rfl⟩ := inj2 h; exact ca_XDLb
      · refine aSk ?_; refine ⟨(), (Option.some.inj h).symm, ?_⟩; exact ca_XDLb
    · intro _; refine dr_XDLb ?_; refine aCd ?_; intro _; refine litT ?_; refine aSR ?_; intro _; refine dr_XDLb ?_; refine aRt ?_; have j6 := Option.some.inj h; subst j6; replace h := (osum_r hK2); intro _; obtain ⟨rfl, rfl⟩ := inj2 h; exact ca_XDLb
  · rintro _ ho; have ho := ho.symm; subst ho; intro _; replace h := (osum_l hK2); refine aSR ?_; intro _; obtain ⟨q7, h⟩ := grd_ok h; refine pl_XDLb ?_; refine And.intro (by first | with_reducible assumption | (show (0 + a3.length) * 16 ≤ 140737488355328; with_reducible assumption) | omega | (simp; omega)) ?_; refine pe_XDLb ?_; refine dr_XDLb ?_; refine aSq ?_; refine aSR ?_; intro _; refine dr_XDLb ?_; refine aBk ?_; refine awp_loop (α := Nat × Int × (List ByteArray)) (fun x => mkS 77 [(2, .sl 1 (a2.map cS)), (4, .ptr 4 0 0 0), (5, .ptr 5 0 0 0), (10, .own 26 0 0 x.2.2.length), (11, .c (.int .i64 x.2.1))] [(4, ⟨24, 2, true, [[.c (.string a0.Name), .sl 1 (a0.Args.map cS)]]⟩), (5, ⟨24, 2, true, [[.c (.string a1.Name), .sl 1 (a1.Args.map cS)]]⟩), (26, ⟨9, 1, false, x.2.2.map cS⟩)]) (fun x => M_r16_fit_L1 a0 a1 a2 g x.1 x.2.1 x.2.2 = some (r1, r2)) (fun x => x.1) (g, 0, a3) h ?_ ?_
    · exact ca_XDLb
    · intro x8 h; intro _; obtain ⟨k30, m9, h⟩ := succ_of (f := fun n => M_r16_fit_L1 a0 a1 a2 g n x8.2.1 x8.2.2) rfl h; replace h : M_r16_fit_L1 a0 a1 a2 g (k30 + 1) x8.2.1 x8.2.2 = some (r1, r2) := h; rw [M_r16_fit_L1] at h; refine aSq ?_; refine aSR ?_; intro _; refine dr_XDLb ?_; refine aCd ?_; intro _; refine spl h (fun c10 h => ?_) (fun c10 h => ?_)
      · refine aSk ?_; refine aSq ?_; refine aBk ?_; obtain ⟨o11, h, hK12⟩ := ob1_ok h; refine awp_cut (α := List ByteArray) (fun v34 => mkS 77 [(2, .sl 1 (a2.map cS)), (4, .ptr 4 0 0 0), (5, .ptr 5 0 0 0), (10, .own 26 0 0 v34.length), (11, .c (.int .i64 x8.2.1))] [(4, ⟨24, 2, true, [[.c (.string a0.Name), .sl 1 (a0.Args.map cS)]]⟩), (5, ⟨24, 2, true, [[.c (.string a1.Name), .sl 1 (a1.Args.map cS)]]⟩), (26, ⟨9, 1, false, v34.map cS⟩)]) (fun v => o11 = v) ?_ ?_
        · refine aSR ?_; intro _; refine spl h (fun c13 h => ?_) (fun c13 h => ?_)
          · intro _; obtain ⟨y36, w14, q15, h⟩ := ix_ok h; refine Exists.intro (cS y36) (And.intro (map_at' w14) ?_); intro _; obtain ⟨y37, w16, q17, h⟩ := ix_ok h; refine Exists.intro (cS y37) (And.intro (map_at' w16) ?_); intro _; refine pr_XDLb ?_; refine pr_XDLb ?_; refine dr_XDLb ?_; refine aCd ?_; intro _; refine spl h (fun c18 h => ?_) (fun c18 h => ?_)
            · refine aRg ?_; intro _; obtain ⟨y38, w19, q20, h⟩ := ix_ok h; refine Exists.intro (cS y38) (And.intro (map_at' w19) ?_); intro _; obtain ⟨q21, h⟩ := grd_ok h; refine pr_XDLb ?_; refine pl_XDLb ?_; refine pl_XDLb ?_; refine And.intro (by first | with_reducible assumption | (show (x8.2.2.length + 1) * 16 ≤ 140737488355328; with_reducible assumption) | omega | (simp; omega)) ?_; refine pe_XDLb ?_; refine dr_XDLb ?_; refine ⟨(x8.2.2 ++ [y38]), (Option.some.inj h).symm, ?_⟩; exact ca_XDLb
            · refine aSk ?_; refine ⟨x8.2.2, (Option.some.inj h).symm, ?_⟩; exact ca_XDLb
          · intro _; refine dr_XDLb ?_; refine aCd ?_; intro _; refine litF ?_; refine aSk ?_; refine ⟨x8.2.2, (Option.some.inj h).symm, ?_⟩; exact ca_XDLb
        · rintro v34 ho; have ho := ho.symm; subst ho; intro _; replace h := hK12; refine aSR ?_; intro _; obtain ⟨y39, w22, q23, h⟩ := ix_ok h; refine Exists.intro (cS y39) (And.intro (map_at' w22) ?_); intro _; obtain ⟨q24, h⟩ := grd_ok h; obtain ⟨z40, u25, h⟩ := ob1_ok h; refine clb_XDLb [26] rfl rfl (A_r16_Replace g y39 a2 v34 u25) ?_; intro _; obtain ⟨y41, w26, q27, h⟩ := ix_ok h; refine Exists.intro (cS y41) (And.intro (map_at' w26) ?_); intro _; refine pr_XDLb ?_; refine pr_XDLb ?_; refine dr_XDLb ?_; refine aCd ?_; intro _; refine spl h (fun c28 h => ?_) (fun c28 h => ?_)
          · refine aSR ?_; intro _; refine dr_XDLb ?_; refine aRt ?_; intro _; obtain ⟨rfl, rfl⟩ := inj2 h; exact ca_XDLb
          · refine aSk ?_; refine aRg ?_; intro _; refine dr_XDLb ?_; refine ⟨(k30, (IntKind.i64.wrap (x8.2.1 + 1)), v34), h, ltS m9, ?_⟩; exact ca_XDLb
      · refine aEx ?_; refine aSR ?_; intro _; refine dr_XDLb ?_; refine aRt ?_; obtain ⟨q29, h⟩ := grd_ok h; intro _; obtain ⟨rfl, rfl⟩ := inj2 h; exact ca_XDLb
def M_r16_bindings_L1 (a0 : List GAtom) (a1 : List GAtom) (a2 : List (ByteArray × ByteArray)) (a3 : List ByteArray) (a4 : List ByteArray) (a5 : Int) (g : Nat) (rec : (List GAtom) → (List GAtom) → (List (ByteArray × ByteArray)) → (List ByteArray) → (List ByteArray) → Int → Option (List (List ByteArray))) : Nat → Int → (List (List ByteArray)) → Option (List (List ByteArray))
  | 0, _, _ => none
  | k16 + 1, v14, v15 =>
    sel (decide (v14 < ((a0.map cGAtom).length : Int)))
     (ix a1 a5 (fun y17 =>
       ix a0 v14 (fun y18 =>
        ob2 (M_r16_fit g y17 y18 a3 a4) (fun z19 z20 =>
         sel z20
          (ob1 (rec a0 a1 a2 a3 z19 (IntKind.i64.wrap (a5 + 1))) (fun z21 =>
            grd ((v15.length + z21.length) * 24 ≤ 140737488355328) (M_r16_bindings_L1 a0 a1 a2 a3 a4 a5 g rec k16 (IntKind.i64.wrap (v14 + 1)) (v15 ++ z21))))
          (M_r16_bindings_L1 a0 a1 a2 a3 a4 a5 g rec k16 (IntKind.i64.wrap (v14 + 1)) v15)))))
     (grd (v15.length ≤ 140737488355328) (some v15))
def M_r16_bindings : Nat → (List GAtom) → (List GAtom) → (List (ByteArray × ByteArray)) → (List ByteArray) → (List ByteArray) → Int → Option (List (List ByteArray))
  | 0, _, _, _, _, _, _ => none
  | g + 1, a0, a1, a2, a3, a4, a5 =>
    sel (a5 == ((a1.map cGAtom).length : Int))
   (ob1 (M_r16_differ g a2 a3 a4) (fun z1 =>
     sel z1
      (some [a4])
      (some [])))
   (M_r16_bindings_L1 a0 a1 a2 a3 a4 a5 g (M_r16_bindings g) g 0 [])
theorem A_r16_bindings : ∀ (g : Nat) (a0 : List GAtom) (a1 : List GAtom) (a2 : List (ByteArray × ByteArray)) (a3 : List ByteArray) (a4 : List ByteArray) (a5 : Int) {r1 : List (List ByteArray)} (_ : M_r16_bindings g a0 a1 a2 a3 a4 a5 = some r1), ACall cx 51 [.sl 2 (a0.map cGAtom), .sl 2 (a1.map cGAtom), .sl 2 (a2.map cA2_cS), .sl 1 (a3.map cS), .sl 1 (a4.map cS), .c (.int .i64 a5)] (.sl 1 (r1.map cL_cS))
  := by
  intro g
  induction g with
  | zero => intros; rename_i h; rw [M_r16_bindings] at h; cases h
  | succ g ih =>
    intro a0 a1 a2 a3 a4 a5 r1 h; refine aOf Tryd.func51 rfl (by decide) rfl (Nat.le_of_ble_eq_true rfl) ?_; intro _; rw [M_r16_bindings] at h; refine aSR ?_; intro _; refine dr_XDLb ?_; refine aSq ?_; refine aSR ?_; intro _; refine dr_XDLb ?_; refine aCd ?_; intro _; refine spl h (fun c1 h => ?_) (fun c1 h => ?_)
    · refine aSq ?_; refine aSR ?_; intro _; obtain ⟨z1, u2, h⟩ := ob1_ok h; refine cl_XDLb rfl (A_r16_differ g a2 a3 a4 u2) ?_; intro _; refine dr_XDLb ?_; refine aCd ?_; intro _; refine spl h (fun c3 h => ?_) (fun c3 h => ?_)
      · refine aSR ?_; intro _; refine dr_XDLb ?_; refine aRt ?_; intro _; obtain rfl := inj1 h; exact ca_XDLb
      · refine aSk ?_; refine aSR ?_; intro _; refine dr_XDLb ?_; refine aRt ?_; intro _; obtain rfl := inj1 h; exact ca_XDLb
    · refine aSk ?_; refine aSR ?_; intro _; refine dr_XDLb ?_; refine aSq ?_; refine aSR ?_; intro _; refine dr_XDLb ?_; refine aBk ?_; refine awp_loop (α := Nat × Int × (List (List ByteArray))) (fun x => mkS 59 [(0, .sl 2 (a0.map cGAtom)), (1, .sl 2 (a1.map cGAtom)), (2, .sl 2 (a2.map cA2_cS)), (3, .sl 1 (a3.map cS)), (4, .sl 1 (a4.map cS)), (5, .c (.int .i64 a5)), (13, .own 57 0 0 x.2.2.length), (14, .c (.int .i64 x.2.1))] [(57, ⟨22, 1, false, x.2.2.map cL_cS⟩)]) (fun x => M_r16_bindings_L1 a0 a1 a2 a3 a4 a5 g (M_r16_bindings g) x.1 x.2.1 x.2.2 = some r1) (fun x => x.1) (g, 0, []) h ?_ ?_
      · exact ca_XDLb
      · intro x4 h; intro _; obtain ⟨k16, m5, h⟩ := succ_of (f := fun n => M_r16_bindings_L1 a0 a1 a2 a3 a4 a5 g (M_r16_bindings g) n x4.2.1 x4.2.2) rfl h; replace h : M_r16_bindings_L1 a0 a1 a2 a3 a4 a5 g (M_r16_bindings g) (k16 + 1) x4.2.1 x4.2.2 = some r1 := h; rw [M_r16_bindings_L1] at h; refine aSq ?_; refine aSR ?_; intro _; refine dr_XDLb ?_; refine aCd ?_; intro _; refine spl h (fun c6 h => ?_) (fun c6 h => ?_)
        · refine aSk ?_; refine aSq ?_; refine aBk ?_; refine aSR ?_; intro _; obtain ⟨y17, w7, q8, h⟩ := ix_ok h; refine Exists.intro (cGAtom y17) (And.intro (map_at' w7) ?_); intro _; obtain ⟨y18, w9, q10, h⟩ := ix_ok h; refine Exists.intro (cGAtom y18) (And.intro (map_at' w9) ?_); intro _; obtain ⟨z19, z20, u11, h⟩ := ob2_ok h; refine cl_XDLb rfl (A_r16_fit g y17 y18 a3 a4 u11) ?_; intro _; refine pr_XDLb ?_; refine pr_XDLb ?_; refine dr_XDLb ?_; refine aSR ?_; intro _; refine dr_XDLb ?_; refine aCd ?_; intro _; refine spl h (fun c12 h => ?_) (fun c12 h => ?_)
          · refine aRg ?_; intro _; obtain ⟨z21, u13, h⟩ := ob1_ok h; refine cl_XDLb rfl (ih a0 a1 a2 a3 z19 (IntKind.i64.wrap (a5 + 1)) u13) ?_; intro _; obtain ⟨q14, h⟩ := grd_ok h; refine pl_XDLb ?_; refine And.intro (by first | with_reducible assumption | (show (x4.2.2.length + z21.length) * 24 ≤ 140737488355328; with_reducible assumption) | omega | (simp; omega)) ?_; refine pe_XDLb ?_; refine dr_XDLb ?_; refine aRg ?_; intro _; refine dr_XDLb ?_; refine ⟨(k16, (IntKind.i64.wrap (x4.2.1 + 1)), (x4.2.2 ++ z21)), h, ltS m5, ?_⟩; exact ca_XDLb
          · refine aSk ?_; refine aRg ?_; intro _; refine dr_XDLb ?_; refine ⟨(k16, (IntKind.i64.wrap (x4.2.1 + 1)), x4.2.2), h, ltS m5, ?_⟩; exact ca_XDLb
        · refine aEx ?_; refine aSR ?_; intro _; refine dr_XDLb ?_; refine aRt ?_; obtain ⟨q15, h⟩ := grd_ok h; intro _; obtain rfl := inj1 h; exact ca_XDLb
def M_r16_Atom_L1 (a0 : GAtom) (a1 : List ByteArray) (a2 : List ByteArray) (g : Nat) : Nat → Int → (List ByteArray) → Option (GAtom)
  | 0, _, _ => none
  | k9 + 1, v7, v8 =>
    sel (decide (v7 < ((a0.Args.map cS).length : Int)))
     (ix a0.Args v7 (fun y10 =>
       ob1 (M_r16_Replace g y10 a1 a2) (fun z11 =>
        grd ((v8.length + 1) * 16 ≤ 140737488355328) (M_r16_Atom_L1 a0 a1 a2 g k9 (IntKind.i64.wrap (v7 + 1)) (v8 ++ [z11])))))
     (grd (v8.length ≤ 140737488355328) (some ({ Name := a0.Name, Args := v8 : GAtom })))
def M_r16_Atom (g : Nat) (a0 : GAtom) (a1 : List ByteArray) (a2 : List ByteArray) : Option (GAtom) :=
  M_r16_Atom_L1 a0 a1 a2 g g 0 []
theorem A_r16_Atom (g : Nat) (a0 : GAtom) (a1 : List ByteArray) (a2 : List ByteArray) {r1 : GAtom} (h : M_r16_Atom g a0 a1 a2 = some r1) : ACall cx 52 [.agg [.c (.string a0.Name), .sl 1 (a0.Args.map cS)], .sl 1 (a1.map cS), .sl 1 (a2.map cS)] (.agg [.c (.string r1.Name), .sl 1 (r1.Args.map cS)]) := by
  refine aOf Tryd.func52 rfl (by decide) rfl (Nat.le_of_ble_eq_true rfl) ?_; intro _; unfold M_r16_Atom at h; refine aSR ?_; intro _; refine dr_XDLb ?_; refine aSR ?_; intro _; refine dr_XDLb ?_; refine aSq ?_; refine aSR ?_; intro _; refine dr_XDLb ?_; refine aBk ?_; refine awp_loop (α := Nat × Int × (List ByteArray)) (fun x => mkS 33 [(1, .sl 1 (a1.map cS)), (2, .sl 1 (a2.map cS)), (3, .ptr 3 0 0 0), (6, .ptr 6 0 0 0), (7, .ptr 7 0 0 0), (8, .c (.int .i64 x.2.1))] [(3, ⟨24, 2, true, [[.c (.string a0.Name), .sl 1 (a0.Args.map cS)]]⟩), (6, ⟨24, 2, true, [[.c (.string (⟨#[]⟩ : ByteArray)), .c (.slice none 0 0)]]⟩), (7, ⟨24, 2, true, [[.c (.string a0.Name), .own 30 0 0 x.2.2.length]]⟩), (30, ⟨9, 1, false, x.2.2.map cS⟩)]) (fun x => M_r16_Atom_L1 a0 a1 a2 g x.1 x.2.1 x.2.2 = some r1) (fun x => x.1) (g, 0, []) h ?_ ?_
  · exact ca_XDLb
  · intro x1 h; intro _; obtain ⟨k9, m2, h⟩ := succ_of (f := fun n => M_r16_Atom_L1 a0 a1 a2 g n x1.2.1 x1.2.2) rfl h; replace h : M_r16_Atom_L1 a0 a1 a2 g (k9 + 1) x1.2.1 x1.2.2 = some r1 := h; rw [M_r16_Atom_L1] at h; refine aSq ?_; refine aSR ?_; intro _; refine dr_XDLb ?_; refine aCd ?_; intro _; refine spl h (fun c3 h => ?_) (fun c3 h => ?_)
    · refine aSk ?_; refine aSq ?_; refine aBk ?_; refine aRg ?_; intro _; obtain ⟨y10, w4, q5, h⟩ := ix_ok h; refine Exists.intro (cS y10) (And.intro (map_at' w4) ?_); intro _; obtain ⟨z11, u6, h⟩ := ob1_ok h; refine cl_XDLb rfl (A_r16_Replace g y10 a1 a2 u6) ?_; intro _; obtain ⟨q7, h⟩ := grd_ok h; refine pr_XDLb ?_; refine pl_XDLb ?_; refine pl_XDLb ?_; refine And.intro (by first | with_reducible assumption | (show (x1.2.2.length + 1) * 16 ≤ 140737488355328; with_reducible assumption) | omega | (simp; omega)) ?_; refine pe_XDLb ?_; refine dr_XDLb ?_; refine aRg ?_; intro _; refine dr_XDLb ?_; refine ⟨(k9, (IntKind.i64.wrap (x1.2.1 + 1)), (x1.2.2 ++ [z11])), h, ltS m2, ?_⟩; exact ca_XDLb
    · refine aEx ?_; refine aSR ?_; intro _; refine dr_XDLb ?_; refine aRt ?_; obtain ⟨q8, h⟩ := grd_ok h; intro _; obtain rfl := inj1 h; exact ca_XDLb
def M_r16_Round_L1 (a1 : List GRule) (g : Nat) (v96 : Int) (z123 : List ByteArray) (z126 : List (List ByteArray)) : Nat → (List GAtom) → Int → Option (List GAtom)
  | 0, _, _ => none
  | k139 + 1, v137, v138 =>
    sel (decide (v138 < ((z126.map cL_cS).length : Int)))
     (ix a1 v96 (fun y140 =>
       ix z126 v138 (fun y141 =>
        ob1 (M_r16_Atom g y140.Head z123 y141) (fun z142 =>
         ob1 (M_r10_Add g v137 z142) (fun z143 =>
          M_r16_Round_L1 a1 g v96 z123 z126 k139 z143 (IntKind.i64.wrap (v138 + 1)))))))
     (some v137)
def M_r16_Round_L2 (a0 : List GAtom) (a1 : List GRule) (g : Nat) : Nat → (List GAtom) → Int → Option (List GAtom)
  | 0, _, _ => none
  | k97 + 1, v95, v96 =>
    sel (decide (v96 < ((a1.map cGRule).length : Int)))
     (ob1 (ix a1 v96 (fun y122 =>
        ob1 (M_r16_Variables g y122.Body) (fun z123 =>
         ix a1 v96 (fun y124 =>
          ix a1 v96 (fun y125 =>
           ob1 (M_r16_bindings g a0 y124.Body y125.Unequal z123 [] 0) (fun z126 =>
            M_r16_Round_L1 a1 g v96 z123 z126 g v95 0))))) : Option (List GAtom))
       (fun v120 => M_r16_Round_L2 a0 a1 g k97 v120 (IntKind.i64.wrap (v96 + 1))))
     (some v95)
def M_r16_Round (g : Nat) (a0 : List GAtom) (a1 : List GRule) : Option (List GAtom) :=
  M_r16_Round_L2 a0 a1 g g a0 0
theorem A_r16_Round (g : Nat) (a0 : List GAtom) (a1 : List GRule) {r1 : List GAtom} (h : M_r16_Round g a0 a1 = some r1) : ACall cx 21 [.sl 2 (a0.map cGAtom), .sl 4 (a1.map cGRule)] (.sl 2 (r1.map cGAtom)) := by
  refine aOf Tryd.func21 rfl (by decide) rfl (Nat.le_of_ble_eq_true rfl) ?_; intro _; unfold M_r16_Round at h; refine aSR ?_; intro _; refine dr_XDLb ?_; refine aSR ?_; intro _; refine dr_XDLb ?_; refine aSq ?_; refine aSR ?_; intro _; refine dr_XDLb ?_; refine aBk ?_; refine awp_loop (α := Nat × (List GAtom) × Int) (fun x => mkS 56 [(0, .sl 2 (a0.map cGAtom)), (1, .sl 4 (a1.map cGRule)), (5, .sl 2 (x.2.1.map cGAtom)), (6, .c (.int .i64 x.2.2))] []) (fun x => M_r16_Round_L2 a0 a1 g x.1 x.2.1 x.2.2 = some r1) (fun x => x.1) (g, a0, 0) h ?_ ?_
  · exact ca_XDLb
  · intro x1 h; intro _; obtain ⟨k97, m2, h⟩ := succ_of (f := fun n => M_r16_Round_L2 a0 a1 g n x1.2.1 x1.2.2) rfl h; replace h : M_r16_Round_L2 a0 a1 g (k97 + 1) x1.2.1 x1.2.2 = some r1 := h; rw [M_r16_Round_L2] at h; refine aSq ?_; refine aSR ?_; intro _; refine dr_XDLb ?_; refine aCd ?_; intro _; refine spl h (fun c3 h => ?_) (fun c3 h => ?_)
    · refine aSk ?_; obtain ⟨o4, h, hK5⟩ := ob1_ok h; refine awp_cut (α := List GAtom) (fun v120 => mkS 56 [(0, .sl 2 (a0.map cGAtom)), (1, .sl 4 (a1.map cGRule)), (5, .sl 2 (v120.map cGAtom)), (6, .c (.int .i64 x1.2.2))] []) (fun v => o4 = v) ?_ ?_
      · refine aBk ?_; refine aSR ?_; intro _; obtain ⟨y122, w6, q7, h⟩ := ix_ok h; refine Exists.intro (cGRule y122) (And.intro (map_at' w6) ?_); intro _; obtain ⟨z123, u8, h⟩ := ob1_ok h; refine cl_XDLb rfl (A_r16_Variables g y122.Body u8) ?_; intro _; refine pr_XDLb ?_; refine dr_XDLb ?_; refine aSR ?_; intro _; obtain ⟨y124, w9, q10, h⟩ := ix_ok h; refine Exists.intro (cGRule y124) (And.intro (map_at' w9) ?_); intro _; obtain ⟨y125, w11, q12, h⟩ := ix_ok h; refine Exists.intro (cGRule y125) (And.intro (map_at' w11) ?_); intro _; obtain ⟨z126, u13, h⟩ := ob1_ok h; refine clf_XDLb [] rfl rfl (A_r16_bindings g a0 y124.Body y125.Unequal z123 [] 0 u13) ?_; intro _; refine pr_XDLb ?_; refine pr_XDLb ?_; refine dr_XDLb ?_; refine aSR ?_; intro _; refine dr_XDLb ?_; refine aBk ?_; refine awp_loop (α := Nat × (List GAtom) × Int) (fun x => mkS 56 [(0, .sl 2 (a0.map cGAtom)), (1, .sl 4 (a1.map cGRule)), (5, .sl 2 (x.2.1.map cGAtom)), (6, .c (.int .i64 x1.2.2)), (7, .sl 1 (z123.map cS)), (8, .sl 1 (z126.map cL_cS)), (9, .c (.int .i64 x.2.2))] []) (fun x => M_r16_Round_L1 a1 g x1.2.2 z123 z126 x.1 x.2.1 x.2.2 = some o4) (fun x => x.1) (g, x1.2.1, 0) h ?_ ?_
        · exact ca_XDLb
        · intro x14 h; intro _; obtain ⟨k139, m15, h⟩ := succ_of (f := fun n => M_r16_Round_L1 a1 g x1.2.2 z123 z126 n x14.2.1 x14.2.2) rfl h; replace h : M_r16_Round_L1 a1 g x1.2.2 z123 z126 (k139 + 1) x14.2.1 x14.2.2 = some o4 := h; rw [M_r16_Round_L1] at h; refine aSq ?_; refine aSR ?_; intro _; refine dr_XDLb ?_; refine aCd ?_; intro _; refine spl h (fun c16 h => ?_) (fun c16 h => ?_)
          · refine aSk ?_; refine aSq ?_; refine aBk ?_; refine aRg ?_; intro _; obtain ⟨y140, w17, q18, h⟩ := ix_ok h; refine Exists.intro (cGRule y140) (And.intro (map_at' w17) ?_); intro _; obtain ⟨y141, w19, q20, h⟩ := ix_ok h; refine Exists.intro (cL_cS y141) (And.intro (map_at' w19) ?_); intro _; obtain ⟨z142, u21, h⟩ := ob1_ok h; refine cl_XDLb rfl (A_r16_Atom g y140.Head z123 y141 u21) ?_; intro _; obtain ⟨z143, u22, h⟩ := ob1_ok h; refine cl_XDLb rfl (A_r10_Add g x14.2.1 z142 u22) ?_; intro _; refine pr_XDLb ?_; refine pr_XDLb ?_; refine dr_XDLb ?_; refine aRg ?_; intro _; refine dr_XDLb ?_; refine ⟨(k139, z143, (IntKind.i64.wrap (x14.2.2 + 1))), h, ltS m15, ?_⟩; exact ca_XDLb
          · refine aEx ?_; refine ⟨x14.2.1, (Option.some.inj h).symm, ?_⟩; exact ca_XDLb
      · rintro v120 ho; have ho := ho.symm; subst ho; intro _; replace h := hK5; refine aRg ?_; intro _; refine dr_XDLb ?_; refine ⟨(k97, v120, (IntKind.i64.wrap (x1.2.2 + 1))), h, ltS m2, ?_⟩; exact ca_XDLb
    · refine aEx ?_; refine aSR ?_; intro _; refine dr_XDLb ?_; refine aRt ?_; intro _; obtain rfl := inj1 h; exact ca_XDLb
end Go.Proofs.YtflgpccacloadaaDoor.Am
/- Plain law: the reference's CheckRule. -/
namespace Go.Proofs.YtflgpccacloadaaDoor.Am
open Go.RowKit
theorem rvar_eq (s : ByteArray) : M_r16_Variable s = some (isV s) := by
  unfold M_r16_Variable isV
  rw [sel_dec, toList_bl, toList_bl, bl_extract]
  have hl := bl_len s
  obtain ⟨⟨l⟩⟩ := s
  have hbl : bl (⟨⟨l⟩⟩ : ByteArray) = l := rfl
  rw [hbl] at hl ⊢
  rw [← hl]
  cases l with
  | nil => rfl
  | cons c q =>
    rw [if_pos (by simp)]
    refine grd_mk (by simp) ?_
    have e1 : (byt (⟨⟨c :: q⟩⟩ : ByteArray) 0) = (c.toNat : Int) := rfl
    rw [e1, beq_int]
    have e2 : decide (1 ≤ (c :: q).length) = true := by simp
    have e3 : bl (⟨#[63]⟩ : ByteArray) = [63] := rfl
    rw [e2, e3]
    simp only [List.drop_zero, Nat.sub_zero, List.take_succ_cons, List.take_zero, Bool.true_and]
    by_cases e : c = 63
    · subst e; rfl
    · have : ¬ ((c.toNat : Int) = 63) := fun q => e (UInt8.toNat_inj.1 (by simpa using Int.ofNat.inj q))
      rw [decide_eq_false this]
      simp [e]
theorem rhas_loop (l : List ByteArray) (s : ByteArray) (hl : l.length ≤ 4611686018427387904) : ∀ (k i : Nat), l.length + 1 ≤ i + k → i ≤ l.length → M_r16_has_L1 l s k (i : Int) = some (decide (s ∈ l.drop i)) := by
  intro k
  induction k with
  | zero => intro i h1 h2; omega
  | succ k ih =>
    intro i h1 h2
    rw [M_r16_has_L1]
    by_cases h : i < l.length
    · have hy := List.getElem?_eq_getElem h
      rw [show decide ((i : Int) < ((l.map cS).length : Int)) = true by simp; omega]
      show ix l (i : Int) _ = _
      rw [ix_at hy, beq_bl, sel_dec, dropC hy]
      by_cases e : l[i] = s
      · rw [if_pos e]
        exact congrArg some (decide_eq_true (List.mem_cons.2 (.inl e.symm))).symm
      · rw [if_neg e, wrap_eq (by omega) (by omega)]
        have := ih (i + 1) (by omega) (by omega)
        rw [show ((i + 1 : Nat) : Int) = (i : Int) + 1 from rfl] at this
        rw [this]
        refine congrArg some (decide_eq_decide.2 ⟨fun q => List.mem_cons_of_mem _ q, fun q => ?_⟩)
        rcases List.mem_cons.1 q with q | q
        · exact absurd q.symm e
        · exact q
    · rw [show decide ((i : Int) < ((l.map cS).length : Int)) = false by simp; omega]
      rw [List.drop_of_length_le (by omega)]
      rfl
theorem rhas_eq (g : Nat) (l : List ByteArray) (s : ByteArray) (hl : l.length ≤ 4611686018427387904) (hg : l.length < g) : M_r16_has g l s = some (decide (s ∈ l)) := by
  unfold M_r16_has
  have := rhas_loop l s hl g 0 (by omega) (Nat.zero_le _)
  rw [List.drop_zero] at this
  exact this
theorem rvarL1 (body : List GAtom) (g v : Nat) (a : GAtom) (ha : body[v]? = some a) (hA : a.Args.length ≤ 4611686018427387904) : ∀ (k i : Nat) (out : List ByteArray), a.Args.length + 1 ≤ i + k → i ≤ a.Args.length → (out.length + (a.Args.length - i)) * 16 ≤ 140737488355328 → out.length + (a.Args.length - i) < g →
    M_r16_Variables_L1 body g (v : Int) k (i : Int) out = some ((a.Args.drop i).foldl addV out) := by
  intro k
  induction k with
  | zero => intro i out h1 h2; omega
  | succ k ih =>
    intro i out h1 h2 h3 h4
    rw [M_r16_Variables_L1, ix_at ha]
    by_cases h : i < a.Args.length
    · have hy := List.getElem?_eq_getElem h
      rw [show decide ((i : Int) < ((a.Args.map cS).length : Int)) = true by simp; omega]
      show ix body (v : Int) _ = _
      rw [ix_at ha, ix_at hy, rvar_eq, ob1_some, dropC hy, List.foldl_cons, wrap_eq (by omega) (by omega)]
      unfold addV
      cases hv : isV a.Args[i] with
      | false =>
        rw [if_neg (by decide)]
        exact ih (i + 1) out (by omega) (by omega) (by omega) (by omega)
      | true =>
        rw [if_pos rfl]
        refine grd_mk (by omega) ?_
        rw [rhas_eq g out _ (by omega) (by omega), ob1_some, sel_not, sel_dec]
        by_cases e : a.Args[i] ∈ out
        · rw [if_pos e, if_pos e]
          exact ih (i + 1) out (by omega) (by omega) (by omega) (by omega)
        · rw [if_neg e, if_neg e]
          exact grd_mk (by omega) (ih (i + 1) (out ++ [a.Args[i]]) (by omega) (by omega) (by simp; omega) (by simp; omega))
    · rw [show decide ((i : Int) < ((a.Args.map cS).length : Int)) = false by simp; omega]
      rw [List.drop_of_length_le (by omega)]
      rfl
theorem rvarL2 (body : List GAtom) (g : Nat) (hb : body.length ≤ 4611686018427387904) : ∀ (k i : Nat) (out : List ByteArray), body.length + 1 ≤ i + k → i ≤ body.length → (out.length + ((body.drop i).flatMap (·.Args)).length) * 16 ≤ 140737488355328 → out.length + ((body.drop i).flatMap (·.Args)).length < g →
    M_r16_Variables_L2 body g k (i : Int) out = some (((body.drop i).flatMap (·.Args)).foldl addV out) := by
  intro k
  induction k with
  | zero => intro i out h1 h2; omega
  | succ k ih =>
    intro i out h1 h2 h3 h4
    rw [M_r16_Variables_L2]
    by_cases h : i < body.length
    · have hy := List.getElem?_eq_getElem h
      rw [show decide ((i : Int) < ((body.map cGAtom).length : Int)) = true by simp; omega]
      rw [dropC hy, List.flatMap_cons, List.length_append] at h3 h4
      have h6 := addV_len body[i].Args out
      have h5 := rvarL1 body g i body[i] hy (by omega) g 0 out (by omega) (Nat.zero_le _) (by omega) (by omega)
      rw [List.drop_zero, show ((0 : Nat) : Int) = 0 from rfl] at h5
      show ob1 (M_r16_Variables_L1 body g (i : Int) g 0 out) _ = _
      rw [h5, ob1_some, wrap_eq (by omega) (by omega), dropC hy, List.flatMap_cons, List.foldl_append]
      exact ih (i + 1) _ (by omega) (by omega) (by omega) (by omega)
    · rw [show decide ((i : Int) < ((body.map cGAtom).length : Int)) = false by simp; omega]
      rw [List.drop_of_length_le (by omega)]
      exact grd_mk (by omega) rfl
theorem rvars_eq (body : List GAtom) (g : Nat) (hb : body.length < g) (hb2 : body.length ≤ 4611686018427387904) (ht : (body.flatMap (·.Args)).length * 16 ≤ 140737488355328) (hg : (body.flatMap (·.Args)).length < g) : M_r16_Variables g body = some (vars body) := by
  unfold M_r16_Variables
  have := rvarL2 body g hb2 g 0 [] (by omega) (Nat.zero_le _) (by rw [List.drop_zero]; simpa using ht) (by rw [List.drop_zero]; simpa using hg)
  rw [List.drop_zero] at this
  exact this
end Go.Proofs.YtflgpccacloadaaDoor.Am
/- Plain law: Solve as a loop of rounds. -/
namespace Go.Proofs.YtflgpccacloadaaDoor.Am
open Go.RowKit
def nextS (rules : List GRule) (S : GSet) : GSet := setA (S ++ allH S rules)
theorem mem_next {rules : List GRule} {S : GSet} {z : GAtom} : z ∈ nextS rules S ↔ z ∈ S ∨ z ∈ allH S rules := by
  unfold nextS
  rw [(setA_spec _).2.1, List.mem_append]
theorem strA_nodup {l : List GAtom} (hl : StrA l) : l.Nodup := hl.imp (fun {x y} hxy e => by rw [e, atomC_cmp.self] at hxy; omega)
theorem nodup_sub {α : Type} [DecidableEq α] {a b : List α} (ha : a.Nodup) (hs : ∀ x ∈ a, x ∈ b) : a.length ≤ b.length := nodupL a b ha hs
theorem next_ge {rules : List GRule} {S : GSet} (hS : StrA S) : S.length ≤ (nextS rules S).length := nodup_sub (strA_nodup hS) (fun x hx => mem_next.2 (.inl hx))
/-- a round that adds nothing -/
theorem next_fix {rules : List GRule} {S : GSet} (hS : StrA S) (h : (nextS rules S).length = S.length) : nextS rules S = S := by
  refine strA_unique (setA_spec _).1 hS (fun z => ⟨fun hz => ?_, fun hz => mem_next.2 (.inl hz)⟩)
  refine Classical.byContradiction fun hn => ?_
  have : (z :: S).length ≤ (nextS rules S).length := nodup_sub (List.nodup_cons.2 ⟨hn, strA_nodup hS⟩) (fun x hx => by
    rcases List.mem_cons.1 hx with e | e
    · rw [e]; exact hz
    · exact mem_next.2 (.inl e))
  simp at this
  omega
/-- what a round asks -/
structure RndOk (rules : List GRule) (S : GSet) : Prop where
  rule : ∀ r ∈ rules, RuleOk S r
  args : ∀ a ∈ S, a.Args.length * 16 ≤ 140737488355328
  cnt : (allH S rules).length ≤ 1048576
def runS (rules : List GRule) : Nat → GSet → List GAtom × Er
  | 0, _ => ([], .nil)
  | k + 1, S => if 4096 < (nextS rules S).length then ([], .no 5) else if (nextS rules S).length = S.length then (S, .nil) else runS rules k (nextS rules S)
theorem run_eq (rules : List GRule) (g : Nat) (Inv : GSet → Prop) (hI : ∀ S, Inv S → RndOk rules S) (hN : ∀ S, Inv S → (nextS rules S).length ≤ 4096 → Inv (nextS rules S)) (hb : ∀ r ∈ rules, r.Body.length < g) (hn : rules.length ≤ 4611686018427387904) (hg : 3000000 < g) :
    ∀ (k : Nat) (S : GSet), Inv S → StrA S → S.length ≤ 4096 → 4097 ≤ k + S.length → M_datalog_Solve_L2 rules g k S = some (runS rules k S) := by
  intro k
  induction k with
  | zero => intro S h1 h2 h3 h4; omega
  | succ k ih =>
    intro S h1 h2 h3 h4
    obtain ⟨r1, r2, r3⟩ := hI S h1
    rw [M_datalog_Solve_L2, round_eq g S rules r1 (by omega) r2 hb hn r3 hg]
    show sel _ _ _ = _
    rw [sel_dec, runS]
    have hge := next_ge (rules := rules) h2
    by_cases e1 : 4096 < (nextS rules S).length
    · rw [if_pos e1, if_pos (by rw [List.length_map]; exact Int.ofNat_lt.2 e1)]
    · rw [if_neg e1, if_neg (by rw [List.length_map]; exact fun q => e1 (Int.ofNat_lt.1 q)), beq_int, sel_dec]
      by_cases e2 : (nextS rules S).length = S.length
      · rw [if_pos e2, if_pos (by rw [List.length_map, List.length_map]; exact congrArg Int.ofNat e2)]
      · rw [if_neg e2, if_neg (by rw [List.length_map, List.length_map]; exact fun q => e2 (Int.ofNat.inj q))]
        exact ih (nextS rules S) (hN S h1 (by omega)) (setA_spec _).1 (by omega) (by omega)
/-- what Solve returns -/
def solveS (g : Nat) (facts : List GAtom) (rules : List GRule) : List GAtom × Er :=
  match firstE rules with
  | .no e => ([], .no e)
  | .nil => if facts.any badF = true then ([], .no 2) else if 1024 < rules.length then ([], .no 5) else if 4096 < (setA facts).length then ([], .no 5) else runS rules g (setA facts)
theorem solve_eq (g : Nat) (facts : List GAtom) (rules : List GRule) (hck : ∀ r ∈ rules, CkOk r) (hf : MadeOk facts) (hn : rules.length ≤ 4611686018427387904) (hb : ∀ r ∈ rules, r.Body.length < g) (hg : 3000000 < g) (hfl : facts.length < g)
    (Inv : GSet → Prop) (h0 : firstE rules = .nil → facts.any badF = false → rules.length ≤ 1024 → Inv (setA facts)) (hI : ∀ S, Inv S → RndOk rules S) (hN : ∀ S, Inv S → (nextS rules S).length ≤ 4096 → Inv (nextS rules S)) :
    M_datalog_Solve g facts rules = some (solveS g facts rules) := by
  unfold M_datalog_Solve
  have hf2 := hf.2
  rw [show (((rules.map cGRule).length : Int)).toNat + 1 = rules.length + 1 by simp]
  have h1 := slvL1 rules hck hn (rules.length + 1) 0 (by omega) (Nat.zero_le _)
  rw [List.drop_zero, show ((0 : Nat) : Int) = 0 from rfl] at h1
  rw [h1, ob1_some]
  unfold solveS
  cases he : firstE rules with
  | no e => rfl
  | nil =>
    show ob1 (M_s_ContainsFunc_Atom facts M_datalog_Solve_1) _ = _
    rw [cfA_eq facts _ badF (fun x hx => slv1_eq x (by have := hf.1 x hx; omega)) (by omega), ob1_some]
    cases hbf : facts.any badF with
    | true => rfl
    | false =>
      rw [if_neg (by decide), show ∀ (x y : Option (List GAtom × Er)), sel false x y = y from fun _ _ => rfl, sel_dec]
      by_cases e1 : 1024 < rules.length
      · rw [if_pos e1, if_pos (by rw [List.length_map]; omega)]
        try rfl
      · rw [if_neg e1, if_neg (by rw [List.length_map]; omega), made_eq g facts hf hfl, ob1_some]
        show sel _ _ _ = _
        rw [sel_dec]
        by_cases e2 : 4096 < (setA facts).length
        · rw [if_pos e2, if_pos (by rw [List.length_map]; exact Int.ofNat_lt.2 e2)]
        · rw [if_neg e2, if_neg (by rw [List.length_map]; exact fun q => e2 (Int.ofNat_lt.1 q))]
          exact run_eq rules g Inv hI hN hb hn hg g (setA facts) (h0 he hbf (by omega)) (setA_spec _).1 (by omega) (by omega)
end Go.Proofs.YtflgpccacloadaaDoor.Am
/- Plain law: the fixed example. -/
namespace Go.Proofs.YtflgpccacloadaaDoor.Am
open Go.RowKit
def isV' (s : ByteArray) : Bool := match bl s with | c :: _ => decide (c = 63) | [] => false
theorem isV_eq (s : ByteArray) : isV s = isV' s := by
  unfold isV isV'
  rw [toList_bl, toList_bl, bl_extract]
  have hl := bl_len s
  cases h : bl s with
  | nil => rw [h] at hl; simp at hl; rw [← hl]; rfl
  | cons c q =>
    rw [h] at hl
    rw [← hl]
    have e3 : bl (⟨#[63]⟩ : ByteArray) = [63] := rfl
    rw [e3]
    simp
    by_cases e : c = 63 <;> simp [e]
def tB' (b : Bd) (s : ByteArray) : Option ByteArray := if isV' s then getM b s else some s
theorem tB_eq (b : Bd) (s : ByteArray) : tB b s = tB' b s := by unfold tB tB'; rw [isV_eq]
def uni' : Bd → List ByteArray → List ByteArray → Bool × Bd
  | b, s :: r, c :: q =>
    match tB' b s with
    | none => uni' (setM b s c) r q
    | some x => if x = c then uni' b r q else (false, b)
  | b, _, _ => (true, b)
theorem uni_eq' : ∀ (xs cs : List ByteArray) (b : Bd) (fr : List ByteArray), (uni b fr xs cs).2 = uni' b xs cs
  | [], cs, b, fr => by rw [uni, uni'] <;> simp
  | s :: r, [], b, fr => by rw [uni, uni'] <;> simp
  | s :: r, c :: q, b, fr => by
    rw [uni, uni', tB_eq]
    cases tB' b s with
    | none => exact uni_eq' r q _ _
    | some x =>
      simp only []
      split
      · exact uni_eq' r q _ _
      · rfl
def dif' (b : Bd) (un : List (ByteArray × ByteArray)) : Bool := un.all (fun p => match tB' b p.1, tB' b p.2 with | some x, some y => decide (x ≠ y) | _, _ => true)
theorem dif_eq (b : Bd) (un : List (ByteArray × ByteArray)) : dif b un = dif' b un := by
  unfold dif dif'
  congr 1
  funext p
  unfold difP
  rw [tB_eq, tB_eq]
  rfl
def sols' (S : GSet) (un : List (ByteArray × ByteArray)) : List GAtom → Bd → List Bd
  | [], b => if dif' b un then [b] else []
  | a :: r, b => if dif' b un then (S.filter (fun f => decide (keyF f = keyF a))).flatMap (fun f => if (uni' b a.Args f.Args).1 then sols' S un r (uni' b a.Args f.Args).2 else []) else []
theorem sols_eq' (S : GSet) (un : List (ByteArray × ByteArray)) : ∀ (body : List GAtom) (b : Bd), sols S un body b = sols' S un body b
  | [], b => by rw [sols, sols', dif_eq]
  | a :: r, b => by
    rw [sols, sols', dif_eq, grp_eq]
    congr 2
    funext f
    rw [← uni_eq' a.Args f.Args b [], sols_eq' S un r]
def hatom' (b : Bd) (h : GAtom) : GAtom := ⟨h.Name, h.Args.map (fun t => (tB' b t).getD (⟨#[]⟩ : ByteArray))⟩
theorem hatom_eq (b : Bd) (h : GAtom) : hatom b h = hatom' b h := by
  unfold hatom hatom'
  simp only [tB_eq]
theorem rheads_eq (S : GSet) (r : GRule) : rheads S r = (sols' S r.Unequal r.Body []).map (fun b => hatom' b r.Head) := by
  unfold rheads rsols
  rw [sols_eq']
  exact List.map_congr_left (fun b _ => hatom_eq b _)
/-- the example -/
def exE1 : GAtom := ⟨⟨#[101]⟩, [⟨#[97]⟩, ⟨#[98]⟩]⟩
def exE2 : GAtom := ⟨⟨#[101]⟩, [⟨#[98]⟩, ⟨#[99]⟩]⟩
def exX : GAtom := ⟨⟨#[114]⟩, [⟨#[97]⟩, ⟨#[99]⟩]⟩
def exR : GRule := { Head := ⟨⟨#[114]⟩, [⟨#[63, 120]⟩, ⟨#[63, 122]⟩]⟩, Body := [⟨⟨#[101]⟩, [⟨#[63, 120]⟩, ⟨#[63, 121]⟩]⟩, ⟨⟨#[101]⟩, [⟨#[63, 121]⟩, ⟨#[63, 122]⟩]⟩], Unequal := [] }
theorem exH0 : rheads [exE1, exE2] exR = [exX] := by
  rw [rheads_eq]
  decide +kernel
theorem exH1 : rheads [exE1, exE2, exX] exR = [exX] := by
  rw [rheads_eq]
  decide +kernel
theorem exS : StrA [exE1, exE2, exX] := by
  unfold StrA
  have h1 : atomC exE1 exE2 < 0 := by decide +kernel
  have h2 : atomC exE1 exX < 0 := by decide +kernel
  have h3 : atomC exE2 exX < 0 := by decide +kernel
  simp [h1, h2, h3]
theorem isV_fun : isV = isV' := funext isV_eq
theorem exCk : ckR exR = .nil := by
  unfold ckR vars addV badT
  rw [isV_fun]
  decide +kernel
theorem exF : [exE1, exE2].any badF = false := by
  unfold badF
  rw [isV_fun]
  decide +kernel
theorem exKey : KeyOk exX := by
  refine ⟨?_, by decide⟩
  rw [← bl_len]
  unfold atomKey exX
  rw [bl_fold, bl_append, bl_append, bl_ita]
  have h1 : (⟨#[114]⟩ : ByteArray).size = 1 := rfl
  have h2 : (⟨#[97]⟩ : ByteArray).size = 1 := rfl
  have h3 : (⟨#[99]⟩ : ByteArray).size = 1 := rfl
  simp only [encL, h1, h2, h3, dec_sm (show 1 < 10 by decide), List.flatMap_cons, List.flatMap_nil, List.length_append, List.length_cons, List.length_nil, bl_len]
  decide
theorem exAll (S : GSet) (h : rheads S exR = [exX]) : allH S [exR] = [exX] := by
  unfold allH
  rw [List.flatMap_cons, List.flatMap_nil, h]
  rfl
theorem exSet0 : setA [exE1, exE2] = [exE1, exE2] := by
  refine strA_unique (setA_spec _).1 ?_ (setA_spec _).2.1
  have := exS
  unfold StrA at this ⊢
  exact this.sublist (by simp)
theorem exN0 : nextS [exR] [exE1, exE2] = [exE1, exE2, exX] := by
  refine strA_unique (setA_spec _).1 exS (fun z => ?_)
  rw [mem_next, exAll _ exH0]
  simp [or_assoc]
theorem exN1 : nextS [exR] [exE1, exE2, exX] = [exE1, exE2, exX] := by
  refine strA_unique (setA_spec _).1 exS (fun z => ?_)
  rw [mem_next, exAll _ exH1]
  simp
  exact fun h => .inr (.inr h)
theorem exOk (S : GSet) (h : rheads S exR = [exX]) : RuleOk S exR := ⟨by decide, by decide, by decide, fun a ha => by
  rw [h] at ha
  rw [List.mem_singleton.1 ha]
  exact exKey⟩
theorem exRnd (S : GSet) (h : rheads S exR = [exX]) (hS : ∀ a ∈ S, a.Args.length * 16 ≤ 140737488355328) : RndOk [exR] S :=
  ⟨fun r hr => by rw [List.mem_singleton.1 hr]; exact exOk S h, hS, by rw [exAll S h]; decide⟩
theorem exSolve (g : Nat) (hg : 3000000 < g) : M_datalog_Solve g [exE1, exE2] [exR] = some ([exE1, exE2, exX], .nil) := by
  have h1 := solve_eq g [exE1, exE2] [exR] (fun r hr => by rw [List.mem_singleton.1 hr]; exact ⟨by decide, by decide, by decide⟩) ⟨by decide, by decide⟩ (by decide) (fun r hr => by rw [List.mem_singleton.1 hr]; show 2 < g; omega) hg (by show 2 < g; omega)
    (fun S => S = [exE1, exE2] ∨ S = [exE1, exE2, exX]) (fun _ _ _ => .inl exSet0)
    (fun S hS => by
      rcases hS with e | e
      · rw [e]; exact exRnd _ exH0 (by decide)
      · rw [e]; exact exRnd _ exH1 (by decide))
    (fun S hS _ => by
      rcases hS with e | e
      · rw [e]; exact .inr exN0
      · rw [e]; exact .inr exN1)
  rw [h1]
  unfold solveS
  have h2 : firstE [exR] = .nil := by rw [firstE, exCk]; rfl
  rw [h2]
  show some (if [exE1, exE2].any badF = true then _ else _) = _
  rw [exF, if_neg (by decide), if_neg (by decide), exSet0, if_neg (by decide)]
  obtain ⟨k, rfl⟩ : ∃ k, g = k + 2 := ⟨g - 2, by omega⟩
  rw [runS, exN0, if_neg (by decide), if_neg (by decide), runS, exN1, if_neg (by decide), if_pos rfl]
theorem texts_loop (a b : List ByteArray) : ∀ (k : Nat) (i : Int), M_b_Texts_L1 a b k i = M_s_Equal_string_L1 a b k i
  | 0, _ => rfl
  | k + 1, i => by
    rw [M_b_Texts_L1, M_s_Equal_string_L1]
    congr 1
    congr 1
    funext y
    congr 1
    funext z
    rw [texts_loop a b k]
theorem textsE (a b : List ByteArray) (ha : a.length ≤ 4611686018427387904) (hb : b.length ≤ 4611686018427387904) : M_b_Texts a b = some (decide (a = b)) := by
  rw [← eqS_eq a b ha hb]
  unfold M_b_Texts M_s_Equal_string
  rw [texts_loop]
theorem awake16 (g : Nat) (hg : 3000000 < g) : M_l16_awake g = some true := by
  unfold M_l16_awake
  show ob2 (M_datalog_Solve g [exE1, exE2] [exR]) _ = _
  rw [exSolve g hg, ob2_some]
  have e : ((([exE1, exE2, exX].map cGAtom).length : Int) == 3) = true := by decide
  show sel ((([exE1, exE2, exX].map cGAtom).length : Int) == 3) (ix _ _ _) (some false) = some true
  rw [e]
  show ix [exE1, exE2, exX] 2 _ = _
  rw [show (2 : Int) = ((2 : Nat) : Int) from rfl, ix_at (show [exE1, exE2, exX][2]? = some exX from rfl), beq_bl]
  rw [show decide (exX.Name = (⟨#[114]⟩ : ByteArray)) = true by decide +kernel]
  show ix [exE1, exE2, exX] 2 _ = _
  rw [show (2 : Int) = ((2 : Nat) : Int) from rfl, ix_at (show [exE1, exE2, exX][2]? = some exX from rfl), textsE _ _ (by decide) (by decide), ob1_some]
  decide +kernel
end Go.Proofs.YtflgpccacloadaaDoor.Am
/- Models printed by my decompiler, and the proofs that the code computes them. -/
namespace Go.Proofs.YtflgpccacloadaaDoor.Am
open Go.RowKit
end Go.Proofs.YtflgpccacloadaaDoor.Am
/- Plain law: DatalogRules. -/
namespace Go.Proofs.YtflgpccacloadaaDoor.Am
open Go.RowKit
end Go.Proofs.YtflgpccacloadaaDoor.Am
/- Readers of atoms and rules, with a bound on their bulk. -/
namespace Go.Proofs.YtflgpccacloadaaDoor.Am
open Go.RowKit Go.ChangeShapes Go.WideShapes Go.Deep Go.Joins
section
variable {H : Type} {enc : TypeId × Value → H} {w : World} {base : Nat} {spare : Nat → Bool} {held : Bool}
set_option maxRecDepth 100000 in
theorem bStrs : OpensB enc Tryd.prog w base spare held 22 (fun l : List ByteArray => [.sl 1 (l.map cS)]) (fun l => l.length * 16 ≤ 140737488355328 ∧ ∀ s ∈ l, s.size ≤ 140737488355328) (fun l => (l.map (fun s : ByteArray => s.size + 1)).sum + 1) :=
  opensB_slice Tryd.underlying22 (by kernel_rfl) (by kernel_rfl) (by decide) (by decide) (opensB_str Tryd.underlying9)
/-- how much an atom, a rule weigh -/
def wA (a : GAtom) : Nat := (a.Name.size + 1) + ((a.Args.map (fun s : ByteArray => s.size + 1)).sum + 1)
def wAs (l : List GAtom) : Nat := (l.map wA).sum + 1
def wUn (l : List (ByteArray × ByteArray)) : Nat := (l.map (fun p => p.1.size + p.2.size + 2)).sum + 1
def wR (r : GRule) : Nat := wA r.Head + (wAs r.Body + wUn r.Unequal)
/-- a struct argument -/
theorem arg_structB {P : Program} {t : TypeId} {fs : Array Field} {α : Type} {en : α → List AV} {R : α → Prop} {wt : α → Nat} {r : Reach} {b0 : Nat} {v : Value} {d : DataW H} {p : List MemPlace} (ht : P.underlying t = some (.struct fs)) (hv : Value.okWide P w r b0 t v) (ho : OpensB enc P w base spare held t en R wt) (h : DataW.Trod enc P w base spare held t v d p) (hs : Sized P t d) :
    ∃ a, R a ∧ wt a ≤ Rows.uptoBulk d ∧ RV w nov mZ (.agg (en a)) v := by
  obtain ⟨cs, rfl, hsz⟩ := okWide_struct ht hv
  obtain ⟨fuel, hf⟩ := h
  obtain ⟨a, ha, hw, hc⟩ := ho fuel _ _ hf hs
  exact ⟨a, ha, hw, agg_rv hc⟩
end
end Go.Proofs.YtflgpccacloadaaDoor.Am
/- Plain law: what the search finds, said by assignments. -/
namespace Go.Proofs.YtflgpccacloadaaDoor.Am
open Go.RowKit
abbrev Asg := ByteArray → ByteArray
def trm (σ : Asg) (s : ByteArray) : ByteArray := if isV s = true then σ s else s
def inst (σ : Asg) (a : GAtom) : GAtom := ⟨a.Name, a.Args.map (trm σ)⟩
/-- an assignment goes on from a binding -/
def Agr (b : Bd) (σ : Asg) : Prop := ∀ s v, getM b s = some v → σ s = v
theorem getM_setM {b : Bd} {k v s : ByteArray} : getM (setM b k v) s = if k = s then some v else getM b s := by
  induction b with
  | nil => rw [setM, getM]; split <;> simp [getM] <;> assumption
  | cons y r ih =>
    obtain ⟨x, u⟩ := y
    rw [setM]
    by_cases e : x = k
    · rw [if_pos e, getM, getM]
      by_cases e2 : k = s
      · rw [if_pos e2, if_pos e2]
      · rw [if_neg e2, if_neg e2, if_neg (fun e3 => e2 (e ▸ e3))]
    · rw [if_neg e, getM, getM, ih]
      by_cases e2 : x = s
      · rw [if_pos e2, if_pos e2, if_neg (fun e3 => e (e2.trans e3.symm))]
      · rw [if_neg e2, if_neg e2]
theorem tB_none {b : Bd} {s : ByteArray} (h : tB b s = none) : isV s = true ∧ getM b s = none := by
  unfold tB at h
  split at h
  · exact ⟨by assumption, h⟩
  · cases h
theorem agr_set {b : Bd} {s c : ByteArray} {σ : Asg} (h : getM b s = none) : Agr (setM b s c) σ ↔ Agr b σ ∧ σ s = c := by
  constructor
  · intro ha
    refine ⟨fun t v ht => ha t v ?_, ha s c ?_⟩
    · rw [getM_setM, if_neg (fun e => by rw [e, ht] at h; cases h)]; exact ht
    · rw [getM_setM, if_pos rfl]
  · rintro ⟨h1, h2⟩ t v ht
    rw [getM_setM] at ht
    split at ht
    · rename_i e; rw [← e, h2]; exact Option.some.inj ht
    · exact h1 t v ht
theorem tB_agr {b : Bd} {s x : ByteArray} {σ : Asg} (ha : Agr b σ) (h : tB b s = some x) : trm σ s = x := by
  unfold tB at h
  unfold trm
  split at h
  · rename_i e; rw [if_pos e]; exact ha _ _ h
  · rename_i e; rw [if_neg e]; exact Option.some.inj h
theorem uni_sound {σ : Asg} : ∀ (xs cs : List ByteArray) (b : Bd) (fr : List ByteArray), xs.length = cs.length → (uni b fr xs cs).2.1 = true → Agr (uni b fr xs cs).2.2 σ → xs.map (trm σ) = cs ∧ Agr b σ
  | [], [], b, fr, _, _, h => ⟨rfl, by rw [uni] at h; exact h; simp⟩
  | s :: r, [], b, fr, hl, _, _ => by simp at hl
  | [], c :: q, b, fr, hl, _, _ => by simp at hl
  | s :: r, c :: q, b, fr, hl, h1, h2 => by
    rw [uni] at h1 h2
    cases ht : tB b s with
    | none =>
      rw [ht] at h1 h2
      obtain ⟨hv, hg⟩ := tB_none ht
      obtain ⟨h3, h4⟩ := uni_sound r q _ _ (by simpa using hl) h1 h2
      obtain ⟨h5, h6⟩ := (agr_set hg).1 h4
      exact ⟨by rw [List.map_cons, h3, trm, if_pos hv, h6], h5⟩
    | some x =>
      rw [ht] at h1 h2
      simp only [] at h1 h2
      by_cases e : x = c
      · rw [if_pos e] at h1 h2
        obtain ⟨h3, h4⟩ := uni_sound r q _ _ (by simpa using hl) h1 h2
        exact ⟨by rw [List.map_cons, h3, tB_agr h4 ht, e], h4⟩
      · rw [if_neg e] at h1; cases h1
theorem uni_comp {σ : Asg} : ∀ (xs cs : List ByteArray) (b : Bd) (fr : List ByteArray), xs.map (trm σ) = cs → Agr b σ → (uni b fr xs cs).2.1 = true ∧ Agr (uni b fr xs cs).2.2 σ
  | [], [], b, fr, _, h => by rw [uni]; exact ⟨rfl, h⟩; simp
  | s :: r, [], b, fr, hl, _ => by simp at hl
  | [], c :: q, b, fr, hl, _ => by simp at hl
  | s :: r, c :: q, b, fr, hl, ha => by
    obtain ⟨h1, h2⟩ := List.cons.inj hl
    rw [uni]
    cases ht : tB b s with
    | none =>
      obtain ⟨hv, hg⟩ := tB_none ht
      refine uni_comp r q _ _ h2 ((agr_set hg).2 ⟨ha, ?_⟩)
      rw [← h1, trm, if_pos hv]
    | some x =>
      simp only []
      rw [if_pos (by rw [← h1, tB_agr ha ht])]
      exact uni_comp r q _ _ h2 ha
theorem getM_key {b : Bd} {s : ByteArray} : getM b s = none ↔ s ∉ b.map Prod.fst := by
  induction b with
  | nil => simp [getM]
  | cons y r ih =>
    obtain ⟨x, u⟩ := y
    rw [getM, List.map_cons, List.mem_cons]
    by_cases e : x = s
    · rw [if_pos e]; simp [e]
    · rw [if_neg e, ih]
      simp [Ne.symm e]
theorem set_keys {b : Bd} {s c : ByteArray} (h : getM b s = none) : (setM b s c).map Prod.fst = b.map Prod.fst ++ [s] := by
  rw [setM_none (fun p hp e => (getM_key.1 h) (List.mem_map.2 ⟨p, hp, e⟩)), List.map_append]
  rfl
theorem uni_keys : ∀ (xs cs : List ByteArray) (b : Bd) (fr : List ByteArray), xs.length = cs.length → (uni b fr xs cs).2.1 = true → (uni b fr xs cs).2.2.map Prod.fst = xs.foldl addV (b.map Prod.fst)
  | [], [], b, fr, _, _ => by rw [uni]; rfl; simp
  | s :: r, [], b, fr, hl, _ => by simp at hl
  | [], c :: q, b, fr, hl, _ => by simp at hl
  | s :: r, c :: q, b, fr, hl, h1 => by
    rw [uni] at h1 ⊢
    rw [List.foldl_cons]
    cases ht : tB b s with
    | none =>
      rw [ht] at h1
      obtain ⟨hv, hg⟩ := tB_none ht
      have := uni_keys r q _ _ (by simpa using hl) h1
      refine this.trans ?_
      rw [set_keys hg, addV, if_pos hv, if_neg (getM_key.1 hg)]
    | some x =>
      rw [ht] at h1
      simp only [] at h1 ⊢
      by_cases e : x = c
      · rw [if_pos e] at h1 ⊢
        refine (uni_keys r q _ _ (by simpa using hl) h1).trans ?_
        unfold tB at ht
        split at ht
        · rename_i hv
          rw [addV, if_pos hv, if_pos]
          refine Classical.byContradiction fun hn => ?_
          rw [getM_key.2 hn] at ht
          cases ht
        · rename_i hv
          rw [addV, if_neg hv]
      · rw [if_neg e] at h1; cases h1
theorem dif_agr {b : Bd} {un : List (ByteArray × ByteArray)} {σ : Asg} (ha : Agr b σ) (h : ∀ p ∈ un, trm σ p.1 ≠ trm σ p.2) : dif b un = true := by
  refine List.all_eq_true.2 fun p hp => ?_
  unfold difP
  split
  · rename_i x y h1 h2
    rw [← tB_agr ha h1, ← tB_agr ha h2]
    exact decide_eq_true (h p hp)
  · rfl
theorem sols_comp {S : GSet} {un : List (ByteArray × ByteArray)} {σ : Asg} (hu : ∀ p ∈ un, trm σ p.1 ≠ trm σ p.2) : ∀ (body : List GAtom) (b : Bd), Agr b σ → (∀ a ∈ body, inst σ a ∈ S) → ∃ b' ∈ sols S un body b, Agr b' σ
  | [], b, ha, _ => by
    rw [sols, if_pos (dif_agr ha hu)]
    exact ⟨b, List.mem_singleton.2 rfl, ha⟩
  | a :: r, b, ha, h => by
    rw [sols, if_pos (dif_agr ha hu)]
    have h1 := h a (List.mem_cons_self ..)
    obtain ⟨h2, h3⟩ := uni_comp a.Args (inst σ a).Args b [] rfl ha
    obtain ⟨b', h4, h5⟩ := sols_comp hu r _ h3 (fun x hx => h x (List.mem_cons_of_mem _ hx))
    refine ⟨b', List.mem_flatMap.2 ⟨inst σ a, grp_mem.2 ⟨h1, rfl, by simp [inst]⟩, ?_⟩, h5⟩
    rw [if_pos h2]
    exact h4
theorem sols_sound {S : GSet} {un : List (ByteArray × ByteArray)} : ∀ (body : List GAtom) (b b' : Bd), b' ∈ sols S un body b →
    dif b' un = true ∧ b'.map Prod.fst = (body.flatMap (·.Args)).foldl addV (b.map Prod.fst) ∧ ∀ σ, Agr b' σ → Agr b σ ∧ ∀ a ∈ body, inst σ a ∈ S
  | [], b, b', h => by
    rw [sols] at h
    split at h
    · rename_i hd
      rw [List.mem_singleton.1 h]
      exact ⟨hd, rfl, fun σ hs => ⟨hs, fun a ha => by cases ha⟩⟩
    · cases h
  | a :: r, b, b', h => by
    rw [sols] at h
    split at h
    · obtain ⟨f, hf, h⟩ := List.mem_flatMap.1 h
      obtain ⟨g1, g2, g3⟩ := grp_mem.1 hf
      split at h
      · rename_i hu
        obtain ⟨h1, h2, h3⟩ := sols_sound r _ b' h
        refine ⟨h1, ?_, fun σ hs => ?_⟩
        · rw [h2, uni_keys _ _ _ _ g3.symm hu, List.flatMap_cons, List.foldl_append]
        · obtain ⟨h4, h5⟩ := h3 σ hs
          obtain ⟨h6, h7⟩ := uni_sound _ _ _ _ g3.symm hu h4
          refine ⟨h7, fun x hx => ?_⟩
          rcases List.mem_cons.1 hx with e | e
          · subst e
            have : inst σ x = f := by
              obtain ⟨n, q⟩ := f
              unfold inst
              simp only at g2 h6
              rw [h6, g2]
            rw [this]; exact g1
          · exact h5 x e
      · cases h
    · cases h
/-- the assignment of a binding -/
def asg (b : Bd) : Asg := fun s => (getM b s).getD (⟨#[]⟩ : ByteArray)
theorem agr_asg (b : Bd) : Agr b (asg b) := fun s v h => by unfold asg; rw [h]; rfl
theorem tB_key {b : Bd} {s : ByteArray} (h : isV s = true → s ∈ b.map Prod.fst) : ∃ x, tB b s = some x := by
  unfold tB
  split
  · rename_i hv
    cases hg : getM b s with
    | none => exact absurd (h hv) (getM_key.1 hg)
    | some x => exact ⟨x, rfl⟩
  · exact ⟨s, rfl⟩
theorem hatom_agr {b : Bd} {h : GAtom} {σ : Asg} (ha : Agr b σ) (hk : ∀ s ∈ h.Args, isV s = true → s ∈ b.map Prod.fst) : hatom b h = inst σ h := by
  unfold hatom inst
  congr 1
  refine List.map_congr_left fun s hs => ?_
  obtain ⟨x, hx⟩ := tB_key (hk s hs)
  rw [hx, tB_agr ha hx]
  rfl
theorem dif_sound {b : Bd} {un : List (ByteArray × ByteArray)} {σ : Asg} (ha : Agr b σ) (hk : ∀ p ∈ un, (isV p.1 = true → p.1 ∈ b.map Prod.fst) ∧ (isV p.2 = true → p.2 ∈ b.map Prod.fst)) (h : dif b un = true) : ∀ p ∈ un, trm σ p.1 ≠ trm σ p.2 := by
  intro p hp
  have h1 := List.all_eq_true.1 h p hp
  obtain ⟨x, hx⟩ := tB_key (hk p hp).1
  obtain ⟨y, hy⟩ := tB_key (hk p hp).2
  unfold difP at h1
  rw [hx, hy] at h1
  rw [tB_agr ha hx, tB_agr ha hy]
  exact of_decide_eq_true h1
/-- a rule whose terms are known -/
structure Known (r : GRule) : Prop where
  head : ∀ s ∈ r.Head.Args, isV s = true → s ∈ vars r.Body
  un : ∀ p ∈ r.Unequal, (isV p.1 = true → p.1 ∈ vars r.Body) ∧ (isV p.2 = true → p.2 ∈ vars r.Body)
theorem known_of {r : GRule} (h : ckR r = .nil) : Known r := by
  unfold ckR at h
  split at h
  · cases h
  · rename_i hn
    have hn : ∀ s ∈ terms r, isV s = true → s ∈ vars r.Body := fun s hs hv => Classical.byContradiction fun q => hn (List.any_eq_true.2 ⟨s, hs, by unfold badT; rw [hv, decide_eq_false q]; rfl⟩)
    refine ⟨fun s hs => hn s (List.mem_append_left _ hs), fun p hp => ⟨hn _ (List.mem_append_right _ ?_), hn _ (List.mem_append_right _ ?_)⟩⟩
    · exact List.mem_flatMap.2 ⟨p, hp, by simp⟩
    · exact List.mem_flatMap.2 ⟨p, hp, by simp⟩
/-- an assignment that satisfies a rule's body -/
def Sat (S : GAtom → Prop) (r : GRule) (σ : Asg) : Prop := (∀ a ∈ r.Body, S (inst σ a)) ∧ ∀ p ∈ r.Unequal, trm σ p.1 ≠ trm σ p.2
theorem rheads_mem {S : GSet} {r : GRule} (hk : Known r) {z : GAtom} : z ∈ rheads S r ↔ ∃ σ, Sat (· ∈ S) r σ ∧ z = inst σ r.Head := by
  unfold rheads rsols
  rw [List.mem_map]
  constructor
  · rintro ⟨b, hb, rfl⟩
    obtain ⟨h1, h2, h3⟩ := sols_sound _ _ _ hb
    refine ⟨asg b, ⟨(h3 _ (agr_asg b)).2, dif_sound (agr_asg b) (fun p hp => ?_) h1⟩, hatom_agr (agr_asg b) (fun s hs => ?_)⟩
    · rw [h2]; exact hk.un p hp
    · rw [h2]; exact hk.head s hs
  · rintro ⟨σ, ⟨h1, h2⟩, rfl⟩
    obtain ⟨b, hb, ha⟩ := sols_comp h2 r.Body [] (fun s v h => by cases h) h1
    refine ⟨b, hb, hatom_agr ha (fun s hs => ?_)⟩
    rw [(sols_sound _ _ _ hb).2.1]
    exact hk.head s hs
theorem allH_mem {S : GSet} {rules : List GRule} (hk : ∀ r ∈ rules, Known r) {z : GAtom} : z ∈ allH S rules ↔ ∃ r ∈ rules, ∃ σ, Sat (· ∈ S) r σ ∧ z = inst σ r.Head := by
  unfold allH
  rw [List.mem_flatMap]
  constructor
  · rintro ⟨r, hr, h⟩; exact ⟨r, hr, (rheads_mem (hk r hr)).1 h⟩
  · rintro ⟨r, hr, h⟩; exact ⟨r, hr, (rheads_mem (hk r hr)).2 h⟩
end Go.Proofs.YtflgpccacloadaaDoor.Am
/- Plain law: how many bindings and heads there are. -/
namespace Go.Proofs.YtflgpccacloadaaDoor.Am
open Go.RowKit
def prodL (C : List ByteArray) : Nat → List (List ByteArray)
  | 0 => [[]]
  | n + 1 => C.flatMap (fun c => (prodL C n).map (c :: ·))
theorem prodL_len (C : List ByteArray) : ∀ n, (prodL C n).length = C.length ^ n
  | 0 => rfl
  | n + 1 => by
    have h := prodL_len C n
    rw [prodL, List.length_flatMap]
    have : (C.map fun c => ((prodL C n).map (c :: ·)).length).sum = C.length * (prodL C n).length := by
      generalize prodL C n = P
      induction C with
      | nil => simp
      | cons x r ih => 
        have e : ∀ l : List ByteArray, (l.map fun c => (P.map (c :: ·)).length).sum = l.length * P.length := by
          intro l
          induction l with
          | nil => simp
          | cons y q ih2 => rw [List.map_cons, List.sum_cons, ih2, List.length_map, List.length_cons, Nat.succ_mul]; omega
        exact e _
    rw [this, h, Nat.pow_succ, Nat.mul_comm]
theorem prodL_mem {C : List ByteArray} : ∀ {n : Nat} {l : List ByteArray}, l.length = n → (∀ x ∈ l, x ∈ C) → l ∈ prodL C n
  | 0, [], _, _ => List.mem_singleton.2 rfl
  | n + 1, x :: r, h, hc => by
    rw [prodL]
    exact List.mem_flatMap.2 ⟨x, hc x (List.mem_cons_self ..), List.mem_map.2 ⟨r, prodL_mem (by simpa using h) (fun y hy => hc y (List.mem_cons_of_mem _ hy)), rfl⟩⟩
  | 0, x :: r, h, _ => by simp at h
  | n + 1, [], h, _ => by simp at h
theorem nodup_flatMap {α β : Type} {f : α → List β} : ∀ {l : List α}, l.Nodup → (∀ x ∈ l, (f x).Nodup) → (∀ x ∈ l, ∀ y ∈ l, x ≠ y → ∀ z, z ∈ f x → z ∈ f y → False) → (l.flatMap f).Nodup
  | [], _, _, _ => List.nodup_nil
  | a :: r, hn, h1, h2 => by
    obtain ⟨ha, hr⟩ := List.nodup_cons.1 hn
    rw [List.flatMap_cons]
    refine List.nodup_append.2 ⟨h1 a (List.mem_cons_self ..), nodup_flatMap hr (fun x hx => h1 x (List.mem_cons_of_mem _ hx)) (fun x hx y hy => h2 x (List.mem_cons_of_mem _ hx) y (List.mem_cons_of_mem _ hy)), fun z hz w hw e => ?_⟩
    obtain ⟨x, hx, hw⟩ := List.mem_flatMap.1 hw
    exact h2 a (List.mem_cons_self ..) x (List.mem_cons_of_mem _ hx) (fun q => ha (q ▸ hx)) z hz (e ▸ hw)
theorem sols_nodup {S : GSet} (hS : S.Nodup) {un : List (ByteArray × ByteArray)} : ∀ (body : List GAtom) (b : Bd), (sols S un body b).Nodup
  | [], b => by
    rw [sols]
    split <;> simp
  | a :: r, b => by
    rw [sols]
    split
    · refine nodup_flatMap (by rw [grp_eq]; exact hS.filter _) (fun f _ => ?_) (fun f hf f' hf' hne z hz hz' => ?_)
      · split
        · exact sols_nodup hS r _
        · exact List.nodup_nil
      · obtain ⟨_, g2, g3⟩ := grp_mem.1 hf
        obtain ⟨_, g2', g3'⟩ := grp_mem.1 hf'
        split at hz
        · rename_i hu
          split at hz'
          · rename_i hu'
            have h1 := ((sols_sound r _ z hz).2.2 _ (agr_asg z)).1
            have h1' := ((sols_sound r _ z hz').2.2 _ (agr_asg z)).1
            have h2 := (uni_sound _ _ _ _ g3.symm hu h1).1
            have h2' := (uni_sound _ _ _ _ g3'.symm hu' h1').1
            refine hne ?_
            obtain ⟨n, x⟩ := f
            obtain ⟨n', x'⟩ := f'
            simp only at g2 g2' h2 h2'
            rw [g2, g2', ← h2, ← h2']
          · cases hz'
        · cases hz
    · exact List.nodup_nil
theorem uni_vals {C : List ByteArray} : ∀ (xs cs : List ByteArray) (b : Bd) (fr : List ByteArray), (∀ x ∈ cs, x ∈ C) → (∀ p ∈ b, p.2 ∈ C) → ∀ p ∈ (uni b fr xs cs).2.2, p.2 ∈ C
  | [], cs, b, fr, _, h => by rw [uni]; exact h; simp
  | s :: r, [], b, fr, _, h => by rw [uni]; exact h; simp
  | s :: r, c :: q, b, fr, hc, h => by
    rw [uni]
    cases ht : tB b s with
    | none =>
      refine uni_vals r q _ _ (fun x hx => hc x (List.mem_cons_of_mem _ hx)) (fun p hp => ?_)
      rw [setM_none (fun p hp e => (getM_key.1 (tB_none ht).2) (List.mem_map.2 ⟨p, hp, e⟩))] at hp
      rcases List.mem_append.1 hp with e | e
      · exact h p e
      · rw [List.mem_singleton.1 e]; exact hc c (List.mem_cons_self ..)
    | some x =>
      simp only []
      split
      · exact uni_vals r q _ _ (fun x hx => hc x (List.mem_cons_of_mem _ hx)) h
      · exact h
/-- a set over some constants -/
def Over (C : List ByteArray) (S : GSet) : Prop := ∀ a ∈ S, ∀ x ∈ a.Args, x ∈ C
theorem sols_vals {C : List ByteArray} {S : GSet} (hS : Over C S) {un : List (ByteArray × ByteArray)} : ∀ (body : List GAtom) (b b' : Bd), (∀ p ∈ b, p.2 ∈ C) → b' ∈ sols S un body b → ∀ p ∈ b', p.2 ∈ C
  | [], b, b', hb, h => by
    rw [sols] at h
    split at h
    · rw [List.mem_singleton.1 h]; exact hb
    · cases h
  | a :: r, b, b', hb, h => by
    rw [sols] at h
    split at h
    · obtain ⟨f, hf, h⟩ := List.mem_flatMap.1 h
      split at h
      · exact sols_vals hS r _ b' (uni_vals _ _ _ _ (hS f (grp_mem.1 hf).1) hb) h
      · cases h
    · cases h
theorem zip_eq {α β : Type} : ∀ {l l' : List (α × β)}, l.map Prod.fst = l'.map Prod.fst → l.map Prod.snd = l'.map Prod.snd → l = l'
  | [], [], _, _ => rfl
  | [], y :: r, h, _ => by simp at h
  | x :: r, [], h, _ => by simp at h
  | (a, b) :: r, (c, d) :: q, h, h' => by
    obtain ⟨h1, h2⟩ := List.cons.inj h
    obtain ⟨h3, h4⟩ := List.cons.inj h'
    simp only at h1 h3
    rw [h1, h3, zip_eq h2 h4]
theorem rsols_len {C : List ByteArray} {S : GSet} (hS : Over C S) (hn : S.Nodup) (r : GRule) : (rsols S r).length ≤ C.length ^ (vars r.Body).length := by
  have h1 : ((rsols S r).map (fun b => b.map Prod.snd)).Nodup := by
    refine List.pairwise_map.2 ((sols_nodup hn r.Body []).imp_of_mem (fun {b b'} hb hb' hne e => hne (zip_eq ?_ e)))
    rw [(sols_sound _ _ _ hb).2.1, (sols_sound _ _ _ hb').2.1]
  have h2 := nodup_sub (b := prodL C (vars r.Body).length) h1 (fun l hl => by
    obtain ⟨b, hb, rfl⟩ := List.mem_map.1 hl
    refine prodL_mem ?_ (fun x hx => ?_)
    · rw [List.length_map, ← List.length_map (f := Prod.fst), (sols_sound _ _ _ hb).2.1]; rfl
    · obtain ⟨p, hp, rfl⟩ := List.mem_map.1 hx
      exact sols_vals hS _ _ _ (fun p hp => by cases hp) hb p hp)
  rw [prodL_len, List.length_map] at h2
  exact h2
/-- the atoms that a rule can make -/
def made1 (C : List ByteArray) (r : GRule) : List GAtom :=
  if r.Head.Args.length ≤ (vars r.Body).length then (prodL C r.Head.Args.length).map (fun l => ⟨r.Head.Name, l⟩)
  else (prodL C (vars r.Body).length).map (fun l => hatom ((vars r.Body).zip l) r.Head)
theorem made1_len (C : List ByteArray) (r : GRule) : (made1 C r).length = C.length ^ min r.Head.Args.length (vars r.Body).length := by
  unfold made1
  split
  · rw [List.length_map, prodL_len, Nat.min_eq_left (by assumption)]
  · rw [List.length_map, prodL_len, Nat.min_eq_right (by omega)]
theorem zip_self {α β : Type} : ∀ l : List (α × β), (l.map Prod.fst).zip (l.map Prod.snd) = l
  | [] => rfl
  | (a, b) :: r => by rw [List.map_cons, List.map_cons, List.zip_cons_cons, zip_self r]
theorem getM_val {b : Bd} {s v : ByteArray} (h : getM b s = some v) : ∃ p ∈ b, p.2 = v := by
  induction b with
  | nil => cases h
  | cons y r ih =>
    obtain ⟨x, u⟩ := y
    rw [getM] at h
    split at h
    · exact ⟨_, List.mem_cons_self .., Option.some.inj h⟩
    · obtain ⟨p, hp, e⟩ := ih h
      exact ⟨p, List.mem_cons_of_mem _ hp, e⟩
theorem rheads_made {C : List ByteArray} {S : GSet} (hS : Over C S) {r : GRule} (hk : Known r) (hc : ∀ x ∈ r.Head.Args, isV x = false → x ∈ C) {z : GAtom} (hz : z ∈ rheads S r) : z ∈ made1 C r ∧ ∀ x ∈ z.Args, x ∈ C := by
  obtain ⟨b, hb, rfl⟩ := List.mem_map.1 hz
  obtain ⟨_, h2, _⟩ := sols_sound _ _ _ hb
  have hv := sols_vals hS _ _ _ (fun p hp => by cases hp) hb
  have h3 : ∀ x ∈ (hatom b r.Head).Args, x ∈ C := by
    intro x hx
    obtain ⟨t, ht, rfl⟩ := List.mem_map.1 hx
    unfold tB
    cases ht2 : isV t with
    | false => exact hc t ht ht2
    | true =>
      rw [if_pos rfl]
      cases hg : getM b t with
      | none => exact absurd (by rw [h2]; exact hk.head t ht ht2) (getM_key.1 hg)
      | some v =>
        obtain ⟨p, hp, e⟩ := getM_val hg
        rw [Option.getD_some, ← e]
        exact hv p hp
  refine ⟨?_, h3⟩
  unfold made1
  split
  · exact List.mem_map.2 ⟨(hatom b r.Head).Args, prodL_mem (by simp [hatom]) h3, rfl⟩
  · refine List.mem_map.2 ⟨b.map Prod.snd, prodL_mem ?_ (fun x hx => ?_), ?_⟩
    · rw [List.length_map, ← List.length_map (f := Prod.fst), h2]; rfl
    · obtain ⟨p, hp, rfl⟩ := List.mem_map.1 hx
      exact hv p hp
    · have : vars r.Body = b.map Prod.fst := h2.symm
      rw [this, zip_self]
theorem flat_len {α β : Type} (f : α → List β) (n : α → Nat) (hf : ∀ x, (f x).length = n x) : ∀ l : List α, (l.flatMap f).length = (l.map n).sum
  | [] => rfl
  | x :: r => by rw [List.flatMap_cons, List.length_append, flat_len f n hf r, List.map_cons, List.sum_cons, hf]
theorem flat_le {α β : Type} (f : α → List β) (k : Nat) : ∀ l : List α, (∀ x ∈ l, (f x).length ≤ k) → (l.flatMap f).length ≤ l.length * k
  | [], _ => by simp
  | x :: r, h => by
    rw [List.flatMap_cons, List.length_append, List.length_cons, Nat.succ_mul]
    have h1 := h x (List.mem_cons_self ..)
    have h2 := flat_le f k r (fun y hy => h y (List.mem_cons_of_mem _ hy))
    omega
/-- the constants of a program -/
def addC (out : List ByteArray) (s : ByteArray) : List ByteArray := if s ∈ out then out else if isV s = true then out else out ++ [s]
def consts (l : List GAtom) : List ByteArray := (l.flatMap (·.Args)).foldl addC []
theorem addC_mem : ∀ (l out : List ByteArray) (x : ByteArray), x ∈ l.foldl addC out ↔ x ∈ out ∨ x ∈ l ∧ isV x = false
  | [], out, x => by simp
  | s :: r, out, x => by
    rw [List.foldl_cons, addC_mem r, List.mem_cons]
    unfold addC
    by_cases h1 : s ∈ out
    · rw [if_pos h1]
      constructor
      · rintro (h | ⟨h, h'⟩)
        · exact .inl h
        · exact .inr ⟨.inr h, h'⟩
      · rintro (h | ⟨h | h, h'⟩)
        · exact .inl h
        · exact .inl (h ▸ h1)
        · exact .inr ⟨h, h'⟩
    · rw [if_neg h1]
      cases hv : isV s with
      | true =>
        rw [if_pos rfl]
        constructor
        · rintro (h | ⟨h, h'⟩)
          · exact .inl h
          · exact .inr ⟨.inr h, h'⟩
        · rintro (h | ⟨h | h, h'⟩)
          · exact .inl h
          · rw [h, hv] at h'; cases h'
          · exact .inr ⟨h, h'⟩
      | false =>
        rw [if_neg (by decide), List.mem_append, List.mem_singleton]
        constructor
        · rintro ((h | h) | ⟨h, h'⟩)
          · exact .inl h
          · exact .inr ⟨.inl h, h ▸ hv⟩
          · exact .inr ⟨.inr h, h'⟩
        · rintro (h | ⟨h | h, h'⟩)
          · exact .inl (.inl h)
          · exact .inl (.inr h)
          · exact .inr ⟨h, h'⟩
theorem addC_len : ∀ (l out : List ByteArray), (l.foldl addC out).length ≤ out.length + l.length
  | [], out => Nat.le_refl _
  | s :: r, out => by
    have h1 := addC_len r (addC out s)
    have h2 : (addC out s).length ≤ out.length + 1 := by
      unfold addC
      split
      · omega
      · split <;> simp
    rw [List.foldl_cons]
    simp only [List.length_cons]
    omega
end Go.Proofs.YtflgpccacloadaaDoor.Am
/- Plain law: the sizes of a program (Large). -/
namespace Go.Proofs.YtflgpccacloadaaDoor.Am
open Go.RowKit
def bigA (a : GAtom) : Bool := decide (8 < a.Args.length) || decide (100 < a.Name.size)
theorem many_loop (l : List GAtom) (hl : l.length ≤ 4611686018427387904) : ∀ (k i : Nat), l.length + 1 ≤ i + k → i ≤ l.length → M_l16_many_L1 l k (i : Int) = some ((l.drop i).any bigA) := by
  intro k
  induction k with
  | zero => intro i h1 h2; omega
  | succ k ih =>
    intro i h1 h2
    rw [M_l16_many_L1]
    by_cases h : i < l.length
    · have hy := List.getElem?_eq_getElem h
      rw [show decide ((i : Int) < ((l.map cGAtom).length : Int)) = true by simp; omega]
      show ix l (i : Int) _ = _
      rw [ix_at hy, dropC hy, List.any_cons, wrap_eq (by omega) (by omega)]
      have h3 : decide (((l[i].Args.map cS).length : Int) > 8) = decide (8 < l[i].Args.length) := decide_eq_decide.2 (by rw [List.length_map]; omega)
      rw [h3, show bigA l[i] = (decide (8 < l[i].Args.length) || decide (100 < l[i].Name.size)) from rfl]
      cases decide (8 < l[i].Args.length) with
      | true => simp [sel]
      | false =>
        show ix l (i : Int) _ = _
        rw [ix_at hy, show decide ((l[i].Name.size : Int) > 100) = decide (100 < l[i].Name.size) from decide_eq_decide.2 (by omega)]
        cases decide (100 < l[i].Name.size) with
        | true => simp [sel]
        | false =>
          have := ih (i + 1) (by omega) (by omega)
          rw [show ((i + 1 : Nat) : Int) = (i : Int) + 1 from rfl] at this
          exact this
    · rw [show decide ((i : Int) < ((l.map cGAtom).length : Int)) = false by simp; omega]
      rw [List.drop_of_length_le (by omega)]
      rfl
theorem many_eq (g : Nat) (l : List GAtom) (hl : l.length ≤ 4611686018427387904) (hg : l.length < g) : M_l16_many g l = some (l.any bigA) := by
  unfold M_l16_many
  have := many_loop l hl g 0 (by omega) (Nat.zero_le _)
  rw [List.drop_zero] at this
  exact this
theorem isV_q : isV (⟨#[63]⟩ : ByteArray) = true := by rw [isV_eq]; decide +kernel
theorem con1 (seen : List ByteArray) (hs : ∀ x ∈ seen, isV x = false) (hl : seen.length ≤ 4611686018427387904) : ∀ (k i : Nat) (v : ByteArray), seen.length + 1 ≤ i + k → i ≤ seen.length →
    M_l16_constants_L1 seen k v (i : Int) = some (if v ∈ seen.drop i then (⟨#[63]⟩ : ByteArray) else v) := by
  intro k
  induction k with
  | zero => intro i v h1 h2; omega
  | succ k ih =>
    intro i v h1 h2
    rw [M_l16_constants_L1]
    by_cases h : i < seen.length
    · have hy := List.getElem?_eq_getElem h
      rw [show decide ((i : Int) < ((seen.length : Nat) : Int)) = true from decide_eq_true (by omega)]
      show ixn _ _ _ = _
      unfold ixn
      rw [Int.toNat_natCast, hy]
      simp only []
      have h3 := ih (i + 1) (⟨#[63]⟩ : ByteArray) (by omega) (by omega)
      have h4 := ih (i + 1) v (by omega) (by omega)
      rw [show ((i + 1 : Nat) : Int) = (i : Int) + 1 from rfl] at h3 h4
      refine grd_mk (by omega) (grd_mk (by omega) ?_)
      rw [beq_bl, sel_dec, wrap_eq (by omega) (by omega), h3, h4, dropC hy]
      have hq : (⟨#[63]⟩ : ByteArray) ∉ seen.drop (i + 1) := fun q => by
        have := hs _ (List.mem_of_mem_drop q)
        rw [isV_q] at this; cases this
      by_cases e : seen[i] = v
      · rw [if_pos e, if_neg hq, if_pos (List.mem_cons.2 (.inl e.symm))]
      · rw [if_neg e]
        by_cases e2 : v ∈ seen.drop (i + 1)
        · rw [if_pos e2, if_pos (List.mem_cons_of_mem _ e2)]
        · rw [if_neg e2, if_neg]
          intro q
          rcases List.mem_cons.1 q with q | q
          · exact e q.symm
          · exact e2 q
    · rw [show decide ((i : Int) < ((seen.length : Nat) : Int)) = false from decide_eq_false (by omega)]
      rw [List.drop_of_length_le (by omega), if_neg (by simp)]
      rfl
theorem addC_nv {out : List ByteArray} (h : ∀ x ∈ out, isV x = false) (s : ByteArray) : ∀ x ∈ addC out s, isV x = false := by
  unfold addC
  split
  · exact h
  · split
    · exact h
    · rename_i hv
      intro x hx
      rcases List.mem_append.1 hx with e | e
      · exact h x e
      · rw [List.mem_singleton.1 e]; simpa using hv
theorem con2 (l : List GAtom) (g v : Nat) (a : GAtom) (ha : l[v]? = some a) (hA : a.Args.length ≤ 4611686018427387904) : ∀ (k i : Nat) (out : List ByteArray), a.Args.length + 1 ≤ i + k → i ≤ a.Args.length → (∀ x ∈ out, isV x = false) → (out.length + (a.Args.length - i)) * 16 ≤ 140737488355328 → out.length + (a.Args.length - i) < g →
    M_l16_constants_L2 l g (v : Int) k (i : Int) out = some ((a.Args.drop i).foldl addC out) := by
  intro k
  induction k with
  | zero => intro i out h1 h2; omega
  | succ k ih =>
    intro i out h1 h2 h3 h4 h5
    rw [M_l16_constants_L2, ix_at ha]
    by_cases h : i < a.Args.length
    · have hy := List.getElem?_eq_getElem h
      rw [show decide ((i : Int) < ((a.Args.map cS).length : Int)) = true by simp; omega]
      show ob1 (ix l (v : Int) _) _ = _
      have h6 := con1 out h3 (by omega) g 0 a.Args[i] (by omega) (Nat.zero_le _)
      rw [List.drop_zero, show ((0 : Nat) : Int) = 0 from rfl] at h6
      have h7 : (ix l (v : Int) (fun y771 => ix y771.Args (i : Int) (fun y772 => ob1 (M_l16_constants_L1 out g y772 0 : Option (ByteArray)) (fun v781 => ob1 (M_r16_Variable v781) (fun z791 =>
              sel (!z791) (grd ((out.length + 1) * 16 ≤ 140737488355328) (some (out ++ [v781]))) (some out))))) : Option (List ByteArray)) = some (addC out a.Args[i]) := by
        rw [ix_at ha, ix_at hy, h6, ob1_some, rvar_eq, ob1_some]
        unfold addC
        by_cases e : a.Args[i] ∈ out
        · rw [if_pos e, if_pos e, isV_q]; rfl
        · rw [if_neg e, if_neg e]
          cases hv : isV a.Args[i] with
          | true => rfl
          | false => exact grd_mk (by omega) rfl
      rw [h7, ob1_some, dropC hy, List.foldl_cons, wrap_eq (by omega) (by omega)]
      have h8 := addC_len [a.Args[i]] out
      simp only [List.foldl_cons, List.foldl_nil, List.length_cons, List.length_nil] at h8
      exact ih (i + 1) (addC out a.Args[i]) (by omega) (by omega) (addC_nv h3 _) (by omega) (by omega)
    · rw [show decide ((i : Int) < ((a.Args.map cS).length : Int)) = false by simp; omega]
      rw [List.drop_of_length_le (by omega)]
      rfl
theorem fold_nv : ∀ (l out : List ByteArray), (∀ x ∈ out, isV x = false) → ∀ x ∈ l.foldl addC out, isV x = false
  | [], _, h => h
  | s :: r, out, h => by rw [List.foldl_cons]; exact fold_nv r _ (addC_nv h s)
theorem con3 (l : List GAtom) (g : Nat) (hl : l.length ≤ 4611686018427387904) : ∀ (k i : Nat) (out : List ByteArray), l.length + 1 ≤ i + k → i ≤ l.length → (∀ x ∈ out, isV x = false) → (out.length + ((l.drop i).flatMap (·.Args)).length) * 16 ≤ 140737488355328 → out.length + ((l.drop i).flatMap (·.Args)).length < g →
    M_l16_constants_L3 l g k (i : Int) out = some ((((l.drop i).flatMap (·.Args)).foldl addC out).length : Int) := by
  intro k
  induction k with
  | zero => intro i out h1 h2; omega
  | succ k ih =>
    intro i out h1 h2 h3 h4 h5
    rw [M_l16_constants_L3]
    by_cases h : i < l.length
    · have hy := List.getElem?_eq_getElem h
      rw [show decide ((i : Int) < ((l.map cGAtom).length : Int)) = true by simp; omega]
      rw [dropC hy, List.flatMap_cons, List.length_append] at h4 h5
      have h6 := con2 l g i l[i] hy (by omega) g 0 out (by omega) (Nat.zero_le _) h3 (by omega) (by omega)
      rw [List.drop_zero, show ((0 : Nat) : Int) = 0 from rfl] at h6
      show ob1 (M_l16_constants_L2 _ _ _ _ _ _) _ = _
      have h7 := addC_len l[i].Args out
      rw [h6, ob1_some, wrap_eq (by omega) (by omega), dropC hy, List.flatMap_cons, List.foldl_append]
      exact ih (i + 1) _ (by omega) (by omega) (fold_nv _ _ h3) (by omega) (by omega)
    · rw [show decide ((i : Int) < ((l.map cGAtom).length : Int)) = false by simp; omega]
      rw [List.drop_of_length_le (by omega)]
      rfl
theorem constants_eq (g : Nat) (l : List GAtom) (h1 : l.length < g) (h2 : (l.flatMap (·.Args)).length * 16 ≤ 140737488355328) (h3 : (l.flatMap (·.Args)).length < g) (hl : l.length ≤ 4611686018427387904) : M_l16_constants g l = some ((consts l).length : Int) := by
  unfold M_l16_constants
  have := con3 l g hl g 0 [] (by omega) (Nat.zero_le _) (fun x hx => by cases hx) (by rw [List.drop_zero]; simpa using h2) (by rw [List.drop_zero]; simpa using h3)
  rw [List.drop_zero, show ((0 : Nat) : Int) = 0 from rfl] at this
  exact this
theorem pow_loop (c n : Nat) (hc : c ≤ 1000000) (hn : n ≤ 1000000) : ∀ (k i : Nat), n + 1 ≤ i + k → i ≤ n → M_l16_power_L1 (c : Int) (n : Int) k ((min (c ^ i) 1000 : Nat) : Int) (i : Int) = some ((min (c ^ n) 1000 : Nat) : Int) := by
  intro k
  induction k with
  | zero => intro i h1 h2; omega
  | succ k ih =>
    intro i h1 h2
    rw [M_l16_power_L1]
    by_cases h : i < n
    · rw [show decide ((i : Int) < (n : Int)) = true from decide_eq_true (by omega)]
      show M_l16_power_L1 _ _ k _ _ = _
      have hm : min (c ^ i) 1000 * c ≤ 1000 * 1000000 := Nat.mul_le_mul (Nat.min_le_right _ _) hc
      have e1 : min (IntKind.i64.wrap (((min (c ^ i) 1000 : Nat) : Int) * (c : Int))) 1000 = ((min (c ^ (i + 1)) 1000 : Nat) : Int) := by
        rw [← Int.natCast_mul, wrap_eq (by generalize min (c ^ i) 1000 * c = q at hm ⊢; omega) (by generalize min (c ^ i) 1000 * c = q at hm ⊢; omega)]
        have : min (min (c ^ i) 1000 * c) 1000 = min (c ^ (i + 1)) 1000 := by
          rw [Nat.pow_succ]
          cases c with
          | zero => rw [Nat.mul_zero, Nat.mul_zero]
          | succ c =>
            generalize (c + 1) ^ i = p
            by_cases hp : p ≤ 1000
            · rw [Nat.min_eq_left hp]
            · rw [Nat.min_eq_right (show 1000 ≤ p by omega)]
              have h3 : 1000 ≤ 1000 * (c + 1) := Nat.le_mul_of_pos_right _ (by omega)
              have h4 : p ≤ p * (c + 1) := Nat.le_mul_of_pos_right _ (by omega)
              rw [Nat.min_eq_right h3, Nat.min_eq_right (show 1000 ≤ p * (c + 1) by omega)]
        rw [← this]
        generalize min (c ^ i) 1000 * c = q
        omega
      rw [e1, wrap_eq (by omega) (by omega)]
      exact ih (i + 1) (by omega) (by omega)
    · rw [show decide ((i : Int) < (n : Int)) = false from decide_eq_false (by omega)]
      rw [show i = n by omega]
      rfl
theorem power_eq (g c n : Nat) (hc : c ≤ 1000000) (hn : n ≤ 1000000) (hg : n < g) : M_l16_power g (c : Int) (n : Int) = some ((min (c ^ n) 1000 : Nat) : Int) := by
  unfold M_l16_power
  have := pow_loop c n hc hn g 0 (by omega) (Nat.zero_le _)
  rw [Nat.pow_zero, show ((min 1 1000 : Nat) : Int) = 1 from rfl, show ((0 : Nat) : Int) = 0 from rfl] at this
  exact this
/-- a rule that is not too large -/
structure SmR (r : GRule) : Prop where
  body : r.Body.length ≤ 3 ∨ 17 ≤ r.Body.length
  b20 : r.Body.length ≤ 20
  un : r.Unequal.length ≤ 6
  atoms : ∀ a ∈ r.Head :: r.Body, a.Args.length ≤ 8 ∧ a.Name.size ≤ 100
def rAtoms (r : GRule) : List GAtom := r.Head :: r.Body
def allA (p : GProgram) : List GAtom := p.Facts ++ p.Rules.flatMap rAtoms
structure Small (p : GProgram) : Prop where
  facts : p.Facts.length ≤ 30
  rules : p.Rules.length ≤ 8
  fargs : ∀ a ∈ p.Facts, a.Args.length ≤ 8 ∧ a.Name.size ≤ 100
  rule : ∀ r ∈ p.Rules, SmR r
  pow : ∀ r ∈ p.Rules, (consts (allA p)).length ^ (vars r.Body).length < 1000
  sum : (p.Rules.map (fun r => (consts (allA p)).length ^ min r.Head.Args.length (vars r.Body).length)).sum ≤ 150
theorem bigA_no {l : List GAtom} (h : l.any bigA = false) : ∀ a ∈ l, a.Args.length ≤ 8 ∧ a.Name.size ≤ 100 := by
  intro a ha
  have := List.any_eq_false.1 h a ha
  unfold bigA at this
  simp at this
  omega
theorem lrg1 (p : GProgram) (g : Nat) (hr : p.Rules.length ≤ 8) (hg : 1000 < g) : ∀ (k i : Nat) (out : List GAtom), p.Rules.length + 1 ≤ i + k → i ≤ p.Rules.length → out.length ≤ 30 + 21 * i →
    M_stratagem_stratagemlaw16_Program_Large_L1 p g k (i : Int) out = some (.inr true) ∨
      (M_stratagem_stratagemlaw16_Program_Large_L1 p g k (i : Int) out = some (.inl (out ++ (p.Rules.drop i).flatMap rAtoms)) ∧ ∀ r ∈ p.Rules.drop i, SmR r) := by
  intro k
  induction k with
  | zero => intro i out h1 h2; omega
  | succ k ih =>
    intro i out h1 h2 h3
    rw [M_stratagem_stratagemlaw16_Program_Large_L1]
    by_cases h : i < p.Rules.length
    · have hy := List.getElem?_eq_getElem h
      rw [show decide ((i : Int) < ((p.Rules.map cGRule).length : Int)) = true by simp; omega]
      generalize hrr : p.Rules[i] = r at hy
      have hb : ∀ n : Nat, decide (((r.Body.map cGAtom).length : Int) > (n : Int)) = decide (n < r.Body.length) := fun n => decide_eq_decide.2 (by rw [List.length_map]; omega)
      have hb2 : decide (((r.Body.map cGAtom).length : Int) < 17) = decide (r.Body.length < 17) := decide_eq_decide.2 (by rw [List.length_map]; omega)
      have hu : decide (((r.Unequal.map cA2_cS).length : Int) > 6) = decide (6 < r.Unequal.length) := decide_eq_decide.2 (by rw [List.length_map]; omega)
      have hb3 := hb 3
      have hb20 := hb 20
      rw [show ((3 : Nat) : Int) = 3 from rfl] at hb3
      rw [show ((20 : Nat) : Int) = 20 from rfl] at hb20
      have hend : (sel (decide (20 < r.Body.length)) (some (.inr true))
          (sel (decide (6 < r.Unequal.length)) (some (.inr true))
            (ob1 (M_l16_many g r.Body) (fun z46 => sel z46 (some (.inr true))
               (ob1 (M_l16_many g [r.Head]) (fun z47 => sel z47 (some (.inr true))
                  (grd ((out.length + 1) * 40 ≤ 140737488355328) (grd ((out.length + 1 + r.Body.length) * 40 ≤ 140737488355328) (M_stratagem_stratagemlaw16_Program_Large_L1 p g k (IntKind.i64.wrap ((i : Int) + 1)) ((out ++ [r.Head]) ++ r.Body))))))))) : Option ((List GAtom) ⊕ Bool)) = some (.inr true) ∨
          ((sel (decide (20 < r.Body.length)) (some (.inr true))
          (sel (decide (6 < r.Unequal.length)) (some (.inr true))
            (ob1 (M_l16_many g r.Body) (fun z46 => sel z46 (some (.inr true))
               (ob1 (M_l16_many g [r.Head]) (fun z47 => sel z47 (some (.inr true))
                  (grd ((out.length + 1) * 40 ≤ 140737488355328) (grd ((out.length + 1 + r.Body.length) * 40 ≤ 140737488355328) (M_stratagem_stratagemlaw16_Program_Large_L1 p g k (IntKind.i64.wrap ((i : Int) + 1)) ((out ++ [r.Head]) ++ r.Body))))))))) : Option ((List GAtom) ⊕ Bool)) = some (.inl (out ++ (p.Rules.drop i).flatMap rAtoms)) ∧ r.Body.length ≤ 20 ∧ r.Unequal.length ≤ 6 ∧ (∀ a ∈ r.Head :: r.Body, a.Args.length ≤ 8 ∧ a.Name.size ≤ 100) ∧ ∀ q ∈ p.Rules.drop (i + 1), SmR q) := by
        rw [sel_dec, sel_dec]
        by_cases e20 : 20 < r.Body.length
        · rw [if_pos e20]; exact .inl rfl
        rw [if_neg e20]
        by_cases e6 : 6 < r.Unequal.length
        · rw [if_pos e6]; exact .inl rfl
        rw [if_neg e6, many_eq g r.Body (by omega) (by omega), ob1_some]
        cases hm : r.Body.any bigA with
        | true => exact .inl rfl
        | false =>
          rw [many_eq g [r.Head] (by simp) (by simp; omega), ob1_some]
          cases hm2 : [r.Head].any bigA with
          | true => exact .inl rfl
          | false =>
            simp only [sel]
            have hgg : ∀ (x : Option ((List GAtom) ⊕ Bool)), grd ((out.length + 1) * 40 ≤ 140737488355328) (grd ((out.length + 1 + r.Body.length) * 40 ≤ 140737488355328) x) = x := fun x => grd_mk (by omega) (grd_mk (by omega) rfl)
            rw [hgg, wrap_eq (by omega) (by omega)]
            have hd : p.Rules.drop i = r :: p.Rules.drop (i + 1) := by rw [← hrr]; exact List.drop_eq_getElem_cons h
            rcases ih (i + 1) ((out ++ [r.Head]) ++ r.Body) (by omega) (by omega) (by simp; omega) with h5 | ⟨h5, h6⟩
            · exact .inl h5
            · refine .inr ⟨?_, by omega, by omega, fun a ha => ?_, h6⟩
              · rw [show ((i + 1 : Nat) : Int) = (i : Int) + 1 from rfl] at h5
                rw [h5, hd, List.flatMap_cons]
                simp [rAtoms]
              · rcases List.mem_cons.1 ha with e | e
                · exact bigA_no hm2 a (by rw [e]; exact List.mem_singleton.2 rfl)
                · exact bigA_no hm a e
      have hd : p.Rules.drop i = r :: p.Rules.drop (i + 1) := by rw [← hrr]; exact List.drop_eq_getElem_cons h
      show ix p.Rules (i : Int) _ = _ ∨ _
      rw [show ∀ (f : GRule → Option ((List GAtom) ⊕ Bool)), ix p.Rules (i : Int) f = f r from fun f => ix_at hy]
      rw [hb3, hb2, hb20, hu]
      by_cases e3 : 3 < r.Body.length
      · rw [decide_eq_true e3]
        by_cases e17 : r.Body.length < 17
        · rw [decide_eq_true e17]; exact .inl rfl
        · rw [decide_eq_false e17]
          rcases hend with q | ⟨q, q2, q3, q4, q5⟩
          · exact .inl q
          · refine .inr ⟨q, fun x hx => ?_⟩
            rw [hd] at hx
            rcases List.mem_cons.1 hx with e | e
            · rw [e]; exact ⟨.inr (by omega), q2, q3, q4⟩
            · exact q5 x e
      · rw [decide_eq_false e3]
        rcases hend with q | ⟨q, q2, q3, q4, q5⟩
        · exact .inl q
        · refine .inr ⟨q, fun x hx => ?_⟩
          rw [hd] at hx
          rcases List.mem_cons.1 hx with e | e
          · rw [e]; exact ⟨.inl (by omega), q2, q3, q4⟩
          · exact q5 x e
    · rw [show decide ((i : Int) < ((p.Rules.map cGRule).length : Int)) = false by simp; omega]
      rw [List.drop_of_length_le (by omega)]
      exact .inr ⟨by simp [sel], fun r hr => by cases hr⟩
theorem lrg2 (p : GProgram) (g c : Nat) (hc : c ≤ 1000000) (hr : p.Rules.length ≤ 8) (hs : ∀ r ∈ p.Rules, SmR r) (hg : 1000 < g) : ∀ (k i n : Nat), p.Rules.length + 1 ≤ i + k → i ≤ p.Rules.length → n ≤ 1000 * i →
    ∃ b, M_stratagem_stratagemlaw16_Program_Large_L2 p g (c : Int) k (n : Int) (i : Int) = some b ∧ (b = false → (∀ r ∈ p.Rules.drop i, c ^ (vars r.Body).length < 1000) ∧ n + ((p.Rules.drop i).map (fun r => min (c ^ min r.Head.Args.length (vars r.Body).length) 1000)).sum ≤ 150) := by
  intro k
  induction k with
  | zero => intro i n h1 h2; omega
  | succ k ih =>
    intro i n h1 h2 h3
    rw [M_stratagem_stratagemlaw16_Program_Large_L2]
    by_cases h : i < p.Rules.length
    · have hy := List.getElem?_eq_getElem h
      rw [show decide ((i : Int) < ((p.Rules.map cGRule).length : Int)) = true by simp; omega]
      generalize hrr : p.Rules[i] = r at hy
      obtain ⟨s1, s2, s3, s4⟩ := hs r (by rw [← hrr]; exact List.getElem_mem h)
      have hd : p.Rules.drop i = r :: p.Rules.drop (i + 1) := by rw [← hrr]; exact List.drop_eq_getElem_cons h
      show ∃ b, ix p.Rules (i : Int) _ = _ ∧ _
      have hfl : (r.Body.flatMap (·.Args)).length ≤ 20 * 8 := Nat.le_trans (flat_le _ 8 r.Body (fun a ha => (s4 a (List.mem_cons_of_mem _ ha)).1)) (Nat.mul_le_mul_right _ s2)
      have hvl := vars_len r.Body
      have hhl := (s4 r.Head (List.mem_cons_self ..)).1
      rw [ix_at hy, rvars_eq r.Body g (by omega) (by omega) (by omega) (by omega), ob1_some, ix_at hy]
      rw [List.length_map, List.length_map, show min (r.Head.Args.length : Int) ((vars r.Body).length : Int) = ((min r.Head.Args.length (vars r.Body).length : Nat) : Int) by omega]
      rw [power_eq g c _ hc (by omega) (by omega), ob1_some, power_eq g c _ hc (by omega) (by omega), ob1_some, sel_dec]
      by_cases e : (((min (c ^ (vars r.Body).length) 1000 : Nat) : Int)) ≥ 1000
      · rw [if_pos e]; exact ⟨true, rfl, fun q => by cases q⟩
      · rw [if_neg e, wrap_eq (by omega) (by omega), wrap_eq (by omega) (by omega)]
        obtain ⟨b, q1, q2⟩ := ih (i + 1) (n + min (c ^ min r.Head.Args.length (vars r.Body).length) 1000) (by omega) (by omega) (by omega)
        rw [Int.natCast_add] at q1
        refine ⟨b, q1, fun hb => ?_⟩
        obtain ⟨q3, q4⟩ := q2 hb
        rw [hd]
        refine ⟨fun x hx => ?_, ?_⟩
        · rcases List.mem_cons.1 hx with e2 | e2
          · rw [e2]; omega
          · exact q3 x e2
        · rw [List.map_cons, List.sum_cons]; omega
    · rw [show decide ((i : Int) < ((p.Rules.map cGRule).length : Int)) = false by simp; omega]
      rw [List.drop_of_length_le (by omega)]
      refine ⟨_, rfl, fun hb => ⟨fun r hr => (by cases hr), ?_⟩⟩
      have := of_decide_eq_false hb
      simp
      omega
theorem sum_min (f : GRule → Nat) : ∀ l : List GRule, (l.map (fun r => min (f r) 1000)).sum ≤ 150 → (l.map f).sum ≤ 150 ∧ (l.map f).sum = (l.map (fun r => min (f r) 1000)).sum
  | [], _ => by simp
  | r :: q, h => by
    rw [List.map_cons, List.sum_cons] at h
    obtain ⟨h1, h2⟩ := sum_min f q (by omega)
    rw [List.map_cons, List.sum_cons, List.map_cons, List.sum_cons, h2]
    omega
theorem large_eq (g : Nat) (p : GProgram) (hg : 100000 < g) (hf : p.Facts.length ≤ 4000000000000) (hr : p.Rules.length ≤ 4000000000000) (hg2 : p.Facts.length < g) : ∃ b, M_stratagem_stratagemlaw16_Program_Large g p = some b ∧ (b = false → Small p) := by
  unfold M_stratagem_stratagemlaw16_Program_Large
  rw [show decide (((p.Facts.map cGAtom).length : Int) > 30) = decide (30 < p.Facts.length) from decide_eq_decide.2 (by rw [List.length_map]; omega), show decide (((p.Rules.map cGRule).length : Int) > 8) = decide (8 < p.Rules.length) from decide_eq_decide.2 (by rw [List.length_map]; omega), sel_dec, sel_dec]
  by_cases e30 : 30 < p.Facts.length
  · rw [if_pos e30]; exact ⟨true, rfl, fun q => by cases q⟩
  rw [if_neg e30]
  by_cases e8 : 8 < p.Rules.length
  · rw [if_pos e8]; exact ⟨true, rfl, fun q => by cases q⟩
  rw [if_neg e8, many_eq g p.Facts (by omega) hg2, ob1_some]
  cases hm : p.Facts.any bigA with
  | true => exact ⟨true, rfl, fun q => by cases q⟩
  | false =>
    show ∃ b, grd _ _ = _ ∧ _
    have hgg : ∀ (x : Option Bool), grd ((0 + p.Facts.length) * 40 ≤ 140737488355328) x = x := fun x => grd_mk (by omega) rfl
    rw [hgg]
    rcases lrg1 p g (by omega) (by omega) g 0 p.Facts (by omega) (Nat.zero_le _) (by omega) with h | ⟨h, h2⟩
    · rw [show ((0 : Nat) : Int) = 0 from rfl] at h
      rw [h]; exact ⟨true, rfl, fun q => by cases q⟩
    · rw [show ((0 : Nat) : Int) = 0 from rfl, List.drop_zero] at h
      rw [List.drop_zero] at h2
      rw [h, ob1_some]
      have hall : (p.Rules.flatMap rAtoms).length ≤ 8 * 21 := Nat.le_trans (flat_le _ 21 p.Rules (fun r hr => by have := (h2 r hr).b20; simp [rAtoms]; omega)) (Nat.mul_le_mul_right _ (by omega))
      have hlen : (allA p).length ≤ 30 + 8 * 21 := by unfold allA; rw [List.length_append]; omega
      have hargs : ∀ a ∈ allA p, a.Args.length ≤ 8 := by
        intro a ha
        rcases List.mem_append.1 ha with q | q
        · exact (bigA_no hm a q).1
        · obtain ⟨r, hr2, q⟩ := List.mem_flatMap.1 q
          exact ((h2 r hr2).atoms a q).1
      have hfl : ((allA p).flatMap (·.Args)).length ≤ (30 + 8 * 21) * 8 := Nat.le_trans (flat_le _ 8 _ hargs) (Nat.mul_le_mul_right _ hlen)
      have hcl := addC_len ((allA p).flatMap (·.Args)) []
      rw [show ((allA p).flatMap (·.Args)).foldl addC [] = consts (allA p) from rfl] at hcl
      simp only [List.length_nil] at hcl
      show ∃ b, grd ((allA p).length ≤ _) (ob1 (M_l16_constants g (allA p)) _) = _ ∧ _
      have hgg2 : ∀ (x : Option Bool), grd ((allA p).length ≤ 140737488355328) x = x := fun x => grd_mk (by omega) rfl
      rw [hgg2, constants_eq g (allA p) (by omega) (by omega) (by omega) (by omega), ob1_some]
      obtain ⟨b, q1, q2⟩ := lrg2 p g (consts (allA p)).length (by omega) (by omega) h2 (by omega) g 0 0 (by omega) (Nat.zero_le _) (Nat.zero_le _)
      rw [show ((0 : Nat) : Int) = 0 from rfl] at q1
      refine ⟨b, q1, fun hb => ?_⟩
      obtain ⟨q3, q4⟩ := q2 hb
      rw [List.drop_zero] at q3 q4
      rw [Nat.zero_add] at q4
      exact ⟨by omega, by omega, bigA_no hm, h2, q3, (sum_min _ _ q4).1⟩
end Go.Proofs.YtflgpccacloadaaDoor.Am
/- Plain law: the reference's comparison, membership and insertion of atoms. -/
namespace Go.Proofs.YtflgpccacloadaaDoor.Am
open Go.RowKit
def argC : List ByteArray → List ByteArray → Int
  | x :: r, y :: q => if strC x y < 0 then -1 else if x = y then argC r q else 1
  | a, b => (a.length : Int) - b.length
theorem argC_sign : ∀ a b, (argC a b < 0 ↔ lexC strC a b < 0) ∧ (argC a b = 0 ↔ lexC strC a b = 0)
  | [], [] => by simp [argC, lexC]
  | [], y :: q => by simp [argC, lexC]; omega
  | x :: r, [] => by simp [argC, lexC]; omega
  | x :: r, y :: q => by
    rw [argC, lexC]
    by_cases h : strC x y < 0
    · rw [if_pos h, if_neg (by omega)]
      exact ⟨⟨fun _ => h, fun _ => by omega⟩, ⟨fun e => by omega, fun e => by omega⟩⟩
    · rw [if_neg h]
      by_cases e : x = y
      · rw [if_pos e, if_pos ((strC_cmp.eq x y).2 e)]
        exact argC_sign r q
      · have h0 : ¬ strC x y = 0 := fun q => e ((strC_cmp.eq x y).1 q)
        rw [if_neg e, if_neg h0]
        exact ⟨⟨fun e => by omega, fun e => by omega⟩, ⟨fun e => by omega, fun e => by omega⟩⟩
def refC (a b : GAtom) : Int := if a.Name = b.Name then argC a.Args b.Args else if strC a.Name b.Name < 0 then -1 else 1
theorem refC_sign (a b : GAtom) : (refC a b < 0 ↔ atomC a b < 0) ∧ (refC a b = 0 ↔ a = b) := by
  rw [← atomC_cmp.eq a b, atomC_def]
  unfold refC
  by_cases e : a.Name = b.Name
  · rw [if_pos e, if_pos ((strC_cmp.eq _ _).2 e)]
    exact argC_sign _ _
  · have h0 : ¬ strC a.Name b.Name = 0 := fun q => e ((strC_cmp.eq _ _).1 q)
    rw [if_neg e, if_neg h0]
    by_cases h : strC a.Name b.Name < 0
    · rw [if_pos h]
      exact ⟨⟨fun _ => h, fun _ => by omega⟩, ⟨fun e => by omega, fun e => by omega⟩⟩
    · rw [if_neg h]
      exact ⟨⟨fun e => by omega, fun e => by omega⟩, ⟨fun e => by omega, fun e => by omega⟩⟩
theorem cmp_loop (a b : GAtom) (ha : a.Args.length ≤ 4611686018427387904) (hb : b.Args.length ≤ 4611686018427387904) : ∀ (k i : Nat), a.Args.length + 1 ≤ i + k → i ≤ a.Args.length → i ≤ b.Args.length →
    ob1 (M_r10_Compare_L1 a b k (i : Int) : Option (Unit ⊕ Int)) (osum (fun _ => some (IntKind.i64.wrap (((a.Args.map cS).length : Int) - ((b.Args.map cS).length : Int)))) (fun r19 => some r19)) = some (argC (a.Args.drop i) (b.Args.drop i)) := by
  intro k
  induction k with
  | zero => intro i h1 h2; omega
  | succ k ih =>
    intro i h1 h2 h3
    rw [M_r10_Compare_L1]
    by_cases h : i < a.Args.length
    · have hy := List.getElem?_eq_getElem h
      rw [show decide ((i : Int) < ((a.Args.map cS).length : Int)) = true by simp; omega]
      by_cases h' : i < b.Args.length
      · have hz := List.getElem?_eq_getElem h'
        rw [show decide ((i : Int) < ((b.Args.map cS).length : Int)) = true by simp; omega]
        show ob1 (ix a.Args (i : Int) _) _ = _
        rw [ix_at hy, ix_at hz, less_str, sel_dec, dropC hy, dropC hz, argC]
        by_cases e : strC a.Args[i] b.Args[i] < 0
        · rw [if_pos e, if_pos e]; rfl
        · rw [if_neg e, if_neg e, ix_at hy, ix_at hz, beq_bl]
          by_cases e2 : a.Args[i] = b.Args[i]
          · rw [if_pos e2, decide_eq_true e2, Bool.or_true, wrap_eq (by omega) (by omega)]
            exact ih (i + 1) (by omega) (by omega) (by omega)
          · rw [if_neg e2, decide_eq_false e2, less_str, decide_eq_false e]; rfl
      · rw [show decide ((i : Int) < ((b.Args.map cS).length : Int)) = false by simp; omega]
        show some (IntKind.i64.wrap _) = _
        rw [List.drop_of_length_le (show b.Args.length ≤ i by omega), dropC hy, argC, List.length_map, List.length_map, wrap_eq (by omega) (by omega)]
        · simp only [List.length_cons, List.length_drop, List.length_nil]
          exact congrArg some (by omega)
        · intro x r y q _ h; cases h
    · rw [show decide ((i : Int) < ((a.Args.map cS).length : Int)) = false by simp; omega]
      show some (IntKind.i64.wrap _) = _
      rw [List.drop_of_length_le (show a.Args.length ≤ i by omega), argC, List.length_map, List.length_map, wrap_eq (by omega) (by omega)]
      · simp only [List.length_drop, List.length_nil]
        exact congrArg some (by omega)
      · intro x r y q h; cases h
theorem cmp_eq (g : Nat) (a b : GAtom) (ha : a.Args.length ≤ 4611686018427387904) (hb : b.Args.length ≤ 4611686018427387904) (hg : a.Args.length < g) : M_r10_Compare g a b = some (refC a b) := by
  unfold M_r10_Compare refC
  rw [beq_bl, sel_not, sel_dec, less_str]
  by_cases e : a.Name = b.Name
  · rw [if_pos e, if_pos e]
    have := cmp_loop a b ha hb g 0 (by omega) (Nat.zero_le _) (Nat.zero_le _)
    rw [List.drop_zero, List.drop_zero, show ((0 : Nat) : Int) = 0 from rfl] at this
    exact this
  · rw [if_neg e, if_neg e, sel_dec]
    by_cases h : strC a.Name b.Name < 0
    · rw [if_pos h, if_pos h]
    · rw [if_neg h, if_neg h]
/-- atoms of few arguments -/
def Few (g : Nat) (l : List GAtom) : Prop := ∀ a ∈ l, a.Args.length ≤ 1000000000 ∧ a.Args.length < g
theorem has10_loop (g : Nat) (l : List GAtom) (a : GAtom) (hl : l.length ≤ 4611686018427387904) (hf : Few g l) (ha : a.Args.length ≤ 1000000000) : ∀ (k i : Nat), l.length + 1 ≤ i + k → i ≤ l.length → M_r10_Has_L1 l a g k (i : Int) = some (decide (a ∈ l.drop i)) := by
  intro k
  induction k with
  | zero => intro i h1 h2; omega
  | succ k ih =>
    intro i h1 h2
    rw [M_r10_Has_L1]
    by_cases h : i < l.length
    · have hy := List.getElem?_eq_getElem h
      have hm := hf _ (List.getElem_mem h)
      rw [show decide ((i : Int) < ((l.map cGAtom).length : Int)) = true by simp; omega]
      show ix l (i : Int) _ = _
      rw [ix_at hy, cmp_eq g _ _ (by omega) (by omega) hm.2, ob1_some, beq_int, sel_dec, dropC hy, wrap_eq (by omega) (by omega)]
      by_cases e : refC l[i] a = 0
      · rw [if_pos e]
        exact congrArg some (decide_eq_true (List.mem_cons.2 (.inl ((refC_sign _ _).2.1 e).symm))).symm
      · rw [if_neg e]
        have := ih (i + 1) (by omega) (by omega)
        rw [show ((i + 1 : Nat) : Int) = (i : Int) + 1 from rfl] at this
        rw [this]
        refine congrArg some (decide_eq_decide.2 ⟨fun q => List.mem_cons_of_mem _ q, fun q => ?_⟩)
        rcases List.mem_cons.1 q with q | q
        · exact absurd ((refC_sign _ _).2.2 q.symm) e
        · exact q
    · rw [show decide ((i : Int) < ((l.map cGAtom).length : Int)) = false by simp; omega]
      rw [List.drop_of_length_le (by omega)]
      rfl
theorem has10_eq (g : Nat) (l : List GAtom) (a : GAtom) (hl : l.length ≤ 4611686018427387904) (hf : Few g l) (ha : a.Args.length ≤ 1000000000) (hg : l.length < g) : M_r10_Has g l a = some (decide (a ∈ l)) := by
  unfold M_r10_Has
  have := has10_loop g l a hl hf ha g 0 (by omega) (Nat.zero_le _)
  rw [List.drop_zero] at this
  exact this
def insA (a : GAtom) : List GAtom → List GAtom
  | [] => [a]
  | x :: r => if atomC x a < 0 then x :: insA a r else a :: x :: r
def frt (a : GAtom) : List GAtom → Nat
  | [] => 0
  | x :: r => if atomC x a < 0 then frt a r + 1 else 0
theorem frt_le (a : GAtom) : ∀ l, frt a l ≤ l.length
  | [] => Nat.le_refl _
  | x :: r => by
    rw [frt]
    split
    · have := frt_le a r; simp only [List.length_cons]; omega
    · exact Nat.zero_le _
theorem insA_eq (a : GAtom) : ∀ l, insA a l = (l.take (frt a l) ++ [a]) ++ l.drop (frt a l)
  | [] => rfl
  | x :: r => by
    rw [insA, frt]
    split
    · rw [List.take_succ_cons, List.drop_succ_cons, insA_eq a r]; rfl
    · rfl
theorem add_loop (g : Nat) (l : List GAtom) (a : GAtom) (hl : (l.length + 1) * 40 ≤ 140737488355328) (hf : Few g l) (ha : a.Args.length ≤ 1000000000) : ∀ (k i : Nat), l.length + 1 ≤ i + k → i ≤ l.length →
    M_r10_Add_L1 l a g k (i : Int) (l.take i) = some (((i + frt a (l.drop i) : Nat) : Int), l.take (i + frt a (l.drop i))) := by
  intro k
  induction k with
  | zero => intro i h1 h2; omega
  | succ k ih =>
    intro i h1 h2
    rw [M_r10_Add_L1]
    by_cases h : i < l.length
    · have hy := List.getElem?_eq_getElem h
      have hm := hf _ (List.getElem_mem h)
      rw [show decide ((i : Int) < ((l.map cGAtom).length : Int)) = true by simp; omega]
      show ix l (i : Int) _ = _
      rw [ix_at hy, cmp_eq g _ _ (by omega) (by omega) hm.2, ob1_some, sel_dec, dropC hy, frt]
      by_cases e : refC l[i] a < 0
      · rw [if_pos e, if_pos ((refC_sign _ _).1.1 e), ix_at hy]
        refine grd_mk (by rw [List.length_take]; omega) ?_
        rw [wrap_eq (by omega) (by omega)]
        have := ih (i + 1) (by omega) (by omega)
        rw [take_at hy, show i + 1 + frt a (l.drop (i + 1)) = i + (frt a (l.drop (i + 1)) + 1) by omega] at this
        exact this
      · rw [if_neg e, if_neg (fun q => e ((refC_sign _ _).1.2 q))]
        rfl
    · rw [show decide ((i : Int) < ((l.map cGAtom).length : Int)) = false by simp; omega]
      rw [List.drop_of_length_le (by omega)]
      rfl
def addA (l : List GAtom) (a : GAtom) : List GAtom := if a ∈ l then l else insA a l
theorem add_eq (g : Nat) (l : List GAtom) (a : GAtom) (hl : (l.length + 1) * 40 ≤ 140737488355328) (hf : Few g l) (ha : a.Args.length ≤ 1000000000) (hg : l.length < g) : M_r10_Add g l a = some (addA l a) := by
  unfold M_r10_Add addA
  rw [has10_eq g l a (by omega) hf ha hg, ob1_some, sel_dec]
  by_cases e : a ∈ l
  · rw [if_pos e, if_pos e]
  · rw [if_neg e, if_neg e]
    have h1 := add_loop g l a hl hf ha g 0 (by omega) (Nat.zero_le _)
    rw [List.take_zero, List.drop_zero, Nat.zero_add, show ((0 : Nat) : Int) = 0 from rfl] at h1
    rw [h1, ob1_some, insA_eq]
    have hfl := frt_le a l
    have hn : (l.take (frt a l)).length = frt a l := by rw [List.length_take]; omega
    refine grd_mk (by rw [hn]; omega) (grd_mk (by omega) (grd_mk (by rw [List.length_map, Int.toNat_natCast]; exact hfl) ?_))
    rw [List.length_map, List.take_length, Int.toNat_natCast]
    refine grd_mk (by rw [hn, List.length_drop]; omega) (grd_mk ?_ rfl)
    simp only [List.length_append, List.length_drop, hn, List.length_cons, List.length_nil]
    omega
theorem insA_mem (a z : GAtom) : ∀ l, z ∈ insA a l ↔ z = a ∨ z ∈ l
  | [] => by simp [insA]
  | x :: r => by
    rw [insA]
    split
    · rw [List.mem_cons, insA_mem a z r, List.mem_cons]
      constructor
      · rintro (h | h | h)
        · exact .inr (.inl h)
        · exact .inl h
        · exact .inr (.inr h)
      · rintro (h | h | h)
        · exact .inr (.inl h)
        · exact .inl h
        · exact .inr (.inr h)
    · rw [List.mem_cons]
theorem insA_str (a : GAtom) : ∀ l, StrA l → a ∉ l → StrA (insA a l)
  | [], _, _ => List.pairwise_singleton _ _
  | x :: r, h, hn => by
    obtain ⟨h1, h2⟩ := List.pairwise_cons.1 h
    rw [insA]
    split
    · rename_i hlt
      refine List.pairwise_cons.2 ⟨fun y hy => ?_, insA_str a r h2 (fun q => hn (List.mem_cons_of_mem _ q))⟩
      rcases (insA_mem a y r).1 hy with e | e
      · rw [e]; exact hlt
      · exact h1 y e
    · rename_i hlt
      have hx : atomC a x < 0 := by
        have h3 := atomC_cmp.total x a
        have h4 : ¬ atomC x a = 0 := fun q => hn (by rw [← (atomC_cmp.eq x a).1 q]; exact List.mem_cons_self ..)
        omega
      refine List.pairwise_cons.2 ⟨fun y hy => ?_, h⟩
      rcases List.mem_cons.1 hy with e | e
      · rw [e]; exact hx
      · exact atomC_cmp.trans _ _ _ hx (h1 y e)
theorem insA_len (a : GAtom) : ∀ l, (insA a l).length = l.length + 1
  | [] => rfl
  | x :: r => by
    rw [insA]
    split
    · simp only [List.length_cons]; rw [insA_len a r]
    · rfl
theorem addA_spec {l : List GAtom} (h : StrA l) (a : GAtom) : StrA (addA l a) ∧ (∀ z, z ∈ addA l a ↔ z ∈ l ∨ z = a) ∧ (addA l a).length ≤ l.length + 1 := by
  unfold addA
  split
  · rename_i e
    exact ⟨h, fun z => ⟨.inl, fun q => q.elim id (fun q => q ▸ e)⟩, by omega⟩
  · rename_i e
    exact ⟨insA_str a l h e, fun z => by rw [insA_mem]; exact Or.comm, by rw [insA_len]; omega⟩
theorem fold_add : ∀ (x l : List GAtom), StrA l → StrA (x.foldl addA l) ∧ (∀ z, z ∈ x.foldl addA l ↔ z ∈ l ∨ z ∈ x) ∧ (x.foldl addA l).length ≤ l.length + x.length
  | [], l, h => ⟨h, fun z => by simp, by simp⟩
  | a :: r, l, h => by
    obtain ⟨h1, h2, h3⟩ := addA_spec h a
    obtain ⟨h4, h5, h6⟩ := fold_add r (addA l a) h1
    refine ⟨h4, fun z => ?_, by rw [List.foldl_cons]; simp only [List.length_cons]; omega⟩
    rw [List.foldl_cons, h5, h2, List.mem_cons, or_assoc]
theorem fold_setA {l : List GAtom} (h : StrA l) (x : List GAtom) : x.foldl addA l = setA (l ++ x) := by
  obtain ⟨h1, h2, _⟩ := fold_add x l h
  exact strA_unique h1 (setA_spec _).1 (fun z => by rw [h2, (setA_spec _).2.1, List.mem_append])
end Go.Proofs.YtflgpccacloadaaDoor.Am
/- Plain law: the reference's bindings. -/
namespace Go.Proofs.YtflgpccacloadaaDoor.Am
open Go.RowKit
def rep (b : Bd) (s : ByteArray) : ByteArray := (getM b s).getD s
theorem rep_loop (s : ByteArray) (vs cs : List ByteArray) (hv : vs.length ≤ 4611686018427387904) : ∀ (k i : Nat), vs.length + 1 ≤ i + k → i ≤ vs.length → M_r16_Replace_L1 s vs cs k (i : Int) = some (rep ((vs.drop i).zip (cs.drop i)) s) := by
  intro k
  induction k with
  | zero => intro i h1 h2; omega
  | succ k ih =>
    intro i h1 h2
    rw [M_r16_Replace_L1]
    by_cases h : i < vs.length
    · have hy := List.getElem?_eq_getElem h
      rw [show decide ((i : Int) < ((vs.map cS).length : Int)) = true by simp; omega]
      by_cases h' : i < cs.length
      · have hz := List.getElem?_eq_getElem h'
        rw [show decide ((i : Int) < ((cs.map cS).length : Int)) = true by simp; omega]
        show ix vs (i : Int) _ = _
        rw [ix_at hy, beq_bl, sel_dec, dropC hy, dropC hz, List.zip_cons_cons, rep, getM]
        by_cases e : vs[i] = s
        · rw [if_pos e, if_pos e, ix_at hz]; rfl
        · rw [if_neg e, if_neg e, wrap_eq (by omega) (by omega)]
          exact ih (i + 1) (by omega) (by omega)
      · rw [show decide ((i : Int) < ((cs.map cS).length : Int)) = false by simp; omega]
        rw [List.drop_of_length_le (show cs.length ≤ i by omega), List.zip_nil_right]
        rfl
    · rw [show decide ((i : Int) < ((vs.map cS).length : Int)) = false by simp; omega]
      rw [List.drop_of_length_le (by omega)]
      rfl
theorem rep_eq (g : Nat) (s : ByteArray) (vs cs : List ByteArray) (hv : vs.length ≤ 4611686018427387904) (hg : vs.length < g) : M_r16_Replace g s vs cs = some (rep (vs.zip cs) s) := by
  unfold M_r16_Replace
  have := rep_loop s vs cs hv g 0 (by omega) (Nat.zero_le _)
  rw [List.drop_zero, List.drop_zero] at this
  exact this
def difF (b : Bd) (un : List (ByteArray × ByteArray)) : Bool := un.all (fun p => !decide (rep b p.1 = rep b p.2))
theorem rdif_loop (un : List (ByteArray × ByteArray)) (vs cs : List ByteArray) (g : Nat) (hv : vs.length ≤ 4611686018427387904) (hg : vs.length < g) (hu : un.length ≤ 4611686018427387904) : ∀ (k i : Nat), un.length + 1 ≤ i + k → i ≤ un.length → M_r16_differ_L1 un vs cs g k (i : Int) = some (difF (vs.zip cs) (un.drop i)) := by
  intro k
  induction k with
  | zero => intro i h1 h2; omega
  | succ k ih =>
    intro i h1 h2
    rw [M_r16_differ_L1]
    by_cases h : i < un.length
    · have hy := List.getElem?_eq_getElem h
      rw [show decide ((i : Int) < ((un.map cA2_cS).length : Int)) = true by simp; omega]
      show ix un (i : Int) _ = _
      rw [ix_at hy, rep_eq g _ vs cs hv hg, ob1_some, ix_at hy, rep_eq g _ vs cs hv hg, ob1_some, beq_bl, dropC hy, difF, List.all_cons, wrap_eq (by omega) (by omega)]
      cases decide (rep (vs.zip cs) un[i].1 = rep (vs.zip cs) un[i].2) with
      | true => rfl
      | false => exact ih (i + 1) (by omega) (by omega)
    · rw [show decide ((i : Int) < ((un.map cA2_cS).length : Int)) = false by simp; omega]
      rw [List.drop_of_length_le (by omega)]
      rfl
theorem rdif_eq (un : List (ByteArray × ByteArray)) (vs cs : List ByteArray) (g : Nat) (hv : vs.length ≤ 4611686018427387904) (hg : vs.length < g) (hu : un.length ≤ 4611686018427387904) (hg2 : un.length < g) : M_r16_differ g un vs cs = some (difF (vs.zip cs) un) := by
  unfold M_r16_differ
  have := rdif_loop un vs cs g hv hg hu g 0 (by omega) (Nat.zero_le _)
  rw [List.drop_zero] at this
  exact this
theorem addV_pre : ∀ (l K : List ByteArray), K <+: l.foldl addV K
  | [], K => List.prefix_refl _
  | s :: r, K => by
    rw [List.foldl_cons]
    refine List.IsPrefix.trans ?_ (addV_pre r (addV K s))
    unfold addV
    split
    · split
      · exact List.prefix_refl _
      · exact List.prefix_append _ _
    · exact List.prefix_refl _
theorem addV_ok : ∀ (l K : List ByteArray), K.Nodup → (∀ s ∈ K, isV s = true) → (l.foldl addV K).Nodup ∧ ∀ s ∈ l.foldl addV K, isV s = true
  | [], K, h1, h2 => ⟨h1, h2⟩
  | s :: r, K, h1, h2 => by
    rw [List.foldl_cons]
    unfold addV
    split
    · rename_i hv
      split
      · exact addV_ok r K h1 h2
      · rename_i hn
        refine addV_ok r _ (List.nodup_append.2 ⟨h1, by simp, fun x hx y hy e => ?_⟩) (fun x hx => ?_)
        · simp at hy; exact hn (by rw [← hy, ← e]; exact hx)
        · rcases List.mem_append.1 hx with e | e
          · exact h2 x e
          · rw [List.mem_singleton.1 e]; exact hv
    · exact addV_ok r K h1 h2
theorem zip_fst : ∀ (vs cs : List ByteArray), cs.length ≤ vs.length → (vs.zip cs).map Prod.fst = vs.take cs.length
  | _, [], _ => by simp
  | [], c :: cs, h => by simp at h
  | v :: vs, c :: cs, h => by
    rw [List.zip_cons_cons, List.map_cons, zip_fst vs cs (by simpa using h)]
    rfl
theorem zip_snd : ∀ (vs cs : List ByteArray), cs.length ≤ vs.length → (vs.zip cs).map Prod.snd = cs
  | _, [], _ => by simp
  | [], c :: cs, h => by simp at h
  | v :: vs, c :: cs, h => by
    rw [List.zip_cons_cons, List.map_cons, zip_snd vs cs (by simpa using h)]
theorem zip_snoc : ∀ (vs cs : List ByteArray) (s c : ByteArray), vs[cs.length]? = some s → vs.zip (cs ++ [c]) = vs.zip cs ++ [(s, c)]
  | [], cs, s, c, h => by simp at h
  | v :: vs, [], s, c, h => by simp at h; subst h; simp
  | v :: vs, x :: cs, s, c, h => by
    rw [List.cons_append, List.zip_cons_cons, List.zip_cons_cons, zip_snoc vs cs s c (by simpa using h)]
    rfl
theorem tB_rep {b : Bd} (hv : ∀ s ∈ b.map Prod.fst, isV s = true) {s x : ByteArray} (h : tB b s = some x) : rep b s = x := by
  unfold tB at h
  unfold rep
  split at h
  · rw [h]; rfl
  · rename_i hn
    rw [getM_key.2 (fun q => hn (hv s q))]
    exact Option.some.inj h
theorem fit_loop (a f : GAtom) (vs rest : List ByteArray) (g : Nat) (hn : vs.Nodup) (hV : ∀ s ∈ vs, isV s = true) (hg : vs.length < g) (hvl : vs.length * 16 ≤ 140737488355328) (hal : a.Args.length ≤ 4611686018427387904) (hlen : f.Args.length = a.Args.length) :
    ∀ (k i : Nat) (out : List ByteArray) (fr : List ByteArray), a.Args.length + 1 ≤ i + k → i ≤ a.Args.length → out.length ≤ vs.length → (a.Args.drop i ++ rest).foldl addV (vs.take out.length) = vs →
      M_r16_fit_L1 a f vs g k (i : Int) out = some (if (uni (vs.zip out) fr (a.Args.drop i) (f.Args.drop i)).2.1 = true then ((uni (vs.zip out) fr (a.Args.drop i) (f.Args.drop i)).2.2.map Prod.snd, true) else ([], false)) := by
  intro k
  induction k with
  | zero => intro i out fr h1 h2; omega
  | succ k ih =>
    intro i out fr h1 h2 h3 h4
    rw [M_r16_fit_L1]
    have hkeys := zip_fst vs out h3
    have hKV : ∀ s ∈ (vs.zip out).map Prod.fst, isV s = true := fun s hs => hV s (List.mem_of_mem_take (by rw [← hkeys]; exact hs))
    by_cases h : i < a.Args.length
    · have hy := List.getElem?_eq_getElem h
      have hz := List.getElem?_eq_getElem (show i < f.Args.length by omega)
      rw [show decide ((i : Int) < ((a.Args.map cS).length : Int)) = true by simp; omega]
      show ob1 _ _ = _
      rw [dropC hy, dropC hz, uni]
      rw [dropC hy, List.cons_append, List.foldl_cons] at h4
      have hw : IntKind.i64.wrap ((i : Int) + 1) = ((i + 1 : Nat) : Int) := wrap_eq (by omega) (by omega)
      cases ht : tB (vs.zip out) a.Args[i] with
      | none =>
        obtain ⟨hv, hgn⟩ := tB_none ht
        have hnk := getM_key.1 hgn
        rw [hkeys] at hnk
        rw [addV, if_pos hv, if_neg hnk] at h4
        have hpre := addV_pre (a.Args.drop (i + 1) ++ rest) (vs.take out.length ++ [a.Args[i]])
        rw [h4] at hpre
        have hlt : (vs.take out.length).length = out.length := by rw [List.length_take]; omega
        have hlen2 : out.length < vs.length := by
          have := hpre.length_le
          rw [List.length_append, hlt] at this
          simp at this
          omega
        have hat : vs[out.length]? = some a.Args[i] := by
          obtain ⟨t, ht2⟩ := hpre
          rw [← ht2, List.append_assoc, List.getElem?_append_right (by omega), hlt, Nat.sub_self]
          rfl
        rw [show decide (((out.length : Nat) : Int) < ((vs.map cS).length : Int)) = true by simp; omega]
        have e1 : (sel true (ix a.Args (i : Int) (fun y36 => ix vs ((out.length : Nat) : Int) (fun y37 => sel (y36.toList == y37.toList) (ix f.Args (i : Int) (fun y38 => grd ((out.length + 1) * 16 ≤ 140737488355328) (some (out ++ [y38])))) (some out)))) (some out) : Option (List ByteArray)) = some (out ++ [f.Args[i]]) := by
          show ix a.Args (i : Int) _ = _
          rw [ix_at hy, ix_at hat, beq_bl, decide_eq_true rfl]
          show ix f.Args (i : Int) _ = _
          rw [ix_at hz]
          exact grd_mk (by omega) rfl
        rw [e1, ob1_some, ix_at hy]
        refine grd_mk (by simp; omega) ?_
        rw [rep_eq g _ vs _ (by omega) hg, ob1_some, ix_at hz, zip_snoc vs out _ _ hat]
        have hset : setM (vs.zip out) a.Args[i] f.Args[i] = vs.zip out ++ [(a.Args[i], f.Args[i])] := setM_none (fun p hp e => (getM_key.1 hgn) (List.mem_map.2 ⟨p, hp, e⟩))
        have hrep : rep (vs.zip out ++ [(a.Args[i], f.Args[i])]) a.Args[i] = f.Args[i] := by
          unfold rep
          rw [← hset, getM_setM, if_pos rfl]
          rfl
        rw [hrep, beq_bl, decide_eq_true rfl, hw]
        show M_r16_fit_L1 a f vs g k _ _ = _
        have h5 := ih (i + 1) (out ++ [f.Args[i]]) (fr ++ [a.Args[i]]) (by omega) (by omega) (by simp; omega) (by
          rw [show (out ++ [f.Args[i]]).length = out.length + 1 by simp, List.take_add_one, hat]
          exact h4)
        rw [h5, zip_snoc vs out _ _ hat, hset]
      | some x =>
        have hnx : ∀ s, vs[out.length]? = some s → a.Args[i] = s → False := by
          intro s hs e
          have hvs : isV a.Args[i] = true := by rw [e]; exact hV s (List.mem_of_getElem? hs)
          unfold tB at ht
          rw [if_pos hvs] at ht
          have hmem : a.Args[i] ∈ vs.take out.length := by
            rw [← hkeys]
            exact Classical.byContradiction fun q => by rw [getM_key.2 q] at ht; cases ht
          obtain ⟨j, hj, hje⟩ := List.getElem_of_mem hmem
          rw [List.length_take] at hj
          rw [List.getElem_take] at hje
          obtain ⟨hl, hle⟩ := List.getElem?_eq_some_iff.1 hs
          have := (List.getElem_inj hn).1 (hje.trans (e.trans hle.symm))
          omega
        have e1 : (sel (decide (((out.length : Nat) : Int) < ((vs.map cS).length : Int))) (ix a.Args (i : Int) (fun y36 => ix vs ((out.length : Nat) : Int) (fun y37 => sel (y36.toList == y37.toList) (ix f.Args (i : Int) (fun y38 => grd ((out.length + 1) * 16 ≤ 140737488355328) (some (out ++ [y38])))) (some out)))) (some out) : Option (List ByteArray)) = some out := by
          by_cases hlt : out.length < vs.length
          · have hat := List.getElem?_eq_getElem hlt
            rw [show decide (((out.length : Nat) : Int) < ((vs.map cS).length : Int)) = true by simp; omega]
            show ix a.Args (i : Int) _ = _
            rw [ix_at hy, ix_at hat, beq_bl, decide_eq_false (fun q => hnx _ hat q)]
            rfl
          · rw [show decide (((out.length : Nat) : Int) < ((vs.map cS).length : Int)) = false by simp; omega]
            rfl
        rw [e1, ob1_some, ix_at hy]
        refine grd_mk (by omega) ?_
        rw [rep_eq g _ vs _ (by omega) hg, ob1_some, ix_at hz, tB_rep hKV ht, beq_bl, sel_not, sel_dec, hw]
        simp only []
        by_cases e : x = f.Args[i]
        · rw [if_pos e, if_pos e]
          refine ih (i + 1) out fr (by omega) (by omega) h3 ?_
          have : addV (vs.take out.length) a.Args[i] = vs.take out.length := by
            unfold addV
            split
            · rename_i hvs
              rw [if_pos]
              unfold tB at ht
              rw [if_pos hvs] at ht
              rw [← hkeys]
              exact Classical.byContradiction fun q => by rw [getM_key.2 q] at ht; cases ht
            · rfl
          rw [this] at h4
          exact h4
        · rw [if_neg e, if_neg e, if_neg (fun q => Bool.noConfusion q)]
    · rw [show decide ((i : Int) < ((a.Args.map cS).length : Int)) = false by simp; omega]
      rw [List.drop_of_length_le (show a.Args.length ≤ i by omega), uni, if_pos rfl]
      · refine grd_mk (by omega) ?_
        rw [zip_snd vs out h3]
      · intro s r c q h; cases h
theorem fit_eq (g : Nat) (a f : GAtom) (vs rest cs : List ByteArray) (hn : vs.Nodup) (hV : ∀ s ∈ vs, isV s = true) (hg : vs.length < g) (hvl : vs.length * 16 ≤ 140737488355328) (hal : a.Args.length ≤ 1000000000) (hfl : f.Args.length ≤ 1000000000) (hg2 : a.Args.length < g) (h3 : cs.length ≤ vs.length) (h4 : (a.Args ++ rest).foldl addV (vs.take cs.length) = vs) :
    M_r16_fit g a f vs cs = some (if f.Name = a.Name ∧ f.Args.length = a.Args.length ∧ (uni (vs.zip cs) [] a.Args f.Args).2.1 = true then ((uni (vs.zip cs) [] a.Args f.Args).2.2.map Prod.snd, true) else ([], false)) := by
  unfold M_r16_fit
  rw [beq_bl, sel_not, sel_dec]
  by_cases e : a.Name = f.Name
  · rw [if_pos e, show (((a.Args.map cS).length : Int) != ((f.Args.map cS).length : Int)) = !decide (f.Args.length = a.Args.length) by rw [bne, beq_int, List.length_map, List.length_map]; exact congrArg not (decide_eq_decide.2 (by omega)), sel_not, sel_dec]
    by_cases e2 : f.Args.length = a.Args.length
    · rw [if_pos e2]
      show grd _ (M_r16_fit_L1 a f vs g g 0 cs) = _
      refine grd_mk (by omega) ?_
      have := fit_loop a f vs rest g hn hV hg hvl (by omega) e2 g 0 cs [] (by omega) (Nat.zero_le _) h3 (by rw [List.drop_zero]; exact h4)
      rw [List.drop_zero, List.drop_zero, show ((0 : Nat) : Int) = 0 from rfl] at this
      rw [this]
      by_cases e3 : (uni (vs.zip cs) [] a.Args f.Args).2.1 = true
      · rw [if_pos e3, if_pos ⟨e.symm, e2, e3⟩]
      · rw [if_neg e3, if_neg (fun q => e3 q.2.2)]
    · rw [if_neg e2, if_neg (fun q => e2 q.2.1)]; rfl
  · rw [if_neg e, if_neg (fun q => e q.1.symm)]; rfl
/-- the reference's search -/
def refB (S : GSet) (un : List (ByteArray × ByteArray)) : List GAtom → Bd → List Bd
  | [], b => if difF b un = true then [b] else []
  | a :: r, b => S.flatMap (fun f => if f.Name = a.Name ∧ f.Args.length = a.Args.length ∧ (uni b [] a.Args f.Args).2.1 = true then refB S un r (uni b [] a.Args f.Args).2.2 else [])
theorem refB_len (S : GSet) (un : List (ByteArray × ByteArray)) : ∀ (body : List GAtom) (b : Bd), (refB S un body b).length ≤ S.length ^ body.length
  | [], b => by
    rw [refB]
    split <;> simp
  | a :: r, b => by
    rw [refB, List.length_cons, Nat.pow_succ, Nat.mul_comm]
    refine flat_le _ _ S (fun f _ => ?_)
    split
    · exact refB_len S un r _
    · exact Nat.zero_le _
theorem drop_flat {α β : Type} (f : α → List β) {l : List α} {i : Nat} {y : α} (h : l[i]? = some y) : (l.drop i).flatMap f = f y ++ (l.drop (i + 1)).flatMap f := by
  rw [dropC h, List.flatMap_cons]
section
variable (S : GSet) (body : List GAtom) (un : List (ByteArray × ByteArray)) (vs : List ByteArray) (G : Nat)
  (hn : vs.Nodup) (hV : ∀ s ∈ vs, isV s = true) (hvl : vs.length * 16 ≤ 140737488355328) (hgv : vs.length < G) (hgu : un.length < G) (hgS : S.length < G) (hgA : Few G body) (hfS : Few G S) (hG : G ≤ 4611686018427387904) (hbl : body.length < G)
  (hpow : ∀ m, m ≤ body.length → S.length ^ m * 24 ≤ 140737488355328)
include hn hV hvl hgv hgu hgS hgA hfS hG hbl hpow
theorem bind_eq : ∀ (n at' : Nat), body.length = at' + n → ∀ (g : Nat) (cs : List ByteArray), G + n < g → cs.length ≤ vs.length → ((body.drop at').flatMap (·.Args)).foldl addV (vs.take cs.length) = vs →
    M_r16_bindings g S body un vs cs (at' : Int) = some ((refB S un (body.drop at') (vs.zip cs)).map (·.map Prod.snd)) := by
  intro n
  induction n with
  | zero =>
    intro at' hat g cs hg h1 h2
    obtain ⟨g, rfl⟩ : ∃ g', g = g' + 1 := ⟨g - 1, by omega⟩
    rw [M_r16_bindings, show ((at' : Int) == ((body.map cGAtom).length : Int)) = true by simp; omega]
    show ob1 (M_r16_differ g un vs cs) _ = _
    rw [rdif_eq un vs cs g (by omega) (by omega) (by omega) (by omega), ob1_some, List.drop_of_length_le (by omega), refB]
    cases difF (vs.zip cs) un with
    | true =>
      rw [if_pos rfl]
      show some [cs] = some [(vs.zip cs).map Prod.snd]
      rw [zip_snd vs cs h1]
    | false => rw [if_neg (by decide)]; rfl
  | succ n ih =>
    intro at' hat g cs hg h1 h2
    obtain ⟨g, rfl⟩ : ∃ g', g = g' + 1 := ⟨g - 1, by omega⟩
    have hlt : at' < body.length := by omega
    have hy := List.getElem?_eq_getElem hlt
    generalize hya : body[at'] = a at hy
    have hma : a ∈ body := by rw [← hya]; exact List.getElem_mem hlt
    rw [M_r16_bindings, show ((at' : Int) == ((body.map cGAtom).length : Int)) = false by simp; omega]
    show M_r16_bindings_L1 S body un vs cs (at' : Int) g (M_r16_bindings g) g 0 [] = _
    rw [dropC hy, List.flatMap_cons] at h2
    have key : ∀ (k i : Nat) (acc : List (List ByteArray)), S.length + 1 ≤ i + k → i ≤ S.length → acc.length ≤ i * S.length ^ n →
        M_r16_bindings_L1 S body un vs cs (at' : Int) g (M_r16_bindings g) k (i : Int) acc = some (acc ++ (((S.drop i).flatMap (fun f => if f.Name = a.Name ∧ f.Args.length = a.Args.length ∧ (uni (vs.zip cs) [] a.Args f.Args).2.1 = true then refB S un (body.drop (at' + 1)) (uni (vs.zip cs) [] a.Args f.Args).2.2 else [])).map (·.map Prod.snd))) := by
      intro k
      induction k with
      | zero => intro i acc h3 h4; omega
      | succ k ih2 =>
        intro i acc h3 h4 h5
        rw [M_r16_bindings_L1]
        have hp := hpow (n + 1) (by omega)
        rw [Nat.pow_succ, Nat.mul_comm (S.length ^ n)] at hp
        by_cases h : i < S.length
        · have hz := List.getElem?_eq_getElem h
          have hmS := hfS _ (List.getElem_mem h)
          generalize hzf : S[i] = f at hz hmS
          rw [show decide ((i : Int) < ((S.map cGAtom).length : Int)) = true by simp; omega]
          show ix body (at' : Int) _ = _
          have hmul : (i + 1) * S.length ^ n ≤ S.length * S.length ^ n := Nat.mul_le_mul_right _ h
          rw [Nat.succ_mul] at hmul
          have hfa := hgA a hma
          rw [ix_at hy, ix_at hz, fit_eq g a f vs ((body.drop (at' + 1)).flatMap (·.Args)) cs hn hV (by omega) hvl hfa.1 hmS.1 (by omega) h1 h2, drop_flat _ hz]
          by_cases e : f.Name = a.Name ∧ f.Args.length = a.Args.length ∧ (uni (vs.zip cs) [] a.Args f.Args).2.1 = true
          · rw [if_pos e, if_pos e]
            have hkeys : (uni (vs.zip cs) [] a.Args f.Args).2.2.map Prod.fst = a.Args.foldl addV (vs.take cs.length) := by
              rw [uni_keys _ _ _ _ e.2.1.symm e.2.2, zip_fst vs cs h1]
            generalize hb : (uni (vs.zip cs) [] a.Args f.Args).2.2 = b' at hkeys
            rw [List.foldl_append, ← hkeys] at h2
            have hpre := addV_pre ((body.drop (at' + 1)).flatMap (·.Args)) (b'.map Prod.fst)
            rw [h2] at hpre
            have hl2 : (b'.map Prod.snd).length = (b'.map Prod.fst).length := by rw [List.length_map, List.length_map]
            have htake : vs.take (b'.map Prod.snd).length = b'.map Prod.fst := by
              rw [hl2]; exact (List.prefix_iff_eq_take.1 hpre).symm
            have hle : (b'.map Prod.snd).length ≤ vs.length := by rw [hl2]; exact hpre.length_le
            have hzip : vs.zip (b'.map Prod.snd) = b' := zip_eq (by rw [zip_fst _ _ hle, htake]) (by rw [zip_snd _ _ hle])
            have hrec := ih (at' + 1) (by omega) g (b'.map Prod.snd) (by omega) hle (by rw [htake]; exact h2)
            rw [hzip] at hrec
            have hrl := refB_len S un (body.drop (at' + 1)) b'
            rw [List.length_drop, show body.length - (at' + 1) = n by omega] at hrl
            show ob1 (M_r16_bindings g S body un vs (b'.map Prod.snd) (IntKind.i64.wrap ((at' : Int) + 1))) _ = _
            rw [wrap_eq (by omega) (by omega), show (at' : Int) + 1 = ((at' + 1 : Nat) : Int) from rfl, hrec, ob1_some]
            refine grd_mk (by rw [List.length_map]; omega) ?_
            rw [wrap_eq (by omega) (by omega)]
            have h6 := ih2 (i + 1) (acc ++ (refB S un (body.drop (at' + 1)) b').map (·.map Prod.snd)) (by omega) (by omega) (by rw [List.length_append, List.length_map, Nat.succ_mul]; omega)
            rw [show ((i + 1 : Nat) : Int) = (i : Int) + 1 from rfl] at h6
            rw [h6, List.map_append, List.append_assoc]
          · rw [if_neg e, if_neg e, List.nil_append]
            show M_r16_bindings_L1 _ _ _ _ _ _ _ _ k _ _ = _
            rw [wrap_eq (by omega) (by omega)]
            exact ih2 (i + 1) acc (by omega) (by omega) (by rw [Nat.succ_mul]; omega)
        · rw [show decide ((i : Int) < ((S.map cGAtom).length : Int)) = false by simp; omega]
          rw [List.drop_of_length_le (show S.length ≤ i by omega), List.flatMap_nil, List.map_nil, List.append_nil]
          have : acc.length ≤ S.length * S.length ^ n := by rw [show i = S.length by omega] at h5; exact h5
          exact grd_mk (by omega) rfl
    have := key g 0 [] (by omega) (Nat.zero_le _) (by simp)
    rw [List.drop_zero, List.nil_append, show ((0 : Nat) : Int) = 0 from rfl] at this
    rw [this, dropC hy, refB]
end
/-- both searches find the same -/
theorem tB_mono {b b' : Bd} (h : ∀ s x, getM b s = some x → getM b' s = some x) {s x : ByteArray} (ht : tB b s = some x) : tB b' s = some x := by
  unfold tB at ht ⊢
  split
  · rename_i hv; rw [if_pos hv] at ht; exact h s x ht
  · rename_i hv; rw [if_neg hv] at ht; exact ht
theorem uni_mono : ∀ (xs cs : List ByteArray) (b : Bd) (fr : List ByteArray) (s x : ByteArray), getM b s = some x → getM (uni b fr xs cs).2.2 s = some x
  | [], cs, b, fr, s, x, h => by rw [uni]; exact h; simp
  | t :: r, [], b, fr, s, x, h => by rw [uni]; exact h; simp
  | t :: r, c :: q, b, fr, s, x, h => by
    rw [uni]
    cases ht : tB b t with
    | none =>
      refine uni_mono r q _ _ s x ?_
      rw [getM_setM, if_neg (fun e => by rw [← e, (tB_none ht).2] at h; cases h)]
      exact h
    | some y =>
      simp only []
      split
      · exact uni_mono r q _ _ s x h
      · exact h
def Bad (b : Bd) (un : List (ByteArray × ByteArray)) : Prop := ∃ p ∈ un, ∃ x, tB b p.1 = some x ∧ tB b p.2 = some x
theorem bad_of {b : Bd} {un : List (ByteArray × ByteArray)} (h : dif b un = false) : Bad b un := by
  unfold dif at h
  obtain ⟨p, hp, hd⟩ := List.all_eq_false.1 h
  unfold difP at hd
  split at hd
  · rename_i x y h1 h2
    simp at hd
    exact ⟨p, hp, x, h1, by rw [hd]; exact h2⟩
  · simp at hd
theorem uni_allV {xs cs : List ByteArray} {b : Bd} {fr : List ByteArray} (hl : xs.length = cs.length) (hu : (uni b fr xs cs).2.1 = true) (hn : (b.map Prod.fst).Nodup) (hV : ∀ s ∈ b.map Prod.fst, isV s = true) : ((uni b fr xs cs).2.2.map Prod.fst).Nodup ∧ ∀ s ∈ (uni b fr xs cs).2.2.map Prod.fst, isV s = true := by
  rw [uni_keys _ _ _ _ hl hu]
  exact addV_ok xs _ hn hV
theorem refB_bad {S : GSet} {un : List (ByteArray × ByteArray)} : ∀ (body : List GAtom) (b : Bd), (b.map Prod.fst).Nodup → (∀ s ∈ b.map Prod.fst, isV s = true) → Bad b un → refB S un body b = []
  | [], b, _, hV, ⟨p, hp, x, h1, h2⟩ => by
    rw [refB, if_neg]
    intro h
    have := List.all_eq_true.1 h p hp
    rw [tB_rep hV h1, tB_rep hV h2] at this
    simp at this
  | a :: r, b, hn, hV, hb => by
    rw [refB]
    refine List.flatMap_eq_nil_iff.2 fun f _ => ?_
    split
    · rename_i e
      obtain ⟨h1, h2⟩ := uni_allV (fr := []) e.2.1.symm e.2.2 hn hV
      obtain ⟨p, hp, x, h3, h4⟩ := hb
      exact refB_bad r _ h1 h2 ⟨p, hp, x, tB_mono (uni_mono _ _ _ _) h3, tB_mono (uni_mono _ _ _ _) h4⟩
    · rfl
theorem filter_flat {α β : Type} (p : α → Bool) (f g : α → List β) (h1 : ∀ x, p x = true → f x = g x) (h2 : ∀ x, p x = false → g x = []) : ∀ l : List α, (l.filter p).flatMap f = l.flatMap g
  | [] => rfl
  | x :: r => by
    rw [List.filter_cons, List.flatMap_cons]
    cases hp : p x with
    | true => rw [if_pos rfl, List.flatMap_cons, h1 x hp, filter_flat p f g h1 h2 r]
    | false => rw [if_neg (by decide), h2 x hp, filter_flat p f g h1 h2 r]; rfl
theorem refB_eq {S : GSet} {un : List (ByteArray × ByteArray)} : ∀ (body : List GAtom) (b : Bd), (b.map Prod.fst).Nodup → (∀ s ∈ b.map Prod.fst, isV s = true) →
    (∀ p ∈ un, (isV p.1 = true → p.1 ∈ (body.flatMap (·.Args)).foldl addV (b.map Prod.fst)) ∧ (isV p.2 = true → p.2 ∈ (body.flatMap (·.Args)).foldl addV (b.map Prod.fst))) → refB S un body b = sols S un body b
  | [], b, hn, hV, hk => by
    rw [refB, sols]
    have : difF b un = dif b un := by
      cases hd : dif b un with
      | false =>
        have h1 := refB_bad (S := S) [] b hn hV (bad_of hd)
        rw [refB] at h1
        split at h1
        · cases h1
        · rename_i q; simpa using q
      | true =>
        refine List.all_eq_true.2 fun p hp => ?_
        have h1 := List.all_eq_true.1 hd p hp
        obtain ⟨x, hx⟩ := tB_key (hk p hp).1
        obtain ⟨y, hy⟩ := tB_key (hk p hp).2
        unfold difP at h1
        rw [hx, hy] at h1
        rw [tB_rep hV hx, tB_rep hV hy]
        simp at h1 ⊢
        exact h1
    rw [this]
  | a :: r, b, hn, hV, hk => by
    rw [sols]
    cases hd : dif b un with
    | false => rw [if_neg (by decide)]; exact refB_bad _ b hn hV (bad_of hd)
    | true =>
      rw [if_pos rfl, refB, grp_eq]
      refine (filter_flat _ _ _ (fun f hf => ?_) (fun f hf => ?_) S).symm
      · have hf := of_decide_eq_true hf
        unfold keyF at hf
        simp only [Prod.mk.injEq, List.length_map] at hf
        have hl : f.Args.length = a.Args.length := by omega
        by_cases e : (uni b [] a.Args f.Args).2.1 = true
        · rw [if_pos e, if_pos ⟨hf.1, hl, e⟩]
          obtain ⟨h1, h2⟩ := uni_allV (fr := []) hl.symm e hn hV
          refine (refB_eq r _ h1 h2 (fun p hp => ?_)).symm
          rw [uni_keys _ _ _ _ hl.symm e]
          have := hk p hp
          rw [List.flatMap_cons, List.foldl_append] at this
          exact this
        · rw [if_neg e, if_neg (fun q => e q.2.2)]
      · rw [if_neg]
        rintro ⟨q1, q2, _⟩
        have hf := of_decide_eq_false hf
        unfold keyF at hf
        simp only [Prod.mk.injEq, List.length_map] at hf
        exact hf ⟨q1, by omega⟩
end Go.Proofs.YtflgpccacloadaaDoor.Am
