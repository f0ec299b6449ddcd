/- Texts of the proof, part 5 of 6. -/
import Derived.Test.YtflgpccacloadaaDoorB2
import Derived.Test.YtflgpccacloadaaDoorB4
import Derived.Test.YtflgpccacloadaaDoorB3
import Derived.Laws.Append
set_option linter.unusedVariables false
set_option linter.unusedSectionVars false
set_option linter.unusedSimpArgs false
/- Models printed by my decompiler, and the proofs that the code computes them. -/
namespace Go.Proofs.YtflgpccacloadaaDoor.Am
set_option maxHeartbeats 16000000
set_option maxRecDepth 100000
open Go.RowKit
theorem zg_XDCk {P : Prop} (h : P := by repeat (first | exact True.intro | exact gb_nil rfl rfl | exact gb_take rfl ⟨rfl, rfl, rfl⟩ List.map_take FrI.h | exact gb_take rfl ⟨rfl, rfl, rfl⟩ (takeC (by omega)) FrI.h | exact gb_take rfl ⟨rfl, rfl, rfl⟩ (takeC0 (by omega)) FrI.h |  refine gb_some ⟨rfl, rfl, rfl⟩ ?_ | refine And.intro ?_ ?_ | refine gw_ren rfl rfl rfl rfl rfl ?_ | exact gw_oren rfl rfl rfl rfl rfl | exact gw_opren rfl rfl rfl rfl rfl | exact gw_onil rfl rfl | exact gw_mren rfl rfl rfl rfl | refine gw_pren rfl rfl rfl rfl rfl | exact gw_thaw rfl rfl rfl | refine gw_tup ?_ | refine gw_ifc ?_ | exact GWL.nil | exact gwll_nil | exact gw_c | exact GW.sl | exact GW.nil | exact gwll_same rfl FrI.h | refine GWL.cons ?_ ?_ | refine gwll_cons ?_ ?_ | (refine gw_own3 rfl rfl rfl FrI.h ?_ ?_ ?_) | exact GW.mpf rfl rfl rfl FrI.h rfl | refine CloK.bw ?_ | exact GW.fr FrV.h | exact GW.fr (by assumption) | refine gw_agg ?_ | refine gw_clo ?_ | refine gw_ptr rfl rfl rfl ?_ | (refine gw_own rfl rfl rfl ?_ FrI.h ?_ ?_) | assumption | omega | rfl | (rw [List.length_map, ← List.length_append]; assumption) | (refine gwll_same ?_ FrI.h; (simp [cGRule, cGAtom, cS, cA2_cS, cF] <;> fail)) | (rw [List.map_set]; refine gwll_set (by first | rfl | omega | simp) ?_ ?_) | refine gwll_set (by first | rfl | omega | simp) ?_ ?_ | (rw [List.map_replicate]; refine gwll_rep ?_) | refine gwll_rep ?_ | (rw [List.map_append]; refine gwll_append ?_ ?_) | refine gwll_append ?_ ?_ | (simp [cGRule, cGAtom, cS, cA2_cS, cF, take_len_map] <;> fail) | (rw [List.drop_zero, List.take_of_length_le] <;> first | rfl | (simp [cGRule, cGAtom, cS, cA2_cS, cF] <;> fail)) | (simp; omega) | (simp only [List.length_map, List.length_append, List.drop_zero, List.length_cons, List.length_nil, Nat.zero_add, Nat.add_zero] at *; omega))) : P := h
theorem ci_XDCk {p K : Prop} (k : K) (h : p := by first | rfl | exact ⟨rfl, rfl⟩ | exact BW.mpf rfl rfl rfl FrI.h rfl | exact cloK3 rfl rfl rfl rfl rfl rfl rfl rfl rfl | exact CloK.bw (BW.fr (by assumption)) | exact BW.fr FrV.h | (refine BW.fr ?_; assumption) | (refine ⟨rfl, ?_⟩; (simp [cGRule, cGAtom, cS, cA2_cS, cF, take_len_map]; done)) | (refine RowK.same ?_ FrI.h; first | rfl | (simp [cGRule, cGAtom, cS, cA2_cS, cF, take_len_map]; done)) | (refine row_part1 ?_; (repeat (first | exact BWL.nil | exact bwll_nil | exact bw_c | exact BW.sl | exact BW.nil | exact bwll_same rfl FrI.h | refine BWL.cons ?_ ?_ | refine bwll_cons ?_ ?_ | (refine bw_own3 rfl rfl rfl FrI.h ?_ ?_ ?_) | exact BW.mpf rfl rfl rfl FrI.h rfl | exact cloK3 rfl rfl rfl rfl rfl rfl rfl rfl rfl | exact CloK.bw (BW.fr (by assumption)) | exact BW.fr FrV.h | exact BW.fr (by assumption) | refine bw_agg ?_ | refine bw_clo ?_ | refine bw_ptr rfl rfl rfl ?_ | (refine bw_own rfl rfl rfl ?_ FrI.h ?_ ?_) | assumption | omega | rfl | (rw [List.length_map, ← List.length_append]; assumption) | (refine bwll_same ?_ FrI.h; (simp [cGRule, cGAtom, cS, cA2_cS, cF] <;> fail)) | (rw [List.map_set]; refine bwll_set (by first | rfl | omega | simp) ?_ ?_) | refine bwll_set (by first | rfl | omega | simp) ?_ ?_ | (rw [List.map_replicate]; refine bwll_rep ?_) | refine bwll_rep ?_ | (rw [List.map_append]; refine bwll_append ?_ ?_) | refine bwll_append ?_ ?_ | (simp [cGRule, cGAtom, cS, cA2_cS, cF, take_len_map] <;> fail) | (rw [List.drop_zero, List.take_of_length_le] <;> first | rfl | (simp [cGRule, cGAtom, cS, cA2_cS, cF] <;> fail)) | (simp; omega) | (simp only [List.length_map, List.length_append, List.drop_zero, List.length_cons, List.length_nil, Nat.zero_add, Nat.add_zero] at *; omega))); done) | ((repeat (first | exact BWL.nil | exact bwll_nil | exact bw_c | exact BW.sl | exact BW.nil | exact bwll_same rfl FrI.h | refine BWL.cons ?_ ?_ | refine bwll_cons ?_ ?_ | (refine bw_own3 rfl rfl rfl FrI.h ?_ ?_ ?_) | exact BW.mpf rfl rfl rfl FrI.h rfl | exact cloK3 rfl rfl rfl rfl rfl rfl rfl rfl rfl | exact CloK.bw (BW.fr (by assumption)) | exact BW.fr FrV.h | exact BW.fr (by assumption) | refine bw_agg ?_ | refine bw_clo ?_ | refine bw_ptr rfl rfl rfl ?_ | (refine bw_own rfl rfl rfl ?_ FrI.h ?_ ?_) | assumption | omega | rfl | (rw [List.length_map, ← List.length_append]; assumption) | (refine bwll_same ?_ FrI.h; (simp [cGRule, cGAtom, cS, cA2_cS, cF] <;> fail)) | (rw [List.map_set]; refine bwll_set (by first | rfl | omega | simp) ?_ ?_) | refine bwll_set (by first | rfl | omega | simp) ?_ ?_ | (rw [List.map_replicate]; refine bwll_rep ?_) | refine bwll_rep ?_ | (rw [List.map_append]; refine bwll_append ?_ ?_) | refine bwll_append ?_ ?_ | (simp [cGRule, cGAtom, cS, cA2_cS, cF, take_len_map] <;> fail) | (rw [List.drop_zero, List.take_of_length_le] <;> first | rfl | (simp [cGRule, cGAtom, cS, cA2_cS, cF] <;> fail)) | (simp; omega) | (simp only [List.length_map, List.length_append, List.drop_zero, List.length_cons, List.length_nil, Nat.zero_add, Nat.add_zero] at *; omega))); done) | (simp [cGRule, cGAtom, cS, cA2_cS, cF, take_len_map]; done)) : p ∧ K := ⟨h, k⟩
theorem ca_XDCk {P : Prop} (h : P := by repeat (first | exact True.intro | refine ci_XDCk ?_)) : P := h
theorem pr_XDCk {p K : Prop} (k : K) (h : p := by first | assumption | exact Int.natCast_nonneg _ | exact Nat.le_refl _ | exact Nat.zero_le _ | omega | (simp; done) | (simp; omega)) : p ∧ K := ⟨h, k⟩
theorem pl_XDCk {p K : Prop} (k : K) (h : p := by first | rfl | exact List.length_map _ | (simp; done) | (simp; omega)) : p ∧ K := ⟨h, k⟩
theorem pe_XDCk {p K : Prop} (k : K) (h : p := by first | omega | (simp; omega) | (simp only [List.length_map, List.length_cons, List.length_nil, List.length_append]; omega) | (simp only [List.length_map, List.drop_zero, List.length_cons, List.length_nil, Nat.zero_add, Nat.add_zero] at *; omega)) : p ∧ K := ⟨h, k⟩
theorem dr_XDCk {b : Bool} {p K : Prop} (k : K) (h : b = true → p := by intro h; first | (cases h; done) | exact ⟨by kernel_rfl, by kernel_rfl⟩) : (b = true → p) ∧ K := ⟨h, k⟩
theorem cl_XDCk {C : Cx} {n : Nat} {o : Oper} {τ : Nat → AV} {η : Nat → Ent} {f : FuncId} {os : Array Operand} {ats : Array TypeId} {r : AV} {args : List AV} {K : Foot → Prop} (ho : o.op = .call ⟨.value (.func f), os, ats⟩) (hc : ACall C f args r) (k : K ⟨r, [], []⟩)
    (hd : InB n o.dst := by exact Nat.le_of_ble_eq_true rfl) (hargs : os.toList.map (evA τ) = args := by first | rfl | (simp [cGRule, cGAtom, cS, cA2_cS, cF]; done) | (repeat (first | exact rfl | refine cons_eq ?_ ?_ | exact sl_dt rfl))) (hfr : frs args := by repeat (first | exact trivial | exact fr1_eA _ | exact fr0_eA _ | exact fr1_fr (by assumption) | exact FrV.h | exact fr1_fr FrV.h | refine And.intro ?_ ?_)) (hr : fr1 r := by repeat (first | exact trivial | exact fr1_eA _ | exact fr0_eA _ | exact fr1_fr (by assumption) | exact FrV.h | exact fr1_fr FrV.h | refine And.intro ?_ ?_)) : ∃ f : Foot, LF C n o τ η f ∧ K f := ⟨_, lf_call ho hd hargs hc hfr hr, k⟩
theorem clc_XDCk {C : Cx} {n : Nat} {o : Oper} {τ : Nat → AV} {η : Nat → Ent} {c : Operand} {os : Array Operand} {ats : Array TypeId} {r F : AV} {xs : List AV} {K : Foot → Prop} (ho : o.op = .call ⟨.value c, os, ats⟩) (hc : CCl C F xs r) (hfF : Fr F) (k : K ⟨r, [], []⟩)
    (hd : InB n o.dst := by exact Nat.le_of_ble_eq_true rfl) (hF : evA τ c = F := by rfl) (hargs : os.toList.map (evA τ) = xs := by first | rfl | (simp [cGRule, cGAtom, cS, cA2_cS, cF]; done) | (repeat (first | exact rfl | refine cons_eq ?_ ?_ | exact sl_dt rfl))) (hfr : frs xs := by repeat (first | exact trivial | exact fr1_eA _ | exact fr0_eA _ | exact fr1_fr (by assumption) | exact FrV.h | exact fr1_fr FrV.h | refine And.intro ?_ ?_)) (hr : fr1 r := by repeat (first | exact trivial | exact fr1_eA _ | exact fr0_eA _ | exact fr1_fr (by assumption) | exact FrV.h | exact fr1_fr FrV.h | refine And.intro ?_ ?_)) : ∃ f : Foot, LF C n o τ η f ∧ K f := ⟨_, lf_clo ho hd hF hargs hc hfF hfr hr, k⟩
theorem clb_XDCk {C : Cx} {n : Nat} {o : Oper} {τ : Nat → AV} {η : Nat → Ent} {f : FuncId} {os : Array Operand} {ats : Array TypeId} {r : AV} {xs ys : List AV} {K : Foot → Prop} (bs : List Nat) (ho : o.op = .call ⟨.value (.func f), os, ats⟩) (hargs : os.toList.map (evA τ) = xs) (hc : ACall C f ys r) (k : K ⟨r, [], bs⟩)
    (hd : InB n o.dst := by exact Nat.le_of_ble_eq_true rfl) (hb : BWL η (dropB η bs) xs ys := by repeat (first | exact BWL.nil | exact bwll_nil | exact bw_c | exact BW.sl | exact BW.nil | exact bwll_same rfl FrI.h | refine BWL.cons ?_ ?_ | refine bwll_cons ?_ ?_ | (refine bw_own3 rfl rfl rfl FrI.h ?_ ?_ ?_) | exact BW.mpf rfl rfl rfl FrI.h rfl | refine CloK.bw ?_ | exact BW.fr FrV.h | exact BW.fr (by assumption) | refine bw_agg ?_ | refine bw_clo ?_ | refine bw_ptr rfl rfl rfl ?_ | (refine bw_own rfl rfl rfl ?_ FrI.h ?_ ?_) | assumption | omega | rfl | (rw [List.length_map, ← List.length_append]; assumption) | (refine bwll_same ?_ FrI.h; (simp [cGRule, cGAtom, cS, cA2_cS, cF] <;> fail)) | (rw [List.map_set]; refine bwll_set (by first | rfl | omega | simp) ?_ ?_) | refine bwll_set (by first | rfl | omega | simp) ?_ ?_ | (rw [List.map_replicate]; refine bwll_rep ?_) | refine bwll_rep ?_ | (rw [List.map_append]; refine bwll_append ?_ ?_) | refine bwll_append ?_ ?_ | (simp [cGRule, cGAtom, cS, cA2_cS, cF, take_len_map] <;> fail) | (rw [List.drop_zero, List.take_of_length_le] <;> first | rfl | (simp [cGRule, cGAtom, cS, cA2_cS, cF] <;> fail)) | (simp; omega) | (simp only [List.length_map, List.length_append, List.drop_zero, List.length_cons, List.length_nil, Nat.zero_add, Nat.add_zero] at *; omega))) (hr : scal r := by repeat (first | exact trivial | exact scal0_eA _ | exact scal_eA _ | refine And.intro ?_ ?_)) : ∃ f : Foot, LF C n o τ η f ∧ K f := ⟨_, lf_callB bs ho hd hargs hb hc hr, k⟩
theorem clg_XDCk {C : Cx} {n : Nat} {o : Oper} {τ : Nat → AV} {η : Nat → Ent} {f : FuncId} {os : Array Operand} {ats : Array TypeId} {r : AV} {xs ys : List AV} {bs bs' : List (Nat × Blk)} {ks : List Nat} {K : Foot → Prop} (ρ : List (Nat × Nat)) (fz : List Nat) (go nb : List (Nat × Ent)) (r' : AV) (ho : o.op = .call ⟨.value (.func f), os, ats⟩) (hargs : os.toList.map (evA τ) = xs)
    (hc : ACallG C f ys bs ks r bs') (k : K ⟨r', go ++ nb, []⟩) (hd : InB n o.dst := by exact Nat.le_of_ble_eq_true rfl) (hok : okC ρ fz bs ks bs' (idsE go) = true := by rfl) (hgo : allUs η go := by repeat (first | exact trivial | refine And.intro rfl ?_)) (hgl : ltUs n go := by repeat (first | exact trivial | refine And.intro (Nat.le_of_ble_eq_true rfl) ?_))
    (hw : GWL η (fE bs) (lk ρ) (fun i => inB fz i = true) (fun i => inB (keys bs) i = true) xs ys := by exact zg_XDCk) (hb : GBL η (fE bs) (lk ρ) (fun i => inB fz i = true) (fun i => inB (keys bs) i = true) bs := by exact zg_XDCk)
    (hr : GW (fE bs') (updAll η (go ++ nb)) (lk (backN ρ bs')) (fun _ => False) (fun i => inB (idsE nb) i = true) r r' := by exact zg_XDCk)
    (hnb : nbOk n η (updAll η (go ++ nb)) ρ ks (fE bs') (lk (backN ρ bs')) (fun i => inB (idsE nb) i = true) bs' nb := by repeat (first | exact True.intro | rfl | exact Nat.le_of_ble_eq_true rfl | exact gb_nil rfl rfl | exact gb_take rfl ⟨rfl, rfl, rfl⟩ List.map_take FrI.h | exact gb_take rfl ⟨rfl, rfl, rfl⟩ (takeC (by omega)) FrI.h | exact gb_take rfl ⟨rfl, rfl, rfl⟩ (takeC0 (by omega)) FrI.h |  refine gb_some ⟨rfl, rfl, rfl⟩ ?_ | refine And.intro ?_ ?_ | refine gw_ren rfl rfl rfl rfl rfl ?_ | exact gw_oren rfl rfl rfl rfl rfl | exact gw_opren rfl rfl rfl rfl rfl | exact gw_onil rfl rfl | exact gw_mren rfl rfl rfl rfl | refine gw_pren rfl rfl rfl rfl rfl | exact gw_thaw rfl rfl rfl | refine gw_tup ?_ | refine gw_ifc ?_ | exact GWL.nil | exact gwll_nil | exact gw_c | exact GW.sl | exact GW.nil | exact gwll_same rfl FrI.h | refine GWL.cons ?_ ?_ | refine gwll_cons ?_ ?_ | (refine gw_own3 rfl rfl rfl FrI.h ?_ ?_ ?_) | exact GW.mpf rfl rfl rfl FrI.h rfl | refine CloK.bw ?_ | exact GW.fr FrV.h | exact GW.fr (by assumption) | refine gw_agg ?_ | refine gw_clo ?_ | refine gw_ptr rfl rfl rfl ?_ | (refine gw_own rfl rfl rfl ?_ FrI.h ?_ ?_) | assumption | omega | rfl | (rw [List.length_map, ← List.length_append]; assumption) | (refine gwll_same ?_ FrI.h; (simp [cGRule, cGAtom, cS, cA2_cS, cF] <;> fail)) | (rw [List.map_set]; refine gwll_set (by first | rfl | omega | simp) ?_ ?_) | refine gwll_set (by first | rfl | omega | simp) ?_ ?_ | (rw [List.map_replicate]; refine gwll_rep ?_) | refine gwll_rep ?_ | (rw [List.map_append]; refine gwll_append ?_ ?_) | refine gwll_append ?_ ?_ | (simp [cGRule, cGAtom, cS, cA2_cS, cF, take_len_map] <;> fail) | (rw [List.drop_zero, List.take_of_length_le] <;> first | rfl | (simp [cGRule, cGAtom, cS, cA2_cS, cF] <;> fail)) | (simp; omega) | (simp only [List.length_map, List.length_append, List.drop_zero, List.length_cons, List.length_nil, Nat.zero_add, Nat.add_zero] at *; omega))) : ∃ f : Foot, LF C n o τ η f ∧ K f := ⟨_, lf_callG ρ fz go nb ho hd hargs hc hok hgo hgl hw hb hr hnb, k⟩
def M_s_Index_string_L1 (a0 : List ByteArray) (a1 : ByteArray) : Nat → Int → Option (Int)
  | 0, _ => none
  | k5 + 1, v4 =>
    sel (decide (v4 < ((a0.map cS).length : Int)))
     (ix a0 v4 (fun y6 =>
       sel (a1.toList == y6.toList)
        (some v4)
        (M_s_Index_string_L1 a0 a1 k5 (IntKind.i64.wrap (v4 + 1)))))
     (some (-1))
def M_s_Index_string (a0 : List ByteArray) (a1 : ByteArray) : Option (Int) :=
  M_s_Index_string_L1 a0 a1 ((((a0.map cS).length : Int)).toNat + 1) 0
theorem A_s_Index_string (a0 : List ByteArray) (a1 : ByteArray) {r1 : Int} (h : M_s_Index_string a0 a1 = some r1) : ACall cx 57 [.sl 1 (a0.map cS), .c (.string a1)] (.c (.int .i64 r1)) := by
  refine aOf Tryd.func57 rfl (by decide) rfl (Nat.le_of_ble_eq_true rfl) ?_; intro _; unfold M_s_Index_string at h; refine aSR ?_; intro _; refine dr_XDCk ?_; refine aSq ?_; refine aSR ?_; intro _; refine dr_XDCk ?_; refine aBk ?_; refine awp_loop (α := Nat × Int) (fun x => mkS 19 [(0, .sl 1 (a0.map cS)), (1, .c (.string a1)), (7, .c (.int .i64 ((a0.map cS).length : Int))), (8, .c (.int .i64 x.2))] []) (fun x => M_s_Index_string_L1 a0 a1 x.1 x.2 = some r1) (fun x => x.1) ((((a0.map cS).length : Int)).toNat + 1, 0) h ?_ ?_
  · exact ca_XDCk
  · intro x1 h; intro _; obtain ⟨k5, m2, h⟩ := succ_of (f := fun n => M_s_Index_string_L1 a0 a1 n x1.2) rfl h; replace h : M_s_Index_string_L1 a0 a1 (k5 + 1) x1.2 = some r1 := h; rw [M_s_Index_string_L1] at h; refine aSR ?_; intro _; refine dr_XDCk ?_; refine aSq ?_; refine aCd ?_; intro _; refine spl h (fun c3 h => ?_) (fun c3 h => ?_)
    · refine aSk ?_; refine aSq ?_; refine aBk ?_; refine aSR ?_; intro _; refine dr_XDCk ?_; refine aSR ?_; intro _; obtain ⟨y6, w4, q5, h⟩ := ix_ok h; refine Exists.intro (cS y6) (And.intro (map_at' w4) ?_); intro _; refine pr_XDCk ?_; refine dr_XDCk ?_; refine aCd ?_; intro _; refine spl h (fun c6 h => ?_) (fun c6 h => ?_)
      · refine aSR ?_; intro _; refine dr_XDCk ?_; refine aRt ?_; intro _; obtain rfl := inj1 h; exact ca_XDCk
      · refine aSk ?_; refine aRg ?_; intro _; refine dr_XDCk ?_; refine ⟨(k5, (IntKind.i64.wrap (x1.2 + 1))), h, ltS m2, ?_⟩; exact ca_XDCk
    · refine aEx ?_; refine aSR ?_; intro _; refine dr_XDCk ?_; refine aRt ?_; intro _; obtain rfl := inj1 h; exact ca_XDCk
def M_s_Contains_string (a0 : List ByteArray) (a1 : ByteArray) : Option (Bool) :=
  ob1 (M_s_Index_string a0 a1) (fun z1 =>
   some (decide (z1 ≥ 0)))
theorem A_s_Contains_string (a0 : List ByteArray) (a1 : ByteArray) {r1 : Bool} (h : M_s_Contains_string a0 a1 = some r1) : ACall cx 38 [.sl 1 (a0.map cS), .c (.string a1)] (.c (.bool r1)) := by
  refine aOf Tryd.func38 rfl (by decide) rfl (Nat.le_of_ble_eq_true rfl) ?_; intro _; unfold M_s_Contains_string at h; refine aSR ?_; intro _; refine dr_XDCk ?_; refine aSR ?_; intro _; obtain ⟨z1, u1, h⟩ := ob1_ok h; refine cl_XDCk rfl (A_s_Index_string a0 a1 u1) ?_; intro _; refine dr_XDCk ?_; refine aRt ?_; intro _; obtain rfl := inj1 h; exact ca_XDCk
def M_datalog_Variables_L1 (y87 : GAtom) : Nat → Int → (List ByteArray) → Option (List ByteArray)
  | 0, _, _ => none
  | k98 + 1, v96, v97 =>
    sel (decide (v96 < ((y87.Args.map cS).length : Int)))
     (ix y87.Args v96 (fun y99 =>
       ob1 (M_datalog_variable y99) (fun z100 =>
        sel z100
         (grd (v97.length ≤ 140737488355328) (ob1 (M_s_Contains_string v97 y99) (fun z101 =>
           sel (!z101)
            (grd ((v97.length + 1) * 16 ≤ 140737488355328) (M_datalog_Variables_L1 y87 k98 (IntKind.i64.wrap (v96 + 1)) (v97 ++ [y99])))
            (M_datalog_Variables_L1 y87 k98 (IntKind.i64.wrap (v96 + 1)) v97))))
         (M_datalog_Variables_L1 y87 k98 (IntKind.i64.wrap (v96 + 1)) v97))))
     (some v97)
def M_datalog_Variables_L2 (a0 : List GAtom) : Nat → Int → (List ByteArray) → Option (List ByteArray)
  | 0, _, _ => none
  | k69 + 1, v67, v68 =>
    sel (decide (v67 < ((a0.map cGAtom).length : Int)))
     (ob1 (ix a0 v67 (fun y87 =>
        M_datalog_Variables_L1 y87 ((((y87.Args.map cS).length : Int)).toNat + 1) 0 v68) : Option (List ByteArray))
       (fun v85 => M_datalog_Variables_L2 a0 k69 (IntKind.i64.wrap (v67 + 1)) v85))
     (grd (v68.length ≤ 140737488355328) (some v68))
def M_datalog_Variables (a0 : List GAtom) : Option (List ByteArray) :=
  M_datalog_Variables_L2 a0 ((((a0.map cGAtom).length : Int)).toNat + 1) 0 []
theorem A_datalog_Variables (a0 : List GAtom) {r1 : List ByteArray} (h : M_datalog_Variables a0 = some r1) : ACall cx 33 [.sl 2 (a0.map cGAtom)] (.sl 1 (r1.map cS)) := by
  refine aOf Tryd.func33 rfl (by decide) rfl (Nat.le_of_ble_eq_true rfl) ?_; intro _; unfold M_datalog_Variables at h; refine aSR ?_; intro _; refine dr_XDCk ?_; refine aSR ?_; intro _; refine dr_XDCk ?_; refine aSq ?_; refine aSR ?_; intro _; refine dr_XDCk ?_; refine aBk ?_; refine awp_loop (α := Nat × Int × (List ByteArray)) (fun x => mkS 36 [(3, .own 32 0 0 x.2.2.length), (8, .sl 2 (a0.map cGAtom)), (9, .c (.int .i64 ((a0.map cGAtom).length : Int))), (10, .c (.int .i64 x.2.1))] [(32, ⟨9, 1, false, x.2.2.map cS⟩)]) (fun x => M_datalog_Variables_L2 a0 x.1 x.2.1 x.2.2 = some r1) (fun x => x.1) ((((a0.map cGAtom).length : Int)).toNat + 1, 0, []) h ?_ ?_
  · exact ca_XDCk
  · intro x1 h; intro _; obtain ⟨k69, m2, h⟩ := succ_of (f := fun n => M_datalog_Variables_L2 a0 n x1.2.1 x1.2.2) rfl h; replace h : M_datalog_Variables_L2 a0 (k69 + 1) x1.2.1 x1.2.2 = some r1 := h; rw [M_datalog_Variables_L2] at h; refine aSR ?_; intro _; refine dr_XDCk ?_; refine aSq ?_; refine aCd ?_; intro _; refine spl h (fun c3 h => ?_) (fun c3 h => ?_)
    · refine aSk ?_; obtain ⟨o4, h, hK5⟩ := ob1_ok h; refine awp_cut (α := List ByteArray) (fun v85 => mkS 36 [(3, .own 32 0 0 v85.length), (8, .sl 2 (a0.map cGAtom)), (9, .c (.int .i64 ((a0.map cGAtom).length : Int))), (10, .c (.int .i64 x1.2.1))] [(32, ⟨9, 1, false, v85.map cS⟩)]) (fun v => o4 = v) ?_ ?_
      · refine aBk ?_; refine aSR ?_; intro _; obtain ⟨y87, w6, q7, h⟩ := ix_ok h; refine Exists.intro (cGAtom y87) (And.intro (map_at' w6) ?_); intro _; refine pr_XDCk ?_; refine dr_XDCk ?_; refine aSR ?_; intro _; refine dr_XDCk ?_; refine aBk ?_; refine awp_loop (α := Nat × Int × (List ByteArray)) (fun x => mkS 36 [(3, .own 32 0 0 x.2.2.length), (8, .sl 2 (a0.map cGAtom)), (9, .c (.int .i64 ((a0.map cGAtom).length : Int))), (10, .c (.int .i64 x1.2.1)), (15, .sl 1 (y87.Args.map cS)), (16, .c (.int .i64 ((y87.Args.map cS).length : Int))), (17, .c (.int .i64 x.2.1))] [(32, ⟨9, 1, false, x.2.2.map cS⟩)]) (fun x => M_datalog_Variables_L1 y87 x.1 x.2.1 x.2.2 = some o4) (fun x => x.1) ((((y87.Args.map cS).length : Int)).toNat + 1, 0, x1.2.2) h ?_ ?_
        · exact ca_XDCk
        · intro x8 h; intro _; obtain ⟨k98, m9, h⟩ := succ_of (f := fun n => M_datalog_Variables_L1 y87 n x8.2.1 x8.2.2) rfl h; replace h : M_datalog_Variables_L1 y87 (k98 + 1) x8.2.1 x8.2.2 = some o4 := h; rw [M_datalog_Variables_L1] at h; refine aSR ?_; intro _; refine dr_XDCk ?_; refine aSq ?_; refine aCd ?_; intro _; refine spl h (fun c10 h => ?_) (fun c10 h => ?_)
          · refine aSk ?_; refine aSq ?_; refine aBk ?_; refine aSR ?_; intro _; obtain ⟨y99, w11, q12, h⟩ := ix_ok h; refine Exists.intro (cS y99) (And.intro (map_at' w11) ?_); intro _; refine pr_XDCk ?_; refine dr_XDCk ?_; refine aSR ?_; intro _; obtain ⟨z100, u13, h⟩ := ob1_ok h; refine cl_XDCk rfl (A_datalog_variable y99 u13) ?_; intro _; refine spl h (fun c14 h => ?_) (fun c14 h => ?_)
            · intro _; obtain ⟨q15, h⟩ := grd_ok h; obtain ⟨z101, u16, h⟩ := ob1_ok h; refine clb_XDCk [32] rfl rfl (A_s_Contains_string x8.2.2 y99 u16) ?_; intro _; refine dr_XDCk ?_; refine aCd ?_; intro _; refine spl h (fun c17 h => ?_) (fun c17 h => ?_)
              · refine aRg ?_; intro _; obtain ⟨q18, h⟩ := grd_ok h; refine pl_XDCk ?_; refine pl_XDCk ?_; refine And.intro (by first | with_reducible assumption | (show (x8.2.2.length + 1) * 16 ≤ 140737488355328; with_reducible assumption) | omega | (simp; omega)) ?_; refine pe_XDCk ?_; refine dr_XDCk ?_; refine aRg ?_; intro _; refine dr_XDCk ?_; refine ⟨(k98, (IntKind.i64.wrap (x8.2.1 + 1)), (x8.2.2 ++ [y99])), h, ltS m9, ?_⟩; exact ca_XDCk
              · refine aSk ?_; refine aRg ?_; intro _; refine dr_XDCk ?_; refine ⟨(k98, (IntKind.i64.wrap (x8.2.1 + 1)), x8.2.2), h, ltS m9, ?_⟩; exact ca_XDCk
            · intro _; refine dr_XDCk ?_; refine aCd ?_; intro _; refine litF ?_; refine aSk ?_; refine aRg ?_; intro _; refine dr_XDCk ?_; refine ⟨(k98, (IntKind.i64.wrap (x8.2.1 + 1)), x8.2.2), h, ltS m9, ?_⟩; exact ca_XDCk
          · refine aEx ?_; refine ⟨x8.2.2, (Option.some.inj h).symm, ?_⟩; exact ca_XDCk
      · rintro v85 ho; have ho := ho.symm; subst ho; intro _; replace h := hK5; refine aRg ?_; intro _; refine dr_XDCk ?_; refine ⟨(k69, (IntKind.i64.wrap (x1.2.1 + 1)), v85), h, ltS m2, ?_⟩; exact ca_XDCk
    · refine aEx ?_; refine aSR ?_; intro _; refine dr_XDCk ?_; refine aRt ?_; obtain ⟨q19, h⟩ := grd_ok h; intro _; obtain rfl := inj1 h; exact ca_XDCk
def M_s_IndexFunc_string_L1 (a0 : List ByteArray) (a1 : ByteArray → Option Bool) : Nat → Int → Option (Int)
  | 0, _ => none
  | k7 + 1, v6 =>
    sel (decide (v6 < ((a0.map cS).length : Int)))
     (ix a0 v6 (fun y8 =>
       ob1 (a1 y8) (fun z9 =>
        sel z9
         (some v6)
         (M_s_IndexFunc_string_L1 a0 a1 k7 (IntKind.i64.wrap (v6 + 1))))))
     (some (-1))
def M_s_IndexFunc_string (a0 : List ByteArray) (a1 : ByteArray → Option Bool) : Option (Int) :=
  M_s_IndexFunc_string_L1 a0 a1 ((((a0.map cS).length : Int)).toNat + 1) 0
theorem A_s_IndexFunc_string (a0 : List ByteArray) (a1 : ByteArray → Option Bool) (Fa1 : AV) (hFa1 : Fr Fa1) (ea1 : ∃ f fs cap, Fa1 = .clo (.func f) fs cap) (ha1 : ∀ (x0 : ByteArray) (y0 : Bool), a1 x0 = some y0 → CCl cx Fa1 [.c (.string x0)] (.c (.bool y0))) {r1 : Int} (h : M_s_IndexFunc_string a0 a1 = some r1) : ACall cx 55 [.sl 1 (a0.map cS), Fa1] (.c (.int .i64 r1)) := by
  obtain ⟨fa1, sa1, qa1, rfl⟩ := ea1; refine aOf Tryd.func55 rfl (by decide) rfl (Nat.le_of_ble_eq_true rfl) ?_; intro _; unfold M_s_IndexFunc_string at h; refine aSR ?_; intro _; refine dr_XDCk ?_; refine aSq ?_; refine aSR ?_; intro _; refine dr_XDCk ?_; refine aBk ?_; refine awp_loop (α := Nat × Int) (fun x => mkS 19 [(0, .sl 1 (a0.map cS)), (1, .clo (.func fa1) sa1 qa1), (7, .c (.int .i64 ((a0.map cS).length : Int))), (8, .c (.int .i64 x.2))] []) (fun x => M_s_IndexFunc_string_L1 a0 a1 x.1 x.2 = some r1) (fun x => x.1) ((((a0.map cS).length : Int)).toNat + 1, 0) h ?_ ?_
  · exact ca_XDCk
  · intro x1 h; intro _; obtain ⟨k7, m2, h⟩ := succ_of (f := fun n => M_s_IndexFunc_string_L1 a0 a1 n x1.2) rfl h; replace h : M_s_IndexFunc_string_L1 a0 a1 (k7 + 1) x1.2 = some r1 := h; rw [M_s_IndexFunc_string_L1] at h; refine aSR ?_; intro _; refine dr_XDCk ?_; refine aSq ?_; refine aCd ?_; intro _; refine spl h (fun c3 h => ?_) (fun c3 h => ?_)
    · refine aSk ?_; refine aSq ?_; refine aBk ?_; refine aSR ?_; intro _; refine dr_XDCk ?_; refine aSR ?_; intro _; obtain ⟨y8, w4, q5, h⟩ := ix_ok h; refine Exists.intro (cS y8) (And.intro (map_at' w4) ?_); intro _; obtain ⟨z9, u6, h⟩ := ob1_ok h; refine clc_XDCk rfl (ha1 _ _ u6) hFa1 ?_; intro _; refine pr_XDCk ?_; refine dr_XDCk ?_; refine aCd ?_; intro _; refine spl h (fun c7 h => ?_) (fun c7 h => ?_)
      · refine aSR ?_; intro _; refine dr_XDCk ?_; refine aRt ?_; intro _; obtain rfl := inj1 h; exact ca_XDCk
      · refine aSk ?_; refine aRg ?_; intro _; refine dr_XDCk ?_; refine ⟨(k7, (IntKind.i64.wrap (x1.2 + 1))), h, ltS m2, ?_⟩; exact ca_XDCk
    · refine aEx ?_; refine aSR ?_; intro _; refine dr_XDCk ?_; refine aRt ?_; intro _; obtain rfl := inj1 h; exact ca_XDCk
def M_s_ContainsFunc_string (a0 : List ByteArray) (a1 : ByteArray → Option Bool) : Option (Bool) :=
  ob1 (M_s_IndexFunc_string a0 a1) (fun z1 =>
   some (decide (z1 ≥ 0)))
theorem A_s_ContainsFunc_string (a0 : List ByteArray) (a1 : ByteArray → Option Bool) (Fa1 : AV) (hFa1 : Fr Fa1) (ea1 : ∃ f fs cap, Fa1 = .clo (.func f) fs cap) (ha1 : ∀ (x0 : ByteArray) (y0 : Bool), a1 x0 = some y0 → CCl cx Fa1 [.c (.string x0)] (.c (.bool y0))) {r1 : Bool} (h : M_s_ContainsFunc_string a0 a1 = some r1) : ACall cx 35 [.sl 1 (a0.map cS), Fa1] (.c (.bool r1)) := by
  obtain ⟨fa1, sa1, qa1, rfl⟩ := ea1; refine aOf Tryd.func35 rfl (by decide) rfl (Nat.le_of_ble_eq_true rfl) ?_; intro _; unfold M_s_ContainsFunc_string at h; refine aSR ?_; intro _; refine dr_XDCk ?_; refine aSR ?_; intro _; obtain ⟨z1, u1, h⟩ := ob1_ok h; refine cl_XDCk rfl (A_s_IndexFunc_string a0 a1 (.clo (.func fa1) sa1 qa1) hFa1 ⟨_, _, _, rfl⟩ ha1 u1) ?_; intro _; refine dr_XDCk ?_; refine aRt ?_; intro _; obtain rfl := inj1 h; exact ca_XDCk
def M_datalog_CheckRule_1 (b0 : List ByteArray) (a0 : ByteArray) : Option (Bool) :=
  ob1 (M_datalog_variable a0) (fun z1 =>
   sel z1
    (ob1 (M_s_Contains_string b0 a0) (fun z2 =>
      some (!z2)))
    (some false))
theorem A_datalog_CheckRule_1 (b0 : List ByteArray) (a0 : ByteArray) {r1 : Bool} (h : M_datalog_CheckRule_1 b0 a0 = some r1) : ACall cx 36 [.c (.string a0), .pim [.sl 1 (b0.map cS)] 0] (.c (.bool r1)) := by
  refine aOf Tryd.func36 rfl (by decide) rfl (Nat.le_of_ble_eq_true rfl) ?_; intro _; unfold M_datalog_CheckRule_1 at h; refine aSR ?_; intro _; refine dr_XDCk ?_; refine aSR ?_; intro _; obtain ⟨z1, u1, h⟩ := ob1_ok h; refine cl_XDCk rfl (A_datalog_variable a0 u1) ?_; intro _; refine spl h (fun c2 h => ?_) (fun c2 h => ?_)
  · intro _; obtain ⟨z2, u3, h⟩ := ob1_ok h; refine cl_XDCk rfl (A_s_Contains_string b0 a0 u3) ?_; intro _; refine dr_XDCk ?_; refine aRt ?_; intro _; obtain rfl := inj1 h; exact ca_XDCk
  · intro _; refine dr_XDCk ?_; refine aRt ?_; intro _; obtain rfl := inj1 h; exact ca_XDCk
def M_s_IndexFunc_Atom_L1 (a0 : List GAtom) (a1 : GAtom → Option Bool) : Nat → Int → Option (Int)
  | 0, _ => none
  | k7 + 1, v6 =>
    sel (decide (v6 < ((a0.map cGAtom).length : Int)))
     (ix a0 v6 (fun y8 =>
       ob1 (a1 y8) (fun z9 =>
        sel z9
         (some v6)
         (M_s_IndexFunc_Atom_L1 a0 a1 k7 (IntKind.i64.wrap (v6 + 1))))))
     (some (-1))
def M_s_IndexFunc_Atom (a0 : List GAtom) (a1 : GAtom → Option Bool) : Option (Int) :=
  M_s_IndexFunc_Atom_L1 a0 a1 ((((a0.map cGAtom).length : Int)).toNat + 1) 0
theorem A_s_IndexFunc_Atom (a0 : List GAtom) (a1 : GAtom → Option Bool) (Fa1 : AV) (hFa1 : Fr Fa1) (ea1 : ∃ f fs cap, Fa1 = .clo (.func f) fs cap) (ha1 : ∀ (x0 : GAtom) (y0 : Bool), a1 x0 = some y0 → CCl cx Fa1 [.agg [.c (.string x0.Name), .sl 1 (x0.Args.map cS)]] (.c (.bool y0))) {r1 : Int} (h : M_s_IndexFunc_Atom a0 a1 = some r1) : ACall cx 58 [.sl 2 (a0.map cGAtom), Fa1] (.c (.int .i64 r1)) := by
  obtain ⟨fa1, sa1, qa1, rfl⟩ := ea1; refine aOf Tryd.func58 rfl (by decide) rfl (Nat.le_of_ble_eq_true rfl) ?_; intro _; unfold M_s_IndexFunc_Atom at h; refine aSR ?_; intro _; refine dr_XDCk ?_; refine aSq ?_; refine aSR ?_; intro _; refine dr_XDCk ?_; refine aBk ?_; refine awp_loop (α := Nat × Int) (fun x => mkS 19 [(0, .sl 2 (a0.map cGAtom)), (1, .clo (.func fa1) sa1 qa1), (7, .c (.int .i64 ((a0.map cGAtom).length : Int))), (8, .c (.int .i64 x.2))] []) (fun x => M_s_IndexFunc_Atom_L1 a0 a1 x.1 x.2 = some r1) (fun x => x.1) ((((a0.map cGAtom).length : Int)).toNat + 1, 0) h ?_ ?_
  · exact ca_XDCk
  · intro x1 h; intro _; obtain ⟨k7, m2, h⟩ := succ_of (f := fun n => M_s_IndexFunc_Atom_L1 a0 a1 n x1.2) rfl h; replace h : M_s_IndexFunc_Atom_L1 a0 a1 (k7 + 1) x1.2 = some r1 := h; rw [M_s_IndexFunc_Atom_L1] at h; refine aSR ?_; intro _; refine dr_XDCk ?_; refine aSq ?_; refine aCd ?_; intro _; refine spl h (fun c3 h => ?_) (fun c3 h => ?_)
    · refine aSk ?_; refine aSq ?_; refine aBk ?_; refine aSR ?_; intro _; refine dr_XDCk ?_; refine aSR ?_; intro _; obtain ⟨y8, w4, q5, h⟩ := ix_ok h; refine Exists.intro (cGAtom y8) (And.intro (map_at' w4) ?_); intro _; obtain ⟨z9, u6, h⟩ := ob1_ok h; refine clc_XDCk rfl (ha1 _ _ u6) hFa1 ?_; intro _; refine pr_XDCk ?_; refine dr_XDCk ?_; refine aCd ?_; intro _; refine spl h (fun c7 h => ?_) (fun c7 h => ?_)
      · refine aSR ?_; intro _; refine dr_XDCk ?_; refine aRt ?_; intro _; obtain rfl := inj1 h; exact ca_XDCk
      · refine aSk ?_; refine aRg ?_; intro _; refine dr_XDCk ?_; refine ⟨(k7, (IntKind.i64.wrap (x1.2 + 1))), h, ltS m2, ?_⟩; exact ca_XDCk
    · refine aEx ?_; refine aSR ?_; intro _; refine dr_XDCk ?_; refine aRt ?_; intro _; obtain rfl := inj1 h; exact ca_XDCk
def M_s_ContainsFunc_Atom (a0 : List GAtom) (a1 : GAtom → Option Bool) : Option (Bool) :=
  ob1 (M_s_IndexFunc_Atom a0 a1) (fun z1 =>
   some (decide (z1 ≥ 0)))
theorem A_s_ContainsFunc_Atom (a0 : List GAtom) (a1 : GAtom → Option Bool) (Fa1 : AV) (hFa1 : Fr Fa1) (ea1 : ∃ f fs cap, Fa1 = .clo (.func f) fs cap) (ha1 : ∀ (x0 : GAtom) (y0 : Bool), a1 x0 = some y0 → CCl cx Fa1 [.agg [.c (.string x0.Name), .sl 1 (x0.Args.map cS)]] (.c (.bool y0))) {r1 : Bool} (h : M_s_ContainsFunc_Atom a0 a1 = some r1) : ACall cx 39 [.sl 2 (a0.map cGAtom), Fa1] (.c (.bool r1)) := by
  obtain ⟨fa1, sa1, qa1, rfl⟩ := ea1; refine aOf Tryd.func39 rfl (by decide) rfl (Nat.le_of_ble_eq_true rfl) ?_; intro _; unfold M_s_ContainsFunc_Atom at h; refine aSR ?_; intro _; refine dr_XDCk ?_; refine aSR ?_; intro _; obtain ⟨z1, u1, h⟩ := ob1_ok h; refine cl_XDCk rfl (A_s_IndexFunc_Atom a0 a1 (.clo (.func fa1) sa1 qa1) hFa1 ⟨_, _, _, rfl⟩ ha1 u1) ?_; intro _; refine dr_XDCk ?_; refine aRt ?_; intro _; obtain rfl := inj1 h; exact ca_XDCk
def M_datalog_CheckRule_2 (a0 : GAtom) : Option (Bool) :=
  some (decide (((a0.Args.map cS).length : Int) > 6))
theorem A_datalog_CheckRule_2 (a0 : GAtom) {r1 : Bool} (h : M_datalog_CheckRule_2 a0 = some r1) : ACall cx 40 [.agg [.c (.string a0.Name), .sl 1 (a0.Args.map cS)]] (.c (.bool r1)) := by
  refine aOf Tryd.func40 rfl (by decide) rfl (Nat.le_of_ble_eq_true rfl) ?_; intro _; unfold M_datalog_CheckRule_2 at h; refine aSR ?_; intro _; refine dr_XDCk ?_; refine aSR ?_; intro _; refine dr_XDCk ?_; refine aRt ?_; intro _; obtain rfl := inj1 h; exact ca_XDCk
def M_datalog_CheckRule_3 (a0 : GAtom) : Option (Bool) :=
  some (a0.Name.toList == (⟨#[]⟩ : ByteArray).toList)
theorem A_datalog_CheckRule_3 (a0 : GAtom) {r1 : Bool} (h : M_datalog_CheckRule_3 a0 = some r1) : ACall cx 41 [.agg [.c (.string a0.Name), .sl 1 (a0.Args.map cS)]] (.c (.bool r1)) := by
  refine aOf Tryd.func41 rfl (by decide) rfl (Nat.le_of_ble_eq_true rfl) ?_; intro _; unfold M_datalog_CheckRule_3 at h; refine aSR ?_; intro _; refine dr_XDCk ?_; refine aSR ?_; intro _; refine dr_XDCk ?_; refine aRt ?_; intro _; obtain rfl := inj1 h; exact ca_XDCk
def M_datalog_CheckRule_L1 (a0 : GRule) : Nat → Int → (List ByteArray) → Option (List ByteArray)
  | 0, _, _ => none
  | k19 + 1, v17, v18 =>
    sel (decide (v17 < ((a0.Unequal.map cA2_cS).length : Int)))
     (ix a0.Unequal v17 (fun y20 =>
       grd ((v18.length + 2) * 16 ≤ 140737488355328) (M_datalog_CheckRule_L1 a0 k19 (IntKind.i64.wrap (v17 + 1)) (v18 ++ [y20.1, y20.2]))))
     (some v18)
def M_datalog_CheckRule (a0 : GRule) : Option (Er) :=
  ob1 (M_datalog_Variables a0.Body) (fun z1 =>
   ob1 (M_cloneSo a0.Head.Args) (fun z2 =>
    ob1 (M_datalog_CheckRule_L1 a0 ((((a0.Unequal.map cA2_cS).length : Int)).toNat + 1) 0 z2 : Option (List ByteArray))
     (fun v11 => grd (v11.length ≤ 140737488355328) (ob1 (M_s_ContainsFunc_string v11 (M_datalog_CheckRule_1 z1)) (fun z21 =>
        sel z21
         (some (Er.no 2))
         (grd ((1 + a0.Body.length) * 40 ≤ 140737488355328) (ob1 (sel (decide (((a0.Body.map cGAtom).length : Int) > 16))
            (some (.inr (Er.no 5)))
            (grd (([a0.Head] ++ a0.Body).length ≤ 140737488355328) (ob1 (M_s_ContainsFunc_Atom ([a0.Head] ++ a0.Body) M_datalog_CheckRule_2) (fun z25 =>
              sel z25
               (some (.inr (Er.no 5)))
               (some (.inl ()))))) : Option (Unit ⊕ Er))
           (osum
           (fun _ => grd (([a0.Head] ++ a0.Body).length ≤ 140737488355328) (ob1 (M_s_ContainsFunc_Atom ([a0.Head] ++ a0.Body) M_datalog_CheckRule_3) (fun z26 =>
              sel z26
               (some (Er.no 8))
               (some Er.nil))))
           (fun r23 => some r23)))))))))
theorem A_datalog_CheckRule (a0 : GRule) {r1 : Er} (h : M_datalog_CheckRule a0 = some r1) : ACall cx 13 [.agg [.c (.string a0.Head.Name), .sl 1 (a0.Head.Args.map cS), .sl 2 (a0.Body.map cGAtom), .sl 2 (a0.Unequal.map cA2_cS)]] (eA r1) := by
  refine aOf Tryd.func13 rfl (by decide) rfl (Nat.le_of_ble_eq_true rfl) ?_; intro _; unfold M_datalog_CheckRule at h; refine aSR ?_; intro _; refine dr_XDCk ?_; refine aSR ?_; intro _; obtain ⟨z1, u1, h⟩ := ob1_ok h; refine cl_XDCk rfl (A_datalog_Variables a0.Body u1) ?_; intro _; refine dr_XDCk ?_; refine aSR ?_; intro _; obtain ⟨z2, u2, h⟩ := ob1_ok h; refine clg_XDCk [(0, 14)] [] [] [(14, ⟨2, some ⟨9, 1, false, z2.map cS⟩⟩)] (.own 14 2 0 z2.length) rfl rfl (A_cloneSo a0.Head.Args u2) ?_; intro _; refine dr_XDCk ?_; obtain ⟨o3, h, hK4⟩ := ob1_ok h; refine awp_cut (α := List ByteArray) (fun v11 => mkS 52 [(1, .ptr 1 0 0 0), (3, .ptr 3 0 0 0), (4, .own 14 0 0 v11.length)] [(1, ⟨28, 4, true, [[.c (.string a0.Head.Name), .sl 1 (a0.Head.Args.map cS), .sl 2 (a0.Body.map cGAtom), .sl 2 (a0.Unequal.map cA2_cS)]]⟩), (3, ⟨22, 1, true, [[.sl 1 (z1.map cS)]]⟩), (14, ⟨9, 1, false, v11.map cS⟩)]) (fun v => o3 = v) ?_ ?_
  · refine aSR ?_; intro _; refine dr_XDCk ?_; refine aBk ?_; refine awp_loop (α := Nat × Int × (List ByteArray)) (fun x => mkS 52 [(1, .ptr 1 0 0 0), (3, .ptr 3 0 0 0), (4, .own 14 0 0 x.2.2.length), (16, .sl 2 (a0.Unequal.map cA2_cS)), (17, .c (.int .i64 ((a0.Unequal.map cA2_cS).length : Int))), (18, .c (.int .i64 x.2.1))] [(1, ⟨28, 4, true, [[.c (.string a0.Head.Name), .sl 1 (a0.Head.Args.map cS), .sl 2 (a0.Body.map cGAtom), .sl 2 (a0.Unequal.map cA2_cS)]]⟩), (3, ⟨22, 1, true, [[.sl 1 (z1.map cS)]]⟩), (14, ⟨9, 1, false, x.2.2.map cS⟩)]) (fun x => M_datalog_CheckRule_L1 a0 x.1 x.2.1 x.2.2 = some o3) (fun x => x.1) ((((a0.Unequal.map cA2_cS).length : Int)).toNat + 1, 0, z2) h ?_ ?_
    · exact ca_XDCk
    · intro x5 h; intro _; obtain ⟨k19, m6, h⟩ := succ_of (f := fun n => M_datalog_CheckRule_L1 a0 n x5.2.1 x5.2.2) rfl h; replace h : M_datalog_CheckRule_L1 a0 (k19 + 1) x5.2.1 x5.2.2 = some o3 := h; rw [M_datalog_CheckRule_L1] at h; refine aSR ?_; intro _; refine dr_XDCk ?_; refine aSq ?_; refine aCd ?_; intro _; refine spl h (fun c7 h => ?_) (fun c7 h => ?_)
      · refine aSk ?_; refine aSq ?_; refine aBk ?_; refine aSR ?_; intro _; obtain ⟨y20, w8, q9, h⟩ := ix_ok h; refine Exists.intro (cA2_cS y20) (And.intro (map_at' w8) ?_); intro _; refine pr_XDCk ?_; refine dr_XDCk ?_; refine aRg ?_; intro _; refine ⟨_, lf_arrAt rfl (Nat.le_of_ble_eq_true rfl) rfl rfl rfl (tyTab_ok 58 _ rfl) rfl (tyTab_ok 9 _ rfl) (by decide) (by decide), ?_⟩; intro _; refine ⟨_, lf_arrAt rfl (Nat.le_of_ble_eq_true rfl) rfl rfl rfl (tyTab_ok 58 _ rfl) rfl (tyTab_ok 9 _ rfl) (by decide) (by decide), ?_⟩; intro _; obtain ⟨q10, h⟩ := grd_ok h; refine pl_XDCk ?_; refine pl_XDCk ?_; refine And.intro (by first | with_reducible assumption | (show (x5.2.2.length + 2) * 16 ≤ 140737488355328; with_reducible assumption) | omega | (simp; omega)) ?_; refine pe_XDCk ?_; refine dr_XDCk ?_; refine aRg ?_; intro _; refine dr_XDCk ?_; refine ⟨(k19, (IntKind.i64.wrap (x5.2.1 + 1)), (x5.2.2 ++ [y20.1, y20.2])), h, ltS m6, ?_⟩; exact ca_XDCk
      · refine aEx ?_; refine ⟨x5.2.2, (Option.some.inj h).symm, ?_⟩; exact ca_XDCk
  · rintro v11 ho; have ho := ho.symm; subst ho; intro _; replace h := hK4; refine aSq ?_; refine aSR ?_; intro _; refine ⟨_, lf_func rfl (Nat.le_of_ble_eq_true rfl) rfl rfl, ?_⟩; intro _; obtain ⟨q11, h⟩ := grd_ok h; obtain ⟨z21, u12, h⟩ := ob1_ok h; refine clb_XDCk [3, 14] rfl rfl (A_s_ContainsFunc_string v11 (M_datalog_CheckRule_1 z1) (.clo (.func 36) [] [.pim [.sl 1 (z1.map cS)] 0]) (Fr.clo FrC_nil FrE.h) ⟨_, _, _, rfl⟩ (fun x0 y0 hx => ⟨36, [], _, rfl, A_datalog_CheckRule_1 z1 x0 hx⟩) u12) ?_; intro _; refine dr_XDCk ?_; refine aCd ?_; intro _; refine spl h (fun c13 h => ?_) (fun c13 h => ?_)
    · refine aSR ?_; intro _; refine dr_XDCk ?_; refine aRt ?_; intro _; obtain rfl := inj1 h; exact ca_XDCk
    · refine aSk ?_; refine aSR ?_; intro _; obtain ⟨q14, h⟩ := grd_ok h; refine pl_XDCk ?_; refine And.intro (by first | with_reducible assumption | (show (1 + a0.Body.length) * 40 ≤ 140737488355328; with_reducible assumption) | omega | (simp; omega)) ?_; refine pe_XDCk ?_; refine dr_XDCk ?_; obtain ⟨o15, h, hK16⟩ := ob1_ok h; refine awp_cut (α := Unit) (fun _ => mkS 52 [(7, .own 36 0 0 (([a0.Head] ++ a0.Body).length))] [(36, ⟨24, 2, false, ([a0.Head] ++ a0.Body).map cGAtom⟩)]) (fun v => o15 = (.inl v)) ?_ ?_
      · refine aSR ?_; intro _; refine spf h (fun c17 h => ?_) (fun c17 h => ?_)
        · intro _; obtain ⟨q18, h⟩ := grd_ok h; obtain ⟨z25, u19, h⟩ := ob1_ok h; refine clb_XDCk [36] rfl rfl (A_s_ContainsFunc_Atom ([a0.Head] ++ a0.Body) M_datalog_CheckRule_2 (.clo (.func 40) [] []) (Fr.clo FrC_nil FrE.h) ⟨_, _, _, rfl⟩ (fun x0 y0 hx => ⟨40, [], _, rfl, A_datalog_CheckRule_2 x0 hx⟩) u19) ?_; intro _; refine dr_XDCk ?_; refine aCd ?_; intro _; refine spl h (fun c20 h => ?_) (fun c20 h => ?_)
          · refine aSR ?_; intro _; refine dr_XDCk ?_; refine aRt ?_; have j21 := Option.some.inj h; subst j21; replace h := (osum_r hK16); intro _; obtain rfl := inj1 h; exact ca_XDCk
          · refine aSk ?_; refine ⟨(), (Option.some.inj h).symm, ?_⟩; exact ca_XDCk
        · intro _; refine dr_XDCk ?_; refine aCd ?_; intro _; refine litT ?_; refine aSR ?_; intro _; refine dr_XDCk ?_; refine aRt ?_; have j22 := Option.some.inj h; subst j22; replace h := (osum_r hK16); intro _; obtain rfl := inj1 h; exact ca_XDCk
      · rintro _ ho; have ho := ho.symm; subst ho; intro _; replace h := (osum_l hK16); refine aSq ?_; refine aSR ?_; intro _; obtain ⟨q23, h⟩ := grd_ok h; obtain ⟨z26, u24, h⟩ := ob1_ok h; refine clb_XDCk [36] rfl rfl (A_s_ContainsFunc_Atom ([a0.Head] ++ a0.Body) M_datalog_CheckRule_3 (.clo (.func 41) [] []) (Fr.clo FrC_nil FrE.h) ⟨_, _, _, rfl⟩ (fun x0 y0 hx => ⟨41, [], _, rfl, A_datalog_CheckRule_3 x0 hx⟩) u24) ?_; intro _; refine dr_XDCk ?_; refine aCd ?_; intro _; refine spl h (fun c25 h => ?_) (fun c25 h => ?_)
        · refine aSR ?_; intro _; refine dr_XDCk ?_; refine aRt ?_; intro _; obtain rfl := inj1 h; exact ca_XDCk
        · refine aSk ?_; refine aSR ?_; intro _; refine dr_XDCk ?_; refine aRt ?_; intro _; obtain rfl := inj1 h; exact ca_XDCk
end Go.Proofs.YtflgpccacloadaaDoor.Am
/- Plain law: what CheckRule returns. -/
namespace Go.Proofs.YtflgpccacloadaaDoor.Am
open Go.RowKit
instance memDec (s : ByteArray) (l : List ByteArray) : Decidable (s ∈ l) := decidable_of_iff (l.any (fun x => decide (x = s)) = true) (by simp)
theorem index_loop (l : List ByteArray) (s : ByteArray) (hl : l.length ≤ 4611686018427387904) : ∀ (k i : Nat), i + k = l.length + 1 → i ≤ l.length → ∃ z : Int, M_s_Index_string_L1 l s k (i : Int) = some z ∧ (0 ≤ z ↔ s ∈ l.drop i) := by
  intro k
  induction k with
  | zero => intro i h1 h2; omega
  | succ k ih =>
    intro i h1 h2
    rw [M_s_Index_string_L1]
    by_cases h : i < l.length
    · have hy := List.getElem?_eq_getElem h
      rw [show decide ((i : Int) < ((l.map cS).length : Int)) = true by simp; omega]
      show ∃ z, ix l (i : Int) _ = _ ∧ _
      rw [ix_at hy, beq_bl, sel_dec, dropC hy]
      by_cases e : s = l[i]
      · rw [if_pos e]
        exact ⟨_, rfl, fun _ => List.mem_cons.2 (.inl e), fun _ => by omega⟩
      · rw [if_neg e, wrap_eq (by omega) (by omega)]
        obtain ⟨z, h3, h4⟩ := ih (i + 1) (by omega) (by omega)
        refine ⟨z, h3, h4.trans ⟨fun q => List.mem_cons_of_mem _ q, fun q => ?_⟩⟩
        rcases List.mem_cons.1 q with q | q
        · exact absurd q e
        · exact q
    · rw [show decide ((i : Int) < ((l.map cS).length : Int)) = false by simp; omega]
      rw [List.drop_of_length_le (by omega)]
      exact ⟨-1, rfl, by simp⟩
theorem contains_eq (l : List ByteArray) (s : ByteArray) (hl : l.length ≤ 4611686018427387904) : M_s_Contains_string l s = some (decide (s ∈ l)) := by
  unfold M_s_Contains_string M_s_Index_string
  rw [show (((l.map cS).length : Int)).toNat + 1 = l.length + 1 by simp]
  obtain ⟨z, h1, h2⟩ := index_loop l s hl (l.length + 1) 0 (by omega) (Nat.zero_le _)
  rw [show ((0 : Nat) : Int) = 0 from rfl] at h1
  rw [h1, ob1_some]
  exact congrArg some (decide_eq_decide.2 (by rw [List.drop_zero] at h2; exact h2))
theorem cfS_loop (l : List ByteArray) (f : ByteArray → Option Bool) (p : ByteArray → Bool) (hf : ∀ x ∈ l, f x = some (p x)) (hl : l.length ≤ 4611686018427387904) : ∀ (k i : Nat), i + k = l.length + 1 → i ≤ l.length → ∃ z : Int, M_s_IndexFunc_string_L1 l f k (i : Int) = some z ∧ (decide (z ≥ 0) = (l.drop i).any p) := by
  intro k
  induction k with
  | zero => intro i h1 h2; omega
  | succ k ih =>
    intro i h1 h2
    rw [M_s_IndexFunc_string_L1]
    by_cases h : i < l.length
    · have hy := List.getElem?_eq_getElem h
      rw [show decide ((i : Int) < ((l.map cS).length : Int)) = true by simp; omega]
      show ∃ z, ix l (i : Int) _ = _ ∧ _
      rw [ix_at hy, hf _ (List.getElem_mem h), ob1_some, dropC hy, List.any_cons]
      cases hp : p l[i] with
      | true => exact ⟨i, rfl, by simp⟩
      | false =>
        show ∃ z, M_s_IndexFunc_string_L1 l f k _ = _ ∧ _
        rw [wrap_eq (by omega) (by omega)]
        obtain ⟨z, h3, h4⟩ := ih (i + 1) (by omega) (by omega)
        exact ⟨z, h3, by rw [h4]; simp⟩
    · rw [show decide ((i : Int) < ((l.map cS).length : Int)) = false by simp; omega]
      rw [List.drop_of_length_le (by omega)]
      exact ⟨-1, rfl, rfl⟩
theorem cfS_eq (l : List ByteArray) (f : ByteArray → Option Bool) (p : ByteArray → Bool) (hf : ∀ x ∈ l, f x = some (p x)) (hl : l.length ≤ 4611686018427387904) : M_s_ContainsFunc_string l f = some (l.any p) := by
  unfold M_s_ContainsFunc_string M_s_IndexFunc_string
  rw [show (((l.map cS).length : Int)).toNat + 1 = l.length + 1 by simp]
  obtain ⟨z, h1, h2⟩ := cfS_loop l f p hf hl (l.length + 1) 0 (by omega) (Nat.zero_le _)
  rw [show ((0 : Nat) : Int) = 0 from rfl] at h1
  rw [h1, ob1_some, h2, List.drop_zero]
theorem cfA_loop (l : List GAtom) (f : GAtom → Option Bool) (p : GAtom → Bool) (hf : ∀ x ∈ l, f x = some (p x)) (hl : l.length ≤ 4611686018427387904) : ∀ (k i : Nat), i + k = l.length + 1 → i ≤ l.length → ∃ z : Int, M_s_IndexFunc_Atom_L1 l f k (i : Int) = some z ∧ (decide (z ≥ 0) = (l.drop i).any p) := by
  intro k
  induction k with
  | zero => intro i h1 h2; omega
  | succ k ih =>
    intro i h1 h2
    rw [M_s_IndexFunc_Atom_L1]
    by_cases h : i < l.length
    · have hy := List.getElem?_eq_getElem h
      rw [show decide ((i : Int) < ((l.map cGAtom).length : Int)) = true by simp; omega]
      show ∃ z, ix l (i : Int) _ = _ ∧ _
      rw [ix_at hy, hf _ (List.getElem_mem h), ob1_some, dropC hy, List.any_cons]
      cases hp : p l[i] with
      | true => exact ⟨i, rfl, by simp⟩
      | false =>
        show ∃ z, M_s_IndexFunc_Atom_L1 l f k _ = _ ∧ _
        rw [wrap_eq (by omega) (by omega)]
        obtain ⟨z, h3, h4⟩ := ih (i + 1) (by omega) (by omega)
        exact ⟨z, h3, by rw [h4]; simp⟩
    · rw [show decide ((i : Int) < ((l.map cGAtom).length : Int)) = false by simp; omega]
      rw [List.drop_of_length_le (by omega)]
      exact ⟨-1, rfl, rfl⟩
theorem cfA_eq (l : List GAtom) (f : GAtom → Option Bool) (p : GAtom → Bool) (hf : ∀ x ∈ l, f x = some (p x)) (hl : l.length ≤ 4611686018427387904) : M_s_ContainsFunc_Atom l f = some (l.any p) := by
  unfold M_s_ContainsFunc_Atom M_s_IndexFunc_Atom
  rw [show (((l.map cGAtom).length : Int)).toNat + 1 = l.length + 1 by simp]
  obtain ⟨z, h1, h2⟩ := cfA_loop l f p hf hl (l.length + 1) 0 (by omega) (Nat.zero_le _)
  rw [show ((0 : Nat) : Int) = 0 from rfl] at h1
  rw [h1, ob1_some, h2, List.drop_zero]
/-- the variables of a list of terms, each once, in the order of their first occurrence -/
def addV (out : List ByteArray) (s : ByteArray) : List ByteArray := if isV s = true then if s ∈ out then out else out ++ [s] else out
def vars (body : List GAtom) : List ByteArray := (body.flatMap (·.Args)).foldl addV []
theorem addV_len : ∀ (l : List ByteArray) (out : List ByteArray), (l.foldl addV out).length ≤ out.length + l.length
  | [], out => Nat.le_refl _
  | s :: r, out => by
    have h1 := addV_len r (addV out s)
    have h2 : (addV out s).length ≤ out.length + 1 := by
      unfold addV
      split
      · split <;> simp
      · omega
    rw [List.foldl_cons]
    simp only [List.length_cons]
    omega
theorem varL1 (a : GAtom) (hA : a.Args.length ≤ 4611686018427387904) : ∀ (k i : Nat) (out : List ByteArray), i + k = a.Args.length + 1 → i ≤ a.Args.length → (out.length + (a.Args.length - i)) * 16 ≤ 140737488355328 → M_datalog_Variables_L1 a k (i : Int) out = some ((a.Args.drop i).foldl addV out) := by
  intro k
  induction k with
  | zero => intro i out h1 h2; omega
  | succ k ih =>
    intro i out h1 h2 h3
    rw [M_datalog_Variables_L1]
    by_cases h : i < a.Args.length
    · have hy := List.getElem?_eq_getElem h
      rw [show decide ((i : Int) < ((a.Args.map cS).length : Int)) = true by simp; omega]
      show ix a.Args (i : Int) _ = _
      rw [ix_at hy, variable_eq, ob1_some, dropC hy, List.foldl_cons, wrap_eq (by omega) (by omega)]
      unfold addV
      cases hv : isV a.Args[i] with
      | false =>
        rw [if_neg (by decide)]
        exact ih (i + 1) out (by omega) (by omega) (by omega)
      | true =>
        rw [if_pos rfl]
        refine grd_mk (by omega) ?_
        rw [contains_eq out _ (by omega), ob1_some, sel_not, sel_dec]
        by_cases e : a.Args[i] ∈ out
        · rw [if_pos e, if_pos e]
          exact ih (i + 1) out (by omega) (by omega) (by omega)
        · rw [if_neg e, if_neg e]
          exact grd_mk (by omega) (ih (i + 1) (out ++ [a.Args[i]]) (by omega) (by omega) (by simp; omega))
    · rw [show decide ((i : Int) < ((a.Args.map cS).length : Int)) = false by simp; omega]
      rw [List.drop_of_length_le (by omega)]
      rfl
theorem varL2 (body : List GAtom) (hb : body.length ≤ 4611686018427387904) : ∀ (k i : Nat) (out : List ByteArray), i + k = body.length + 1 → i ≤ body.length → (out.length + ((body.drop i).flatMap (·.Args)).length) * 16 ≤ 140737488355328 → M_datalog_Variables_L2 body k (i : Int) out = some (((body.drop i).flatMap (·.Args)).foldl addV out) := by
  intro k
  induction k with
  | zero => intro i out h1 h2; omega
  | succ k ih =>
    intro i out h1 h2 h3
    rw [M_datalog_Variables_L2]
    by_cases h : i < body.length
    · have hy := List.getElem?_eq_getElem h
      rw [show decide ((i : Int) < ((body.map cGAtom).length : Int)) = true by simp; omega]
      show ob1 (ix body (i : Int) _) _ = _
      rw [dropC hy, List.flatMap_cons, List.length_append] at h3
      have h4 := addV_len body[i].Args out
      have h5 := varL1 body[i] (by omega) (body[i].Args.length + 1) 0 out (by omega) (Nat.zero_le _) (by omega)
      rw [List.drop_zero, show ((0 : Nat) : Int) = 0 from rfl] at h5
      rw [ix_at hy, show (((body[i].Args.map cS).length : Int)).toNat + 1 = body[i].Args.length + 1 by simp, h5, ob1_some, wrap_eq (by omega) (by omega), dropC hy, List.flatMap_cons, List.foldl_append]
      exact ih (i + 1) _ (by omega) (by omega) (by omega)
    · rw [show decide ((i : Int) < ((body.map cGAtom).length : Int)) = false by simp; omega]
      rw [List.drop_of_length_le (by omega)]
      exact grd_mk (by omega) rfl
theorem variables_eq (body : List GAtom) (hb : body.length ≤ 4611686018427387904) (ht : (body.flatMap (·.Args)).length * 16 ≤ 140737488355328) : M_datalog_Variables body = some (vars body) := by
  unfold M_datalog_Variables
  rw [show (((body.map cGAtom).length : Int)).toNat + 1 = body.length + 1 by simp]
  have := varL2 body hb (body.length + 1) 0 [] (by omega) (Nat.zero_le _) (by rw [List.drop_zero]; simpa using ht)
  rw [List.drop_zero, show ((0 : Nat) : Int) = 0 from rfl] at this
  exact this
end Go.Proofs.YtflgpccacloadaaDoor.Am
/- Models printed by my decompiler, and the proofs that the code computes them. -/
namespace Go.Proofs.YtflgpccacloadaaDoor.Am
open Go.RowKit
theorem ci_XDSv {p K : Prop} (k : K) (h : p := by first | rfl | exact ⟨rfl, rfl⟩ | exact BW.mpf rfl rfl rfl FrI.h rfl | exact cloK3 rfl rfl rfl rfl rfl rfl rfl rfl rfl | exact CloK.bw (BW.fr (by assumption)) | exact BW.fr FrV.h | (refine BW.fr ?_; assumption) | (refine ⟨rfl, ?_⟩; (simp [cGAtom, cS, cGRule, cA2_cS, cF, take_len_map]; done)) | (refine RowK.same ?_ FrI.h; first | rfl | (simp [cGAtom, cS, cGRule, cA2_cS, cF, take_len_map]; done)) | (refine row_part1 ?_; (repeat (first | exact BWL.nil | exact bwll_nil | exact bw_c | exact BW.sl | exact BW.nil | exact bwll_same rfl FrI.h | refine BWL.cons ?_ ?_ | refine bwll_cons ?_ ?_ | (refine bw_own3 rfl rfl rfl FrI.h ?_ ?_ ?_) | exact BW.mpf rfl rfl rfl FrI.h rfl | exact cloK3 rfl rfl rfl rfl rfl rfl rfl rfl rfl | exact CloK.bw (BW.fr (by assumption)) | exact BW.fr FrV.h | exact BW.fr (by assumption) | refine bw_agg ?_ | refine bw_clo ?_ | refine bw_ptr rfl rfl rfl ?_ | (refine bw_own rfl rfl rfl ?_ FrI.h ?_ ?_) | assumption | omega | rfl | (rw [List.length_map, ← List.length_append]; assumption) | (refine bwll_same ?_ FrI.h; (simp [cGAtom, cS, cGRule, cA2_cS, cF] <;> fail)) | (rw [List.map_set]; refine bwll_set (by first | rfl | omega | simp) ?_ ?_) | refine bwll_set (by first | rfl | omega | simp) ?_ ?_ | (rw [List.map_replicate]; refine bwll_rep ?_) | refine bwll_rep ?_ | (rw [List.map_append]; refine bwll_append ?_ ?_) | refine bwll_append ?_ ?_ | (simp [cGAtom, cS, cGRule, cA2_cS, cF, take_len_map] <;> fail) | (rw [List.drop_zero, List.take_of_length_le] <;> first | rfl | (simp [cGAtom, cS, cGRule, cA2_cS, cF] <;> fail)) | (simp; omega) | (simp only [List.length_map, List.length_append, List.drop_zero, List.length_cons, List.length_nil, Nat.zero_add, Nat.add_zero] at *; omega))); done) | ((repeat (first | exact BWL.nil | exact bwll_nil | exact bw_c | exact BW.sl | exact BW.nil | exact bwll_same rfl FrI.h | refine BWL.cons ?_ ?_ | refine bwll_cons ?_ ?_ | (refine bw_own3 rfl rfl rfl FrI.h ?_ ?_ ?_) | exact BW.mpf rfl rfl rfl FrI.h rfl | exact cloK3 rfl rfl rfl rfl rfl rfl rfl rfl rfl | exact CloK.bw (BW.fr (by assumption)) | exact BW.fr FrV.h | exact BW.fr (by assumption) | refine bw_agg ?_ | refine bw_clo ?_ | refine bw_ptr rfl rfl rfl ?_ | (refine bw_own rfl rfl rfl ?_ FrI.h ?_ ?_) | assumption | omega | rfl | (rw [List.length_map, ← List.length_append]; assumption) | (refine bwll_same ?_ FrI.h; (simp [cGAtom, cS, cGRule, cA2_cS, cF] <;> fail)) | (rw [List.map_set]; refine bwll_set (by first | rfl | omega | simp) ?_ ?_) | refine bwll_set (by first | rfl | omega | simp) ?_ ?_ | (rw [List.map_replicate]; refine bwll_rep ?_) | refine bwll_rep ?_ | (rw [List.map_append]; refine bwll_append ?_ ?_) | refine bwll_append ?_ ?_ | (simp [cGAtom, cS, cGRule, cA2_cS, cF, take_len_map] <;> fail) | (rw [List.drop_zero, List.take_of_length_le] <;> first | rfl | (simp [cGAtom, cS, cGRule, cA2_cS, cF] <;> fail)) | (simp; omega) | (simp only [List.length_map, List.length_append, List.drop_zero, List.length_cons, List.length_nil, Nat.zero_add, Nat.add_zero] at *; omega))); done) | (simp [cGAtom, cS, cGRule, cA2_cS, cF, take_len_map]; done)) : p ∧ K := ⟨h, k⟩
theorem ca_XDSv {P : Prop} (h : P := by repeat (first | exact True.intro | refine ci_XDSv ?_)) : P := h
theorem pr_XDSv {p K : Prop} (k : K) (h : p := by first | assumption | exact Int.natCast_nonneg _ | exact Nat.le_refl _ | exact Nat.zero_le _ | omega | (simp; done) | (simp; omega)) : p ∧ K := ⟨h, k⟩
theorem dr_XDSv {b : Bool} {p K : Prop} (k : K) (h : b = true → p := by intro h; first | (cases h; done) | exact ⟨by kernel_rfl, by kernel_rfl⟩) : (b = true → p) ∧ K := ⟨h, k⟩
theorem cl_XDSv {C : Cx} {n : Nat} {o : Oper} {τ : Nat → AV} {η : Nat → Ent} {f : FuncId} {os : Array Operand} {ats : Array TypeId} {r : AV} {args : List AV} {K : Foot → Prop} (ho : o.op = .call ⟨.value (.func f), os, ats⟩) (hc : ACall C f args r) (k : K ⟨r, [], []⟩)
    (hd : InB n o.dst := by exact Nat.le_of_ble_eq_true rfl) (hargs : os.toList.map (evA τ) = args := by first | rfl | (simp [cGAtom, cS, cGRule, cA2_cS, cF]; done) | (repeat (first | exact rfl | refine cons_eq ?_ ?_ | exact sl_dt rfl))) (hfr : frs args := by repeat (first | exact trivial | exact fr1_eA _ | exact fr0_eA _ | exact fr1_fr (by assumption) | exact FrV.h | exact fr0_fr FrV.h | exact fr1_fr FrV.h | refine And.intro ?_ ?_)) (hr : fr1 r := by repeat (first | exact trivial | exact fr1_eA _ | exact fr0_eA _ | exact fr1_fr (by assumption) | exact FrV.h | exact fr0_fr FrV.h | exact fr1_fr FrV.h | refine And.intro ?_ ?_)) : ∃ f : Foot, LF C n o τ η f ∧ K f := ⟨_, lf_call ho hd hargs hc hfr hr, k⟩
theorem clb_XDSv {C : Cx} {n : Nat} {o : Oper} {τ : Nat → AV} {η : Nat → Ent} {f : FuncId} {os : Array Operand} {ats : Array TypeId} {r : AV} {xs ys : List AV} {K : Foot → Prop} (bs : List Nat) (ho : o.op = .call ⟨.value (.func f), os, ats⟩) (hargs : os.toList.map (evA τ) = xs) (hc : ACall C f ys r) (k : K ⟨r, [], bs⟩)
    (hd : InB n o.dst := by exact Nat.le_of_ble_eq_true rfl) (hb : BWL η (dropB η bs) xs ys := by repeat (first | exact BWL.nil | exact bwll_nil | exact bw_c | exact BW.sl | exact BW.nil | exact bwll_same rfl FrI.h | refine BWL.cons ?_ ?_ | refine bwll_cons ?_ ?_ | (refine bw_own3 rfl rfl rfl FrI.h ?_ ?_ ?_) | exact BW.mpf rfl rfl rfl FrI.h rfl | refine CloK.bw ?_ | exact BW.fr FrV.h | exact BW.fr (by assumption) | refine bw_agg ?_ | refine bw_clo ?_ | refine bw_ptr rfl rfl rfl ?_ | (refine bw_own rfl rfl rfl ?_ FrI.h ?_ ?_) | assumption | omega | rfl | (rw [List.length_map, ← List.length_append]; assumption) | (refine bwll_same ?_ FrI.h; (simp [cGAtom, cS, cGRule, cA2_cS, cF] <;> fail)) | (rw [List.map_set]; refine bwll_set (by first | rfl | omega | simp) ?_ ?_) | refine bwll_set (by first | rfl | omega | simp) ?_ ?_ | (rw [List.map_replicate]; refine bwll_rep ?_) | refine bwll_rep ?_ | (rw [List.map_append]; refine bwll_append ?_ ?_) | refine bwll_append ?_ ?_ | (simp [cGAtom, cS, cGRule, cA2_cS, cF, take_len_map] <;> fail) | (rw [List.drop_zero, List.take_of_length_le] <;> first | rfl | (simp [cGAtom, cS, cGRule, cA2_cS, cF] <;> fail)) | (simp; omega) | (simp only [List.length_map, List.length_append, List.drop_zero, List.length_cons, List.length_nil, Nat.zero_add, Nat.add_zero] at *; omega))) (hr : scal r := by repeat (first | exact trivial | exact scal0_eA _ | exact scal_eA _ | refine And.intro ?_ ?_)) : ∃ f : Foot, LF C n o τ η f ∧ K f := ⟨_, lf_callB bs ho hd hargs hb hc hr, k⟩
def M_datalog_Solve_1 (a0 : GAtom) : Option (Bool) :=
  sel (a0.Name.toList == (⟨#[]⟩ : ByteArray).toList)
   (some true)
   (ob1 (M_s_ContainsFunc_string a0.Args M_datalog_variable) (fun z1 =>
     some z1))
set_option maxHeartbeats 16000000 in
set_option maxRecDepth 100000 in
theorem A_datalog_Solve_1 (a0 : GAtom) {r1 : Bool} (h : M_datalog_Solve_1 a0 = some r1) : ACall cx 47 [.agg [.c (.string a0.Name), .sl 1 (a0.Args.map cS)]] (.c (.bool r1)) := by
  refine aOf Tryd.func47 rfl (by decide) rfl (Nat.le_of_ble_eq_true rfl) ?_; intro _; unfold M_datalog_Solve_1 at h; refine aSR ?_; intro _; refine dr_XDSv ?_; refine aSR ?_; intro _; refine spf h (fun c1 h => ?_) (fun c1 h => ?_)
  · intro _; obtain ⟨z1, u2, h⟩ := ob1_ok h; refine clb_XDSv [] rfl rfl (A_s_ContainsFunc_string a0.Args M_datalog_variable (.clo (.func 37) [] []) (Fr.clo FrC_nil FrE.h) ⟨_, _, _, rfl⟩ (fun x0 y0 hx => ⟨37, [], _, rfl, A_datalog_variable x0 hx⟩) u2) ?_; intro _; refine dr_XDSv ?_; refine aRt ?_; intro _; obtain rfl := inj1 h; exact ca_XDSv
  · intro _; refine dr_XDSv ?_; refine aRt ?_; intro _; obtain rfl := inj1 h; exact ca_XDSv
def M_datalog_Solve_L1 (a1 : List GRule) : Nat → Int → Option (Unit ⊕ ((List GAtom) × Er))
  | 0, _ => none
  | k24 + 1, v23 =>
    sel (decide (v23 < ((a1.map cGRule).length : Int)))
     (ix a1 v23 (fun y25 =>
       ob1 (M_datalog_CheckRule y25) (fun z26 =>
        erM z26
         (M_datalog_Solve_L1 a1 k24 (IntKind.i64.wrap (v23 + 1)))
         (fun e27 => some (.inr ([], (Er.no e27)))))))
     (some (.inl ()))
def M_datalog_Solve_L2 (a1 : List GRule) (g : Nat) : Nat → GSet → Option ((List GAtom) × Er)
  | 0, _ => none
  | k41 + 1, v40 =>
    ob2 (M_datalog_round g v40 a1) (fun z42 z43 =>
     erM z43
      (opM z42
        (none)
        (fun z45 => sel (decide (((z45.map cGAtom).length : Int) > 4096))
          (some ([], (Er.no 5)))
          (sel (((z45.map cGAtom).length : Int) == ((v40.map cGAtom).length : Int))
            (some (v40, Er.nil))
            (M_datalog_Solve_L2 a1 g k41 z45))))
      (fun e44 => some ([], (Er.no e44))))
def M_datalog_Solve (g : Nat) (a0 : List GAtom) (a1 : List GRule) : Option ((List GAtom) × Er) :=
  ob1 (M_datalog_Solve_L1 a1 ((((a1.map cGRule).length : Int)).toNat + 1) 0 : Option (Unit ⊕ ((List GAtom) × Er)))
   (osum
   (fun _ => ob1 (M_s_ContainsFunc_Atom a0 M_datalog_Solve_1) (fun z28 =>
      sel z28
       (some ([], (Er.no 2)))
       (sel (decide (((a1.map cGRule).length : Int) > 1024))
         (some ([], (Er.no 5)))
         (ob1 (M_datalog_made g a0) (fun z29 =>
           opM z29
            (none)
            (fun z30 => sel (decide (((z30.map cGAtom).length : Int) > 4096))
              (some ([], (Er.no 5)))
              (M_datalog_Solve_L2 a1 g g z30)))))))
   (fun (r13, r14) => some (r13, r14)))
set_option maxHeartbeats 16000000 in
set_option maxRecDepth 100000 in
theorem A_datalog_Solve (g : Nat) (a0 : List GAtom) (a1 : List GRule) {r1 : List GAtom} {r2 : Er} (h : M_datalog_Solve g a0 a1 = some (r1, r2)) : ACall cx 16 [.sl 2 (a0.map cGAtom), .sl 4 (a1.map cGRule)] (.tup [.sl 2 (r1.map cGAtom), eA r2]) := by
  refine aOf Tryd.func16 rfl (by decide) rfl (Nat.le_of_ble_eq_true rfl) ?_; intro _; unfold M_datalog_Solve at h; refine aSR ?_; intro _; refine dr_XDSv ?_; obtain ⟨o1, h, hK2⟩ := ob1_ok h; refine awp_cut (α := Unit) (fun _ => mkS 72 [(0, .sl 2 (a0.map cGAtom)), (1, .sl 4 (a1.map cGRule))] []) (fun v => o1 = (.inl v)) ?_ ?_
  · refine aSR ?_; intro _; refine dr_XDSv ?_; refine aBk ?_; refine awp_loop (α := Nat × Int) (fun x => mkS 72 [(0, .sl 2 (a0.map cGAtom)), (1, .sl 4 (a1.map cGRule)), (12, .sl 4 (a1.map cGRule)), (13, .c (.int .i64 ((a1.map cGRule).length : Int))), (14, .c (.int .i64 x.2))] []) (fun x => M_datalog_Solve_L1 a1 x.1 x.2 = some o1) (fun x => x.1) ((((a1.map cGRule).length : Int)).toNat + 1, 0) h ?_ ?_
    · exact ca_XDSv
    · intro x3 h; intro _; obtain ⟨k24, m4, h⟩ := succ_of (f := fun n => M_datalog_Solve_L1 a1 n x3.2) rfl h; replace h : M_datalog_Solve_L1 a1 (k24 + 1) x3.2 = some o1 := h; rw [M_datalog_Solve_L1] at h; refine aSR ?_; intro _; refine dr_XDSv ?_; refine aSq ?_; refine aCd ?_; intro _; refine spl h (fun c5 h => ?_) (fun c5 h => ?_)
      · refine aSk ?_; refine aSq ?_; refine aBk ?_; refine aSR ?_; intro _; obtain ⟨y25, w6, q7, h⟩ := ix_ok h; refine Exists.intro (cGRule y25) (And.intro (map_at' w6) ?_); intro _; refine pr_XDSv ?_; refine dr_XDSv ?_; refine aSR ?_; intro _; obtain ⟨z26, u8, h⟩ := ob1_ok h; refine cl_XDSv rfl (A_datalog_CheckRule y25 u8) ?_; intro _; refine dr_XDSv ?_; refine aSq ?_; rcases z26 with _ | e27
        · replace h := erM_nil h; refine aRg ?_; intro _; refine dr_XDSv ?_; refine aCd ?_; intro _; refine litF ?_; refine aSk ?_; refine aRg ?_; intro _; refine dr_XDSv ?_; refine ⟨(k24, (IntKind.i64.wrap (x3.2 + 1))), h, ltS m4, ?_⟩; exact ca_XDSv
        · replace h := erM_no h; refine aRg ?_; intro _; refine dr_XDSv ?_; refine aCd ?_; intro _; refine litT ?_; refine aSR ?_; intro _; refine dr_XDSv ?_; refine aRt ?_; have j9 := Option.some.inj h; subst j9; replace h := (osum_r hK2); intro _; obtain ⟨rfl, rfl⟩ := inj2 h; exact ca_XDSv
      · refine aEx ?_; refine ⟨(), (Option.some.inj h).symm, ?_⟩; exact ca_XDSv
  · rintro _ ho; have ho := ho.symm; subst ho; intro _; replace h := (osum_l hK2); refine aSq ?_; refine aSR ?_; intro _; obtain ⟨z28, u10, h⟩ := ob1_ok h; refine clb_XDSv [] rfl rfl (A_s_ContainsFunc_Atom a0 M_datalog_Solve_1 (.clo (.func 47) [] []) (Fr.clo FrC_nil FrE.h) ⟨_, _, _, rfl⟩ (fun x0 y0 hx => ⟨47, [], _, rfl, A_datalog_Solve_1 x0 hx⟩) u10) ?_; intro _; refine dr_XDSv ?_; refine aCd ?_; intro _; refine spl h (fun c11 h => ?_) (fun c11 h => ?_)
    · refine aSR ?_; intro _; refine dr_XDSv ?_; refine aRt ?_; intro _; obtain ⟨rfl, rfl⟩ := inj2 h; exact ca_XDSv
    · refine aSk ?_; refine aSq ?_; refine aSR ?_; intro _; refine dr_XDSv ?_; refine aCd ?_; intro _; refine spl h (fun c12 h => ?_) (fun c12 h => ?_)
      · refine aSR ?_; intro _; refine dr_XDSv ?_; refine aRt ?_; intro _; obtain ⟨rfl, rfl⟩ := inj2 h; exact ca_XDSv
      · refine aSk ?_; refine aSR ?_; intro _; obtain ⟨z29, u13, h⟩ := ob1_ok h; refine cl_XDSv rfl (A_datalog_made g a0 u13) ?_; intro _; refine dr_XDSv ?_; refine aSq ?_; refine aSq ?_; rcases z29 with _ | z30
        · replace h := opM_none h; cases h
        · replace h := opM_some h; refine aRg ?_; intro _; refine dr_XDSv ?_; refine aCd ?_; intro _; refine spl h (fun c14 h => ?_) (fun c14 h => ?_)
          · refine aSR ?_; intro _; refine dr_XDSv ?_; refine aRt ?_; intro _; obtain ⟨rfl, rfl⟩ := inj2 h; exact ca_XDSv
          · refine aSk ?_; refine aBk ?_; refine awp_loop (α := Nat × GSet) (fun x => mkS 72 [(1, .sl 4 (a1.map cGRule)), (9, .pim [.sl 2 (x.2.map cGAtom), .mpi (mE kF vR (formsM x.2))] 0)] []) (fun x => M_datalog_Solve_L2 a1 g x.1 x.2 = some (r1, r2)) (fun x => x.1) (g, z30) h ?_ ?_
            · exact ca_XDSv
            · intro x15 h; intro _; obtain ⟨k41, m16, h⟩ := succ_of (f := fun n => M_datalog_Solve_L2 a1 g n x15.2) rfl h; replace h : M_datalog_Solve_L2 a1 g (k41 + 1) x15.2 = some (r1, r2) := h; rw [M_datalog_Solve_L2] at h; refine aBk ?_; refine aSR ?_; intro _; obtain ⟨z42, z43, u17, h⟩ := ob2_ok h; refine cl_XDSv rfl (A_datalog_round g x15.2 a1 u17) ?_; intro _; refine dr_XDSv ?_; refine aSq ?_; refine aSq ?_; rcases z43 with _ | e44
              · replace h := erM_nil h; refine aRg ?_; intro _; refine dr_XDSv ?_; refine aCd ?_; intro _; refine litF ?_; refine aSk ?_; refine aSq ?_; refine aSq ?_; rcases z42 with _ | z45
                · replace h := opM_none h; cases h
                · replace h := opM_some h; refine aRg ?_; intro _; refine dr_XDSv ?_; refine aCd ?_; intro _; refine spl h (fun c18 h => ?_) (fun c18 h => ?_)
                  · refine aSR ?_; intro _; refine dr_XDSv ?_; refine aRt ?_; intro _; obtain ⟨rfl, rfl⟩ := inj2 h; exact ca_XDSv
                  · refine aSk ?_; refine aSq ?_; refine aSR ?_; intro _; refine dr_XDSv ?_; refine aCd ?_; intro _; refine spl h (fun c19 h => ?_) (fun c19 h => ?_)
                    · refine aSR ?_; intro _; refine dr_XDSv ?_; refine aRt ?_; intro _; obtain ⟨rfl, rfl⟩ := inj2 h; exact ca_XDSv
                    · refine aSk ?_; refine aRg ?_; intro _; refine dr_XDSv ?_; refine ⟨(k41, z45), h, ltS m16, ?_⟩; exact ca_XDSv
              · replace h := erM_no h; refine aRg ?_; intro _; refine dr_XDSv ?_; refine aCd ?_; intro _; refine litT ?_; refine aSR ?_; intro _; refine dr_XDSv ?_; refine aRt ?_; intro _; obtain ⟨rfl, rfl⟩ := inj2 h; exact ca_XDSv
end Go.Proofs.YtflgpccacloadaaDoor.Am
/- Plain law: CheckRule and Solve. -/
namespace Go.Proofs.YtflgpccacloadaaDoor.Am
open Go.RowKit
def terms (r : GRule) : List ByteArray := r.Head.Args ++ r.Unequal.flatMap (fun p => [p.1, p.2])
def badT (known : List ByteArray) (s : ByteArray) : Bool := isV s && !decide (s ∈ known)
def longA (a : GAtom) : Bool := decide (6 < a.Args.length)
def namA (a : GAtom) : Bool := decide (a.Name = (⟨#[]⟩ : ByteArray))
def ckR (r : GRule) : Er :=
  if (terms r).any (badT (vars r.Body)) = true then .no 2
  else if 16 < r.Body.length then .no 5
  else if (r.Head :: r.Body).any longA = true then .no 5
  else if (r.Head :: r.Body).any namA = true then .no 8
  else .nil
/-- the size of a rule -/
structure CkOk (r : GRule) : Prop where
  tot : (r.Body.flatMap (·.Args)).length * 16 ≤ 140737488355328
  term : (r.Head.Args.length + r.Unequal.length * 2) * 16 ≤ 140737488355328
  body : (1 + r.Body.length) * 40 ≤ 140737488355328
theorem ck1_eq (known : List ByteArray) (hk : known.length ≤ 4611686018427387904) (s : ByteArray) : M_datalog_CheckRule_1 known s = some (badT known s) := by
  unfold M_datalog_CheckRule_1 badT
  rw [variable_eq, ob1_some, contains_eq known s hk, ob1_some]
  cases isV s <;> rfl
theorem ckTerms (r : GRule) (hn : r.Unequal.length ≤ 4611686018427387904) : ∀ (k i : Nat) (out : List ByteArray), i + k = r.Unequal.length + 1 → i ≤ r.Unequal.length → (out.length + (r.Unequal.length - i) * 2) * 16 ≤ 140737488355328 →
    M_datalog_CheckRule_L1 r k (i : Int) out = some (out ++ (r.Unequal.drop i).flatMap (fun p => [p.1, p.2])) := by
  intro k
  induction k with
  | zero => intro i out h1 h2; omega
  | succ k ih =>
    intro i out h1 h2 h3
    rw [M_datalog_CheckRule_L1]
    by_cases h : i < r.Unequal.length
    · have hy := List.getElem?_eq_getElem h
      rw [show decide ((i : Int) < ((r.Unequal.map cA2_cS).length : Int)) = true by simp; omega]
      show ix r.Unequal (i : Int) _ = _
      rw [ix_at hy, dropC hy, List.flatMap_cons, wrap_eq (by omega) (by omega)]
      refine grd_mk (by omega) ?_
      have := ih (i + 1) (out ++ [r.Unequal[i].1, r.Unequal[i].2]) (by omega) (by omega) (by simp; omega)
      rw [List.append_assoc] at this
      exact this
    · rw [show decide ((i : Int) < ((r.Unequal.map cA2_cS).length : Int)) = false by simp; omega]
      rw [List.drop_of_length_le (by omega)]
      simp [sel]
theorem vars_len (body : List GAtom) : (vars body).length ≤ (body.flatMap (·.Args)).length := by
  have := addV_len (body.flatMap (·.Args)) []
  simpa [vars] using this
theorem check_eq (r : GRule) (h : CkOk r) : M_datalog_CheckRule r = some (ckR r) := by
  obtain ⟨h1, h2, h3⟩ := h
  unfold M_datalog_CheckRule
  have hvl := vars_len r.Body
  rw [variables_eq r.Body (by omega) h1, ob1_some, show M_cloneSo r.Head.Args = some r.Head.Args from grd_mk (by omega) rfl, ob1_some]
  rw [show (((r.Unequal.map cA2_cS).length : Int)).toNat + 1 = r.Unequal.length + 1 by simp]
  have h4 := ckTerms r (by omega) (r.Unequal.length + 1) 0 r.Head.Args (by omega) (Nat.zero_le _) (by rw [Nat.sub_zero]; exact h2)
  rw [List.drop_zero, show ((0 : Nat) : Int) = 0 from rfl] at h4
  rw [h4, ob1_some]
  have htl : (terms r).length = r.Head.Args.length + r.Unequal.length * 2 := by
    unfold terms
    rw [List.length_append]
    have : ∀ l : List (ByteArray × ByteArray), (l.flatMap (fun p => [p.1, p.2])).length = l.length * 2 := by
      intro l
      induction l with
      | nil => rfl
      | cons x q ih => rw [List.flatMap_cons, List.length_append, ih]; simp; omega
    rw [this]
  refine grd_mk (by show (terms r).length ≤ _; omega) ?_
  rw [show M_s_ContainsFunc_string (r.Head.Args ++ r.Unequal.flatMap (fun p => [p.1, p.2])) (M_datalog_CheckRule_1 (vars r.Body)) = some ((terms r).any (badT (vars r.Body))) from cfS_eq (terms r) _ _ (fun x _ => ck1_eq _ (by omega) x) (by omega), ob1_some]
  unfold ckR
  cases hb : (terms r).any (badT (vars r.Body)) with
  | true => rfl
  | false =>
    rw [if_neg (by decide)]
    refine grd_mk h3 ?_
    have hll : ([r.Head] ++ r.Body).length = 1 + r.Body.length := by simp; omega
    have e5 : M_s_ContainsFunc_Atom ([r.Head] ++ r.Body) M_datalog_CheckRule_2 = some ((r.Head :: r.Body).any longA) := cfA_eq ([r.Head] ++ r.Body) _ longA (fun x _ => by
      unfold M_datalog_CheckRule_2 longA
      exact congrArg some (decide_eq_decide.2 (by rw [List.length_map]; omega))) (by omega)
    have e8 : M_s_ContainsFunc_Atom ([r.Head] ++ r.Body) M_datalog_CheckRule_3 = some ((r.Head :: r.Body).any namA) := cfA_eq ([r.Head] ++ r.Body) _ namA (fun x _ => by
      unfold M_datalog_CheckRule_3 namA
      rw [beq_bl]) (by omega)
    rw [e5, e8]
    have hg : ∀ {α : Type} (x : Option α), grd (([r.Head] ++ r.Body).length ≤ 140737488355328) x = x := fun x => grd_mk (by omega) rfl
    rw [hg, hg, sel_dec]
    by_cases h16 : 16 < r.Body.length
    · rw [if_pos h16, if_pos (by rw [List.length_map]; omega)]
      rfl
    · rw [if_neg h16, if_neg (by rw [List.length_map]; omega)]
      cases (r.Head :: r.Body).any longA with
      | true => rfl
      | false =>
        cases (r.Head :: r.Body).any namA <;> rfl
/-- a fact that is none -/
def badF (a : GAtom) : Bool := decide (a.Name = (⟨#[]⟩ : ByteArray)) || a.Args.any isV
theorem slv1_eq (a : GAtom) (h : a.Args.length ≤ 4611686018427387904) : M_datalog_Solve_1 a = some (badF a) := by
  unfold M_datalog_Solve_1 badF
  rw [beq_bl, cfS_eq a.Args _ isV (fun x _ => variable_eq x) h, ob1_some]
  by_cases e : a.Name = (⟨#[]⟩ : ByteArray)
  · rw [decide_eq_true e]; rfl
  · rw [decide_eq_false e]; rfl
/-- the first error of the rules -/
def firstE : List GRule → Er
  | [] => .nil
  | r :: q => match ckR r with
    | .nil => firstE q
    | .no e => .no e
theorem slvL1 (rules : List GRule) (hok : ∀ r ∈ rules, CkOk r) (hn : rules.length ≤ 4611686018427387904) : ∀ (k i : Nat), i + k = rules.length + 1 → i ≤ rules.length →
    M_datalog_Solve_L1 rules k (i : Int) = some (match firstE (rules.drop i) with | .nil => .inl () | .no e => .inr ([], .no e)) := by
  intro k
  induction k with
  | zero => intro i h1 h2; omega
  | succ k ih =>
    intro i h1 h2
    rw [M_datalog_Solve_L1]
    by_cases h : i < rules.length
    · have hy := List.getElem?_eq_getElem h
      rw [show decide ((i : Int) < ((rules.map cGRule).length : Int)) = true by simp; omega]
      show ix rules (i : Int) _ = _
      rw [ix_at hy, check_eq _ (hok _ (List.getElem_mem h)), ob1_some, dropC hy, firstE, wrap_eq (by omega) (by omega)]
      cases hc : ckR rules[i] with
      | nil => exact ih (i + 1) (by omega) (by omega)
      | no e => rfl
    · rw [show decide ((i : Int) < ((rules.map cGRule).length : Int)) = false by simp; omega]
      rw [List.drop_of_length_le (by omega)]
      rfl
end Go.Proofs.YtflgpccacloadaaDoor.Am
/- Models printed by my decompiler, and the proofs that the code computes them. -/
namespace Go.Proofs.YtflgpccacloadaaDoor.Am
set_option maxHeartbeats 16000000
set_option maxRecDepth 100000
open Go.RowKit
structure GProgram where
  Facts : List GAtom
  Rules : List GRule
  deriving DecidableEq
def cGProgram (x : GProgram) : List AV := [.sl 2 (x.Facts.map cGAtom), .sl 4 (x.Rules.map cGRule)]
theorem fr_cGProgram (x : GProgram) : ∀ y ∈ cGProgram x, Fr y := FrC_cons (.sl (frl_cGAtom _)) (FrC_cons (.sl (frl_cGRule _)) (FrC_nil))
theorem frl_cGProgram (l : List GProgram) : FrL (l.map cGProgram) := FrL_map (fun x _ => fr_cGProgram x)
instance {l : List GProgram} : FrI (l.map cGProgram) := ⟨frl_cGProgram l⟩
def cL_cS (x : List ByteArray) : List AV := [.sl 1 (x.map cS)]
theorem fr_cL_cS (x : List ByteArray) : ∀ y ∈ cL_cS x, Fr y := FrC_cons (.sl (frl_cS _)) (FrC_nil)
theorem frl_cL_cS (l : List (List ByteArray)) : FrL (l.map cL_cS) := FrL_map (fun x _ => fr_cL_cS x)
instance {l : List (List ByteArray)} : FrI (l.map cL_cS) := ⟨frl_cL_cS l⟩
theorem zb_XDLb {P : Prop} (h : P := by repeat (first | exact BWL.nil | exact bwll_nil | exact bw_c | exact BW.sl | exact BW.nil | exact bwll_same rfl FrI.h | refine BWL.cons ?_ ?_ | refine bwll_cons ?_ ?_ | (refine bw_own3 rfl rfl rfl FrI.h ?_ ?_ ?_) | exact BW.mpf rfl rfl rfl FrI.h rfl | refine CloK.bw ?_ | exact BW.fr FrV.h | exact BW.fr (by assumption) | refine bw_agg ?_ | refine bw_clo ?_ | refine bw_ptr rfl rfl rfl ?_ | (refine bw_own rfl rfl rfl ?_ FrI.h ?_ ?_) | assumption | omega | rfl | (rw [List.length_map, ← List.length_append]; assumption) | (refine bwll_same ?_ FrI.h; (simp [cS, cGAtom, cGProgram, cGRule, cA2_cS, cL_cS, cF] <;> fail)) | (rw [List.map_set]; refine bwll_set (by first | rfl | omega | simp) ?_ ?_) | refine bwll_set (by first | rfl | omega | simp) ?_ ?_ | (rw [List.map_replicate]; refine bwll_rep ?_) | refine bwll_rep ?_ | (rw [List.map_append]; refine bwll_append ?_ ?_) | refine bwll_append ?_ ?_ | (simp [cS, cGAtom, cGProgram, cGRule, cA2_cS, cL_cS, cF, take_len_map] <;> fail) | (rw [List.drop_zero, List.take_of_length_le] <;> first | rfl | (simp [cS, cGAtom, cGProgram, cGRule, cA2_cS, cL_cS, cF] <;> fail)) | (simp; omega) | (simp only [List.length_map, List.length_append, List.drop_zero, List.length_cons, List.length_nil, Nat.zero_add, Nat.add_zero] at *; omega))) : P := h
theorem ci_XDLb {p K : Prop} (k : K) (h : p := by first | rfl | exact ⟨rfl, rfl⟩ | exact BW.mpf rfl rfl rfl FrI.h rfl | exact cloK3 rfl rfl rfl rfl rfl rfl rfl rfl rfl | exact CloK.bw (BW.fr (by assumption)) | exact BW.fr FrV.h | (refine BW.fr ?_; assumption) | (refine ⟨rfl, ?_⟩; (simp [cS, cGAtom, cGProgram, cGRule, cA2_cS, cL_cS, cF, take_len_map]; done)) | (refine RowK.same ?_ FrI.h; first | rfl | (simp [cS, cGAtom, cGProgram, cGRule, cA2_cS, cL_cS, cF, take_len_map]; done)) | (refine row_part1 ?_; (repeat (first | exact BWL.nil | exact bwll_nil | exact bw_c | exact BW.sl | exact BW.nil | exact bwll_same rfl FrI.h | refine BWL.cons ?_ ?_ | refine bwll_cons ?_ ?_ | (refine bw_own3 rfl rfl rfl FrI.h ?_ ?_ ?_) | exact BW.mpf rfl rfl rfl FrI.h rfl | exact cloK3 rfl rfl rfl rfl rfl rfl rfl rfl rfl | exact CloK.bw (BW.fr (by assumption)) | exact BW.fr FrV.h | exact BW.fr (by assumption) | refine bw_agg ?_ | refine bw_clo ?_ | refine bw_ptr rfl rfl rfl ?_ | (refine bw_own rfl rfl rfl ?_ FrI.h ?_ ?_) | assumption | omega | rfl | (rw [List.length_map, ← List.length_append]; assumption) | (refine bwll_same ?_ FrI.h; (simp [cS, cGAtom, cGProgram, cGRule, cA2_cS, cL_cS, cF] <;> fail)) | (rw [List.map_set]; refine bwll_set (by first | rfl | omega | simp) ?_ ?_) | refine bwll_set (by first | rfl | omega | simp) ?_ ?_ | (rw [List.map_replicate]; refine bwll_rep ?_) | refine bwll_rep ?_ | (rw [List.map_append]; refine bwll_append ?_ ?_) | refine bwll_append ?_ ?_ | (simp [cS, cGAtom, cGProgram, cGRule, cA2_cS, cL_cS, cF, take_len_map] <;> fail) | (rw [List.drop_zero, List.take_of_length_le] <;> first | rfl | (simp [cS, cGAtom, cGProgram, cGRule, cA2_cS, cL_cS, cF] <;> fail)) | (simp; omega) | (simp only [List.length_map, List.length_append, List.drop_zero, List.length_cons, List.length_nil, Nat.zero_add, Nat.add_zero] at *; omega))); done) | ((repeat (first | exact BWL.nil | exact bwll_nil | exact bw_c | exact BW.sl | exact BW.nil | exact bwll_same rfl FrI.h | refine BWL.cons ?_ ?_ | refine bwll_cons ?_ ?_ | (refine bw_own3 rfl rfl rfl FrI.h ?_ ?_ ?_) | exact BW.mpf rfl rfl rfl FrI.h rfl | exact cloK3 rfl rfl rfl rfl rfl rfl rfl rfl rfl | exact CloK.bw (BW.fr (by assumption)) | exact BW.fr FrV.h | exact BW.fr (by assumption) | refine bw_agg ?_ | refine bw_clo ?_ | refine bw_ptr rfl rfl rfl ?_ | (refine bw_own rfl rfl rfl ?_ FrI.h ?_ ?_) | assumption | omega | rfl | (rw [List.length_map, ← List.length_append]; assumption) | (refine bwll_same ?_ FrI.h; (simp [cS, cGAtom, cGProgram, cGRule, cA2_cS, cL_cS, cF] <;> fail)) | (rw [List.map_set]; refine bwll_set (by first | rfl | omega | simp) ?_ ?_) | refine bwll_set (by first | rfl | omega | simp) ?_ ?_ | (rw [List.map_replicate]; refine bwll_rep ?_) | refine bwll_rep ?_ | (rw [List.map_append]; refine bwll_append ?_ ?_) | refine bwll_append ?_ ?_ | (simp [cS, cGAtom, cGProgram, cGRule, cA2_cS, cL_cS, cF, take_len_map] <;> fail) | (rw [List.drop_zero, List.take_of_length_le] <;> first | rfl | (simp [cS, cGAtom, cGProgram, cGRule, cA2_cS, cL_cS, cF] <;> fail)) | (simp; omega) | (simp only [List.length_map, List.length_append, List.drop_zero, List.length_cons, List.length_nil, Nat.zero_add, Nat.add_zero] at *; omega))); done) | (simp [cS, cGAtom, cGProgram, cGRule, cA2_cS, cL_cS, cF, take_len_map]; done)) : p ∧ K := ⟨h, k⟩
theorem ca_XDLb {P : Prop} (h : P := by repeat (first | exact True.intro | refine ci_XDLb ?_)) : P := h
theorem pr_XDLb {p K : Prop} (k : K) (h : p := by first | assumption | exact Int.natCast_nonneg _ | exact Nat.le_refl _ | exact Nat.zero_le _ | omega | (simp; done) | (simp; omega)) : p ∧ K := ⟨h, k⟩
theorem pl_XDLb {p K : Prop} (k : K) (h : p := by first | rfl | exact List.length_map _ | (simp; done) | (simp; omega)) : p ∧ K := ⟨h, k⟩
theorem pe_XDLb {p K : Prop} (k : K) (h : p := by first | omega | (simp; omega) | (simp only [List.length_map, List.length_cons, List.length_nil, List.length_append]; omega) | (simp only [List.length_map, List.drop_zero, List.length_cons, List.length_nil, Nat.zero_add, Nat.add_zero] at *; omega)) : p ∧ K := ⟨h, k⟩
theorem dr_XDLb {b : Bool} {p K : Prop} (k : K) (h : b = true → p := by intro h; first | (cases h; done) | exact ⟨by kernel_rfl, by kernel_rfl⟩) : (b = true → p) ∧ K := ⟨h, k⟩
theorem cl_XDLb {C : Cx} {n : Nat} {o : Oper} {τ : Nat → AV} {η : Nat → Ent} {f : FuncId} {os : Array Operand} {ats : Array TypeId} {r : AV} {args : List AV} {K : Foot → Prop} (ho : o.op = .call ⟨.value (.func f), os, ats⟩) (hc : ACall C f args r) (k : K ⟨r, [], []⟩)
    (hd : InB n o.dst := by exact Nat.le_of_ble_eq_true rfl) (hargs : os.toList.map (evA τ) = args := by first | rfl | (simp [cS, cGAtom, cGProgram, cGRule, cA2_cS, cL_cS, cF]; done) | (repeat (first | exact rfl | refine cons_eq ?_ ?_ | exact sl_dt rfl))) (hfr : frs args := by repeat (first | exact trivial | exact fr1_eA _ | exact fr0_eA _ | exact fr1_fr (by assumption) | exact FrV.h | exact fr0_fr FrV.h | exact fr1_fr FrV.h | refine And.intro ?_ ?_)) (hr : fr1 r := by repeat (first | exact trivial | exact fr1_eA _ | exact fr0_eA _ | exact fr1_fr (by assumption) | exact FrV.h | exact fr0_fr FrV.h | exact fr1_fr FrV.h | refine And.intro ?_ ?_)) : ∃ f : Foot, LF C n o τ η f ∧ K f := ⟨_, lf_call ho hd hargs hc hfr hr, k⟩
theorem clb_XDLb {C : Cx} {n : Nat} {o : Oper} {τ : Nat → AV} {η : Nat → Ent} {f : FuncId} {os : Array Operand} {ats : Array TypeId} {r : AV} {xs ys : List AV} {K : Foot → Prop} (bs : List Nat) (ho : o.op = .call ⟨.value (.func f), os, ats⟩) (hargs : os.toList.map (evA τ) = xs) (hc : ACall C f ys r) (k : K ⟨r, [], bs⟩)
    (hd : InB n o.dst := by exact Nat.le_of_ble_eq_true rfl) (hb : BWL η (dropB η bs) xs ys := by exact zb_XDLb) (hr : scal r := by repeat (first | exact trivial | exact scal0_eA _ | exact scal_eA _ | refine And.intro ?_ ?_)) : ∃ f : Foot, LF C n o τ η f ∧ K f := ⟨_, lf_callB bs ho hd hargs hb hc hr, k⟩
theorem clf_XDLb {C : Cx} {n : Nat} {o : Oper} {τ : Nat → AV} {η : Nat → Ent} {f : FuncId} {os : Array Operand} {ats : Array TypeId} {r : AV} {xs ys : List AV} {K : Foot → Prop} (us : List (Nat × Ent)) (ho : o.op = .call ⟨.value (.func f), os, ats⟩) (hargs : os.toList.map (evA τ) = xs) (hc : ACall C f ys r) (k : K ⟨r, us, []⟩)
    (hus : allUs η us := by repeat (first | exact trivial | refine And.intro rfl ?_)) (hul : ltUs n us := by repeat (first | exact trivial | refine And.intro (Nat.le_of_ble_eq_true rfl) ?_)) (hd : InB n o.dst := by exact Nat.le_of_ble_eq_true rfl) (hb : BWL η (dropB η (us.map (·.1))) xs ys := by exact zb_XDLb) (hr : fr1 r := by repeat (first | exact trivial | exact fr1_eA _ | exact fr0_eA _ | exact fr1_fr (by assumption) | exact FrV.h | exact fr0_fr FrV.h | exact fr1_fr FrV.h | refine And.intro ?_ ?_)) : ∃ f : Foot, LF C n o τ η f ∧ K f := ⟨_, lf_callF us (allUs_at hus) (ltUs_at hul) ho hd hargs hb hc hr, k⟩
def M_l16_atom (a0 : ByteArray) (a1 : List ByteArray) : Option (GAtom) :=
  some ({ Name := a0, Args := a1 : GAtom })
theorem A_l16_atom (a0 : ByteArray) (a1 : List ByteArray) {r1 : GAtom} (h : M_l16_atom a0 a1 = some r1) : ACall cx 25 [.c (.string a0), .sl 1 (a1.map cS)] (.agg [.c (.string r1.Name), .sl 1 (r1.Args.map cS)]) := by
  refine aOf Tryd.func25 rfl (by decide) rfl (Nat.le_of_ble_eq_true rfl) ?_; intro _; unfold M_l16_atom at h; refine aSR ?_; intro _; refine dr_XDLb ?_; refine aSR ?_; intro _; refine dr_XDLb ?_; refine aRt ?_; intro _; obtain rfl := inj1 h; exact ca_XDLb
def M_b_Texts_L1 (a0 : List ByteArray) (a1 : List ByteArray) : Nat → Int → Option (Bool)
  | 0, _ => none
  | k7 + 1, v6 =>
    sel (decide (v6 < ((a0.map cS).length : Int)))
     (ix a0 v6 (fun y8 =>
       ix a1 v6 (fun y9 =>
        sel (!(y8.toList == y9.toList))
         (some false)
         (M_b_Texts_L1 a0 a1 k7 (IntKind.i64.wrap (v6 + 1))))))
     (some true)
def M_b_Texts (a0 : List ByteArray) (a1 : List ByteArray) : Option (Bool) :=
  sel (((a0.map cS).length : Int) != ((a1.map cS).length : Int))
   (some false)
   (M_b_Texts_L1 a0 a1 ((((a0.map cS).length : Int)).toNat + 1) 0)
theorem A_b_Texts (a0 : List ByteArray) (a1 : List ByteArray) {r1 : Bool} (h : M_b_Texts a0 a1 = some r1) : ACall cx 32 [.sl 1 (a0.map cS), .sl 1 (a1.map cS)] (.c (.bool r1)) := by
  refine aOf Tryd.func32 rfl (by decide) rfl (Nat.le_of_ble_eq_true rfl) ?_; intro _; unfold M_b_Texts at h; refine aSR ?_; intro _; refine dr_XDLb ?_; refine aSq ?_; refine aSR ?_; intro _; refine dr_XDLb ?_; refine aCd ?_; intro _; refine spl h (fun c1 h => ?_) (fun c1 h => ?_)
  · refine aSR ?_; intro _; refine dr_XDLb ?_; refine aRt ?_; intro _; obtain rfl := inj1 h; exact ca_XDLb
  · refine aSk ?_; refine aSq ?_; refine aSR ?_; intro _; refine dr_XDLb ?_; refine aBk ?_; refine awp_loop (α := Nat × Int) (fun x => mkS 26 [(0, .sl 1 (a0.map cS)), (1, .sl 1 (a1.map cS)), (12, .c (.int .i64 ((a0.map cS).length : Int))), (13, .c (.int .i64 x.2))] []) (fun x => M_b_Texts_L1 a0 a1 x.1 x.2 = some r1) (fun x => x.1) ((((a0.map cS).length : Int)).toNat + 1, 0) h ?_ ?_
    · exact ca_XDLb
    · intro x2 h; intro _; obtain ⟨k7, m3, h⟩ := succ_of (f := fun n => M_b_Texts_L1 a0 a1 n x2.2) rfl h; replace h : M_b_Texts_L1 a0 a1 (k7 + 1) x2.2 = some r1 := h; rw [M_b_Texts_L1] at h; refine aSR ?_; intro _; refine dr_XDLb ?_; refine aSq ?_; refine aCd ?_; intro _; refine spl h (fun c4 h => ?_) (fun c4 h => ?_)
      · refine aSk ?_; refine aSq ?_; refine aBk ?_; refine aSR ?_; intro _; refine dr_XDLb ?_; refine aSR ?_; intro _; obtain ⟨y8, w5, q6, h⟩ := ix_ok h; refine Exists.intro (cS y8) (And.intro (map_at' w5) ?_); intro _; obtain ⟨y9, w7, q8, h⟩ := ix_ok h; refine Exists.intro (cS y9) (And.intro (map_at' w7) ?_); intro _; refine pr_XDLb ?_; refine pr_XDLb ?_; refine dr_XDLb ?_; refine aCd ?_; intro _; refine spl h (fun c9 h => ?_) (fun c9 h => ?_)
        · refine aSR ?_; intro _; refine dr_XDLb ?_; refine aRt ?_; intro _; obtain rfl := inj1 h; exact ca_XDLb
        · refine aSk ?_; refine aRg ?_; intro _; refine dr_XDLb ?_; refine ⟨(k7, (IntKind.i64.wrap (x2.2 + 1))), h, ltS m3, ?_⟩; exact ca_XDLb
      · refine aEx ?_; refine aSR ?_; intro _; refine dr_XDLb ?_; refine aRt ?_; intro _; obtain rfl := inj1 h; exact ca_XDLb
def M_l16_awake (g : Nat) : Option (Bool) :=
  ob1 (M_l16_atom (⟨#[101]⟩ : ByteArray) [(⟨#[97]⟩ : ByteArray), (⟨#[98]⟩ : ByteArray)]) (fun z1 =>
   ob1 (M_l16_atom (⟨#[101]⟩ : ByteArray) [(⟨#[98]⟩ : ByteArray), (⟨#[99]⟩ : ByteArray)]) (fun z2 =>
    ob1 (M_l16_atom (⟨#[114]⟩ : ByteArray) [(⟨#[63, 120]⟩ : ByteArray), (⟨#[63, 122]⟩ : ByteArray)]) (fun z3 =>
     ob1 (M_l16_atom (⟨#[101]⟩ : ByteArray) [(⟨#[63, 120]⟩ : ByteArray), (⟨#[63, 121]⟩ : ByteArray)]) (fun z4 =>
      ob1 (M_l16_atom (⟨#[101]⟩ : ByteArray) [(⟨#[63, 121]⟩ : ByteArray), (⟨#[63, 122]⟩ : ByteArray)]) (fun z5 =>
       ob2 (M_datalog_Solve g [z1, z2] [{ Head := z3, Body := [z4, z5], Unequal := [] : GRule }]) (fun z6 z7 =>
        erM z7
         (sel (((z6.map cGAtom).length : Int) == 3)
           (ix z6 2 (fun y9 =>
             sel (y9.Name.toList == (⟨#[114]⟩ : ByteArray).toList)
              (ix z6 2 (fun y10 =>
                ob1 (M_b_Texts y10.Args [(⟨#[97]⟩ : ByteArray), (⟨#[99]⟩ : ByteArray)]) (fun z11 =>
                 some z11)))
              (some false)))
           (some false))
         (fun _ => some false)))))))
theorem A_l16_awake (g : Nat) {r1 : Bool} (h : M_l16_awake g = some r1) : ACall cx 11 [] (.c (.bool r1)) := by
  refine aOf Tryd.func11 rfl (by decide) rfl (Nat.le_of_ble_eq_true rfl) ?_; intro _; unfold M_l16_awake at h; refine aSR ?_; intro _; refine dr_XDLb ?_; refine aSR ?_; intro _; obtain ⟨z1, u1, h⟩ := ob1_ok h; refine clf_XDLb [(4, ⟨2, none⟩)] rfl rfl (A_l16_atom (⟨#[101]⟩ : ByteArray) [(⟨#[97]⟩ : ByteArray), (⟨#[98]⟩ : ByteArray)] u1) ?_; intro _; obtain ⟨z2, u2, h⟩ := ob1_ok h; refine clf_XDLb [(6, ⟨2, none⟩)] rfl rfl (A_l16_atom (⟨#[101]⟩ : ByteArray) [(⟨#[98]⟩ : ByteArray), (⟨#[99]⟩ : ByteArray)] u2) ?_; intro _; obtain ⟨z3, u3, h⟩ := ob1_ok h; refine clf_XDLb [(9, ⟨2, none⟩)] rfl rfl (A_l16_atom (⟨#[114]⟩ : ByteArray) [(⟨#[63, 120]⟩ : ByteArray), (⟨#[63, 122]⟩ : ByteArray)] u3) ?_; intro _; obtain ⟨z4, u4, h⟩ := ob1_ok h; refine clf_XDLb [(11, ⟨2, none⟩)] rfl rfl (A_l16_atom (⟨#[101]⟩ : ByteArray) [(⟨#[63, 120]⟩ : ByteArray), (⟨#[63, 121]⟩ : ByteArray)] u4) ?_; intro _; obtain ⟨z5, u5, h⟩ := ob1_ok h; refine clf_XDLb [(13, ⟨2, none⟩)] rfl rfl (A_l16_atom (⟨#[101]⟩ : ByteArray) [(⟨#[63, 121]⟩ : ByteArray), (⟨#[63, 122]⟩ : ByteArray)] u5) ?_; intro _; obtain ⟨z6, z7, u6, h⟩ := ob2_ok h; refine clf_XDLb [(8, ⟨2, none⟩), (15, ⟨2, none⟩), (17, ⟨2, none⟩)] rfl rfl (A_datalog_Solve g [z1, z2] [{ Head := z3, Body := [z4, z5], Unequal := [] : GRule }] u6) ?_; intro _; refine dr_XDLb ?_; refine aSq ?_; rcases z7 with _ | e8
  · replace h := erM_nil h; refine aRg ?_; intro _; refine litT ?_; intro _; refine spl h (fun c7 h => ?_) (fun c7 h => ?_)
    · intro _; obtain ⟨y9, w8, q9, h⟩ := ix_ok h; refine Exists.intro (cGAtom y9) (And.intro (map_at' w8) ?_); intro _; refine spl h (fun c10 h => ?_) (fun c10 h => ?_)
      · intro _; obtain ⟨y10, w11, q12, h⟩ := ix_ok h; refine Exists.intro (cGAtom y10) (And.intro (map_at' w11) ?_); intro _; obtain ⟨z11, u13, h⟩ := ob1_ok h; refine clb_XDLb [40] rfl rfl (A_b_Texts y10.Args [(⟨#[97]⟩ : ByteArray), (⟨#[99]⟩ : ByteArray)] u13) ?_; intro _; refine pr_XDLb ?_; refine pr_XDLb ?_; refine dr_XDLb ?_; refine aRt ?_; intro _; obtain rfl := inj1 h; exact ca_XDLb
      · intro _; refine pr_XDLb ?_; refine dr_XDLb ?_; refine aRt ?_; intro _; obtain rfl := inj1 h; exact ca_XDLb
    · intro _; refine dr_XDLb ?_; refine aRt ?_; intro _; obtain rfl := inj1 h; exact ca_XDLb
  · replace h := erM_no h; refine aRg ?_; intro _; refine litF ?_; intro _; refine dr_XDLb ?_; refine aRt ?_; intro _; obtain rfl := inj1 h; exact ca_XDLb
def M_l16_many_L1 (a0 : List GAtom) : Nat → Int → Option (Bool)
  | 0, _ => none
  | k7 + 1, v6 =>
    sel (decide (v6 < ((a0.map cGAtom).length : Int)))
     (ix a0 v6 (fun y8 =>
       sel (decide (((y8.Args.map cS).length : Int) > 8))
        (some true)
        (ix a0 v6 (fun y9 =>
          sel (decide ((y9.Name.size : Int) > 100))
           (some true)
           (M_l16_many_L1 a0 k7 (IntKind.i64.wrap (v6 + 1)))))))
     (some false)
def M_l16_many (g : Nat) (a0 : List GAtom) : Option (Bool) :=
  M_l16_many_L1 a0 g 0
theorem A_l16_many (g : Nat) (a0 : List GAtom) {r1 : Bool} (h : M_l16_many g a0 = some r1) : ACall cx 44 [.sl 2 (a0.map cGAtom)] (.c (.bool r1)) := by
  refine aOf Tryd.func44 rfl (by decide) rfl (Nat.le_of_ble_eq_true rfl) ?_; intro _; unfold M_l16_many at h; refine aSR ?_; intro _; refine dr_XDLb ?_; refine aSq ?_; refine aSR ?_; intro _; refine dr_XDLb ?_; refine aBk ?_; refine awp_loop (α := Nat × Int) (fun x => mkS 26 [(0, .sl 2 (a0.map cGAtom)), (3, .c (.int .i64 x.2))] []) (fun x => M_l16_many_L1 a0 x.1 x.2 = some r1) (fun x => x.1) (g, 0) h ?_ ?_
  · exact ca_XDLb
  · intro x1 h; intro _; obtain ⟨k7, m2, h⟩ := succ_of (f := fun n => M_l16_many_L1 a0 n x1.2) rfl h; replace h : M_l16_many_L1 a0 (k7 + 1) x1.2 = some r1 := h; rw [M_l16_many_L1] at h; refine aSq ?_; refine aSR ?_; intro _; refine dr_XDLb ?_; refine aCd ?_; intro _; refine spl h (fun c3 h => ?_) (fun c3 h => ?_)
    · refine aSk ?_; refine aSq ?_; refine aBk ?_; refine aSR ?_; intro _; obtain ⟨y8, w4, q5, h⟩ := ix_ok h; refine Exists.intro (cGAtom y8) (And.intro (map_at' w4) ?_); intro _; refine spf h (fun c6 h => ?_) (fun c6 h => ?_)
      · intro _; obtain ⟨y9, w7, q8, h⟩ := ix_ok h; refine Exists.intro (cGAtom y9) (And.intro (map_at' w7) ?_); intro _; refine pr_XDLb ?_; refine pr_XDLb ?_; refine dr_XDLb ?_; refine aCd ?_; intro _; refine spl h (fun c9 h => ?_) (fun c9 h => ?_)
        · refine aSR ?_; intro _; refine dr_XDLb ?_; refine aRt ?_; intro _; obtain rfl := inj1 h; exact ca_XDLb
        · refine aSk ?_; refine aRg ?_; intro _; refine dr_XDLb ?_; refine ⟨(k7, (IntKind.i64.wrap (x1.2 + 1))), h, ltS m2, ?_⟩; exact ca_XDLb
      · intro _; refine pr_XDLb ?_; refine dr_XDLb ?_; refine aCd ?_; intro _; refine litT ?_; refine aSR ?_; intro _; refine dr_XDLb ?_; refine aRt ?_; intro _; obtain rfl := inj1 h; exact ca_XDLb
    · refine aEx ?_; refine aSR ?_; intro _; refine dr_XDLb ?_; refine aRt ?_; intro _; obtain rfl := inj1 h; exact ca_XDLb
def M_r16_Variable (a0 : ByteArray) : Option (Bool) :=
  sel (decide ((a0.size : Int) > 0))
   (grd (0 < (a0.size : Int)) (some ((byt a0 0) == 63)))
   (some false)
theorem A_r16_Variable (a0 : ByteArray) {r1 : Bool} (h : M_r16_Variable a0 = some r1) : ACall cx 59 [.c (.string a0)] (.c (.bool r1)) := by
  refine aOf Tryd.func59 rfl (by decide) rfl (Nat.le_of_ble_eq_true rfl) ?_; intro _; unfold M_r16_Variable at h; refine aSR ?_; intro _; refine dr_XDLb ?_; refine aSR ?_; intro _; refine spl h (fun c1 h => ?_) (fun c1 h => ?_)
  · intro _; obtain ⟨q2, h⟩ := grd_ok h; refine pr_XDLb ?_; refine pr_XDLb ?_; refine dr_XDLb ?_; refine aRt ?_; intro _; obtain rfl := inj1 h; exact ca_XDLb
  · intro _; refine dr_XDLb ?_; refine aRt ?_; intro _; obtain rfl := inj1 h; exact ca_XDLb
def M_l16_constants_L1 (v745 : List ByteArray) : Nat → ByteArray → Int → Option (ByteArray)
  | 0, _, _ => none
  | k789 + 1, v787, v788 =>
    sel (decide (v788 < ((v745.length : Nat) : Int)))
     (ixn v745 ((v788).toNat) (fun y790 =>
       grd (0 ≤ v788) (grd (v788 < ((v745.length : Nat) : Int)) (sel (y790.toList == v787.toList)
        (M_l16_constants_L1 v745 k789 (⟨#[63]⟩ : ByteArray) (IntKind.i64.wrap (v788 + 1)))
        (M_l16_constants_L1 v745 k789 v787 (IntKind.i64.wrap (v788 + 1)))))))
     (some v787)
def M_l16_constants_L2 (a0 : List GAtom) (g : Nat) (v507 : Int) : Nat → Int → (List ByteArray) → Option (List ByteArray)
  | 0, _, _ => none
  | k746 + 1, v744, v745 =>
    ix a0 v507 (fun y747 =>
     sel (decide (v744 < ((y747.Args.map cS).length : Int)))
      (ob1 (ix a0 v507 (fun y771 =>
         ix y771.Args v744 (fun y772 =>
          ob1 (M_l16_constants_L1 v745 g y772 0 : Option (ByteArray))
           (fun v781 => ob1 (M_r16_Variable v781) (fun z791 =>
              sel (!z791)
               (grd ((v745.length + 1) * 16 ≤ 140737488355328) (some (v745 ++ [v781])))
               (some v745))))) : Option (List ByteArray))
        (fun v769 => M_l16_constants_L2 a0 g v507 k746 (IntKind.i64.wrap (v744 + 1)) v769))
      (some v745))
def M_l16_constants_L3 (a0 : List GAtom) (g : Nat) : Nat → Int → (List ByteArray) → Option (Int)
  | 0, _, _ => none
  | k509 + 1, v507, v508 =>
    sel (decide (v507 < ((a0.map cGAtom).length : Int)))
     (ob1 (M_l16_constants_L2 a0 g v507 g 0 v508 : Option (List ByteArray))
       (fun v650 => M_l16_constants_L3 a0 g k509 (IntKind.i64.wrap (v507 + 1)) v650))
     (some ((v508.length : Nat) : Int))
def M_l16_constants (g : Nat) (a0 : List GAtom) : Option (Int) :=
  M_l16_constants_L3 a0 g g 0 []
theorem A_l16_constants (g : Nat) (a0 : List GAtom) {r1 : Int} (h : M_l16_constants g a0 = some r1) : ACall cx 45 [.sl 2 (a0.map cGAtom)] (.c (.int .i64 r1)) := by
  refine aOf Tryd.func45 rfl (by decide) rfl (Nat.le_of_ble_eq_true rfl) ?_; intro _; unfold M_l16_constants at h; refine aSR ?_; intro _; refine dr_XDLb ?_; refine aSR ?_; intro _; refine dr_XDLb ?_; refine aSq ?_; refine aSR ?_; intro _; refine dr_XDLb ?_; refine aBk ?_; refine awp_loop (α := Nat × Int × (List ByteArray)) (fun x => mkS 53 [(0, .sl 2 (a0.map cGAtom)), (3, .own 50 0 0 x.2.2.length), (4, .c (.int .i64 x.2.1))] [(50, ⟨9, 1, false, x.2.2.map cS⟩)]) (fun x => M_l16_constants_L3 a0 g x.1 x.2.1 x.2.2 = some r1) (fun x => x.1) (g, 0, []) h ?_ ?_
  · exact ca_XDLb
  · intro x1 h; intro _; obtain ⟨k509, m2, h⟩ := succ_of (f := fun n => M_l16_constants_L3 a0 g n x1.2.1 x1.2.2) rfl h; replace h : M_l16_constants_L3 a0 g (k509 + 1) x1.2.1 x1.2.2 = some r1 := h; rw [M_l16_constants_L3] at h; refine aSq ?_; refine aSR ?_; intro _; refine dr_XDLb ?_; refine aCd ?_; intro _; refine spl h (fun c3 h => ?_) (fun c3 h => ?_)
    · refine aSk ?_; obtain ⟨o4, h, hK5⟩ := ob1_ok h; refine awp_cut (α := List ByteArray) (fun v650 => mkS 53 [(0, .sl 2 (a0.map cGAtom)), (3, .own 50 0 0 v650.length), (4, .c (.int .i64 x1.2.1))] [(50, ⟨9, 1, false, v650.map cS⟩)]) (fun v => o4 = v) ?_ ?_
      · refine aBk ?_; refine aSR ?_; intro _; refine dr_XDLb ?_; refine aBk ?_; refine awp_loop (α := Nat × Int × (List ByteArray)) (fun x => mkS 53 [(0, .sl 2 (a0.map cGAtom)), (3, .own 50 0 0 x.2.2.length), (4, .c (.int .i64 x1.2.1)), (5, .c (.int .i64 x.2.1))] [(50, ⟨9, 1, false, x.2.2.map cS⟩)]) (fun x => M_l16_constants_L2 a0 g x1.2.1 x.1 x.2.1 x.2.2 = some o4) (fun x => x.1) (g, 0, x1.2.2) h ?_ ?_
        · exact ca_XDLb
        · intro x6 h; intro _; obtain ⟨k746, m7, h⟩ := succ_of (f := fun n => M_l16_constants_L2 a0 g x1.2.1 n x6.2.1 x6.2.2) rfl h; replace h : M_l16_constants_L2 a0 g x1.2.1 (k746 + 1) x6.2.1 x6.2.2 = some o4 := h; rw [M_l16_constants_L2] at h; refine aSq ?_; refine aSR ?_; intro _; obtain ⟨y747, w8, q9, h⟩ := ix_ok h; refine Exists.intro (cGAtom y747) (And.intro (map_at' w8) ?_); intro _; refine pr_XDLb ?_; refine dr_XDLb ?_; refine aCd ?_; intro _; refine spl h (fun c10 h => ?_) (fun c10 h => ?_)
          · refine aSk ?_; obtain ⟨o11, h, hK12⟩ := ob1_ok h; refine awp_cut (α := List ByteArray) (fun v769 => mkS 53 [(0, .sl 2 (a0.map cGAtom)), (3, .own 50 0 0 v769.length), (4, .c (.int .i64 x1.2.1)), (5, .c (.int .i64 x6.2.1))] [(50, ⟨9, 1, false, v769.map cS⟩)]) (fun v => o11 = v) ?_ ?_
            · refine aBk ?_; refine aSR ?_; intro _; obtain ⟨y771, w13, q14, h⟩ := ix_ok h; refine Exists.intro (cGAtom y771) (And.intro (map_at' w13) ?_); intro _; obtain ⟨y772, w15, q16, h⟩ := ix_ok h; refine Exists.intro (cS y772) (And.intro (map_at' w15) ?_); intro _; refine pr_XDLb ?_; refine pr_XDLb ?_; refine dr_XDLb ?_; obtain ⟨o17, h, hK18⟩ := ob1_ok h; refine awp_cut (α := ByteArray) (fun v781 => mkS 53 [(0, .sl 2 (a0.map cGAtom)), (3, .own 50 0 0 x6.2.2.length), (4, .c (.int .i64 x1.2.1)), (5, .c (.int .i64 x6.2.1)), (6, .c (.string v781))] [(50, ⟨9, 1, false, x6.2.2.map cS⟩)]) (fun v => o17 = v) ?_ ?_
              · refine aSR ?_; intro _; refine dr_XDLb ?_; refine aBk ?_; refine awp_loop (α := Nat × ByteArray × Int) (fun x => mkS 53 [(0, .sl 2 (a0.map cGAtom)), (3, .own 50 0 0 x6.2.2.length), (4, .c (.int .i64 x1.2.1)), (5, .c (.int .i64 x6.2.1)), (6, .c (.string x.2.1)), (7, .c (.int .i64 x.2.2))] [(50, ⟨9, 1, false, x6.2.2.map cS⟩)]) (fun x => M_l16_constants_L1 x6.2.2 x.1 x.2.1 x.2.2 = some o17) (fun x => x.1) (g, y772, 0) h ?_ ?_
                · exact ca_XDLb
                · intro x19 h; intro _; obtain ⟨k789, m20, h⟩ := succ_of (f := fun n => M_l16_constants_L1 x6.2.2 n x19.2.1 x19.2.2) rfl h; replace h : M_l16_constants_L1 x6.2.2 (k789 + 1) x19.2.1 x19.2.2 = some o17 := h; rw [M_l16_constants_L1] at h; refine aSq ?_; refine aSR ?_; intro _; refine dr_XDLb ?_; refine aCd ?_; intro _; refine spl h (fun c21 h => ?_) (fun c21 h => ?_)
                  · refine aSk ?_; refine aSq ?_; refine aBk ?_; refine aSR ?_; intro _; obtain ⟨y790, w22, h⟩ := ixn_ok h; refine Exists.intro (cS y790) (And.intro (by first | exact map_at' w22 | (have w := map_at' (f := cS) w22; simpa [cS, Value.cells] using w)) ?_); intro _; obtain ⟨q23, h⟩ := grd_ok h; obtain ⟨q24, h⟩ := grd_ok h; refine pr_XDLb ?_; refine pr_XDLb ?_; refine dr_XDLb ?_; refine aCd ?_; intro _; refine spl h (fun c25 h => ?_) (fun c25 h => ?_)
                    · refine aRg ?_; intro _; refine dr_XDLb ?_; refine aRg ?_; intro _; refine dr_XDLb ?_; refine ⟨(k789, (⟨#[63]⟩ : ByteArray), (IntKind.i64.wrap (x19.2.2 + 1))), h, ltS m20, ?_⟩; exact ca_XDLb
                    · refine aSk ?_; refine aRg ?_; intro _; refine dr_XDLb ?_; refine ⟨(k789, x19.2.1, (IntKind.i64.wrap (x19.2.2 + 1))), h, ltS m20, ?_⟩; exact ca_XDLb
                  · refine aEx ?_; refine ⟨x19.2.1, (Option.some.inj h).symm, ?_⟩; exact ca_XDLb
              · rintro v781 ho; have ho := ho.symm; subst ho; intro _; replace h := hK18; refine aSR ?_; intro _; obtain ⟨z791, u26, h⟩ := ob1_ok h; refine cl_XDLb rfl (A_r16_Variable v781 u26) ?_; intro _; refine dr_XDLb ?_; refine aCd ?_; intro _; refine spl h (fun c27 h => ?_) (fun c27 h => ?_)
                · refine aRg ?_; intro _; obtain ⟨q28, h⟩ := grd_ok h; refine pl_XDLb ?_; refine pl_XDLb ?_; refine And.intro (by first | with_reducible assumption | (show (x6.2.2.length + 1) * 16 ≤ 140737488355328; with_reducible assumption) | omega | (simp; omega)) ?_; refine pe_XDLb ?_; refine dr_XDLb ?_; refine ⟨(x6.2.2 ++ [v781]), (Option.some.inj h).symm, ?_⟩; exact ca_XDLb
                · refine aSk ?_; refine ⟨x6.2.2, (Option.some.inj h).symm, ?_⟩; exact ca_XDLb
            · rintro v769 ho; have ho := ho.symm; subst ho; intro _; replace h := hK12; refine aRg ?_; intro _; refine dr_XDLb ?_; refine ⟨(k746, (IntKind.i64.wrap (x6.2.1 + 1)), v769), h, ltS m7, ?_⟩; exact ca_XDLb
          · refine aEx ?_; refine ⟨x6.2.2, (Option.some.inj h).symm, ?_⟩; exact ca_XDLb
      · rintro v650 ho; have ho := ho.symm; subst ho; intro _; replace h := hK5; refine aRg ?_; intro _; refine dr_XDLb ?_; refine ⟨(k509, (IntKind.i64.wrap (x1.2.1 + 1)), v650), h, ltS m2, ?_⟩; exact ca_XDLb
    · refine aEx ?_; refine aSR ?_; intro _; refine dr_XDLb ?_; refine aRt ?_; intro _; obtain rfl := inj1 h; exact ca_XDLb
def M_r16_has_L1 (a0 : List ByteArray) (a1 : ByteArray) : Nat → Int → Option (Bool)
  | 0, _ => none
  | k5 + 1, v4 =>
    sel (decide (v4 < ((a0.map cS).length : Int)))
     (ix a0 v4 (fun y6 =>
       sel (y6.toList == a1.toList)
        (some true)
        (M_r16_has_L1 a0 a1 k5 (IntKind.i64.wrap (v4 + 1)))))
     (some false)
def M_r16_has (g : Nat) (a0 : List ByteArray) (a1 : ByteArray) : Option (Bool) :=
  M_r16_has_L1 a0 a1 g 0
theorem A_r16_has (g : Nat) (a0 : List ByteArray) (a1 : ByteArray) {r1 : Bool} (h : M_r16_has g a0 a1 = some r1) : ACall cx 54 [.sl 1 (a0.map cS), .c (.string a1)] (.c (.bool r1)) := by
  refine aOf Tryd.func54 rfl (by decide) rfl (Nat.le_of_ble_eq_true rfl) ?_; intro _; unfold M_r16_has at h; refine aSR ?_; intro _; refine dr_XDLb ?_; refine aSq ?_; refine aSR ?_; intro _; refine dr_XDLb ?_; refine aBk ?_; refine awp_loop (α := Nat × Int) (fun x => mkS 18 [(0, .sl 1 (a0.map cS)), (1, .c (.string a1)), (5, .c (.int .i64 x.2))] []) (fun x => M_r16_has_L1 a0 a1 x.1 x.2 = some r1) (fun x => x.1) (g, 0) h ?_ ?_
  · exact ca_XDLb
  · intro x1 h; intro _; obtain ⟨k5, m2, h⟩ := succ_of (f := fun n => M_r16_has_L1 a0 a1 n x1.2) rfl h; replace h : M_r16_has_L1 a0 a1 (k5 + 1) x1.2 = some r1 := h; rw [M_r16_has_L1] at h; refine aSq ?_; refine aSR ?_; intro _; refine dr_XDLb ?_; refine aCd ?_; intro _; refine spl h (fun c3 h => ?_) (fun c3 h => ?_)
    · refine aSk ?_; refine aSq ?_; refine aBk ?_; refine aSR ?_; intro _; obtain ⟨y6, w4, q5, h⟩ := ix_ok h; refine Exists.intro (cS y6) (And.intro (map_at' w4) ?_); intro _; refine pr_XDLb ?_; refine dr_XDLb ?_; refine aCd ?_; intro _; refine spl h (fun c6 h => ?_) (fun c6 h => ?_)
      · refine aSR ?_; intro _; refine dr_XDLb ?_; refine aRt ?_; intro _; obtain rfl := inj1 h; exact ca_XDLb
      · refine aSk ?_; refine aRg ?_; intro _; refine dr_XDLb ?_; refine ⟨(k5, (IntKind.i64.wrap (x1.2 + 1))), h, ltS m2, ?_⟩; exact ca_XDLb
    · refine aEx ?_; refine aSR ?_; intro _; refine dr_XDLb ?_; refine aRt ?_; intro _; obtain rfl := inj1 h; exact ca_XDLb
def M_r16_Variables_L1 (a0 : List GAtom) (g : Nat) (v87 : Int) : Nat → Int → (List ByteArray) → Option (List ByteArray)
  | 0, _, _ => none
  | k126 + 1, v124, v125 =>
    ix a0 v87 (fun y127 =>
     sel (decide (v124 < ((y127.Args.map cS).length : Int)))
      (ix a0 v87 (fun y128 =>
        ix y128.Args v124 (fun y129 =>
         ob1 (M_r16_Variable y129) (fun z130 =>
          sel z130
           (grd (v125.length ≤ 140737488355328) (ob1 (M_r16_has g v125 y129) (fun z131 =>
             sel (!z131)
              (grd ((v125.length + 1) * 16 ≤ 140737488355328) (M_r16_Variables_L1 a0 g v87 k126 (IntKind.i64.wrap (v124 + 1)) (v125 ++ [y129])))
              (M_r16_Variables_L1 a0 g v87 k126 (IntKind.i64.wrap (v124 + 1)) v125))))
           (M_r16_Variables_L1 a0 g v87 k126 (IntKind.i64.wrap (v124 + 1)) v125)))))
      (some v125))
def M_r16_Variables_L2 (a0 : List GAtom) (g : Nat) : Nat → Int → (List ByteArray) → Option (List ByteArray)
  | 0, _, _ => none
  | k89 + 1, v87, v88 =>
    sel (decide (v87 < ((a0.map cGAtom).length : Int)))
     (ob1 (M_r16_Variables_L1 a0 g v87 g 0 v88 : Option (List ByteArray))
       (fun v110 => M_r16_Variables_L2 a0 g k89 (IntKind.i64.wrap (v87 + 1)) v110))
     (grd (v88.length ≤ 140737488355328) (some v88))
def M_r16_Variables (g : Nat) (a0 : List GAtom) : Option (List ByteArray) :=
  M_r16_Variables_L2 a0 g g 0 []
theorem A_r16_Variables (g : Nat) (a0 : List GAtom) {r1 : List ByteArray} (h : M_r16_Variables g a0 = some r1) : ACall cx 42 [.sl 2 (a0.map cGAtom)] (.sl 1 (r1.map cS)) := by
  refine aOf Tryd.func42 rfl (by decide) rfl (Nat.le_of_ble_eq_true rfl) ?_; intro _; unfold M_r16_Variables at h; refine aSR ?_; intro _; refine dr_XDLb ?_; refine aSR ?_; intro _; refine dr_XDLb ?_; refine aSq ?_; refine aSR ?_; intro _; refine dr_XDLb ?_; refine aBk ?_; refine awp_loop (α := Nat × Int × (List ByteArray)) (fun x => mkS 44 [(0, .sl 2 (a0.map cGAtom)), (3, .own 42 0 0 x.2.2.length), (4, .c (.int .i64 x.2.1))] [(42, ⟨9, 1, false, x.2.2.map cS⟩)]) (fun x => M_r16_Variables_L2 a0 g x.1 x.2.1 x.2.2 = some r1) (fun x => x.1) (g, 0, []) h ?_ ?_
  · exact ca_XDLb
  · intro x1 h; intro _; obtain ⟨k89, m2, h⟩ := succ_of (f := fun n => M_r16_Variables_L2 a0 g n x1.2.1 x1.2.2) rfl h; replace h : M_r16_Variables_L2 a0 g (k89 + 1) x1.2.1 x1.2.2 = some r1 := h; rw [M_r16_Variables_L2] at h; refine aSq ?_; refine aSR ?_; intro _; refine dr_XDLb ?_; refine aCd ?_; intro _; refine spl h (fun c3 h => ?_) (fun c3 h => ?_)
    · refine aSk ?_; obtain ⟨o4, h, hK5⟩ := ob1_ok h; refine awp_cut (α := List ByteArray) (fun v110 => mkS 44 [(0, .sl 2 (a0.map cGAtom)), (3, .own 42 0 0 v110.length), (4, .c (.int .i64 x1.2.1))] [(42, ⟨9, 1, false, v110.map cS⟩)]) (fun v => o4 = v) ?_ ?_
      · refine aBk ?_; refine aSR ?_; intro _; refine dr_XDLb ?_; refine aBk ?_; refine awp_loop (α := Nat × Int × (List ByteArray)) (fun x => mkS 44 [(0, .sl 2 (a0.map cGAtom)), (3, .own 42 0 0 x.2.2.length), (4, .c (.int .i64 x1.2.1)), (5, .c (.int .i64 x.2.1))] [(42, ⟨9, 1, false, x.2.2.map cS⟩)]) (fun x => M_r16_Variables_L1 a0 g x1.2.1 x.1 x.2.1 x.2.2 = some o4) (fun x => x.1) (g, 0, x1.2.2) h ?_ ?_
        · exact ca_XDLb
        · intro x6 h; intro _; obtain ⟨k126, m7, h⟩ := succ_of (f := fun n => M_r16_Variables_L1 a0 g x1.2.1 n x6.2.1 x6.2.2) rfl h; replace h : M_r16_Variables_L1 a0 g x1.2.1 (k126 + 1) x6.2.1 x6.2.2 = some o4 := h; rw [M_r16_Variables_L1] at h; refine aSq ?_; refine aSR ?_; intro _; obtain ⟨y127, w8, q9, h⟩ := ix_ok h; refine Exists.intro (cGAtom y127) (And.intro (map_at' w8) ?_); intro _; refine pr_XDLb ?_; refine dr_XDLb ?_; refine aCd ?_; intro _; refine spl h (fun c10 h => ?_) (fun c10 h => ?_)
          · refine aSk ?_; refine aSq ?_; refine aBk ?_; refine aSR ?_; intro _; obtain ⟨y128, w11, q12, h⟩ := ix_ok h; refine Exists.intro (cGAtom y128) (And.intro (map_at' w11) ?_); intro _; obtain ⟨y129, w13, q14, h⟩ := ix_ok h; refine Exists.intro (cS y129) (And.intro (map_at' w13) ?_); intro _; refine pr_XDLb ?_; refine pr_XDLb ?_; refine dr_XDLb ?_; refine aSR ?_; intro _; obtain ⟨z130, u15, h⟩ := ob1_ok h; refine cl_XDLb rfl (A_r16_Variable y129 u15) ?_; intro _; refine spl h (fun c16 h => ?_) (fun c16 h => ?_)
            · intro _; obtain ⟨q17, h⟩ := grd_ok h; obtain ⟨z131, u18, h⟩ := ob1_ok h; refine clb_XDLb [42] rfl rfl (A_r16_has g x6.2.2 y129 u18) ?_; intro _; refine dr_XDLb ?_; refine aCd ?_; intro _; refine spl h (fun c19 h => ?_) (fun c19 h => ?_)
              · refine aRg ?_; intro _; obtain ⟨q20, h⟩ := grd_ok h; refine pl_XDLb ?_; refine pl_XDLb ?_; refine And.intro (by first | with_reducible assumption | (show (x6.2.2.length + 1) * 16 ≤ 140737488355328; with_reducible assumption) | omega | (simp; omega)) ?_; refine pe_XDLb ?_; refine dr_XDLb ?_; refine aRg ?_; intro _; refine dr_XDLb ?_; refine ⟨(k126, (IntKind.i64.wrap (x6.2.1 + 1)), (x6.2.2 ++ [y129])), h, ltS m7, ?_⟩; exact ca_XDLb
              · refine aSk ?_; refine aRg ?_; intro _; refine dr_XDLb ?_; refine ⟨(k126, (IntKind.i64.wrap (x6.2.1 + 1)), x6.2.2), h, ltS m7, ?_⟩; exact ca_XDLb
            · intro _; refine dr_XDLb ?_; refine aCd ?_; intro _; refine litF ?_; refine aSk ?_; refine aRg ?_; intro _; refine dr_XDLb ?_; refine ⟨(k126, (IntKind.i64.wrap (x6.2.1 + 1)), x6.2.2), h, ltS m7, ?_⟩; exact ca_XDLb
          · refine aEx ?_; refine ⟨x6.2.2, (Option.some.inj h).symm, ?_⟩; exact ca_XDLb
      · rintro v110 ho; have ho := ho.symm; subst ho; intro _; replace h := hK5; refine aRg ?_; intro _; refine dr_XDLb ?_; refine ⟨(k89, (IntKind.i64.wrap (x1.2.1 + 1)), v110), h, ltS m2, ?_⟩; exact ca_XDLb
    · refine aEx ?_; refine aSR ?_; intro _; refine dr_XDLb ?_; refine aRt ?_; obtain ⟨q21, h⟩ := grd_ok h; intro _; obtain rfl := inj1 h; exact ca_XDLb
def M_l16_power_L1 (a0 : Int) (a1 : Int) : Nat → Int → Int → Option (Int)
  | 0, _, _ => none
  | k5 + 1, v3, v4 =>
    sel (decide (v4 < a1))
     (M_l16_power_L1 a0 a1 k5 (min (IntKind.i64.wrap (v3 * a0)) 1000) (IntKind.i64.wrap (v4 + 1)))
     (some v3)
def M_l16_power (g : Nat) (a0 : Int) (a1 : Int) : Option (Int) :=
  M_l16_power_L1 a0 a1 g 1 0
theorem A_l16_power (g : Nat) (a0 : Int) (a1 : Int) {r1 : Int} (h : M_l16_power g a0 a1 = some r1) : ACall cx 46 [.c (.int .i64 a0), .c (.int .i64 a1)] (.c (.int .i64 r1)) := by
  refine aOf Tryd.func46 rfl (by decide) rfl (Nat.le_of_ble_eq_true rfl) ?_; intro _; unfold M_l16_power at h; refine aSR ?_; intro _; refine dr_XDLb ?_; refine aSR ?_; intro _; refine dr_XDLb ?_; refine aSq ?_; refine aSR ?_; intro _; refine dr_XDLb ?_; refine aBk ?_; refine awp_loop (α := Nat × Int × Int) (fun x => mkS 17 [(0, .c (.int .i64 a0)), (1, .c (.int .i64 a1)), (5, .c (.int .i64 x.2.1)), (6, .c (.int .i64 x.2.2))] []) (fun x => M_l16_power_L1 a0 a1 x.1 x.2.1 x.2.2 = some r1) (fun x => x.1) (g, 1, 0) h ?_ ?_
  · exact ca_XDLb
  · intro x1 h; intro _; obtain ⟨k5, m2, h⟩ := succ_of (f := fun n => M_l16_power_L1 a0 a1 n x1.2.1 x1.2.2) rfl h; replace h : M_l16_power_L1 a0 a1 (k5 + 1) x1.2.1 x1.2.2 = some r1 := h; rw [M_l16_power_L1] at h; refine aSq ?_; refine aSR ?_; intro _; refine dr_XDLb ?_; refine aCd ?_; intro _; refine spl h (fun c3 h => ?_) (fun c3 h => ?_)
    · refine aSk ?_; refine aSq ?_; refine aBk ?_; refine aRg ?_; intro _; refine ⟨_, lf_min rfl (Nat.le_of_ble_eq_true rfl) rfl rfl, ?_⟩; intro _; refine dr_XDLb ?_; refine aRg ?_; intro _; refine dr_XDLb ?_; refine ⟨(k5, (min (IntKind.i64.wrap (x1.2.1 * a0)) 1000), (IntKind.i64.wrap (x1.2.2 + 1))), h, ltS m2, ?_⟩; exact ca_XDLb
    · refine aEx ?_; refine aSR ?_; intro _; refine dr_XDLb ?_; refine aRt ?_; intro _; obtain rfl := inj1 h; exact ca_XDLb
def M_stratagem_stratagemlaw16_Program_Large_L1 (a0 : GProgram) (g : Nat) : Nat → Int → (List GAtom) → Option ((List GAtom) ⊕ Bool)
  | 0, _, _ => none
  | k42 + 1, v40, v41 =>
    sel (decide (v40 < ((a0.Rules.map cGRule).length : Int)))
     (ix a0.Rules v40 (fun y43 =>
       sel (decide (((y43.Body.map cGAtom).length : Int) > 3))
        (sel (decide (((y43.Body.map cGAtom).length : Int) < 17))
          (some (.inr true))
          (sel (decide (((y43.Body.map cGAtom).length : Int) > 20))
            (some (.inr true))
            (sel (decide (((y43.Unequal.map cA2_cS).length : Int) > 6))
              (some (.inr true))
              (ob1 (M_l16_many g y43.Body) (fun z44 =>
                sel z44
                 (some (.inr true))
                 (ob1 (M_l16_many g [y43.Head]) (fun z45 =>
                   sel z45
                    (some (.inr true))
                    (grd ((v41.length + 1) * 40 ≤ 140737488355328) (grd ((v41.length + 1 + y43.Body.length) * 40 ≤ 140737488355328) (M_stratagem_stratagemlaw16_Program_Large_L1 a0 g k42 (IntKind.i64.wrap (v40 + 1)) ((v41 ++ [y43.Head]) ++ y43.Body)))))))))))
        (sel (decide (((y43.Body.map cGAtom).length : Int) > 20))
          (some (.inr true))
          (sel (decide (((y43.Unequal.map cA2_cS).length : Int) > 6))
            (some (.inr true))
            (ob1 (M_l16_many g y43.Body) (fun z46 =>
              sel z46
               (some (.inr true))
               (ob1 (M_l16_many g [y43.Head]) (fun z47 =>
                 sel z47
                  (some (.inr true))
                  (grd ((v41.length + 1) * 40 ≤ 140737488355328) (grd ((v41.length + 1 + y43.Body.length) * 40 ≤ 140737488355328) (M_stratagem_stratagemlaw16_Program_Large_L1 a0 g k42 (IntKind.i64.wrap (v40 + 1)) ((v41 ++ [y43.Head]) ++ y43.Body))))))))))))
     (some (.inl v41))
def M_stratagem_stratagemlaw16_Program_Large_L2 (a0 : GProgram) (g : Nat) (z48 : Int) : Nat → Int → Int → Option (Bool)
  | 0, _, _ => none
  | k63 + 1, v61, v62 =>
    sel (decide (v62 < ((a0.Rules.map cGRule).length : Int)))
     (ix a0.Rules v62 (fun y64 =>
       ob1 (M_r16_Variables g y64.Body) (fun z65 =>
        ix a0.Rules v62 (fun y66 =>
         ob1 (M_l16_power g z48 (min ((y66.Head.Args.map cS).length : Int) ((z65.map cS).length : Int))) (fun z67 =>
          ob1 (M_l16_power g z48 ((z65.map cS).length : Int)) (fun z68 =>
           sel (decide (z68 ≥ 1000))
            (some true)
            (M_stratagem_stratagemlaw16_Program_Large_L2 a0 g z48 k63 (IntKind.i64.wrap (v61 + z67)) (IntKind.i64.wrap (v62 + 1)))))))))
     (some (decide (v61 > 150)))
def M_stratagem_stratagemlaw16_Program_Large (g : Nat) (a0 : GProgram) : Option (Bool) :=
  ob1 (sel (decide (((a0.Facts.map cGAtom).length : Int) > 30))
    (some (.inr true))
    (sel (decide (((a0.Rules.map cGRule).length : Int) > 8))
      (some (.inr true))
      (ob1 (M_l16_many g a0.Facts) (fun z4 =>
        sel z4
         (some (.inr true))
         (some (.inl ()))))) : Option (Unit ⊕ Bool))
   (osum
   (fun _ => grd ((0 + a0.Facts.length) * 40 ≤ 140737488355328) (ob1 (M_stratagem_stratagemlaw16_Program_Large_L1 a0 g g 0 a0.Facts : Option ((List GAtom) ⊕ Bool))
      (osum
      (fun v25 => grd (v25.length ≤ 140737488355328) (ob1 (M_l16_constants g v25) (fun z48 =>
         M_stratagem_stratagemlaw16_Program_Large_L2 a0 g z48 g 0 0)))
      (fun r26 => some r26))))
   (fun r2 => some r2))
theorem A_stratagem_stratagemlaw16_Program_Large (g : Nat) (a0 : GProgram) {r1 : Bool} (h : M_stratagem_stratagemlaw16_Program_Large g a0 = some r1) : ACall cx 15 [.agg [.sl 2 (a0.Facts.map cGAtom), .sl 4 (a0.Rules.map cGRule)]] (.c (.bool r1)) := by
  refine aOf Tryd.func15 rfl (by decide) rfl (Nat.le_of_ble_eq_true rfl) ?_; intro _; unfold M_stratagem_stratagemlaw16_Program_Large at h; refine aSR ?_; intro _; refine dr_XDLb ?_; obtain ⟨o1, h, hK2⟩ := ob1_ok h; refine awp_cut (α := Unit) (fun _ => mkS 119 [(1, .ptr 1 0 0 0)] [(1, ⟨38, 2, true, [[.sl 2 (a0.Facts.map cGAtom), .sl 4 (a0.Rules.map cGRule)]]⟩)]) (fun v => o1 = (.inl v)) ?_ ?_
  · refine aSR ?_; intro _; refine spf h (fun c3 h => ?_) (fun c3 h => ?_)
    · intro _; refine spf h (fun c4 h => ?_) (fun c4 h => ?_)
      · intro _; obtain ⟨z4, u5, h⟩ := ob1_ok h; refine cl_XDLb rfl (A_l16_many g a0.Facts u5) ?_; intro _; refine dr_XDLb ?_; refine aCd ?_; intro _; refine spl h (fun c6 h => ?_) (fun c6 h => ?_)
        · refine aSR ?_; intro _; refine dr_XDLb ?_; refine aRt ?_; have j7 := Option.some.inj h; subst j7; replace h := (osum_r hK2); intro _; obtain rfl := inj1 h; exact ca_XDLb
        · refine aSk ?_; refine ⟨(), (Option.some.inj h).symm, ?_⟩; exact ca_XDLb
      · intro _; refine dr_XDLb ?_; refine aCd ?_; intro _; refine litT ?_; refine aSR ?_; intro _; refine dr_XDLb ?_; refine aRt ?_; have j8 := Option.some.inj h; subst j8; replace h := (osum_r hK2); intro _; obtain rfl := inj1 h; exact ca_XDLb
    · intro _; refine dr_XDLb ?_; refine aCd ?_; intro _; refine litT ?_; refine aSR ?_; intro _; refine dr_XDLb ?_; refine aRt ?_; have j9 := Option.some.inj h; subst j9; replace h := (osum_r hK2); intro _; obtain rfl := inj1 h; exact ca_XDLb
  · rintro _ ho; have ho := ho.symm; subst ho; intro _; replace h := (osum_l hK2); refine aSR ?_; intro _; obtain ⟨q10, h⟩ := grd_ok h; refine pl_XDLb ?_; refine And.intro (by first | with_reducible assumption | (show (0 + a0.Facts.length) * 40 ≤ 140737488355328; with_reducible assumption) | omega | (simp; omega)) ?_; refine pe_XDLb ?_; refine dr_XDLb ?_; obtain ⟨o11, h, hK12⟩ := ob1_ok h; refine awp_cut (α := List GAtom) (fun v25 => mkS 119 [(1, .ptr 1 0 0 0), (3, .own 25 0 0 v25.length)] [(1, ⟨38, 2, true, [[.sl 2 (a0.Facts.map cGAtom), .sl 4 (a0.Rules.map cGRule)]]⟩), (25, ⟨24, 2, false, v25.map cGAtom⟩)]) (fun v => o11 = (.inl v)) ?_ ?_
    · refine aSR ?_; intro _; refine dr_XDLb ?_; refine aBk ?_; refine awp_loop (α := Nat × Int × (List GAtom)) (fun x => mkS 119 [(1, .ptr 1 0 0 0), (3, .own 25 0 0 x.2.2.length), (4, .c (.int .i64 x.2.1))] [(1, ⟨38, 2, true, [[.sl 2 (a0.Facts.map cGAtom), .sl 4 (a0.Rules.map cGRule)]]⟩), (25, ⟨24, 2, false, x.2.2.map cGAtom⟩)]) (fun x => M_stratagem_stratagemlaw16_Program_Large_L1 a0 g x.1 x.2.1 x.2.2 = some o11) (fun x => x.1) (g, 0, a0.Facts) h ?_ ?_
      · exact ca_XDLb
      · intro x13 h; intro _; obtain ⟨k42, m14, h⟩ := succ_of (f := fun n => M_stratagem_stratagemlaw16_Program_Large_L1 a0 g n x13.2.1 x13.2.2) rfl h; replace h : M_stratagem_stratagemlaw16_Program_Large_L1 a0 g (k42 + 1) x13.2.1 x13.2.2 = some o11 := h; rw [M_stratagem_stratagemlaw16_Program_Large_L1] at h; refine aSq ?_; refine aSR ?_; intro _; refine dr_XDLb ?_; refine aCd ?_; intro _; refine spl h (fun c15 h => ?_) (fun c15 h => ?_)
        · refine aSk ?_; refine aSq ?_; refine aBk ?_; refine aSR ?_; intro _; obtain ⟨y43, w16, q17, h⟩ := ix_ok h; refine Exists.intro (cGRule y43) (And.intro (map_at' w16) ?_); intro _; refine pr_XDLb ?_; refine dr_XDLb ?_; refine aSq ?_; refine aSR ?_; intro _; refine spl h (fun c18 h => ?_) (fun c18 h => ?_)
          · intro _; refine spf h (fun c19 h => ?_) (fun c19 h => ?_)
            · intro _; refine spf h (fun c20 h => ?_) (fun c20 h => ?_)
              · intro _; refine spf h (fun c21 h => ?_) (fun c21 h => ?_)
                · intro _; obtain ⟨z44, u22, h⟩ := ob1_ok h; refine cl_XDLb rfl (A_l16_many g y43.Body u22) ?_; intro _; refine spf h (fun c23 h => ?_) (fun c23 h => ?_)
                  · intro _; obtain ⟨z45, u24, h⟩ := ob1_ok h; refine clb_XDLb [71] rfl rfl (A_l16_many g [y43.Head] u24) ?_; intro _; refine dr_XDLb ?_; refine aCd ?_; intro _; refine spl h (fun c25 h => ?_) (fun c25 h => ?_)
                    · refine aSR ?_; intro _; refine dr_XDLb ?_; refine aRt ?_; have j26 := Option.some.inj h; subst j26; replace h := (osum_r hK12); intro _; obtain rfl := inj1 h; exact ca_XDLb
                    · refine aSk ?_; refine aRg ?_; intro _; obtain ⟨q27, h⟩ := grd_ok h; obtain ⟨q28, h⟩ := grd_ok h; refine pl_XDLb ?_; refine pl_XDLb ?_; refine And.intro (by first | with_reducible assumption | (show (x13.2.2.length + 1) * 40 ≤ 140737488355328; with_reducible assumption) | omega | (simp; omega)) ?_; refine pe_XDLb ?_; refine pl_XDLb ?_; refine And.intro (by first | with_reducible assumption | (show (x13.2.2.length + 1 + y43.Body.length) * 40 ≤ 140737488355328; with_reducible assumption) | omega | (simp; omega)) ?_; refine pe_XDLb ?_; refine dr_XDLb ?_; refine aRg ?_; intro _; refine dr_XDLb ?_; refine ⟨(k42, (IntKind.i64.wrap (x13.2.1 + 1)), ((x13.2.2 ++ [y43.Head]) ++ y43.Body)), h, ltS m14, ?_⟩; exact ca_XDLb
                  · intro _; refine dr_XDLb ?_; refine aCd ?_; intro _; refine litT ?_; refine aSR ?_; intro _; refine dr_XDLb ?_; refine aRt ?_; have j29 := Option.some.inj h; subst j29; replace h := (osum_r hK12); intro _; obtain rfl := inj1 h; exact ca_XDLb
                · intro _; refine dr_XDLb ?_; refine aCd ?_; intro _; refine litT ?_; refine aSR ?_; intro _; refine dr_XDLb ?_; refine aRt ?_; have j30 := Option.some.inj h; subst j30; replace h := (osum_r hK12); intro _; obtain rfl := inj1 h; exact ca_XDLb
              · intro _; refine dr_XDLb ?_; refine aCd ?_; intro _; refine litT ?_; refine aSR ?_; intro _; refine dr_XDLb ?_; refine aRt ?_; have j31 := Option.some.inj h; subst j31; replace h := (osum_r hK12); intro _; obtain rfl := inj1 h; exact ca_XDLb
            · intro _; refine dr_XDLb ?_; refine aCd ?_; intro _; refine litT ?_; refine aSR ?_; intro _; refine dr_XDLb ?_; refine aRt ?_; have j32 := Option.some.inj h; subst j32; replace h := (osum_r hK12); intro _; obtain rfl := inj1 h; exact ca_XDLb
          · intro _; refine spf h (fun c33 h => ?_) (fun c33 h => ?_)
            · intro _; refine spf h (fun c34 h => ?_) (fun c34 h => ?_)
              · intro _; obtain ⟨z46, u35, h⟩ := ob1_ok h; refine cl_XDLb rfl (A_l16_many g y43.Body u35) ?_; intro _; refine spf h (fun c36 h => ?_) (fun c36 h => ?_)
                · intro _; obtain ⟨z47, u37, h⟩ := ob1_ok h; refine clb_XDLb [71] rfl rfl (A_l16_many g [y43.Head] u37) ?_; intro _; refine dr_XDLb ?_; refine aCd ?_; intro _; refine spl h (fun c38 h => ?_) (fun c38 h => ?_)
                  · refine aSR ?_; intro _; refine dr_XDLb ?_; refine aRt ?_; have j39 := Option.some.inj h; subst j39; replace h := (osum_r hK12); intro _; obtain rfl := inj1 h; exact ca_XDLb
                  · refine aSk ?_; refine aRg ?_; intro _; obtain ⟨q40, h⟩ := grd_ok h; obtain ⟨q41, h⟩ := grd_ok h; refine pl_XDLb ?_; refine pl_XDLb ?_; refine And.intro (by first | with_reducible assumption | (show (x13.2.2.length + 1) * 40 ≤ 140737488355328; with_reducible assumption) | omega | (simp; omega)) ?_; refine pe_XDLb ?_; refine pl_XDLb ?_; refine And.intro (by first | with_reducible assumption | (show (x13.2.2.length + 1 + y43.Body.length) * 40 ≤ 140737488355328; with_reducible assumption) | omega | (simp; omega)) ?_; refine pe_XDLb ?_; refine dr_XDLb ?_; refine aRg ?_; intro _; refine dr_XDLb ?_; refine ⟨(k42, (IntKind.i64.wrap (x13.2.1 + 1)), ((x13.2.2 ++ [y43.Head]) ++ y43.Body)), h, ltS m14, ?_⟩; exact ca_XDLb
                · intro _; refine dr_XDLb ?_; refine aCd ?_; intro _; refine litT ?_; refine aSR ?_; intro _; refine dr_XDLb ?_; refine aRt ?_; have j42 := Option.some.inj h; subst j42; replace h := (osum_r hK12); intro _; obtain rfl := inj1 h; exact ca_XDLb
              · intro _; refine dr_XDLb ?_; refine aCd ?_; intro _; refine litT ?_; refine aSR ?_; intro _; refine dr_XDLb ?_; refine aRt ?_; have j43 := Option.some.inj h; subst j43; replace h := (osum_r hK12); intro _; obtain rfl := inj1 h; exact ca_XDLb
            · intro _; refine dr_XDLb ?_; refine aCd ?_; intro _; refine litT ?_; refine aSR ?_; intro _; refine dr_XDLb ?_; refine aRt ?_; have j44 := Option.some.inj h; subst j44; replace h := (osum_r hK12); intro _; obtain rfl := inj1 h; exact ca_XDLb
        · refine aEx ?_; refine ⟨x13.2.2, (Option.some.inj h).symm, ?_⟩; exact ca_XDLb
    · rintro v25 ho; have ho := ho.symm; subst ho; intro _; replace h := (osum_l hK12); refine aSR ?_; intro _; obtain ⟨q45, h⟩ := grd_ok h; obtain ⟨z48, u46, h⟩ := ob1_ok h; refine clb_XDLb [25] rfl rfl (A_l16_constants g v25 u46) ?_; intro _; refine dr_XDLb ?_; refine aSq ?_; refine aSR ?_; intro _; refine dr_XDLb ?_; refine aBk ?_; refine awp_loop (α := Nat × Int × Int) (fun x => mkS 119 [(1, .ptr 1 0 0 0), (6, .c (.int .i64 z48)), (7, .c (.int .i64 x.2.1)), (8, .c (.int .i64 x.2.2))] [(1, ⟨38, 2, true, [[.sl 2 (a0.Facts.map cGAtom), .sl 4 (a0.Rules.map cGRule)]]⟩)]) (fun x => M_stratagem_stratagemlaw16_Program_Large_L2 a0 g z48 x.1 x.2.1 x.2.2 = some r1) (fun x => x.1) (g, 0, 0) h ?_ ?_
      · exact ca_XDLb
      · intro x47 h; intro _; obtain ⟨k63, m48, h⟩ := succ_of (f := fun n => M_stratagem_stratagemlaw16_Program_Large_L2 a0 g z48 n x47.2.1 x47.2.2) rfl h; replace h : M_stratagem_stratagemlaw16_Program_Large_L2 a0 g z48 (k63 + 1) x47.2.1 x47.2.2 = some r1 := h; rw [M_stratagem_stratagemlaw16_Program_Large_L2] at h; refine aSq ?_; refine aSR ?_; intro _; refine dr_XDLb ?_; refine aCd ?_; intro _; refine spl h (fun c49 h => ?_) (fun c49 h => ?_)
        · refine aSk ?_; refine aSq ?_; refine aBk ?_; refine aSR ?_; intro _; obtain ⟨y64, w50, q51, h⟩ := ix_ok h; refine Exists.intro (cGRule y64) (And.intro (map_at' w50) ?_); intro _; obtain ⟨z65, u52, h⟩ := ob1_ok h; refine cl_XDLb rfl (A_r16_Variables g y64.Body u52) ?_; intro _; refine pr_XDLb ?_; refine dr_XDLb ?_; refine aSR ?_; intro _; obtain ⟨y66, w53, q54, h⟩ := ix_ok h; refine Exists.intro (cGRule y66) (And.intro (map_at' w53) ?_); intro _; refine ⟨_, lf_min rfl (Nat.le_of_ble_eq_true rfl) rfl rfl, ?_⟩; intro _; obtain ⟨z67, u55, h⟩ := ob1_ok h; refine cl_XDLb rfl (A_l16_power g z48 (min ((y66.Head.Args.map cS).length : Int) ((z65.map cS).length : Int)) u55) ?_; intro _; refine pr_XDLb ?_; refine dr_XDLb ?_; refine aSR ?_; intro _; obtain ⟨z68, u56, h⟩ := ob1_ok h; refine cl_XDLb rfl (A_l16_power g z48 ((z65.map cS).length : Int) u56) ?_; intro _; refine dr_XDLb ?_; refine aCd ?_; intro _; refine spl h (fun c57 h => ?_) (fun c57 h => ?_)
          · refine aSR ?_; intro _; refine dr_XDLb ?_; refine aRt ?_; intro _; obtain rfl := inj1 h; exact ca_XDLb
          · refine aSk ?_; refine aRg ?_; intro _; refine dr_XDLb ?_; refine ⟨(k63, (IntKind.i64.wrap (x47.2.1 + z67)), (IntKind.i64.wrap (x47.2.2 + 1))), h, ltS m48, ?_⟩; exact ca_XDLb
        · refine aEx ?_; refine aSR ?_; intro _; refine dr_XDLb ?_; refine aRt ?_; intro _; obtain rfl := inj1 h; exact ca_XDLb
def M_r10_Compare_L1 (a0 : GAtom) (a1 : GAtom) : Nat → Int → Option (Unit ⊕ Int)
  | 0, _ => none
  | k33 + 1, v32 =>
    ob1 (sel (decide (v32 < ((a0.Args.map cS).length : Int)))
      (sel (decide (v32 < ((a1.Args.map cS).length : Int)))
        (some (.inl ()))
        (some (.inr ())))
      (some (.inr ())) : Option (Unit ⊕ Unit))
     (osum
     (fun _ => ix a0.Args v32 (fun y35 =>
        ix a1.Args v32 (fun y36 =>
         sel (Op.bytesLess y35.toList y36.toList)
          (some (.inr (-1)))
          (ix a0.Args v32 (fun y37 =>
            ix a1.Args v32 (fun y38 =>
             sel (!(Op.bytesLess y37.toList y38.toList || y37.toList == y38.toList))
              (some (.inr 1))
              (M_r10_Compare_L1 a0 a1 k33 (IntKind.i64.wrap (v32 + 1)))))))))
     (fun _ => some (.inl ())))
def M_r10_Compare (g : Nat) (a0 : GAtom) (a1 : GAtom) : Option (Int) :=
  sel (!(a0.Name.toList == a1.Name.toList))
   (sel (Op.bytesLess a0.Name.toList a1.Name.toList)
     (some (-1))
     (some 1))
   (ob1 (M_r10_Compare_L1 a0 a1 g 0 : Option (Unit ⊕ Int))
     (osum
     (fun _ => some (IntKind.i64.wrap (((a0.Args.map cS).length : Int) - ((a1.Args.map cS).length : Int))))
     (fun r19 => some r19)))
theorem A_r10_Compare (g : Nat) (a0 : GAtom) (a1 : GAtom) {r1 : Int} (h : M_r10_Compare g a0 a1 = some r1) : ACall cx 19 [.agg [.c (.string a0.Name), .sl 1 (a0.Args.map cS)], .agg [.c (.string a1.Name), .sl 1 (a1.Args.map cS)]] (.c (.int .i64 r1)) := by
  refine aOf Tryd.func19 rfl (by decide) rfl (Nat.le_of_ble_eq_true rfl) ?_; intro _; unfold M_r10_Compare at h; refine aSR ?_; intro _; refine dr_XDLb ?_; refine aSq ?_; refine aSR ?_; intro _; refine dr_XDLb ?_; refine aCd ?_; intro _; refine spl h (fun c1 h => ?_) (fun c1 h => ?_)
  · refine aSq ?_; refine aSR ?_; intro _; refine dr_XDLb ?_; refine aCd ?_; intro _; refine spl h (fun c2 h => ?_) (fun c2 h => ?_)
    · refine aSR ?_; intro _; refine dr_XDLb ?_; refine aRt ?_; intro _; obtain rfl := inj1 h; exact ca_XDLb
    · refine aSk ?_; refine aSR ?_; intro _; refine dr_XDLb ?_; refine aRt ?_; intro _; obtain rfl := inj1 h; exact ca_XDLb
  · refine aSk ?_; obtain ⟨o3, h, hK4⟩ := ob1_ok h; refine awp_cut (α := Unit) (fun _ => mkS 59 [(2, .ptr 2 0 0 0), (3, .ptr 3 0 0 0)] [(2, ⟨24, 2, true, [[.c (.string a0.Name), .sl 1 (a0.Args.map cS)]]⟩), (3, ⟨24, 2, true, [[.c (.string a1.Name), .sl 1 (a1.Args.map cS)]]⟩)]) (fun v => o3 = (.inl v)) ?_ ?_
    · refine aSR ?_; intro _; refine dr_XDLb ?_; refine aBk ?_; refine awp_loop (α := Nat × Int) (fun x => mkS 59 [(2, .ptr 2 0 0 0), (3, .ptr 3 0 0 0), (5, .c (.int .i64 x.2))] [(2, ⟨24, 2, true, [[.c (.string a0.Name), .sl 1 (a0.Args.map cS)]]⟩), (3, ⟨24, 2, true, [[.c (.string a1.Name), .sl 1 (a1.Args.map cS)]]⟩)]) (fun x => M_r10_Compare_L1 a0 a1 x.1 x.2 = some o3) (fun x => x.1) (g, 0) h ?_ ?_
      · exact ca_XDLb
      · intro x5 h; intro _; obtain ⟨k33, m6, h⟩ := succ_of (f := fun n => M_r10_Compare_L1 a0 a1 n x5.2) rfl h; replace h : M_r10_Compare_L1 a0 a1 (k33 + 1) x5.2 = some o3 := h; rw [M_r10_Compare_L1] at h; obtain ⟨o7, h, hK8⟩ := ob1_ok h; refine awp_cut (α := Unit) (fun _ => mkS 59 [(2, .ptr 2 0 0 0), (3, .ptr 3 0 0 0), (5, .c (.int .i64 x5.2)), (22, .c (.int .i64 x5.2)), (23, .ptr 3 0 0 1), (24, .sl 1 (a1.Args.map cS)), (25, .c (.int .i64 ((a1.Args.map cS).length : Int))), (26, .c (.bool (decide (x5.2 < ((a1.Args.map cS).length : Int)))))] [(2, ⟨24, 2, true, [[.c (.string a0.Name), .sl 1 (a0.Args.map cS)]]⟩), (3, ⟨24, 2, true, [[.c (.string a1.Name), .sl 1 (a1.Args.map cS)]]⟩)]) (fun v => o7 = (.inl v)) ?_ ?_
        · refine aSR ?_; intro _; refine spl h (fun c9 h => ?_) (fun c9 h => ?_)
          · intro _; refine dr_XDLb ?_; refine aCd ?_; intro _; refine spl h (fun c10 h => ?_) (fun c10 h => ?_)
            · refine aSk ?_; refine ⟨(), (Option.some.inj h).symm, ?_⟩; exact ca_XDLb
            · refine aEx ?_; have j11 := Option.some.inj h; subst j11; replace h := (osum_r hK8); refine ⟨(), (Option.some.inj h).symm, ?_⟩; exact ca_XDLb
          · intro _; refine dr_XDLb ?_; refine aCd ?_; intro _; refine litF ?_; refine aEx ?_; have j12 := Option.some.inj h; subst j12; replace h := (osum_r hK8); refine ⟨(), (Option.some.inj h).symm, ?_⟩; exact ca_XDLb
        · rintro _ ho; have ho := ho.symm; subst ho; intro _; replace h := (osum_l hK8); refine aSq ?_; refine aBk ?_; refine aSq ?_; refine aSR ?_; intro _; obtain ⟨y35, w13, q14, h⟩ := ix_ok h; refine Exists.intro (cS y35) (And.intro (map_at' w13) ?_); intro _; obtain ⟨y36, w15, q16, h⟩ := ix_ok h; refine Exists.intro (cS y36) (And.intro (map_at' w15) ?_); intro _; refine pr_XDLb ?_; refine pr_XDLb ?_; refine dr_XDLb ?_; refine aCd ?_; intro _; refine spl h (fun c17 h => ?_) (fun c17 h => ?_)
          · refine aSR ?_; intro _; refine dr_XDLb ?_; refine aRt ?_; have j18 := Option.some.inj h; subst j18; replace h := (osum_r hK4); intro _; obtain rfl := inj1 h; exact ca_XDLb
          · refine aSk ?_; refine aSR ?_; intro _; obtain ⟨y37, w19, q20, h⟩ := ix_ok h; refine Exists.intro (cS y37) (And.intro (map_at' w19) ?_); intro _; obtain ⟨y38, w21, q22, h⟩ := ix_ok h; refine Exists.intro (cS y38) (And.intro (map_at' w21) ?_); intro _; refine pr_XDLb ?_; refine pr_XDLb ?_; refine dr_XDLb ?_; refine aCd ?_; intro _; refine spl h (fun c23 h => ?_) (fun c23 h => ?_)
            · refine aSR ?_; intro _; refine dr_XDLb ?_; refine aRt ?_; have j24 := Option.some.inj h; subst j24; replace h := (osum_r hK4); intro _; obtain rfl := inj1 h; exact ca_XDLb
            · refine aSk ?_; refine aRg ?_; intro _; refine dr_XDLb ?_; refine ⟨(k33, (IntKind.i64.wrap (x5.2 + 1))), h, ltS m6, ?_⟩; exact ca_XDLb
    · rintro _ ho; have ho := ho.symm; subst ho; intro _; replace h := (osum_l hK4); refine aSR ?_; intro _; refine dr_XDLb ?_; refine aRt ?_; intro _; obtain rfl := inj1 h; exact ca_XDLb
def M_r10_SameAtoms_L1 (a0 : List GAtom) (a1 : List GAtom) (g : Nat) : Nat → Int → Option (Bool)
  | 0, _ => none
  | k9 + 1, v8 =>
    sel (decide (v8 < ((a0.map cGAtom).length : Int)))
     (ix a0 v8 (fun y10 =>
       ix a1 v8 (fun y11 =>
        ob1 (M_r10_Compare g y10 y11) (fun z12 =>
         sel (z12 != 0)
          (some false)
          (M_r10_SameAtoms_L1 a0 a1 g k9 (IntKind.i64.wrap (v8 + 1)))))))
     (some true)
def M_r10_SameAtoms (g : Nat) (a0 : List GAtom) (a1 : List GAtom) : Option (Bool) :=
  sel (((a0.map cGAtom).length : Int) != ((a1.map cGAtom).length : Int))
   (some false)
   (M_r10_SameAtoms_L1 a0 a1 g g 0)
theorem A_r10_SameAtoms (g : Nat) (a0 : List GAtom) (a1 : List GAtom) {r1 : Bool} (h : M_r10_SameAtoms g a0 a1 = some r1) : ACall cx 18 [.sl 2 (a0.map cGAtom), .sl 2 (a1.map cGAtom)] (.c (.bool r1)) := by
  refine aOf Tryd.func18 rfl (by decide) rfl (Nat.le_of_ble_eq_true rfl) ?_; intro _; unfold M_r10_SameAtoms at h; refine aSR ?_; intro _; refine dr_XDLb ?_; refine aSq ?_; refine aSR ?_; intro _; refine dr_XDLb ?_; refine aCd ?_; intro _; refine spl h (fun c1 h => ?_) (fun c1 h => ?_)
  · refine aSR ?_; intro _; refine dr_XDLb ?_; refine aRt ?_; intro _; obtain rfl := inj1 h; exact ca_XDLb
  · refine aSk ?_; refine aSq ?_; refine aSR ?_; intro _; refine dr_XDLb ?_; refine aBk ?_; refine awp_loop (α := Nat × Int) (fun x => mkS 27 [(0, .sl 2 (a0.map cGAtom)), (1, .sl 2 (a1.map cGAtom)), (5, .c (.int .i64 x.2))] []) (fun x => M_r10_SameAtoms_L1 a0 a1 g x.1 x.2 = some r1) (fun x => x.1) (g, 0) h ?_ ?_
    · exact ca_XDLb
    · intro x2 h; intro _; obtain ⟨k9, m3, h⟩ := succ_of (f := fun n => M_r10_SameAtoms_L1 a0 a1 g n x2.2) rfl h; replace h : M_r10_SameAtoms_L1 a0 a1 g (k9 + 1) x2.2 = some r1 := h; rw [M_r10_SameAtoms_L1] at h; refine aSq ?_; refine aSR ?_; intro _; refine dr_XDLb ?_; refine aCd ?_; intro _; refine spl h (fun c4 h => ?_) (fun c4 h => ?_)
      · refine aSk ?_; refine aSq ?_; refine aBk ?_; refine aSR ?_; intro _; obtain ⟨y10, w5, q6, h⟩ := ix_ok h; refine Exists.intro (cGAtom y10) (And.intro (map_at' w5) ?_); intro _; obtain ⟨y11, w7, q8, h⟩ := ix_ok h; refine Exists.intro (cGAtom y11) (And.intro (map_at' w7) ?_); intro _; obtain ⟨z12, u9, h⟩ := ob1_ok h; refine cl_XDLb rfl (A_r10_Compare g y10 y11 u9) ?_; intro _; refine pr_XDLb ?_; refine pr_XDLb ?_; refine dr_XDLb ?_; refine aCd ?_; intro _; refine spl h (fun c10 h => ?_) (fun c10 h => ?_)
        · refine aSR ?_; intro _; refine dr_XDLb ?_; refine aRt ?_; intro _; obtain rfl := inj1 h; exact ca_XDLb
        · refine aSk ?_; refine aRg ?_; intro _; refine dr_XDLb ?_; refine ⟨(k9, (IntKind.i64.wrap (x2.2 + 1))), h, ltS m3, ?_⟩; exact ca_XDLb
      · refine aEx ?_; refine aSR ?_; intro _; refine dr_XDLb ?_; refine aRt ?_; intro _; obtain rfl := inj1 h; exact ca_XDLb
end Go.Proofs.YtflgpccacloadaaDoor.Am
/- Plain law: the reference's CheckRule. -/
namespace Go.Proofs.YtflgpccacloadaaDoor.Am
open Go.RowKit
theorem rvar_eq (s : ByteArray) : M_r16_Variable s = some (isV s) := by
  unfold M_r16_Variable isV
  rw [sel_dec, toList_bl, toList_bl, bl_extract]
  have hl := bl_len s
  obtain ⟨⟨l⟩⟩ := s
  have hbl : bl (⟨⟨l⟩⟩ : ByteArray) = l := rfl
  rw [hbl] at hl ⊢
  rw [← hl]
  cases l with
  | nil => rfl
  | cons c q =>
    rw [if_pos (by simp)]
    refine grd_mk (by simp) ?_
    have e1 : (byt (⟨⟨c :: q⟩⟩ : ByteArray) 0) = (c.toNat : Int) := rfl
    rw [e1, beq_int]
    have e2 : decide (1 ≤ (c :: q).length) = true := by simp
    have e3 : bl (⟨#[63]⟩ : ByteArray) = [63] := rfl
    rw [e2, e3]
    simp only [List.drop_zero, Nat.sub_zero, List.take_succ_cons, List.take_zero, Bool.true_and]
    by_cases e : c = 63
    · subst e; rfl
    · have : ¬ ((c.toNat : Int) = 63) := fun q => e (UInt8.toNat_inj.1 (by simpa using Int.ofNat.inj q))
      rw [decide_eq_false this]
      simp [e]
theorem rhas_loop (l : List ByteArray) (s : ByteArray) (hl : l.length ≤ 4611686018427387904) : ∀ (k i : Nat), l.length + 1 ≤ i + k → i ≤ l.length → M_r16_has_L1 l s k (i : Int) = some (decide (s ∈ l.drop i)) := by
  intro k
  induction k with
  | zero => intro i h1 h2; omega
  | succ k ih =>
    intro i h1 h2
    rw [M_r16_has_L1]
    by_cases h : i < l.length
    · have hy := List.getElem?_eq_getElem h
      rw [show decide ((i : Int) < ((l.map cS).length : Int)) = true by simp; omega]
      show ix l (i : Int) _ = _
      rw [ix_at hy, beq_bl, sel_dec, dropC hy]
      by_cases e : l[i] = s
      · rw [if_pos e]
        exact congrArg some (decide_eq_true (List.mem_cons.2 (.inl e.symm))).symm
      · rw [if_neg e, wrap_eq (by omega) (by omega)]
        have := ih (i + 1) (by omega) (by omega)
        rw [show ((i + 1 : Nat) : Int) = (i : Int) + 1 from rfl] at this
        rw [this]
        refine congrArg some (decide_eq_decide.2 ⟨fun q => List.mem_cons_of_mem _ q, fun q => ?_⟩)
        rcases List.mem_cons.1 q with q | q
        · exact absurd q.symm e
        · exact q
    · rw [show decide ((i : Int) < ((l.map cS).length : Int)) = false by simp; omega]
      rw [List.drop_of_length_le (by omega)]
      rfl
theorem rhas_eq (g : Nat) (l : List ByteArray) (s : ByteArray) (hl : l.length ≤ 4611686018427387904) (hg : l.length < g) : M_r16_has g l s = some (decide (s ∈ l)) := by
  unfold M_r16_has
  have := rhas_loop l s hl g 0 (by omega) (Nat.zero_le _)
  rw [List.drop_zero] at this
  exact this
theorem rvarL1 (body : List GAtom) (g v : Nat) (a : GAtom) (ha : body[v]? = some a) (hA : a.Args.length ≤ 4611686018427387904) : ∀ (k i : Nat) (out : List ByteArray), a.Args.length + 1 ≤ i + k → i ≤ a.Args.length → (out.length + (a.Args.length - i)) * 16 ≤ 140737488355328 → out.length + (a.Args.length - i) < g →
    M_r16_Variables_L1 body g (v : Int) k (i : Int) out = some ((a.Args.drop i).foldl addV out) := by
  intro k
  induction k with
  | zero => intro i out h1 h2; omega
  | succ k ih =>
    intro i out h1 h2 h3 h4
    rw [M_r16_Variables_L1, ix_at ha]
    by_cases h : i < a.Args.length
    · have hy := List.getElem?_eq_getElem h
      rw [show decide ((i : Int) < ((a.Args.map cS).length : Int)) = true by simp; omega]
      show ix body (v : Int) _ = _
      rw [ix_at ha, ix_at hy, rvar_eq, ob1_some, dropC hy, List.foldl_cons, wrap_eq (by omega) (by omega)]
      unfold addV
      cases hv : isV a.Args[i] with
      | false =>
        rw [if_neg (by decide)]
        exact ih (i + 1) out (by omega) (by omega) (by omega) (by omega)
      | true =>
        rw [if_pos rfl]
        refine grd_mk (by omega) ?_
        rw [rhas_eq g out _ (by omega) (by omega), ob1_some, sel_not, sel_dec]
        by_cases e : a.Args[i] ∈ out
        · rw [if_pos e, if_pos e]
          exact ih (i + 1) out (by omega) (by omega) (by omega) (by omega)
        · rw [if_neg e, if_neg e]
          exact grd_mk (by omega) (ih (i + 1) (out ++ [a.Args[i]]) (by omega) (by omega) (by simp; omega) (by simp; omega))
    · rw [show decide ((i : Int) < ((a.Args.map cS).length : Int)) = false by simp; omega]
      rw [List.drop_of_length_le (by omega)]
      rfl
theorem rvarL2 (body : List GAtom) (g : Nat) (hb : body.length ≤ 4611686018427387904) : ∀ (k i : Nat) (out : List ByteArray), body.length + 1 ≤ i + k → i ≤ body.length → (out.length + ((body.drop i).flatMap (·.Args)).length) * 16 ≤ 140737488355328 → out.length + ((body.drop i).flatMap (·.Args)).length < g →
    M_r16_Variables_L2 body g k (i : Int) out = some (((body.drop i).flatMap (·.Args)).foldl addV out) := by
  intro k
  induction k with
  | zero => intro i out h1 h2; omega
  | succ k ih =>
    intro i out h1 h2 h3 h4
    rw [M_r16_Variables_L2]
    by_cases h : i < body.length
    · have hy := List.getElem?_eq_getElem h
      rw [show decide ((i : Int) < ((body.map cGAtom).length : Int)) = true by simp; omega]
      rw [dropC hy, List.flatMap_cons, List.length_append] at h3 h4
      have h6 := addV_len body[i].Args out
      have h5 := rvarL1 body g i body[i] hy (by omega) g 0 out (by omega) (Nat.zero_le _) (by omega) (by omega)
      rw [List.drop_zero, show ((0 : Nat) : Int) = 0 from rfl] at h5
      show ob1 (M_r16_Variables_L1 body g (i : Int) g 0 out) _ = _
      rw [h5, ob1_some, wrap_eq (by omega) (by omega), dropC hy, List.flatMap_cons, List.foldl_append]
      exact ih (i + 1) _ (by omega) (by omega) (by omega) (by omega)
    · rw [show decide ((i : Int) < ((body.map cGAtom).length : Int)) = false by simp; omega]
      rw [List.drop_of_length_le (by omega)]
      exact grd_mk (by omega) rfl
theorem rvars_eq (body : List GAtom) (g : Nat) (hb : body.length < g) (hb2 : body.length ≤ 4611686018427387904) (ht : (body.flatMap (·.Args)).length * 16 ≤ 140737488355328) (hg : (body.flatMap (·.Args)).length < g) : M_r16_Variables g body = some (vars body) := by
  unfold M_r16_Variables
  have := rvarL2 body g hb2 g 0 [] (by omega) (Nat.zero_le _) (by rw [List.drop_zero]; simpa using ht) (by rw [List.drop_zero]; simpa using hg)
  rw [List.drop_zero] at this
  exact this
end Go.Proofs.YtflgpccacloadaaDoor.Am
/- Plain law: Solve as a loop of rounds. -/
namespace Go.Proofs.YtflgpccacloadaaDoor.Am
open Go.RowKit
def nextS (rules : List GRule) (S : GSet) : GSet := setA (S ++ allH S rules)
theorem mem_next {rules : List GRule} {S : GSet} {z : GAtom} : z ∈ nextS rules S ↔ z ∈ S ∨ z ∈ allH S rules := by
  unfold nextS
  rw [(setA_spec _).2.1, List.mem_append]
theorem strA_nodup {l : List GAtom} (hl : StrA l) : l.Nodup := hl.imp (fun {x y} hxy e => by rw [e, atomC_cmp.self] at hxy; omega)
theorem nodup_sub {α : Type} [DecidableEq α] {a b : List α} (ha : a.Nodup) (hs : ∀ x ∈ a, x ∈ b) : a.length ≤ b.length := nodupL a b ha hs
theorem next_ge {rules : List GRule} {S : GSet} (hS : StrA S) : S.length ≤ (nextS rules S).length := nodup_sub (strA_nodup hS) (fun x hx => mem_next.2 (.inl hx))
/-- a round that adds nothing -/
theorem next_fix {rules : List GRule} {S : GSet} (hS : StrA S) (h : (nextS rules S).length = S.length) : nextS rules S = S := by
  refine strA_unique (setA_spec _).1 hS (fun z => ⟨fun hz => ?_, fun hz => mem_next.2 (.inl hz)⟩)
  refine Classical.byContradiction fun hn => ?_
  have : (z :: S).length ≤ (nextS rules S).length := nodup_sub (List.nodup_cons.2 ⟨hn, strA_nodup hS⟩) (fun x hx => by
    rcases List.mem_cons.1 hx with e | e
    · rw [e]; exact hz
    · exact mem_next.2 (.inl e))
  simp at this
  omega
/-- what a round asks -/
structure RndOk (rules : List GRule) (S : GSet) : Prop where
  rule : ∀ r ∈ rules, RuleOk S r
  args : ∀ a ∈ S, a.Args.length * 16 ≤ 140737488355328
  cnt : (allH S rules).length ≤ 1048576
def runS (rules : List GRule) : Nat → GSet → List GAtom × Er
  | 0, _ => ([], .nil)
  | k + 1, S => if 4096 < (nextS rules S).length then ([], .no 5) else if (nextS rules S).length = S.length then (S, .nil) else runS rules k (nextS rules S)
theorem run_eq (rules : List GRule) (g : Nat) (Inv : GSet → Prop) (hI : ∀ S, Inv S → RndOk rules S) (hN : ∀ S, Inv S → (nextS rules S).length ≤ 4096 → Inv (nextS rules S)) (hb : ∀ r ∈ rules, r.Body.length < g) (hn : rules.length ≤ 4611686018427387904) (hg : 3000000 < g) :
    ∀ (k : Nat) (S : GSet), Inv S → StrA S → S.length ≤ 4096 → 4097 ≤ k + S.length → M_datalog_Solve_L2 rules g k S = some (runS rules k S) := by
  intro k
  induction k with
  | zero => intro S h1 h2 h3 h4; omega
  | succ k ih =>
    intro S h1 h2 h3 h4
    obtain ⟨r1, r2, r3⟩ := hI S h1
    rw [M_datalog_Solve_L2, round_eq g S rules r1 (by omega) r2 hb hn r3 hg]
    show sel _ _ _ = _
    rw [sel_dec, runS]
    have hge := next_ge (rules := rules) h2
    by_cases e1 : 4096 < (nextS rules S).length
    · rw [if_pos e1, if_pos (by rw [List.length_map]; exact Int.ofNat_lt.2 e1)]
    · rw [if_neg e1, if_neg (by rw [List.length_map]; exact fun q => e1 (Int.ofNat_lt.1 q)), beq_int, sel_dec]
      by_cases e2 : (nextS rules S).length = S.length
      · rw [if_pos e2, if_pos (by rw [List.length_map, List.length_map]; exact congrArg Int.ofNat e2)]
      · rw [if_neg e2, if_neg (by rw [List.length_map, List.length_map]; exact fun q => e2 (Int.ofNat.inj q))]
        exact ih (nextS rules S) (hN S h1 (by omega)) (setA_spec _).1 (by omega) (by omega)
/-- what Solve returns -/
def solveS (g : Nat) (facts : List GAtom) (rules : List GRule) : List GAtom × Er :=
  match firstE rules with
  | .no e => ([], .no e)
  | .nil => if facts.any badF = true then ([], .no 2) else if 1024 < rules.length then ([], .no 5) else if 4096 < (setA facts).length then ([], .no 5) else runS rules g (setA facts)
theorem solve_eq (g : Nat) (facts : List GAtom) (rules : List GRule) (hck : ∀ r ∈ rules, CkOk r) (hf : MadeOk facts) (hn : rules.length ≤ 4611686018427387904) (hb : ∀ r ∈ rules, r.Body.length < g) (hg : 3000000 < g) (hfl : facts.length < g)
    (Inv : GSet → Prop) (h0 : firstE rules = .nil → facts.any badF = false → rules.length ≤ 1024 → Inv (setA facts)) (hI : ∀ S, Inv S → RndOk rules S) (hN : ∀ S, Inv S → (nextS rules S).length ≤ 4096 → Inv (nextS rules S)) :
    M_datalog_Solve g facts rules = some (solveS g facts rules) := by
  unfold M_datalog_Solve
  have hf2 := hf.2
  rw [show (((rules.map cGRule).length : Int)).toNat + 1 = rules.length + 1 by simp]
  have h1 := slvL1 rules hck hn (rules.length + 1) 0 (by omega) (Nat.zero_le _)
  rw [List.drop_zero, show ((0 : Nat) : Int) = 0 from rfl] at h1
  rw [h1, ob1_some]
  unfold solveS
  cases he : firstE rules with
  | no e => rfl
  | nil =>
    show ob1 (M_s_ContainsFunc_Atom facts M_datalog_Solve_1) _ = _
    rw [cfA_eq facts _ badF (fun x hx => slv1_eq x (by have := hf.1 x hx; omega)) (by omega), ob1_some]
    cases hbf : facts.any badF with
    | true => rfl
    | false =>
      rw [if_neg (by decide), show ∀ (x y : Option (List GAtom × Er)), sel false x y = y from fun _ _ => rfl, sel_dec]
      by_cases e1 : 1024 < rules.length
      · rw [if_pos e1, if_pos (by rw [List.length_map]; omega)]
        try rfl
      · rw [if_neg e1, if_neg (by rw [List.length_map]; omega), made_eq g facts hf hfl, ob1_some]
        show sel _ _ _ = _
        rw [sel_dec]
        by_cases e2 : 4096 < (setA facts).length
        · rw [if_pos e2, if_pos (by rw [List.length_map]; exact Int.ofNat_lt.2 e2)]
        · rw [if_neg e2, if_neg (by rw [List.length_map]; exact fun q => e2 (Int.ofNat_lt.1 q))]
          exact run_eq rules g Inv hI hN hb hn hg g (setA facts) (h0 he hbf (by omega)) (setA_spec _).1 (by omega) (by omega)
end Go.Proofs.YtflgpccacloadaaDoor.Am
/- Plain law: the fixed example. -/
namespace Go.Proofs.YtflgpccacloadaaDoor.Am
open Go.RowKit
def isV' (s : ByteArray) : Bool := match bl s with | c :: _ => decide (c = 63) | [] => false
theorem isV_eq (s : ByteArray) : isV s = isV' s := by
  unfold isV isV'
  rw [toList_bl, toList_bl, bl_extract]
  have hl := bl_len s
  cases h : bl s with
  | nil => rw [h] at hl; simp at hl; rw [← hl]; rfl
  | cons c q =>
    rw [h] at hl
    rw [← hl]
    have e3 : bl (⟨#[63]⟩ : ByteArray) = [63] := rfl
    rw [e3]
    simp
    by_cases e : c = 63 <;> simp [e]
def tB' (b : Bd) (s : ByteArray) : Option ByteArray := if isV' s then getM b s else some s
theorem tB_eq (b : Bd) (s : ByteArray) : tB b s = tB' b s := by unfold tB tB'; rw [isV_eq]
def uni' : Bd → List ByteArray → List ByteArray → Bool × Bd
  | b, s :: r, c :: q =>
    match tB' b s with
    | none => uni' (setM b s c) r q
    | some x => if x = c then uni' b r q else (false, b)
  | b, _, _ => (true, b)
theorem uni_eq' : ∀ (xs cs : List ByteArray) (b : Bd) (fr : List ByteArray), (uni b fr xs cs).2 = uni' b xs cs
  | [], cs, b, fr => by rw [uni, uni'] <;> simp
  | s :: r, [], b, fr => by rw [uni, uni'] <;> simp
  | s :: r, c :: q, b, fr => by
    rw [uni, uni', tB_eq]
    cases tB' b s with
    | none => exact uni_eq' r q _ _
    | some x =>
      simp only []
      split
      · exact uni_eq' r q _ _
      · rfl
def dif' (b : Bd) (un : List (ByteArray × ByteArray)) : Bool := un.all (fun p => match tB' b p.1, tB' b p.2 with | some x, some y => decide (x ≠ y) | _, _ => true)
theorem dif_eq (b : Bd) (un : List (ByteArray × ByteArray)) : dif b un = dif' b un := by
  unfold dif dif'
  congr 1
  funext p
  unfold difP
  (rw [tB_eq, tB_eq]) <;> rfl
def sols' (S : GSet) (un : List (ByteArray × ByteArray)) : List GAtom → Bd → List Bd
  | [], b => if dif' b un then [b] else []
  | a :: r, b => if dif' b un then (S.filter (fun f => decide (keyF f = keyF a))).flatMap (fun f => if (uni' b a.Args f.Args).1 then sols' S un r (uni' b a.Args f.Args).2 else []) else []
theorem sols_eq' (S : GSet) (un : List (ByteArray × ByteArray)) : ∀ (body : List GAtom) (b : Bd), sols S un body b = sols' S un body b
  | [], b => by rw [sols, sols', dif_eq]
  | a :: r, b => by
    rw [sols, sols', dif_eq, grp_eq]
    congr 2
    funext f
    rw [← uni_eq' a.Args f.Args b [], sols_eq' S un r]
def hatom' (b : Bd) (h : GAtom) : GAtom := ⟨h.Name, h.Args.map (fun t => (tB' b t).getD (⟨#[]⟩ : ByteArray))⟩
theorem hatom_eq (b : Bd) (h : GAtom) : hatom b h = hatom' b h := by
  unfold hatom hatom'
  simp only [tB_eq]
theorem rheads_eq (S : GSet) (r : GRule) : rheads S r = (sols' S r.Unequal r.Body []).map (fun b => hatom' b r.Head) := by
  unfold rheads rsols
  rw [sols_eq']
  exact List.map_congr_left (fun b _ => hatom_eq b _)
/-- the example -/
def exE1 : GAtom := ⟨⟨#[101]⟩, [⟨#[97]⟩, ⟨#[98]⟩]⟩
def exE2 : GAtom := ⟨⟨#[101]⟩, [⟨#[98]⟩, ⟨#[99]⟩]⟩
def exX : GAtom := ⟨⟨#[114]⟩, [⟨#[97]⟩, ⟨#[99]⟩]⟩
def exR : GRule := { Head := ⟨⟨#[114]⟩, [⟨#[63, 120]⟩, ⟨#[63, 122]⟩]⟩, Body := [⟨⟨#[101]⟩, [⟨#[63, 120]⟩, ⟨#[63, 121]⟩]⟩, ⟨⟨#[101]⟩, [⟨#[63, 121]⟩, ⟨#[63, 122]⟩]⟩], Unequal := [] }
theorem exH0 : rheads [exE1, exE2] exR = [exX] := by
  rw [rheads_eq]
  decide +kernel
theorem exH1 : rheads [exE1, exE2, exX] exR = [exX] := by
  rw [rheads_eq]
  decide +kernel
theorem exS : StrA [exE1, exE2, exX] := by
  unfold StrA
  have h1 : atomC exE1 exE2 < 0 := by decide +kernel
  have h2 : atomC exE1 exX < 0 := by decide +kernel
  have h3 : atomC exE2 exX < 0 := by decide +kernel
  simp [h1, h2, h3]
theorem isV_fun : isV = isV' := funext isV_eq
theorem exCk : ckR exR = .nil := by
  unfold ckR vars addV badT
  rw [isV_fun]
  decide +kernel
theorem exF : [exE1, exE2].any badF = false := by
  unfold badF
  rw [isV_fun]
  decide +kernel
theorem exKey : KeyOk exX := by
  refine ⟨?_, by decide⟩
  rw [← bl_len]
  unfold atomKey exX
  rw [bl_fold, bl_append, bl_append, bl_ita]
  have h1 : (⟨#[114]⟩ : ByteArray).size = 1 := rfl
  have h2 : (⟨#[97]⟩ : ByteArray).size = 1 := rfl
  have h3 : (⟨#[99]⟩ : ByteArray).size = 1 := rfl
  simp only [encL, h1, h2, h3, dec_sm (show 1 < 10 by decide), List.flatMap_cons, List.flatMap_nil, List.length_append, List.length_cons, List.length_nil, bl_len]
  decide
theorem exAll (S : GSet) (h : rheads S exR = [exX]) : allH S [exR] = [exX] := by
  unfold allH
  rw [List.flatMap_cons, List.flatMap_nil, h]
  rfl
theorem exSet0 : setA [exE1, exE2] = [exE1, exE2] := by
  refine strA_unique (setA_spec _).1 ?_ (setA_spec _).2.1
  have := exS
  unfold StrA at this ⊢
  exact this.sublist (by simp)
theorem exN0 : nextS [exR] [exE1, exE2] = [exE1, exE2, exX] := by
  refine strA_unique (setA_spec _).1 exS (fun z => ?_)
  rw [mem_next, exAll _ exH0]
  simp [or_assoc]
theorem exN1 : nextS [exR] [exE1, exE2, exX] = [exE1, exE2, exX] := by
  refine strA_unique (setA_spec _).1 exS (fun z => ?_)
  rw [mem_next, exAll _ exH1]
  simp
  exact fun h => .inr (.inr h)
theorem exOk (S : GSet) (h : rheads S exR = [exX]) : RuleOk S exR := ⟨by decide, by decide, by decide, fun a ha => by
  rw [h] at ha
  rw [List.mem_singleton.1 ha]
  exact exKey⟩
theorem exRnd (S : GSet) (h : rheads S exR = [exX]) (hS : ∀ a ∈ S, a.Args.length * 16 ≤ 140737488355328) : RndOk [exR] S :=
  ⟨fun r hr => by rw [List.mem_singleton.1 hr]; exact exOk S h, hS, by rw [exAll S h]; decide⟩
theorem exSolve (g : Nat) (hg : 3000000 < g) : M_datalog_Solve g [exE1, exE2] [exR] = some ([exE1, exE2, exX], .nil) := by
  have h1 := solve_eq g [exE1, exE2] [exR] (fun r hr => by rw [List.mem_singleton.1 hr]; exact ⟨by decide, by decide, by decide⟩) ⟨by decide, by decide⟩ (by decide) (fun r hr => by rw [List.mem_singleton.1 hr]; show 2 < g; omega) hg (by show 2 < g; omega)
    (fun S => S = [exE1, exE2] ∨ S = [exE1, exE2, exX]) (fun _ _ _ => .inl exSet0)
    (fun S hS => by
      rcases hS with e | e
      · rw [e]; exact exRnd _ exH0 (by decide)
      · rw [e]; exact exRnd _ exH1 (by decide))
    (fun S hS _ => by
      rcases hS with e | e
      · rw [e]; exact .inr exN0
      · rw [e]; exact .inr exN1)
  rw [h1]
  unfold solveS
  have h2 : firstE [exR] = .nil := by rw [firstE, exCk]; rfl
  rw [h2]
  show some (if [exE1, exE2].any badF = true then _ else _) = _
  rw [exF, if_neg (by decide), if_neg (by decide), exSet0, if_neg (by decide)]
  obtain ⟨k, rfl⟩ : ∃ k, g = k + 2 := ⟨g - 2, by omega⟩
  rw [runS, exN0, if_neg (by decide), if_neg (by decide), runS, exN1, if_neg (by decide), if_pos rfl]
theorem texts_loop (a b : List ByteArray) : ∀ (k : Nat) (i : Int), M_b_Texts_L1 a b k i = M_s_Equal_string_L1 a b k i
  | 0, _ => rfl
  | k + 1, i => by
    rw [M_b_Texts_L1, M_s_Equal_string_L1]
    congr 1
    congr 1
    funext y
    congr 1
    funext z
    rw [texts_loop a b k]
theorem textsE (a b : List ByteArray) (ha : a.length ≤ 4611686018427387904) (hb : b.length ≤ 4611686018427387904) : M_b_Texts a b = some (decide (a = b)) := by
  rw [← eqS_eq a b ha hb]
  unfold M_b_Texts M_s_Equal_string
  rw [texts_loop]
theorem awake16 (g : Nat) (hg : 3000000 < g) : M_l16_awake g = some true := by
  unfold M_l16_awake
  show ob2 (M_datalog_Solve g [exE1, exE2] [exR]) _ = _
  rw [exSolve g hg, ob2_some]
  have e : ((([exE1, exE2, exX].map cGAtom).length : Int) == 3) = true := by decide
  show sel ((([exE1, exE2, exX].map cGAtom).length : Int) == 3) (ix _ _ _) (some false) = some true
  rw [e]
  show ix [exE1, exE2, exX] 2 _ = _
  rw [show (2 : Int) = ((2 : Nat) : Int) from rfl, ix_at (show [exE1, exE2, exX][2]? = some exX from rfl), beq_bl]
  rw [show decide (exX.Name = (⟨#[114]⟩ : ByteArray)) = true by decide +kernel]
  show ix [exE1, exE2, exX] 2 _ = _
  rw [show (2 : Int) = ((2 : Nat) : Int) from rfl, ix_at (show [exE1, exE2, exX][2]? = some exX from rfl), textsE _ _ (by decide) (by decide), ob1_some]
  decide +kernel
end Go.Proofs.YtflgpccacloadaaDoor.Am
/- Models printed by my decompiler, and the proofs that the code computes them. -/
namespace Go.Proofs.YtflgpccacloadaaDoor.Am
open Go.RowKit
end Go.Proofs.YtflgpccacloadaaDoor.Am
/- Plain law: DatalogRules. -/
namespace Go.Proofs.YtflgpccacloadaaDoor.Am
open Go.RowKit
end Go.Proofs.YtflgpccacloadaaDoor.Am
/- Readers of atoms and rules, with a bound on their bulk. -/
namespace Go.Proofs.YtflgpccacloadaaDoor.Am
open Go.RowKit Go.ChangeShapes Go.WideShapes Go.Deep Go.Joins
section
variable {H : Type} {enc : TypeId × Value → H} {w : World} {base : Nat} {spare : Nat → Bool} {held : Bool}
set_option maxRecDepth 100000 in
theorem bStrs : OpensB enc Tryd.prog w base spare held 22 (fun l : List ByteArray => [.sl 1 (l.map cS)]) (fun l => l.length * 16 ≤ 140737488355328 ∧ ∀ s ∈ l, s.size ≤ 140737488355328) (fun l => (l.map (fun s : ByteArray => s.size + 1)).sum + 1) :=
  opensB_slice Tryd.underlying22 (by kernel_rfl) (by kernel_rfl) (by decide) (by decide) (opensB_str Tryd.underlying9)
/-- how much an atom, a rule weigh -/
def wA (a : GAtom) : Nat := (a.Name.size + 1) + ((a.Args.map (fun s : ByteArray => s.size + 1)).sum + 1)
def wAs (l : List GAtom) : Nat := (l.map wA).sum + 1
def wUn (l : List (ByteArray × ByteArray)) : Nat := (l.map (fun p => p.1.size + p.2.size + 2)).sum + 1
def wR (r : GRule) : Nat := wA r.Head + (wAs r.Body + wUn r.Unequal)
/-- a struct argument -/
theorem arg_structB {P : Program} {t : TypeId} {fs : Array Field} {α : Type} {en : α → List AV} {R : α → Prop} {wt : α → Nat} {r : Reach} {b0 : Nat} {v : Value} {d : DataW H} {p : List MemPlace} (ht : P.underlying t = some (.struct fs)) (hv : Value.okWide P w r b0 t v) (ho : OpensB enc P w base spare held t en R wt) (h : DataW.Trod enc P w base spare held t v d p) (hs : Sized P t d) :
    ∃ a, R a ∧ wt a ≤ Rows.uptoBulk d ∧ RV w nov mZ (.agg (en a)) v := by
  obtain ⟨cs, rfl, hsz⟩ := okWide_struct ht hv
  obtain ⟨fuel, hf⟩ := h
  obtain ⟨a, ha, hw, hc⟩ := ho fuel _ _ hf hs
  exact ⟨a, ha, hw, agg_rv hc⟩
end
theorem wAs_args : ∀ l : List GAtom, (l.flatMap (·.Args)).length + l.length ≤ wAs l
  | [] => by simp [wAs]
  | a :: r => by
    have h1 := wAs_args r
    have h2 : a.Args.length + 1 ≤ wA a := by
      have : ∀ l : List ByteArray, l.length ≤ (l.map (fun s : ByteArray => s.size + 1)).sum := by
        intro l
        induction l with
        | nil => simp
        | cons x r ih => simp only [List.map_cons, List.sum_cons, List.length_cons]; omega
      have := this a.Args
      unfold wA
      omega
    unfold wAs at h1 ⊢
    simp only [List.flatMap_cons, List.length_append, List.map_cons, List.sum_cons, List.length_cons]
    omega
end Go.Proofs.YtflgpccacloadaaDoor.Am
/- Plain law: what the search finds, said by assignments. -/
namespace Go.Proofs.YtflgpccacloadaaDoor.Am
open Go.RowKit
abbrev Asg := ByteArray → ByteArray
def trm (σ : Asg) (s : ByteArray) : ByteArray := if isV s = true then σ s else s
def inst (σ : Asg) (a : GAtom) : GAtom := ⟨a.Name, a.Args.map (trm σ)⟩
/-- an assignment goes on from a binding -/
def Agr (b : Bd) (σ : Asg) : Prop := ∀ s v, getM b s = some v → σ s = v
theorem getM_setM {b : Bd} {k v s : ByteArray} : getM (setM b k v) s = if k = s then some v else getM b s := by
  induction b with
  | nil => rw [setM, getM]; split <;> simp [getM] <;> assumption
  | cons y r ih =>
    obtain ⟨x, u⟩ := y
    rw [setM]
    by_cases e : x = k
    · rw [if_pos e, getM, getM]
      by_cases e2 : k = s
      · rw [if_pos e2, if_pos e2]
      · rw [if_neg e2, if_neg e2, if_neg (fun e3 => e2 (e ▸ e3))]
    · rw [if_neg e, getM, getM, ih]
      by_cases e2 : x = s
      · rw [if_pos e2, if_pos e2, if_neg (fun e3 => e (e2.trans e3.symm))]
      · rw [if_neg e2, if_neg e2]
theorem tB_none {b : Bd} {s : ByteArray} (h : tB b s = none) : isV s = true ∧ getM b s = none := by
  unfold tB at h
  split at h
  · exact ⟨by assumption, h⟩
  · cases h
theorem agr_set {b : Bd} {s c : ByteArray} {σ : Asg} (h : getM b s = none) : Agr (setM b s c) σ ↔ Agr b σ ∧ σ s = c := by
  constructor
  · intro ha
    refine ⟨fun t v ht => ha t v ?_, ha s c ?_⟩
    · rw [getM_setM, if_neg (fun e => by rw [e, ht] at h; cases h)]; exact ht
    · rw [getM_setM, if_pos rfl]
  · rintro ⟨h1, h2⟩ t v ht
    rw [getM_setM] at ht
    split at ht
    · rename_i e; rw [← e, h2]; exact Option.some.inj ht
    · exact h1 t v ht
theorem tB_agr {b : Bd} {s x : ByteArray} {σ : Asg} (ha : Agr b σ) (h : tB b s = some x) : trm σ s = x := by
  unfold tB at h
  unfold trm
  split at h
  · rename_i e; rw [if_pos e]; exact ha _ _ h
  · rename_i e; rw [if_neg e]; exact Option.some.inj h
theorem uni_sound {σ : Asg} : ∀ (xs cs : List ByteArray) (b : Bd) (fr : List ByteArray), xs.length = cs.length → (uni b fr xs cs).2.1 = true → Agr (uni b fr xs cs).2.2 σ → xs.map (trm σ) = cs ∧ Agr b σ
  | [], [], b, fr, _, _, h => ⟨rfl, by rw [uni] at h; exact h; simp⟩
  | s :: r, [], b, fr, hl, _, _ => by simp at hl
  | [], c :: q, b, fr, hl, _, _ => by simp at hl
  | s :: r, c :: q, b, fr, hl, h1, h2 => by
    rw [uni] at h1 h2
    cases ht : tB b s with
    | none =>
      rw [ht] at h1 h2
      obtain ⟨hv, hg⟩ := tB_none ht
      obtain ⟨h3, h4⟩ := uni_sound r q _ _ (by simpa using hl) h1 h2
      obtain ⟨h5, h6⟩ := (agr_set hg).1 h4
      exact ⟨by rw [List.map_cons, h3, trm, if_pos hv, h6], h5⟩
    | some x =>
      rw [ht] at h1 h2
      simp only [] at h1 h2
      by_cases e : x = c
      · rw [if_pos e] at h1 h2
        obtain ⟨h3, h4⟩ := uni_sound r q _ _ (by simpa using hl) h1 h2
        exact ⟨by rw [List.map_cons, h3, tB_agr h4 ht, e], h4⟩
      · rw [if_neg e] at h1; cases h1
theorem uni_comp {σ : Asg} : ∀ (xs cs : List ByteArray) (b : Bd) (fr : List ByteArray), xs.map (trm σ) = cs → Agr b σ → (uni b fr xs cs).2.1 = true ∧ Agr (uni b fr xs cs).2.2 σ
  | [], [], b, fr, _, h => by rw [uni]; exact ⟨rfl, h⟩; simp
  | s :: r, [], b, fr, hl, _ => by simp at hl
  | [], c :: q, b, fr, hl, _ => by simp at hl
  | s :: r, c :: q, b, fr, hl, ha => by
    obtain ⟨h1, h2⟩ := List.cons.inj hl
    rw [uni]
    cases ht : tB b s with
    | none =>
      obtain ⟨hv, hg⟩ := tB_none ht
      refine uni_comp r q _ _ h2 ((agr_set hg).2 ⟨ha, ?_⟩)
      rw [← h1, trm, if_pos hv]
    | some x =>
      simp only []
      rw [if_pos (by rw [← h1, tB_agr ha ht])]
      exact uni_comp r q _ _ h2 ha
theorem getM_key {b : Bd} {s : ByteArray} : getM b s = none ↔ s ∉ b.map Prod.fst := by
  induction b with
  | nil => simp [getM]
  | cons y r ih =>
    obtain ⟨x, u⟩ := y
    rw [getM, List.map_cons, List.mem_cons]
    by_cases e : x = s
    · rw [if_pos e]; simp [e]
    · rw [if_neg e, ih]
      simp [Ne.symm e]
theorem set_keys {b : Bd} {s c : ByteArray} (h : getM b s = none) : (setM b s c).map Prod.fst = b.map Prod.fst ++ [s] := by
  rw [setM_none (fun p hp e => (getM_key.1 h) (List.mem_map.2 ⟨p, hp, e⟩)), List.map_append]
  rfl
theorem uni_keys : ∀ (xs cs : List ByteArray) (b : Bd) (fr : List ByteArray), xs.length = cs.length → (uni b fr xs cs).2.1 = true → (uni b fr xs cs).2.2.map Prod.fst = xs.foldl addV (b.map Prod.fst)
  | [], [], b, fr, _, _ => by rw [uni]; rfl; simp
  | s :: r, [], b, fr, hl, _ => by simp at hl
  | [], c :: q, b, fr, hl, _ => by simp at hl
  | s :: r, c :: q, b, fr, hl, h1 => by
    rw [uni] at h1 ⊢
    rw [List.foldl_cons]
    cases ht : tB b s with
    | none =>
      rw [ht] at h1
      obtain ⟨hv, hg⟩ := tB_none ht
      have := uni_keys r q _ _ (by simpa using hl) h1
      refine this.trans ?_
      rw [set_keys hg, addV, if_pos hv, if_neg (getM_key.1 hg)]
    | some x =>
      rw [ht] at h1
      simp only [] at h1 ⊢
      by_cases e : x = c
      · rw [if_pos e] at h1 ⊢
        refine (uni_keys r q _ _ (by simpa using hl) h1).trans ?_
        unfold tB at ht
        split at ht
        · rename_i hv
          rw [addV, if_pos hv, if_pos]
          refine Classical.byContradiction fun hn => ?_
          rw [getM_key.2 hn] at ht
          cases ht
        · rename_i hv
          rw [addV, if_neg hv]
      · rw [if_neg e] at h1; cases h1
theorem dif_agr {b : Bd} {un : List (ByteArray × ByteArray)} {σ : Asg} (ha : Agr b σ) (h : ∀ p ∈ un, trm σ p.1 ≠ trm σ p.2) : dif b un = true := by
  refine List.all_eq_true.2 fun p hp => ?_
  unfold difP
  split
  · rename_i x y h1 h2
    rw [← tB_agr ha h1, ← tB_agr ha h2]
    exact decide_eq_true (h p hp)
  · rfl
theorem sols_comp {S : GSet} {un : List (ByteArray × ByteArray)} {σ : Asg} (hu : ∀ p ∈ un, trm σ p.1 ≠ trm σ p.2) : ∀ (body : List GAtom) (b : Bd), Agr b σ → (∀ a ∈ body, inst σ a ∈ S) → ∃ b' ∈ sols S un body b, Agr b' σ
  | [], b, ha, _ => by
    rw [sols, if_pos (dif_agr ha hu)]
    exact ⟨b, List.mem_singleton.2 rfl, ha⟩
  | a :: r, b, ha, h => by
    rw [sols, if_pos (dif_agr ha hu)]
    have h1 := h a (List.mem_cons_self ..)
    obtain ⟨h2, h3⟩ := uni_comp a.Args (inst σ a).Args b [] rfl ha
    obtain ⟨b', h4, h5⟩ := sols_comp hu r _ h3 (fun x hx => h x (List.mem_cons_of_mem _ hx))
    refine ⟨b', List.mem_flatMap.2 ⟨inst σ a, grp_mem.2 ⟨h1, rfl, by simp [inst]⟩, ?_⟩, h5⟩
    rw [if_pos h2]
    exact h4
theorem sols_sound {S : GSet} {un : List (ByteArray × ByteArray)} : ∀ (body : List GAtom) (b b' : Bd), b' ∈ sols S un body b →
    dif b' un = true ∧ b'.map Prod.fst = (body.flatMap (·.Args)).foldl addV (b.map Prod.fst) ∧ ∀ σ, Agr b' σ → Agr b σ ∧ ∀ a ∈ body, inst σ a ∈ S
  | [], b, b', h => by
    rw [sols] at h
    split at h
    · rename_i hd
      rw [List.mem_singleton.1 h]
      exact ⟨hd, rfl, fun σ hs => ⟨hs, fun a ha => by cases ha⟩⟩
    · cases h
  | a :: r, b, b', h => by
    rw [sols] at h
    split at h
    · obtain ⟨f, hf, h⟩ := List.mem_flatMap.1 h
      obtain ⟨g1, g2, g3⟩ := grp_mem.1 hf
      split at h
      · rename_i hu
        obtain ⟨h1, h2, h3⟩ := sols_sound r _ b' h
        refine ⟨h1, ?_, fun σ hs => ?_⟩
        · rw [h2, uni_keys _ _ _ _ g3.symm hu, List.flatMap_cons, List.foldl_append]
        · obtain ⟨h4, h5⟩ := h3 σ hs
          obtain ⟨h6, h7⟩ := uni_sound _ _ _ _ g3.symm hu h4
          refine ⟨h7, fun x hx => ?_⟩
          rcases List.mem_cons.1 hx with e | e
          · subst e
            have : inst σ x = f := by
              obtain ⟨n, q⟩ := f
              unfold inst
              simp only at g2 h6
              rw [h6, g2]
            rw [this]; exact g1
          · exact h5 x e
      · cases h
    · cases h
/-- the assignment of a binding -/
def asg (b : Bd) : Asg := fun s => (getM b s).getD (⟨#[]⟩ : ByteArray)
theorem agr_asg (b : Bd) : Agr b (asg b) := fun s v h => by unfold asg; rw [h]; rfl
theorem tB_key {b : Bd} {s : ByteArray} (h : isV s = true → s ∈ b.map Prod.fst) : ∃ x, tB b s = some x := by
  unfold tB
  split
  · rename_i hv
    cases hg : getM b s with
    | none => exact absurd (h hv) (getM_key.1 hg)
    | some x => exact ⟨x, rfl⟩
  · exact ⟨s, rfl⟩
theorem hatom_agr {b : Bd} {h : GAtom} {σ : Asg} (ha : Agr b σ) (hk : ∀ s ∈ h.Args, isV s = true → s ∈ b.map Prod.fst) : hatom b h = inst σ h := by
  unfold hatom inst
  congr 1
  refine List.map_congr_left fun s hs => ?_
  obtain ⟨x, hx⟩ := tB_key (hk s hs)
  rw [hx, tB_agr ha hx]
  rfl
theorem dif_sound {b : Bd} {un : List (ByteArray × ByteArray)} {σ : Asg} (ha : Agr b σ) (hk : ∀ p ∈ un, (isV p.1 = true → p.1 ∈ b.map Prod.fst) ∧ (isV p.2 = true → p.2 ∈ b.map Prod.fst)) (h : dif b un = true) : ∀ p ∈ un, trm σ p.1 ≠ trm σ p.2 := by
  intro p hp
  have h1 := List.all_eq_true.1 h p hp
  obtain ⟨x, hx⟩ := tB_key (hk p hp).1
  obtain ⟨y, hy⟩ := tB_key (hk p hp).2
  unfold difP at h1
  rw [hx, hy] at h1
  rw [tB_agr ha hx, tB_agr ha hy]
  exact of_decide_eq_true h1
/-- a rule whose terms are known -/
structure Known (r : GRule) : Prop where
  head : ∀ s ∈ r.Head.Args, isV s = true → s ∈ vars r.Body
  un : ∀ p ∈ r.Unequal, (isV p.1 = true → p.1 ∈ vars r.Body) ∧ (isV p.2 = true → p.2 ∈ vars r.Body)
theorem known_of {r : GRule} (h : ckR r = .nil) : Known r := by
  unfold ckR at h
  split at h
  · cases h
  · rename_i hn
    have hn : ∀ s ∈ terms r, isV s = true → s ∈ vars r.Body := fun s hs hv => Classical.byContradiction fun q => hn (List.any_eq_true.2 ⟨s, hs, by unfold badT; rw [hv, decide_eq_false q]; rfl⟩)
    refine ⟨fun s hs => hn s (List.mem_append_left _ hs), fun p hp => ⟨hn _ (List.mem_append_right _ ?_), hn _ (List.mem_append_right _ ?_)⟩⟩
    · exact List.mem_flatMap.2 ⟨p, hp, by simp⟩
    · exact List.mem_flatMap.2 ⟨p, hp, by simp⟩
/-- an assignment that satisfies a rule's body -/
def Sat (S : GAtom → Prop) (r : GRule) (σ : Asg) : Prop := (∀ a ∈ r.Body, S (inst σ a)) ∧ ∀ p ∈ r.Unequal, trm σ p.1 ≠ trm σ p.2
theorem rheads_mem {S : GSet} {r : GRule} (hk : Known r) {z : GAtom} : z ∈ rheads S r ↔ ∃ σ, Sat (· ∈ S) r σ ∧ z = inst σ r.Head := by
  unfold rheads rsols
  rw [List.mem_map]
  constructor
  · rintro ⟨b, hb, rfl⟩
    obtain ⟨h1, h2, h3⟩ := sols_sound _ _ _ hb
    refine ⟨asg b, ⟨(h3 _ (agr_asg b)).2, dif_sound (agr_asg b) (fun p hp => ?_) h1⟩, hatom_agr (agr_asg b) (fun s hs => ?_)⟩
    · rw [h2]; exact hk.un p hp
    · rw [h2]; exact hk.head s hs
  · rintro ⟨σ, ⟨h1, h2⟩, rfl⟩
    obtain ⟨b, hb, ha⟩ := sols_comp h2 r.Body [] (fun s v h => by cases h) h1
    refine ⟨b, hb, hatom_agr ha (fun s hs => ?_)⟩
    rw [(sols_sound _ _ _ hb).2.1]
    exact hk.head s hs
theorem allH_mem {S : GSet} {rules : List GRule} (hk : ∀ r ∈ rules, Known r) {z : GAtom} : z ∈ allH S rules ↔ ∃ r ∈ rules, ∃ σ, Sat (· ∈ S) r σ ∧ z = inst σ r.Head := by
  unfold allH
  rw [List.mem_flatMap]
  constructor
  · rintro ⟨r, hr, h⟩; exact ⟨r, hr, (rheads_mem (hk r hr)).1 h⟩
  · rintro ⟨r, hr, h⟩; exact ⟨r, hr, (rheads_mem (hk r hr)).2 h⟩
end Go.Proofs.YtflgpccacloadaaDoor.Am
/- Plain law: how many bindings and heads there are. -/
namespace Go.Proofs.YtflgpccacloadaaDoor.Am
open Go.RowKit
def prodL (C : List ByteArray) : Nat → List (List ByteArray)
  | 0 => [[]]
  | n + 1 => C.flatMap (fun c => (prodL C n).map (c :: ·))
theorem prodL_len (C : List ByteArray) : ∀ n, (prodL C n).length = C.length ^ n
  | 0 => rfl
  | n + 1 => by
    have h := prodL_len C n
    rw [prodL, List.length_flatMap]
    have : (C.map fun c => ((prodL C n).map (c :: ·)).length).sum = C.length * (prodL C n).length := by
      generalize prodL C n = P
      induction C with
      | nil => simp
      | cons x r ih => 
        have e : ∀ l : List ByteArray, (l.map fun c => (P.map (c :: ·)).length).sum = l.length * P.length := by
          intro l
          induction l with
          | nil => simp
          | cons y q ih2 => rw [List.map_cons, List.sum_cons, ih2, List.length_map, List.length_cons, Nat.succ_mul]; omega
        exact e _
    rw [this, h, Nat.pow_succ, Nat.mul_comm]
theorem prodL_mem {C : List ByteArray} : ∀ {n : Nat} {l : List ByteArray}, l.length = n → (∀ x ∈ l, x ∈ C) → l ∈ prodL C n
  | 0, [], _, _ => List.mem_singleton.2 rfl
  | n + 1, x :: r, h, hc => by
    rw [prodL]
    exact List.mem_flatMap.2 ⟨x, hc x (List.mem_cons_self ..), List.mem_map.2 ⟨r, prodL_mem (by simpa using h) (fun y hy => hc y (List.mem_cons_of_mem _ hy)), rfl⟩⟩
  | 0, x :: r, h, _ => by simp at h
  | n + 1, [], h, _ => by simp at h
theorem nodup_flatMap {α β : Type} {f : α → List β} : ∀ {l : List α}, l.Nodup → (∀ x ∈ l, (f x).Nodup) → (∀ x ∈ l, ∀ y ∈ l, x ≠ y → ∀ z, z ∈ f x → z ∈ f y → False) → (l.flatMap f).Nodup
  | [], _, _, _ => List.nodup_nil
  | a :: r, hn, h1, h2 => by
    obtain ⟨ha, hr⟩ := List.nodup_cons.1 hn
    rw [List.flatMap_cons]
    refine List.nodup_append.2 ⟨h1 a (List.mem_cons_self ..), nodup_flatMap hr (fun x hx => h1 x (List.mem_cons_of_mem _ hx)) (fun x hx y hy => h2 x (List.mem_cons_of_mem _ hx) y (List.mem_cons_of_mem _ hy)), fun z hz w hw e => ?_⟩
    obtain ⟨x, hx, hw⟩ := List.mem_flatMap.1 hw
    exact h2 a (List.mem_cons_self ..) x (List.mem_cons_of_mem _ hx) (fun q => ha (q ▸ hx)) z hz (e ▸ hw)
theorem sols_nodup {S : GSet} (hS : S.Nodup) {un : List (ByteArray × ByteArray)} : ∀ (body : List GAtom) (b : Bd), (sols S un body b).Nodup
  | [], b => by
    rw [sols]
    split <;> simp
  | a :: r, b => by
    rw [sols]
    split
    · refine nodup_flatMap (by rw [grp_eq]; exact hS.filter _) (fun f _ => ?_) (fun f hf f' hf' hne z hz hz' => ?_)
      · split
        · exact sols_nodup hS r _
        · exact List.nodup_nil
      · obtain ⟨_, g2, g3⟩ := grp_mem.1 hf
        obtain ⟨_, g2', g3'⟩ := grp_mem.1 hf'
        split at hz
        · rename_i hu
          split at hz'
          · rename_i hu'
            have h1 := ((sols_sound r _ z hz).2.2 _ (agr_asg z)).1
            have h1' := ((sols_sound r _ z hz').2.2 _ (agr_asg z)).1
            have h2 := (uni_sound _ _ _ _ g3.symm hu h1).1
            have h2' := (uni_sound _ _ _ _ g3'.symm hu' h1').1
            refine hne ?_
            obtain ⟨n, x⟩ := f
            obtain ⟨n', x'⟩ := f'
            simp only at g2 g2' h2 h2'
            rw [g2, g2', ← h2, ← h2']
          · cases hz'
        · cases hz
    · exact List.nodup_nil
theorem uni_vals {C : List ByteArray} : ∀ (xs cs : List ByteArray) (b : Bd) (fr : List ByteArray), (∀ x ∈ cs, x ∈ C) → (∀ p ∈ b, p.2 ∈ C) → ∀ p ∈ (uni b fr xs cs).2.2, p.2 ∈ C
  | [], cs, b, fr, _, h => by rw [uni]; exact h; simp
  | s :: r, [], b, fr, _, h => by rw [uni]; exact h; simp
  | s :: r, c :: q, b, fr, hc, h => by
    rw [uni]
    cases ht : tB b s with
    | none =>
      refine uni_vals r q _ _ (fun x hx => hc x (List.mem_cons_of_mem _ hx)) (fun p hp => ?_)
      rw [setM_none (fun p hp e => (getM_key.1 (tB_none ht).2) (List.mem_map.2 ⟨p, hp, e⟩))] at hp
      rcases List.mem_append.1 hp with e | e
      · exact h p e
      · rw [List.mem_singleton.1 e]; exact hc c (List.mem_cons_self ..)
    | some x =>
      simp only []
      split
      · exact uni_vals r q _ _ (fun x hx => hc x (List.mem_cons_of_mem _ hx)) h
      · exact h
/-- a set over some constants -/
def Over (C : List ByteArray) (S : GSet) : Prop := ∀ a ∈ S, ∀ x ∈ a.Args, x ∈ C
theorem sols_vals {C : List ByteArray} {S : GSet} (hS : Over C S) {un : List (ByteArray × ByteArray)} : ∀ (body : List GAtom) (b b' : Bd), (∀ p ∈ b, p.2 ∈ C) → b' ∈ sols S un body b → ∀ p ∈ b', p.2 ∈ C
  | [], b, b', hb, h => by
    rw [sols] at h
    split at h
    · rw [List.mem_singleton.1 h]; exact hb
    · cases h
  | a :: r, b, b', hb, h => by
    rw [sols] at h
    split at h
    · obtain ⟨f, hf, h⟩ := List.mem_flatMap.1 h
      split at h
      · exact sols_vals hS r _ b' (uni_vals _ _ _ _ (hS f (grp_mem.1 hf).1) hb) h
      · cases h
    · cases h
theorem zip_eq {α β : Type} : ∀ {l l' : List (α × β)}, l.map Prod.fst = l'.map Prod.fst → l.map Prod.snd = l'.map Prod.snd → l = l'
  | [], [], _, _ => rfl
  | [], y :: r, h, _ => by simp at h
  | x :: r, [], h, _ => by simp at h
  | (a, b) :: r, (c, d) :: q, h, h' => by
    obtain ⟨h1, h2⟩ := List.cons.inj h
    obtain ⟨h3, h4⟩ := List.cons.inj h'
    simp only at h1 h3
    rw [h1, h3, zip_eq h2 h4]
theorem rsols_len {C : List ByteArray} {S : GSet} (hS : Over C S) (hn : S.Nodup) (r : GRule) : (rsols S r).length ≤ C.length ^ (vars r.Body).length := by
  have h1 : ((rsols S r).map (fun b => b.map Prod.snd)).Nodup := by
    refine List.pairwise_map.2 ((sols_nodup hn r.Body []).imp_of_mem (fun {b b'} hb hb' hne e => hne (zip_eq ?_ e)))
    rw [(sols_sound _ _ _ hb).2.1, (sols_sound _ _ _ hb').2.1]
  have h2 := nodup_sub (b := prodL C (vars r.Body).length) h1 (fun l hl => by
    obtain ⟨b, hb, rfl⟩ := List.mem_map.1 hl
    refine prodL_mem ?_ (fun x hx => ?_)
    · rw [List.length_map, ← List.length_map (f := Prod.fst), (sols_sound _ _ _ hb).2.1]; rfl
    · obtain ⟨p, hp, rfl⟩ := List.mem_map.1 hx
      exact sols_vals hS _ _ _ (fun p hp => by cases hp) hb p hp)
  rw [prodL_len, List.length_map] at h2
  exact h2
/-- the atoms that a rule can make -/
def made1 (C : List ByteArray) (r : GRule) : List GAtom :=
  if r.Head.Args.length ≤ (vars r.Body).length then (prodL C r.Head.Args.length).map (fun l => ⟨r.Head.Name, l⟩)
  else (prodL C (vars r.Body).length).map (fun l => hatom ((vars r.Body).zip l) r.Head)
theorem made1_len (C : List ByteArray) (r : GRule) : (made1 C r).length = C.length ^ min r.Head.Args.length (vars r.Body).length := by
  unfold made1
  split
  · rw [List.length_map, prodL_len, Nat.min_eq_left (by assumption)]
  · rw [List.length_map, prodL_len, Nat.min_eq_right (by omega)]
theorem zip_self {α β : Type} : ∀ l : List (α × β), (l.map Prod.fst).zip (l.map Prod.snd) = l
  | [] => rfl
  | (a, b) :: r => by rw [List.map_cons, List.map_cons, List.zip_cons_cons, zip_self r]
theorem getM_val {b : Bd} {s v : ByteArray} (h : getM b s = some v) : ∃ p ∈ b, p.2 = v := by
  induction b with
  | nil => cases h
  | cons y r ih =>
    obtain ⟨x, u⟩ := y
    rw [getM] at h
    split at h
    · exact ⟨_, List.mem_cons_self .., Option.some.inj h⟩
    · obtain ⟨p, hp, e⟩ := ih h
      exact ⟨p, List.mem_cons_of_mem _ hp, e⟩
theorem rheads_made {C : List ByteArray} {S : GSet} (hS : Over C S) {r : GRule} (hk : Known r) (hc : ∀ x ∈ r.Head.Args, isV x = false → x ∈ C) {z : GAtom} (hz : z ∈ rheads S r) : z ∈ made1 C r ∧ ∀ x ∈ z.Args, x ∈ C := by
  obtain ⟨b, hb, rfl⟩ := List.mem_map.1 hz
  obtain ⟨_, h2, _⟩ := sols_sound _ _ _ hb
  have hv := sols_vals hS _ _ _ (fun p hp => by cases hp) hb
  have h3 : ∀ x ∈ (hatom b r.Head).Args, x ∈ C := by
    intro x hx
    obtain ⟨t, ht, rfl⟩ := List.mem_map.1 hx
    unfold tB
    cases ht2 : isV t with
    | false => exact hc t ht ht2
    | true =>
      rw [if_pos rfl]
      cases hg : getM b t with
      | none => exact absurd (by rw [h2]; exact hk.head t ht ht2) (getM_key.1 hg)
      | some v =>
        obtain ⟨p, hp, e⟩ := getM_val hg
        rw [Option.getD_some, ← e]
        exact hv p hp
  refine ⟨?_, h3⟩
  unfold made1
  split
  · exact List.mem_map.2 ⟨(hatom b r.Head).Args, prodL_mem (by simp [hatom]) h3, rfl⟩
  · refine List.mem_map.2 ⟨b.map Prod.snd, prodL_mem ?_ (fun x hx => ?_), ?_⟩
    · rw [List.length_map, ← List.length_map (f := Prod.fst), h2]; rfl
    · obtain ⟨p, hp, rfl⟩ := List.mem_map.1 hx
      exact hv p hp
    · have : vars r.Body = b.map Prod.fst := h2.symm
      rw [this, zip_self]
theorem flat_len {α β : Type} (f : α → List β) (n : α → Nat) (hf : ∀ x, (f x).length = n x) : ∀ l : List α, (l.flatMap f).length = (l.map n).sum
  | [] => rfl
  | x :: r => by rw [List.flatMap_cons, List.length_append, flat_len f n hf r, List.map_cons, List.sum_cons, hf]
theorem flat_le {α β : Type} (f : α → List β) (k : Nat) : ∀ l : List α, (∀ x ∈ l, (f x).length ≤ k) → (l.flatMap f).length ≤ l.length * k
  | [], _ => by simp
  | x :: r, h => by
    rw [List.flatMap_cons, List.length_append, List.length_cons, Nat.succ_mul]
    have h1 := h x (List.mem_cons_self ..)
    have h2 := flat_le f k r (fun y hy => h y (List.mem_cons_of_mem _ hy))
    omega
/-- the constants of a program -/
def addC (out : List ByteArray) (s : ByteArray) : List ByteArray := if s ∈ out then out else if isV s = true then out else out ++ [s]
def consts (l : List GAtom) : List ByteArray := (l.flatMap (·.Args)).foldl addC []
theorem addC_mem : ∀ (l out : List ByteArray) (x : ByteArray), x ∈ l.foldl addC out ↔ x ∈ out ∨ x ∈ l ∧ isV x = false
  | [], out, x => by simp
  | s :: r, out, x => by
    rw [List.foldl_cons, addC_mem r, List.mem_cons]
    unfold addC
    by_cases h1 : s ∈ out
    · rw [if_pos h1]
      constructor
      · rintro (h | ⟨h, h'⟩)
        · exact .inl h
        · exact .inr ⟨.inr h, h'⟩
      · rintro (h | ⟨h | h, h'⟩)
        · exact .inl h
        · exact .inl (h ▸ h1)
        · exact .inr ⟨h, h'⟩
    · rw [if_neg h1]
      cases hv : isV s with
      | true =>
        rw [if_pos rfl]
        constructor
        · rintro (h | ⟨h, h'⟩)
          · exact .inl h
          · exact .inr ⟨.inr h, h'⟩
        · rintro (h | ⟨h | h, h'⟩)
          · exact .inl h
          · rw [h, hv] at h'; cases h'
          · exact .inr ⟨h, h'⟩
      | false =>
        rw [if_neg (by decide), List.mem_append, List.mem_singleton]
        constructor
        · rintro ((h | h) | ⟨h, h'⟩)
          · exact .inl h
          · exact .inr ⟨.inl h, h ▸ hv⟩
          · exact .inr ⟨.inr h, h'⟩
        · rintro (h | ⟨h | h, h'⟩)
          · exact .inl (.inl h)
          · exact .inl (.inr h)
          · exact .inr ⟨h, h'⟩
theorem addC_len : ∀ (l out : List ByteArray), (l.foldl addC out).length ≤ out.length + l.length
  | [], out => Nat.le_refl _
  | s :: r, out => by
    have h1 := addC_len r (addC out s)
    have h2 : (addC out s).length ≤ out.length + 1 := by
      unfold addC
      split
      · omega
      · split <;> simp
    rw [List.foldl_cons]
    simp only [List.length_cons]
    omega
end Go.Proofs.YtflgpccacloadaaDoor.Am
/- Plain law: the sizes of a program (Large). -/
namespace Go.Proofs.YtflgpccacloadaaDoor.Am
open Go.RowKit
def bigA (a : GAtom) : Bool := decide (8 < a.Args.length) || decide (100 < a.Name.size)
theorem many_loop (l : List GAtom) (hl : l.length ≤ 4611686018427387904) : ∀ (k i : Nat), l.length + 1 ≤ i + k → i ≤ l.length → M_l16_many_L1 l k (i : Int) = some ((l.drop i).any bigA) := by
  intro k
  induction k with
  | zero => intro i h1 h2; omega
  | succ k ih =>
    intro i h1 h2
    rw [M_l16_many_L1]
    by_cases h : i < l.length
    · have hy := List.getElem?_eq_getElem h
      rw [show decide ((i : Int) < ((l.map cGAtom).length : Int)) = true by simp; omega]
      show ix l (i : Int) _ = _
      rw [ix_at hy, dropC hy, List.any_cons, wrap_eq (by omega) (by omega)]
      have h3 : decide (((l[i].Args.map cS).length : Int) > 8) = decide (8 < l[i].Args.length) := decide_eq_decide.2 (by rw [List.length_map]; omega)
      rw [h3, show bigA l[i] = (decide (8 < l[i].Args.length) || decide (100 < l[i].Name.size)) from rfl]
      cases decide (8 < l[i].Args.length) with
      | true => simp [sel]
      | false =>
        show ix l (i : Int) _ = _
        rw [ix_at hy, show decide ((l[i].Name.size : Int) > 100) = decide (100 < l[i].Name.size) from decide_eq_decide.2 (by omega)]
        cases decide (100 < l[i].Name.size) with
        | true => simp [sel]
        | false =>
          have := ih (i + 1) (by omega) (by omega)
          rw [show ((i + 1 : Nat) : Int) = (i : Int) + 1 from rfl] at this
          exact this
    · rw [show decide ((i : Int) < ((l.map cGAtom).length : Int)) = false by simp; omega]
      rw [List.drop_of_length_le (by omega)]
      rfl
theorem many_eq (g : Nat) (l : List GAtom) (hl : l.length ≤ 4611686018427387904) (hg : l.length < g) : M_l16_many g l = some (l.any bigA) := by
  unfold M_l16_many
  have := many_loop l hl g 0 (by omega) (Nat.zero_le _)
  rw [List.drop_zero] at this
  exact this
theorem isV_q : isV (⟨#[63]⟩ : ByteArray) = true := by rw [isV_eq]; decide +kernel
theorem con1 (seen : List ByteArray) (hs : ∀ x ∈ seen, isV x = false) (hl : seen.length ≤ 4611686018427387904) : ∀ (k i : Nat) (v : ByteArray), seen.length + 1 ≤ i + k → i ≤ seen.length →
    M_l16_constants_L1 seen k v (i : Int) = some (if v ∈ seen.drop i then (⟨#[63]⟩ : ByteArray) else v) := by
  intro k
  induction k with
  | zero => intro i v h1 h2; omega
  | succ k ih =>
    intro i v h1 h2
    rw [M_l16_constants_L1]
    by_cases h : i < seen.length
    · have hy := List.getElem?_eq_getElem h
      rw [show decide ((i : Int) < ((seen.length : Nat) : Int)) = true from decide_eq_true (by omega)]
      show ixn _ _ _ = _
      unfold ixn
      rw [Int.toNat_natCast, hy]
      simp only []
      have h3 := ih (i + 1) (⟨#[63]⟩ : ByteArray) (by omega) (by omega)
      have h4 := ih (i + 1) v (by omega) (by omega)
      rw [show ((i + 1 : Nat) : Int) = (i : Int) + 1 from rfl] at h3 h4
      refine grd_mk (by omega) (grd_mk (by omega) ?_)
      rw [beq_bl, sel_dec, wrap_eq (by omega) (by omega), h3, h4, dropC hy]
      have hq : (⟨#[63]⟩ : ByteArray) ∉ seen.drop (i + 1) := fun q => by
        have := hs _ (List.mem_of_mem_drop q)
        rw [isV_q] at this; cases this
      by_cases e : seen[i] = v
      · rw [if_pos e, if_neg hq, if_pos (List.mem_cons.2 (.inl e.symm))]
      · rw [if_neg e]
        by_cases e2 : v ∈ seen.drop (i + 1)
        · rw [if_pos e2, if_pos (List.mem_cons_of_mem _ e2)]
        · rw [if_neg e2, if_neg]
          intro q
          rcases List.mem_cons.1 q with q | q
          · exact e q.symm
          · exact e2 q
    · rw [show decide ((i : Int) < ((seen.length : Nat) : Int)) = false from decide_eq_false (by omega)]
      rw [List.drop_of_length_le (by omega), if_neg (by simp)]
      rfl
theorem addC_nv {out : List ByteArray} (h : ∀ x ∈ out, isV x = false) (s : ByteArray) : ∀ x ∈ addC out s, isV x = false := by
  unfold addC
  split
  · exact h
  · split
    · exact h
    · rename_i hv
      intro x hx
      rcases List.mem_append.1 hx with e | e
      · exact h x e
      · rw [List.mem_singleton.1 e]; simpa using hv
theorem con2 (l : List GAtom) (g v : Nat) (a : GAtom) (ha : l[v]? = some a) (hA : a.Args.length ≤ 4611686018427387904) : ∀ (k i : Nat) (out : List ByteArray), a.Args.length + 1 ≤ i + k → i ≤ a.Args.length → (∀ x ∈ out, isV x = false) → (out.length + (a.Args.length - i)) * 16 ≤ 140737488355328 → out.length + (a.Args.length - i) < g →
    M_l16_constants_L2 l g (v : Int) k (i : Int) out = some ((a.Args.drop i).foldl addC out) := by
  intro k
  induction k with
  | zero => intro i out h1 h2; omega
  | succ k ih =>
    intro i out h1 h2 h3 h4 h5
    rw [M_l16_constants_L2, ix_at ha]
    by_cases h : i < a.Args.length
    · have hy := List.getElem?_eq_getElem h
      rw [show decide ((i : Int) < ((a.Args.map cS).length : Int)) = true by simp; omega]
      show ob1 (ix l (v : Int) _) _ = _
      have h6 := con1 out h3 (by omega) g 0 a.Args[i] (by omega) (Nat.zero_le _)
      rw [List.drop_zero, show ((0 : Nat) : Int) = 0 from rfl] at h6
      have h7 : (ix l (v : Int) (fun y771 => ix y771.Args (i : Int) (fun y772 => ob1 (M_l16_constants_L1 out g y772 0 : Option (ByteArray)) (fun v781 => ob1 (M_r16_Variable v781) (fun z791 =>
              sel (!z791) (grd ((out.length + 1) * 16 ≤ 140737488355328) (some (out ++ [v781]))) (some out))))) : Option (List ByteArray)) = some (addC out a.Args[i]) := by
        rw [ix_at ha, ix_at hy, h6, ob1_some, rvar_eq, ob1_some]
        unfold addC
        by_cases e : a.Args[i] ∈ out
        · rw [if_pos e, if_pos e, isV_q]; rfl
        · rw [if_neg e, if_neg e]
          cases hv : isV a.Args[i] with
          | true => rfl
          | false => exact grd_mk (by omega) rfl
      rw [h7, ob1_some, dropC hy, List.foldl_cons, wrap_eq (by omega) (by omega)]
      have h8 := addC_len [a.Args[i]] out
      simp only [List.foldl_cons, List.foldl_nil, List.length_cons, List.length_nil] at h8
      exact ih (i + 1) (addC out a.Args[i]) (by omega) (by omega) (addC_nv h3 _) (by omega) (by omega)
    · rw [show decide ((i : Int) < ((a.Args.map cS).length : Int)) = false by simp; omega]
      rw [List.drop_of_length_le (by omega)]
      rfl
theorem fold_nv : ∀ (l out : List ByteArray), (∀ x ∈ out, isV x = false) → ∀ x ∈ l.foldl addC out, isV x = false
  | [], _, h => h
  | s :: r, out, h => by rw [List.foldl_cons]; exact fold_nv r _ (addC_nv h s)
theorem con3 (l : List GAtom) (g : Nat) (hl : l.length ≤ 4611686018427387904) : ∀ (k i : Nat) (out : List ByteArray), l.length + 1 ≤ i + k → i ≤ l.length → (∀ x ∈ out, isV x = false) → (out.length + ((l.drop i).flatMap (·.Args)).length) * 16 ≤ 140737488355328 → out.length + ((l.drop i).flatMap (·.Args)).length < g →
    M_l16_constants_L3 l g k (i : Int) out = some ((((l.drop i).flatMap (·.Args)).foldl addC out).length : Int) := by
  intro k
  induction k with
  | zero => intro i out h1 h2; omega
  | succ k ih =>
    intro i out h1 h2 h3 h4 h5
    rw [M_l16_constants_L3]
    by_cases h : i < l.length
    · have hy := List.getElem?_eq_getElem h
      rw [show decide ((i : Int) < ((l.map cGAtom).length : Int)) = true by simp; omega]
      rw [dropC hy, List.flatMap_cons, List.length_append] at h4 h5
      have h6 := con2 l g i l[i] hy (by omega) g 0 out (by omega) (Nat.zero_le _) h3 (by omega) (by omega)
      rw [List.drop_zero, show ((0 : Nat) : Int) = 0 from rfl] at h6
      show ob1 (M_l16_constants_L2 _ _ _ _ _ _) _ = _
      have h7 := addC_len l[i].Args out
      rw [h6, ob1_some, wrap_eq (by omega) (by omega), dropC hy, List.flatMap_cons, List.foldl_append]
      exact ih (i + 1) _ (by omega) (by omega) (fold_nv _ _ h3) (by omega) (by omega)
    · rw [show decide ((i : Int) < ((l.map cGAtom).length : Int)) = false by simp; omega]
      rw [List.drop_of_length_le (by omega)]
      rfl
theorem constants_eq (g : Nat) (l : List GAtom) (h1 : l.length < g) (h2 : (l.flatMap (·.Args)).length * 16 ≤ 140737488355328) (h3 : (l.flatMap (·.Args)).length < g) (hl : l.length ≤ 4611686018427387904) : M_l16_constants g l = some ((consts l).length : Int) := by
  unfold M_l16_constants
  have := con3 l g hl g 0 [] (by omega) (Nat.zero_le _) (fun x hx => by cases hx) (by rw [List.drop_zero]; simpa using h2) (by rw [List.drop_zero]; simpa using h3)
  rw [List.drop_zero, show ((0 : Nat) : Int) = 0 from rfl] at this
  exact this
theorem pow_loop (c n : Nat) (hc : c ≤ 1000000) (hn : n ≤ 1000000) : ∀ (k i : Nat), n + 1 ≤ i + k → i ≤ n → M_l16_power_L1 (c : Int) (n : Int) k ((min (c ^ i) 1000 : Nat) : Int) (i : Int) = some ((min (c ^ n) 1000 : Nat) : Int) := by
  intro k
  induction k with
  | zero => intro i h1 h2; omega
  | succ k ih =>
    intro i h1 h2
    rw [M_l16_power_L1]
    by_cases h : i < n
    · rw [show decide ((i : Int) < (n : Int)) = true from decide_eq_true (by omega)]
      show M_l16_power_L1 _ _ k _ _ = _
      have hm : min (c ^ i) 1000 * c ≤ 1000 * 1000000 := Nat.mul_le_mul (Nat.min_le_right _ _) hc
      have e1 : min (IntKind.i64.wrap (((min (c ^ i) 1000 : Nat) : Int) * (c : Int))) 1000 = ((min (c ^ (i + 1)) 1000 : Nat) : Int) := by
        rw [← Int.natCast_mul, wrap_eq (by generalize min (c ^ i) 1000 * c = q at hm ⊢; omega) (by generalize min (c ^ i) 1000 * c = q at hm ⊢; omega)]
        have : min (min (c ^ i) 1000 * c) 1000 = min (c ^ (i + 1)) 1000 := by
          rw [Nat.pow_succ]
          cases c with
          | zero => rw [Nat.mul_zero, Nat.mul_zero]
          | succ c =>
            generalize (c + 1) ^ i = p
            by_cases hp : p ≤ 1000
            · rw [Nat.min_eq_left hp]
            · rw [Nat.min_eq_right (show 1000 ≤ p by omega)]
              have h3 : 1000 ≤ 1000 * (c + 1) := Nat.le_mul_of_pos_right _ (by omega)
              have h4 : p ≤ p * (c + 1) := Nat.le_mul_of_pos_right _ (by omega)
              rw [Nat.min_eq_right h3, Nat.min_eq_right (show 1000 ≤ p * (c + 1) by omega)]
        rw [← this]
        generalize min (c ^ i) 1000 * c = q
        omega
      rw [e1, wrap_eq (by omega) (by omega)]
      exact ih (i + 1) (by omega) (by omega)
    · rw [show decide ((i : Int) < (n : Int)) = false from decide_eq_false (by omega)]
      rw [show i = n by omega]
      rfl
theorem power_eq (g c n : Nat) (hc : c ≤ 1000000) (hn : n ≤ 1000000) (hg : n < g) : M_l16_power g (c : Int) (n : Int) = some ((min (c ^ n) 1000 : Nat) : Int) := by
  unfold M_l16_power
  have := pow_loop c n hc hn g 0 (by omega) (Nat.zero_le _)
  rw [Nat.pow_zero, show ((min 1 1000 : Nat) : Int) = 1 from rfl, show ((0 : Nat) : Int) = 0 from rfl] at this
  exact this
/-- a rule that is not too large -/
structure SmR (r : GRule) : Prop where
  body : r.Body.length ≤ 3 ∨ 17 ≤ r.Body.length
  b20 : r.Body.length ≤ 20
  un : r.Unequal.length ≤ 6
  atoms : ∀ a ∈ r.Head :: r.Body, a.Args.length ≤ 8 ∧ a.Name.size ≤ 100
def rAtoms (r : GRule) : List GAtom := r.Head :: r.Body
def allA (p : GProgram) : List GAtom := p.Facts ++ p.Rules.flatMap rAtoms
structure Small (p : GProgram) : Prop where
  facts : p.Facts.length ≤ 30
  rules : p.Rules.length ≤ 8
  fargs : ∀ a ∈ p.Facts, a.Args.length ≤ 8 ∧ a.Name.size ≤ 100
  rule : ∀ r ∈ p.Rules, SmR r
  pow : ∀ r ∈ p.Rules, (consts (allA p)).length ^ (vars r.Body).length < 1000
  sum : (p.Rules.map (fun r => (consts (allA p)).length ^ min r.Head.Args.length (vars r.Body).length)).sum ≤ 150
theorem bigA_no {l : List GAtom} (h : l.any bigA = false) : ∀ a ∈ l, a.Args.length ≤ 8 ∧ a.Name.size ≤ 100 := by
  intro a ha
  have := List.any_eq_false.1 h a ha
  unfold bigA at this
  simp at this
  omega
theorem lrg1 (p : GProgram) (g : Nat) (hr : p.Rules.length ≤ 8) (hg : 1000 < g) : ∀ (k i : Nat) (out : List GAtom), p.Rules.length + 1 ≤ i + k → i ≤ p.Rules.length → out.length ≤ 30 + 21 * i →
    M_stratagem_stratagemlaw16_Program_Large_L1 p g k (i : Int) out = some (.inr true) ∨
      (M_stratagem_stratagemlaw16_Program_Large_L1 p g k (i : Int) out = some (.inl (out ++ (p.Rules.drop i).flatMap rAtoms)) ∧ ∀ r ∈ p.Rules.drop i, SmR r) := by
  intro k
  induction k with
  | zero => intro i out h1 h2; omega
  | succ k ih =>
    intro i out h1 h2 h3
    rw [M_stratagem_stratagemlaw16_Program_Large_L1]
    by_cases h : i < p.Rules.length
    · have hy := List.getElem?_eq_getElem h
      rw [show decide ((i : Int) < ((p.Rules.map cGRule).length : Int)) = true by simp; omega]
      generalize hrr : p.Rules[i] = r at hy
      have hb : ∀ n : Nat, decide (((r.Body.map cGAtom).length : Int) > (n : Int)) = decide (n < r.Body.length) := fun n => decide_eq_decide.2 (by rw [List.length_map]; omega)
      have hb2 : decide (((r.Body.map cGAtom).length : Int) < 17) = decide (r.Body.length < 17) := decide_eq_decide.2 (by rw [List.length_map]; omega)
      have hu : decide (((r.Unequal.map cA2_cS).length : Int) > 6) = decide (6 < r.Unequal.length) := decide_eq_decide.2 (by rw [List.length_map]; omega)
      have hb3 := hb 3
      have hb20 := hb 20
      rw [show ((3 : Nat) : Int) = 3 from rfl] at hb3
      rw [show ((20 : Nat) : Int) = 20 from rfl] at hb20
      have hend : (sel (decide (20 < r.Body.length)) (some (.inr true))
          (sel (decide (6 < r.Unequal.length)) (some (.inr true))
            (ob1 (M_l16_many g r.Body) (fun z46 => sel z46 (some (.inr true))
               (ob1 (M_l16_many g [r.Head]) (fun z47 => sel z47 (some (.inr true))
                  (grd ((out.length + 1) * 40 ≤ 140737488355328) (grd ((out.length + 1 + r.Body.length) * 40 ≤ 140737488355328) (M_stratagem_stratagemlaw16_Program_Large_L1 p g k (IntKind.i64.wrap ((i : Int) + 1)) ((out ++ [r.Head]) ++ r.Body))))))))) : Option ((List GAtom) ⊕ Bool)) = some (.inr true) ∨
          ((sel (decide (20 < r.Body.length)) (some (.inr true))
          (sel (decide (6 < r.Unequal.length)) (some (.inr true))
            (ob1 (M_l16_many g r.Body) (fun z46 => sel z46 (some (.inr true))
               (ob1 (M_l16_many g [r.Head]) (fun z47 => sel z47 (some (.inr true))
                  (grd ((out.length + 1) * 40 ≤ 140737488355328) (grd ((out.length + 1 + r.Body.length) * 40 ≤ 140737488355328) (M_stratagem_stratagemlaw16_Program_Large_L1 p g k (IntKind.i64.wrap ((i : Int) + 1)) ((out ++ [r.Head]) ++ r.Body))))))))) : Option ((List GAtom) ⊕ Bool)) = some (.inl (out ++ (p.Rules.drop i).flatMap rAtoms)) ∧ r.Body.length ≤ 20 ∧ r.Unequal.length ≤ 6 ∧ (∀ a ∈ r.Head :: r.Body, a.Args.length ≤ 8 ∧ a.Name.size ≤ 100) ∧ ∀ q ∈ p.Rules.drop (i + 1), SmR q) := by
        rw [sel_dec, sel_dec]
        by_cases e20 : 20 < r.Body.length
        · rw [if_pos e20]; exact .inl rfl
        rw [if_neg e20]
        by_cases e6 : 6 < r.Unequal.length
        · rw [if_pos e6]; exact .inl rfl
        rw [if_neg e6, many_eq g r.Body (by omega) (by omega), ob1_some]
        cases hm : r.Body.any bigA with
        | true => exact .inl rfl
        | false =>
          rw [many_eq g [r.Head] (by simp) (by simp; omega), ob1_some]
          cases hm2 : [r.Head].any bigA with
          | true => exact .inl rfl
          | false =>
            simp only [sel]
            have hgg : ∀ (x : Option ((List GAtom) ⊕ Bool)), grd ((out.length + 1) * 40 ≤ 140737488355328) (grd ((out.length + 1 + r.Body.length) * 40 ≤ 140737488355328) x) = x := fun x => grd_mk (by omega) (grd_mk (by omega) rfl)
            rw [hgg, wrap_eq (by omega) (by omega)]
            have hd : p.Rules.drop i = r :: p.Rules.drop (i + 1) := by rw [← hrr]; exact List.drop_eq_getElem_cons h
            rcases ih (i + 1) ((out ++ [r.Head]) ++ r.Body) (by omega) (by omega) (by simp; omega) with h5 | ⟨h5, h6⟩
            · exact .inl h5
            · refine .inr ⟨?_, by omega, by omega, fun a ha => ?_, h6⟩
              · rw [show ((i + 1 : Nat) : Int) = (i : Int) + 1 from rfl] at h5
                rw [h5, hd, List.flatMap_cons]
                simp [rAtoms]
              · rcases List.mem_cons.1 ha with e | e
                · exact bigA_no hm2 a (by rw [e]; exact List.mem_singleton.2 rfl)
                · exact bigA_no hm a e
      have hd : p.Rules.drop i = r :: p.Rules.drop (i + 1) := by rw [← hrr]; exact List.drop_eq_getElem_cons h
      show ix p.Rules (i : Int) _ = _ ∨ _
      rw [show ∀ (f : GRule → Option ((List GAtom) ⊕ Bool)), ix p.Rules (i : Int) f = f r from fun f => ix_at hy]
      rw [hb3, hb2, hb20, hu]
      by_cases e3 : 3 < r.Body.length
      · rw [decide_eq_true e3]
        by_cases e17 : r.Body.length < 17
        · rw [decide_eq_true e17]; exact .inl rfl
        · rw [decide_eq_false e17]
          rcases hend with q | ⟨q, q2, q3, q4, q5⟩
          · exact .inl q
          · refine .inr ⟨q, fun x hx => ?_⟩
            rw [hd] at hx
            rcases List.mem_cons.1 hx with e | e
            · rw [e]; exact ⟨.inr (by omega), q2, q3, q4⟩
            · exact q5 x e
      · rw [decide_eq_false e3]
        rcases hend with q | ⟨q, q2, q3, q4, q5⟩
        · exact .inl q
        · refine .inr ⟨q, fun x hx => ?_⟩
          rw [hd] at hx
          rcases List.mem_cons.1 hx with e | e
          · rw [e]; exact ⟨.inl (by omega), q2, q3, q4⟩
          · exact q5 x e
    · rw [show decide ((i : Int) < ((p.Rules.map cGRule).length : Int)) = false by simp; omega]
      rw [List.drop_of_length_le (by omega)]
      exact .inr ⟨by simp [sel], fun r hr => by cases hr⟩
theorem lrg2 (p : GProgram) (g c : Nat) (hc : c ≤ 1000000) (hr : p.Rules.length ≤ 8) (hs : ∀ r ∈ p.Rules, SmR r) (hg : 1000 < g) : ∀ (k i n : Nat), p.Rules.length + 1 ≤ i + k → i ≤ p.Rules.length → n ≤ 1000 * i →
    ∃ b, M_stratagem_stratagemlaw16_Program_Large_L2 p g (c : Int) k (n : Int) (i : Int) = some b ∧ (b = false → (∀ r ∈ p.Rules.drop i, c ^ (vars r.Body).length < 1000) ∧ n + ((p.Rules.drop i).map (fun r => min (c ^ min r.Head.Args.length (vars r.Body).length) 1000)).sum ≤ 150) := by
  intro k
  induction k with
  | zero => intro i n h1 h2; omega
  | succ k ih =>
    intro i n h1 h2 h3
    rw [M_stratagem_stratagemlaw16_Program_Large_L2]
    by_cases h : i < p.Rules.length
    · have hy := List.getElem?_eq_getElem h
      rw [show decide ((i : Int) < ((p.Rules.map cGRule).length : Int)) = true by simp; omega]
      generalize hrr : p.Rules[i] = r at hy
      obtain ⟨s1, s2, s3, s4⟩ := hs r (by rw [← hrr]; exact List.getElem_mem h)
      have hd : p.Rules.drop i = r :: p.Rules.drop (i + 1) := by rw [← hrr]; exact List.drop_eq_getElem_cons h
      show ∃ b, ix p.Rules (i : Int) _ = _ ∧ _
      have hfl : (r.Body.flatMap (·.Args)).length ≤ 20 * 8 := Nat.le_trans (flat_le _ 8 r.Body (fun a ha => (s4 a (List.mem_cons_of_mem _ ha)).1)) (Nat.mul_le_mul_right _ s2)
      have hvl := vars_len r.Body
      have hhl := (s4 r.Head (List.mem_cons_self ..)).1
      rw [ix_at hy, rvars_eq r.Body g (by omega) (by omega) (by omega) (by omega), ob1_some, ix_at hy]
      rw [List.length_map, List.length_map, show min (r.Head.Args.length : Int) ((vars r.Body).length : Int) = ((min r.Head.Args.length (vars r.Body).length : Nat) : Int) by omega]
      rw [power_eq g c _ hc (by omega) (by omega), ob1_some, power_eq g c _ hc (by omega) (by omega), ob1_some, sel_dec]
      by_cases e : (((min (c ^ (vars r.Body).length) 1000 : Nat) : Int)) ≥ 1000
      · rw [if_pos e]; exact ⟨true, rfl, fun q => by cases q⟩
      · rw [if_neg e, wrap_eq (by omega) (by omega), wrap_eq (by omega) (by omega)]
        obtain ⟨b, q1, q2⟩ := ih (i + 1) (n + min (c ^ min r.Head.Args.length (vars r.Body).length) 1000) (by omega) (by omega) (by omega)
        rw [Int.natCast_add] at q1
        refine ⟨b, q1, fun hb => ?_⟩
        obtain ⟨q3, q4⟩ := q2 hb
        rw [hd]
        refine ⟨fun x hx => ?_, ?_⟩
        · rcases List.mem_cons.1 hx with e2 | e2
          · rw [e2]; omega
          · exact q3 x e2
        · rw [List.map_cons, List.sum_cons]; omega
    · rw [show decide ((i : Int) < ((p.Rules.map cGRule).length : Int)) = false by simp; omega]
      rw [List.drop_of_length_le (by omega)]
      refine ⟨_, rfl, fun hb => ⟨fun r hr => (by cases hr), ?_⟩⟩
      have := of_decide_eq_false hb
      simp
      omega
theorem sum_min (f : GRule → Nat) : ∀ l : List GRule, (l.map (fun r => min (f r) 1000)).sum ≤ 150 → (l.map f).sum ≤ 150 ∧ (l.map f).sum = (l.map (fun r => min (f r) 1000)).sum
  | [], _ => by simp
  | r :: q, h => by
    rw [List.map_cons, List.sum_cons] at h
    obtain ⟨h1, h2⟩ := sum_min f q (by omega)
    rw [List.map_cons, List.sum_cons, List.map_cons, List.sum_cons, h2]
    omega
theorem large_eq (g : Nat) (p : GProgram) (hg : 100000 < g) (hf : p.Facts.length ≤ 4000000000000) (hr : p.Rules.length ≤ 4000000000000) (hg2 : p.Facts.length < g) : ∃ b, M_stratagem_stratagemlaw16_Program_Large g p = some b ∧ (b = false → Small p) := by
  unfold M_stratagem_stratagemlaw16_Program_Large
  rw [show decide (((p.Facts.map cGAtom).length : Int) > 30) = decide (30 < p.Facts.length) from decide_eq_decide.2 (by rw [List.length_map]; omega), show decide (((p.Rules.map cGRule).length : Int) > 8) = decide (8 < p.Rules.length) from decide_eq_decide.2 (by rw [List.length_map]; omega), sel_dec, sel_dec]
  by_cases e30 : 30 < p.Facts.length
  · rw [if_pos e30]; exact ⟨true, rfl, fun q => by cases q⟩
  rw [if_neg e30]
  by_cases e8 : 8 < p.Rules.length
  · rw [if_pos e8]; exact ⟨true, rfl, fun q => by cases q⟩
  rw [if_neg e8, many_eq g p.Facts (by omega) hg2, ob1_some]
  cases hm : p.Facts.any bigA with
  | true => exact ⟨true, rfl, fun q => by cases q⟩
  | false =>
    show ∃ b, grd _ _ = _ ∧ _
    have hgg : ∀ (x : Option Bool), grd ((0 + p.Facts.length) * 40 ≤ 140737488355328) x = x := fun x => grd_mk (by omega) rfl
    rw [hgg]
    rcases lrg1 p g (by omega) (by omega) g 0 p.Facts (by omega) (Nat.zero_le _) (by omega) with h | ⟨h, h2⟩
    · rw [show ((0 : Nat) : Int) = 0 from rfl] at h
      rw [h]; exact ⟨true, rfl, fun q => by cases q⟩
    · rw [show ((0 : Nat) : Int) = 0 from rfl, List.drop_zero] at h
      rw [List.drop_zero] at h2
      rw [h, ob1_some]
      have hall : (p.Rules.flatMap rAtoms).length ≤ 8 * 21 := Nat.le_trans (flat_le _ 21 p.Rules (fun r hr => by have := (h2 r hr).b20; simp [rAtoms]; omega)) (Nat.mul_le_mul_right _ (by omega))
      have hlen : (allA p).length ≤ 30 + 8 * 21 := by unfold allA; rw [List.length_append]; omega
      have hargs : ∀ a ∈ allA p, a.Args.length ≤ 8 := by
        intro a ha
        rcases List.mem_append.1 ha with q | q
        · exact (bigA_no hm a q).1
        · obtain ⟨r, hr2, q⟩ := List.mem_flatMap.1 q
          exact ((h2 r hr2).atoms a q).1
      have hfl : ((allA p).flatMap (·.Args)).length ≤ (30 + 8 * 21) * 8 := Nat.le_trans (flat_le _ 8 _ hargs) (Nat.mul_le_mul_right _ hlen)
      have hcl := addC_len ((allA p).flatMap (·.Args)) []
      rw [show ((allA p).flatMap (·.Args)).foldl addC [] = consts (allA p) from rfl] at hcl
      simp only [List.length_nil] at hcl
      show ∃ b, grd ((allA p).length ≤ _) (ob1 (M_l16_constants g (allA p)) _) = _ ∧ _
      have hgg2 : ∀ (x : Option Bool), grd ((allA p).length ≤ 140737488355328) x = x := fun x => grd_mk (by omega) rfl
      rw [hgg2, constants_eq g (allA p) (by omega) (by omega) (by omega) (by omega), ob1_some]
      obtain ⟨b, q1, q2⟩ := lrg2 p g (consts (allA p)).length (by omega) (by omega) h2 (by omega) g 0 0 (by omega) (Nat.zero_le _) (Nat.zero_le _)
      rw [show ((0 : Nat) : Int) = 0 from rfl] at q1
      refine ⟨b, q1, fun hb => ?_⟩
      obtain ⟨q3, q4⟩ := q2 hb
      rw [List.drop_zero] at q3 q4
      rw [Nat.zero_add] at q4
      exact ⟨by omega, by omega, bigA_no hm, h2, q3, (sum_min _ _ q4).1⟩
end Go.Proofs.YtflgpccacloadaaDoor.Am
/- Plain law: the reference's comparison, membership and insertion of atoms. -/
namespace Go.Proofs.YtflgpccacloadaaDoor.Am
open Go.RowKit
def argC : List ByteArray → List ByteArray → Int
  | x :: r, y :: q => if strC x y < 0 then -1 else if x = y then argC r q else 1
  | a, b => (a.length : Int) - b.length
theorem argC_sign : ∀ a b, (argC a b < 0 ↔ lexC strC a b < 0) ∧ (argC a b = 0 ↔ lexC strC a b = 0)
  | [], [] => by simp [argC, lexC]
  | [], y :: q => by simp [argC, lexC]; omega
  | x :: r, [] => by simp [argC, lexC]; omega
  | x :: r, y :: q => by
    rw [argC, lexC]
    by_cases h : strC x y < 0
    · rw [if_pos h, if_neg (by omega)]
      exact ⟨⟨fun _ => h, fun _ => by omega⟩, ⟨fun e => by omega, fun e => by omega⟩⟩
    · rw [if_neg h]
      by_cases e : x = y
      · rw [if_pos e, if_pos ((strC_cmp.eq x y).2 e)]
        exact argC_sign r q
      · have h0 : ¬ strC x y = 0 := fun q => e ((strC_cmp.eq x y).1 q)
        rw [if_neg e, if_neg h0]
        exact ⟨⟨fun e => by omega, fun e => by omega⟩, ⟨fun e => by omega, fun e => by omega⟩⟩
def refC (a b : GAtom) : Int := if a.Name = b.Name then argC a.Args b.Args else if strC a.Name b.Name < 0 then -1 else 1
theorem refC_sign (a b : GAtom) : (refC a b < 0 ↔ atomC a b < 0) ∧ (refC a b = 0 ↔ a = b) := by
  rw [← atomC_cmp.eq a b, atomC_def]
  unfold refC
  by_cases e : a.Name = b.Name
  · rw [if_pos e, if_pos ((strC_cmp.eq _ _).2 e)]
    exact argC_sign _ _
  · have h0 : ¬ strC a.Name b.Name = 0 := fun q => e ((strC_cmp.eq _ _).1 q)
    rw [if_neg e, if_neg h0]
    by_cases h : strC a.Name b.Name < 0
    · rw [if_pos h]
      exact ⟨⟨fun _ => h, fun _ => by omega⟩, ⟨fun e => by omega, fun e => by omega⟩⟩
    · rw [if_neg h]
      exact ⟨⟨fun e => by omega, fun e => by omega⟩, ⟨fun e => by omega, fun e => by omega⟩⟩
theorem cmp_loop (a b : GAtom) (ha : a.Args.length ≤ 4611686018427387904) (hb : b.Args.length ≤ 4611686018427387904) : ∀ (k i : Nat), a.Args.length + 1 ≤ i + k → i ≤ a.Args.length → i ≤ b.Args.length →
    ob1 (M_r10_Compare_L1 a b k (i : Int) : Option (Unit ⊕ Int)) (osum (fun _ => some (IntKind.i64.wrap (((a.Args.map cS).length : Int) - ((b.Args.map cS).length : Int)))) (fun r19 => some r19)) = some (argC (a.Args.drop i) (b.Args.drop i)) := by
  intro k
  induction k with
  | zero => intro i h1 h2; omega
  | succ k ih =>
    intro i h1 h2 h3
    rw [M_r10_Compare_L1]
    by_cases h : i < a.Args.length
    · have hy := List.getElem?_eq_getElem h
      rw [show decide ((i : Int) < ((a.Args.map cS).length : Int)) = true by simp; omega]
      by_cases h' : i < b.Args.length
      · have hz := List.getElem?_eq_getElem h'
        rw [show decide ((i : Int) < ((b.Args.map cS).length : Int)) = true by simp; omega]
        show ob1 (ix a.Args (i : Int) _) _ = _
        rw [ix_at hy, ix_at hz, less_str, sel_dec, dropC hy, dropC hz, argC]
        by_cases e : strC a.Args[i] b.Args[i] < 0
        · rw [if_pos e, if_pos e]; rfl
        · rw [if_neg e, if_neg e, ix_at hy, ix_at hz, beq_bl]
          by_cases e2 : a.Args[i] = b.Args[i]
          · rw [if_pos e2, decide_eq_true e2, Bool.or_true, wrap_eq (by omega) (by omega)]
            exact ih (i + 1) (by omega) (by omega) (by omega)
          · rw [if_neg e2, decide_eq_false e2, less_str, decide_eq_false e]; rfl
      · rw [show decide ((i : Int) < ((b.Args.map cS).length : Int)) = false by simp; omega]
        show some (IntKind.i64.wrap _) = _
        rw [List.drop_of_length_le (show b.Args.length ≤ i by omega), dropC hy, argC, List.length_map, List.length_map, wrap_eq (by omega) (by omega)]
        · simp only [List.length_cons, List.length_drop, List.length_nil]
          exact congrArg some (by omega)
        · intro x r y q _ h; cases h
    · rw [show decide ((i : Int) < ((a.Args.map cS).length : Int)) = false by simp; omega]
      show some (IntKind.i64.wrap _) = _
      rw [List.drop_of_length_le (show a.Args.length ≤ i by omega), argC, List.length_map, List.length_map, wrap_eq (by omega) (by omega)]
      · simp only [List.length_drop, List.length_nil]
        exact congrArg some (by omega)
      · intro x r y q h; cases h
theorem cmp_eq (g : Nat) (a b : GAtom) (ha : a.Args.length ≤ 4611686018427387904) (hb : b.Args.length ≤ 4611686018427387904) (hg : a.Args.length < g) : M_r10_Compare g a b = some (refC a b) := by
  unfold M_r10_Compare refC
  rw [beq_bl, sel_not, sel_dec, less_str]
  by_cases e : a.Name = b.Name
  · rw [if_pos e, if_pos e]
    have := cmp_loop a b ha hb g 0 (by omega) (Nat.zero_le _) (Nat.zero_le _)
    rw [List.drop_zero, List.drop_zero, show ((0 : Nat) : Int) = 0 from rfl] at this
    exact this
  · rw [if_neg e, if_neg e, sel_dec]
    by_cases h : strC a.Name b.Name < 0
    · rw [if_pos h, if_pos h]
    · rw [if_neg h, if_neg h]
/-- atoms of few arguments -/
def Few (g : Nat) (l : List GAtom) : Prop := ∀ a ∈ l, a.Args.length ≤ 1000000000 ∧ a.Args.length < g
theorem same_loop (g : Nat) (l : List GAtom) (hl : l.length ≤ 4611686018427387904) (hf : Few g l) : ∀ (k i : Nat), l.length + 1 ≤ i + k → i ≤ l.length → M_r10_SameAtoms_L1 l l g k (i : Int) = some true := by
  intro k
  induction k with
  | zero => intro i h1 h2; omega
  | succ k ih =>
    intro i h1 h2
    rw [M_r10_SameAtoms_L1]
    by_cases h : i < l.length
    · have hy := List.getElem?_eq_getElem h
      have hm := hf _ (List.getElem_mem h)
      rw [show decide ((i : Int) < ((l.map cGAtom).length : Int)) = true by simp; omega]
      show ix l (i : Int) _ = _
      rw [ix_at hy, ix_at hy, cmp_eq g _ _ (by omega) (by omega) hm.2, ob1_some, (refC_sign _ _).2.2 rfl, wrap_eq (by omega) (by omega)]
      exact ih (i + 1) (by omega) (by omega)
    · rw [show decide ((i : Int) < ((l.map cGAtom).length : Int)) = false by simp; omega]
      rfl
theorem sameAtoms_eq (g : Nat) (l : List GAtom) (hl : l.length ≤ 4611686018427387904) (hf : Few g l) (hg : l.length < g) : M_r10_SameAtoms g l l = some true := by
  unfold M_r10_SameAtoms
  rw [show (((l.map cGAtom).length : Int) != ((l.map cGAtom).length : Int)) = false by simp]
  exact same_loop g l hl hf g 0 (by omega) (Nat.zero_le _)
end Go.Proofs.YtflgpccacloadaaDoor.Am
/- Plain law: the reference's bindings. -/
namespace Go.Proofs.YtflgpccacloadaaDoor.Am
open Go.RowKit
def rep (b : Bd) (s : ByteArray) : ByteArray := (getM b s).getD s
section
variable (S : GSet) (body : List GAtom) (un : List (ByteArray × ByteArray)) (vs : List ByteArray) (G : Nat)
  (hn : vs.Nodup) (hV : ∀ s ∈ vs, isV s = true) (hvl : vs.length * 16 ≤ 140737488355328) (hgv : vs.length < G) (hgu : un.length < G) (hgS : S.length < G) (hgA : Few G body) (hfS : Few G S) (hG : G ≤ 4611686018427387904) (hbl : body.length < G)
  (hpow : ∀ m, m ≤ body.length → S.length ^ m * 24 ≤ 140737488355328)
include hn hV hvl hgv hgu hgS hgA hfS hG hbl hpow
end
end Go.Proofs.YtflgpccacloadaaDoor.Am
/- Plain law: the reference's Round and Solve. -/
namespace Go.Proofs.YtflgpccacloadaaDoor.Am
open Go.RowKit
/-- a world that is small enough -/
structure Wd (rules : List GRule) (S : GSet) : Prop where
  str : StrA S
  len : S.length ≤ 4096
  args : ∀ a ∈ S, a.Args.length ≤ 8
  known : ∀ r ∈ rules, Known r
  rule : ∀ r ∈ rules, r.Body.length ≤ 3 ∧ r.Unequal.length ≤ 6 ∧ ∀ a ∈ r.Head :: r.Body, a.Args.length ≤ 8
  cnt : (allH S rules).length ≤ 100000
  nr : rules.length ≤ 8
theorem few8 {g : Nat} (hg : 1000 < g) {l : List GAtom} (h : ∀ a ∈ l, a.Args.length ≤ 8) : Few g l := fun a ha => by have := h a ha; omega
theorem rheads_args {S : GSet} {r : GRule} {a : GAtom} (h : a ∈ rheads S r) : a.Args.length = r.Head.Args.length := by
  obtain ⟨b, _, rfl⟩ := List.mem_map.1 h
  simp [hatom]
/-- the first error of facts and rules, but for the sizes -/
def wrongE (facts : List GAtom) (rules : List GRule) : Er := match firstE rules with
  | .no e => .no e
  | .nil => if facts.any badF = true then .no 2 else .nil
end Go.Proofs.YtflgpccacloadaaDoor.Am
/- Plain law: the model of a program that is not too large. -/
namespace Go.Proofs.YtflgpccacloadaaDoor.Am
open Go.RowKit
/-- what follows from the facts by the rules -/
inductive Der (facts : List GAtom) (rules : List GRule) : GAtom → Prop
  | fact {a : GAtom} : a ∈ facts → Der facts rules a
  | rule {r : GRule} {σ : Asg} : r ∈ rules → (∀ a ∈ r.Body, Der facts rules (inst σ a)) → (∀ p ∈ r.Unequal, trm σ p.1 ≠ trm σ p.2) → Der facts rules (inst σ r.Head)
structure Good (p : GProgram) : Prop where
  sm : Small p
  hx : ∀ a ∈ allA p, ∀ x ∈ a.Args, isV x = false → x.size ≤ 140737488355328
def CC (p : GProgram) : List ByteArray := consts (allA p)
theorem mem_fact {p : GProgram} {a : GAtom} (h : a ∈ p.Facts) : a ∈ allA p := List.mem_append_left _ h
theorem mem_rule {p : GProgram} {r : GRule} {a : GAtom} (hr : r ∈ p.Rules) (h : a ∈ r.Head :: r.Body) : a ∈ allA p := List.mem_append_right _ (List.mem_flatMap.2 ⟨r, hr, h⟩)
theorem CC_mem {p : GProgram} {a : GAtom} {x : ByteArray} (ha : a ∈ allA p) (hx : x ∈ a.Args) (hv : isV x = false) : x ∈ CC p := (addC_mem _ _ _).2 (.inr ⟨List.mem_flatMap.2 ⟨a, ha, hx⟩, hv⟩)
theorem CC_size {p : GProgram} (hp : Good p) {x : ByteArray} (h : x ∈ CC p) : x.size ≤ 140737488355328 := by
  rcases (addC_mem _ _ _).1 h with q | ⟨q, hv⟩
  · cases q
  · obtain ⟨a, ha, hx⟩ := List.mem_flatMap.1 q
    exact hp.hx a ha x hx hv
theorem ckOk_small {p : GProgram} (hp : Small p) {r : GRule} (hr : r ∈ p.Rules) : CkOk r ∧ (r.Body.flatMap (·.Args)).length ≤ 160 ∧ r.Body.length ≤ 20 ∧ r.Head.Args.length ≤ 8 ∧ r.Unequal.length ≤ 6 := by
  obtain ⟨b1, b2, b3, b4⟩ := hp.rule r hr
  have hfl : (r.Body.flatMap (·.Args)).length ≤ 20 * 8 := Nat.le_trans (flat_le _ 8 r.Body (fun a ha => (b4 a (List.mem_cons_of_mem _ ha)).1)) (Nat.mul_le_mul_right _ b2)
  have hh := (b4 r.Head (List.mem_cons_self ..)).1
  exact ⟨⟨by omega, by omega, by omega⟩, by omega, by omega, by omega, by omega⟩
theorem firstE_all : ∀ {l : List GRule}, firstE l = .nil → ∀ r ∈ l, ckR r = .nil
  | [], _, r, hr => by cases hr
  | x :: q, h, r, hr => by
    rw [firstE] at h
    split at h
    · rename_i hx
      rcases List.mem_cons.1 hr with e | e
      · rw [e]; exact hx
      · exact firstE_all h r e
    · cases h
theorem dec_len : ∀ u : Nat, (Lib.decDigits u).length ≤ u + 1 := by
  intro u
  induction u using Nat.strongRecOn with
  | _ u ih =>
    by_cases h : u < 10
    · rw [dec_sm h]; simp
    · rw [dec_bg h, List.length_append]
      have := ih (u / 10) (by omega)
      simp only [List.length_cons, List.length_nil]
      omega
theorem keyOk_of {a : GAtom} (hn : a.Name.size ≤ 100) (hl : a.Args.length ≤ 8) (hx : ∀ x ∈ a.Args, x.size ≤ 140737488355328) : KeyOk a := by
  refine ⟨?_, by omega⟩
  rw [← bl_len]
  unfold atomKey
  rw [bl_fold, bl_append, bl_append, bl_ita, List.length_append, List.length_append, List.length_append, bl_len, bl_len]
  have h1 := dec_len a.Name.size
  have h2 : (⟨#[32]⟩ : ByteArray).size = 1 := rfl
  have h3 : (a.Args.flatMap encL).length ≤ a.Args.length * 300000000000000 := flat_le _ _ _ (fun x hm => by
    have h4 := dec_len x.size
    have h5 := hx x hm
    unfold encL
    rw [List.length_cons, List.length_append, List.length_cons, bl_len]
    omega)
  have h4 : a.Args.length * 300000000000000 ≤ 8 * 300000000000000 := Nat.mul_le_mul_right _ hl
  omega
/-- the sets that a run reaches -/
structure Inv (p : GProgram) (S : GSet) : Prop where
  ck : ∀ r ∈ p.Rules, ckR r = .nil
  str : StrA S
  over : Over (CC p) S
  sml : ∀ a ∈ S, a.Args.length ≤ 8 ∧ a.Name.size ≤ 100
  frm : ∀ a ∈ S, a ∈ p.Facts ++ p.Rules.flatMap (made1 (CC p))
section
variable {p : GProgram} (hp : Good p)
include hp
theorem inv_len {S : GSet} (h : Inv p S) : S.length ≤ 180 := by
  have h1 := nodup_sub (strA_nodup h.str) h.frm
  rw [List.length_append, flat_len _ _ (made1_len (CC p))] at h1
  have h2 := hp.sm.facts
  have h3 := hp.sm.sum
  unfold CC at h1
  omega
theorem rsols_small {S : GSet} (h : Inv p S) {r : GRule} (hr : r ∈ p.Rules) : (rheads S r).length ≤ 1000 := by
  have h1 := rsols_len h.over (strA_nodup h.str) r
  have h2 := hp.sm.pow r hr
  have h3 : (rheads S r).length = (rsols S r).length := List.length_map _
  unfold CC at h1
  omega
theorem head_const {r : GRule} (hr : r ∈ p.Rules) : ∀ x ∈ r.Head.Args, isV x = false → x ∈ CC p := fun _ hx hv => CC_mem (mem_rule hr (List.mem_cons_self ..)) hx hv
theorem inv_allH {S : GSet} (h : Inv p S) : (allH S p.Rules).length ≤ 8000 := by
  have h1 : (allH S p.Rules).length ≤ p.Rules.length * 1000 := flat_le _ _ _ (fun r hr => rsols_small hp h hr)
  have h2 := hp.sm.rules
  omega
theorem inv_rnd {S : GSet} (h : Inv p S) : RndOk p.Rules S := by
  refine ⟨fun r hr => ?_, fun a ha => by have := (h.sml a ha).1; omega, by have := inv_allH hp h; omega⟩
  obtain ⟨b1, b2, b3, b4⟩ := hp.sm.rule r hr
  refine ⟨by omega, by omega, fun a ha => by have := (b4 a (List.mem_cons_of_mem _ ha)).1; omega, fun a ha => ?_⟩
  have h1 := rheads_made h.over (known_of (h.ck r hr)) (head_const hp hr) ha
  have h2 := b4 r.Head (List.mem_cons_self ..)
  refine keyOk_of ?_ (by rw [rheads_args ha]; exact h2.1) (fun x hx => CC_size hp (h1.2 x hx))
  obtain ⟨b, _, rfl⟩ := List.mem_map.1 ha
  exact h2.2
theorem inv_next {S : GSet} (h : Inv p S) : Inv p (nextS p.Rules S) := by
  have key : ∀ a ∈ allH S p.Rules, (∀ x ∈ a.Args, x ∈ CC p) ∧ (a.Args.length ≤ 8 ∧ a.Name.size ≤ 100) ∧ a ∈ p.Rules.flatMap (made1 (CC p)) := by
    intro a ha
    obtain ⟨r, hr, hq⟩ := List.mem_flatMap.1 ha
    have h1 := rheads_made h.over (known_of (h.ck r hr)) (head_const hp hr) hq
    have h2 := (hp.sm.rule r hr).atoms r.Head (List.mem_cons_self ..)
    refine ⟨h1.2, ⟨by rw [rheads_args hq]; exact h2.1, ?_⟩, List.mem_flatMap.2 ⟨r, hr, h1.1⟩⟩
    obtain ⟨b, _, rfl⟩ := List.mem_map.1 hq
    exact h2.2
  refine ⟨h.ck, (setA_spec _).1, fun a ha => ?_, fun a ha => ?_, fun a ha => ?_⟩
  · rcases mem_next.1 ha with q | q
    · exact h.over a q
    · exact (key a q).1
  · rcases mem_next.1 ha with q | q
    · exact h.sml a q
    · exact (key a q).2.1
  · rcases mem_next.1 ha with q | q
    · exact h.frm a q
    · exact List.mem_append_right _ (key a q).2.2
theorem inv_start (h1 : firstE p.Rules = .nil) (h2 : p.Facts.any badF = false) : Inv p (setA p.Facts) := by
  have hm : ∀ a, a ∈ setA p.Facts → a ∈ p.Facts := fun a ha => ((setA_spec _).2.1 a).1 ha
  refine ⟨firstE_all h1, (setA_spec _).1, fun a ha x hx => ?_, fun a ha => hp.sm.fargs a (hm a ha), fun a ha => List.mem_append_left _ (hm a ha)⟩
  refine CC_mem (mem_fact (hm a ha)) hx ?_
  have h3 := List.any_eq_false.1 h2 a (hm a ha)
  unfold badF at h3
  simp only [Bool.or_eq_true, not_or] at h3
  cases hv : isV x with
  | false => rfl
  | true => exact absurd (List.any_eq_true.2 ⟨x, hx, hv⟩) h3.2
theorem run_spec : ∀ (k : Nat) (S : GSet), Inv p S → 181 ≤ k + S.length → ∃ S', runS p.Rules k S = (S', .nil) ∧ Inv p S' ∧ nextS p.Rules S' = S' ∧ (∀ z ∈ S, z ∈ S') ∧ ∀ Q : GAtom → Prop, (∀ z ∈ S, Q z) → (∀ T : GSet, (∀ z ∈ T, Q z) → Inv p T → ∀ z ∈ allH T p.Rules, Q z) → ∀ z ∈ S', Q z := by
  intro k
  induction k with
  | zero => intro S h1 h2; have := inv_len hp h1; omega
  | succ k ih =>
    intro S h1 h2
    have h3 := inv_next hp h1
    have h4 := inv_len hp h3
    have hge := next_ge (rules := p.Rules) h1.str
    rw [runS, if_neg (by omega)]
    by_cases e : (nextS p.Rules S).length = S.length
    · rw [if_pos e]
      exact ⟨S, rfl, h1, next_fix h1.str e, fun z hz => hz, fun Q hQ _ => hQ⟩
    · rw [if_neg e]
      obtain ⟨S', g1, g2, g3, g4, g5⟩ := ih (nextS p.Rules S) h3 (by omega)
      refine ⟨S', g1, g2, g3, fun z hz => g4 z (mem_next.2 (.inl hz)), fun Q hQ hr => g5 Q (fun z hz => ?_) hr⟩
      rcases mem_next.1 hz with q | q
      · exact hQ z q
      · exact hr S hQ h1 z q
theorem solve_good (g : Nat) (hg : 3000000 < g) : M_datalog_Solve g p.Facts p.Rules = some (solveS g p.Facts p.Rules) := by
  have h1 := hp.sm.facts
  have h2 := hp.sm.rules
  refine solve_eq g p.Facts p.Rules (fun r hr => (ckOk_small hp.sm hr).1) ⟨fun a ha => by have := (hp.sm.fargs a ha).1; omega, by omega⟩ (by omega) (fun r hr => by have := (ckOk_small hp.sm hr).2.2.1; omega) hg (by omega) (Inv p) (fun h3 h4 _ => inv_start hp h3 h4) (fun S h => inv_rnd hp h) (fun S h _ => inv_next hp h)
theorem solve_wrong (g : Nat) {e : Int} (hw : wrongE p.Facts p.Rules = .no e) : solveS g p.Facts p.Rules = ([], .no e) := by
  unfold wrongE at hw
  unfold solveS
  cases hf : firstE p.Rules with
  | no e' => rw [hf] at hw; cases hw; rfl
  | nil =>
    rw [hf] at hw
    simp only [] at hw ⊢
    split at hw
    · rename_i hb
      rw [if_pos hb]; cases hw; rfl
    · cases hw
theorem wrong_nil (hw : wrongE p.Facts p.Rules = .nil) : firstE p.Rules = .nil ∧ p.Facts.any badF = false := by
  unfold wrongE at hw
  cases hf : firstE p.Rules with
  | no e' => rw [hf] at hw; cases hw
  | nil =>
    rw [hf] at hw
    simp only [] at hw
    split at hw
    · cases hw
    · rename_i hb; exact ⟨rfl, by simpa using hb⟩
theorem solve_nil (g : Nat) (hw : wrongE p.Facts p.Rules = .nil) : solveS g p.Facts p.Rules = runS p.Rules g (setA p.Facts) := by
  obtain ⟨h1, h2⟩ := wrong_nil hp hw
  have h3 := hp.sm.rules
  have h4 := inv_len hp (inv_start hp h1 h2)
  unfold solveS
  rw [h1]
  simp only []
  rw [h2, if_neg (by decide), if_neg (by omega), if_neg (by omega)]
/-- the model: what follows, in order -/
theorem solve_der (g : Nat) (hg : 3000000 < g) (hw : wrongE p.Facts p.Rules = .nil) : ∃ S, solveS g p.Facts p.Rules = (S, .nil) ∧ Inv p S ∧ S.length ≤ 180 ∧ nextS p.Rules S = S ∧ ∀ z, z ∈ S ↔ Der p.Facts p.Rules z := by
  obtain ⟨h1, h2⟩ := wrong_nil hp hw
  obtain ⟨S, g1, g2, g3, g4, g5⟩ := run_spec hp g (setA p.Facts) (inv_start hp h1 h2) (by omega)
  have hk : ∀ r ∈ p.Rules, Known r := fun r hr => known_of (firstE_all h1 r hr)
  refine ⟨S, by rw [solve_nil hp g hw, g1], g2, inv_len hp g2, g3, fun z => ⟨fun hz => ?_, fun hz => ?_⟩⟩
  · refine g5 (Der p.Facts p.Rules) (fun z hz => .fact (((setA_spec _).2.1 z).1 hz)) (fun T hT _ z hz => ?_) z hz
    obtain ⟨r, hr, σ, ⟨h3, h4⟩, rfl⟩ := (allH_mem hk).1 hz
    exact .rule hr (fun a ha => hT _ (h3 a ha)) h4
  · induction hz with
    | fact h => exact g4 _ (((setA_spec _).2.1 _).2 h)
    | rule hr hb hu ih =>
      rw [← g3]
      exact mem_next.2 (.inr ((allH_mem hk).2 ⟨_, hr, _, ⟨ih, hu⟩, rfl⟩))
end
end Go.Proofs.YtflgpccacloadaaDoor.Am
/- Models printed by my decompiler, and the proofs that the code computes them. -/
namespace Go.Proofs.YtflgpccacloadaaDoor.Am
open Go.RowKit
end Go.Proofs.YtflgpccacloadaaDoor.Am
/- Plain law: DatalogSolves. -/
namespace Go.Proofs.YtflgpccacloadaaDoor.Am
open Go.RowKit
/-- what the guards ask -/
structure PrgOk (p : GProgram) : Prop where
  fl : p.Facts.length ≤ 3600000000000
  rl : p.Rules.length ≤ 3600000000000
  hx : ∀ a ∈ allA p, ∀ x ∈ a.Args, isV x = false → x.size ≤ 140737488355328
theorem prg_good {p : GProgram} (h : PrgOk p) (hs : Small p) : Good p := ⟨hs, h.hx⟩
def GG : Nat := 4000000000000
theorem large_ok {p : GProgram} (h : PrgOk p) : ∃ b, M_stratagem_stratagemlaw16_Program_Large GG p = some b ∧ (b = false → Good p) := by
  obtain ⟨b, h1, h2⟩ := large_eq GG p (by decide) (Nat.le_trans h.fl (by decide)) (Nat.le_trans h.rl (by decide)) (Nat.lt_of_le_of_lt h.fl (by decide))
  exact ⟨b, h1, fun hb => prg_good h (h2 hb)⟩
end Go.Proofs.YtflgpccacloadaaDoor.Am
/- Readers of programs of facts and rules, with the sizes of their strings. -/
namespace Go.Proofs.YtflgpccacloadaaDoor.Am
open Go.RowKit Go.ChangeShapes Go.WideShapes Go.Deep Go.Joins
def zA (a : GAtom) : Prop := ∀ x ∈ a.Args, x.size ≤ 140737488355328
def zAs (l : List GAtom) : Prop := l.length * 40 ≤ 140737488355328 ∧ ∀ a ∈ l, zA a
def zP (p : ByteArray × ByteArray) : Prop := p.1.size ≤ 140737488355328 ∧ p.2.size ≤ 140737488355328
def zR (r : GRule) : Prop := zA r.Head ∧ (∀ a ∈ r.Body, zA a) ∧ ∀ p ∈ r.Unequal, zP p
section
variable {H : Type} {enc : TypeId × Value → H} {w : World} {base : Nat} {spare : Nat → Bool} {held : Bool}
set_option maxRecDepth 100000 in
theorem zAtom : OpensB enc Tryd.prog w base spare held 24 cGAtom zA wA :=
  opensB_conv (fun p : ByteArray × List ByteArray => { Name := p.1, Args := p.2 : GAtom })
    (opensB_struct Tryd.underlying24
      (opensFB_cons (off' := 1) (en := fun s : ByteArray => [AV.c (.string s)]) (R := fun s => s.size ≤ 140737488355328) (wt := fun s => s.size + 1) (en' := fun l : List ByteArray => [AV.sl 1 (l.map cS)]) (R' := fun l : List ByteArray => l.length * 16 ≤ 140737488355328 ∧ ∀ s ∈ l, s.size ≤ 140737488355328) (wt' := fun l : List ByteArray => (l.map (fun s : ByteArray => s.size + 1)).sum + 1) rfl (by kernel_rfl) (opensB_str Tryd.underlying9) (opensFB_last rfl (by kernel_rfl) bStrs)))
    (fun _ => rfl) (fun _ h => h.2.2) (fun _ => Nat.le_refl _)
set_option maxRecDepth 100000 in
theorem zAtoms : OpensB enc Tryd.prog w base spare held 25 (fun l : List GAtom => [.sl 2 (l.map cGAtom)]) zAs wAs :=
  opensB_slice (sz := 2) (by_ := 40) Tryd.underlying25 (by kernel_rfl) (by kernel_rfl) (by decide) (by decide) zAtom
theorem sized_part {P : Program} {t e : TypeId} {n : Nat} {parts : List (DataW H)} (h : Sized P t (.agg parts)) (hu : P.underlying t = some (.array n e)) {d : DataW H} (hd : d ∈ parts) : Sized P e d :=
  fun n hn => h n (by
    simp only [DataW.weights, hu]
    exact weightsAll_mem hd n hn)
theorem sized_str {P : Program} {t : TypeId} {z : ByteArray} (h : Sized P t (.lit (.string z.data.toList) : DataW H)) : z.size ≤ 140737488355328 := by
  have e : z.data.toList.length = z.size := by rw [Array.length_toList]; rfl
  have h1 : z.data.toList.length ≤ 140737488355328 := Nat.le_trans (h z.data.toList.length (List.mem_singleton.2 rfl)) (by decide)
  omega
set_option maxRecDepth 100000 in
theorem zPair : OpensB enc Tryd.prog w base spare held 58 cA2_cS zP (fun p => p.1.size + p.2.size + 2) := by
  intro fuel cs x hx hsz
  obtain ⟨xs, m, _, rfl, hcl, hxl, hf⟩ := DataW.trod_array Tryd.underlying58 hx
  have hc : Tryd.prog.cellsOf 58 = 2 := by kernel_rfl
  have hi : Tryd.prog.cellsOf 9 = 1 := by kernel_rfl
  rw [hc] at hcl
  match cs, hcl, xs, hxl, hf with
  | [c0, c1], _, [x0, x1], _, hf =>
    have h0 := hf 0 (by decide)
    have h1 := hf 1 (by decide)
    rw [hi] at h0 h1
    obtain ⟨z0, e0, q0, _⟩ := DataW.trod_string Tryd.underlying9 h0
    obtain ⟨z1, e1, q1, _⟩ := DataW.trod_string Tryd.underlying9 h1
    have e0' : c0 = .string z0 := by simpa using e0
    have e1' : c1 = .string z1 := by simpa using e1
    subst e0' e1'
    have k0 : z0.data.toList.length = z0.size := by rw [Array.length_toList]; rfl
    have k1 : z1.data.toList.length = z1.size := by rw [Array.length_toList]; rfl
    refine ⟨(z0, z1), ⟨?_, ?_⟩, ?_, cells_append (cells_one1 (.c _) rfl (.c _)) (cells_one1 (.c _) rfl (.c _))⟩
    · exact sized_str (P := Tryd.prog) (t := 9) (sized_part hsz Tryd.underlying58 (by show (DataW.lit (Lit.string z0.data.toList) : DataW H) ∈ [x0.1, x1.1]; rw [q0]; exact List.mem_cons_self ..))
    · exact sized_str (P := Tryd.prog) (t := 9) (sized_part hsz Tryd.underlying58 (by show (DataW.lit (Lit.string z1.data.toList) : DataW H) ∈ [x0.1, x1.1]; rw [q1]; exact List.mem_cons_of_mem _ (List.mem_cons_self ..)))
    rw [q0, q1]
    simp only [List.map_cons, List.map_nil, Rows.uptoBulk, Rows.uptoBulkAll, k0, k1]
    omega
def zUn (l : List (ByteArray × ByteArray)) : Prop := l.length * 32 ≤ 140737488355328 ∧ ∀ p ∈ l, zP p
set_option maxRecDepth 100000 in
theorem zUns : OpensB enc Tryd.prog w base spare held 26 (fun l : List (ByteArray × ByteArray) => [.sl 2 (l.map cA2_cS)]) zUn wUn :=
  opensB_slice (sz := 2) (by_ := 32) Tryd.underlying26 (by kernel_rfl) (by kernel_rfl) (by decide) (by decide) zPair
set_option maxRecDepth 100000 in
theorem zRule : OpensB enc Tryd.prog w base spare held 28 cGRule zR wR :=
  opensB_conv (fun p : GAtom × (List GAtom × List (ByteArray × ByteArray)) => { Head := p.1, Body := p.2.1, Unequal := p.2.2 : GRule })
    (opensB_struct Tryd.underlying28
      (opensFB_cons (off' := 2) (en := cGAtom) (R := zA) (wt := wA) (en' := fun p : List GAtom × List (ByteArray × ByteArray) => [AV.sl 2 (p.1.map cGAtom)] ++ [AV.sl 2 (p.2.map cA2_cS)]) (R' := fun p => zAs p.1 ∧ zUn p.2) (wt' := fun p => wAs p.1 + wUn p.2) rfl (by kernel_rfl) zAtom
        (opensFB_cons (off' := 3) (en := fun l : List GAtom => [AV.sl 2 (l.map cGAtom)]) (R := zAs) (wt := wAs) (en' := fun l : List (ByteArray × ByteArray) => [AV.sl 2 (l.map cA2_cS)]) (R' := zUn) (wt' := wUn) rfl (by kernel_rfl) zAtoms (opensFB_last rfl (by kernel_rfl) zUns))))
    (fun _ => rfl) (fun _ h => ⟨h.1, h.2.1.2, h.2.2.2⟩) (fun _ => Nat.le_refl _)
def zRs (l : List GRule) : Prop := l.length * 88 ≤ 140737488355328 ∧ ∀ r ∈ l, zR r
def wRs (l : List GRule) : Nat := (l.map wR).sum + 1
set_option maxRecDepth 100000 in
theorem zRules : OpensB enc Tryd.prog w base spare held 36 (fun l : List GRule => [.sl 4 (l.map cGRule)]) zRs wRs :=
  opensB_slice (sz := 4) (by_ := 88) Tryd.underlying36 (by kernel_rfl) (by kernel_rfl) (by decide) (by decide) zRule
set_option maxRecDepth 100000 in
theorem zProg : OpensB enc Tryd.prog w base spare held 38 cGProgram (fun p => zAs p.Facts ∧ zRs p.Rules) (fun p => wAs p.Facts + wRs p.Rules) :=
  opensB_conv (fun p : List GAtom × List GRule => { Facts := p.1, Rules := p.2 : GProgram })
    (opensB_struct Tryd.underlying38
      (opensFB_cons (off' := 1) (en := fun l : List GAtom => [AV.sl 2 (l.map cGAtom)]) (R := zAs) (wt := wAs) (en' := fun l : List GRule => [AV.sl 4 (l.map cGRule)]) (R' := zRs) (wt' := wRs) rfl (by kernel_rfl) zAtoms (opensFB_last rfl (by kernel_rfl) zRules)))
    (fun _ => rfl) (fun _ h => h) (fun _ => Nat.le_refl _)
end
theorem prgOk_of {p : GProgram} (h1 : zAs p.Facts) (h2 : zRs p.Rules) : PrgOk p := by
  refine ⟨by have := h1.1; omega, by have := h2.1; omega, fun a ha x hx _ => ?_⟩
  rcases List.mem_append.1 ha with q | q
  · exact h1.2 a q x hx
  · obtain ⟨r, hr, q⟩ := List.mem_flatMap.1 q
    rcases List.mem_cons.1 q with e | e
    · rw [e] at hx; exact (h2.2 r hr).1 x hx
    · exact (h2.2 r hr).2.1 a e x hx
end Go.Proofs.YtflgpccacloadaaDoor.Am
/- Models printed by my decompiler, and the proofs that the code computes them. -/
namespace Go.Proofs.YtflgpccacloadaaDoor.Am
open Go.RowKit
end Go.Proofs.YtflgpccacloadaaDoor.Am
/- Plain law: DatalogGrows. -/
namespace Go.Proofs.YtflgpccacloadaaDoor.Am
open Go.RowKit
theorem addC_nodup : ∀ (l out : List ByteArray), out.Nodup → (l.foldl addC out).Nodup
  | [], out, h => h
  | s :: r, out, h => by
    rw [List.foldl_cons]
    refine addC_nodup r _ ?_
    unfold addC
    split
    · exact h
    · split
      · exact h
      · rename_i hn _
        refine List.nodup_append.2 ⟨h, by simp, fun x hx y hy e => ?_⟩
        simp at hy
        exact hn (by rw [← hy, ← e]; exact hx)
theorem consts_le {l l' : List GAtom} (h : ∀ a ∈ l, a ∈ l') : (consts l).length ≤ (consts l').length := by
  refine nodup_sub (addC_nodup _ [] List.nodup_nil) (fun x hx => ?_)
  rcases (addC_mem _ _ _).1 hx with q | ⟨q, hv⟩
  · cases q
  · obtain ⟨a, ha, hx⟩ := List.mem_flatMap.1 q
    exact (addC_mem _ _ _).2 (.inr ⟨List.mem_flatMap.2 ⟨a, h a ha, hx⟩, hv⟩)
theorem sum_le {α : Type} {f g : α → Nat} (h : ∀ x, f x ≤ g x) : ∀ l : List α, (l.map f).sum ≤ (l.map g).sum
  | [] => Nat.le_refl _
  | x :: r => by
    rw [List.map_cons, List.map_cons, List.sum_cons, List.sum_cons]
    exact Nat.add_le_add (h x) (sum_le h r)
theorem small_part {p q : GProgram} (hq : Small q) {F : List GAtom} {R : List GRule} (h1 : q.Facts = p.Facts ++ F) (h2 : q.Rules = p.Rules ++ R) : Small p := by
  have hall : ∀ a ∈ allA p, a ∈ allA q := by
    intro a ha
    unfold allA at ha ⊢
    rw [h1, h2]
    rcases List.mem_append.1 ha with e | e
    · exact List.mem_append_left _ (List.mem_append_left _ e)
    · rw [List.flatMap_append]
      exact List.mem_append_right _ (List.mem_append_left _ e)
  have hc := consts_le hall
  obtain ⟨s1, s2, s3, s4, s5, s6⟩ := hq
  rw [h1] at s1 s3
  rw [h2] at s2 s4 s5 s6
  rw [List.length_append] at s1 s2
  refine ⟨by omega, by omega, fun a ha => s3 a (List.mem_append_left _ ha), fun r hr => s4 r (List.mem_append_left _ hr), fun r hr => ?_, ?_⟩
  · exact Nat.lt_of_le_of_lt (Nat.pow_le_pow_left hc _) (s5 r (List.mem_append_left _ hr))
  · rw [List.map_append, List.sum_append] at s6
    have := sum_le (f := fun r : GRule => (consts (allA p)).length ^ min r.Head.Args.length (vars r.Body).length) (g := fun r : GRule => (consts (allA q)).length ^ min r.Head.Args.length (vars r.Body).length) (fun r => Nat.pow_le_pow_left hc _) p.Rules
    omega
theorem der_mono {F F' : List GAtom} {R R' : List GRule} (h1 : ∀ a ∈ F, a ∈ F') (h2 : ∀ r ∈ R, r ∈ R') {z : GAtom} (h : Der F R z) : Der F' R' z := by
  induction h with
  | fact h => exact .fact (h1 _ h)
  | rule hr _ hu ih => exact .rule (h2 _ hr) ih hu
end Go.Proofs.YtflgpccacloadaaDoor.Am
/- Append to a part of a row that goes to the row's end: the row goes on, or a new row begins; both are to be shown. -/
namespace Go.Proofs.YtflgpccacloadaaDoor.Am
open Go.RowKit
section
variable {C : Cx} {n : Nat} {w0 : World} {X : XX} {τ : Nat → AV} {η : Nat → Ent} {m : MM} {a : Act} {w : World}
theorem Flat.longer {vs : Shp} {sz : Nat} {els : List (List AV)} {xs ys : List Value} (h : Flat w vs m sz els xs.toArray) : Flat w vs m sz els (xs ++ ys).toArray := by
  refine ⟨Nat.le_trans h.1 (by simp), fun k e he => ⟨(h.2 k e he).1, fun j x hx => ?_⟩⟩
  obtain ⟨u, u1, u2, u3⟩ := (h.2 k e he).2 j x hx
  refine ⟨u, ?_, u2, u3⟩
  rw [List.getElem?_toArray] at u1 ⊢
  rw [List.getElem?_append_left (List.getElem?_eq_some_iff.1 u1).1]
  exact u1
theorem Rep.rowedQ (h : Rep C n w0 X τ η m a w) {i ver' E sz g : Nat} {src : Option Nat} {cur : Array Value} {w' : World} {els' : List (List AV)} (hin : i < n) (hsrc : src = none ∨ ((η i).blk ≠ none ∧ m i = src))
    (hver : (η i).ver < ver') (hh : w'.heap[g]? = some (.cells cur E (0, 0))) (hg : w.grownBy w' src) (hb' : some g = src ∨ g = w.heap.size) (hf : Flat w (shp η) m sz els' cur) :
    Rep C n w0 X τ (updE η i ⟨ver', some ⟨E, sz, false, els'⟩⟩) (newM m i (some g)) a w' ∧ Mono w (shp η) m w' (shp (updE η i ⟨ver', some ⟨E, sz, false, els'⟩⟩)) (newM m i (some g)) := by
  have hvi : ∀ b, src = some b → (η i).blk ≠ none ∧ m i = some b := fun b hb => by
    rcases hsrc with h1 | ⟨h1, h2⟩
    · rw [h1] at hb; cases hb
    · exact ⟨h1, by rw [h2, hb]⟩
  have hother : ∀ i' b, i' ≠ i → (η i').blk ≠ none → m i' = some b → w'.heap[b]? = w.heap[b]? := fun i' b hi' hl' hb => hg.block b (h.mem.lt hl' hb) (fun e => by
    obtain ⟨h1, h2⟩ := hvi b e.symm
    exact hi' (h.mem.inj i' i b hl' h1 hb h2))
  have hm : Mono w (shp η) m w' (shp (updE η i ⟨ver', some ⟨E, sz, false, els'⟩⟩)) (newM m i (some g)) := by
    refine ⟨hg.size, fun b hb ho => hg.block b hb (fun e => ?_), fun b hb ho => ?_, fun k => ?_, fun k hk => ?_⟩
    · obtain ⟨h1, h2⟩ := hvi b e.symm
      exact ho (.inr ⟨i, blk_live.2 h1, h2⟩)
    · rintro (h1 | ⟨k, h1, h2⟩)
      · exact ho (.inl h1)
      by_cases hk : k = i
      · subst hk
        rw [newM_same] at h2
        injection h2 with h2
        rcases hb' with e | e
        · obtain ⟨h3, h4⟩ := hvi b (by rw [← e, h2])
          exact ho (.inr ⟨k, blk_live.2 h3, h4⟩)
        · omega
      · rw [newM_other _ _ hk] at h2
        exact ho (.inr ⟨k, by simpa [shp, updE, hk] using h1, h2⟩)
    · by_cases hk : k = i
      · subst hk; simp only [shp, updE, if_true]; omega
      · simp [shp, updE, hk]
    · by_cases hki : k = i
      · subst hki; simp only [shp, updE, if_true] at hk; omega
      · refine ⟨by simp [shp, updE, hki], fun hl => ⟨newM_other _ _ hki, fun b hb => ?_⟩⟩
        unfold World.shape?
        rw [hother k b hki (blk_live.1 hl) hb]
  have hblk : X g ∨ w0.heap.size ≤ g := by
    rcases hb' with e | e
    · obtain ⟨h1, h2⟩ := hvi g e.symm
      exact h.own i g h1 h2
    · have := h.kin.size; exact .inr (by omega)
  refine ⟨?_, hm⟩
  refine h.move hm (h.mem.upd hm (fun i' hi => newM_other _ _ hi) hother (fun B hB => ?_) (fun i' b hi' hl' hb2 _ => ?_) (fun b _ hb => ?_) rfl (fun b _ hb ho => ?_)) (h.kin.grown hg (fun b e => ?_)) rfl (fun i' b hl' hb => ?_) (fun k hk => by simp [updE, show k ≠ i from by omega])
  · injection hB with hB
    subst hB
    rw [newM_same]
    have hf' := hf.mono hm
    refine ⟨cur, .cells hh rfl, hf'.1, fun k e he => ⟨(hf'.2 k e he).1, fun j x hx => ?_⟩⟩
    obtain ⟨u, u1, u2, u3⟩ := (hf'.2 k e he).2 j x hx
    exact ⟨u, u1, fun _ => u2, u3⟩
  · rw [newM_same]
    intro e
    injection e with e
    rcases hb' with e1 | e1
    · obtain ⟨h1, h2⟩ := hvi b (by rw [← e1, e])
      exact hi' (h.mem.inj i' i b hl' h1 hb2 h2)
    · have := h.mem.lt hl' hb2; omega
  · rw [newM_same] at hb
    injection hb with hb
    rcases hb' with e1 | e1
    · obtain ⟨h1, h2⟩ := hvi b (by rw [← e1, hb])
      exact h.mem.low i b h1 h2
    · have := h.mem.big; omega
  · rw [newM_same] at hb
    injection hb with hb
    rcases hb' with e1 | e1
    · obtain ⟨h1, h2⟩ := hvi b (by rw [← e1, hb])
      exact h.mem.sep i b h1 h2 ho
    · have := (h.mem.olt b ho).1; omega
  · obtain ⟨h1, h2⟩ := hvi b e
    exact h.own i b h1 h2
  · by_cases hi : i' = i
    · subst hi; rw [newM_same] at hb; injection hb with hb; rw [← hb]; exact hblk
    · rw [newM_other _ _ hi] at hb
      exact h.own i' b (by simpa [updE, hi] using hl') hb
end
section
variable {C : Cx} {n : Nat} {o : Oper} {τ : Nat → AV} {η : Nat → Ent} {t : TypeId} {ti : TI}
theorem s_append_q {x y : Operand} {e : TypeId} {te : TI} {i ver k len : Nat} {B : Blk} {new : List (List AV)} (ho : o.op = .call { callee := .builtin .append, args := #[x, y], argTypes := #[t, t] }) (hd : InB n o.dst)
    (hin : i < n) (hx : evA τ x = .own i ver k len) (hi : η i = ⟨ver, some B⟩) (hlen : B.els.length = k + len) (hs : Src η B.sz new (evA τ y)) (ht : TyOk C.P t ti) (hk : ti.kind = .slice e) (hte : TyOk C.P e te) (hsz : te.sz = B.sz) (hty : B.ty = e) (hpos : 0 < B.sz) (hnew : 0 < new.length)
    (hroom : (len + new.length) * te.bytes ≤ 140737488355328) (hmax : len + new.length ≤ 9223372036854775807) :
    ∀ w0 X m a w, Rep C n w0 X τ η m a w → o.wp C.P a w (fun a' w' => ∃ (pre : List (List AV)) (m' : MM), (pre = [] ∨ pre = B.els.take k) ∧ Rep C n w0 X (putA τ o.dst (.own i (ver + 1) pre.length (len + new.length))) (updE η i ⟨ver + 1, some ⟨e, B.sz, false, pre ++ (B.els.drop k ++ new)⟩⟩) m' a' w') (fun _ _ _ => False) := by
  intro w0 X m a w h
  have hv := h.ev x
  rw [hx] at hv
  obtain ⟨A, c, news, hy, hr, h1, hf⟩ := src_ok h hs
  obtain ⟨ad, rfl, _, hcells⟩ := hr.2 hnew
  obtain ⟨i0, hi0, hz0, hz1, hz2⟩ := info_parts hte.info
  have hnl : news.length = new.length * i0.size := by rw [hr.1, hz1, hsz]
  have hzc : te.zero.cells.size = B.sz := by rw [hte.cells, hsz]
  have hs0 : (shp η) i = (ver, some B.sz) := by simp [shp, hi]
  have hlive : (η i).blk ≠ none := by rw [hi]; simp
  have hverlt : (η i).ver < ver + 1 := by rw [hi]; exact Nat.lt_succ_self _
  have hdl : (B.els.drop k).length = len := by rw [List.length_drop]; omega
  have hdt : (B.els.drop k).take len = B.els.drop k := List.take_of_length_le (by omega)
  -- a new row
  have grow : ∀ (u : Value) (olds : List Value) (cap : Nat), a.eval x = u → olds.length = len * B.sz → Flat w (shp η) m B.sz (B.els.drop k) olds.toArray → cap < len + new.length →
      (Builtin.append_ #[t, t] o.type #[u, .slice (some ad) new.length c]).run C.P w = .ok (.slice (some ⟨w.heap.size, 0, none⟩) (len + new.length) (grownCap w (len + new.length) cap e)) (w.drew.alloc (.cells (olds.toArray ++ news.toArray ++ Builtin.zeroCells te.zero.cells (grownCap w (len + new.length) cap e - (len + new.length))) e)) →
      o.wp C.P a w (fun a' w' => ∃ (pre : List (List AV)) (m' : MM), (pre = [] ∨ pre = B.els.take k) ∧ Rep C n w0 X (putA τ o.dst (.own i (ver + 1) pre.length (len + new.length))) (updE η i ⟨ver + 1, some ⟨e, B.sz, false, pre ++ (B.els.drop k ++ new)⟩⟩) m' a' w') (fun _ _ _ => False) := by
    intro u olds cap hu hol hfo hcap hrun
    have hge := grownCap_ge w (len + new.length) cap e
    have hcm := grownCap_le_maxLen w (len + new.length) cap e (by simp only [maxLen]; exact hmax)
    have hcur : (olds.toArray ++ news.toArray ++ Builtin.zeroCells te.zero.cells (grownCap w (len + new.length) cap e - (len + new.length))).size = grownCap w (len + new.length) cap e * B.sz := by
      simp only [Array.size_append, List.size_toArray, size_zeroCells, hzc, hol, hr.1, ← Nat.add_mul]
      congr 1
      omega
    have hfl : Flat w (shp η) m B.sz ([] ++ (B.els.drop k ++ new)) (olds.toArray ++ news.toArray ++ Builtin.zeroCells te.zero.cells (grownCap w (len + new.length) cap e - (len + new.length))) := by
      have := (Flat.append hfo hf (by rw [hdl]; exact hol)).longer (ys := (Builtin.zeroCells te.zero.cells (grownCap w (len + new.length) cap e - (len + new.length))).toList)
      have e1 : (olds ++ news ++ (Builtin.zeroCells te.zero.cells (grownCap w (len + new.length) cap e - (len + new.length))).toList).toArray = olds.toArray ++ news.toArray ++ Builtin.zeroCells te.zero.cells (grownCap w (len + new.length) cap e - (len + new.length)) := by
        apply Array.ext'
        simp
      rw [e1] at this
      exact this
    have hnewb := heap_alloc_new w.drew (.cells (olds.toArray ++ news.toArray ++ Builtin.zeroCells te.zero.cells (grownCap w (len + new.length) cap e - (len + new.length))) e)
    obtain ⟨r1, _⟩ := h.rowedQ (i := i) (ver' := ver + 1) (E := e) (sz := B.sz) (g := w.heap.size) (src := none) hin (.inl rfl) hverlt hnewb ⟨rfl, rfl, rfl, by simp, fun k' hk' _ => heap_alloc_old w.drew _ hk'⟩ (.inr rfl) hfl
    have r2 := RV.own (w := w.drew.alloc (.cells (olds.toArray ++ news.toArray ++ Builtin.zeroCells te.zero.cells (grownCap w (len + new.length) cap e - (len + new.length))) e)) (vs := shp (updE η i ⟨ver + 1, some ⟨e, B.sz, false, [] ++ (B.els.drop k ++ new)⟩⟩)) (m := newM m i (some w.heap.size)) (i := i) (ver := ver + 1) (sz := B.sz) (k := 0) (len := len + new.length) (cap := grownCap w (len + new.length) cap e) (b := w.heap.size) (ty := e) (n := grownCap w (len + new.length) cap e * B.sz) (by simp [shp, updE]) (by rw [newM_same]) hge hcm (by simp only [World.shape?]; rw [show w.heap.size = w.drew.heap.size from rfl, hnewb]; exact congrArg (fun z => some (e, z)) hcur) (by rw [Nat.zero_add])
    unfold Oper.wp
    simp only [execOp, ho, resolve, invoke, builtin, Sem.run_bind, Sem.run_pure, Result.andThen_ok, List.map_toArray, List.map_cons, List.map_nil, hy, hu, hrun]
    refine ⟨[], _, .inl rfl, r1.put hd ?_⟩
    simpa using r2
  rcases rv_own hv hi with ⟨hk0, hl0, hmn, hu⟩ | ⟨k', A', hk0, hl0, hu⟩ | ⟨b, cap, ty, nn, e1, e2, e3, e4, e5, hu⟩
  · subst hl0
    have hfo : Flat w (shp η) m B.sz (B.els.drop k) ([] : List Value).toArray := by
      rw [List.eq_nil_of_length_eq_zero hdl]; exact ⟨by simp, fun k e he => by simp at he⟩
    have hrun := run_append_nil (P := C.P) w t o.type e i0 te.zero (ht.sliceU hk) hi0 hz0 ad new.length c news hnl hcells hnew (by omega) (by rw [hz2]; exact Nat.le_trans (show new.length * te.bytes ≤ 140737488355328 by simpa using hroom) (by decide))
    refine grow _ [] 0 hu (by simp) hfo (by omega) ?_
    simp only [Nat.zero_add]
    rw [hrun]
    congr 4
    simp
  · subst hl0
    have hfo : Flat w (shp η) m B.sz (B.els.drop k) ([] : List Value).toArray := by
      rw [List.eq_nil_of_length_eq_zero hdl]; exact ⟨by simp, fun k e he => by simp at he⟩
    cases A' with
    | none =>
      have hrun := run_append_nil (P := C.P) w t o.type e i0 te.zero (ht.sliceU hk) hi0 hz0 ad new.length c news hnl hcells hnew (by omega) (by rw [hz2]; exact Nat.le_trans (show new.length * te.bytes ≤ 140737488355328 by simpa using hroom) (by decide))
      refine grow _ [] 0 hu (by simp) hfo (by omega) ?_
      simp only [Nat.zero_add]
      rw [hrun]
      congr 4
      simp
    | some bb =>
      have hrun := run_append_grow (P := C.P) w t o.type e i0 te.zero (ht.sliceU hk) hi0 hz0 bb 0 0 [] (by simp) (fun j v hj => by simp at hj) ad new.length c news hnl hcells (by omega) (by omega) (by rw [hz2]; exact growslice_fits (by omega) hroom)
      exact grow _ [] 0 hu (by simp) hfo (by omega) hrun
  · obtain ⟨A2, c2, olds, hu2, hr2, _, hfo⟩ := src_own hv hi (h.mem.ok i B (by rw [hi])) (by omega)
    rw [hdt] at hfo
    rw [hu] at hu2
    have hA2 : A2 = some ⟨b, k * B.sz, none⟩ := by injection hu2 with q; exact q.symm
    have hol : olds.length = len * B.sz := hr2.1
    by_cases hcap : len + new.length ≤ cap
    · have hok := h.mem.ok i B (by rw [hi])
      rw [e1] at hok
      obtain ⟨arr, a1, a2, a3⟩ := hok.unmap e4
      rw [hty] at a1
      have hsize : arr.size = (k + cap) * B.sz := by
        simp only [World.shape?, a1] at e4
        injection e4 with e4
        injection e4 with _ e4
        omega
      have hfit : (k + len) * B.sz + news.length ≤ arr.size := by
        rw [hr.1, hsize, ← Nat.add_mul]
        exact Nat.mul_le_mul_right _ (by omega)
      have hfc := run_firstCells_some (P := C.P) w i0.size new.length ad new.length c news hnl hcells
      have hst := run_storeCells_at C.P b ((k + len) * B.sz) e news 0 arr w a1 (by simpa using hfit) h1
      simp only [Nat.add_zero] at hst
      have hadd : (⟨b, k * B.sz, none⟩ : Addr).add (len * B.sz) = ⟨b, (k + len) * B.sz, none⟩ := by rw [add_plain, Nat.add_mul]
      have hrun : (Builtin.append_ #[t, t] o.type #[.slice (some ⟨b, k * B.sz, none⟩) len cap, .slice (some ad) new.length c]).run C.P w = .ok (.slice (some ⟨b, k * B.sz, none⟩) (len + new.length) cap) (w.setRow b (arr.toList.take ((k + len) * B.sz) ++ news ++ arr.toList.drop ((k + len) * B.sz + news.length)).toArray) := by
        have hz3 : i0.size = B.sz := by rw [hz1, hsz]
        rw [hz3] at hfc
        simp [Builtin.append_, run_underlying (ht.sliceU hk), sizeOf, typeInfo, hi0, Builtin.lenOf, hcap, hz3, hfc, hadd, hst]
      have hnh := setRow_heap w b arr (arr.toList.take ((k + len) * B.sz) ++ news ++ arr.toList.drop ((k + len) * B.sz + news.length)).toArray e (0, 0) a1
      have hxs : Flat w (shp η) m B.sz B.els (arr.toList.take ((k + len) * B.sz)).toArray := by
        refine ⟨by simp only [List.size_toArray, List.length_take, Array.length_toList, hlen]; omega, fun q x hx => ⟨(a3 q x hx).1, fun j z hz => ?_⟩⟩
        obtain ⟨u, u1, u2, u3⟩ := (a3 q x hx).2 j z hz
        refine ⟨u, ?_, u2, u3⟩
        have hj : j < B.sz := by rw [← (a3 q x hx).1]; exact (List.getElem?_eq_some_iff.1 hz).1
        have hq := mul_lt_of (List.getElem?_eq_some_iff.1 hx).1 hj
        rw [hlen] at hq
        rw [List.getElem?_toArray, List.getElem?_take, if_pos hq]
        simpa using u1
      have hfl : Flat w (shp η) m B.sz (B.els.take k ++ (B.els.drop k ++ new)) (arr.toList.take ((k + len) * B.sz) ++ news ++ arr.toList.drop ((k + len) * B.sz + news.length)).toArray := by
        rw [← List.append_assoc, List.take_append_drop]
        refine (Flat.append hxs hf ?_).longer
        rw [List.length_take, Array.length_toList, hlen]
        omega
      obtain ⟨r1, _⟩ := h.rowedQ (i := i) (ver' := ver + 1) (E := e) (sz := B.sz) (g := b) (src := some b) hin (.inr ⟨hlive, e1⟩) hverlt hnh ⟨rfl, rfl, rfl, by simp, fun k' _ hk' => setRow_other w b k' _ (fun q => hk' (by rw [q]))⟩ (.inl rfl) hfl
      have hsz2 : (arr.toList.take ((k + len) * B.sz) ++ news ++ arr.toList.drop ((k + len) * B.sz + news.length)).toArray.size = arr.size := by
        simp only [List.size_toArray, List.length_append, List.length_take, List.length_drop, Array.length_toList]
        omega
      have htk : (B.els.take k).length = k := by rw [List.length_take]; omega
      have r2 := RV.own (w := w.setRow b (arr.toList.take ((k + len) * B.sz) ++ news ++ arr.toList.drop ((k + len) * B.sz + news.length)).toArray) (vs := shp (updE η i ⟨ver + 1, some ⟨e, B.sz, false, B.els.take k ++ (B.els.drop k ++ new)⟩⟩)) (m := newM m i (some b)) (i := i) (ver := ver + 1) (sz := B.sz) (k := k) (len := len + new.length) (cap := cap) (b := b) (ty := e) (n := arr.size) (by simp [shp, updE]) (by rw [newM_same]) hcap e3 (by simp only [World.shape?]; rw [hnh]; exact congrArg (fun z => some (e, z)) hsz2) hsize.symm
      unfold Oper.wp
      simp only [execOp, ho, resolve, invoke, builtin, Sem.run_bind, Sem.run_pure, Result.andThen_ok, List.map_toArray, List.map_cons, List.map_nil, hy, hu, hrun]
      refine ⟨B.els.take k, _, .inr rfl, r1.put hd ?_⟩
      rw [htk]
      exact r2
    · have holds : ∀ j v, olds[j]? = some v → w.cell? ((⟨b, k * B.sz, none⟩ : Addr).add j) = some v := by
        intro j v hj
        have hl : 0 < len := by
          rcases Nat.eq_zero_or_pos len with q | q
          · have hn : olds = [] := List.eq_nil_of_length_eq_zero (by rw [hol, q, Nat.zero_mul])
            rw [hn] at hj
            simp at hj
          · exact q
        obtain ⟨ad2, q1, _, q2⟩ := hr2.2 hl
        rw [hA2] at q1
        injection q1 with q1
        rw [q1]
        exact q2 j v hj
      have hrun := run_append_grow (P := C.P) w t o.type e i0 te.zero (ht.sliceU hk) hi0 hz0 ⟨b, k * B.sz, none⟩ len cap olds (by rw [hol, hz1, hsz]) holds ad new.length c news hnl hcells (by omega) (by omega) (by rw [hz2]; exact growslice_fits (by omega) hroom)
      exact grow _ olds cap hu hol hfo (by omega) hrun
end
section
variable {C : Cx} {n : Nat} {ops : Array Oper} {i : Nat} {rest : List Nat} {o : Oper} {τ : Nat → AV} {η : Nat → Ent} {w0 : World} {X : XX} {m : MM} {a : Act} {w : World}
/-- one operation of a region by hand -/
theorem wpOps_lf {Q : Exit → Act → World → Prop} {f : Foot} (hi : ops[i]? = some o) (hg : o.guard = none) (hr : Rep C n w0 X τ η m a w) (hlf : LF C n o τ η f) (hk : ∀ m' a' w', Rep C n w0 X (putA τ o.dst f.x) (updAll η f.ups) m' a' w' → wpOps C.P ops Q rest a' w') : wpOps C.P ops Q (i :: rest) a w := by
  refine wpOps_app [i] rest a w ?_
  have := tr_seq (Q := fun e a w => match e with | .normal => wpOps C.P ops Q rest a w | e => Q e a w) [o] i τ η [f] _ _ ⟨ts_run hlf (.inl hg), rfl, rfl⟩ (fun j o' hj => by
    cases j with
    | zero => simp at hj; subst hj; exact hi
    | succ j => simp at hj) w0 X m a w hr hk
  exact this
end
/-- the end of a region: a row that goes on or begins anew, put into a slot -/
theorem wpOps_appQ {C : Cx} {ops : Array Oper} {Q : Exit → St → Prop} {tm : List AV} {hp : List Ent} {L q : Nat} {o o2 : Oper} {x y : Operand} {t e : TypeId} {ti te : TI} {i ver k len d : Nat} {B : Blk} {new : List (List AV)}
    (h4 : ops[q]? = some o) (h5 : ops[q + 1]? = some o2) (g4 : o.guard = none) (g5 : o2.guard = none) (ho : o.op = .call { callee := .builtin .append, args := #[x, y], argTypes := #[t, t] }) (hod : o.dst = some d) (ho2 : o2.op = .assign (.tmp d))
    (hd : InB tm.length o.dst) (hd2 : InB tm.length o2.dst) (hin : i < tm.length) (hx : evA (tmF tm) x = .own i ver k len) (hi : hpF hp i = ⟨ver, some B⟩) (hlen : B.els.length = k + len) (hs : Src (hpF hp) B.sz new (evA (tmF tm) y)) (ht : TyOk C.P t ti) (hk : ti.kind = .slice e) (hte : TyOk C.P e te) (hsz : te.sz = B.sz) (hty : B.ty = e) (hpos : 0 < B.sz) (hnew : 0 < new.length)
    (hroom : (len + new.length) * te.bytes ≤ 140737488355328) (hmax : len + new.length ≤ 9223372036854775807) (hL : tm.length = L)
    (hQ : ∀ pre : List (List AV), (pre = [] ∨ pre = B.els.take k) → stepK tm hp o.dst (.own i (ver + 1) pre.length (len + new.length)) [(i, ⟨ver + 1, some ⟨e, B.sz, false, pre ++ (B.els.drop k ++ new)⟩⟩)] (fun tm1 hp1 => stepK tm1 hp1 o2.dst (.own i (ver + 1) pre.length (len + new.length)) [] (fun tm2 hp2 => True → Q .normal ⟨tm2, hp2⟩))) :
    ∀ w0 X m a w, RepS C w0 X ⟨tm, hp⟩ m a w → wpOps C.P ops (fun e a' w' => ∃ s' m', s'.tm.length = L ∧ Q e s' ∧ RepS C w0 X s' m' a' w') [q, q + 1] a w := by
  intro w0 X m a w hr
  have h0 := s_append_q (C := C) (n := tm.length) ho hd hin hx hi hlen hs ht hk hte hsz hty hpos hnew hroom hmax w0 X m a w hr
  rw [wpOps_cons]
  refine wpOp_of h4 (fun a' w' hK => ?_) (K := fun a' w' => ∃ (pre : List (List AV)) (m' : MM), (pre = [] ∨ pre = B.els.take k) ∧ Rep C tm.length w0 X (putA (tmF tm) o.dst (.own i (ver + 1) pre.length (len + new.length))) (updE (hpF hp) i ⟨ver + 1, some ⟨e, B.sz, false, pre ++ (B.els.drop k ++ new)⟩⟩) m' a' w') ?_
  · obtain ⟨pre, m', hpre, hrep⟩ := hK
    obtain ⟨_, tm1, hp1, e3, e1, e2, hv⟩ := stepK_ok (hQ pre hpre)
    have hrep1 : Rep C tm.length w0 X (tmF tm1) (hpF hp1) m' a' w' := by rw [e1, e2]; exact hrep
    have hval : evA (tmF tm1) (.tmp d) = .own i (ver + 1) pre.length (len + new.length) := by
      rw [e1, hod]
      show putA _ (some d) _ d = _
      simp [putA]
    have hlf : LF C tm.length o2 (tmF tm1) (hpF hp1) ⟨.own i (ver + 1) pre.length (len + new.length), [], []⟩ := lf_pure hd2 (fun τ' η' g1 _ => by
      have := p_move (C := C) (n := tm.length) (o := o2) (τ := τ') (η := η') (x := .tmp d) (.inr ho2)
      rw [g1 (.tmp d) (by simp [ho2, Op.operands]), hval] at this
      exact this)
    refine wpOps_lf h5 g5 hrep1 hlf (fun m2 a2 w2 hrep2 => ?_)
    obtain ⟨_, tm2, hp2, f3, f1, f2, hv2⟩ := stepK_ok hv
    refine ⟨⟨tm2, hp2⟩, m2, by show tm2.length = L; omega, hv2 trivial, ?_⟩
    show Rep C tm2.length w0 X (tmF tm2) (hpF hp2) m2 a2 w2
    rw [f1, f2, f3, e3]
    exact hrep2
  · unfold OpWp
    simp only [Region.wanted, g4]
    exact h0
theorem lf_insert {C : Cx} {n : Nat} {o : Oper} {τ : Nat → AV} {η : Nat → Ent} {t : TypeId} {x y z : Operand} {f : Foot} (ho : o.op = .insert t x y z) (h : LF C n { o with op := .mapUpdate t x y z } τ η f) : LF C n o τ η f := by
  intro τ' η' g1 g2 w0 X m a w hr
  have h1 := h τ' η' (fun u hu => g1 u (by simpa [ho, Op.operands] using hu)) g2 w0 X m a w hr
  unfold Oper.wp at h1 ⊢
  simp only [execOp, ho] at h1 ⊢
  exact h1
/- arrays as rows of their cells -/
section
variable {C : Cx} {n : Nat} {o : Oper} {τ : Nat → AV} {η : Nat → Ent} {t : TypeId} {ti : TI}
theorem flat_cells {w : World} {vs : Shp} {m : MM} {x : AV} {v : Value} (h : RV w vs m x v) (ho : onesA (cellsA x) = true) : Flat w vs m 1 ((cellsA x).map fun c => [c]) v.cells := by
  obtain ⟨h1, h2⟩ := cells_ok h ho
  refine ⟨by simp [h1], fun k e he => ?_⟩
  rw [List.getElem?_map] at he
  obtain ⟨c, hc, rfl⟩ := Option.map_eq_some_iff.1 he
  refine ⟨rfl, fun j x hx => ?_⟩
  cases j with
  | zero =>
    simp at hx
    subst hx
    simpa using h2 k c hc
  | succ j => simp at hx
theorem lf_boxR {x : Operand} {d : Nat} (ho : o.op = .box t x) (hd : o.dst = some d) (hn : InB n o.dst) (hM : isM false t = false) (h1 : onesA (cellsA (evA τ x)) = true) : LF C n o τ η ⟨.ptr d ((η d).ver + 1) 0 0, [(d, ⟨(η d).ver + 1, some ⟨t, 1, false, (cellsA (evA τ x)).map fun c => [c]⟩⟩)], []⟩ := by
  intro τ' η' g1 g2 w0 X m a w h
  have hη : η' d = η d := g2 d (.inr (by simp [Foot.ids]))
  have hn' : d < n := by rw [hd] at hn; exact hn
  have hx := g1 x (by simp [ho, Op.operands])
  have hv := h.ev x
  rw [hx] at hv
  have hf := flat_cells hv h1
  have hr := h.fresh (i := d) (ver := (η d).ver + 1) (B := ⟨t, 1, false, (cellsA (evA τ x)).map fun c => [c]⟩) hM hn' (by rw [hη]; exact Nat.lt_succ_self _) hf
  have hrun : (execOp a.eval o).run C.P w = .ok (.value (.pointer (some ⟨w.heap.size, 0, none⟩))) (w.alloc (.cells (a.eval x).cells t)) := by
    simp [execOp, ho, Instr.box, newVar, newRow, newObj, Sem.run]
  unfold Oper.wp
  rw [hrun]
  refine ⟨_, hr.put hn ?_⟩
  have := RV.ptr (w := w.alloc (.cells (a.eval x).cells t)) (vs := shp (updE η' d ⟨(η d).ver + 1, some ⟨t, 1, false, (cellsA (evA τ x)).map fun c => [c]⟩⟩)) (m := newM m d (some w.heap.size)) (k := 0) (j := 0) shp_new (newM_same _ _ _)
  simpa using this
/-- an element of an array that is a row of cells, by its number -/
theorem lf_arrR {e : TypeId} {te : TI} {x y : Operand} {i ver k q : Nat} {kd : IntKind} {z : Int} {B : Blk} (ho : o.op = .indexAddr t x y) (hd : InB n o.dst) (hx : evA τ x = .ptr i ver k 0) (hi : η i = ⟨ver, some B⟩) (hB : B.sz = 1) (hy : evA τ y = .c (.int kd z)) (ht : TyOk C.P t ti) (hk : ti.kind = .array q e) (hte : TyOk C.P e te)
    (h0 : 0 ≤ z) (h1 : z < q) : LF C n o τ η ⟨.ptr i ver (k + z.toNat * te.sz) 0, [], [i]⟩ := by
  refine lf_pure hd (fun τ' η' g1 g2 => ?_)
  intro w0 X mm a w h
  have hi' : η' i = ⟨ver, some B⟩ := (g2 i (List.mem_singleton.2 rfl)).trans hi
  have e1 := h.ev x
  have e2 := h.ev y
  rw [g1 x (by simp [ho, Op.operands]), hx] at e1
  rw [g1 y (by simp [ho, Op.operands]), hy] at e2
  obtain ⟨b, hb, hu⟩ := rv_ptr e1 hi'
  have hv := RV.ptr (w := w) (vs := shp η') (m := mm) (i := i) (ver := ver) (sz := B.sz) (b := b) (k := k + z.toNat * te.sz) (j := 0) (by simp [shp, hi']) hb
  refine ⟨_, ?_, hv⟩
  have hrun := run_underlying (P := C.P) (ht.arrayU hk)
  simp [execOp, ho, hu, rv_c e2, Instr.indexAt, asIntOf, hrun, Instr.sureAddr, hte.size, h0, h1, add_plain, hB]
end
end Go.Proofs.YtflgpccacloadaaDoor.Am
/- datalog.Depends: the model that my decompiler printed, and the proof that the code computes it: the row of names that are open is worked off from its front, and goes on behind. -/
namespace Go.Proofs.YtflgpccacloadaaDoor.Am
open Go.RowKit
theorem ci_XDep {p K : Prop} (k : K) (h : p := by first | rfl | exact ⟨rfl, rfl⟩ | exact BW.mpf rfl rfl rfl FrI.h rfl | exact cloK3 rfl rfl rfl rfl rfl rfl rfl rfl rfl | exact CloK.bw (BW.fr (by assumption)) | exact BW.fr FrV.h | (refine BW.fr ?_; assumption) | (refine ⟨rfl, ?_⟩; (simp [cGRule, cGAtom, cS, cA2_cS, cF, take_len_map]; done)) | (refine RowK.same ?_ FrI.h; first | rfl | (simp [cGRule, cGAtom, cS, cA2_cS, cF, take_len_map]; done)) | (refine row_part1 ?_; (repeat (first | exact BWL.nil | exact bwll_nil | exact bw_c | exact BW.sl | exact BW.nil | exact bwll_same rfl FrI.h | refine BWL.cons ?_ ?_ | refine bwll_cons ?_ ?_ | (refine bw_own3 rfl rfl rfl FrI.h ?_ ?_ ?_) | exact BW.mpf rfl rfl rfl FrI.h rfl | exact cloK3 rfl rfl rfl rfl rfl rfl rfl rfl rfl | exact CloK.bw (BW.fr (by assumption)) | exact BW.fr FrV.h | exact BW.fr (by assumption) | refine bw_agg ?_ | refine bw_clo ?_ | refine bw_ptr rfl rfl rfl ?_ | (refine bw_own rfl rfl rfl ?_ FrI.h ?_ ?_) | assumption | omega | rfl | (rw [List.length_map, ← List.length_append]; assumption) | (refine bwll_same ?_ FrI.h; (simp [cGRule, cGAtom, cS, cA2_cS, cF] <;> fail)) | (rw [List.map_set]; refine bwll_set (by first | rfl | omega | simp) ?_ ?_) | refine bwll_set (by first | rfl | omega | simp) ?_ ?_ | (rw [List.map_replicate]; refine bwll_rep ?_) | refine bwll_rep ?_ | (rw [List.map_append]; refine bwll_append ?_ ?_) | refine bwll_append ?_ ?_ | (simp [cGRule, cGAtom, cS, cA2_cS, cF, take_len_map] <;> fail) | (rw [List.drop_zero, List.take_of_length_le] <;> first | rfl | (simp [cGRule, cGAtom, cS, cA2_cS, cF] <;> fail)) | (simp; omega) | (simp only [List.length_map, List.length_append, List.drop_zero, List.length_cons, List.length_nil, Nat.zero_add, Nat.add_zero] at *; omega))); done) | ((repeat (first | exact BWL.nil | exact bwll_nil | exact bw_c | exact BW.sl | exact BW.nil | exact bwll_same rfl FrI.h | refine BWL.cons ?_ ?_ | refine bwll_cons ?_ ?_ | (refine bw_own3 rfl rfl rfl FrI.h ?_ ?_ ?_) | exact BW.mpf rfl rfl rfl FrI.h rfl | exact cloK3 rfl rfl rfl rfl rfl rfl rfl rfl rfl | exact CloK.bw (BW.fr (by assumption)) | exact BW.fr FrV.h | exact BW.fr (by assumption) | refine bw_agg ?_ | refine bw_clo ?_ | refine bw_ptr rfl rfl rfl ?_ | (refine bw_own rfl rfl rfl ?_ FrI.h ?_ ?_) | assumption | omega | rfl | (rw [List.length_map, ← List.length_append]; assumption) | (refine bwll_same ?_ FrI.h; (simp [cGRule, cGAtom, cS, cA2_cS, cF] <;> fail)) | (rw [List.map_set]; refine bwll_set (by first | rfl | omega | simp) ?_ ?_) | refine bwll_set (by first | rfl | omega | simp) ?_ ?_ | (rw [List.map_replicate]; refine bwll_rep ?_) | refine bwll_rep ?_ | (rw [List.map_append]; refine bwll_append ?_ ?_) | refine bwll_append ?_ ?_ | (simp [cGRule, cGAtom, cS, cA2_cS, cF, take_len_map] <;> fail) | (rw [List.drop_zero, List.take_of_length_le] <;> first | rfl | (simp [cGRule, cGAtom, cS, cA2_cS, cF] <;> fail)) | (simp; omega) | (simp only [List.length_map, List.length_append, List.drop_zero, List.length_cons, List.length_nil, Nat.zero_add, Nat.add_zero] at *; omega))); done) | (simp [cGRule, cGAtom, cS, cA2_cS, cF, take_len_map]; done)) : p ∧ K := ⟨h, k⟩
theorem pr_XDep {p K : Prop} (k : K) (h : p := by first | assumption | exact Int.natCast_nonneg _ | exact Nat.le_refl _ | exact Nat.zero_le _ | omega | (simp; done) | (simp; omega)) : p ∧ K := ⟨h, k⟩
theorem dr_XDep {b : Bool} {p K : Prop} (k : K) (h : b = true → p := by intro h; first | (cases h; done) | exact ⟨by kernel_rfl, by kernel_rfl⟩) : (b = true → p) ∧ K := ⟨h, k⟩
def M_datalog_Depends_L1 (y499 : GRule) : Nat → Int → (List (ByteArray × Bool)) → (List ByteArray) → Option ((List (ByteArray × Bool)) × (List ByteArray))
  | 0, _, _, _ => none
  | k508 + 1, v505, v506, v507 =>
    sel (decide (v505 < ((y499.Body.map cGAtom).length : Int)))
     (ix y499.Body v505 (fun y509 =>
       sel (!((getM v506 y509.Name).getD false))
        (grd ((v507.length + 1) * 16 ≤ 140737488355328) (M_datalog_Depends_L1 y499 k508 (IntKind.i64.wrap (v505 + 1)) (setM v506 y509.Name true) (v507 ++ [y509.Name])))
        (M_datalog_Depends_L1 y499 k508 (IntKind.i64.wrap (v505 + 1)) v506 v507)))
     (some (v506, v507))
def M_datalog_Depends_L2 (a0 : List GRule) (y342 : ByteArray) : Nat → Int → (List (ByteArray × Bool)) → (List ByteArray) → Option ((List (ByteArray × Bool)) × (List ByteArray))
  | 0, _, _, _ => none
  | k484 + 1, v481, v482, v483 =>
    sel (decide (v481 < ((a0.map cGRule).length : Int)))
     (ob1 (ix a0 v481 (fun y499 =>
        sel (!(y499.Head.Name.toList == y342.toList))
         (some (v482, v483))
         (M_datalog_Depends_L1 y499 ((((y499.Body.map cGAtom).length : Int)).toNat + 1) 0 v482 v483)) : Option ((List (ByteArray × Bool)) × (List ByteArray)))
       (fun (v496, v497) => M_datalog_Depends_L2 a0 y342 k484 (IntKind.i64.wrap (v481 + 1)) v496 v497))
     (some (v482, v483))
def M_datalog_Depends_L3 (a0 : List GRule) (a2 : ByteArray) : Nat → (List (ByteArray × Bool)) → (List ByteArray) → Option (Bool)
  | 0, _, _ => none
  | k341 + 1, v339, v340 =>
    sel (decide (((v340.length : Nat) : Int) > 0))
     (ixn v340 0 (fun y342 =>
       grd (0 < ((v340.length : Nat) : Int)) (grd (1 ≤ v340.length) (sel (y342.toList == a2.toList)
        (some true)
        (ob1 (M_datalog_Depends_L2 a0 y342 ((((a0.map cGRule).length : Int)).toNat + 1) 0 v339 (v340.drop 1) : Option ((List (ByteArray × Bool)) × (List ByteArray)))
          (fun (v425, v426) => M_datalog_Depends_L3 a0 a2 k341 v425 v426))))))
     (some false)
def M_datalog_Depends (g : Nat) (a0 : List GRule) (a1 : ByteArray) (a2 : ByteArray) : Option (Bool) :=
  M_datalog_Depends_L3 a0 a2 g (setM [] a1 true) [a1]
theorem rowkS {η η' : Nat → Ent} {els : List (List AV)} {l : List ByteArray} (h : els = l.map cS) : RowK η η' els (l.map cS) := by
  subst h
  exact RowK.same rfl FrI.h
set_option maxHeartbeats 16000000 in
set_option maxRecDepth 100000 in
theorem A_datalog_Depends (g : Nat) (a0 : List GRule) (a1 : ByteArray) (a2 : ByteArray) {r1 : Bool} (h : M_datalog_Depends g a0 a1 a2 = some r1) : ACall cx 30 [.sl 4 (a0.map cGRule), .c (.string a1), .c (.string a2)] (.c (.bool r1)) := by
  refine aOf Tryd.func30 rfl (by decide) rfl (Nat.le_of_ble_eq_true rfl) ?_
  intro _
  unfold M_datalog_Depends at h
  refine aSq ?_
  refine aRg ?_
  intro _
  refine dr_XDep ?_
  refine aSq ?_
  refine aRg ?_
  intro _
  refine ⟨_, lf_mapnewT 1000000 kS vB rfl rfl (Nat.le_of_ble_eq_true rfl) rfl, ?_⟩
  intro _
  refine ⟨_, lf_insert rfl (lf_mapsetT (t0 := 1000000) (ev := vB) (q := a1) (v := true) (kS_key Tryd.underlying9) kS_inj kS_is rfl rfl rfl rfl kvc rfl Tryd.underlying92), ?_⟩
  intro _
  refine dr_XDep ?_
  refine aSq ?_
  refine aBk ?_
  refine awp_loop (α := (List ByteArray) × Nat × (List (ByteArray × Bool)) × (List ByteArray)) (fun x => mkS 63 [(0, .sl 4 (a0.map cGRule)), (2, .c (.string a2)), (7, .mp 14 0), (8, .own 18 0 x.1.length x.2.2.2.length)] [(14, mB kS vB x.2.2.1), (18, ⟨9, 1, false, (x.1 ++ x.2.2.2).map cS⟩)]) (fun x => M_datalog_Depends_L3 a0 a2 x.2.1 x.2.2.1 x.2.2.2 = some r1) (fun x => x.2.1) ([], g, (setM [] a1 true), [a1]) h ?_ ?_
  · repeat (first | exact True.intro | refine And.intro (rowkS (by simp [cS])) ?_ | refine And.intro ⟨(by simp; done), (by simp; done)⟩ ?_ | refine ci_XDep ?_)
  · rintro ⟨P1, n1, s1, op1⟩ h
    intro _
    obtain ⟨k341, m2, h⟩ := succ_of (f := fun n => M_datalog_Depends_L3 a0 a2 n s1 op1) rfl h
    replace h : M_datalog_Depends_L3 a0 a2 (k341 + 1) s1 op1 = some r1 := h
    rw [M_datalog_Depends_L3] at h
    refine aSq ?_
    refine aSq ?_
    refine aRg ?_
    intro _
    refine dr_XDep ?_
    refine aCd ?_
    intro _
    refine spl h (fun c3 h => ?_) (fun c3 h => ?_)
    · refine aSk ?_
      refine aBk ?_
      refine aSq ?_
      refine aRg ?_
      intro _
      obtain ⟨y342, w4, h⟩ := ixn_ok h
      obtain ⟨rest, rfl⟩ : ∃ rest, op1 = y342 :: rest := by cases op1 with | nil => simp at w4 | cons z r => simp at w4; exact ⟨r, by rw [w4]⟩
      refine Exists.intro (cS y342) (And.intro (by simp) ?_)
      intro _
      obtain ⟨q5, h⟩ := grd_ok h
      refine pr_XDep ?_
      refine pr_XDep ?_
      refine dr_XDep ?_
      refine aSq ?_
      refine aRg ?_
      intro _
      obtain ⟨q6, h⟩ := grd_ok h
      refine pr_XDep ?_
      refine pr_XDep ?_
      refine pr_XDep ?_
      refine dr_XDep ?_
      refine aSq ?_
      refine aSq ?_
      refine aRg ?_
      intro _
      refine dr_XDep ?_
      refine aCd ?_
      intro _
      refine spl h (fun c7 h => ?_) (fun c7 h => ?_)
      · refine aSq ?_
        refine aRg ?_
        intro _
        refine dr_XDep ?_
        refine aRt ?_
        intro _
        obtain rfl := inj1 h
        repeat (first | exact True.intro | refine And.intro (rowkS (by simp [cS])) ?_ | refine And.intro ⟨(by simp; done), (by simp; done)⟩ ?_ | refine ci_XDep ?_)
      · refine aSk ?_
        refine aSq ?_
        refine aRg ?_
        intro _
        refine dr_XDep ?_
        obtain ⟨o8, h, hK9⟩ := ob1_ok h
        refine awp_cutT (α := (List ByteArray) × (List (ByteArray × Bool)) × (List ByteArray)) (fun (P2, v425, v426) => mkS 63 [(0, .sl 4 (a0.map cGRule)), (2, .c (.string a2)), (7, .mp 14 0), (8, .own 18 0 P2.length v426.length)] [(14, mB kS vB v425), (18, ⟨9, 1, false, (P2 ++ v426).map cS⟩)]) (fun v => o8 = v.2) ?_ ?_
        · refine aBk ?_
          refine awp_loop (α := (List ByteArray) × Nat × Int × (List (ByteArray × Bool)) × (List ByteArray)) (fun x => mkS 63 [(0, .sl 4 (a0.map cGRule)), (2, .c (.string a2)), (7, .mp 14 0), (8, .own 18 0 x.1.length x.2.2.2.2.length), (9, .c (.string y342)), (30, .sl 4 (a0.map cGRule)), (31, .c (.int .i64 ((a0.map cGRule).length : Int))), (32, .c (.int .i64 x.2.2.1))] [(14, mB kS vB x.2.2.2.1), (18, ⟨9, 1, false, (x.1 ++ x.2.2.2.2).map cS⟩)]) (fun x => M_datalog_Depends_L2 a0 y342 x.2.1 x.2.2.1 x.2.2.2.1 x.2.2.2.2 = some o8) (fun x => x.2.1) (P1 ++ [y342], (((a0.map cGRule).length : Int)).toNat + 1, 0, s1, rest) h ?_ ?_
          · repeat (first | exact True.intro | refine And.intro (rowkS (by simp [cS])) ?_ | refine And.intro ⟨(by simp; done), (by simp; done)⟩ ?_ | refine ci_XDep ?_)
          · rintro ⟨P3, n3, i3, s3, op3⟩ h
            intro _
            obtain ⟨k484, m11, h⟩ := succ_of (f := fun n => M_datalog_Depends_L2 a0 y342 n i3 s3 op3) rfl h
            replace h : M_datalog_Depends_L2 a0 y342 (k484 + 1) i3 s3 op3 = some o8 := h
            rw [M_datalog_Depends_L2] at h
            refine aSq ?_
            refine aRg ?_
            intro _
            refine dr_XDep ?_
            refine aSq ?_
            refine aCd ?_
            intro _
            refine spl h (fun c12 h => ?_) (fun c12 h => ?_)
            · refine aSk ?_
              obtain ⟨o13, h, hK14⟩ := ob1_ok h
              refine awp_cut (α := (List ByteArray) × (List (ByteArray × Bool)) × (List ByteArray)) (fun (P4, v496, v497) => mkS 63 [(0, .sl 4 (a0.map cGRule)), (2, .c (.string a2)), (7, .mp 14 0), (8, .own 18 0 P4.length v497.length), (9, .c (.string y342)), (30, .sl 4 (a0.map cGRule)), (31, .c (.int .i64 ((a0.map cGRule).length : Int))), (32, .c (.int .i64 i3))] [(14, mB kS vB v496), (18, ⟨9, 1, false, (P4 ++ v497).map cS⟩)]) (fun v => o13 = v.2) ?_ ?_
              · refine aBk ?_
                refine aSq ?_
                refine aRg ?_
                intro _
                obtain ⟨y499, w15, q16, h⟩ := ix_ok h
                refine Exists.intro (cGRule y499) (And.intro (map_at' w15) ?_)
                intro _
                refine pr_XDep ?_
                refine dr_XDep ?_
                refine aSq ?_
                refine aSq ?_
                refine aRg ?_
                intro _
                refine dr_XDep ?_
                refine aCd ?_
                intro _
                refine spl h (fun c17 h => ?_) (fun c17 h => ?_)
                · refine aEx ?_
                  refine ⟨(P3, s3, op3), (Option.some.inj h).symm, ?_⟩
                  repeat (first | exact True.intro | refine And.intro (rowkS (by simp [cS])) ?_ | refine And.intro ⟨(by simp; done), (by simp; done)⟩ ?_ | refine ci_XDep ?_)
                · refine aSk ?_
                  refine aSq ?_
                  refine aRg ?_
                  intro _
                  refine dr_XDep ?_
                  refine aBk ?_
                  refine awp_loop (α := (List ByteArray) × Nat × Int × (List (ByteArray × Bool)) × (List ByteArray)) (fun x => mkS 63 [(0, .sl 4 (a0.map cGRule)), (2, .c (.string a2)), (7, .mp 14 0), (8, .own 18 0 x.1.length x.2.2.2.2.length), (9, .c (.string y342)), (30, .sl 4 (a0.map cGRule)), (31, .c (.int .i64 ((a0.map cGRule).length : Int))), (32, .c (.int .i64 i3)), (42, .sl 2 (y499.Body.map cGAtom)), (43, .c (.int .i64 ((y499.Body.map cGAtom).length : Int))), (44, .c (.int .i64 x.2.2.1))] [(14, mB kS vB x.2.2.2.1), (18, ⟨9, 1, false, (x.1 ++ x.2.2.2.2).map cS⟩)]) (fun x => M_datalog_Depends_L1 y499 x.2.1 x.2.2.1 x.2.2.2.1 x.2.2.2.2 = some o13) (fun x => x.2.1) (P3, (((y499.Body.map cGAtom).length : Int)).toNat + 1, 0, s3, op3) h ?_ ?_
                  · repeat (first | exact True.intro | refine And.intro (rowkS (by simp [cS])) ?_ | refine And.intro ⟨(by simp; done), (by simp; done)⟩ ?_ | refine ci_XDep ?_)
                  · rintro ⟨P5, n5, i5, s5, op5⟩ h
                    intro _
                    obtain ⟨k508, m19, h⟩ := succ_of (f := fun n => M_datalog_Depends_L1 y499 n i5 s5 op5) rfl h
                    replace h : M_datalog_Depends_L1 y499 (k508 + 1) i5 s5 op5 = some o13 := h
                    rw [M_datalog_Depends_L1] at h
                    refine aSq ?_
                    refine aRg ?_
                    intro _
                    refine dr_XDep ?_
                    refine aSq ?_
                    refine aCd ?_
                    intro _
                    refine spl h (fun c20 h => ?_) (fun c20 h => ?_)
                    · refine aSk ?_
                      refine aSq ?_
                      refine aBk ?_
                      refine aSq ?_
                      refine aRg ?_
                      intro _
                      obtain ⟨y509, w21, q22, h⟩ := ix_ok h
                      refine Exists.intro (cGAtom y509) (And.intro (map_at' w21) ?_)
                      intro _
                      refine pr_XDep ?_
                      refine dr_XDep ?_
                      refine aSq ?_
                      refine aRg ?_
                      intro _
                      refine ⟨_, lf_mapget (q := y509.Name) false (kS_key Tryd.underlying9) kS_inj kS_is rfl (Nat.le_of_ble_eq_true rfl) rfl rfl kvc Tryd.underlying92 (tyTab_ok 4 _ rfl) (fun _ _ _ => .c _), ?_⟩
                      intro _
                      refine dr_XDep ?_
                      refine aCd ?_
                      intro _
                      refine spl h (fun c23 h => ?_) (fun c23 h => ?_)
                      · refine aSq ?_
                        refine aRg ?_
                        intro _
                        refine ⟨_, lf_mapsetT (t0 := 1000000) (ev := vB) (q := y509.Name) (v := true) (kS_key Tryd.underlying9) kS_inj kS_is rfl rfl rfl rfl kvc rfl Tryd.underlying92, ?_⟩
                        intro _
                        refine dr_XDep ?_
                        obtain ⟨q24, h⟩ := grd_ok h
                        refine awp_regionS [] 4 rfl ?_
                        intro _
                        refine ⟨fun hd => (by cases hd), ?_⟩
                        refine wpOps_appQ (new := [cS y509.Name]) (e := 9) (te := _) rfl rfl rfl rfl rfl rfl rfl (Nat.le_of_ble_eq_true rfl) (Nat.le_of_ble_eq_true rfl) (Nat.le_of_ble_eq_true rfl) rfl rfl (by simp) ⟨_, rfl, rfl, Nat.le_refl _, rfl⟩ (tyTab_ok 22 _ rfl) rfl (tyTab_ok 9 _ rfl) rfl rfl (Nat.le_of_ble_eq_true rfl) (Nat.le_of_ble_eq_true rfl) q24 (by simp at q24 ⊢; omega) rfl (fun pre hpre => ?_)
                        obtain ⟨P6, rfl⟩ : ∃ P6 : List ByteArray, pre = P6.map cS := by
                          rcases hpre with e | e
                          · exact ⟨[], e⟩
                          · exact ⟨P5, by rw [e, List.map_append, List.take_left' (by simp)]⟩
                        intro _
                        refine aRg ?_
                        intro _
                        refine dr_XDep ?_
                        refine ⟨(P6, k508, (IntKind.i64.wrap (i5 + 1)), (setM s5 y509.Name true), (op5 ++ [y509.Name])), h, ltS m19, ?_⟩
                        repeat (first | exact True.intro | refine And.intro (rowkS (by simp [cS])) ?_ | refine And.intro ⟨(by simp; done), (by simp; done)⟩ ?_ | refine ci_XDep ?_)
                      · refine aSk ?_
                        refine aRg ?_
                        intro _
                        refine dr_XDep ?_
                        refine ⟨(P5, k508, (IntKind.i64.wrap (i5 + 1)), s5, op5), h, ltS m19, ?_⟩
                        repeat (first | exact True.intro | refine And.intro (rowkS (by simp [cS])) ?_ | refine And.intro ⟨(by simp; done), (by simp; done)⟩ ?_ | refine ci_XDep ?_)
                    · refine aEx ?_
                      refine ⟨(P5, s5, op5), (Option.some.inj h).symm, ?_⟩
                      repeat (first | exact True.intro | refine And.intro (rowkS (by simp [cS])) ?_ | refine And.intro ⟨(by simp; done), (by simp; done)⟩ ?_ | refine ci_XDep ?_)
              · rintro ⟨P7, v496, v497⟩ ho
                have ho : o13 = (v496, v497) := ho
                subst ho
                intro _
                replace h := hK14
                refine aRg ?_
                intro _
                refine dr_XDep ?_
                refine ⟨(P7, k484, (IntKind.i64.wrap (i3 + 1)), v496, v497), h, ltS m11, ?_⟩
                repeat (first | exact True.intro | refine And.intro (rowkS (by simp [cS])) ?_ | refine And.intro ⟨(by simp; done), (by simp; done)⟩ ?_ | refine ci_XDep ?_)
            · refine aEx ?_
              refine ⟨(P3, s3, op3), (Option.some.inj h).symm, ?_⟩
              repeat (first | exact True.intro | refine And.intro (rowkS (by simp [cS])) ?_ | refine And.intro ⟨(by simp; done), (by simp; done)⟩ ?_ | refine ci_XDep ?_)
        · rintro ⟨P8, v425, v426⟩ ho
          have ho : o8 = (v425, v426) := ho
          subst ho
          intro _
          replace h := hK9
          refine ⟨(P8, k341, v425, v426), h, ltS m2, ?_⟩
          repeat (first | exact True.intro | refine And.intro (rowkS (by simp [cS])) ?_ | refine And.intro ⟨(by simp; done), (by simp; done)⟩ ?_ | refine ci_XDep ?_)
    · refine aEx ?_
      refine aSq ?_
      refine aRg ?_
      intro _
      refine dr_XDep ?_
      refine aRt ?_
      intro _
      obtain rfl := inj1 h
      repeat (first | exact True.intro | refine And.intro (rowkS (by simp [cS])) ?_ | refine And.intro ⟨(by simp; done), (by simp; done)⟩ ?_ | refine ci_XDep ?_)
end Go.Proofs.YtflgpccacloadaaDoor.Am
