/- stratagemlaw33.MutexInductive returns true for every input. No condition beyond the row's own. -/
import Derived.Test.YtinnphmnhmdcgaaGreatB2
import Derived.Test.YtinnphmnhmdcgaaGreatB5
import Derived.Test.YtinnphmnhmdcgaaGreatB3
import Derived.Test.YtinnphmnhmdcgaaGreatB4
import Derived.Test.YtinnphmnhmdcgaaGreatB1
import Derived.Deep.Slices
import Derived.Deep.Fields
import Derived.ChangeSame
import Derived.SizedLaws
import Derived.Lib.SmallJoins
import Derived.Below
import Derived.OpenShut
import Derived.Carry
import Derived.Test.YtinnphmnhmdcgaaGreatRows
import Derived.Deep.DeepHandedRow
import Derived.Lib.LaidTab
set_option linter.unusedVariables false
set_option linter.unusedSectionVars false
/- Models printed by my decompiler, and the proofs that the code computes them. -/
namespace Go.Proofs.YtinnphmnhmdcgaaGreat.Am
open Go.RowKit
theorem zb_XNew {P : Prop} (h : P := by repeat (first | exact BWL.nil | exact bwll_nil | exact bw_c | exact BW.sl | exact BW.nil | exact bwll_same rfl FrI.h | refine BWL.cons ?_ ?_ | refine bwll_cons ?_ ?_ | (refine bw_own3 rfl rfl rfl FrI.h ?_ ?_ ?_) | exact BW.fr FrV.h | exact bw_fr2 rfl FrV.h | exact BW.fr (by assumption) | refine bw_agg ?_ | refine bw_clo ?_ | refine bw_ptr rfl rfl rfl ?_ | (refine bw_own rfl rfl rfl ?_ FrI.h ?_ ?_) | assumption | omega | rfl | (rw [List.length_map, ← List.length_append]; assumption) | (refine bwll_same ?_ FrI.h; (simp [cGTask, cI, cF, cGOp, cGEffect, cGTable, cB, cL_cB, cGCause, cL_cF] <;> fail)) | (rw [List.map_set]; refine bwll_set (by first | rfl | omega | simp) ?_ ?_) | refine bwll_set (by first | rfl | omega | simp) ?_ ?_ | (rw [List.map_replicate]; refine bwll_rep ?_) | refine bwll_rep ?_ | (rw [List.map_append]; refine bwll_append ?_ ?_) | refine bwll_append ?_ ?_ | (simp [cGTask, cI, cF, cGOp, cGEffect, cGTable, cB, cL_cB, cGCause, cL_cF, take_len_map] <;> fail) | (rw [List.drop_zero, List.take_of_length_le] <;> first | rfl | (simp [cGTask, cI, cF, cGOp, cGEffect, cGTable, cB, cL_cB, cGCause, cL_cF] <;> fail)) | (simp; omega) | (simp only [List.length_map, List.length_append, List.drop_zero, List.length_cons, List.length_nil, Nat.zero_add, Nat.add_zero] at *; omega))) : P := h
theorem zg_XNew {P : Prop} (h : P := by repeat (first | exact True.intro | exact gb_nil rfl rfl | refine gb_some ⟨rfl, rfl, rfl⟩ ?_ | refine And.intro ?_ ?_ | refine gw_ren rfl rfl rfl rfl rfl ?_ | exact gw_oren rfl rfl rfl rfl rfl | exact gw_opren rfl rfl rfl rfl rfl | exact gw_onil rfl rfl | exact gw_mren rfl rfl rfl rfl | refine gw_pren rfl rfl rfl rfl rfl | exact gw_thaw rfl rfl rfl | refine gw_tup ?_ | exact GWL.nil | exact gwll_nil | exact gw_c | exact GW.sl | exact GW.nil | exact gwll_same rfl FrI.h | refine GWL.cons ?_ ?_ | refine gwll_cons ?_ ?_ | (refine gw_own3 rfl rfl rfl FrI.h ?_ ?_ ?_) | exact GW.fr FrV.h | exact gw_fr2 rfl FrV.h | exact GW.fr (by assumption) | refine gw_agg ?_ | refine gw_clo ?_ | refine gw_ptr rfl rfl rfl ?_ | (refine gw_own rfl rfl rfl ?_ FrI.h ?_ ?_) | assumption | omega | rfl | (rw [List.length_map, ← List.length_append]; assumption) | (refine gwll_same ?_ FrI.h; (simp [cGTask, cI, cF, cGOp, cGEffect, cGTable, cB, cL_cB, cGCause, cL_cF] <;> fail)) | (rw [List.map_set]; refine gwll_set (by first | rfl | omega | simp) ?_ ?_) | refine gwll_set (by first | rfl | omega | simp) ?_ ?_ | (rw [List.map_replicate]; refine gwll_rep ?_) | refine gwll_rep ?_ | (rw [List.map_append]; refine gwll_append ?_ ?_) | refine gwll_append ?_ ?_ | (simp [cGTask, cI, cF, cGOp, cGEffect, cGTable, cB, cL_cB, cGCause, cL_cF, take_len_map] <;> fail) | (rw [List.drop_zero, List.take_of_length_le] <;> first | rfl | (simp [cGTask, cI, cF, cGOp, cGEffect, cGTable, cB, cL_cB, cGCause, cL_cF] <;> fail)) | (simp; omega) | (simp only [List.length_map, List.length_append, List.drop_zero, List.length_cons, List.length_nil, Nat.zero_add, Nat.add_zero] at *; omega))) : P := h
theorem ci_XNew {p K : Prop} (k : K) (h : p := by first | rfl | exact ⟨rfl, rfl⟩ | exact BW.fr FrV.h | exact bw_fr2 rfl FrV.h | (refine BW.fr ?_; assumption) | (refine ⟨rfl, ?_⟩; (simp [cGTask, cI, cF, cGOp, cGEffect, cGTable, cB, cL_cB, cGCause, cL_cF, take_len_map]; done)) | (refine RowK.same ?_ FrI.h; first | rfl | (simp [cGTask, cI, cF, cGOp, cGEffect, cGTable, cB, cL_cB, cGCause, cL_cF, take_len_map]; done)) | (refine row_part1 ?_; (exact zb_XNew); done) | ((exact zb_XNew); done) | (simp [cGTask, cI, cF, cGOp, cGEffect, cGTable, cB, cL_cB, cGCause, cL_cF, take_len_map]; done)) : p ∧ K := ⟨h, k⟩
theorem ca_XNew {P : Prop} (h : P := by repeat (first | exact True.intro | refine ci_XNew ?_)) : P := h
theorem pr_XNew {p K : Prop} (k : K) (h : p := by first | assumption | exact Int.natCast_nonneg _ | exact Nat.le_refl _ | exact Nat.zero_le _ | omega | (simp; done) | (simp; omega)) : p ∧ K := ⟨h, k⟩
theorem pl_XNew {p K : Prop} (k : K) (h : p := by first | rfl | exact List.length_map _ | (simp; done) | (simp; omega)) : p ∧ K := ⟨h, k⟩
theorem pe_XNew {p K : Prop} (k : K) (h : p := by first | omega | (simp; omega) | (simp only [List.length_map, List.length_cons, List.length_nil, List.length_append]; omega) | (simp only [List.length_map, List.drop_zero, List.length_cons, List.length_nil, Nat.zero_add, Nat.add_zero] at *; omega)) : p ∧ K := ⟨h, k⟩
theorem dr_XNew {b : Bool} {p K : Prop} (k : K) (h : b = true → p := by intro h; first | (cases h; done) | exact ⟨by kernel_rfl, by kernel_rfl⟩) : (b = true → p) ∧ K := ⟨h, k⟩
theorem cl_XNew {C : Cx} {n : Nat} {o : Oper} {τ : Nat → AV} {η : Nat → Ent} {f : FuncId} {os : Array Operand} {ats : Array TypeId} {r : AV} {args : List AV} {K : Foot → Prop} (ho : o.op = .call ⟨.value (.func f), os, ats⟩) (hc : ACall C f args r) (k : K ⟨r, [], []⟩)
    (hd : InB n o.dst := by exact Nat.le_of_ble_eq_true rfl) (hargs : os.toList.map (evA τ) = args := by first | rfl | (simp [cGTask, cI, cF, cGOp, cGEffect, cGTable, cB, cL_cB, cGCause, cL_cF]; done) | (repeat (first | exact rfl | refine cons_eq ?_ ?_ | exact sl_dt rfl))) (hfr : frs args := by repeat (first | exact trivial | exact fr1_eA _ | exact fr0_eA _ | exact fr1_fr (by assumption) | exact FrV.h | exact fr1_fr FrV.h | refine And.intro ?_ ?_)) (hr : fr1 r := by repeat (first | exact trivial | exact fr1_eA _ | exact fr0_eA _ | exact fr1_fr (by assumption) | exact FrV.h | exact fr1_fr FrV.h | refine And.intro ?_ ?_)) : ∃ f : Foot, LF C n o τ η f ∧ K f := ⟨_, lf_call ho hd hargs hc hfr hr, k⟩
theorem clf_XNew {C : Cx} {n : Nat} {o : Oper} {τ : Nat → AV} {η : Nat → Ent} {f : FuncId} {os : Array Operand} {ats : Array TypeId} {r : AV} {xs ys : List AV} {K : Foot → Prop} (us : List (Nat × Ent)) (ho : o.op = .call ⟨.value (.func f), os, ats⟩) (hargs : os.toList.map (evA τ) = xs) (hc : ACall C f ys r) (k : K ⟨r, us, []⟩)
    (hus : allUs η us := by repeat (first | exact trivial | refine And.intro rfl ?_)) (hul : ltUs n us := by repeat (first | exact trivial | refine And.intro (Nat.le_of_ble_eq_true rfl) ?_)) (hd : InB n o.dst := by exact Nat.le_of_ble_eq_true rfl) (hb : BWL η (dropB η (us.map (·.1))) xs ys := by exact zb_XNew) (hr : fr1 r := by repeat (first | exact trivial | exact fr1_eA _ | exact fr0_eA _ | exact fr1_fr (by assumption) | exact FrV.h | exact fr1_fr FrV.h | refine And.intro ?_ ?_)) : ∃ f : Foot, LF C n o τ η f ∧ K f := ⟨_, lf_callF us (allUs_at hus) (ltUs_at hul) ho hd hargs hb hc hr, k⟩
theorem clg_XNew {C : Cx} {n : Nat} {o : Oper} {τ : Nat → AV} {η : Nat → Ent} {f : FuncId} {os : Array Operand} {ats : Array TypeId} {r : AV} {xs ys : List AV} {bs bs' : List (Nat × Blk)} {ks : List Nat} {K : Foot → Prop} (ρ : List (Nat × Nat)) (fz : List Nat) (go nb : List (Nat × Ent)) (r' : AV) (ho : o.op = .call ⟨.value (.func f), os, ats⟩) (hargs : os.toList.map (evA τ) = xs)
    (hc : ACallG C f ys bs ks r bs') (k : K ⟨r', go ++ nb, []⟩) (hd : InB n o.dst := by exact Nat.le_of_ble_eq_true rfl) (hok : okC ρ fz bs ks bs' (idsE go) = true := by rfl) (hgo : allUs η go := by repeat (first | exact trivial | refine And.intro rfl ?_)) (hgl : ltUs n go := by repeat (first | exact trivial | refine And.intro (Nat.le_of_ble_eq_true rfl) ?_))
    (hw : GWL η (fE bs) (lk ρ) (fun i => inB fz i = true) (fun i => inB (keys bs) i = true) xs ys := by exact zg_XNew) (hb : GBL η (fE bs) (lk ρ) (fun i => inB fz i = true) (fun i => inB (keys bs) i = true) bs := by exact zg_XNew)
    (hr : GW (fE bs') (updAll η (go ++ nb)) (lk (backN ρ bs')) (fun _ => False) (fun i => inB (idsE nb) i = true) r r' := by exact zg_XNew)
    (hnb : nbOk n η (updAll η (go ++ nb)) ρ ks (fE bs') (lk (backN ρ bs')) (fun i => inB (idsE nb) i = true) bs' nb := by repeat (first | exact True.intro | rfl | exact Nat.le_of_ble_eq_true rfl | exact gb_nil rfl rfl | refine gb_some ⟨rfl, rfl, rfl⟩ ?_ | refine And.intro ?_ ?_ | refine gw_ren rfl rfl rfl rfl rfl ?_ | exact gw_oren rfl rfl rfl rfl rfl | exact gw_opren rfl rfl rfl rfl rfl | exact gw_onil rfl rfl | exact gw_mren rfl rfl rfl rfl | refine gw_pren rfl rfl rfl rfl rfl | exact gw_thaw rfl rfl rfl | refine gw_tup ?_ | exact GWL.nil | exact gwll_nil | exact gw_c | exact GW.sl | exact GW.nil | exact gwll_same rfl FrI.h | refine GWL.cons ?_ ?_ | refine gwll_cons ?_ ?_ | (refine gw_own3 rfl rfl rfl FrI.h ?_ ?_ ?_) | exact GW.fr FrV.h | exact gw_fr2 rfl FrV.h | exact GW.fr (by assumption) | refine gw_agg ?_ | refine gw_clo ?_ | refine gw_ptr rfl rfl rfl ?_ | (refine gw_own rfl rfl rfl ?_ FrI.h ?_ ?_) | assumption | omega | rfl | (rw [List.length_map, ← List.length_append]; assumption) | (refine gwll_same ?_ FrI.h; (simp [cGTask, cI, cF, cGOp, cGEffect, cGTable, cB, cL_cB, cGCause, cL_cF] <;> fail)) | (rw [List.map_set]; refine gwll_set (by first | rfl | omega | simp) ?_ ?_) | refine gwll_set (by first | rfl | omega | simp) ?_ ?_ | (rw [List.map_replicate]; refine gwll_rep ?_) | refine gwll_rep ?_ | (rw [List.map_append]; refine gwll_append ?_ ?_) | refine gwll_append ?_ ?_ | (simp [cGTask, cI, cF, cGOp, cGEffect, cGTable, cB, cL_cB, cGCause, cL_cF, take_len_map] <;> fail) | (rw [List.drop_zero, List.take_of_length_le] <;> first | rfl | (simp [cGTask, cI, cF, cGOp, cGEffect, cGTable, cB, cL_cB, cGCause, cL_cF] <;> fail)) | (simp; omega) | (simp only [List.length_map, List.length_append, List.drop_zero, List.length_cons, List.length_nil, Nat.zero_add, Nat.add_zero] at *; omega))) : ∃ f : Foot, LF C n o τ η f ∧ K f := ⟨_, lf_callG ρ fz go nb ho hd hargs hc hok hgo hgl hw hb hr hnb, k⟩
def M_mutex_New_L1 (a0 : GTask) : Nat → Int → Int → (List Int) → Option (Int × (List Int))
  | 0, _, _, _ => none
  | k25 + 1, v22, v23, v24 =>
    sel (decide (v23 < ((a0.Vars.map cI).length : Int)))
     (ix a0.Vars v23 (fun y26 =>
       grd ((v24.length + 1) * 8 ≤ 140737488355328) (M_mutex_New_L1 a0 k25 (IntKind.i64.wrap (v22 + y26)) (IntKind.i64.wrap (v23 + 1)) (v24 ++ [v22]))))
     (some (v22, v24))
def M_mutex_New_L2 (v14 : Int) : Nat → Int → (List (List Bool)) → Option (List (List Bool))
  | 0, _, _ => none
  | k38 + 1, v36, v37 =>
    sel (decide (v36 < v14))
     (grd (0 ≤ v14) (grd (v14 * 1 ≤ 281474976710656) (grd ((v37.length + 1) * 24 ≤ 140737488355328) (grd (v14.toNat ≤ 140737488355328) (M_mutex_New_L2 v14 k38 (IntKind.i64.wrap (v36 + 1)) (v37 ++ [(List.replicate v14.toNat false)]))))))
     (some v37)
def M_mutex_New_L3 (a0 : GTask) (v15 : List Int) (v32 : List (List Bool)) (v179 : Int) (y195 : Int) (z3 : GTask) : Nat → (List (List Bool)) → Int → Option (List (List Bool))
  | 0, _, _ => none
  | k204 + 1, v202, v203 =>
    sel (decide (v203 < ((a0.Init.map cI).length : Int)))
     (ix a0.Init v203 (fun y205 =>
       ob1 (M_set ({ t := z3, first := v15, reached := v202 : GTable }) (v179, y195) (v203, y205)) (fun z206 =>
        M_mutex_New_L3 a0 v15 v32 v179 y195 z3 k204 z206 (IntKind.i64.wrap (v203 + 1)))))
     (some v202)
def M_mutex_New_L4 (a0 : GTask) (v15 : List Int) (v32 : List (List Bool)) (z3 : GTask) : Nat → (List (List Bool)) → Int → Option (List (List Bool))
  | 0, _, _ => none
  | k180 + 1, v178, v179 =>
    sel (decide (v179 < ((a0.Init.map cI).length : Int)))
     (ob1 (ix a0.Init v179 (fun y195 =>
        M_mutex_New_L3 a0 v15 v32 v179 y195 z3 ((((a0.Init.map cI).length : Int)).toNat + 1) v178 0) : Option (List (List Bool)))
       (fun v193 => M_mutex_New_L4 a0 v15 v32 z3 k180 v193 (IntKind.i64.wrap (v179 + 1))))
     (some v178)
def M_mutex_New_L5 (g : Nat) (v15 : List Int) (v32 : List (List Bool)) (z3 : GTask) (z360 : List (List Fact)) : Nat → (List (List Bool)) → Bool → Int → (List ((Int × Int × Int) × (Option GCause))) → Option (((List (List Bool)) × Bool × (List ((Int × Int × Int) × (Option GCause)))) ⊕ ((Option GTable) × Er))
  | 0, _, _, _, _ => none
  | k424 + 1, v420, v421, v422, v423 =>
    sel (decide (v422 < ((z360.map cL_cF).length : Int)))
     (ix z360 v422 (fun y425 =>
       ob3 (M_stratagem_mutex_Table_made g ({ t := z3, first := v15, reached := v420 : GTable }) y425 v423) (fun z426 z427 c428 =>
        erM z427
         (sel z426
           (ix y425 0 (fun y430 =>
             ix y425 (IntKind.i64.wrap (((y425.map cF).length : Int) - 1)) (fun y431 =>
              ob1 (M_set ({ t := z3, first := v15, reached := v420 : GTable }) y430 y431) (fun z432 =>
               M_mutex_New_L5 g v15 v32 z3 z360 k424 z432 true (IntKind.i64.wrap (v422 + 1)) c428))))
           (M_mutex_New_L5 g v15 v32 z3 z360 k424 v420 v421 (IntKind.i64.wrap (v422 + 1)) c428))
         (fun e429 => some (.inr (none, (Er.no e429)))))))
     (some (.inl (v420, v421, v423)))
def M_mutex_New_L6 (g : Nat) (v15 : List Int) (v32 : List (List Bool)) (z3 : GTask) : Nat → (List (List Bool)) → Bool → (List ((Int × Int × Int) × (Option GCause))) → Option ((Option GTable) × Er)
  | 0, _, _, _ => none
  | k359 + 1, v356, v357, v358 =>
    sel v357
     (ob1 (M_stratagem_mutex_Table_open ({ t := z3, first := v15, reached := v356 : GTable })) (fun z360 =>
       ob1 (M_mutex_New_L5 g v15 v32 z3 z360 ((((z360.map cL_cF).length : Int)).toNat + 1) v356 false 0 v358 : Option (((List (List Bool)) × Bool × (List ((Int × Int × Int) × (Option GCause)))) ⊕ ((Option GTable) × Er)))
        (osum
        (fun (v394, v395, v396) => M_mutex_New_L6 g v15 v32 z3 k359 v394 v395 v396)
        (fun (r397, r398) => some (r397, r398)))))
     (some ((some ({ t := z3, first := v15, reached := v356 : GTable })), Er.nil))
def M_mutex_New (g : Nat) (a0 : GTask) : Option ((Option GTable) × Er) :=
  ob1 (M_task_Check a0) (fun z1 =>
   erM z1
    (ob1 (M_mutex_copied a0) (fun z3 =>
      ob1 (M_mutex_New_L1 a0 ((((a0.Vars.map cI).length : Int)).toNat + 1) 0 0 [] : Option (Int × (List Int)))
       (fun (v14, v15) => sel (decide (v14 > 512))
          (some (none, (Er.no 5)))
          (ob1 (M_mutex_New_L2 v14 ((v14).toNat + 1) 0 [] : Option (List (List Bool)))
            (fun v32 => ob1 (grd (v15.length ≤ 140737488355328) (grd (v32.length ≤ 140737488355328) (M_mutex_New_L4 a0 v15 v32 z3 ((((a0.Init.map cI).length : Int)).toNat + 1) v32 0)) : Option (List (List Bool)))
               (fun v122 => M_mutex_New_L6 g v15 v32 z3 g v122 true []))))))
    (fun e2 => some (none, (Er.no e2))))
set_option maxHeartbeats 16000000 in
set_option maxRecDepth 100000 in
theorem A_mutex_New (g : Nat) (a0 : GTask) {r1 : Option GTable} {r2 : Er} (h : M_mutex_New g a0 = some (r1, r2)) : ACall cx 13 [.agg [.sl 1 (a0.Vars.map cI), .sl 1 (a0.Init.map cI), .sl 2 (a0.Goal.map cF), .sl 4 (a0.Ops.map cGOp)]] (.tup [oGTable r1, eA r2]) := by
  refine acall_ofL Tryz.func13 rfl (by decide) rfl (Nat.le_of_ble_eq_true rfl) (fun lo => ?_); intro _; unfold M_mutex_New at h; refine aSR ?_; intro _; refine dr_XNew ?_; refine aSq ?_; refine aSR ?_; intro _; obtain ⟨z1, u1, h⟩ := ob1_ok h; refine cl_XNew rfl (A_task_Check a0 u1) ?_; intro _; refine dr_XNew ?_; refine aSq ?_; rcases z1 with _ | e2
  · replace h := erM_nil h; refine aRg ?_; intro _; refine dr_XNew ?_; refine aCd ?_; intro _; refine litF ?_; refine aSk ?_; refine aSR ?_; intro _; obtain ⟨z3, u2, h⟩ := ob1_ok h; refine cl_XNew rfl (A_mutex_copied a0 u2) ?_; intro _; refine dr_XNew ?_; refine aSR ?_; intro _; refine dr_XNew ?_; obtain ⟨o3, h, hK4⟩ := ob1_ok h; refine awp_cut (α := Int × (List Int)) (fun (v14, v15) => mkS 126 [(1, .ptr 1 0 0 0), (5, .ptr 27 0 0 0), (6, .c (.int .i64 v14))] [(1, ⟨26, 4, true, [[.sl 1 (a0.Vars.map cI), .sl 1 (a0.Init.map cI), .sl 2 (a0.Goal.map cF), .sl 4 (a0.Ops.map cGOp)]]⟩), (27, ⟨80, 6, true, [[.sl 1 (z3.Vars.map cI), .sl 1 (z3.Init.map cI), .sl 2 (z3.Goal.map cF), .sl 4 (z3.Ops.map cGOp), .own 42 0 0 v15.length, .c (.slice none 0 0)]]⟩), (42, ⟨3, 1, false, v15.map cI⟩)]) (fun v => o3 = v) ?_ ?_
    · refine aSR ?_; intro _; refine dr_XNew ?_; refine aBk ?_; refine awp_loop (α := Nat × Int × Int × (List Int)) (fun x => mkS 126 [(1, .ptr 1 0 0 0), (5, .ptr 27 0 0 0), (6, .c (.int .i64 x.2.1)), (29, .sl 1 (a0.Vars.map cI)), (30, .c (.int .i64 ((a0.Vars.map cI).length : Int))), (31, .c (.int .i64 x.2.2.1))] [(1, ⟨26, 4, true, [[.sl 1 (a0.Vars.map cI), .sl 1 (a0.Init.map cI), .sl 2 (a0.Goal.map cF), .sl 4 (a0.Ops.map cGOp)]]⟩), (27, ⟨80, 6, true, [[.sl 1 (z3.Vars.map cI), .sl 1 (z3.Init.map cI), .sl 2 (z3.Goal.map cF), .sl 4 (z3.Ops.map cGOp), .own 42 0 0 x.2.2.2.length, .c (.slice none 0 0)]]⟩), (42, ⟨3, 1, false, x.2.2.2.map cI⟩)]) (fun x => M_mutex_New_L1 a0 x.1 x.2.1 x.2.2.1 x.2.2.2 = some o3) (fun x => x.1) ((((a0.Vars.map cI).length : Int)).toNat + 1, 0, 0, []) h ?_ ?_
      · exact ca_XNew
      · intro x5 h; intro _; obtain ⟨k25, m6, h⟩ := succ_of (f := fun n => M_mutex_New_L1 a0 n x5.2.1 x5.2.2.1 x5.2.2.2) rfl h; replace h : M_mutex_New_L1 a0 (k25 + 1) x5.2.1 x5.2.2.1 x5.2.2.2 = some o3 := h; rw [M_mutex_New_L1] at h; refine aSR ?_; intro _; refine dr_XNew ?_; refine aSq ?_; refine aCd ?_; intro _; refine spl h (fun c7 h => ?_) (fun c7 h => ?_)
        · refine aSk ?_; refine aSq ?_; refine aBk ?_; refine aSR ?_; intro _; obtain ⟨y26, w8, q9, h⟩ := ix_ok h; refine Exists.intro (cI y26) (And.intro (map_at' w8) ?_); intro _; refine pr_XNew ?_; refine dr_XNew ?_; refine aSR ?_; intro _; obtain ⟨q10, h⟩ := grd_ok h; refine pl_XNew ?_; refine pl_XNew ?_; refine And.intro (by first | with_reducible assumption | (show (x5.2.2.2.length + 1) * 8 ≤ 140737488355328; with_reducible assumption) | omega | (simp; omega)) ?_; refine pe_XNew ?_; refine dr_XNew ?_; refine aRg ?_; intro _; refine dr_XNew ?_; refine aRg ?_; intro _; refine dr_XNew ?_; refine ⟨(k25, (IntKind.i64.wrap (x5.2.1 + y26)), (IntKind.i64.wrap (x5.2.2.1 + 1)), (x5.2.2.2 ++ [x5.2.1])), h, ltS m6, ?_⟩; exact ca_XNew
        · refine aEx ?_; refine ⟨(x5.2.1, x5.2.2.2), (Option.some.inj h).symm, ?_⟩; exact ca_XNew
    · rintro ⟨v14, v15⟩ ho; have ho := ho.symm; subst ho; intro _; replace h := hK4; refine aSq ?_; refine aSR ?_; intro _; refine dr_XNew ?_; refine aCd ?_; intro _; refine spl h (fun c11 h => ?_) (fun c11 h => ?_)
      · refine aSR ?_; intro _; refine dr_XNew ?_; refine aRt ?_; intro _; obtain ⟨rfl, rfl⟩ := inj2 h; exact ca_XNew
      · refine aSk ?_; obtain ⟨o12, h, hK13⟩ := ob1_ok h; refine awp_cut (α := Tab) (fun v32 => mkS 126 [(1, .ptr 1 0 0 0), (5, .ptr 27 0 0 0)] [(1, ⟨26, 4, true, [[.sl 1 (a0.Vars.map cI), .sl 1 (a0.Init.map cI), .sl 2 (a0.Goal.map cF), .sl 4 (a0.Ops.map cGOp)]]⟩), (27, ⟨80, 6, true, [[.sl 1 (z3.Vars.map cI), .sl 1 (z3.Init.map cI), .sl 2 (z3.Goal.map cF), .sl 4 (z3.Ops.map cGOp), .own 42 0 0 v15.length, .own 63 0 0 v32.length]]⟩), (42, ⟨3, 1, false, v15.map cI⟩), (63, ⟨41, 1, false, rwT lo 4 v32⟩)]) (fun v => o12 = v.map (·.2) ∧ ((v).map (·.1)).Nodup) ?_ ?_
        · refine aSR ?_; intro _; refine dr_XNew ?_; refine aBk ?_; refine awp_loop (α := Nat × Int × Tab) (fun x => mkS 126 [(1, .ptr 1 0 0 0), (5, .ptr 27 0 0 0), (6, .c (.int .i64 v14)), (52, .c (.int .i64 v14)), (53, .c (.int .i64 x.2.1))] [(1, ⟨26, 4, true, [[.sl 1 (a0.Vars.map cI), .sl 1 (a0.Init.map cI), .sl 2 (a0.Goal.map cF), .sl 4 (a0.Ops.map cGOp)]]⟩), (27, ⟨80, 6, true, [[.sl 1 (z3.Vars.map cI), .sl 1 (z3.Init.map cI), .sl 2 (z3.Goal.map cF), .sl 4 (z3.Ops.map cGOp), .own 42 0 0 v15.length, .own 63 0 0 x.2.2.length]]⟩), (42, ⟨3, 1, false, v15.map cI⟩), (63, ⟨41, 1, false, rwT lo 4 x.2.2⟩)]) (fun x => M_mutex_New_L2 v14 x.1 x.2.1 (x.2.2.map (·.2)) = some o12 ∧ ((x.2.2).map (·.1)).Nodup) (fun x => x.1) ((v14).toNat + 1, 0, []) ⟨h, List.nodup_nil⟩ ?_ ?_
          · exact ca_XNew
          · intro x14 ⟨h, n2⟩; intro _; obtain ⟨k38, m15, h⟩ := succ_of (f := fun n => M_mutex_New_L2 v14 n x14.2.1 (x14.2.2.map (·.2))) rfl h; replace h : M_mutex_New_L2 v14 (k38 + 1) x14.2.1 (x14.2.2.map (·.2)) = some o12 := h; rw [M_mutex_New_L2] at h; refine aSR ?_; intro _; refine dr_XNew ?_; refine aSq ?_; refine aCd ?_; intro _; refine spl h (fun c16 h => ?_) (fun c16 h => ?_)
            · refine aSk ?_; refine aSq ?_; refine aBk ?_; refine awp_regionO [6] ?_; intro _; intro _; obtain ⟨q17, h⟩ := grd_ok h; obtain ⟨q18, h⟩ := grd_ok h; obtain ⟨q19, h⟩ := grd_ok h; obtain ⟨q20, h⟩ := grd_ok h; rw [List.length_map] at q19; refine ⟨rfl, _, lf_makeX rfl rfl (Nat.le_of_ble_eq_true rfl) (tyTab_ok 41 _ rfl) rfl (tyTab_ok 4 _ rfl) rfl rfl rfl q17 (by show _ * (1 : Int) ≤ _; omega) (by omega) rfl (by simp only [Value.cells]; simp [Value.oneCell']) (by decide), ?_⟩; intro _; refine pl_XNew ?_; refine pl_XNew ?_; refine And.intro (by first | with_reducible assumption | omega | (simp; omega)) ?_; refine pe_XNew ?_; refine dr_XNew ?_; refine awp_reveal (lo := lo) (T := x14.2.2) 61 63 (fun w0 X h => h) rfl rfl (by decide) (Nat.le_of_ble_eq_true rfl) (fun b hb => ?_); intro _; refine aRg ?_; intro _; refine dr_XNew ?_; refine ⟨(k38, (IntKind.i64.wrap (x14.2.1 + 1)), (x14.2.2 ++ [(b, List.replicate v14.toNat false)])), ⟨by rw [List.map_append]; exact h, by rw [List.map_append, List.nodup_append]; exact ⟨n2, by simp, by intro a ha c hc; simp at hc; subst hc; intro e; subst e; exact hb ha⟩⟩, ltS m15, ?_⟩; exact ca_XNew
            · refine aEx ?_; refine ⟨x14.2.2, ⟨(Option.some.inj h).symm, n2⟩, ?_⟩; exact ca_XNew
        · rintro T32 ⟨ho32, n32⟩; have e32 : T32.length = o12.length := (by rw [ho32, List.length_map]); intro _; replace h := hK13; obtain ⟨o21, h, hK22⟩ := ob1_ok h; refine awp_cut (α := Tab) (fun v122 => mkS 126 [(5, .pim [.sl 1 ((z3.Vars).map cI), .sl 1 ((z3.Init).map cI), .sl 2 ((z3.Goal).map cF), .sl 4 ((z3.Ops).map cGOp), .sl 1 (v15.map cI), .sl 1 (rwT lo 4 v122)] 0)] []) (fun v => o21 = v.map (·.2) ∧ ((v).map (·.1)).Nodup) ?_ ?_
          · refine aSR ?_; intro _; refine dr_XNew ?_; refine aBk ?_; obtain ⟨q23, h⟩ := grd_ok h; obtain ⟨q24, h⟩ := grd_ok h; refine awp_wk (mkS 126 [(1, .ptr 1 0 0 0), (5, .pim [.sl 1 ((z3.Vars).map cI), .sl 1 ((z3.Init).map cI), .sl 2 ((z3.Goal).map cF), .sl 4 ((z3.Ops).map cGOp), .sl 1 (v15.map cI), .sl 1 (rwT lo 4 T32)] 0), (68, .sl 1 (a0.Init.map cI)), (69, .c (.int .i64 ((a0.Init.map cI).length : Int))), (70, .c (.int .i64 0))] [(1, ⟨26, 4, true, [[.sl 1 (a0.Vars.map cI), .sl 1 (a0.Init.map cI), .sl 2 (a0.Goal.map cF), .sl 4 (a0.Ops.map cGOp)]]⟩)]) ?_ ?_
            · repeat (first | exact True.intro | refine (ci_XNew ?_)); refine And.intro (bw_ptr rfl rfl rfl (.cons (.fr FrV.h) (.cons (.fr FrV.h) (.cons (.fr FrV.h) (.cons (.fr FrV.h) (.cons (bw_own3 rfl rfl rfl FrI.h (bwll_same rfl FrI.h) (by simp) q23) (.cons (bw_own3 rfl rfl rfl FrI.h (bwll_same rfl FrI.h) (by rw [rwT_len]) (by omega)) .nil))))))) ?_; exact ca_XNew
            · intro _; refine awp_loop (α := Nat × Tab × Int) (fun x => mkS 126 [(1, .ptr 1 0 0 0), (5, .pim [.sl 1 ((z3.Vars).map cI), .sl 1 ((z3.Init).map cI), .sl 2 ((z3.Goal).map cF), .sl 4 ((z3.Ops).map cGOp), .sl 1 (v15.map cI), .sl 1 (rwT lo 4 x.2.1)] 0), (68, .sl 1 (a0.Init.map cI)), (69, .c (.int .i64 ((a0.Init.map cI).length : Int))), (70, .c (.int .i64 x.2.2))] [(1, ⟨26, 4, true, [[.sl 1 (a0.Vars.map cI), .sl 1 (a0.Init.map cI), .sl 2 (a0.Goal.map cF), .sl 4 (a0.Ops.map cGOp)]]⟩)]) (fun x => M_mutex_New_L4 a0 v15 o12 z3 x.1 (x.2.1.map (·.2)) x.2.2 = some o21 ∧ ((x.2.1).map (·.1)).Nodup) (fun x => x.1) ((((a0.Init.map cI).length : Int)).toNat + 1, T32, 0) ⟨by rw [← ho32]; exact h, n32⟩ ?_ ?_
              · exact ca_XNew
              · intro x25 ⟨h, nx25⟩; intro _; obtain ⟨k180, m26, h⟩ := succ_of (f := fun n => M_mutex_New_L4 a0 v15 o12 z3 n (x25.2.1.map (·.2)) x25.2.2) rfl h; replace h : M_mutex_New_L4 a0 v15 o12 z3 (k180 + 1) (x25.2.1.map (·.2)) x25.2.2 = some o21 := h; rw [M_mutex_New_L4] at h; refine aSR ?_; intro _; refine dr_XNew ?_; refine aSq ?_; refine aCd ?_; intro _; refine spl h (fun c27 h => ?_) (fun c27 h => ?_)
                · refine aSk ?_; obtain ⟨o28, h, hK29⟩ := ob1_ok h; refine awp_cut (α := Tab) (fun v193 => mkS 126 [(1, .ptr 1 0 0 0), (5, .pim [.sl 1 ((z3.Vars).map cI), .sl 1 ((z3.Init).map cI), .sl 2 ((z3.Goal).map cF), .sl 4 ((z3.Ops).map cGOp), .sl 1 (v15.map cI), .sl 1 (rwT lo 4 v193)] 0), (68, .sl 1 (a0.Init.map cI)), (69, .c (.int .i64 ((a0.Init.map cI).length : Int))), (70, .c (.int .i64 x25.2.2))] [(1, ⟨26, 4, true, [[.sl 1 (a0.Vars.map cI), .sl 1 (a0.Init.map cI), .sl 2 (a0.Goal.map cF), .sl 4 (a0.Ops.map cGOp)]]⟩)]) (fun v => o28 = v.map (·.2) ∧ ((v).map (·.1)).Nodup) ?_ ?_
                  · refine aBk ?_; refine aSR ?_; intro _; obtain ⟨y195, w30, q31, h⟩ := ix_ok h; refine Exists.intro (cI y195) (And.intro (map_at' w30) ?_); intro _; refine pr_XNew ?_; refine dr_XNew ?_; refine aSR ?_; intro _; refine dr_XNew ?_; refine aBk ?_; refine awp_loop (α := Nat × Tab × Int) (fun x => mkS 126 [(1, .ptr 1 0 0 0), (5, .pim [.sl 1 ((z3.Vars).map cI), .sl 1 ((z3.Init).map cI), .sl 2 ((z3.Goal).map cF), .sl 4 ((z3.Ops).map cGOp), .sl 1 (v15.map cI), .sl 1 (rwT lo 4 x.2.1)] 0), (9, .c (.int .i64 x25.2.2)), (10, .c (.int .i64 y195)), (68, .sl 1 (a0.Init.map cI)), (69, .c (.int .i64 ((a0.Init.map cI).length : Int))), (70, .c (.int .i64 x25.2.2)), (76, .sl 1 (a0.Init.map cI)), (77, .c (.int .i64 ((a0.Init.map cI).length : Int))), (78, .c (.int .i64 x.2.2))] [(1, ⟨26, 4, true, [[.sl 1 (a0.Vars.map cI), .sl 1 (a0.Init.map cI), .sl 2 (a0.Goal.map cF), .sl 4 (a0.Ops.map cGOp)]]⟩)]) (fun x => M_mutex_New_L3 a0 v15 o12 x25.2.2 y195 z3 x.1 (x.2.1.map (·.2)) x.2.2 = some o28 ∧ ((x.2.1).map (·.1)).Nodup) (fun x => x.1) ((((a0.Init.map cI).length : Int)).toNat + 1, x25.2.1, 0) ⟨h, nx25⟩ ?_ ?_
                    · exact ca_XNew
                    · intro x32 ⟨h, nx32⟩; intro _; obtain ⟨k204, m33, h⟩ := succ_of (f := fun n => M_mutex_New_L3 a0 v15 o12 x25.2.2 y195 z3 n (x32.2.1.map (·.2)) x32.2.2) rfl h; replace h : M_mutex_New_L3 a0 v15 o12 x25.2.2 y195 z3 (k204 + 1) (x32.2.1.map (·.2)) x32.2.2 = some o28 := h; rw [M_mutex_New_L3] at h; refine aSR ?_; intro _; refine dr_XNew ?_; refine aSq ?_; refine aCd ?_; intro _; refine spl h (fun c34 h => ?_) (fun c34 h => ?_)
                      · refine aSk ?_; refine aSq ?_; refine aBk ?_; refine aSR ?_; intro _; obtain ⟨y205, w35, q36, h⟩ := ix_ok h; refine Exists.intro (cI y205) (And.intro (map_at' w35) ?_); intro _; refine pr_XNew ?_; refine dr_XNew ?_; refine awp_regionS [] 7 rfl ?_; intro _; obtain ⟨z206, u37, h⟩ := ob1_ok h; refine And.intro (by intro h; first | (cases h; done) | exact ⟨by kernel_rfl, by kernel_rfl, by kernel_rfl⟩) ?_; intro w0 X m a w hr; refine set_call (lo := lo) (z := ({ t := z3, first := v15, reached := x32.2.1.map (·.2) : GTable })) (T := x32.2.1) (a := (x25.2.2, y195)) (b := (x32.2.2, y205)) 5 (Nat.le_of_ble_eq_true rfl) hr rfl rfl rfl rfl (Nat.le_of_ble_eq_true rfl) rfl rfl rfl u37 nx32 (fun T2 e2 e1 => ⟨?_, mkT 0 126 [(1, .ptr 1 0 0 0), (5, .pim [.sl 1 ((z3.Vars).map cI), .sl 1 ((z3.Init).map cI), .sl 2 ((z3.Goal).map cF), .sl 4 ((z3.Ops).map cGOp), .sl 1 (v15.map cI), .sl 1 (rwT lo 4 T2)] 0), (9, .c (.int .i64 x25.2.2)), (10, .c (.int .i64 y195)), (68, .sl 1 (a0.Init.map cI)), (69, .c (.int .i64 ((a0.Init.map cI).length : Int))), (70, .c (.int .i64 x25.2.2)), (76, .sl 1 (a0.Init.map cI)), (77, .c (.int .i64 ((a0.Init.map cI).length : Int))), (78, .c (.int .i64 x32.2.2))], ?_, rfl, ?_⟩)
                        · repeat (first | exact UHL.nil | refine UHL.none ?_ | refine UHL.some (by first | exact us_box | exact us_map) ?_)
                        · repeat (first | exact USL.nil | refine USL.cons US.dead ?_ | refine USL.cons US.c ?_ | refine USL.cons (us_zT (z := ({ t := z3, first := v15, reached := x32.2.1.map (·.2) : GTable })) (lo := lo) e1) ?_ | refine USL.cons us_i ?_ | refine USL.cons us_f ?_ | refine USL.cons us_o ?_ | refine USL.cons us_lf ?_ | refine USL.cons (.ub .mp) ?_ | refine USL.cons (.ub .ptr) ?_)
                        intro m' a' w' hr'; refine ⟨⟨mkT 0 126 [(1, .ptr 1 0 0 0), (5, .pim [.sl 1 ((z3.Vars).map cI), .sl 1 ((z3.Init).map cI), .sl 2 ((z3.Goal).map cF), .sl 4 ((z3.Ops).map cGOp), .sl 1 (v15.map cI), .sl 1 (rwT lo 4 T2)] 0), (9, .c (.int .i64 x25.2.2)), (10, .c (.int .i64 y195)), (68, .sl 1 (a0.Init.map cI)), (69, .c (.int .i64 ((a0.Init.map cI).length : Int))), (70, .c (.int .i64 x25.2.2)), (76, .sl 1 (a0.Init.map cI)), (77, .c (.int .i64 ((a0.Init.map cI).length : Int))), (78, .c (.int .i64 x32.2.2))], _⟩, m', rfl, ?_, hr'⟩; refine awp_wk (mkS 126 [(1, .ptr 1 0 0 0), (5, .pim [.sl 1 ((z3.Vars).map cI), .sl 1 ((z3.Init).map cI), .sl 2 ((z3.Goal).map cF), .sl 4 ((z3.Ops).map cGOp), .sl 1 (v15.map cI), .sl 1 (rwT lo 4 T2)] 0), (9, .c (.int .i64 x25.2.2)), (10, .c (.int .i64 y195)), (68, .sl 1 (a0.Init.map cI)), (69, .c (.int .i64 ((a0.Init.map cI).length : Int))), (70, .c (.int .i64 x25.2.2)), (76, .sl 1 (a0.Init.map cI)), (77, .c (.int .i64 ((a0.Init.map cI).length : Int))), (78, .c (.int .i64 x32.2.2))] [(1, ⟨26, 4, true, [[.sl 1 (a0.Vars.map cI), .sl 1 (a0.Init.map cI), .sl 2 (a0.Goal.map cF), .sl 4 (a0.Ops.map cGOp)]]⟩)]) ?_ ?_
                        · exact ca_XNew
                        intro _; refine aRg ?_; intro _; refine dr_XNew ?_; refine ⟨(k204, T2, (IntKind.i64.wrap (x32.2.2 + 1))), ⟨by rw [e2]; exact h, by rw [e1]; exact nx32⟩, ltS m33, ?_⟩; exact ca_XNew
                      · refine aEx ?_; refine ⟨x32.2.1, ⟨(Option.some.inj h).symm, nx32⟩, ?_⟩; exact ca_XNew
                  · rintro T193 ⟨ho193, n193⟩; intro _; replace h := hK29; refine aRg ?_; intro _; refine dr_XNew ?_; refine ⟨(k180, T193, (IntKind.i64.wrap (x25.2.2 + 1))), ⟨by rw [← ho193]; exact h, n193⟩, ltS m26, ?_⟩; exact ca_XNew
                · refine aEx ?_; refine ⟨x25.2.1, ⟨(Option.some.inj h).symm, nx25⟩, ?_⟩; exact ca_XNew
          · rintro T122 ⟨ho122, n122⟩; intro _; replace h := hK22; refine aSR ?_; intro _; refine ⟨_, lf_mapnew k3 oGCause rfl rfl (Nat.le_of_ble_eq_true rfl) rfl, ?_⟩; intro _; refine dr_XNew ?_; refine aSq ?_; refine aSR ?_; intro _; refine dr_XNew ?_; refine aBk ?_; refine awp_loop (α := Nat × Tab × Bool × (List ((Int × Int × Int) × (Option GCause)))) (fun x => mkS 126 [(5, .pim [.sl 1 ((z3.Vars).map cI), .sl 1 ((z3.Init).map cI), .sl 2 ((z3.Goal).map cF), .sl 4 ((z3.Ops).map cGOp), .sl 1 (v15.map cI), .sl 1 (rwT lo 4 x.2.1)] 0), (13, .mp 93 0), (14, .c (.bool x.2.2.1))] [(93, mB k3 oGCause x.2.2.2)]) (fun x => M_mutex_New_L6 g v15 o12 z3 x.1 (x.2.1.map (·.2)) x.2.2.1 x.2.2.2 = some (r1, r2) ∧ ((x.2.1).map (·.1)).Nodup) (fun x => x.1) (g, T122, true, []) ⟨by rw [← ho122]; exact h, n122⟩ ?_ ?_
            · exact ca_XNew
            · intro x38 ⟨h, nx38⟩; intro _; obtain ⟨k359, m39, h⟩ := succ_of (f := fun n => M_mutex_New_L6 g v15 o12 z3 n (x38.2.1.map (·.2)) x38.2.2.1 x38.2.2.2) rfl h; replace h : M_mutex_New_L6 g v15 o12 z3 (k359 + 1) (x38.2.1.map (·.2)) x38.2.2.1 x38.2.2.2 = some (r1, r2) := h; rw [M_mutex_New_L6] at h; refine aSq ?_; refine aSR ?_; intro _; refine dr_XNew ?_; refine aCd ?_; intro _; refine spl h (fun c40 h => ?_) (fun c40 h => ?_)
              · refine aSk ?_; refine aBk ?_; refine aSR ?_; intro _; refine dr_XNew ?_; refine aSR ?_; intro _; obtain ⟨z360, u41, h⟩ := ob1_ok h; have cvo : ∀ {η η' : Nat → Ent}, BWL η η' [.pim (cT ({ t := z3, first := v15, reached := x38.2.1.map (·.2) : GTable }) lo x38.2.1) 0] _ := .cons (.cv (cv_z rfl) FrV.h) .nil; refine clf_XNew [] rfl rfl (A_stratagem_mutex_Table_open ({ t := z3, first := v15, reached := x38.2.1.map (·.2) : GTable }) u41) ?_ (hb := cvo); intro _; refine dr_XNew ?_; obtain ⟨o42, h, hK43⟩ := ob1_ok h; refine awp_cutT (α := Tab × Bool × (List ((Int × Int × Int) × (Option GCause)))) (fun (v394, v395, v396) => mkS 126 [(5, .pim [.sl 1 ((z3.Vars).map cI), .sl 1 ((z3.Init).map cI), .sl 2 ((z3.Goal).map cF), .sl 4 ((z3.Ops).map cGOp), .sl 1 (v15.map cI), .sl 1 (rwT lo 4 v394)] 0), (13, .mp 93 0), (14, .c (.bool v395))] [(93, mB k3 oGCause v396)]) (fun v => o42 = (.inl (v.1.map (·.2), v.2.1, v.2.2)) ∧ ((v.1).map (·.1)).Nodup) ?_ ?_
                · refine aBk ?_; refine awp_loop (α := Nat × Tab × Bool × Int × (List ((Int × Int × Int) × (Option GCause)))) (fun x => mkS 126 [(5, .pim [.sl 1 ((z3.Vars).map cI), .sl 1 ((z3.Init).map cI), .sl 2 ((z3.Goal).map cF), .sl 4 ((z3.Ops).map cGOp), .sl 1 (v15.map cI), .sl 1 (rwT lo 4 x.2.1)] 0), (13, .mp 93 0), (14, .c (.bool x.2.2.1)), (96, .sl 1 (z360.map cL_cF)), (97, .c (.int .i64 ((z360.map cL_cF).length : Int))), (98, .c (.int .i64 x.2.2.2.1))] [(93, mB k3 oGCause x.2.2.2.2)]) (fun x => M_mutex_New_L5 g v15 o12 z3 z360 x.1 (x.2.1.map (·.2)) x.2.2.1 x.2.2.2.1 x.2.2.2.2 = some o42 ∧ ((x.2.1).map (·.1)).Nodup) (fun x => x.1) ((((z360.map cL_cF).length : Int)).toNat + 1, x38.2.1, false, 0, x38.2.2.2) ⟨h, nx38⟩ ?_ ?_
                  · exact ca_XNew
                  · intro x44 ⟨h, nx44⟩; intro _; obtain ⟨k424, m45, h⟩ := succ_of (f := fun n => M_mutex_New_L5 g v15 o12 z3 z360 n (x44.2.1.map (·.2)) x44.2.2.1 x44.2.2.2.1 x44.2.2.2.2) rfl h; replace h : M_mutex_New_L5 g v15 o12 z3 z360 (k424 + 1) (x44.2.1.map (·.2)) x44.2.2.1 x44.2.2.2.1 x44.2.2.2.2 = some o42 := h; rw [M_mutex_New_L5] at h; refine aSR ?_; intro _; refine dr_XNew ?_; refine aSq ?_; refine aCd ?_; intro _; refine spl h (fun c46 h => ?_) (fun c46 h => ?_)
                    · refine aSk ?_; refine aSq ?_; refine aBk ?_; refine aSR ?_; intro _; obtain ⟨y425, w47, q48, h⟩ := ix_ok h; refine Exists.intro (cL_cF y425) (And.intro (map_at' w47) ?_); intro _; refine pr_XNew ?_; refine dr_XNew ?_; refine aSR ?_; intro _; obtain ⟨z426, z427, c428, u49, h⟩ := ob3_ok h; have cvm : Cv (.pim (cT ({ t := z3, first := v15, reached := x44.2.1.map (·.2) : GTable }) lo x44.2.1) 0) _ := cv_z rfl; have mA : ACallG (cxL cx lo) _ _ _ _ _ _ := toL (A_stratagem_mutex_Table_made g ({ t := z3, first := v15, reached := x44.2.1.map (·.2) : GTable }) y425 x44.2.2.2.2 u49); refine clg_XNew [(78, 93)] [] [] [(93, ⟨0, some (mB k3 oGCause c428)⟩)] (.tup [.c (.bool z426), eA z427]) rfl rfl mA ?_ (hw := by refine GWL.cons (.cv cvm FrV.h) ?_; refine GWL.cons (gw_fr2 rfl FrV.h) ?_; refine GWL.cons (gw_mren rfl rfl rfl rfl) ?_; exact GWL.nil); intro _; refine dr_XNew ?_; refine aSq ?_; refine aSq ?_; rcases z427 with _ | e429
                      · replace h := erM_nil h; refine aRg ?_; intro _; refine dr_XNew ?_; refine aCd ?_; intro _; refine litF ?_; refine aSk ?_; refine aSR ?_; intro _; refine dr_XNew ?_; refine aCd ?_; intro _; refine spl h (fun c50 h => ?_) (fun c50 h => ?_)
                        · refine aSq ?_; refine awp_regionS [] 10 rfl ?_; intro _; obtain ⟨y430, w51, q52, h⟩ := ix_ok h; refine Exists.intro (cF y430) (And.intro (map_at' w51) ?_); intro _; obtain ⟨y431, w53, q54, h⟩ := ix_ok h; refine Exists.intro (cF y431) (And.intro (map_at' w53) ?_); intro _; obtain ⟨z432, u55, h⟩ := ob1_ok h; refine pr_XNew ?_; refine pr_XNew ?_; refine And.intro (by intro h; first | (cases h; done) | exact ⟨by kernel_rfl, by kernel_rfl, by kernel_rfl⟩) ?_; intro w0 X m a w hr; refine set_call (lo := lo) (z := ({ t := z3, first := v15, reached := x44.2.1.map (·.2) : GTable })) (T := x44.2.1) (a := y430) (b := y431) 5 (Nat.le_of_ble_eq_true rfl) hr rfl rfl rfl rfl (Nat.le_of_ble_eq_true rfl) rfl rfl rfl u55 nx44 (fun T2 e2 e1 => ⟨?_, mkT 0 126 [(5, .pim [.sl 1 ((z3.Vars).map cI), .sl 1 ((z3.Init).map cI), .sl 2 ((z3.Goal).map cF), .sl 4 ((z3.Ops).map cGOp), .sl 1 (v15.map cI), .sl 1 (rwT lo 4 T2)] 0), (13, .mp 93 0), (96, .sl 1 (z360.map cL_cF)), (97, .c (.int .i64 ((z360.map cL_cF).length : Int))), (98, .c (.int .i64 x44.2.2.2.1))], ?_, rfl, ?_⟩)
                          · repeat (first | exact UHL.nil | refine UHL.none ?_ | refine UHL.some (by first | exact us_box | exact us_map) ?_)
                          · repeat (first | exact USL.nil | refine USL.cons US.dead ?_ | refine USL.cons US.c ?_ | refine USL.cons (us_zT (z := ({ t := z3, first := v15, reached := x44.2.1.map (·.2) : GTable })) (lo := lo) e1) ?_ | refine USL.cons us_i ?_ | refine USL.cons us_f ?_ | refine USL.cons us_o ?_ | refine USL.cons us_lf ?_ | refine USL.cons (.ub .mp) ?_ | refine USL.cons (.ub .ptr) ?_)
                          intro m' a' w' hr'; refine ⟨⟨mkT 0 126 [(5, .pim [.sl 1 ((z3.Vars).map cI), .sl 1 ((z3.Init).map cI), .sl 2 ((z3.Goal).map cF), .sl 4 ((z3.Ops).map cGOp), .sl 1 (v15.map cI), .sl 1 (rwT lo 4 T2)] 0), (13, .mp 93 0), (96, .sl 1 (z360.map cL_cF)), (97, .c (.int .i64 ((z360.map cL_cF).length : Int))), (98, .c (.int .i64 x44.2.2.2.1))], _⟩, m', rfl, ?_, hr'⟩; refine awp_wk (mkS 126 [(5, .pim [.sl 1 ((z3.Vars).map cI), .sl 1 ((z3.Init).map cI), .sl 2 ((z3.Goal).map cF), .sl 4 ((z3.Ops).map cGOp), .sl 1 (v15.map cI), .sl 1 (rwT lo 4 T2)] 0), (13, .mp 93 0), (96, .sl 1 (z360.map cL_cF)), (97, .c (.int .i64 ((z360.map cL_cF).length : Int))), (98, .c (.int .i64 x44.2.2.2.1))] [(93, mB k3 oGCause c428)]) ?_ ?_
                          · exact ca_XNew
                          intro _; refine aRg ?_; intro _; refine dr_XNew ?_; refine aRg ?_; intro _; refine dr_XNew ?_; refine ⟨(k424, T2, true, (IntKind.i64.wrap (x44.2.2.2.1 + 1)), c428), ⟨by rw [e2]; exact h, by rw [e1]; exact nx44⟩, ltS m45, ?_⟩; exact ca_XNew
                        · refine aSk ?_; refine aRg ?_; intro _; refine dr_XNew ?_; refine ⟨(k424, x44.2.1, x44.2.2.1, (IntKind.i64.wrap (x44.2.2.2.1 + 1)), c428), ⟨h, nx44⟩, ltS m45, ?_⟩; exact ca_XNew
                      · replace h := erM_no h; refine aRg ?_; intro _; refine dr_XNew ?_; refine aCd ?_; intro _; refine litT ?_; refine aSR ?_; intro _; refine dr_XNew ?_; refine aRt ?_; have j56 := Option.some.inj h; subst j56; replace h := (osum_r hK43); intro _; obtain ⟨rfl, rfl⟩ := inj2 h; exact ca_XNew
                    · refine aEx ?_; refine ⟨(x44.2.1, x44.2.2.1, x44.2.2.2.2), ⟨(Option.some.inj h).symm, nx44⟩, ?_⟩; exact ca_XNew
                · rintro ⟨v394, v395, v396⟩ ⟨ho, n394⟩; have ho := ho.symm; subst ho; intro _; replace h := (osum_l hK43); refine ⟨(k359, v394, v395, v396), ⟨h, n394⟩, ltS m39, ?_⟩; exact ca_XNew
              · refine aEx ?_; refine aSR ?_; intro _; refine dr_XNew ?_; refine aRt ?_; intro _; obtain ⟨rfl, rfl⟩ := inj2 h; repeat (first | exact True.intro | refine And.intro (BW.cv (cv_z (z := ({ t := z3, first := v15, reached := x38.2.1.map (·.2) : GTable })) (lo := lo) (T := x38.2.1) rfl) FrV.h) ?_ | refine ci_XNew ?_)
  · replace h := erM_no h; refine aRg ?_; intro _; refine dr_XNew ?_; refine aCd ?_; intro _; refine litT ?_; refine aSR ?_; intro _; refine dr_XNew ?_; refine aRt ?_; intro _; obtain ⟨rfl, rfl⟩ := inj2 h; exact ca_XNew
end Go.Proofs.YtinnphmnhmdcgaaGreat.Am
/- Range loops of the models as recursions. -/
namespace Go.Proofs.YtinnphmnhmdcgaaGreat.Am
def M_mutex_New_L1_B (_ : GTask) (_y26 : Int) (_ : Int) : ((Int) × (List Int)) → (((Int) × (List Int)) → Option (Int × (List Int))) → Option (Int × (List Int)) := fun (v22, v24) rc => ixv _y26 (fun y26 =>
       grd ((v24.length + 1) * 8 ≤ 140737488355328) (rc ((IntKind.i64.wrap (v22 + y26)), (v24 ++ [v22]))))
def M_mutex_New_L1_E (_ : GTask) : ((Int) × (List Int)) → Option (Int × (List Int)) := fun (v22, v24) => some (v22, v24)
theorem M_mutex_New_L1_eq (a0 : GTask) (v22 : Int) (v24 : List Int) (hl : a0.Vars.length < 9223372036854775807) : M_mutex_New_L1 a0 (((a0.Vars.map cI).length : Int).toNat + 1) v22 0 v24 = Rg (M_mutex_New_L1_B a0) (M_mutex_New_L1_E a0) a0.Vars 0 (v22, v24) := rg_e1 (L := fun k i p => match p with | (v22, v24) => M_mutex_New_L1 a0 k v22 i v24) hl (fun _ _ ⟨_, _⟩ => rfl) (v22, v24)
def M_mutex_New_L2_B (v14 : Int) (_ : Int) : ((List (List Bool))) → (((List (List Bool))) → Option (List (List Bool))) → Option (List (List Bool)) := fun v37 rc => grd (0 ≤ v14) (grd (v14 * 1 ≤ 281474976710656) (grd ((v37.length + 1) * 24 ≤ 140737488355328) (grd (v14.toNat ≤ 140737488355328) (rc ((v37 ++ [(List.replicate v14.toNat false)]))))))
def M_mutex_New_L2_E (_ : Int) : ((List (List Bool))) → Option (List (List Bool)) := fun v37 => some v37
theorem M_mutex_New_L2_eq (v14 : Int) (v37 : List (List Bool)) {m : Nat} (hm : v14 = (m : Int)) (hl : m < 9223372036854775807) : M_mutex_New_L2 v14 ((v14).toNat + 1) 0 v37 = Rn (M_mutex_New_L2_B v14) (M_mutex_New_L2_E v14) m 0 v37 := rn_e (L := fun k i v37 => M_mutex_New_L2 v14 k i v37) hm hl (fun _ _ _ => rfl) v37
def M_mutex_New_L3_B (_ : GTask) (v15 : List Int) (v32 : List (List Bool)) (v179 : Int) (y195 : Int) (z3 : GTask) (_y205 : Int) (v203 : Int) : ((List (List Bool))) → (((List (List Bool))) → Option (List (List Bool))) → Option (List (List Bool)) := fun v202 rc => ixv _y205 (fun y205 =>
       ob1 (M_set ({ t := (({ t := z3, first := v15, reached := v32 : GTable }).t), first := ({ t := z3, first := v15, reached := v32 : GTable }).first, reached := v202 : GTable }) (v179, y195) (v203, y205)) (fun z206 =>
        rc (z206)))
def M_mutex_New_L3_E (_ : GTask) (_ : List Int) (_ : List (List Bool)) (_ : Int) (_ : Int) (_ : GTask) : ((List (List Bool))) → Option (List (List Bool)) := fun v202 => some v202
theorem M_mutex_New_L3_eq (a0 : GTask) (v15 : List Int) (v32 : List (List Bool)) (v179 : Int) (y195 : Int) (z3 : GTask) (v202 : List (List Bool)) (hl : a0.Init.length < 9223372036854775807) : M_mutex_New_L3 a0 v15 v32 v179 y195 z3 (((a0.Init.map cI).length : Int).toNat + 1) v202 0 = Rg (M_mutex_New_L3_B a0 v15 v32 v179 y195 z3) (M_mutex_New_L3_E a0 v15 v32 v179 y195 z3) a0.Init 0 v202 := rg_e1 (L := fun k i v202 => M_mutex_New_L3 a0 v15 v32 v179 y195 z3 k v202 i) hl (fun _ _ _ => rfl) v202
def M_mutex_New_L4_B (a0 : GTask) (v15 : List Int) (v32 : List (List Bool)) (z3 : GTask) (_y195 : Int) (v179 : Int) : ((List (List Bool))) → (((List (List Bool))) → Option (List (List Bool))) → Option (List (List Bool)) := fun v178 rc => ob1 (ixv _y195 (fun y195 =>
        M_mutex_New_L3 a0 v15 v32 v179 y195 z3 ((((a0.Init.map cI).length : Int)).toNat + 1) v178 0) : Option (List (List Bool)))
       (fun v193 => rc (v193))
def M_mutex_New_L4_E (_ : GTask) (_ : List Int) (_ : List (List Bool)) (_ : GTask) : ((List (List Bool))) → Option (List (List Bool)) := fun v178 => some v178
theorem M_mutex_New_L4_eq (a0 : GTask) (v15 : List Int) (v32 : List (List Bool)) (z3 : GTask) (v178 : List (List Bool)) (hl : a0.Init.length < 9223372036854775807) : M_mutex_New_L4 a0 v15 v32 z3 (((a0.Init.map cI).length : Int).toNat + 1) v178 0 = Rg (M_mutex_New_L4_B a0 v15 v32 z3) (M_mutex_New_L4_E a0 v15 v32 z3) a0.Init 0 v178 := rg_e2 (L := fun k i v178 => M_mutex_New_L4 a0 v15 v32 z3 k v178 i) hl (fun k n p y hy h1 h2 => by first | (simp only [M_mutex_New_L4, M_mutex_New_L4_B, List.length_map, decide_lt h1, sel, ix_at hy, ixv, h2]; done) | (simp only [List.length_map] at h1 hy; (simp only [M_mutex_New_L4, M_mutex_New_L4_B, List.length_map, decide_lt h1, sel, ix_at hy, ixv, h2]; done))) (fun k p => by simp only [M_mutex_New_L4, M_mutex_New_L4_E, List.length_map, decide_ge, sel]) v178
def M_mutex_New_L5_B (g : Nat) (v15 : List Int) (v32 : List (List Bool)) (z3 : GTask) (_ : List (List Fact)) (_y425 : List Fact) (_ : Int) : ((List (List Bool)) × (Bool) × (List ((Int × Int × Int) × (Option GCause)))) → (((List (List Bool)) × (Bool) × (List ((Int × Int × Int) × (Option GCause)))) → Option (((List (List Bool)) × Bool × (List ((Int × Int × Int) × (Option GCause)))) ⊕ ((Option GTable) × Er))) → Option (((List (List Bool)) × Bool × (List ((Int × Int × Int) × (Option GCause)))) ⊕ ((Option GTable) × Er)) := fun (v420, v421, v423) rc => ixv _y425 (fun y425 =>
       ob3 (M_stratagem_mutex_Table_made g ({ t := (({ t := z3, first := v15, reached := v32 : GTable }).t), first := ({ t := z3, first := v15, reached := v32 : GTable }).first, reached := v420 : GTable }) y425 v423) (fun z426 z427 c428 =>
        erM z427
         (sel z426
           (ix y425 0 (fun y430 =>
             ix y425 (IntKind.i64.wrap (((y425.map cF).length : Int) - 1)) (fun y431 =>
              ob1 (M_set ({ t := (({ t := z3, first := v15, reached := v32 : GTable }).t), first := ({ t := z3, first := v15, reached := v32 : GTable }).first, reached := v420 : GTable }) y430 y431) (fun z432 =>
               rc (z432, true, c428)))))
           (rc (v420, v421, c428)))
         (fun e429 => some (.inr (none, (Er.no e429))))))
def M_mutex_New_L5_E (_ : Nat) (_ : List Int) (_ : List (List Bool)) (_ : GTask) (_ : List (List Fact)) : ((List (List Bool)) × (Bool) × (List ((Int × Int × Int) × (Option GCause)))) → Option (((List (List Bool)) × Bool × (List ((Int × Int × Int) × (Option GCause)))) ⊕ ((Option GTable) × Er)) := fun (v420, v421, v423) => some (.inl (v420, v421, v423))
theorem M_mutex_New_L5_eq (g : Nat) (v15 : List Int) (v32 : List (List Bool)) (z3 : GTask) (z360 : List (List Fact)) (v420 : List (List Bool)) (v421 : Bool) (v423 : List ((Int × Int × Int) × (Option GCause))) (hl : z360.length < 9223372036854775807) : M_mutex_New_L5 g v15 v32 z3 z360 (((z360.map cL_cF).length : Int).toNat + 1) v420 v421 0 v423 = Rg (M_mutex_New_L5_B g v15 v32 z3 z360) (M_mutex_New_L5_E g v15 v32 z3 z360) z360 0 (v420, v421, v423) := rg_e1 (L := fun k i p => match p with | (v420, v421, v423) => M_mutex_New_L5 g v15 v32 z3 z360 k v420 v421 i v423) hl (fun _ _ ⟨_, _, _⟩ => rfl) (v420, v421, v423)
end Go.Proofs.YtinnphmnhmdcgaaGreat.Am
/- The table of mutexes in plain Lean: what New computes. -/
namespace Go.Proofs.YtinnphmnhmdcgaaGreat.Am
open Go.RowKit
theorem cloneF_eq {l : List Fact} (h : l.length ≤ 1000) : M_cloneF l = some l := grd_t (by omega)
theorem cloneI_eq {l : List Int} (h : l.length ≤ 1000) : M_cloneI l = some l := grd_t (by omega)
theorem cop1 (o : GOp) : ∀ (r : List GEffect) (i : Int) (v : List GEffect), (∀ e ∈ r, e.When.length ≤ 64) → v.length + r.length ≤ 100000 → Rg (M_mutex_copied_L1_B o) (M_mutex_copied_L1_E o) r i v = some (v ++ r)
  | [], _, v, _, _ => by simp [Rg, M_mutex_copied_L1_E]
  | e :: r, i, v, h, hl => by
    rw [List.length_cons] at hl
    have he := h e (List.mem_cons_self ..)
    rw [Rg, M_mutex_copied_L1_B, ixv, cloneF_eq (by omega), ob1_some, grd_t (by omega), grd_t (by omega), cop1 o r (i + 1) _ (fun u hu => h u (List.mem_cons_of_mem _ hu)) (by rw [List.length_append, List.length_singleton]; omega), List.append_assoc]
    rfl
theorem cop2 (t : GTask) (z1 z2 : List Int) (z3 : List Fact) (h3 : z3.length ≤ 1000) : ∀ (r : List GOp) (i : Int) (v : List GOp), (∀ o ∈ r, o.Pre.length ≤ 64 ∧ o.Effs.length ≤ 64 ∧ ∀ e ∈ o.Effs, e.When.length ≤ 64) → v.length + r.length ≤ 100000 → Rg (M_mutex_copied_L2_B t z1 z2 z3) (M_mutex_copied_L2_E t z1 z2 z3) r i v = some { Vars := z1, Init := z2, Goal := z3, Ops := v ++ r }
  | [], _, v, _, hl => by
    rw [List.length_nil] at hl
    rw [Rg, M_mutex_copied_L2_E, grd_t (by omega), grd_t (by omega), List.append_nil]
  | o :: r, i, v, h, hl => by
    rw [List.length_cons] at hl
    obtain ⟨h1, h2, h4⟩ := h o (List.mem_cons_self ..)
    rw [Rg, M_mutex_copied_L2_B, ixv, cloneF_eq (by omega), ob1_some, M_mutex_copied_L1_eq o [] (by omega), cop1 o o.Effs 0 [] h4 (by rw [List.length_nil]; omega), ob1_some, List.nil_append, grd_t (by omega), grd_t (by omega), grd_t (by omega), ob1_some, cop2 t z1 z2 z3 h3 r (i + 1) _ (fun u hu => h u (List.mem_cons_of_mem _ hu)) (by rw [List.length_append, List.length_singleton]; omega), List.append_assoc]
    rfl
theorem copied_eq {t : GTask} (hg : goodF t = true) : M_mutex_copied t = some t := by
  have ok := good_ok hg
  have hg2 := hg
  unfold goodF at hg2
  simp only [Bool.and_eq_true, decide_eq_true_iff] at hg2
  obtain ⟨⟨g1, g2⟩, -, g3, g4, -⟩ := hg2
  have hi : t.Init.length = t.Vars.length := Decidable.byContradiction fun h => by rw [stateF_len (fun e => h e.symm)] at g3; cases g3
  have hgl := propF_len' g4
  rw [M_mutex_copied, cloneI_eq (by omega), ob1_some, cloneI_eq (by omega), ob1_some, cloneF_eq (by omega), ob1_some, M_mutex_copied_L2_eq _ _ _ _ _ (by omega), cop2 t _ _ _ (by omega) t.Ops 0 [] (fun o ho => by
    have oo := good_op hg ho
    have := propF_len' oo.pre
    refine ⟨by omega, oo.effs, fun e he => ?_⟩
    have := propF_len' (oo.when e he)
    omega) (by rw [List.length_nil]; omega), List.nil_append]
theorem new1 (t : GTask) : ∀ (r : List Int) (i v22 : Int) (v24 : List Int), (∀ k ∈ r, 1 ≤ k ∧ k ≤ 64) → 0 ≤ v22 → v22 + 64 * r.length ≤ 100000 → v24.length + r.length ≤ 1000 → Rg (M_mutex_New_L1_B t) (M_mutex_New_L1_E t) r i (v22, v24) = some (v22 + sumI r, v24 ++ offG v22 r)
  | [], i, v22, v24, _, _, _, _ => by simp [Rg, M_mutex_New_L1_E, sumI, offG]
  | k :: r, i, v22, v24, h, h0, h1, h2 => by
    rw [List.length_cons] at h1 h2
    have hk := h k (List.mem_cons_self ..)
    rw [Rg, M_mutex_New_L1_B, ixv, grd_t (by omega), wrap_eq (by omega) (by omega), new1 t r (i + 1) (v22 + k) _ (fun u hu => h u (List.mem_cons_of_mem _ hu)) (by omega) (by omega) (by rw [List.length_append, List.length_singleton]; omega), sumI, offG, List.append_assoc, Int.add_assoc]
    rfl
theorem new2 (m : Nat) (hm : m ≤ 512) : ∀ (k : Nat) (i : Int) (v : List (List Bool)), v.length + k ≤ 1000 → Rn (M_mutex_New_L2_B (m : Int)) (M_mutex_New_L2_E (m : Int)) k i v = some (v ++ List.replicate k (List.replicate m false))
  | 0, i, v, _ => by simp [Rn, M_mutex_New_L2_E]
  | k + 1, i, v, h => by
    rw [Rn, M_mutex_New_L2_B, grd_t (by omega), grd_t (by omega), grd_t (by omega), grd_t (by omega), new2 m hm k (i + 1) _ (by rw [List.length_append, List.length_singleton]; omega), Int.toNat_natCast, List.append_assoc, List.replicate_succ]
    rfl
def zeroR (t : GTask) : List (List Bool) := List.replicate (sumI t.Vars).toNat (List.replicate (sumI t.Vars).toNat false)
theorem zero_rk {t : GTask} (hz : Sz t) : RkR t (zeroR t) := by
  have := sumI_nn hz.pos
  refine ⟨by rw [zeroR, List.length_replicate]; omega, fun r hr => ?_⟩
  rw [List.eq_of_mem_replicate hr, zeroR, List.length_replicate, List.length_replicate]
theorem zero_is (t : GTask) (a b : Fact) : isF t (zeroR t) a b = false := by
  unfold isF atR zeroR
  rw [List.getD_eq_getElem?_getD, List.getD_eq_getElem?_getD, List.getElem?_replicate]
  split
  · rw [Option.getD_some, List.getElem?_replicate]
    split <;> rfl
  · simp
theorem zero_sy (t : GTask) : SyR t (zeroR t) := fun a b _ _ => by rw [zero_is, zero_is]
/-- the facts of a state -/
def stG : List Int → Int → List Fact
  | [], _ => []
  | x :: r, i => (i, x) :: stG r (i + 1)
theorem stG_mem {f : Fact} : ∀ (r : List Int) (i : Int), f ∈ stG r i ↔ i ≤ f.1 ∧ f.1 < i + r.length ∧ r.getD (f.1 - i).toNat 0 = f.2
  | [], i => by simp [stG] <;> (intros; omega)
  | x :: r, i => by
    rw [stG, List.mem_cons, stG_mem r (i + 1), List.length_cons]
    by_cases he : f.1 = i
    · rw [show (f.1 - i).toNat = 0 from by omega, List.getD_cons_zero]
      constructor
      · rintro (h | h)
        · rw [h]; exact ⟨by simp, by simp; omega, rfl⟩
        · omega
      · rintro ⟨_, _, h⟩
        exact .inl (Prod.ext he h.symm)
    · constructor
      · rintro (h | ⟨h1, h2, h3⟩)
        · exact absurd (congrArg Prod.fst h) he
        · rw [show (f.1 - i).toNat = (f.1 - (i + 1)).toNat + 1 from by omega, List.getD_cons_succ]
          exact ⟨by omega, by omega, h3⟩
      · rintro ⟨h1, h2, h3⟩
        rw [show (f.1 - i).toNat = (f.1 - (i + 1)).toNat + 1 from by omega, List.getD_cons_succ] at h3
        exact .inr ⟨by omega, by omega, h3⟩
theorem stG_hold {s : List Int} {f : Fact} : f ∈ stG s 0 ↔ hold1 s f = true := by
  rw [stG_mem, hold1_iff, Int.sub_zero, Int.zero_add]
theorem hold_in {vars s : List Int} (hs : StP vars s) {f : Fact} (h : hold1 s f = true) : InV vars f := by
  obtain ⟨h1, h2, h3⟩ := hold1_iff.1 h
  have hl := hs.len
  obtain ⟨r1, r2⟩ := hs.rng f.1.toNat (by omega)
  exact ⟨h1, by omega, by omega, by omega⟩
theorem drop_hold {s r : List Int} {n : Nat} (hd : s.drop n = r) : ∀ f ∈ stG r n, f ∈ stG s 0 := fun f hf => by
  rw [stG_mem] at hf ⊢
  obtain ⟨h1, h2, h3⟩ := hf
  have hl : r.length = s.length - n := by rw [← hd, List.length_drop]
  refine ⟨by omega, by omega, ?_⟩
  rw [← h3, ← hd, List.getD_eq_getElem?_getD, List.getD_eq_getElem?_getD, List.getElem?_drop]
  congr 2
  omega
section
variable {t : GTask} (hz : Sz t) (hst : StP t.Vars t.Init)
include hz hst
theorem new3 (v32 : List (List Bool)) {a : Fact} (ha : InV t.Vars a) : ∀ (r : List Int) (n : Nat) (R : List (List Bool)), t.Init.drop n = r → RkR t R → SyR t R → ∃ R', Rg (M_mutex_New_L3_B t (offG 0 t.Vars) v32 a.1 a.2 t) (M_mutex_New_L3_E t (offG 0 t.Vars) v32 a.1 a.2 t) r n R = some R' ∧ RkR t R' ∧ SyR t R' ∧ ∀ c d, InV t.Vars c → InV t.Vars d → (isF t R' c d = true ↔ isF t R c d = true ∨ (c = a ∧ d ∈ stG r n) ∨ (d = a ∧ c ∈ stG r n))
  | [], n, R, _, hR, hS => ⟨R, rfl, hR, hS, fun c d _ _ => by simp [stG]⟩
  | x :: r, n, R, hd, hR, hS => by
    obtain ⟨h1, h2, h3⟩ := drop_cons hd
    have hb : InV t.Vars ((n : Int), x) := hold_in hst (stG_hold.1 (drop_hold hd _ (List.mem_cons_self ..)))
    obtain ⟨R', e, k1, k2, k3⟩ := new3 v32 ha r (n + 1) (putF t R a ((n : Int), x)) h2 (hR.put _ _) (put_sym hR hz.pos hS ha hb)
    refine ⟨R', ?_, k1, k2, fun c d hc hd' => ?_⟩
    · have hset : M_set (tbl t R) a ((n : Int), x) = some (putF t R a ((n : Int), x)) := set_eq (tb_of hz hR) ha hb
      rw [Rg, M_mutex_New_L3_B, ixv]
      show ob1 (M_set (tbl t R) a ((n : Int), x)) _ = _
      rw [hset, ob1_some]
      exact e
    · rw [k3 c d hc hd', put_is hR hz.pos ha hb hc hd', stG, List.mem_cons, List.mem_cons]
      constructor
      · rintro ((h | ⟨h, h'⟩ | ⟨h, h'⟩) | ⟨h, h'⟩ | ⟨h, h'⟩)
        · exact .inl h
        · exact .inr (.inl ⟨h, .inl h'⟩)
        · exact .inr (.inr ⟨h', .inl h⟩)
        · exact .inr (.inl ⟨h, .inr h'⟩)
        · exact .inr (.inr ⟨h, .inr h'⟩)
      · rintro (h | ⟨h, h' | h'⟩ | ⟨h, h' | h'⟩)
        · exact .inl (.inl h)
        · exact .inl (.inr (.inl ⟨h, h'⟩))
        · exact .inr (.inl ⟨h, h'⟩)
        · exact .inl (.inr (.inr ⟨h', h⟩))
        · exact .inr (.inr ⟨h, h'⟩)
theorem new4 (v32 : List (List Bool)) : ∀ (r : List Int) (n : Nat) (R : List (List Bool)), t.Init.drop n = r → RkR t R → SyR t R → ∃ R', Rg (M_mutex_New_L4_B t (offG 0 t.Vars) v32 t) (M_mutex_New_L4_E t (offG 0 t.Vars) v32 t) r n R = some R' ∧ RkR t R' ∧ SyR t R' ∧ ∀ c d, InV t.Vars c → InV t.Vars d → (isF t R' c d = true ↔ isF t R c d = true ∨ (c ∈ stG r n ∧ d ∈ stG t.Init 0) ∨ (d ∈ stG r n ∧ c ∈ stG t.Init 0))
  | [], n, R, _, hR, hS => ⟨R, rfl, hR, hS, fun c d _ _ => by simp [stG]⟩
  | x :: r, n, R, hd, hR, hS => by
    obtain ⟨h1, h2, h3⟩ := drop_cons hd
    have hl := hst.len
    have hv := hz.vlen
    have hb : InV t.Vars ((n : Int), x) := hold_in hst (stG_hold.1 (drop_hold hd _ (List.mem_cons_self ..)))
    obtain ⟨R1, e1, p1, p2, p3⟩ := new3 hz hst v32 hb t.Init 0 R rfl hR hS
    obtain ⟨R', e, k1, k2, k3⟩ := new4 v32 r (n + 1) R1 h2 p1 p2
    refine ⟨R', ?_, k1, k2, fun c d hc hd' => ?_⟩
    · rw [Rg, M_mutex_New_L4_B, ixv, M_mutex_New_L3_eq t (offG 0 t.Vars) v32 n x t R (by omega)]
      rw [show ((0 : Nat) : Int) = 0 from rfl] at e1
      rw [e1, ob1_some]
      exact e
    · rw [k3 c d hc hd', p3 c d hc hd', stG, List.mem_cons, List.mem_cons]
      rw [show ((0 : Nat) : Int) = 0 from rfl]
      constructor
      · rintro ((h | ⟨h, h'⟩ | ⟨h, h'⟩) | ⟨h, h'⟩ | ⟨h, h'⟩)
        · exact .inl h
        · exact .inr (.inl ⟨.inl h, h'⟩)
        · exact .inr (.inr ⟨.inl h, h'⟩)
        · exact .inr (.inl ⟨.inr h, h'⟩)
        · exact .inr (.inr ⟨.inr h, h'⟩)
      · rintro (h | ⟨h | h, h'⟩ | ⟨h | h, h'⟩)
        · exact .inl (.inl h)
        · exact .inl (.inr (.inl ⟨h, h'⟩))
        · exact .inr (.inl ⟨h, h'⟩)
        · exact .inl (.inr (.inr ⟨h, h'⟩))
        · exact .inr (.inr ⟨h, h'⟩)
end
end Go.Proofs.YtinnphmnhmdcgaaGreat.Am
/- The table of mutexes in plain Lean: the rounds of New. -/
namespace Go.Proofs.YtinnphmnhmdcgaaGreat.Am
open Go.RowKit
theorem rowG_le (v : Int) : ∀ (m : Nat) (x : Int), ∀ f ∈ rowG v m x, f.1 = v := fun m x f hf => ((rowG_mem v f m x).1 hf).1
theorem rowG_asc (v : Int) : ∀ (m : Nat) (x : Int), (rowG v m x).Pairwise fun a b => a.1 ≤ b.1 ∧ a ≠ b
  | 0, _ => List.Pairwise.nil
  | m + 1, x => by
    rw [rowG, List.pairwise_cons]
    refine ⟨fun f hf => ?_, rowG_asc v m (x + 1)⟩
    have := (rowG_mem v f m (x + 1)).1 hf
    refine ⟨Int.le_of_eq this.1.symm, fun e => ?_⟩
    have := congrArg Prod.snd e
    dsimp only at this
    omega
theorem factsG_asc : ∀ (r : List Int) (v : Int), (factsG v r).Pairwise fun a b => a.1 ≤ b.1 ∧ a ≠ b
  | [], _ => List.Pairwise.nil
  | k :: r, v => by
    rw [factsG, List.pairwise_append]
    refine ⟨rowG_asc v _ _, factsG_asc r (v + 1), fun a ha b hb => ?_⟩
    have h1 := rowG_le v _ _ a ha
    have h2 := ((factsG_mem b r (v + 1)).1 hb).1
    refine ⟨by omega, fun e => ?_⟩
    rw [e] at h1
    omega
theorem pairG_mem {t : GTask} {R : List (List Bool)} {p : List Fact} : ∀ {l : List Fact}, (l.Pairwise fun a b => a.1 ≤ b.1 ∧ a ≠ b) → (p ∈ pairG t R l ↔ ∃ a b, a ∈ l ∧ b ∈ l ∧ a.1 < b.1 ∧ p = [a, b] ∧ isF t R a a = true ∧ isF t R b b = true ∧ isF t R a b = false)
  | [], _ => by simp [pairG]
  | x :: r, h => by
    obtain ⟨h1, h2⟩ := List.pairwise_cons.1 h
    rw [pairG, List.mem_append, pairG_mem h2, List.mem_map]
    constructor
    · rintro (⟨b, hb, rfl⟩ | ⟨a, b, ha, hb, e⟩)
      · obtain ⟨hb1, hb2⟩ := List.mem_filter.1 hb
        unfold opP at hb2
        simp only [Bool.and_eq_true, bne_iff_ne, ne_eq, Bool.not_eq_true'] at hb2
        have := (h1 b hb1).1
        exact ⟨x, b, List.mem_cons_self .., List.mem_cons_of_mem _ hb1, by omega, rfl, hb2.2.1, hb2.2.2.1, hb2.2.2.2⟩
      · exact ⟨a, b, List.mem_cons_of_mem _ ha, List.mem_cons_of_mem _ hb, e⟩
    · rintro ⟨a, b, ha, hb, hlt, e, e1, e2, e3⟩
      rcases List.mem_cons.1 hb with hb' | hb'
      · rcases List.mem_cons.1 ha with ha' | ha'
        · rw [ha', hb'] at hlt; omega
        · have := (h1 a ha').1; rw [hb'] at hlt; omega
      · rcases List.mem_cons.1 ha with ha' | ha'
        · refine .inl ⟨b, List.mem_filter.2 ⟨hb', ?_⟩, by rw [e, ha']⟩
          rw [← ha']
          unfold opP
          simp only [Bool.and_eq_true, bne_iff_ne, ne_eq, Bool.not_eq_true']
          exact ⟨by omega, e1, e2, e3⟩
        · exact .inr ⟨a, b, ha', hb', hlt, e, e1, e2, e3⟩
/-- the open sets: facts that are not reached, pairs of reached facts that are not reached together -/
theorem open_mem {t : GTask} {R : List (List Bool)} {p : List Fact} : p ∈ openF t R ↔ ∃ a b, SetP t a b ∧ p = pset a b ∧ isF t R a b = false ∧ (a = b ∨ (isF t R a a = true ∧ isF t R b b = true)) := by
  unfold openF
  rw [List.mem_append, pairG_mem (show (allL t.Vars).Pairwise _ from factsG_asc t.Vars 0)]
  unfold oneF
  rw [List.mem_map]
  constructor
  · rintro (⟨a, ha, rfl⟩ | ⟨a, b, ha, hb, hlt, rfl, e1, e2, e3⟩)
    · obtain ⟨h1, h2⟩ := List.mem_filter.1 ha
      exact ⟨a, a, ⟨allL_mem.1 h1, allL_mem.1 h1, .inl rfl⟩, by rw [pset, if_pos rfl], by simpa using h2, .inl rfl⟩
    · have hne : a ≠ b := fun e => by rw [e] at hlt; omega
      exact ⟨a, b, ⟨allL_mem.1 ha, allL_mem.1 hb, .inr hlt⟩, by rw [pset, if_neg hne], e3, .inr ⟨e1, e2⟩⟩
  · rintro ⟨a, b, hs, rfl, h, ho⟩
    by_cases e : a = b
    · subst e
      refine .inl ⟨a, List.mem_filter.2 ⟨allL_mem.2 hs.ia, by rw [h]; rfl⟩, by rw [pset, if_pos rfl]⟩
    · obtain ⟨e1, e2⟩ := ho.resolve_left e
      exact .inr ⟨a, b, allL_mem.2 hs.ia, allL_mem.2 hs.ib, hs.le.resolve_left e, by rw [pset, if_neg e], e1, e2, h⟩
/-- what stays when a set is reached that some operator makes -/
def Pres (t : GTask) (Q : List (List Bool) → Prop) : Prop := ∀ R a b, RkR t R → SyR t R → Q R → SetP t a b → madeF t R (pset a b) = true → Q (putF t R a b)
def pairs (t : GTask) : List (Fact × Fact) := (allL t.Vars).flatMap fun a => (allL t.Vars).map fun b => (a, b)
theorem pairs_mem {t : GTask} {a b : Fact} : (a, b) ∈ pairs t ↔ InV t.Vars a ∧ InV t.Vars b := by
  unfold pairs
  rw [List.mem_flatMap]
  constructor
  · rintro ⟨x, hx, h⟩
    obtain ⟨y, hy, e⟩ := List.mem_map.1 h
    have e1 : x = a := congrArg Prod.fst e
    have e2 : y = b := congrArg Prod.snd e
    rw [← e1, ← e2]
    exact ⟨allL_mem.1 hx, allL_mem.1 hy⟩
  · rintro ⟨h1, h2⟩
    exact ⟨a, allL_mem.2 h1, List.mem_map.2 ⟨b, allL_mem.2 h2, rfl⟩⟩
def restN (t : GTask) (R : List (List Bool)) : Nat := ((pairs t).filter fun q => !isF t R q.1 q.2).length
theorem filter_lt {α : Type} {p q : α → Bool} : ∀ {l : List α}, (∀ x ∈ l, q x = true → p x = true) → (l.filter q).length ≤ (l.filter p).length ∧ ((∃ x ∈ l, p x = true ∧ q x = false) → (l.filter q).length < (l.filter p).length)
  | [], _ => ⟨Nat.le_refl _, fun ⟨_, h, _⟩ => nomatch h⟩
  | x :: l, h => by
    obtain ⟨i1, i2⟩ := filter_lt (p := p) (q := q) (l := l) fun y hy => h y (List.mem_cons_of_mem _ hy)
    have hx := h x (List.mem_cons_self ..)
    rw [List.filter_cons, List.filter_cons]
    cases hq : q x with
    | true =>
      rw [if_pos rfl, if_pos (hx hq), List.length_cons, List.length_cons]
      refine ⟨by omega, fun ⟨y, hy, h1, h2⟩ => ?_⟩
      rcases List.mem_cons.1 hy with rfl | hy
      · rw [hq] at h2; cases h2
      · have := i2 ⟨y, hy, h1, h2⟩; omega
    | false =>
      rw [if_neg (by decide)]
      cases hp : p x with
      | true =>
        rw [if_pos rfl, List.length_cons]
        exact ⟨by omega, fun _ => by omega⟩
      | false =>
        rw [if_neg (by decide)]
        refine ⟨i1, fun ⟨y, hy, h1, h2⟩ => ?_⟩
        rcases List.mem_cons.1 hy with rfl | hy
        · rw [hp] at h1; cases h1
        · exact i2 ⟨y, hy, h1, h2⟩
theorem flatN_len {α β : Type} (f : α → List β) (m : Nat) : ∀ l : List α, (∀ a ∈ l, (f a).length = m) → (l.flatMap f).length = l.length * m
  | [], _ => by simp
  | a :: l, h => by
    rw [List.flatMap_cons, List.length_append, flatN_len f m l fun x hx => h x (List.mem_cons_of_mem _ hx), h a (List.mem_cons_self ..), List.length_cons, Nat.succ_mul]
    omega
theorem rest_le {t : GTask} (hz : Sz t) (R : List (List Bool)) : restN t R ≤ 262144 := by
  refine Nat.le_trans (List.length_filter_le _ _) ?_
  unfold pairs
  rw [flatN_len _ (allL t.Vars).length _ fun a _ => List.length_map ..]
  have h : (allL t.Vars).length ≤ 512 := by
    have := factsG_len t.Vars 0 hz.pos
    have := hz.small
    unfold allL
    omega
  exact Nat.mul_le_mul h h
theorem pairG_len {t : GTask} {R : List (List Bool)} : ∀ l : List Fact, (pairG t R l).length ≤ l.length * l.length
  | [] => Nat.le_refl _
  | a :: r => by
    have ih := pairG_len (t := t) (R := R) r
    have := List.length_filter_le (opP t R a) r
    rw [pairG, List.length_append, List.length_map, List.length_cons, Nat.add_mul, Nat.mul_add]
    omega
theorem openF_len {t : GTask} (hz : Sz t) (R : List (List Bool)) : (openF t R).length ≤ 1000000 := by
  have h : (allL t.Vars).length ≤ 512 := by
    have := factsG_len t.Vars 0 hz.pos
    have := hz.small
    unfold allL
    omega
  have h1 := oneF_len (t := t) R (allL t.Vars)
  have h2 := pairG_len (t := t) (R := R) (allL t.Vars)
  have h3 := Nat.mul_le_mul h h
  unfold openF
  rw [List.length_append]
  omega
/-- all sets that are made are reached -/
def ClosedM (t : GTask) (R : List (List Bool)) : Prop := ∀ p ∈ openF t R, madeF t R p = false
def MonoM (t : GTask) (R R' : List (List Bool)) : Prop := ∀ a b, InV t.Vars a → InV t.Vars b → isF t R a b = true → isF t R' a b = true
section
variable {t : GTask} (F : Fit3 t) (ht : ShT t) (g : Nat) (hg : 70 ≤ g) {Q : List (List Bool) → Prop} (hQ : Pres t Q)
include F ht hg hQ
theorem new5 (v32 : List (List Bool)) (L : List (List Fact)) (R0 : List (List Bool)) : ∀ (r : List (List Fact)) (n : Nat) (R : List (List Bool)) (ch : Bool) (M : Cau), RkR t R → SyR t R → Q R → CauP t M → (∀ p ∈ r, ∃ a b, SetP t a b ∧ p = pset a b ∧ isF t R0 a b = false) →
    ∃ R' ch' M', Rg (M_mutex_New_L5_B g (offG 0 t.Vars) v32 t L) (M_mutex_New_L5_E g (offG 0 t.Vars) v32 t L) r n (R, ch, M) = some (.inl (R', ch', M')) ∧ RkR t R' ∧ SyR t R' ∧ Q R' ∧ CauP t M' ∧ MonoM t R R' ∧ (ch' = false → ch = false ∧ R' = R ∧ ∀ p ∈ r, madeF t R p = false) ∧ (ch' = true → ch = true ∨ ∃ a b, SetP t a b ∧ isF t R0 a b = false ∧ isF t R' a b = true)
  | [], n, R, ch, M, hR, hS, hq, hM, _ => ⟨R, ch, M, rfl, hR, hS, hq, hM, fun _ _ _ _ h => h, fun h => ⟨h, rfl, fun _ hp => nomatch hp⟩, fun h => .inl h⟩
  | p :: r, n, R, ch, M, hR, hS, hq, hM, hr => by
    obtain ⟨a, b, hs, rfl, h0⟩ := hr _ (List.mem_cons_self ..)
    have hr' : ∀ p ∈ r, ∃ a b, SetP t a b ∧ p = pset a b ∧ isF t R0 a b = false := fun p hp => hr p (List.mem_cons_of_mem _ hp)
    obtain ⟨M1, m1, m2⟩ := made_eq F ht hR hS g hg hs M hM
    have hstep : Rg (M_mutex_New_L5_B g (offG 0 t.Vars) v32 t L) (M_mutex_New_L5_E g (offG 0 t.Vars) v32 t L) (pset a b :: r) n (R, ch, M) = sel (madeF t R (pset a b)) (Rg (M_mutex_New_L5_B g (offG 0 t.Vars) v32 t L) (M_mutex_New_L5_E g (offG 0 t.Vars) v32 t L) r ((n + 1 : Nat) : Int) (putF t R a b, true, M1)) (Rg (M_mutex_New_L5_B g (offG 0 t.Vars) v32 t L) (M_mutex_New_L5_E g (offG 0 t.Vars) v32 t L) r ((n + 1 : Nat) : Int) (R, ch, M1)) := by
      have hset : M_set (tbl t R) a b = some (putF t R a b) := set_eq (tb_of F.sz hR) hs.ia hs.ib
      rw [Rg, M_mutex_New_L5_B]
      dsimp only [ixv]
      have m3 : M_stratagem_mutex_Table_made g { t := t, first := offG 0 t.Vars, reached := R } (pset a b) M = some (madeF t R (pset a b), Er.nil, M1) := m2
      have hset2 : M_set { t := t, first := offG 0 t.Vars, reached := R } a b = some (putF t R a b) := hset
      rw [m3, ob3_some, erM, pset_0, pset_1, hset2, ob1_some]
      rfl
    rw [hstep]
    cases hm : madeF t R (pset a b) with
    | true =>
      have hS' := put_sym hR F.sz.pos hS hs.ia hs.ib
      have hq' := hQ R a b hR hS hq hs hm
      obtain ⟨R', ch', M', e, k1, k2, k3, k4, k5, k6, k7⟩ := new5 v32 L R0 r (n + 1) (putF t R a b) true M1 (hR.put _ _) hS' hq' m1 hr'
      refine ⟨R', ch', M', by rw [sel_tt]; exact e, k1, k2, k3, k4, fun c d hc hd h => k5 c d hc hd ((put_is hR F.sz.pos hs.ia hs.ib hc hd).2 (.inl h)), fun h => absurd (k6 h).1 (by decide), fun _ => .inr ⟨a, b, hs, h0, k5 a b hs.ia hs.ib ((put_is hR F.sz.pos hs.ia hs.ib hs.ia hs.ib).2 (.inr (.inl ⟨rfl, rfl⟩)))⟩⟩
    | false =>
      obtain ⟨R', ch', M', e, k1, k2, k3, k4, k5, k6, k7⟩ := new5 v32 L R0 r (n + 1) R ch M1 hR hS hq m1 hr'
      refine ⟨R', ch', M', by rw [sel_ff]; exact e, k1, k2, k3, k4, k5, fun h => ?_, k7⟩
      obtain ⟨j1, j2, j3⟩ := k6 h
      refine ⟨j1, j2, fun p hp => ?_⟩
      rcases List.mem_cons.1 hp with rfl | hp
      · exact hm
      · exact j3 p hp
theorem new6 (v32 : List (List Bool)) : ∀ (N k : Nat) (R : List (List Bool)) (M : Cau), RkR t R → SyR t R → Q R → CauP t M → restN t R ≤ N → N + 2 ≤ k →
    ∃ R', M_mutex_New_L6 g (offG 0 t.Vars) v32 t k R true M = some (some (tbl t R'), Er.nil) ∧ RkR t R' ∧ SyR t R' ∧ Q R' ∧ MonoM t R R' ∧ ClosedM t R'
  | N, k, R, M, hR, hS, hq, hM, hn, hk => by
    obtain ⟨k, rfl⟩ : ∃ q, k = q + 1 := ⟨k - 1, by omega⟩
    have hopen : M_stratagem_mutex_Table_open (tbl t R) = some (openF t R) := open_eq (tb_of F.sz hR)
    obtain ⟨R1, ch, M1, e, k1, k2, k3, k4, k5, k6, k7⟩ := new5 F ht g hg hQ v32 (openF t R) R (openF t R) 0 R false M hR hS hq hM fun p hp => by
      obtain ⟨a, b, h1, h2, h3, -⟩ := open_mem.1 hp
      exact ⟨a, b, h1, h2, h3⟩
    have hstep : M_mutex_New_L6 g (offG 0 t.Vars) v32 t (k + 1) R true M = M_mutex_New_L6 g (offG 0 t.Vars) v32 t k R1 ch M1 := by
      have e5 := M_mutex_New_L5_eq g (offG 0 t.Vars) v32 t (openF t R) R false M (by have := openF_len F.sz R; omega)
      have hopen2 : M_stratagem_mutex_Table_open { t := t, first := offG 0 t.Vars, reached := R } = some (openF t R) := hopen
      rw [show ((0 : Nat) : Int) = 0 from rfl] at e
      rw [e] at e5
      rw [M_mutex_New_L6, sel_tt, hopen2, ob1_some, e5, ob1_some, osum_inl]
    rw [hstep]
    obtain ⟨k, rfl⟩ : ∃ q, k = q + 1 := ⟨k - 1, by omega⟩
    cases ch with
    | false =>
      obtain ⟨-, rfl, h⟩ := k6 rfl
      refine ⟨R1, by rw [M_mutex_New_L6, sel_ff]; rfl, k1, k2, k3, k5, h⟩
    | true =>
      obtain ⟨a, b, hs, h1, h2⟩ := (k7 rfl).resolve_left (by decide)
      have hlt : restN t R1 < restN t R := by
        refine (filter_lt fun q hq hf => ?_).2 ⟨(a, b), pairs_mem.2 ⟨hs.ia, hs.ib⟩, by simp [h1], by simp [h2]⟩
        obtain ⟨c, d⟩ := q
        obtain ⟨hc, hd⟩ := pairs_mem.1 hq
        cases hb : isF t R c d with
        | false => rfl
        | true => rw [k5 c d hc hd hb] at hf; cases hf
      obtain ⟨N, rfl⟩ : ∃ q, N = q + 1 := ⟨N - 1, by omega⟩
      obtain ⟨R', f, j1, j2, j3, j4, j5⟩ := new6 v32 N (k + 1) R1 M1 k1 k2 k3 k4 (by omega) (by omega)
      exact ⟨R', f, j1, j2, j3, fun c d hc hd h => j4 c d hc hd (k5 c d hc hd h), j5⟩
end
end Go.Proofs.YtinnphmnhmdcgaaGreat.Am
/- The table of mutexes in plain Lean: New, Reached, Together, Dead, Nogoods; no successor of a state without a mutex has one. -/
namespace Go.Proofs.YtinnphmnhmdcgaaGreat.Am
open Go.RowKit
/-- the table that New returns -/
structure MxR (t : GTask) (R : List (List Bool)) : Prop where
  rk : RkR t R
  sy : SyR t R
  init : ∀ c d, hold1 t.Init c = true → hold1 t.Init d = true → isF t R c d = true
  closed : ClosedM t R
theorem good_init {t : GTask} (hg : goodF t = true) : stateF t.Vars t.Init = true := by
  unfold goodF at hg
  simp only [Bool.and_eq_true] at hg
  exact hg.2.2.1
theorem good_vars {t : GTask} (hg : goodF t = true) : t.Vars.length ≤ 64 ∧ t.Ops.length ≤ 4096 ∧ ∀ k ∈ t.Vars, 1 ≤ k ∧ k ≤ 64 := by
  unfold goodF at hg
  simp only [Bool.and_eq_true, decide_eq_true_iff, List.all_eq_true] at hg
  exact ⟨hg.1.1, hg.1.2, hg.2.1⟩
theorem new_first {t : GTask} (ht : ShT t) (hg : goodF t = true) (g : Nat) : M_mutex_New g t = if sumI t.Vars > 512 then some (none, Er.no 5) else ob1 (M_mutex_New_L4 t (offG 0 t.Vars) (zeroR t) t ((((t.Init.map cI).length : Int)).toNat + 1) (zeroR t) 0) (fun v122 => M_mutex_New_L6 g (offG 0 t.Vars) (zeroR t) t g v122 true []) := by
  obtain ⟨h1, h2, h3⟩ := good_vars hg
  have e1 := M_mutex_New_L1_eq t 0 [] (by omega)
  have e2 := new1 t t.Vars 0 0 [] h3 (by decide) (by omega) (by rw [List.length_nil]; omega)
  rw [Int.zero_add, List.nil_append] at e2
  rw [M_mutex_New, check_eq t ht, (good_check t).1 hg, ob1_some, erM, copied_eq hg, ob1_some, e1, e2, ob1_some]
  dsimp only
  rw [sel_dec]
  split
  · rfl
  · rename_i hs
    have hp : ∀ k ∈ t.Vars, 1 ≤ k := fun k hk => (h3 k hk).1
    have hn := sumI_nn hp
    have hm : sumI t.Vars = ((sumI t.Vars).toNat : Int) := by omega
    have e3 := M_mutex_New_L2_eq (sumI t.Vars) [] hm (by omega)
    have e4 := new2 (sumI t.Vars).toNat (by omega) (sumI t.Vars).toNat 0 [] (by rw [List.length_nil]; omega)
    rw [← hm, List.nil_append] at e4
    have hl : (zeroR t).length ≤ 512 := by rw [zeroR, List.length_replicate]; omega
    have e5 : M_mutex_New_L2 (sumI t.Vars) ((sumI t.Vars).toNat + 1) 0 [] = some (zeroR t) := by rw [e3]; exact e4
    rw [e5, ob1_some, offG_len, grd_t (by omega), grd_t (by omega)]
theorem new_eq {t : GTask} (F : Fit3 t) (ht : ShT t) (g : Nat) (hg : 1000000 ≤ g) {Q : List (List Bool) → Prop} (hQ : Pres t Q) (hQ0 : ∀ R, RkR t R → SyR t R → (∀ c d, InV t.Vars c → InV t.Vars d → (isF t R c d = true ↔ hold1 t.Init c = true ∧ hold1 t.Init d = true)) → Q R) : ∃ R, M_mutex_New g t = some (some (tbl t R), Er.nil) ∧ MxR t R ∧ Q R := by
  have hz := F.sz
  have hst := stateF_st (good_init F.good)
  have hl := hst.len
  have hv := F.vlen
  have hsm := hz.small
  obtain ⟨R1, e1, k1, k2, k3⟩ := new4 hz hst (zeroR t) t.Init 0 (zeroR t) rfl (zero_rk hz) (zero_sy t)
  rw [show ((0 : Nat) : Int) = 0 from rfl] at e1
  have hi : ∀ c d, InV t.Vars c → InV t.Vars d → (isF t R1 c d = true ↔ hold1 t.Init c = true ∧ hold1 t.Init d = true) := fun c d hc hd => by
    rw [k3 c d hc hd, zero_is, show ((0 : Nat) : Int) = 0 from rfl, stG_hold, stG_hold]
    simp only [Bool.false_eq_true, false_or]
    constructor
    · rintro (h | ⟨h1, h2⟩)
      · exact h
      · exact ⟨h2, h1⟩
    · exact .inl
  have hq := hQ0 R1 k1 k2 hi
  obtain ⟨R, f1, f2, f3, f4, f5, f6⟩ := new6 F ht g (by omega) hQ (zeroR t) 262144 g R1 [] k1 k2 hq (fun _ _ _ _ _ _ _ h => by simp [getM] at h) (rest_le hz R1) (by omega)
  refine ⟨R, ?_, ⟨f2, f3, fun c d hc hd => ?_, f6⟩, f4⟩
  · rw [new_first ht F.good g, if_neg (by omega), M_mutex_New_L4_eq t (offG 0 t.Vars) (zeroR t) t (zeroR t) (by omega), e1, ob1_some]
    exact f1
  · have hc' := hold_in hst hc
    have hd' := hold_in hst hd
    exact f5 c d hc' hd' ((hi c d hc' hd').2 ⟨hc, hd⟩)
def reaF (t : GTask) (R : List (List Bool)) (f : Fact) : Bool := propF t.Vars (-1) [f] && isF t R f f
section
variable {t : GTask} (hz : Sz t) {R : List (List Bool)} (hR : RkR t R)
include hz hR
theorem reached_eq (f : Fact) : M_stratagem_mutex_Table_Reached (some (tbl t R)) f = some (reaF t R f) := by
  rw [M_stratagem_mutex_Table_Reached, opM, M_stratagem_mutex_Table_has, show (tbl t R).t = t from rfl, facts_eq t.Vars [f] (by show 1 ≤ _; decide), ob1_some, ob1_some, reaF]
  cases h : propF t.Vars (-1) [f] with
  | false => rfl
  | true =>
    have hf := inV_iff.1 h
    rw [sel_tt, is_eq (tb_of hz hR) hf hf]
    rfl
omit hz hR in
theorem dead_loop (t : GTask) (R : List (List Bool)) (s : List Int) : ∀ (r : List Int) (i : Int) (v : List Fact), v.length + r.length ≤ 1000 → Rg (M_stratagem_mutex_Table_Dead_L1_B s (tbl t R)) (M_stratagem_mutex_Table_Dead_L1_E s (tbl t R)) r i v = M_stratagem_mutex_Table_Dead_L1_E s (tbl t R) (v ++ stG r i)
  | [], i, v, _ => by rw [Rg, stG, List.append_nil]
  | x :: r, i, v, h => by
    rw [List.length_cons] at h
    rw [Rg, M_stratagem_mutex_Table_Dead_L1_B, ixv, grd_t (by omega), dead_loop t R s r (i + 1) _ (by rw [List.length_append, List.length_singleton]; omega), List.append_assoc]
    rfl
omit hz hR in
theorem stG_len : ∀ (r : List Int) (i : Int), (stG r i).length = r.length
  | [], _ => rfl
  | x :: r, i => by rw [stG, List.length_cons, List.length_cons, stG_len r]
theorem dead_eq (hS : SyR t R) (s : List Int) (hs : Sh s) : M_stratagem_mutex_Table_Dead (some (tbl t R)) s = some (stateF t.Vars s && !okF t R (stG s 0)) := by
  rw [M_stratagem_mutex_Table_Dead, opM, show (tbl t R).t = t from rfl, tproper_eq t.Vars s hs, ob1_some]
  cases h : stateF t.Vars s with
  | false => rfl
  | true =>
    have hst := stateF_st h
    have hl := hst.len
    have hv := hz.vlen
    rw [Bool.not_true, sel_ff, ob1_some, osum_inl, M_stratagem_mutex_Table_Dead_L1_eq _ _ _ (by omega), dead_loop t R s s 0 [] (by rw [List.length_nil]; omega), List.nil_append, M_stratagem_mutex_Table_Dead_L1_E, grd_t (by rw [stG_len]; omega), M_stratagem_mutex_Table_mutex, mholds_eq (tb_of hz hR) hS (fun f hf => hold_in hst (stG_hold.1 hf)) (by rw [stG_len]; omega)]
    rfl
omit hz hR in
theorem ng_loop (z : List (List Fact)) : ∀ (r : List (List Fact)) (i : Int) (v : List Nogood), v.length + r.length ≤ 1000000 → Rg (M_stratagem_mutex_Table_Nogoods_L1_B z) (M_stratagem_mutex_Table_Nogoods_L1_E z) r i v = some (v ++ r.map fun p => (p, (0 : Int)))
  | [], i, v, h => by
    rw [List.length_nil] at h
    rw [Rg, M_stratagem_mutex_Table_Nogoods_L1_E, grd_t (by omega), List.map_nil, List.append_nil]
  | p :: r, i, v, h => by
    rw [List.length_cons] at h
    rw [Rg, M_stratagem_mutex_Table_Nogoods_L1_B, ixv, grd_t (by omega), ng_loop z r (i + 1) _ (by rw [List.length_append, List.length_singleton]; omega), List.append_assoc]
    rfl
/-- the nogoods of a table -/
def ngF (t : GTask) (R : List (List Bool)) : List Nogood := (openF t R).map fun p => (p, (0 : Int))
theorem nogoods_eq : M_stratagem_mutex_Table_Nogoods (some (tbl t R)) = some (ngF t R) := by
  have hl := openF_len hz R
  rw [M_stratagem_mutex_Table_Nogoods, opM, open_eq (tb_of hz hR), ob1_some, M_stratagem_mutex_Table_Nogoods_L1_eq _ _ (by show (openF t R).length < _; omega)]
  exact ng_loop _ _ 0 [] (by rw [List.length_nil]; show 0 + (openF t R).length ≤ _; omega)
end
/-- a state without a mutex -/
def Alive (t : GTask) (R : List (List Bool)) (s : List Int) : Prop := ∀ a b, hold1 s a = true → hold1 s b = true → isF t R a b = true
theorem alive_iff {t : GTask} {R : List (List Bool)} {s : List Int} : okF t R (stG s 0) = true ↔ Alive t R s := by
  rw [okF_iff]
  constructor
  · intro h a b ha hb; exact h a (stG_hold.2 ha) b (stG_hold.2 hb)
  · intro h a ha b hb; exact h a b (stG_hold.1 ha) (stG_hold.1 hb)
theorem touch_not {o : GOp} {p : List Fact} (h : touchF o p = false) {s : List Int} {f : Fact} (hf : f ∈ p) : valF s o f.1 = s.getD f.1.toNat 0 := by
  have : o.Effs.filter (fun e => e.Var == f.1) = [] := List.filter_eq_nil_iff.2 fun e he hv => by
    unfold touchF at h
    rw [List.any_eq_false] at h
    refine h e he (List.any_eq_true.2 ⟨f, hf, ?_⟩)
    simp only [beq_iff_eq] at hv ⊢
    exact hv.symm
  unfold valF
  rw [this]
  rfl
/-- if a successor of a state without a mutex has all facts of a set that is not reached: the set is made -/
theorem alive_step {t : GTask} (F : Fit3 t) {R : List (List Bool)} (hc : ClosedM t R) {s : List Int} (hs : StP t.Vars s) (ha : Alive t R s) {o : GOp} (ho : o ∈ t.Ops) (hp : holdsF s o.Pre = true) {a b : Fact} (hab : SetP t a b) (h1 : hold1 (nextF s o) a = true) (h2 : hold1 (nextF s o) b = true) (h3 : a = b ∨ (isF t R a a = true ∧ isF t R b b = true)) : isF t R a b = true := by
  refine Decidable.byContradiction fun hf => ?_
  have hf : isF t R a b = false := Bool.eq_false_iff.2 hf
  have hm := hc _ (open_mem.2 ⟨a, b, hab, rfl, hf, h3⟩)
  have hnext : holdsF (nextF s o) (pset a b) = true := holdsF_iff.2 fun x hx => by
    rcases pset_mem.1 hx with rfl | rfl
    · exact h1
    · exact h2
  have hval := (holds_next F.good hs ho hab.prop).1 hnext
  cases ht : touchF o (pset a b) with
  | false =>
    have hk : ∀ x ∈ pset a b, hold1 s x = true := fun x hx => by
      have e := hval x hx
      rw [touch_not ht hx] at e
      have hin : InV t.Vars x := by
        rcases pset_mem.1 hx with rfl | rfl
        · exact hab.ia
        · exact hab.ib
      have hl := hs.len
      exact hold1_iff.2 ⟨hin.1, by have := hin.2.1; omega, e⟩
    rw [ha a b (hk a (pset_mem.2 (.inl rfl))) (hk b (pset_mem.2 (.inr rfl)))] at hf
    cases hf
  | true =>
    obtain ⟨r1, r2, -⟩ := reg_ok F hab ho
    obtain ⟨z, hz, hzs⟩ := (some_regO F.good ho hs hab.prop r1).2 ⟨hp, hval⟩
    have hok : okF t R z = true := okF_iff.2 fun x hx y hy => ha x y (holdsF_iff.1 hzs x hx) (holdsF_iff.1 hzs y hy)
    have : madeF t R (pset a b) = true := List.any_eq_true.2 ⟨o, ho, by rw [madeO, ht, Bool.true_and]; exact List.any_eq_true.2 ⟨z, hz, hok⟩⟩
    rw [this] at hm
    cases hm
theorem alive_next {t : GTask} (F : Fit3 t) {R : List (List Bool)} (hS : SyR t R) (hc : ClosedM t R) {s : List Int} {o : GOp} (hs : StP t.Vars s) (hs' : StP t.Vars (nextF s o)) (ha : Alive t R s) (ho : o ∈ t.Ops) (hp : holdsF s o.Pre = true) : Alive t R (nextF s o) := fun a b h1 h2 => by
  have ia := hold_in hs' h1
  have ib := hold_in hs' h2
  have one : ∀ x, hold1 (nextF s o) x = true → isF t R x x = true := fun x hx =>
    alive_step F hc hs ha ho hp ⟨hold_in hs' hx, hold_in hs' hx, .inl rfl⟩ hx hx (.inl rfl)
  rcases Int.lt_trichotomy a.1 b.1 with h | h | h
  · exact alive_step F hc hs ha ho hp ⟨ia, ib, .inr h⟩ h1 h2 (.inr ⟨one a h1, one b h2⟩)
  · have e1 := (hold1_iff.1 h1).2.2
    have e2 := (hold1_iff.1 h2).2.2
    rw [h] at e1
    have : a = b := Prod.ext h (e1.symm.trans e2)
    rw [this]
    exact one b h2
  · rw [hS a b ia ib]
    exact alive_step F hc hs ha ho hp ⟨ib, ia, .inr h⟩ h2 h1 (.inr ⟨one b h2, one a h1⟩)
end Go.Proofs.YtinnphmnhmdcgaaGreat.Am
/- Plain: a state that has given proper facts. -/
namespace Go.Proofs.YtinnphmnhmdcgaaGreat.Am
open Go.RowKit
end Go.Proofs.YtinnphmnhmdcgaaGreat.Am
/- Plain: the decision whether partial states cover a partial state, without a limit: its answer, and the number of its steps. -/
namespace Go.Proofs.YtinnphmnhmdcgaaGreat.Am
open Go.RowKit
def clashP (p x : List Fact) : Bool := x.any fun f => decide (0 ≤ findF p f.1) && decide (findF p f.1 ≠ f.2)
def lowF (p : List Fact) : List Fact → Int → Int
  | [], v => v
  | f :: r, v => lowF p r (if f.1 < v ∧ findF p f.1 < 0 then f.1 else v)
def lowL (p : List Fact) : List (List Fact) → Int → Int
  | [], v => v
  | x :: r, v => lowL p r (lowF p x v)
def restP (p : List Fact) (l : List (List Fact)) : List (List Fact) := l.filter fun x => !clashP p x
theorem lowF_spec (p : List Fact) : ∀ (l : List Fact) (v : Int), lowF p l v ≤ v ∧ (∀ f ∈ l, findF p f.1 < 0 → lowF p l v ≤ f.1) ∧ (lowF p l v = v ∨ ∃ f ∈ l, f.1 = lowF p l v ∧ findF p f.1 < 0)
  | [], v => ⟨Int.le_refl _, (nofun), .inl rfl⟩
  | f :: r, v => by
    rw [lowF]
    by_cases h : f.1 < v ∧ findF p f.1 < 0
    · rw [if_pos h]
      obtain ⟨h1, h2, h3⟩ := lowF_spec p r f.1
      refine ⟨by omega, fun u hu hn => ?_, ?_⟩
      · rcases List.mem_cons.1 hu with rfl | hu
        · exact h1
        · exact h2 u hu hn
      · rcases h3 with h3 | ⟨u, hu, e⟩
        · exact .inr ⟨f, List.mem_cons_self .., h3.symm, h.2⟩
        · exact .inr ⟨u, List.mem_cons_of_mem _ hu, e⟩
    · rw [if_neg h]
      obtain ⟨h1, h2, h3⟩ := lowF_spec p r v
      refine ⟨h1, fun u hu hn => ?_, ?_⟩
      · rcases List.mem_cons.1 hu with rfl | hu
        · have : ¬ u.1 < v := fun hlt => h ⟨hlt, hn⟩
          omega
        · exact h2 u hu hn
      · rcases h3 with h3 | ⟨u, hu, e⟩
        · exact .inl h3
        · exact .inr ⟨u, List.mem_cons_of_mem _ hu, e⟩
theorem lowL_spec (p : List Fact) : ∀ (l : List (List Fact)) (v : Int), lowL p l v ≤ v ∧ (∀ x ∈ l, ∀ f ∈ x, findF p f.1 < 0 → lowL p l v ≤ f.1) ∧ (lowL p l v = v ∨ ∃ x ∈ l, ∃ f ∈ x, f.1 = lowL p l v ∧ findF p f.1 < 0)
  | [], v => ⟨Int.le_refl _, (nofun), .inl rfl⟩
  | x :: r, v => by
    rw [lowL]
    obtain ⟨g1, g2, g3⟩ := lowF_spec p x v
    obtain ⟨h1, h2, h3⟩ := lowL_spec p r (lowF p x v)
    refine ⟨by omega, fun y hy f hf hn => ?_, ?_⟩
    · rcases List.mem_cons.1 hy with rfl | hy
      · have := g2 f hf hn; omega
      · exact h2 y hy f hf hn
    · rcases h3 with h3 | ⟨y, hy, f, hf, e⟩
      · rcases g3 with g3 | ⟨f, hf, e, hn⟩
        · exact .inl (by omega)
        · exact .inr ⟨x, List.mem_cons_self .., f, hf, by omega, hn⟩
      · exact .inr ⟨y, List.mem_cons_of_mem _ hy, f, hf, e⟩
theorem prop_vf {vars : List Int} {p : List Fact} (h : propF vars (-1) p = true) : Nonneg p ∧ Asc p ∧ ∀ x ∈ p, x.1 < vars.length ∧ x.2 < vars.getD x.1.toNat 0 := by
  obtain ⟨hv, hr⟩ := (propF_iff vars p (-1)).1 h
  obtain ⟨hn, ha⟩ := (vF_iff' p).1 hv
  exact ⟨hn, ha, hr⟩
/-- what the decision is asked for -/
structure DecP (vars : List Int) (d : Nat) (p : List Fact) (l : List (List Fact)) : Prop where
  dom : ∀ n ∈ vars, 1 ≤ n
  prop : propF vars (-1) p = true
  all : PropL vars l
  deep : vars.length < d + p.length
theorem DecP.low {vars : List Int} {d : Nat} {p : List Fact} {l : List (List Fact)} (h : DecP vars d p l) (hl : lowL p (restP p l) vars.length ≠ vars.length) : 0 ≤ lowL p (restP p l) vars.length ∧ lowL p (restP p l) vars.length < vars.length ∧ findF p (lowL p (restP p l) vars.length) < 0 := by
  obtain ⟨h1, -, h3⟩ := lowL_spec p (restP p l) vars.length
  rcases h3 with h3 | ⟨x, hx, f, hf, e, hn⟩
  · exact absurd h3 hl
  · obtain ⟨hxn, -, -⟩ := prop_vf (h.all x (List.mem_filter.1 hx).1)
    have := (hxn f hf).1
    exact ⟨by omega, by omega, by rw [← e]; exact hn⟩
theorem DecP.zero {vars : List Int} {p : List Fact} {l : List (List Fact)} (h : DecP vars 0 p l) : False := by
  have h1 := propF_len' h.prop
  have h2 := h.deep
  omega
end Go.Proofs.YtinnphmnhmdcgaaGreat.Am
/- Models printed by my decompiler, and the proofs that the code computes them. -/
namespace Go.Proofs.YtinnphmnhmdcgaaGreat.Am
open Go.RowKit
end Go.Proofs.YtinnphmnhmdcgaaGreat.Am
/- Range loops of the models as recursions. -/
namespace Go.Proofs.YtinnphmnhmdcgaaGreat.Am
end Go.Proofs.YtinnphmnhmdcgaaGreat.Am
/- Plain: partial.Covered with its limit of steps. -/
namespace Go.Proofs.YtinnphmnhmdcgaaGreat.Am
open Go.RowKit
structure DomP (vars : List Int) : Prop where
  len : vars.length ≤ 64
  dom : ∀ n ∈ vars, 1 ≤ n ∧ n ≤ 64
end Go.Proofs.YtinnphmnhmdcgaaGreat.Am
/- Models printed by my decompiler, and the proofs that the code computes them. -/
namespace Go.Proofs.YtinnphmnhmdcgaaGreat.Am
open Go.RowKit
end Go.Proofs.YtinnphmnhmdcgaaGreat.Am
/- Range loops of the models as recursions. -/
namespace Go.Proofs.YtinnphmnhmdcgaaGreat.Am
end Go.Proofs.YtinnphmnhmdcgaaGreat.Am
/- Plain: certificate.Check, Proper; task.Holds. -/
namespace Go.Proofs.YtinnphmnhmdcgaaGreat.Am
open Go.RowKit
theorem tholds_eq (l : List Fact) (s : List Int) (hl : Sh l) : M_task_Holds l s = some (holdsF s l) := by
  rw [M_task_Holds, M_task_Holds_L1_eq l s hl.lt, rg_all (p := hold1 s) (c := some false)]
  · rw [M_task_Holds_L1_E, holdsF]; cases l.all (hold1 s) <;> rfl
  · intro x _ i rc
    rw [M_task_Holds_L1_B, ixv, sel_dec, sel_dec, List.length_map, hold1]
    by_cases h0 : x.1 < 0
    · rw [if_pos h0, decide_eq_false (by omega), Bool.false_and, if_neg (by decide)]
    · rw [if_neg h0, decide_eq_true (p := 0 ≤ x.1) (by omega), Bool.true_and]
      by_cases h1 : x.1 < s.length
      · rw [if_neg (by omega), decide_eq_true h1, Bool.true_and, ix_getD (d := 0) (by omega) h1, bne]
        cases s.getD x.1.toNat 0 == x.2 <;> rfl
      · rw [if_pos (by omega), decide_eq_false h1, Bool.false_and, if_neg (by decide)]
def limF (l : List Fact) : Bool := l.all fun x => decide (x.1 < 64 ∧ x.2 < 64)
def frmF (l : List Fact) : Bool := vF (-1) l && limF l
/-- sizes of a certificate -/
structure ShC (c : GCertificate) : Prop where
  list : Sh c.Nogoods
  each : ∀ n ∈ c.Nogoods, Sh n.1
/-- a certificate that is proper -/
structure CertP (vars : List Int) (c : GCertificate) : Prop where
  b0 : -1 ≤ c.Bound
  b1 : c.Bound ≤ 1099511627776
  len : c.Nogoods.length ≤ 4096
  prop : ∀ n ∈ c.Nogoods, propF vars (-1) n.1 = true
  frm : ∀ n ∈ c.Nogoods, frmF n.1 = true
  d0 : ∀ n ∈ c.Nogoods, 0 ≤ n.2
  d1 : ∀ n ∈ c.Nogoods, 0 ≤ c.Bound → n.2 < c.Bound
  d2 : ∀ n ∈ c.Nogoods, c.Bound < 0 → n.2 = 0
end Go.Proofs.YtinnphmnhmdcgaaGreat.Am
/- Plain: checker.Where, Verify. -/
namespace Go.Proofs.YtinnphmnhmdcgaaGreat.Am
open Go.RowKit
def distO (c : GCertificate) (n : Nogood) (o : GOp) : Int := if 0 ≤ c.Bound then n.2 + o.Cost else 0
def skipO (c : GCertificate) (n : Nogood) (o : GOp) : Bool := decide (0 ≤ c.Bound ∧ c.Bound ≤ n.2 + o.Cost)
end Go.Proofs.YtinnphmnhmdcgaaGreat.Am
/- Plain: what it means that a certificate is accepted, with any number of steps. -/
namespace Go.Proofs.YtinnphmnhmdcgaaGreat.Am
open Go.RowKit
def claimsF (ns : List Nogood) (s : List Int) (d : Int) : Bool := ns.any fun n => decide (n.2 ≤ d) && holdsF s n.1
/-- whether the state leads by the operator to p -/
def inF (o : GOp) (p : List Fact) (s : List Int) : Bool := holdsF s o.Pre && holdsF (nextF s o) p
/-- the document's conditions -/
structure Acc (t : GTask) (c : GCertificate) : Prop where
  init : ∀ n ∈ c.Nogoods, holdsF t.Init n.1 = false
  goal : c.Bound ≠ 0 → ∀ s ∈ allF t, holdsF s t.Goal = true → claimsF c.Nogoods s 0 = true
  step : ∀ n ∈ c.Nogoods, ∀ o ∈ t.Ops, skipO c n o = false → ∀ s ∈ allF t, inF o n.1 s = true → claimsF c.Nogoods s (distO c n o) = true
end Go.Proofs.YtinnphmnhmdcgaaGreat.Am
/- Models printed by my decompiler, and the proofs that the code computes them. -/
namespace Go.Proofs.YtinnphmnhmdcgaaGreat.Am
open Go.RowKit
def M_l33_awake (g : Nat) : Option (Bool) :=
  ob2 (M_mutex_New g ({ Vars := [3], Init := [0], Goal := [], Ops := [{ Name := (⟨#[]⟩ : ByteArray), Cost := 0, Pre := [], Effs := [{ When := [], Var := 0, Val := 1 : GEffect }] : GOp }] : GTask })) (fun z1 z2 =>
   erM z2
    (opM z1
      (some false)
      (fun z4 => ob1 (M_stratagem_mutex_Table_Reached (some z4) (0, 1)) (fun z5 =>
        sel z5
         (ob1 (M_stratagem_mutex_Table_Reached (some z4) (0, 2)) (fun z6 =>
           some (!z6)))
         (some false))))
    (fun _ => some false))
set_option maxHeartbeats 16000000 in
set_option maxRecDepth 100000 in
theorem A_l33_awake (g : Nat) {r1 : Bool} (h : M_l33_awake g = some r1) : ACall cx 12 [] (.c (.bool r1)) := by
  refine aOf Tryz.func12 rfl (by decide) rfl (Nat.le_of_ble_eq_true rfl) ?_; intro _; unfold M_l33_awake at h; refine aSR ?_; intro _; refine dr ?_; refine aSR ?_; intro _; obtain ⟨z1, z2, u1, h⟩ := ob2_ok h; refine clf [(4, ⟨2, none⟩), (5, ⟨2, none⟩), (7, ⟨2, none⟩), (9, ⟨2, none⟩)] rfl rfl (A_mutex_New g ({ Vars := [3], Init := [0], Goal := [], Ops := [{ Name := (⟨#[]⟩ : ByteArray), Cost := 0, Pre := [], Effs := [{ When := [], Var := 0, Val := 1 : GEffect }] : GOp }] : GTask }) u1) ?_; intro _; refine dr ?_; refine aSq ?_; rcases z2 with _ | e3
  · replace h := erM_nil h; rcases z1 with _ | z4
    · replace h := opM_none h; refine aRg ?_; intro _; refine litT ?_; intro _; refine ⟨_, lf_nilQ rfl (Nat.le_of_ble_eq_true rfl) rfl (by kernel_rfl) (.inr ⟨rfl, rfl⟩), ?_⟩; intro _; refine litF ?_; intro _; refine dr ?_; refine aRt ?_; intro _; obtain rfl := inj1 h; exact ca_0
    · replace h := opM_some h; refine aRg ?_; intro _; refine litT ?_; intro _; refine ⟨_, lf_nilP rfl (Nat.le_of_ble_eq_true rfl) rfl (by kernel_rfl) (.inr ⟨rfl, rfl⟩), ?_⟩; intro _; refine litT ?_; intro _; obtain ⟨z5, u2, h⟩ := ob1_ok h; refine cl rfl (A_stratagem_mutex_Table_Reached (some z4) (0, 1) u2) ?_; intro _; refine spl h (fun c3 h => ?_) (fun c3 h => ?_)
      · intro _; obtain ⟨z6, u4, h⟩ := ob1_ok h; refine cl rfl (A_stratagem_mutex_Table_Reached (some z4) (0, 2) u4) ?_; intro _; refine dr ?_; refine aRt ?_; intro _; obtain rfl := inj1 h; exact ca_0
      · intro _; refine dr ?_; refine aRt ?_; intro _; obtain rfl := inj1 h; exact ca_0
  · replace h := erM_no h; refine aRg ?_; intro _; refine litF ?_; intro _; refine dr ?_; refine aRt ?_; intro _; obtain rfl := inj1 h; exact ca_0
def M_l33_fit (a0 : GTask) : Option (Bool) :=
  ob1 (M_b_Tame a0) (fun z1 =>
   sel z1
    (sel (decide (((a0.Ops.map cGOp).length : Int) ≤ 10))
      (some (decide (((a0.Vars.map cI).length : Int) ≤ 6)))
      (some false))
    (some false))
set_option maxHeartbeats 16000000 in
set_option maxRecDepth 100000 in
theorem A_l33_fit (a0 : GTask) {r1 : Bool} (h : M_l33_fit a0 = some r1) : ACall cx 10 [.agg [.sl 1 (a0.Vars.map cI), .sl 1 (a0.Init.map cI), .sl 2 (a0.Goal.map cF), .sl 4 (a0.Ops.map cGOp)]] (.c (.bool r1)) := by
  refine aOf Tryz.func10 rfl (by decide) rfl (Nat.le_of_ble_eq_true rfl) ?_; intro _; unfold M_l33_fit at h; refine aSR ?_; intro _; refine dr ?_; refine aSR ?_; intro _; obtain ⟨z1, u1, h⟩ := ob1_ok h; refine cl rfl (A_b_Tame a0 u1) ?_; intro _; refine spl h (fun c2 h => ?_) (fun c2 h => ?_)
  · intro _; refine spl h (fun c3 h => ?_) (fun c3 h => ?_)
    · intro _; refine dr ?_; refine aRt ?_; intro _; obtain rfl := inj1 h; exact ca_0
    · intro _; refine dr ?_; refine aRt ?_; intro _; obtain rfl := inj1 h; exact ca_0
  · intro _; refine dr ?_; refine aRt ?_; intro _; obtain rfl := inj1 h; exact ca_0
end Go.Proofs.YtinnphmnhmdcgaaGreat.Am
/- Range loops of the models as recursions. -/
namespace Go.Proofs.YtinnphmnhmdcgaaGreat.Am
end Go.Proofs.YtinnphmnhmdcgaaGreat.Am
/- Plain: stratagembase.Rank, Edges: the numbers of states, and the ways from state to state. -/
namespace Go.Proofs.YtinnphmnhmdcgaaGreat.Am
open Go.RowKit
/-- a state's successor is a state -/
theorem st_state : ∀ {v s : List Int}, s.length = v.length → (∀ i : Nat, i < v.length → 0 ≤ s.getD i 0 ∧ s.getD i 0 < v.getD i 0) → stateF v s = true
  | [], [], _, _ => rfl
  | [], _ :: _, h, _ => by simp at h
  | _ :: _, [], h, _ => by simp at h
  | k :: r, x :: s, h, hr => by
    have h0 := hr 0 (by simp)
    simp only [List.getD_cons_zero] at h0
    rw [stateF, Bool.and_eq_true, decide_eq_true_iff]
    refine ⟨h0, st_state (by simpa using h) (fun i hi => ?_)⟩
    have := hr (i + 1) (by simpa using hi)
    simpa using this
theorem apply_rng (vars : List Int) (s : List Int) : ∀ (r : List GEffect) (v : List Int), v.length = vars.length → (∀ i : Nat, i < vars.length → 0 ≤ v.getD i 0 ∧ v.getD i 0 < vars.getD i 0) → (∀ e ∈ r, 0 ≤ e.Var ∧ 0 ≤ e.Val ∧ e.Val < vars.getD e.Var.toNat 0) → ∀ i : Nat, i < vars.length → 0 ≤ (applyG s r v).getD i 0 ∧ (applyG s r v).getD i 0 < vars.getD i 0
  | [], v, _, hv, _, i, hi => hv i hi
  | e :: r, v, hl, hv, he, i, hi => by
    have he2 : ∀ e ∈ r, 0 ≤ e.Var ∧ 0 ≤ e.Val ∧ e.Val < vars.getD e.Var.toNat 0 := fun u hu => he u (List.mem_cons_of_mem _ hu)
    rw [applyG]
    split
    · obtain ⟨e0, e1, e2⟩ := he e (List.mem_cons_self ..)
      refine apply_rng vars s r _ (by rw [List.length_set]; exact hl) (fun j hj => ?_) he2 i hi
      by_cases hej : e.Var.toNat = j
      · subst hej
        rw [List.getD_eq_getElem?_getD, List.getElem?_set_self (by omega), Option.getD_some]
        exact ⟨e1, e2⟩
      · rw [List.getD_eq_getElem?_getD, List.getElem?_set_ne hej, ← List.getD_eq_getElem?_getD]
        exact hv j hj
    · exact apply_rng vars s r v hl hv he2 i hi
theorem next_state {t : GTask} (hgood : goodF t = true) {s : List Int} (hs : stateF t.Vars s = true) {o : GOp} (ho : o ∈ t.Ops) : stateF t.Vars (nextF s o) = true := by
  have st := stateF_st hs
  refine st_state (by unfold nextF; rw [applyG_len]; exact st.len) (fun i hi => ?_)
  exact apply_rng t.Vars s o.Effs s st.len st.rng (fun e he => by obtain ⟨h1, -, h3, h4⟩ := good_eff hgood ho he; exact ⟨h1, h3, h4⟩) i hi
/-- a way from state to state -/
structure EdgP (t : GTask) (e : GEdge) : Prop where
  ex : ∃ (a b q : Nat) (s : List Int) (o : GOp), e.From = (a : Int) ∧ e.To = (b : Int) ∧ e.Op = (q : Int) ∧ (allF t)[a]? = some s ∧ (allF t)[b]? = some (nextF s o) ∧ t.Ops[q]? = some o ∧ holdsF s o.Pre = true
end Go.Proofs.YtinnphmnhmdcgaaGreat.Am
/- Chapter 33 in plain Lean: which tasks are asked about; the example. -/
namespace Go.Proofs.YtinnphmnhmdcgaaGreat.Am
open Go.RowKit
def fit3F (t : GTask) : Bool := tameF t && (decide (t.Ops.length ≤ 10) && decide (t.Vars.length ≤ 6))
theorem fit3_eq (t : GTask) (ht : ShT t) : M_l33_fit t = some (fit3F t) := by
  rw [M_l33_fit, tame_eq t ht, ob1_some, List.length_map, List.length_map, fit3F]
  have e1 : decide ((t.Ops.length : Int) ≤ 10) = decide (t.Ops.length ≤ 10) := decide_eq_decide.2 (by omega)
  have e2 : decide ((t.Vars.length : Int) ≤ 6) = decide (t.Vars.length ≤ 6) := decide_eq_decide.2 (by omega)
  rw [e1, e2]
  cases tameF t <;> cases decide (t.Ops.length ≤ 10) <;> rfl
theorem fit3_of {t : GTask} (h : fit3F t = true) : Fit3 t := by
  unfold fit3F at h
  rw [Bool.and_eq_true, Bool.and_eq_true, decide_eq_true_iff, decide_eq_true_iff] at h
  obtain ⟨h1, h2, h3⟩ := h
  have hs := tame_small h1
  obtain ⟨hg, hv, -⟩ := small_good hs
  unfold tameF at h1
  simp only [Bool.and_eq_true, List.all_eq_true, decide_eq_true_iff] at h1
  have hd := h1.2.1
  have hp : prodN t.Vars ≤ 512 := by
    have hm := manyF_prod 512 t.Vars 1 (fun k hk => by have := hd k hk; omega) (by decide) (by decide)
    rw [show ((512 : Nat) : Int) = 512 from rfl, show ((1 : Nat) : Int) = 1 from rfl, Nat.one_mul] at hm
    have h512 : manyF 512 t.Vars 1 ≤ 512 := by
      have := hs
      unfold smallF at this
      simp only [Bool.and_eq_true, decide_eq_true_iff] at this
      exact this.2.2.2
    rw [hm] at h512
    split at h512 <;> omega
  refine ⟨hg, hs, h2, h3, hd, hp, fun o ho => ?_⟩
  have := h1.2.2 o ho
  unfold tameO twoF at this
  simp only [Bool.and_eq_true, List.all_eq_true, decide_eq_true_iff] at this
  exact this
/-- the example of the statements -/
def tA : GTask := { Vars := [3], Init := [0], Goal := [], Ops := [{ Name := (⟨#[]⟩ : ByteArray), Cost := 0, Pre := [], Effs := [{ When := [], Var := 0, Val := 1 : GEffect }] : GOp }] }
def oA : GOp := { Name := (⟨#[]⟩ : ByteArray), Cost := 0, Pre := [], Effs := [{ When := [], Var := 0, Val := 1 : GEffect }] }
theorem tA_fit : Fit3 tA := fit3_of (by rfl)
theorem tA_sh : ShT tA := ⟨by show _ ≤ _; decide, by show _ ≤ _; decide, by show _ ≤ _; decide, by show _ ≤ _; decide, fun o ho => by
  obtain rfl : o = oA := List.mem_singleton.1 ho
  exact ⟨by show _ ≤ _; decide, by show _ ≤ _; decide, by show _ ≤ _; decide, fun e he => by
    obtain rfl := List.mem_singleton.1 he
    show _ ≤ _
    decide⟩⟩
theorem tA_not : regG [3] oA [(0, 2)] [[]] = some [] := by rfl
theorem tA_reg : regS tA oA [(0, 2)] = [] := by
  have h : regO tA.Vars oA [(0, 2)] = some (sortLL (minF [])) := by
    rw [regO]
    show (regG [3] oA [(0, 2)] [[]]).map _ = _
    rw [tA_not]
    rfl
  rw [regS, h, Option.getD_some]
  refine List.length_eq_zero_iff.1 ?_
  rw [sortLL_length]
  rfl
theorem tA_new (g : Nat) (hg : 1000000 ≤ g) : ∃ R, M_mutex_New g tA = some (some (tbl tA R), Er.nil) ∧ MxR tA R ∧ isF tA R (0, 2) (0, 2) = false := by
  have h2 : InV tA.Vars (0, 2) := ⟨by decide, by decide, by decide, by decide⟩
  refine new_eq tA_fit tA_sh g hg (Q := fun R => isF tA R (0, 2) (0, 2) = false) (fun R a b hR _ hq hs hm => ?_) (fun R _ _ hi => ?_)
  · refine Bool.eq_false_iff.2 fun h => ?_
    rcases (put_is hR tA_fit.sz.pos hs.ia hs.ib h2 h2).1 h with h | ⟨h, h'⟩ | ⟨h, h'⟩
    · rw [hq] at h; cases h
    · rw [← h, ← h'] at hm
      obtain ⟨o, ho, hm⟩ := List.any_eq_true.1 hm
      obtain rfl : o = oA := List.mem_singleton.1 ho
      rw [madeO, show pset ((0 : Int), (2 : Int)) (0, 2) = [(0, 2)] from rfl, tA_reg, List.any_nil, Bool.and_false] at hm
      cases hm
    · rw [← h, ← h'] at hm
      obtain ⟨o, ho, hm⟩ := List.any_eq_true.1 hm
      obtain rfl : o = oA := List.mem_singleton.1 ho
      rw [madeO, show pset ((0 : Int), (2 : Int)) (0, 2) = [(0, 2)] from rfl, tA_reg, List.any_nil, Bool.and_false] at hm
      cases hm
  · refine Bool.eq_false_iff.2 fun h => ?_
    have := ((hi _ _ h2 h2).1 h).1
    exact absurd this (by decide)
theorem awake3 (g : Nat) (hg : 1000000 ≤ g) : M_l33_awake g = some true := by
  obtain ⟨R, h1, h2, h3⟩ := tA_new g hg
  have hz := tA_fit.sz
  have hin : InV tA.Vars (0, 1) := ⟨by decide, by decide, by decide, by decide⟩
  have hs : StP tA.Vars tA.Init := stateF_st (good_init tA_fit.good)
  have hal : Alive tA R tA.Init := fun a b ha hb => h2.init a b ha hb
  have h4 : isF tA R (0, 1) (0, 1) = true := alive_step tA_fit h2.closed hs hal (o := oA) (List.mem_singleton.2 rfl) (by decide) ⟨hin, hin, .inl rfl⟩ (by decide) (by decide) (.inl rfl)
  rw [M_l33_awake]
  show ob2 (M_mutex_New g tA) _ = _
  rw [h1, ob2_some]
  show ob1 (M_stratagem_mutex_Table_Reached (some (tbl tA R)) (0, 1)) _ = _
  have e1 : reaF tA R (0, 1) = true := by rw [reaF, h4]; rfl
  have e2 : reaF tA R (0, 2) = false := by rw [reaF, h3, Bool.and_false]
  rw [reached_eq hz h2.rk, ob1_some, e1, sel_tt, reached_eq hz h2.rk, ob1_some, e2]
  rfl
/-- the head of each statement -/
theorem law_head {t : GTask} (ht : ShT t) (g : Nat) (hg : 1000000 ≤ g) {k : Unit → Option Bool} (h : Fit3 t → k () = some true) : ob1 (ob1 (M_l33_fit t) (fun z7 =>
    sel (!z7)
     (ob1 (M_l33_awake g) (fun z10 =>
       some (.inr z10)))
     (ob1 (M_l33_awake g) (fun z8 =>
       sel (!z8)
        (ob1 (M_l33_awake g) (fun z9 =>
          some (.inr z9)))
        (some (.inl ()))))) : Option (Unit ⊕ Bool)) (osum k (fun r5 => some r5)) = some true := by
  rw [fit3_eq t ht, ob1_some, awake3 g hg, ob1_some, ob1_some]
  cases hf : fit3F t with
  | false => rfl
  | true =>
    rw [Bool.not_true, sel_ff, sel_ff, ob1_some, osum_inl]
    exact h (fit3_of hf)
end Go.Proofs.YtinnphmnhmdcgaaGreat.Am
/- Plain: errors as numbers; loops that look for one. -/
namespace Go.Proofs.YtinnphmnhmdcgaaGreat.Am
open Go.RowKit
theorem rg_any {α γ : Type} {B : α → Int → Bool → (Bool → Option γ) → Option γ} {E : Bool → Option γ} {q : α → Bool} : ∀ {l : List α} {i : Int} {v : Bool}, (∀ y ∈ l, ∀ i v rc, B y i v rc = rc (v || q y)) → Rg B E l i v = E (v || l.any q)
  | [], i, v, _ => by rw [Rg, List.any_nil, Bool.or_false]
  | y :: r, i, v, h => by
    rw [Rg, h y (List.mem_cons_self ..), rg_any (fun z hz => h z (List.mem_cons_of_mem _ hz)), List.any_cons, Bool.or_assoc]
end Go.Proofs.YtinnphmnhmdcgaaGreat.Am
/- slices.Clone at ints as a general call: what it returns is the caller's own row. -/
namespace Go.Proofs.YtinnphmnhmdcgaaGreat.Am
open Go.RowKit
theorem cells_ints {w : World} {vs : Shp} {m : MM} {l : List Int} (k : Nat) (e : List AV) (he : (l.map cI)[k]? = some e) : e.length = 1 ∧ ∀ (j : Nat) (y : AV), e[j]? = some y → Fr y ∧ ∃ u, (l.map (Value.int .i64))[k * 1 + j]? = some u ∧ u.oneCell' = true ∧ RV w vs m y u := by
  obtain ⟨x, hx, rfl⟩ := get_map he
  refine ⟨rfl, fun j y hy => ?_⟩
  match j, hy with
  | 0, hy => simp [cI] at hy; subst hy; exact ⟨.c _, _, by rw [Nat.mul_one, Nat.add_zero, List.getElem?_map, hx]; rfl, rfl, .c _⟩
  | j + 1, hy => simp [cI] at hy
theorem A_cloneIo (l : List Int) {r : List Int} (h : M_cloneI l = some r) : ACallG cx 71 [.sl 1 (l.map cI)] [] [] (.own 0 0 0 r.length) [(0, ⟨3, 1, false, r.map cI⟩)] := by
  obtain ⟨h0, h⟩ := grd_ok h
  obtain rfl := Option.some.inj h
  refine ⟨enter_g Tryz.func71 rfl (by decide), fun w m cargs hg hM hsz hargs => ?_⟩
  obtain ⟨v, rfl⟩ := cargs1 hsz
  obtain ⟨A, cap, b, off, f, rfl, hA, hcap, _, _, hc, hv, _⟩ := rv_sl (hargs 0 _ v rfl rfl)
  have hlen : (l.map cI).length = l.length := List.length_map _
  have done : ∀ (w' : World) (v' : Value), w'.ownsRow w.heap.size 3 1 v' l.length (l.map (Value.int .i64)) → Below w.heap.size w w' →
      ∃ m', GR cx w m [] [] (.own 0 0 0 l.length) [(0, ⟨3, 1, false, l.map cI⟩)] v' m' w' := fun w' v' ho hb => by
    have hge : ∀ b, v'.ownBlock = some b → w.heap.size ≤ b := fun b hb => by
      rcases ho.2 with ⟨rfl, _⟩ | ⟨g, cap, cur, rfl, hbase, _⟩
      · cases hb
      · simp [Value.ownBlock] at hb; omega
    exact ⟨_, gr_row (i0 := 0) (v := .slice none 0 0) (row := none) hM hg (.inl rfl) (own_mono ho (Nat.zero_le _)) ⟨hb.os, hb.tape, hb.output, hb.size, fun b hb' _ => hb.block b hb'⟩ (.inl rfl) (.inr hge) (List.length_map _) (fun k e he => cells_ints k e he)⟩
  have fin : ∀ (w' : World) (v' : Value), w'.ownsRow w.heap.size 3 1 v' l.length (l.map (Value.int .i64)) → Below w.heap.size w w' → _ := fun w' v' ho hb => (done w' v' ho hb)
  by_cases hl : l = []
  · subst hl
    cases A with
    | none =>
      refine (Tryz.slices_Clone_int_nil _ cap w).mono ?_
      rintro e w' ⟨rfl, rfl⟩
      obtain ⟨m', hm'⟩ := done w' (.slice none 0 0) ⟨rfl, .inl ⟨rfl, rfl⟩⟩ (Below.refl _ _)
      exact ⟨_, m', rfl, hm'⟩
    | some a =>
      refine (Tryz.slices_Clone_int_zero a cap w).mono ?_
      rintro e w' ⟨v', rfl, ho, _, hb⟩
      obtain ⟨m', hm'⟩ := done w' v' ho hb
      exact ⟨_, m', rfl, hm'⟩
  · obtain ⟨rfl, _, _⟩ := hA (by simpa using hl)
    rw [hlen]
    refine (Tryz.slices_Clone_int b off l.length cap l w (Nat.le_refl _) h0 (fun j hj => ?_)).mono ?_
    · have hx := List.getElem?_eq_getElem hj
      have := (hc j 0 _ _ (map_at' hx) rfl).1
      rw [rv_c (hv j 0 _ _ (map_at' hx) rfl)] at this
      simpa [List.getD_eq_getElem?_getD, hx] using this
    · rintro e w' ⟨v', rfl, ho, _, hb⟩
      rw [List.take_of_length_le (Nat.le_refl _)] at ho
      obtain ⟨m', hm'⟩ := done w' v' ho hb
      exact ⟨_, m', rfl, hm'⟩
end Go.Proofs.YtinnphmnhmdcgaaGreat.Am
/- Models printed by my decompiler, and the proofs that the code computes them. -/
namespace Go.Proofs.YtinnphmnhmdcgaaGreat.Am
set_option maxHeartbeats 16000000
set_option maxRecDepth 100000
open Go.RowKit
def M_task_apply_L1 (a1 : List Int) (y15 : GOp) : Nat → Int → (List Int) → Option ((List Int) × Er)
  | 0, _, _ => none
  | k26 + 1, v24, v25 =>
    sel (decide (v24 < ((y15.Effs.map cGEffect).length : Int)))
     (ix y15.Effs v24 (fun y27 =>
       ob1 (M_task_Holds y27.When a1) (fun z28 =>
        sel z28
         (ixn v25 ((y27.Var).toNat) (fun _ =>
           grd (0 ≤ y27.Var) (grd (y27.Var < ((v25.length : Nat) : Int)) (M_task_apply_L1 a1 y15 k26 (IntKind.i64.wrap (v24 + 1)) (v25.set ((y27.Var).toNat) y27.Val)))))
         (M_task_apply_L1 a1 y15 k26 (IntKind.i64.wrap (v24 + 1)) v25))))
     (grd (v25.length ≤ 140737488355328) (some (v25, Er.nil)))
def M_task_apply (a0 : GTask) (a1 : List Int) (a2 : Int) : Option ((List Int) × Er) :=
  ob1 (ob1 (sel (decide (a2 < 0))
     (some true)
     (some (decide (a2 ≥ ((a0.Ops.map cGOp).length : Int)))) : Option (Bool))
    (fun v9 => sel v9
       (some (.inr ([], (Er.no 1))))
       (ob1 (M_task_Proper a0.Vars a1) (fun z11 =>
         sel (!z11)
          (some (.inr ([], (Er.no 2))))
          (ix a0.Ops a2 (fun y12 =>
            ob1 (M_task_Holds y12.Pre a1) (fun z13 =>
             sel (!z13)
              (some (.inr ([], (Er.no 12))))
              (some (.inl ())))))))) : Option (Unit ⊕ ((List Int) × Er)))
   (osum
   (fun _ => ob1 (M_cloneI a1) (fun z14 =>
      ix a0.Ops a2 (fun y15 =>
       M_task_apply_L1 a1 y15 ((((y15.Effs.map cGEffect).length : Int)).toNat + 1) 0 z14)))
   (fun (r6, r7) => some (r6, r7)))
theorem A_task_apply (a0 : GTask) (a1 : List Int) (a2 : Int) {r1 : List Int} {r2 : Er} (h : M_task_apply a0 a1 a2 = some (r1, r2)) : ACall cx 64 [.agg [.sl 1 (a0.Vars.map cI), .sl 1 (a0.Init.map cI), .sl 2 (a0.Goal.map cF), .sl 4 (a0.Ops.map cGOp)], .sl 1 (a1.map cI), .c (.int .i64 a2)] (.tup [.sl 1 (r1.map cI), eA r2]) := by
  refine aOf Tryz.func64 rfl (by decide) rfl (Nat.le_of_ble_eq_true rfl) ?_; intro _; unfold M_task_apply at h; refine aSR ?_; intro _; refine dr ?_; obtain ⟨o1, h, hK2⟩ := ob1_ok h; refine awp_cut (α := Unit) (fun _ => mkS 65 [(1, .sl 1 (a1.map cI)), (2, .c (.int .i64 a2)), (3, .ptr 3 0 0 0)] [(3, ⟨26, 4, true, [[.sl 1 (a0.Vars.map cI), .sl 1 (a0.Init.map cI), .sl 2 (a0.Goal.map cF), .sl 4 (a0.Ops.map cGOp)]]⟩)]) (fun v => o1 = (.inl v)) ?_ ?_
  · refine aBk ?_; obtain ⟨o3, h, hK4⟩ := ob1_ok h; refine awp_cut (α := Bool) (fun v9 => mkS 65 [(1, .sl 1 (a1.map cI)), (2, .c (.int .i64 a2)), (3, .ptr 3 0 0 0), (11, .c (.bool v9))] [(3, ⟨26, 4, true, [[.sl 1 (a0.Vars.map cI), .sl 1 (a0.Init.map cI), .sl 2 (a0.Goal.map cF), .sl 4 (a0.Ops.map cGOp)]]⟩)]) (fun v => o3 = v) ?_ ?_
    · refine aRg ?_; intro _; refine spf h (fun c5 h => ?_) (fun c5 h => ?_)
      · intro _; refine dr ?_; refine ⟨(decide (a2 ≥ ((a0.Ops.map cGOp).length : Int))), (Option.some.inj h).symm, ?_⟩; exact ca_0
      · intro _; refine dr ?_; refine ⟨true, (Option.some.inj h).symm, ?_⟩; exact ca_0
    · rintro v9 ho; have ho := ho.symm; subst ho; intro _; replace h := hK4; refine aCd ?_; intro _; refine spl h (fun c6 h => ?_) (fun c6 h => ?_)
      · refine aSR ?_; intro _; refine dr ?_; refine aRt ?_; have j7 := Option.some.inj h; subst j7; replace h := (osum_r hK2); intro _; obtain ⟨rfl, rfl⟩ := inj2 h; exact ca_0
      · refine aSR ?_; intro _; obtain ⟨z11, u8, h⟩ := ob1_ok h; refine cl rfl (A_task_Proper a0.Vars a1 u8) ?_; intro _; refine dr ?_; refine aCd ?_; intro _; refine spl h (fun c9 h => ?_) (fun c9 h => ?_)
        · refine aSR ?_; intro _; refine dr ?_; refine aRt ?_; have j10 := Option.some.inj h; subst j10; replace h := (osum_r hK2); intro _; obtain ⟨rfl, rfl⟩ := inj2 h; exact ca_0
        · refine aSR ?_; intro _; obtain ⟨y12, w11, q12, h⟩ := ix_ok h; refine Exists.intro (cGOp y12) (And.intro (map_at' w11) ?_); intro _; obtain ⟨z13, u13, h⟩ := ob1_ok h; refine cl rfl (A_task_Holds y12.Pre a1 u13) ?_; intro _; refine pr ?_; refine dr ?_; refine aCd ?_; intro _; refine spl h (fun c14 h => ?_) (fun c14 h => ?_)
          · refine aSR ?_; intro _; refine dr ?_; refine aRt ?_; have j15 := Option.some.inj h; subst j15; replace h := (osum_r hK2); intro _; obtain ⟨rfl, rfl⟩ := inj2 h; exact ca_0
          · refine aSk ?_; refine ⟨(), (Option.some.inj h).symm, ?_⟩; exact ca_0
  · rintro _ ho; have ho := ho.symm; subst ho; intro _; replace h := (osum_l hK2); refine aSR ?_; intro _; obtain ⟨z14, u16, h⟩ := ob1_ok h; refine clg [(0, 41)] [] [] [(41, ⟨2, some ⟨3, 1, false, z14.map cI⟩⟩)] (.own 41 2 0 z14.length) rfl rfl (A_cloneIo a1 u16) ?_; intro _; refine dr ?_; refine aSq ?_; refine aSR ?_; intro _; obtain ⟨y15, w17, q18, h⟩ := ix_ok h; refine Exists.intro (cGOp y15) (And.intro (map_at' w17) ?_); intro _; refine pr ?_; refine dr ?_; refine aBk ?_; refine awp_loop (α := Nat × Int × (List Int)) (fun x => mkS 65 [(1, .sl 1 (a1.map cI)), (8, .own 41 0 0 x.2.2.length), (47, .sl 3 (y15.Effs.map cGEffect)), (48, .c (.int .i64 ((y15.Effs.map cGEffect).length : Int))), (49, .c (.int .i64 x.2.1))] [(41, ⟨3, 1, false, x.2.2.map cI⟩)]) (fun x => M_task_apply_L1 a1 y15 x.1 x.2.1 x.2.2 = some (r1, r2)) (fun x => x.1) ((((y15.Effs.map cGEffect).length : Int)).toNat + 1, 0, z14) h ?_ ?_
    · exact ca_0
    · intro x19 h; intro _; obtain ⟨k26, m20, h⟩ := succ_of (f := fun n => M_task_apply_L1 a1 y15 n x19.2.1 x19.2.2) rfl h; replace h : M_task_apply_L1 a1 y15 (k26 + 1) x19.2.1 x19.2.2 = some (r1, r2) := h; rw [M_task_apply_L1] at h; refine aSR ?_; intro _; refine dr ?_; refine aSq ?_; refine aCd ?_; intro _; refine spl h (fun c21 h => ?_) (fun c21 h => ?_)
      · refine aSk ?_; refine aSq ?_; refine aBk ?_; refine aSR ?_; intro _; obtain ⟨y27, w22, q23, h⟩ := ix_ok h; refine Exists.intro (cGEffect y27) (And.intro (map_at' w22) ?_); intro _; refine pr ?_; refine dr ?_; refine aSR ?_; intro _; obtain ⟨z28, u24, h⟩ := ob1_ok h; refine cl rfl (A_task_Holds y27.When a1 u24) ?_; intro _; refine dr ?_; refine aCd ?_; intro _; refine spl h (fun c25 h => ?_) (fun c25 h => ?_)
        · refine aRg ?_; intro _; obtain ⟨y29, w26, h⟩ := ixn_ok h; refine Exists.intro (cI y29) (And.intro (by first | exact map_at' w26 | (have w := map_at' (f := cI) w26; simpa [cI, Value.cells] using w)) ?_); intro _; obtain ⟨q27, h⟩ := grd_ok h; obtain ⟨q28, h⟩ := grd_ok h; refine pr ?_; refine pr ?_; refine dr ?_; refine aRg ?_; intro _; refine dr ?_; refine ⟨(k26, (IntKind.i64.wrap (x19.2.1 + 1)), (x19.2.2.set ((y27.Var).toNat) y27.Val)), h, ltS m20, ?_⟩; exact ca_0
        · refine aSk ?_; refine aRg ?_; intro _; refine dr ?_; refine ⟨(k26, (IntKind.i64.wrap (x19.2.1 + 1)), x19.2.2), h, ltS m20, ?_⟩; exact ca_0
      · refine aEx ?_; refine aSR ?_; intro _; refine dr ?_; refine aRt ?_; obtain ⟨q29, h⟩ := grd_ok h; intro _; obtain ⟨rfl, rfl⟩ := inj2 h; exact ca_0
def M_task_Apply (a0 : GTask) (a1 : List Int) (a2 : Int) : Option ((List Int) × Er) :=
  ob1 (M_task_Check a0) (fun z1 =>
   erM z1
    (ob2 (M_task_apply a0 a1 a2) (fun z3 z4 =>
      some (z3, z4)))
    (fun e2 => some ([], (Er.no e2))))
theorem A_task_Apply (a0 : GTask) (a1 : List Int) (a2 : Int) {r1 : List Int} {r2 : Er} (h : M_task_Apply a0 a1 a2 = some (r1, r2)) : ACall cx 35 [.agg [.sl 1 (a0.Vars.map cI), .sl 1 (a0.Init.map cI), .sl 2 (a0.Goal.map cF), .sl 4 (a0.Ops.map cGOp)], .sl 1 (a1.map cI), .c (.int .i64 a2)] (.tup [.sl 1 (r1.map cI), eA r2]) := by
  refine aOf Tryz.func35 rfl (by decide) rfl (Nat.le_of_ble_eq_true rfl) ?_; intro _; unfold M_task_Apply at h; refine aSR ?_; intro _; refine dr ?_; refine aSq ?_; refine aSR ?_; intro _; obtain ⟨z1, u1, h⟩ := ob1_ok h; refine cl rfl (A_task_Check a0 u1) ?_; intro _; refine dr ?_; refine aSq ?_; rcases z1 with _ | e2
  · replace h := erM_nil h; refine aRg ?_; intro _; refine dr ?_; refine aCd ?_; intro _; refine litF ?_; refine aSk ?_; refine aSR ?_; intro _; obtain ⟨z3, z4, u2, h⟩ := ob2_ok h; refine cl rfl (A_task_apply a0 a1 a2 u2) ?_; intro _; refine dr ?_; refine aRt ?_; intro _; obtain ⟨rfl, rfl⟩ := inj2 h; all_goals (cases z4); all_goals exact ca_0
  · replace h := erM_no h; refine aRg ?_; intro _; refine dr ?_; refine aCd ?_; intro _; refine litT ?_; refine aSR ?_; intro _; refine dr ?_; refine aRt ?_; intro _; obtain ⟨rfl, rfl⟩ := inj2 h; exact ca_0
def M_l33_MutexInductive_L1 (y231 : List Int) (z14 : List Nogood) : Nat → Bool → Int → Option (Bool)
  | 0, _, _ => none
  | k253 + 1, v251, v252 =>
    sel (decide (v252 < ((z14.map cN).length : Int)))
     (ix z14 v252 (fun y254 =>
       sel v251
        (M_l33_MutexInductive_L1 y231 z14 k253 true (IntKind.i64.wrap (v252 + 1)))
        (ob1 (M_task_Holds y254.1 y231) (fun z255 =>
          M_l33_MutexInductive_L1 y231 z14 k253 z255 (IntKind.i64.wrap (v252 + 1))))))
     (some v251)
def M_l33_MutexInductive_L2 (a0 : GTask) (v243 : Bool) (y231 : List Int) (z16 : GTable) : Nat → Int → Option (Unit ⊕ Bool)
  | 0, _ => none
  | k267 + 1, v266 =>
    sel (decide (v266 < ((a0.Ops.map cGOp).length : Int)))
     (ob2 (M_task_Apply a0 y231 v266) (fun z268 z269 =>
       erM z269
        (sel (!v243)
          (ob1 (M_stratagem_mutex_Table_Dead (some z16) z268) (fun z271 =>
            sel z271
             (some (.inr false))
             (M_l33_MutexInductive_L2 a0 v243 y231 z16 k267 (IntKind.i64.wrap (v266 + 1)))))
          (M_l33_MutexInductive_L2 a0 v243 y231 z16 k267 (IntKind.i64.wrap (v266 + 1))))
        (fun _ => M_l33_MutexInductive_L2 a0 v243 y231 z16 k267 (IntKind.i64.wrap (v266 + 1)))))
     (some (.inl ()))
def M_l33_MutexInductive_L3 (a0 : GTask) (z14 : List Nogood) (z15 : List (List Int)) (z16 : GTable) : Nat → Int → Option (Bool)
  | 0, _ => none
  | k187 + 1, v186 =>
    sel (decide (v186 < ((z15.map cL_cI).length : Int)))
     (ob1 (ix z15 v186 (fun y231 =>
        ob1 (M_l33_MutexInductive_L1 y231 z14 ((((z14.map cN).length : Int)).toNat + 1) false 0 : Option (Bool))
         (fun v243 => ob1 (M_stratagem_mutex_Table_Dead (some z16) y231) (fun z256 =>
            sel (!(z256 == v243))
             (some (.inr false))
             (M_l33_MutexInductive_L2 a0 v243 y231 z16 ((((a0.Ops.map cGOp).length : Int)).toNat + 1) 0)))) : Option (Unit ⊕ Bool))
       (osum
       (fun _ => M_l33_MutexInductive_L3 a0 z14 z15 z16 k187 (IntKind.i64.wrap (v186 + 1)))
       (fun r229 => some r229)))
     (some true)
def M_l33_MutexInductive (g : Nat) (a0 : GTask) : Option (Bool) :=
  ob1 (ob1 (M_l33_fit a0) (fun z7 =>
    sel (!z7)
     (ob1 (M_l33_awake g) (fun z10 =>
       some (.inr z10)))
     (ob1 (M_l33_awake g) (fun z8 =>
       sel (!z8)
        (ob1 (M_l33_awake g) (fun z9 =>
          some (.inr z9)))
        (some (.inl ()))))) : Option (Unit ⊕ Bool))
   (osum
   (fun _ => ob2 (M_mutex_New g a0) (fun z11 z12 =>
      erM z12
       (ob1 (M_stratagem_mutex_Table_Nogoods z11) (fun z14 =>
         ob1 (M_b_States a0.Vars) (fun z15 =>
          opM z11
           (none)
           (fun z16 => M_l33_MutexInductive_L3 a0 z14 z15 z16 ((((z15.map cL_cI).length : Int)).toNat + 1) 0))))
       (fun _ => some false)))
   (fun r5 => some r5))
theorem A_l33_MutexInductive (g : Nat) (a0 : GTask) {r1 : Bool} (h : M_l33_MutexInductive g a0 = some r1) : ACall cx 8 [.agg [.sl 1 (a0.Vars.map cI), .sl 1 (a0.Init.map cI), .sl 2 (a0.Goal.map cF), .sl 4 (a0.Ops.map cGOp)]] (.c (.bool r1)) := by
  refine aOf Tryz.func8 rfl (by decide) rfl (Nat.le_of_ble_eq_true rfl) ?_; intro _; unfold M_l33_MutexInductive at h; refine aSR ?_; intro _; refine dr ?_; obtain ⟨o1, h, hK2⟩ := ob1_ok h; refine awp_cut (α := Unit) (fun _ => mkS 84 [(1, .ptr 1 0 0 0)] [(1, ⟨26, 4, true, [[.sl 1 (a0.Vars.map cI), .sl 1 (a0.Init.map cI), .sl 2 (a0.Goal.map cF), .sl 4 (a0.Ops.map cGOp)]]⟩)]) (fun v => o1 = (.inl v)) ?_ ?_
  · refine aSR ?_; intro _; obtain ⟨z7, u3, h⟩ := ob1_ok h; refine cl rfl (A_l33_fit a0 u3) ?_; intro _; refine spf h (fun c4 h => ?_) (fun c4 h => ?_)
    · intro _; obtain ⟨z8, u5, h⟩ := ob1_ok h; refine cl rfl (A_l33_awake g u5) ?_; intro _; refine dr ?_; refine aCd ?_; intro _; refine spl h (fun c6 h => ?_) (fun c6 h => ?_)
      · refine aSR ?_; intro _; obtain ⟨z9, u7, h⟩ := ob1_ok h; refine cl rfl (A_l33_awake g u7) ?_; intro _; refine dr ?_; refine aRt ?_; have j8 := Option.some.inj h; subst j8; replace h := (osum_r hK2); intro _; obtain rfl := inj1 h; exact ca_0
      · refine aSk ?_; refine ⟨(), (Option.some.inj h).symm, ?_⟩; exact ca_0
    · intro _; refine dr ?_; refine aCd ?_; intro _; refine litT ?_; refine aSR ?_; intro _; obtain ⟨z10, u9, h⟩ := ob1_ok h; refine cl rfl (A_l33_awake g u9) ?_; intro _; refine dr ?_; refine aRt ?_; have j10 := Option.some.inj h; subst j10; replace h := (osum_r hK2); intro _; obtain rfl := inj1 h; exact ca_0
  · rintro _ ho; have ho := ho.symm; subst ho; intro _; replace h := (osum_l hK2); refine aSR ?_; intro _; obtain ⟨z11, z12, u11, h⟩ := ob2_ok h; refine cl rfl (A_mutex_New g a0 u11) ?_; intro _; refine dr ?_; refine aSq ?_; refine aSq ?_; rcases z12 with _ | e13
    · replace h := erM_nil h; refine aRg ?_; intro _; refine dr ?_; refine aCd ?_; intro _; refine litF ?_; refine aSk ?_; refine aSR ?_; intro _; obtain ⟨z14, u12, h⟩ := ob1_ok h; refine cl rfl (A_stratagem_mutex_Table_Nogoods z11 u12) ?_; intro _; refine dr ?_; refine aSq ?_; refine aSR ?_; intro _; obtain ⟨z15, u13, h⟩ := ob1_ok h; refine cl rfl (A_b_States a0.Vars u13) ?_; intro _; refine dr ?_; refine aBk ?_; rcases z11 with _ | z16
      · replace h := opM_none h; cases h
      · replace h := opM_some h; refine awp_loop (α := Nat × Int) (fun x => mkS 84 [(1, .ptr 1 0 0 0), (3, .pim [.sl 1 (z16.t.Vars.map cI), .sl 1 (z16.t.Init.map cI), .sl 2 (z16.t.Goal.map cF), .sl 4 (z16.t.Ops.map cGOp), .sl 1 (z16.first.map cI), .sl 1 (z16.reached.map cL_cB)] 0), (5, .sl 2 (z14.map cN)), (33, .sl 1 (z15.map cL_cI)), (34, .c (.int .i64 ((z15.map cL_cI).length : Int))), (35, .c (.int .i64 x.2))] [(1, ⟨26, 4, true, [[.sl 1 (a0.Vars.map cI), .sl 1 (a0.Init.map cI), .sl 2 (a0.Goal.map cF), .sl 4 (a0.Ops.map cGOp)]]⟩)]) (fun x => M_l33_MutexInductive_L3 a0 z14 z15 z16 x.1 x.2 = some r1) (fun x => x.1) ((((z15.map cL_cI).length : Int)).toNat + 1, 0) h ?_ ?_
        · exact ca_0
        · intro x14 h; intro _; obtain ⟨k187, m15, h⟩ := succ_of (f := fun n => M_l33_MutexInductive_L3 a0 z14 z15 z16 n x14.2) rfl h; replace h : M_l33_MutexInductive_L3 a0 z14 z15 z16 (k187 + 1) x14.2 = some r1 := h; rw [M_l33_MutexInductive_L3] at h; refine aSR ?_; intro _; refine dr ?_; refine aSq ?_; refine aCd ?_; intro _; refine spl h (fun c16 h => ?_) (fun c16 h => ?_)
          · refine aSk ?_; obtain ⟨o17, h, hK18⟩ := ob1_ok h; refine awp_cut (α := Unit) (fun _ => mkS 84 [(1, .ptr 1 0 0 0), (3, .pim [.sl 1 (z16.t.Vars.map cI), .sl 1 (z16.t.Init.map cI), .sl 2 (z16.t.Goal.map cF), .sl 4 (z16.t.Ops.map cGOp), .sl 1 (z16.first.map cI), .sl 1 (z16.reached.map cL_cB)] 0), (5, .sl 2 (z14.map cN)), (33, .sl 1 (z15.map cL_cI)), (34, .c (.int .i64 ((z15.map cL_cI).length : Int))), (35, .c (.int .i64 x14.2))] [(1, ⟨26, 4, true, [[.sl 1 (a0.Vars.map cI), .sl 1 (a0.Init.map cI), .sl 2 (a0.Goal.map cF), .sl 4 (a0.Ops.map cGOp)]]⟩)]) (fun v => o17 = (.inl v)) ?_ ?_
            · refine aBk ?_; refine aSR ?_; intro _; obtain ⟨y231, w19, q20, h⟩ := ix_ok h; refine Exists.intro (cL_cI y231) (And.intro (map_at' w19) ?_); intro _; refine pr ?_; refine dr ?_; refine aSR ?_; intro _; refine dr ?_; obtain ⟨o21, h, hK22⟩ := ob1_ok h; refine awp_cut (α := Bool) (fun v243 => mkS 84 [(1, .ptr 1 0 0 0), (3, .pim [.sl 1 (z16.t.Vars.map cI), .sl 1 (z16.t.Init.map cI), .sl 2 (z16.t.Goal.map cF), .sl 4 (z16.t.Ops.map cGOp), .sl 1 (z16.first.map cI), .sl 1 (z16.reached.map cL_cB)] 0), (5, .sl 2 (z14.map cN)), (7, .sl 1 (y231.map cI)), (8, .c (.bool v243)), (33, .sl 1 (z15.map cL_cI)), (34, .c (.int .i64 ((z15.map cL_cI).length : Int))), (35, .c (.int .i64 x14.2))] [(1, ⟨26, 4, true, [[.sl 1 (a0.Vars.map cI), .sl 1 (a0.Init.map cI), .sl 2 (a0.Goal.map cF), .sl 4 (a0.Ops.map cGOp)]]⟩)]) (fun v => o21 = v) ?_ ?_
              · refine aSR ?_; intro _; refine dr ?_; refine aBk ?_; refine awp_loop (α := Nat × Bool × Int) (fun x => mkS 84 [(1, .ptr 1 0 0 0), (3, .pim [.sl 1 (z16.t.Vars.map cI), .sl 1 (z16.t.Init.map cI), .sl 2 (z16.t.Goal.map cF), .sl 4 (z16.t.Ops.map cGOp), .sl 1 (z16.first.map cI), .sl 1 (z16.reached.map cL_cB)] 0), (5, .sl 2 (z14.map cN)), (7, .sl 1 (y231.map cI)), (8, .c (.bool x.2.1)), (33, .sl 1 (z15.map cL_cI)), (34, .c (.int .i64 ((z15.map cL_cI).length : Int))), (35, .c (.int .i64 x14.2)), (39, .sl 2 (z14.map cN)), (40, .c (.int .i64 ((z14.map cN).length : Int))), (41, .c (.int .i64 x.2.2))] [(1, ⟨26, 4, true, [[.sl 1 (a0.Vars.map cI), .sl 1 (a0.Init.map cI), .sl 2 (a0.Goal.map cF), .sl 4 (a0.Ops.map cGOp)]]⟩)]) (fun x => M_l33_MutexInductive_L1 y231 z14 x.1 x.2.1 x.2.2 = some o21) (fun x => x.1) ((((z14.map cN).length : Int)).toNat + 1, false, 0) h ?_ ?_
                · exact ca_0
                · intro x23 h; intro _; obtain ⟨k253, m24, h⟩ := succ_of (f := fun n => M_l33_MutexInductive_L1 y231 z14 n x23.2.1 x23.2.2) rfl h; replace h : M_l33_MutexInductive_L1 y231 z14 (k253 + 1) x23.2.1 x23.2.2 = some o21 := h; rw [M_l33_MutexInductive_L1] at h; refine aSR ?_; intro _; refine dr ?_; refine aSq ?_; refine aCd ?_; intro _; refine spl h (fun c25 h => ?_) (fun c25 h => ?_)
                  · refine aSk ?_; refine aSq ?_; refine aBk ?_; refine aSR ?_; intro _; obtain ⟨y254, w26, q27, h⟩ := ix_ok h; refine Exists.intro (cN y254) (And.intro (map_at' w26) ?_); intro _; refine pr ?_; refine dr ?_; refine aRg ?_; intro _; refine spf h (fun c28 h => ?_) (fun c28 h => ?_)
                    · intro _; obtain ⟨z255, u29, h⟩ := ob1_ok h; refine cl rfl (A_task_Holds y254.1 y231 u29) ?_; intro _; refine dr ?_; refine aRg ?_; intro _; refine dr ?_; refine ⟨(k253, z255, (IntKind.i64.wrap (x23.2.2 + 1))), h, ltS m24, ?_⟩; exact ca_0
                    · intro _; refine dr ?_; refine aRg ?_; intro _; refine dr ?_; refine ⟨(k253, true, (IntKind.i64.wrap (x23.2.2 + 1))), h, ltS m24, ?_⟩; exact ca_0
                  · refine aEx ?_; refine ⟨x23.2.1, (Option.some.inj h).symm, ?_⟩; exact ca_0
              · rintro v243 ho; have ho := ho.symm; subst ho; intro _; replace h := hK22; refine aSq ?_; refine aSR ?_; intro _; obtain ⟨z256, u30, h⟩ := ob1_ok h; refine cl rfl (A_stratagem_mutex_Table_Dead (some z16) y231 u30) ?_; intro _; refine dr ?_; refine aCd ?_; intro _; refine spl h (fun c31 h => ?_) (fun c31 h => ?_)
                · refine aSR ?_; intro _; refine dr ?_; refine aRt ?_; have j32 := Option.some.inj h; subst j32; replace h := (osum_r hK18); intro _; obtain rfl := inj1 h; exact ca_0
                · refine aSk ?_; refine aSR ?_; intro _; refine dr ?_; refine aBk ?_; refine awp_loop (α := Nat × Int) (fun x => mkS 84 [(1, .ptr 1 0 0 0), (3, .pim [.sl 1 (z16.t.Vars.map cI), .sl 1 (z16.t.Init.map cI), .sl 2 (z16.t.Goal.map cF), .sl 4 (z16.t.Ops.map cGOp), .sl 1 (z16.first.map cI), .sl 1 (z16.reached.map cL_cB)] 0), (5, .sl 2 (z14.map cN)), (7, .sl 1 (y231.map cI)), (8, .c (.bool v243)), (33, .sl 1 (z15.map cL_cI)), (34, .c (.int .i64 ((z15.map cL_cI).length : Int))), (35, .c (.int .i64 x14.2)), (60, .c (.int .i64 ((a0.Ops.map cGOp).length : Int))), (61, .c (.int .i64 x.2))] [(1, ⟨26, 4, true, [[.sl 1 (a0.Vars.map cI), .sl 1 (a0.Init.map cI), .sl 2 (a0.Goal.map cF), .sl 4 (a0.Ops.map cGOp)]]⟩)]) (fun x => M_l33_MutexInductive_L2 a0 v243 y231 z16 x.1 x.2 = some o17) (fun x => x.1) ((((a0.Ops.map cGOp).length : Int)).toNat + 1, 0) h ?_ ?_
                  · exact ca_0
                  · intro x33 h; intro _; obtain ⟨k267, m34, h⟩ := succ_of (f := fun n => M_l33_MutexInductive_L2 a0 v243 y231 z16 n x33.2) rfl h; replace h : M_l33_MutexInductive_L2 a0 v243 y231 z16 (k267 + 1) x33.2 = some o17 := h; rw [M_l33_MutexInductive_L2] at h; refine aSR ?_; intro _; refine dr ?_; refine aSq ?_; refine aCd ?_; intro _; refine spl h (fun c35 h => ?_) (fun c35 h => ?_)
                    · refine aSk ?_; refine aSq ?_; refine aBk ?_; refine aSR ?_; intro _; refine dr ?_; refine aSR ?_; intro _; obtain ⟨z268, z269, u36, h⟩ := ob2_ok h; refine cl rfl (A_task_Apply a0 y231 x33.2 u36) ?_; intro _; refine dr ?_; refine aSq ?_; rcases z269 with _ | e270
                      · replace h := erM_nil h; refine aRg ?_; intro _; refine litT ?_; intro _; refine spl h (fun c37 h => ?_) (fun c37 h => ?_)
                        · intro _; obtain ⟨z271, u38, h⟩ := ob1_ok h; refine cl rfl (A_stratagem_mutex_Table_Dead (some z16) z268 u38) ?_; intro _; refine dr ?_; refine aCd ?_; intro _; refine spl h (fun c39 h => ?_) (fun c39 h => ?_)
                          · refine aSR ?_; intro _; refine dr ?_; refine aRt ?_; have j40 := Option.some.inj h; subst j40; replace h := (osum_r hK18); intro _; obtain rfl := inj1 h; exact ca_0
                          · refine aSk ?_; refine aRg ?_; intro _; refine dr ?_; refine ⟨(k267, (IntKind.i64.wrap (x33.2 + 1))), h, ltS m34, ?_⟩; exact ca_0
                        · intro _; refine dr ?_; refine aCd ?_; intro _; refine litF ?_; refine aSk ?_; refine aRg ?_; intro _; refine dr ?_; refine ⟨(k267, (IntKind.i64.wrap (x33.2 + 1))), h, ltS m34, ?_⟩; exact ca_0
                      · replace h := erM_no h; refine aRg ?_; intro _; refine litF ?_; intro _; refine dr ?_; refine aCd ?_; intro _; refine litF ?_; refine aSk ?_; refine aRg ?_; intro _; refine dr ?_; refine ⟨(k267, (IntKind.i64.wrap (x33.2 + 1))), h, ltS m34, ?_⟩; exact ca_0
                    · refine aEx ?_; refine ⟨(), (Option.some.inj h).symm, ?_⟩; exact ca_0
            · rintro _ ho; have ho := ho.symm; subst ho; intro _; replace h := (osum_l hK18); refine aRg ?_; intro _; refine dr ?_; refine ⟨(k187, (IntKind.i64.wrap (x14.2 + 1))), h, ltS m15, ?_⟩; exact ca_0
          · refine aEx ?_; refine aSR ?_; intro _; refine dr ?_; refine aRt ?_; intro _; obtain rfl := inj1 h; exact ca_0
    · replace h := erM_no h; refine aRg ?_; intro _; refine dr ?_; refine aCd ?_; intro _; refine litT ?_; refine aSR ?_; intro _; refine dr ?_; refine aRt ?_; intro _; obtain rfl := inj1 h; exact ca_0
end Go.Proofs.YtinnphmnhmdcgaaGreat.Am
/- Range loops of the models as recursions. -/
namespace Go.Proofs.YtinnphmnhmdcgaaGreat.Am
def M_task_apply_L1_B (a1 : List Int) (_ : GOp) (_y27 : GEffect) (_ : Int) : ((List Int)) → (((List Int)) → Option ((List Int) × Er)) → Option ((List Int) × Er) := fun v25 rc => ixv _y27 (fun y27 =>
       ob1 (M_task_Holds y27.When a1) (fun z28 =>
        sel z28
         (ixn v25 ((y27.Var).toNat) (fun _ =>
           grd (0 ≤ y27.Var) (grd (y27.Var < ((v25.length : Nat) : Int)) (rc ((v25.set ((y27.Var).toNat) y27.Val))))))
         (rc (v25))))
def M_task_apply_L1_E (_ : List Int) (_ : GOp) : ((List Int)) → Option ((List Int) × Er) := fun v25 => grd (v25.length ≤ 140737488355328) (some (v25, Er.nil))
theorem M_task_apply_L1_eq (a1 : List Int) (y15 : GOp) (v25 : List Int) (hl : y15.Effs.length < 9223372036854775807) : M_task_apply_L1 a1 y15 (((y15.Effs.map cGEffect).length : Int).toNat + 1) 0 v25 = Rg (M_task_apply_L1_B a1 y15) (M_task_apply_L1_E a1 y15) y15.Effs 0 v25 := rg_e1 (L := fun k i v25 => M_task_apply_L1 a1 y15 k i v25) hl (fun _ _ _ => rfl) v25
def M_l33_MutexInductive_L1_B (y231 : List Int) (_ : List Nogood) (_y254 : Nogood) (_ : Int) : ((Bool)) → (((Bool)) → Option (Bool)) → Option (Bool) := fun v251 rc => ixv _y254 (fun y254 =>
       sel v251
        (rc (true))
        (ob1 (M_task_Holds y254.1 y231) (fun z255 =>
          rc (z255))))
def M_l33_MutexInductive_L1_E (_ : List Int) (_ : List Nogood) : ((Bool)) → Option (Bool) := fun v251 => some v251
theorem M_l33_MutexInductive_L1_eq (y231 : List Int) (z14 : List Nogood) (v251 : Bool) (hl : z14.length < 9223372036854775807) : M_l33_MutexInductive_L1 y231 z14 (((z14.map cN).length : Int).toNat + 1) v251 0 = Rg (M_l33_MutexInductive_L1_B y231 z14) (M_l33_MutexInductive_L1_E y231 z14) z14 0 v251 := rg_e1 (L := fun k i v251 => M_l33_MutexInductive_L1 y231 z14 k v251 i) hl (fun _ _ _ => rfl) v251
def M_l33_MutexInductive_L2_B (a0 : GTask) (v243 : Bool) (y231 : List Int) (z16 : GTable) (v266 : Int) : Unit → (Unit → Option (Unit ⊕ Bool)) → Option (Unit ⊕ Bool) := fun _ rc => ob2 (M_task_Apply a0 y231 v266) (fun z268 z269 =>
       erM z269
        (sel (!v243)
          (ob1 (M_stratagem_mutex_Table_Dead (some z16) z268) (fun z271 =>
            sel z271
             (some (.inr false))
             (rc ())))
          (rc ()))
        (fun _ => rc ()))
def M_l33_MutexInductive_L2_E (_ : GTask) (_ : Bool) (_ : List Int) (_ : GTable) : Unit → Option (Unit ⊕ Bool) := fun _ => some (.inl ())
theorem M_l33_MutexInductive_L2_eq (a0 : GTask) (v243 : Bool) (y231 : List Int) (z16 : GTable)  {m : Nat} (hm : ((a0.Ops.map cGOp).length : Int) = (m : Int)) (hl : m < 9223372036854775807) : M_l33_MutexInductive_L2 a0 v243 y231 z16 ((((a0.Ops.map cGOp).length : Int)).toNat + 1) 0 = Rn (M_l33_MutexInductive_L2_B a0 v243 y231 z16) (M_l33_MutexInductive_L2_E a0 v243 y231 z16) m 0 () := rn_e (L := fun k i _ => M_l33_MutexInductive_L2 a0 v243 y231 z16 k i) hm hl (fun _ _ _ => rfl) ()
def M_l33_MutexInductive_L3_B (a0 : GTask) (z14 : List Nogood) (_ : List (List Int)) (z16 : GTable) (_y231 : List Int) (_ : Int) : Unit → (Unit → Option (Bool)) → Option (Bool) := fun _ rc => ob1 (ixv _y231 (fun y231 =>
        ob1 (M_l33_MutexInductive_L1 y231 z14 ((((z14.map cN).length : Int)).toNat + 1) false 0 : Option (Bool))
         (fun v243 => ob1 (M_stratagem_mutex_Table_Dead (some z16) y231) (fun z256 =>
            sel (!(z256 == v243))
             (some (.inr false))
             (M_l33_MutexInductive_L2 a0 v243 y231 z16 ((((a0.Ops.map cGOp).length : Int)).toNat + 1) 0)))) : Option (Unit ⊕ Bool))
       (osum
       (fun _ => rc ())
       (fun r229 => some r229))
def M_l33_MutexInductive_L3_E (_ : GTask) (_ : List Nogood) (_ : List (List Int)) (_ : GTable) : Unit → Option (Bool) := fun _ => some true
theorem M_l33_MutexInductive_L3_eq (a0 : GTask) (z14 : List Nogood) (z15 : List (List Int)) (z16 : GTable)  (hl : z15.length < 9223372036854775807) : M_l33_MutexInductive_L3 a0 z14 z15 z16 (((z15.map cL_cI).length : Int).toNat + 1) 0 = Rg (M_l33_MutexInductive_L3_B a0 z14 z15 z16) (M_l33_MutexInductive_L3_E a0 z14 z15 z16) z15 0 () := rg_e2 (L := fun k i _ => M_l33_MutexInductive_L3 a0 z14 z15 z16 k i) hl (fun k n p y hy h1 h2 => by first | (simp only [M_l33_MutexInductive_L3, M_l33_MutexInductive_L3_B, List.length_map, decide_lt h1, sel, ix_at hy, ixv, h2]; done) | (simp only [List.length_map] at h1 hy; (simp only [M_l33_MutexInductive_L3, M_l33_MutexInductive_L3_B, List.length_map, decide_lt h1, sel, ix_at hy, ixv, h2]; done))) (fun k p => by simp only [M_l33_MutexInductive_L3, M_l33_MutexInductive_L3_E, List.length_map, decide_ge, sel]) ()
end Go.Proofs.YtinnphmnhmdcgaaGreat.Am
/- Chapter 33 in plain Lean: MutexInductive. -/
namespace Go.Proofs.YtinnphmnhmdcgaaGreat.Am
open Go.RowKit
theorem tapp_loop (s : List Int) (o : GOp) : ∀ (r : List GEffect) (i : Int) (v : List Int), (∀ e ∈ r, Sh e.When ∧ 0 ≤ e.Var ∧ e.Var < v.length) → v.length ≤ 1000 → Rg (M_task_apply_L1_B s o) (M_task_apply_L1_E s o) r i v = some (applyG s r v, Er.nil)
  | [], i, v, _, h => by rw [Rg, M_task_apply_L1_E, grd_t (by omega), applyG]
  | e :: r, i, v, he, h => by
    obtain ⟨h1, h2, h3⟩ := he e (List.mem_cons_self ..)
    have he' : ∀ u ∈ r, Sh u.When ∧ 0 ≤ u.Var ∧ u.Var < v.length := fun u hu => he u (List.mem_cons_of_mem _ hu)
    rw [Rg, M_task_apply_L1_B, ixv, tholds_eq _ s h1, ob1_some, applyG]
    by_cases hf : holdsF s e.When = true
    · obtain ⟨y, hy, -⟩ := drop_at (l := v) (n := e.Var.toNat) (by omega)
      rw [hf, sel_tt, if_pos rfl, ixn_at hy, grd_t h2, grd_t h3]
      exact tapp_loop s o r _ _ (by rw [List.length_set]; exact he') (by rw [List.length_set]; exact h)
    · rw [if_neg hf, Bool.eq_false_iff.2 hf, sel_ff]
      exact tapp_loop s o r _ v he' h
theorem tapply_eq {t : GTask} (ht : ShT t) (F : Fit3 t) {s : List Int} (hst : stateF t.Vars s = true) {j : Nat} {o : GOp} (hj : t.Ops[j]? = some o) : M_task_Apply t s (j : Int) = some (if holdsF s o.Pre = true then (nextF s o, Er.nil) else ([], Er.no 12)) := by
  have hgood := F.good
  have ok := good_ok hgood
  have hom := List.mem_of_getElem? hj
  have oo := good_op hgood hom
  have hlt := lt_some hj
  have hs := stateF_st hst
  have hlen := hs.len
  have okl := ok.len
  have he := oo.effs
  rw [M_task_Apply, check_eq t ht, (good_check t).1 hgood, ob1_some, erM, M_task_apply, sel_dec, if_neg (by omega), ob1_some]
  rw [decide_eq_false (by rw [List.length_map]; omega), sel_ff, tproper_eq t.Vars s (by show _ ≤ _; omega), ob1_some, hst, Bool.not_true, sel_ff, ix_at hj, tholds_eq _ s (prop_sh ok.len oo.pre), ob1_some]
  by_cases hf : holdsF s o.Pre = true
  · rw [hf, Bool.not_true, sel_ff, ob1_some, osum_inl, cloneI_eq (by omega), ob1_some, ix_at hj, M_task_apply_L1_eq s o s (by omega), tapp_loop s o o.Effs 0 s (fun e he => ⟨prop_sh ok.len (oo.when e he), by have := good_eff hgood hom he; omega, by have := good_eff hgood hom he; omega⟩) (by omega), ob2_some, if_pos rfl, nextF]
  · rw [if_neg hf, Bool.eq_false_iff.2 hf, Bool.not_false, sel_tt, ob1_some, osum_inr]
    rfl
/-- a state is dead if it has all facts of a nogood -/
theorem dead_any {t : GTask} {R : List (List Bool)} (hS : SyR t R) {s : List Int} (hs : StP t.Vars s) : (ngF t R).any (fun n => holdsF s n.1) = !okF t R (stG s 0) := by
  rw [Bool.eq_iff_iff, Bool.not_eq_true', Bool.eq_false_iff, ne_eq, alive_iff, List.any_eq_true]
  constructor
  · rintro ⟨n, hn, hh⟩ ha
    obtain ⟨p, hp, rfl⟩ := List.mem_map.1 hn
    obtain ⟨a, b, hab, rfl, hf, -⟩ := open_mem.1 hp
    have h := holdsF_iff.1 hh
    rw [ha a b (h a (pset_mem.2 (.inl rfl))) (h b (pset_mem.2 (.inr rfl)))] at hf
    cases hf
  · intro hna
    refine Classical.byContradiction fun hno => hna fun a b ha hb => ?_
    have ia := hold_in hs ha
    have ib := hold_in hs hb
    have key : ∀ a b, SetP t a b → hold1 s a = true → hold1 s b = true → (a = b ∨ (isF t R a a = true ∧ isF t R b b = true)) → isF t R a b = true := fun a b hab h1 h2 h3 => by
      refine Decidable.byContradiction fun hf => hno ⟨(pset a b, 0), List.mem_map.2 ⟨pset a b, open_mem.2 ⟨a, b, hab, rfl, Bool.eq_false_iff.2 hf, h3⟩, rfl⟩, ?_⟩
      refine holdsF_iff.2 fun x hx => ?_
      rcases pset_mem.1 hx with rfl | rfl
      · exact h1
      · exact h2
    have one : ∀ x, hold1 s x = true → isF t R x x = true := fun x hx => key x x ⟨hold_in hs hx, hold_in hs hx, .inl rfl⟩ hx hx (.inl rfl)
    rcases Int.lt_trichotomy a.1 b.1 with h | h | h
    · exact key a b ⟨ia, ib, .inr h⟩ ha hb (.inr ⟨one a ha, one b hb⟩)
    · have e1 := (hold1_iff.1 ha).2.2
      have e2 := (hold1_iff.1 hb).2.2
      rw [h] at e1
      have : a = b := Prod.ext h (e1.symm.trans e2)
      rw [this]
      exact one b hb
    · rw [hS a b ia ib]
      exact key b a ⟨ib, ia, .inr h⟩ hb ha (.inr ⟨one b hb, one a ha⟩)
theorem ind2 {t : GTask} (ht : ShT t) (F : Fit3 t) {R : List (List Bool)} (h : MxR t R) {s : List Int} (hst : stateF t.Vars s = true) {sm : Bool} (hsm : sm = !okF t R (stG s 0)) : ∀ (m n : Nat), n + m = t.Ops.length → Rn (M_l33_MutexInductive_L2_B t sm s (tbl t R)) (M_l33_MutexInductive_L2_E t sm s (tbl t R)) m n () = some (.inl ())
  | 0, n, _ => rfl
  | m + 1, n, hn => by
    have hj : t.Ops[n]? = some (t.Ops[n]'(by omega)) := List.getElem?_eq_getElem _
    have hom := List.mem_of_getElem? hj
    have ih := ind2 ht F h hst hsm m (n + 1) (by omega)
    rw [Rn, M_l33_MutexInductive_L2_B, tapply_eq ht F hst hj]
    by_cases hp : holdsF s (t.Ops[n]'(by omega)).Pre = true
    · rw [if_pos hp, ob2_some, erM]
      cases sm with
      | true => rw [Bool.not_true, sel_ff]; exact ih
      | false =>
        have ha : Alive t R s := alive_iff.1 (by rw [← Bool.not_eq_false', ← hsm])
        have hst' := next_state F.good hst hom
        have hl := (stateF_st hst').len
        have hv := F.vlen
        have ha' := alive_iff.2 (alive_next F h.sy h.closed (stateF_st hst) (stateF_st hst') ha hom hp)
        rw [Bool.not_false, sel_tt, dead_eq F.sz h.rk h.sy _ (by show _ ≤ _; omega), ob1_some, ha', Bool.not_true, Bool.and_false, sel_ff]
        exact ih
    · rw [if_neg hp, ob2_some, erM]
      exact ih
theorem ind3 {t : GTask} (ht : ShT t) (F : Fit3 t) {R : List (List Bool)} (h : MxR t R) : ∀ (r : List (List Int)) (n : Nat), (∀ s ∈ r, stateF t.Vars s = true) → Rg (M_l33_MutexInductive_L3_B t (ngF t R) (allF t) (tbl t R)) (M_l33_MutexInductive_L3_E t (ngF t R) (allF t) (tbl t R)) r n () = some true
  | [], n, _ => rfl
  | s :: r, n, hr => by
    have hst := hr s (List.mem_cons_self ..)
    have hs := stateF_st hst
    have hl := hs.len
    have hv := F.vlen
    have ho := F.ops
    have hng : (ngF t R).length ≤ 1000000 := by rw [ngF, List.length_map]; exact openF_len F.sz R
    have ih := ind3 ht F h r (n + 1) fun x hx => hr x (List.mem_cons_of_mem _ hx)
    have e1 := M_l33_MutexInductive_L1_eq s (ngF t R) false (by omega)
    rw [rg_any (q := fun n => holdsF s n.1), Bool.false_or, dead_any h.sy hs] at e1
    · have e2 := ind2 ht F h hst rfl t.Ops.length 0 (by omega)
      rw [show ((0 : Nat) : Int) = 0 from rfl] at e2
      rw [Rg, M_l33_MutexInductive_L3_B, ixv, e1, M_l33_MutexInductive_L1_E, ob1_some, dead_eq F.sz h.rk h.sy s (by show _ ≤ _; omega), ob1_some, hst, Bool.true_and]
      rw [show ((!okF t R (stG s 0)) == !okF t R (stG s 0)) = true from by simp, Bool.not_true, sel_ff, M_l33_MutexInductive_L2_eq t _ s (tbl t R) (m := t.Ops.length) (by rw [List.length_map]) (by omega), e2, ob1_some, osum_inl]
      exact ih
    · intro n hn i v rc
      have h2 := (ng_two n hn)
      rw [M_l33_MutexInductive_L1_B, ixv, tholds_eq n.1 s (by show _ ≤ _; omega)]
      cases v <;> rfl
where
  ng_two {t : GTask} {R : List (List Bool)} (n : Nogood) (hn : n ∈ ngF t R) : n.1.length ≤ 2 := by
    obtain ⟨p, hp, rfl⟩ := List.mem_map.1 hn
    obtain ⟨a, b, hs, rfl, -⟩ := open_mem.1 hp
    exact hs.sh
theorem inductive_true (g : Nat) (hg : 1000000 ≤ g) (t : GTask) (ht : ShT t) : M_l33_MutexInductive g t = some true := by
  rw [M_l33_MutexInductive]
  refine law_head ht g hg fun F => ?_
  obtain ⟨R, h1, h2, -⟩ := new_eq F ht g hg (Q := fun _ => True) (fun _ _ _ _ _ _ _ _ => trivial) (fun _ _ _ _ => trivial)
  have hal := allF_len t F.small
  have e := ind3 ht F h2 (allF t) 0 fun s hs => (allF_mem t s).1 hs
  rw [show ((0 : Nat) : Int) = 0 from rfl] at e
  rw [h1, ob2_some, erM, nogoods_eq F.sz h2.rk, ob1_some, states_eq t F.small, ob1_some, opM, M_l33_MutexInductive_L3_eq _ _ _ _ (by omega), e]
end Go.Proofs.YtinnphmnhmdcgaaGreat.Am
/- Opening arguments: slices of numbers, of facts, of nogoods, a certificate. -/
namespace Go.Proofs.YtinnphmnhmdcgaaGreat
open Go.RowKit Go.ChangeShapes Go.WideShapes Go.Deep Go.Joins

def I64 (x : Int) : Prop := -9223372036854775808 ≤ x ∧ x ≤ 9223372036854775807
theorem I64.of {x : Int} (h : (Lit.int .i64 x).wf = true) : I64 x := by
  have := bounds_i64 h
  exact this

section
variable {H : Type} {enc : TypeId × Value → H} {P : Program} {w : World} {base : Nat} {spare : Nat → Bool} {held : Bool}

/-- within the form's reach -/
def Sized (P : Program) (t : TypeId) (d : DataW H) : Prop := ∀ n ∈ d.weights P t, n ≤ reachBytes
theorem sized_arg {ts : List TypeId} {ds : List (DataW H)} (h : (DataW.weightsEach P ts ds).all (· ≤ reachBytes) = true) {j : Nat} {t : TypeId} {d : DataW H} (ht : ts[j]? = some t) (hd : ds[j]? = some d) : Sized P t d :=
  fun n hn => of_decide_eq_true (List.all_eq_true.1 h n (DataW.weights_mem_each ht hd n hn))
theorem sized_field {t : TypeId} {fs : Array Field} {parts : List (DataW H)} (h : Sized P t (.agg parts)) (hu : P.underlying t = some (.struct fs)) {j : Nat} {f : Field} {d : DataW H} (hf : fs[j]? = some f) (hd : parts[j]? = some d) : Sized P f.type d :=
  fun n hn => h n (by
    simp only [DataW.weights, hu]
    exact DataW.weights_mem_each (j := j) (by simp [List.getElem?_map, hf]) hd n hn)
theorem weightsAll_mem {e : TypeId} : ∀ {l : List (DataW H)} {d : DataW H}, d ∈ l → ∀ n ∈ d.weights P e, n ∈ DataW.weightsAll P e l
  | x :: l, d, hd, n, hn => by
    simp only [DataW.weightsAll, List.mem_append]
    rcases List.mem_cons.1 hd with rfl | h
    · exact Or.inl hn
    · exact Or.inr (weightsAll_mem h n hn)
theorem sized_elem {t e : TypeId} {elems sp : List (DataW H)} (h : Sized P t (.slice elems sp)) (hu : P.underlying t = some (.slice e)) {d : DataW H} (hd : d ∈ elems) : Sized P e d :=
  fun n hn => h n (by
    simp only [DataW.weights, hu, List.mem_cons, List.mem_append]
    exact Or.inr (Or.inl (weightsAll_mem hd n hn)))
theorem sized_len {t e : TypeId} {elems sp : List (DataW H)} (h : Sized P t (.slice elems sp)) (hu : P.underlying t = some (.slice e)) : elems.length * P.bytesOf e ≤ 140737488355328 := by
  have h1 := h ((elems.length + sp.length) * P.bytesOf e) (by simp [DataW.weights, hu])
  have h2 : elems.length * P.bytesOf e ≤ (elems.length + sp.length) * P.bytesOf e := Nat.mul_le_mul_right _ (by omega)
  have h3 : reachBytes ≤ 140737488355328 := by decide
  omega

end

theorem spot_of_cell {w : World} {p : Addr} {v : Value} (h : w.cell? p = some v) : p.spot = none := by
  unfold World.cell? at h
  split at h
  · split at h
    · cases h
    · rename_i hs; simpa using hs
  · cases h
theorem addr_of_cell {w : World} {a : Addr} {k : Nat} {v : Value} (h0 : ∃ u, w.cell? (a.add 0) = some u) (h : w.cell? (a.add k) = some v) : a = ⟨a.block, a.off, none⟩ ∧ w.cell? ⟨a.block, a.off + k, none⟩ = some v := by
  obtain ⟨u, hu⟩ := h0
  have hs := spot_of_cell hu
  obtain ⟨b, off, sp⟩ := a
  simp [Addr.add] at hs
  subst hs
  refine ⟨rfl, ?_⟩
  rw [← h]
  congr 1
  unfold Addr.add
  split
  · subst k; rfl
  · rfl

theorem list_of {α : Type} (n : Nat) (R : Nat → α → Prop) (h : ∀ i, i < n → ∃ x, R i x) : ∃ l : List α, l.length = n ∧ ∀ k x, l[k]? = some x → R k x := by
  induction n with
  | zero => exact ⟨[], rfl, fun k x hx => by simp at hx⟩
  | succ n ih =>
    obtain ⟨l, hl, hr⟩ := ih (fun i hi => h i (by omega))
    obtain ⟨x, hx⟩ := h n (by omega)
    refine ⟨l ++ [x], by simp [hl], fun k y hy => ?_⟩
    by_cases hk : k < n
    · rw [List.getElem?_append_left (by omega)] at hy
      exact hr k y hy
    · rw [List.getElem?_append_right (by omega)] at hy
      have hk' : k - l.length = 0 := by
        have := (List.getElem?_eq_some_iff.1 hy).1
        simp at this
        omega
      rw [hk'] at hy
      simp at hy
      subst hy
      obtain rfl : k = n := by omega
      exact hx

variable {H : Type} {enc : TypeId × Value → H} {w : World} {base : Nat} {spare : Nat → Bool} {held : Bool}
end Go.Proofs.YtinnphmnhmdcgaaGreat
/- Opening arguments for the abstract machine: readers that compose. -/
namespace Go.Proofs.YtinnphmnhmdcgaaGreat.Am
open Go.RowKit Go.ChangeShapes Go.WideShapes Go.Deep Go.Joins

/-- nothing is owned at the start -/
abbrev mZ : MM := mO (fun _ => False)
theorem noZ (b : Nat) : ¬ Owned nov mZ b := fun h => owned_nov.1 h

section
variable {H : Type} {enc : TypeId × Value → H} {P : Program} {w : World} {base : Nat} {spare : Nat → Bool} {held : Bool}
/-- cells that stand for the values -/
def CellsRv (w : World) (es : List AV) (cs : List Value) : Prop := es.length = cs.length ∧ (∀ (j : Nat) (y : AV) (u : Value), es[j]? = some y → cs[j]? = some u → RV w nov mZ y u ∧ u.oneCell' = true) ∧ ∀ y ∈ es, Fr y
/-- data of type t read as an α -/
def Opens (enc : TypeId × Value → H) (P : Program) (w : World) (base : Nat) (spare : Nat → Bool) (held : Bool) (t : TypeId) {α : Type} (en : α → List AV) (R : α → Prop) : Prop :=
  ∀ (fuel : Nat) (cs : List Value) (x : DataW H × List MemPlace), DataW.trod enc P w base spare held fuel t cs = some x → Sized P t x.1 → ∃ a, R a ∧ CellsRv w (en a) cs

theorem cells_one1 {y : AV} {u : Value} (h : RV w nov mZ y u) (h1 : u.oneCell' = true) (hf : Fr y) : CellsRv w [y] [u] := by
  refine ⟨rfl, fun j z v hz hv => ?_, fun z hz => by simp at hz; subst hz; exact hf⟩
  cases j with
  | zero => simp at hz hv; subst hz hv; exact ⟨h, h1⟩
  | succ j => simp at hz
theorem opens_int {t : TypeId} {k : IntKind} (ht : P.underlying t = some (.int k)) : Opens enc P w base spare held t (fun z : Int => [.c (.int k z)]) (fun z => (Lit.int k z).wf = true) := by
  intro fuel cs x h _
  obtain ⟨z, rfl, _, wz⟩ := DataW.trod_int ht h
  exact ⟨z, wz, cells_one1 (.c _) rfl (.c _)⟩
theorem opens_slice {t e : TypeId} {α : Type} {en : α → List AV} {R : α → Prop} {sz by_ : Nat} (ht : P.underlying t = some (.slice e)) (hc : P.cellsOf e = sz) (hb : P.bytesOf e = by_) (hby : 0 < by_) (hsz : 0 < sz) (he : Opens enc P w base spare held e en R) :
    Opens enc P w base spare held t (fun l : List α => [.sl sz (l.map en)]) (fun l => l.length * by_ ≤ 140737488355328 ∧ ∀ x ∈ l, R x) := by
  intro fuel cs x h hs
  rcases open_slice ht h with ⟨rfl, _⟩ | ⟨a, len, cap, m, n, D, Pl, rfl, _, hl, hm, hmm, rfl, hi⟩
  · refine ⟨[], ⟨by simp, by simp⟩, cells_one1 ?_ rfl (.sl (fun e he => by cases he))⟩
    exact RV.sl (l := []) (b := 0) (off := 0) (f := fun _ _ => undef) (fun h => absurd rfl h) (Nat.zero_le _) (by simp) (fun k e h => by simp at h) (fun k j e x h => by simp at h) (fun k j e x h => by simp at h) (fun e he => by cases he)
  · have hlen := sized_len hs ht
    rw [hb] at hlen
    simp only [List.length_map, List.length_range] at hlen
    have hml : len ≤ m := by rw [hmm]; split <;> omega
    have hcell : ∀ i, i < len → ∃ z : α, R z ∧ ∃ cs', CellsRv w (en z) cs' ∧ cs'.length = sz ∧ ∀ j, j < sz → w.cell? (a.add (i * sz + j)) = cs'[j]? := by
      intro i hi'
      obtain ⟨cs', hcc, ht'⟩ := hi i (by omega)
      rw [hc] at hcc
      obtain ⟨z, hz, hcr⟩ := he n cs' _ ht' (sized_elem hs ht (List.mem_map.2 ⟨i, by simpa using hi', rfl⟩))
      obtain ⟨_, hcl', hat⟩ := World.cells?_some hcc
      exact ⟨z, hz, cs', hcr, hcl', fun j hj => by rw [← hat j hj, Go.Deep.add_add]⟩
    obtain ⟨l, hl', hat⟩ := list_of len _ hcell
    have hR : ∀ x ∈ l, R x := fun x hx => by
      obtain ⟨k, hk⟩ := List.getElem?_of_mem hx
      exact (hat k x hk).1
    have hfr : FrL (l.map en) := by
      intro e he
      obtain ⟨x, hx, rfl⟩ := List.mem_map.1 he
      obtain ⟨k, hk⟩ := List.getElem?_of_mem hx
      obtain ⟨_, cs', hcr, _⟩ := hat k x hk
      exact hcr.2.2
    refine ⟨l, ⟨by rw [hl']; exact hlen, hR⟩, cells_one1 ?_ rfl (.sl hfr)⟩
    have key : ∀ (k j : Nat) (e : List AV) (y : AV), (l.map en)[k]? = some e → e[j]? = some y → e.length = sz ∧ ∃ u, w.cell? ⟨a.block, a.off + (k * sz + j), none⟩ = some u ∧ u.oneCell' = true ∧ RV w nov mZ y u ∧ a = ⟨a.block, a.off, none⟩ ∧ a.block < w.heap.size := by
      intro k j e y hk hj
      rw [List.getElem?_map] at hk
      cases hx : l[k]? with
      | none => rw [hx] at hk; cases hk
      | some z =>
        rw [hx] at hk
        simp at hk
        subst hk
        obtain ⟨_, cs', ⟨c1, c2, _⟩, c4, c5⟩ := hat k z hx
        have hjl : j < sz := by rw [← c4, ← c1]; exact (List.getElem?_eq_some_iff.1 hj).1
        have hcj := c5 j hjl
        have hget : cs'[j]? = some (cs'[j]'(by omega)) := List.getElem?_eq_getElem _
        rw [hget] at hcj
        obtain ⟨r1, r2⟩ := c2 j y _ hj hget
        have h0 : 0 < len := by have := (List.getElem?_eq_some_iff.1 hx).1; omega
        obtain ⟨_, _, cs0, ⟨_, _, _⟩, d4, d5⟩ := hcell 0 h0
        have hz0 := d5 0 hsz
        rw [List.getElem?_eq_getElem (by omega)] at hz0
        obtain ⟨e1, e2⟩ := addr_of_cell ⟨_, by simpa using hz0⟩ hcj
        exact ⟨by rw [c1, c4], _, e2, r2, r1, e1, lt_of_cell (p := ⟨a.block, a.off + (k * sz + j), none⟩) e2⟩
    have hlen2 : (l.map en).length = len := by simp [hl']
    have := RV.sl (w := w) (vs := nov) (m := mZ) (sz := sz) (l := l.map en) (A := some a) (cap := cap) (b := a.block) (off := a.off) (f := fun k j => (w.cell? ⟨a.block, a.off + (k * sz + j), none⟩).getD undef)
      (fun hne => ?_) (by omega) (by rw [hlen2]; exact Nat.le_trans (Nat.le_mul_of_pos_right _ hby) hlen) (fun k e hk => ?_) (fun k j e y hk hj => ?_) (fun k j e y hk hj => ?_) hfr
    · rw [hlen2] at this
      exact this
    · have h0 : 0 < (l.map en).length := List.length_pos_iff.2 hne
      have hk := List.getElem?_eq_getElem h0
      obtain ⟨x0, hx0, hx0'⟩ : ∃ x0, l[0]? = some x0 ∧ (l.map en)[0] = en x0 := by
        have h1 : 0 < l.length := by simpa using h0
        exact ⟨l[0], List.getElem?_eq_getElem h1, by simp⟩
      obtain ⟨_, cs', ⟨c1, _, _⟩, c4, _⟩ := hat 0 x0 hx0
      have hel : 0 < ((l.map en)[0]).length := by rw [hx0', c1, c4]; exact hsz
      obtain ⟨_, _, _, _, _, q1, q2⟩ := key 0 0 _ _ hk (List.getElem?_eq_getElem hel)
      exact ⟨by rw [← q1], noZ _, q2⟩
    · rw [List.getElem?_map] at hk
      cases hx : l[k]? with
      | none => rw [hx] at hk; cases hk
      | some z =>
        rw [hx] at hk
        simp at hk
        subst hk
        obtain ⟨_, cs', ⟨c1, _, _⟩, c4, _⟩ := hat k z hx
        rw [c1, c4]
    · obtain ⟨_, u, q1, q2, _⟩ := key k j e y hk hj
      rw [q1]
      exact ⟨rfl, q2⟩
    · obtain ⟨_, u, q1, _, q3, _⟩ := key k j e y hk hj
      rw [q1]
      exact q3

/-- fields from one on -/
def OpensF (enc : TypeId × Value → H) (P : Program) (w : World) (base : Nat) (spare : Nat → Bool) (held : Bool) (fs : List Field) (off tot : Nat) {α : Type} (en : α → List AV) (R : α → Prop) : Prop :=
  ∀ (fuel : Nat) (cs : List Value) (xs : List (DataW H × List MemPlace)), cs.length = tot → xs.length = fs.length → (∀ (i : Nat) (f : Field), fs[i]? = some f → DataW.trod enc P w base spare held fuel f.type ((cs.drop f.offset).take (P.cellsOf f.type)) = xs[i]?) →
    (∀ (i : Nat) (f : Field) (x : DataW H × List MemPlace), fs[i]? = some f → xs[i]? = some x → Sized P f.type x.1) → ∃ a, R a ∧ CellsRv w (en a) (cs.drop off)
theorem cells_append {a b : List AV} {xs ys : List Value} (h1 : CellsRv w a xs) (h2 : CellsRv w b ys) : CellsRv w (a ++ b) (xs ++ ys) := by
  refine ⟨by rw [List.length_append, List.length_append, h1.1, h2.1], fun j y u hy hu => ?_, fun y hy => ?_⟩
  · rcases Nat.lt_or_ge j a.length with hlt | hge
    · rw [List.getElem?_append_left hlt] at hy
      rw [List.getElem?_append_left (by rw [← h1.1]; exact hlt)] at hu
      exact h1.2.1 j y u hy hu
    · rw [List.getElem?_append_right hge] at hy
      rw [List.getElem?_append_right (by rw [← h1.1]; exact hge)] at hu
      rw [h1.1] at hy
      exact h2.2.1 _ y u hy hu
  · rcases List.mem_append.1 hy with h | h
    · exact h1.2.2 y h
    · exact h2.2.2 y h
theorem opensF_last {f : Field} {off tot : Nat} {α : Type} {en : α → List AV} {R : α → Prop} (ho : f.offset = off) (htot : off + P.cellsOf f.type = tot) (h : Opens enc P w base spare held f.type en R) : OpensF enc P w base spare held [f] off tot en R := by
  intro fuel cs xs hcl hx ht hs
  obtain ⟨x, rfl⟩ := List.length_eq_one_iff.1 hx
  have h1 := ht 0 f rfl
  obtain ⟨a, ha, hc⟩ := h fuel _ x h1 (hs 0 f x rfl rfl)
  refine ⟨a, ha, ?_⟩
  rw [ho, List.take_of_length_le (by simp; omega)] at hc
  exact hc
theorem opensF_cons {f : Field} {fs : List Field} {off off' tot : Nat} {α β : Type} {en : α → List AV} {R : α → Prop} {en' : β → List AV} {R' : β → Prop} (ho : f.offset = off) (hoff : off + P.cellsOf f.type = off') (h : Opens enc P w base spare held f.type en R) (h' : OpensF enc P w base spare held fs off' tot en' R') :
    OpensF enc P w base spare held (f :: fs) off tot (fun p : α × β => en p.1 ++ en' p.2) (fun p => R p.1 ∧ R' p.2) := by
  intro fuel cs xs hcl hx ht hs
  cases xs with
  | nil => simp at hx
  | cons x xs =>
    obtain ⟨a, ha, hc⟩ := h fuel _ x (ht 0 f rfl) (hs 0 f x rfl rfl)
    obtain ⟨b, hb, hc'⟩ := h' fuel cs xs hcl (by simpa using hx) (fun i g hg => by simpa using ht (i + 1) g (by simpa using hg)) (fun i g y hg hy => hs (i + 1) g y (by simpa using hg) (by simpa using hy))
    refine ⟨(a, b), ⟨ha, hb⟩, ?_⟩
    rw [ho] at hc
    have : cs.drop off = (cs.drop off).take (P.cellsOf f.type) ++ cs.drop off' := by
      rw [← hoff, ← List.drop_drop, List.take_append_drop]
    rw [this]
    exact cells_append hc hc'
theorem opens_struct {t : TypeId} {fs : Array Field} {α : Type} {en : α → List AV} {R : α → Prop} (ht : P.underlying t = some (.struct fs)) (h : OpensF enc P w base spare held fs.toList 0 (P.cellsOf t) en R) : Opens enc P w base spare held t en R := by
  intro fuel cs x hx hs
  obtain ⟨xs, n, _, rfl, hcl, hxl, hf⟩ := DataW.trod_struct ht hx
  obtain ⟨a, ha, hc⟩ := h n cs xs hcl (by simpa using hxl) (fun i f hi => hf i f (by simpa using hi)) (fun i f y hi hy => sized_field hs ht (j := i) (by simpa using hi) (by simp [List.getElem?_map, hy]))
  exact ⟨a, ha, by simpa using hc⟩

/-- a struct that came in -/
theorem agg_rv {es : List AV} {us : Array Value} (h : CellsRv w es us.toList) : RV w nov mZ (.agg es) (.agg us) :=
  .agg (by rw [h.1]; simp) (fun j y u hy hu => (h.2.1 j y u hy (by simpa using hu)).1)
end
end Go.Proofs.YtinnphmnhmdcgaaGreat.Am
/- From a walk to a law's row: the arguments read behind the call as before, the result is true. -/
namespace Go.Proofs.YtinnphmnhmdcgaaGreat
open Go.RowKit Go.WideShapes Go.ChangeShapes Go.ChangeAt
section
variable {H : Type} {enc : TypeId × Value → H} {P : Program}
theorem post_of_below {f : Func} {s : ChangeSpec} {apart fresh handsOn again : Bool} {W W' : World} {args : Array Value} {v : Value} {ds gs : List (DataW H)} {before pa pv : List MemPlace}
    (hW : DataW.Whole enc P f.params.toList s.vars apart W args.toList ds gs before)
    (hres : ∀ (b : Nat) (sp : Nat → Bool) (hd : Bool), DataW.TrodAll enc P W' b sp hd f.resultTypes.toList (v.resultList f.resultTypes.size) (s.fn H (ds ++ gs)).results [])
    (hargs : ∀ sp : Nat → Bool, (∀ p ∈ before, sp p.block = true) → DataW.TrodAll enc P W' 0 sp true f.params.toList args.toList (s.fn H (ds ++ gs)).args pa)
    (hvars : ∀ sp : Nat → Bool, (∀ p ∈ before, sp p.block = true) → DataW.TrodVars enc P W' sp s.vars (s.fn H (ds ++ gs)).vars pv)
    (hps : before = pa ++ pv) (hb : Below W.heap.size W W')
    (hok : ∀ (j : Nat) (t : TypeId) (r : Value), f.resultTypes[j]? = some t → (v.resultList f.resultTypes.size)[j]? = some r → Value.okWide P W' .any 0 t r) :
    s.post enc P f apart fresh handsOn again W args v W' := by
  have hlt : ∀ p ∈ before, p.block < W.heap.size := fun p hp => hW.lt p hp
  have hold : ∀ p ∈ before, (fun b => decide (b < W.heap.size)) p.block = true := fun p hp => by simpa using hlt p hp
  refine ⟨ds, gs, before, [], pa, pv, hW, hres _ _ _, hargs _ hold, hvars _ hold, World.keptBut_mono (fun p hp => ⟨hp, ?_⟩) (hb.frame (· ∈ before)), fun _ => ?_⟩
  · rw [hps, List.mem_append] at hp
    exact Or.inr hp
  · obtain ⟨_, _, _, _, _, hz, hn⟩ := hW
    refine ⟨hok, _, _, ([] ++ pa) ++ pv, ⟨[] ++ pa, pv, trodAll_append (hargs _ (fun _ _ => rfl)) (hres _ _ _), hvars _ (fun _ _ => rfl), rfl, ?_, ?_⟩, ?_⟩
    · intro b off hp
      have hin : MemPlace.cell b off ∈ before := by rw [hps]; simpa using hp
      rw [hb.frozen (hlt _ hin)]
      exact hz b off hin
    · intro ha
      have := hn ha
      rw [hps] at this
      simpa using this
    · intro p hp _
      rw [hps]
      simpa using hp

theorem trodAll_keep (hl : laidOutB P = true) {W W' : World} (hb : Below W.heap.size W W') (sp : Nat → Bool) (ts : List TypeId) : ∀ (vs : List Value) (ds : List (DataW H)) (ps : List MemPlace), (∀ t ∈ ts, P.readableRec t = true ∧ t < P.types.size) →
    DataW.TrodAll enc P W 0 (fun _ => true) true ts vs ds ps → (∀ x ∈ ps, x.block < W.heap.size) → (∀ x ∈ ps, sp x.block = true) → DataW.TrodAll enc P W' 0 sp true ts vs ds ps := by
  induction ts with
  | nil =>
    intro vs ds ps _ h _ _
    obtain ⟨rfl, rfl, rfl⟩ := trodAll_nil h
    exact trodAll_mk0
  | cons t ts ih =>
    intro vs ds ps hts h hlt hsp
    obtain ⟨v0, vs0, d0, ds0, p0, q0, rfl, rfl, rfl, h0, r0⟩ := trodAll_cons h
    obtain ⟨hr, hrow⟩ := hts t (by simp)
    exact trodAll_cons_mk (WideElems.Trod_stays hl hr hrow h0 (fun x hx => hb.same (hlt x (by simp [hx]))) (fun x hx => hsp x (by simp [hx])))
      (ih _ _ _ (fun t ht => hts t (by simp [ht])) r0 (fun x hx => hlt x (by simp [hx])) (fun x hx => hsp x (by simp [hx])))

/-- A LAW: it returned true, nothing that was there has turned. -/
theorem law_post (hl : laidOutB P = true) {f : Func} {s : ChangeSpec} {T : TypeId} {W W' : World} {args : Array Value} {ds : List (DataW H)} {before : List MemPlace}
    (hvars : s.vars = []) (hrt : f.resultTypes = #[T]) (hT : P.underlying T = some .bool) (hts : f.params.toList.all (fun t => P.readableRec t && decide (t < P.types.size)) = true)
    (hW : DataW.Whole enc P f.params.toList s.vars false W args.toList ds [] before) (hA : DataW.TrodAll enc P W 0 (fun _ => true) true f.params.toList args.toList ds before)
    (e1 : (s.fn H (ds ++ [])).results = [.lit (.bool true)]) (e2 : (s.fn H (ds ++ [])).args = ds) (e3 : (s.fn H (ds ++ [])).vars = []) (hb : Below W.heap.size W W') :
    s.post enc P f false true false false W args (.bool true) W' := by
  have hlt : ∀ x ∈ before, x.block < W.heap.size := fun x hx => hW.lt x hx
  refine post_of_below (pa := before) (pv := []) hW ?_ ?_ ?_ (by simp) hb ?_
  · intro b sp hd
    rw [e1, hrt]
    exact trodAll_cons_mk (shut_bool hT true) trodAll_mk0
  · intro sp hsp
    rw [e2]
    exact trodAll_keep hl hb sp _ _ _ _ (fun t ht => by simpa using List.all_eq_true.1 hts t ht) hA hlt hsp
  · intro sp hsp
    rw [e3, hvars]
    rfl
  · exact ok_one hrt rfl (okWide_bool_mk hT true)
end
end Go.Proofs.YtinnphmnhmdcgaaGreat
/- Readers of the arguments of the laws about tasks. -/
namespace Go.Proofs.YtinnphmnhmdcgaaGreat.Am
open Go.RowKit Go.ChangeShapes Go.WideShapes Go.Deep Go.Joins
section
variable {H : Type} {enc : TypeId × Value → H} {w : World} {base : Nat} {spare : Nat → Bool} {held : Bool}
theorem opens_conv {P : Program} {t : TypeId} {α β : Type} {en : α → List AV} {en2 : β → List AV} {R : α → Prop} {R2 : β → Prop} (f : α → β) (h : Opens enc P w base spare held t en R) (he : ∀ a, en2 (f a) = en a) (hR : ∀ a, R a → R2 (f a)) : Opens enc P w base spare held t en2 R2 := by
  intro fuel cs x hx hs
  obtain ⟨a, ha, hc⟩ := h fuel cs x hx hs
  exact ⟨f a, hR a ha, by rw [he]; exact hc⟩
theorem opens_str2 {P : Program} {t : TypeId} (ht : P.underlying t = some .string) : Opens enc P w base spare held t (fun s : ByteArray => [.c (.string s)]) (fun s => s.size ≤ 140737488355328) := by
  intro fuel cs x h hsz
  obtain ⟨s, rfl, rfl, -⟩ := DataW.trod_string ht h
  refine ⟨s, ?_, cells_one1 (.c _) rfl (.c _)⟩
  have h1 : s.data.toList.length ≤ 140737488355328 := Nat.le_trans (hsz s.data.toList.length (List.mem_singleton.2 rfl)) (by decide)
  rw [Array.length_toList] at h1
  exact h1
abbrev I64F (p : Fact) : Prop := (Lit.int .i64 p.1).wf = true ∧ (Lit.int .i64 p.2).wf = true
abbrev FactsR (l : List Fact) : Prop := l.length * 16 ≤ 140737488355328 ∧ ∀ p ∈ l, I64F p
abbrev EffR (e : GEffect) : Prop := FactsR e.When
abbrev OpR (o : GOp) : Prop := o.Name.size ≤ 140737488355328 ∧ FactsR o.Pre ∧ o.Effs.length * 40 ≤ 140737488355328 ∧ ∀ e ∈ o.Effs, EffR e
abbrev IntsR (l : List Int) : Prop := l.length * 8 ≤ 140737488355328 ∧ ∀ z ∈ l, (Lit.int .i64 z).wf = true
abbrev TaskR (t : GTask) : Prop := IntsR t.Vars ∧ IntsR t.Init ∧ FactsR t.Goal ∧ t.Ops.length * 72 ≤ 140737488355328 ∧ ∀ o ∈ t.Ops, OpR o
set_option maxRecDepth 100000 in
theorem oFact : Opens enc Tryz.prog w base spare held 39 cF I64F :=
  opens_struct Tryz.underlying39 (opensF_cons (off' := 1) rfl (by kernel_rfl) (opens_int Tryz.underlying3) (opensF_last rfl (by kernel_rfl) (opens_int Tryz.underlying3)))
set_option maxRecDepth 100000 in
theorem oFacts : Opens enc Tryz.prog w base spare held 23 (fun l : List Fact => [.sl 2 (l.map cF)]) FactsR :=
  opens_slice Tryz.underlying23 (by kernel_rfl) (by kernel_rfl) (by decide) (by decide) oFact
set_option maxRecDepth 100000 in
theorem oInts : Opens enc Tryz.prog w base spare held 22 (fun l : List Int => [.sl 1 (l.map cI)]) IntsR :=
  opens_slice Tryz.underlying22 (by kernel_rfl) (by kernel_rfl) (by decide) (by decide) (opens_int Tryz.underlying3)
set_option maxRecDepth 100000 in
theorem oEff : Opens enc Tryz.prog w base spare held 76 cGEffect EffR :=
  opens_conv (fun p : List Fact × (Int × Int) => { When := p.1, Var := p.2.1, Val := p.2.2 : GEffect })
    (opens_struct Tryz.underlying76 (opensF_cons (off' := 1) (en := fun l : List Fact => [AV.sl 2 (l.map cF)]) (R := FactsR) (en' := fun z : Int × Int => [AV.c (.int .i64 z.1)] ++ [AV.c (.int .i64 z.2)]) (R' := fun z : Int × Int => (Lit.int .i64 z.1).wf = true ∧ (Lit.int .i64 z.2).wf = true) rfl (by kernel_rfl) oFacts
      (opensF_cons (off' := 2) (en := fun z : Int => [AV.c (.int .i64 z)]) (R := fun z : Int => (Lit.int .i64 z).wf = true) (en' := fun z : Int => [AV.c (.int .i64 z)]) (R' := fun z : Int => (Lit.int .i64 z).wf = true) rfl (by kernel_rfl) (opens_int Tryz.underlying3) (opensF_last rfl (by kernel_rfl) (opens_int Tryz.underlying3)))))
    (fun _ => rfl) (fun _ h => h.1)
set_option maxRecDepth 100000 in
theorem oOp : Opens enc Tryz.prog w base spare held 60 cGOp OpR :=
  opens_conv (fun p : ByteArray × (Int × (List Fact × List GEffect)) => { Name := p.1, Cost := p.2.1, Pre := p.2.2.1, Effs := p.2.2.2 : GOp })
    (opens_struct Tryz.underlying60 (opensF_cons (off' := 1) (en := fun s : ByteArray => [AV.c (.string s)]) (R := fun s => s.size ≤ 140737488355328) (en' := fun p : Int × (List Fact × List GEffect) => [AV.c (.int .i64 p.1)] ++ ([AV.sl 2 (p.2.1.map cF)] ++ [AV.sl 3 (p.2.2.map cGEffect)])) (R' := fun p : Int × (List Fact × List GEffect) => (Lit.int .i64 p.1).wf = true ∧ (FactsR p.2.1 ∧ (p.2.2.length * 40 ≤ 140737488355328 ∧ ∀ e ∈ p.2.2, EffR e))) rfl (by kernel_rfl) (opens_str2 Tryz.underlying9)
      (opensF_cons (off' := 2) (en := fun z : Int => [AV.c (.int .i64 z)]) (R := fun z : Int => (Lit.int .i64 z).wf = true) (en' := fun p : List Fact × List GEffect => [AV.sl 2 (p.1.map cF)] ++ [AV.sl 3 (p.2.map cGEffect)]) (R' := fun p : List Fact × List GEffect => FactsR p.1 ∧ (p.2.length * 40 ≤ 140737488355328 ∧ ∀ e ∈ p.2, EffR e)) rfl (by kernel_rfl) (opens_int Tryz.underlying3)
        (opensF_cons (off' := 3) (en := fun l : List Fact => [AV.sl 2 (l.map cF)]) (R := FactsR) (en' := fun l : List GEffect => [AV.sl 3 (l.map cGEffect)]) (R' := fun l : List GEffect => l.length * 40 ≤ 140737488355328 ∧ ∀ e ∈ l, EffR e) rfl (by kernel_rfl) oFacts
          (opensF_last rfl (by kernel_rfl) (opens_slice Tryz.underlying58 (by kernel_rfl) (by kernel_rfl) (by decide) (by decide) oEff))))))
    (fun _ => rfl) (fun _ h => ⟨h.1, h.2.2.1, h.2.2.2⟩)
set_option maxRecDepth 100000 in
theorem oTask : Opens enc Tryz.prog w base spare held 26 cGTask TaskR :=
  opens_conv (fun p : List Int × (List Int × (List Fact × List GOp)) => { Vars := p.1, Init := p.2.1, Goal := p.2.2.1, Ops := p.2.2.2 : GTask })
    (opens_struct Tryz.underlying26 (opensF_cons (off' := 1) (en := fun l : List Int => [AV.sl 1 (l.map cI)]) (R := IntsR) (en' := fun p : List Int × (List Fact × List GOp) => [AV.sl 1 (p.1.map cI)] ++ ([AV.sl 2 (p.2.1.map cF)] ++ [AV.sl 4 (p.2.2.map cGOp)])) (R' := fun p : List Int × (List Fact × List GOp) => IntsR p.1 ∧ (FactsR p.2.1 ∧ (p.2.2.length * 72 ≤ 140737488355328 ∧ ∀ o ∈ p.2.2, OpR o))) rfl (by kernel_rfl) oInts
      (opensF_cons (off' := 2) (en := fun l : List Int => [AV.sl 1 (l.map cI)]) (R := IntsR) (en' := fun p : List Fact × List GOp => [AV.sl 2 (p.1.map cF)] ++ [AV.sl 4 (p.2.map cGOp)]) (R' := fun p : List Fact × List GOp => FactsR p.1 ∧ (p.2.length * 72 ≤ 140737488355328 ∧ ∀ o ∈ p.2, OpR o)) rfl (by kernel_rfl) oInts
        (opensF_cons (off' := 3) (en := fun l : List Fact => [AV.sl 2 (l.map cF)]) (R := FactsR) (en' := fun l : List GOp => [AV.sl 4 (l.map cGOp)]) (R' := fun l : List GOp => l.length * 72 ≤ 140737488355328 ∧ ∀ o ∈ l, OpR o) rfl (by kernel_rfl) oFacts
          (opensF_last rfl (by kernel_rfl) (opens_slice Tryz.underlying24 (by kernel_rfl) (by kernel_rfl) (by decide) (by decide) oOp))))))
    (fun _ => rfl) (fun _ h => h)
/-- a struct argument -/
theorem arg_struct {P : Program} {t : TypeId} {fs : Array Field} {α : Type} {en : α → List AV} {R : α → Prop} {r : Reach} {b0 : Nat} {v : Value} {d : DataW H} {p : List MemPlace} (ht : P.underlying t = some (.struct fs)) (hv : Value.okWide P w r b0 t v) (ho : Opens enc P w base spare held t en R) (h : DataW.Trod enc P w base spare held t v d p) (hs : Sized P t d) :
    ∃ a, R a ∧ RV w nov mZ (.agg (en a)) v := by
  obtain ⟨cs, rfl, hsz⟩ := okWide_struct ht hv
  obtain ⟨fuel, hf⟩ := h
  obtain ⟨a, ha, hc⟩ := ho fuel _ _ hf hs
  exact ⟨a, ha, agg_rv hc⟩
end
theorem TaskR.sh {t : GTask} (h : TaskR t) : ShT t := by
  obtain ⟨⟨h1, -⟩, ⟨h2, -⟩, ⟨h3, -⟩, h4, h5⟩ := h
  refine ⟨?_, ?_, ?_, ?_, fun o ho => ?_⟩
  · show _ ≤ _; omega
  · show _ ≤ _; omega
  · show _ ≤ _; omega
  · show _ ≤ _; omega
  · obtain ⟨g1, ⟨g2, -⟩, g3, g4⟩ := h5 o ho
    refine ⟨by omega, ?_, ?_, fun e he => ?_⟩
    · show _ ≤ _; omega
    · show _ ≤ _; omega
    · have := (g4 e he).1
      show _ ≤ _; omega
theorem FactsR.sh {l : List Fact} (h : FactsR l) : Sh l := by have := h.1; show _ ≤ _; omega
theorem law_of {f : FuncId} {args : List AV} {w : World} {cargs : Array Value} (h : ACall cx f args (.c (.bool true))) (hs : cargs.size = args.length) (hr : ∀ (j : Nat) (x : AV) (v : Value), args[j]? = some x → cargs[j]? = some v → RV w nov (mO (fun _ => False)) x v) :
    Calls Tryz.prog f cargs w fun e w' => e = .returned (.bool true) ∧ Below w.heap.size w w' := by
  refine Calls.mono (h.2 w (fun _ => False) cargs trivial (Nat.zero_le _) (fun b hb => hb.elim) hs hr) ?_
  rintro e w' ⟨v, rfl, h1, h2, _⟩
  rw [rv_c h1]
  exact ⟨rfl, ⟨h2.os, h2.tape, h2.output, h2.size, fun b hb => h2.block b hb (fun h => h)⟩⟩
end Go.Proofs.YtinnphmnhmdcgaaGreat.Am
/- stratagemlaw33.MutexInductive returns true for every input. No condition beyond the row's own. -/
namespace Go.Proofs.YtinnphmnhmdcgaaGreat.rowInductive
open Go.ChangeShapes Go.WideShapes Go.ChangeAt Go.RowKit Am
theorem laidOut : laidOutB Tryz.prog = true := by kernel_rfl
set_option maxRecDepth 100000 in
theorem contract (H : Type) (enc : TypeId × Value → H) (W : World) (base : Nat) (args : Array Value) (ds gs : List (DataW H)) (before : List MemPlace)
    (hval : ∀ (j : Nat) t v, Tryz.f8.params[j]? = some t → args[j]? = some v → Value.okWide Tryz.prog W .any base t v)
    (hW : DataW.Whole enc Tryz.prog Tryz.f8.params.toList Rows.mutexInductiveSpec.vars false W args.toList ds gs before)
    (hsz : (DataW.weightsEach Tryz.prog (Tryz.f8.params.toList ++ (OpenSpec.ofChange Rows.mutexInductiveSpec).bare.plain.varTypes Tryz.prog) (ds ++ gs)).all (· ≤ reachBytes) = true) :
    Calls Tryz.prog 8 args W fun e W' => ∃ v, e = .returned v ∧ Rows.mutexInductiveSpec.post enc Tryz.prog Tryz.f8 false true false false W args v W' := by
  have hW' := hW
  obtain ⟨p, q, hA0, hV, rfl, hfz, hnd⟩ := hW
  have hA : DataW.TrodAll enc Tryz.prog W 0 (fun _ => true) true Tryz.f8.params.toList args.toList ds p := hA0
  rw [Tryz.params8] at hA hval
  obtain ⟨v0, vs0, d0, ds0, p0, q0, hargs, rfl, rfl, h0, r0⟩ := trodAll_cons hA
  obtain ⟨rfl, rfl, rfl⟩ := trodAll_nil r0
  obtain rfl : args = #[v0] := Array.ext' hargs
  obtain ⟨rfl, rfl⟩ := trodVars_none hV
  simp only [List.append_nil] at hW' hA0 hsz
  rw [Tryz.params8] at hsz
  obtain ⟨t, ht, k0⟩ := arg_struct Tryz.underlying26 (hval 0 26 v0 rfl rfl) oTask h0 (sized_arg hsz (j := 0) rfl rfl)
  refine (law_of (A_l33_MutexInductive 1000000000000000000 t (inductive_true _ (by decide) t ht.sh)) rfl (fun j x v hx hv => ?_)).mono fun e W' ⟨he, hb⟩ => ?_
  · match j, hx, hv with
    | 0, hx, hv => simp at hx hv; subst hx hv; exact k0
    | j + 1, hx, hv => simp at hx
  · subst he
    exact ⟨_, rfl, law_post laidOut rfl (by kernel_rfl) Tryz.underlying4 (by kernel_rfl) hW' hA0 rfl rfl rfl hb⟩
theorem own : ownKnob Tryz.prog.godebug = none := by kernel_rfl
theorem laid_met (os : Os) : laidMet Tryz.prog Rows.mutexInductiveRow.laid ((World.holding Tryz.prog os ⟨#[], #[], []⟩).forCall (fun _ _ => 0) ⟨#[], #[.agg #[.slice none 0 0, .slice none 0 0, .slice none 0 0, .slice none 0 0]], []⟩).memory :=
  laidMet_of_run' 8 (by kernel_rfl) (by kernel_rfl)
theorem reads (os : Os) {H : Type} (enc : TypeId × Value → H) : ∃ places, DataW.whole enc Tryz.prog ((World.holding Tryz.prog os ⟨#[], #[], []⟩).forCall (fun _ _ => 0) ⟨#[], #[.agg #[.slice none 0 0, .slice none 0 0, .slice none 0 0, .slice none 0 0]], []⟩).memory Tryz.f8.params.toList Rows.mutexInductiveSpec.vars false (#[.agg #[.slice none 0 0, .slice none 0 0, .slice none 0 0, .slice none 0 0]] : Array Value).toList 8 = some ([.agg [.nil, .nil, .nil, .nil]], [], places) :=
  ⟨[], by kernel_rfl⟩

set_option maxRecDepth 100000 in
theorem lifted (os : Os) (started : os.Started) (H : Type) (enc : TypeId × Value → H) (F : Stop.Interp) :
    ReturnsInHanded {} Tryz.checked os 8 .any ((OpenSpec.ofChange Rows.mutexInductiveSpec).preRow enc Tryz.prog Tryz.f8 Rows.mutexInductiveRow.domain false Rows.mutexInductiveRow.laid) (((OpenSpec.ofChange Rows.mutexInductiveSpec).at F).post enc Tryz.prog Tryz.f8 false true false false) := by
  obtain ⟨places, hx⟩ := reads os enc
  refine returnsInHanded_of_row (C := Tryz.checked) (s := OpenSpec.ofChange Rows.mutexInductiveSpec) own started (by kernel_rfl) Tryz.func8
    (witness_row_at (enc := enc) (C := Tryz.checked) false (World.holding Tryz.prog os ⟨#[], #[], []⟩) #[.agg #[.slice none 0 0, .slice none 0 0, .slice none 0 0, .slice none 0 0]] rfl (by kernel_rfl) (by kernel_rfl) (by kernel_rfl)
      (OpenSpec.preRow_of_cond 8 hx (by kernel_rfl) (fun k hk => by cases hk) (by kernel_rfl) (laid_met os))) ?_
  intro W base args ds gs before hval hW _ _ hsz _ _ _
  exact contract H enc W base args ds gs before hval hW hsz

/-- THE STATEMENT. -/
theorem said : Rows.MutexInductiveSaid :=
  OpenClaim.holds_of_cond 8 Tryz.f8 rfl rfl rfl rfl rfl rfl rfl ⟨rfl, rfl, rfl, rfl, rfl⟩ rfl rfl rfl rfl rfl (by kernel_rfl) Tryz.func8 (by kernel_rfl)
    (of_decide_eq_true (by kernel_rfl)) (by unfold Func.isWrapper; first | (rw [if_pos (by decide +kernel)]; kernel_rfl) | (rw [if_neg (by decide +kernel)]; exact ⟨rfl, rfl⟩))
    (fun os started H enc _ F => by rw [OpenClaim.pre_eq_preRow]; exact lifted os started H enc F)
end Go.Proofs.YtinnphmnhmdcgaaGreat.rowInductive
