/- stratagemlaw26.RegressCases returns true for every input. No condition beyond the row's own. -/
import Derived.Test.YteapjpgabdegnaaB2
import Derived.Test.YteapjpgabdegnaaB4
import Derived.Test.YteapjpgabdegnaaB3
import Derived.Test.YteapjpgabdegnaaB1
import Derived.Deep.Slices
import Derived.Deep.Fields
import Derived.ChangeSame
import Derived.SizedLaws
import Derived.Lib.SmallJoins
import Derived.Below
import Derived.OpenShut
import Derived.Carry
import Derived.Test.YteapjpgabdegnaaRows
import Derived.Deep.DeepHandedRow
import Derived.Lib.LaidTab
/- Models printed by my decompiler, and the proofs that the code computes them. -/
namespace Go.Proofs.Yteapjpgabdegnaa.Am
open Go.RowKit
theorem ci_XDBRef {p K : Prop} (k : K) (h : p := by first | rfl | exact ⟨rfl, rfl⟩ | exact BW.fr FrV.h | (refine BW.fr ?_; assumption) | (refine ⟨rfl, ?_⟩; (simp [cGTask, cI, cF, cGOp, cGEffect, cL_cF, take_len_map]; done)) | (refine RowK.same ?_ FrI.h; first | rfl | (simp [cGTask, cI, cF, cGOp, cGEffect, cL_cF, take_len_map]; done)) | (refine row_part1 ?_; (repeat (first | exact BWL.nil | exact bwll_nil | exact bw_c | exact BW.sl | exact BW.nil | exact bwll_same rfl FrI.h | refine BWL.cons ?_ ?_ | refine bwll_cons ?_ ?_ | (refine bw_own3 rfl rfl rfl FrI.h ?_ ?_ ?_) | exact BW.fr FrV.h | exact BW.fr (by assumption) | refine bw_agg ?_ | refine bw_clo ?_ | refine bw_ptr rfl rfl rfl ?_ | (refine bw_own rfl rfl rfl ?_ FrI.h ?_ ?_) | assumption | omega | rfl | (rw [List.length_map, ← List.length_append]; assumption) | (refine bwll_same ?_ FrI.h; (simp [cGTask, cI, cF, cGOp, cGEffect, cL_cF] <;> fail)) | (rw [List.map_set]; refine bwll_set (by first | rfl | omega | simp) ?_ ?_) | refine bwll_set (by first | rfl | omega | simp) ?_ ?_ | (rw [List.map_replicate]; refine bwll_rep ?_) | refine bwll_rep ?_ | (rw [List.map_append]; refine bwll_append ?_ ?_) | refine bwll_append ?_ ?_ | (simp [cGTask, cI, cF, cGOp, cGEffect, cL_cF, take_len_map] <;> fail) | (rw [List.drop_zero, List.take_of_length_le] <;> first | rfl | (simp [cGTask, cI, cF, cGOp, cGEffect, cL_cF] <;> fail)) | (simp; omega))); done) | ((repeat (first | exact BWL.nil | exact bwll_nil | exact bw_c | exact BW.sl | exact BW.nil | exact bwll_same rfl FrI.h | refine BWL.cons ?_ ?_ | refine bwll_cons ?_ ?_ | (refine bw_own3 rfl rfl rfl FrI.h ?_ ?_ ?_) | exact BW.fr FrV.h | exact BW.fr (by assumption) | refine bw_agg ?_ | refine bw_clo ?_ | refine bw_ptr rfl rfl rfl ?_ | (refine bw_own rfl rfl rfl ?_ FrI.h ?_ ?_) | assumption | omega | rfl | (rw [List.length_map, ← List.length_append]; assumption) | (refine bwll_same ?_ FrI.h; (simp [cGTask, cI, cF, cGOp, cGEffect, cL_cF] <;> fail)) | (rw [List.map_set]; refine bwll_set (by first | rfl | omega | simp) ?_ ?_) | refine bwll_set (by first | rfl | omega | simp) ?_ ?_ | (rw [List.map_replicate]; refine bwll_rep ?_) | refine bwll_rep ?_ | (rw [List.map_append]; refine bwll_append ?_ ?_) | refine bwll_append ?_ ?_ | (simp [cGTask, cI, cF, cGOp, cGEffect, cL_cF, take_len_map] <;> fail) | (rw [List.drop_zero, List.take_of_length_le] <;> first | rfl | (simp [cGTask, cI, cF, cGOp, cGEffect, cL_cF] <;> fail)) | (simp; omega))); done) | (simp [cGTask, cI, cF, cGOp, cGEffect, cL_cF, take_len_map]; done)) : p ∧ K := ⟨h, k⟩
theorem pr_XDBRef {p K : Prop} (k : K) (h : p := by first | assumption | exact Int.natCast_nonneg _ | exact Nat.le_refl _ | exact Nat.zero_le _ | omega | (simp; done) | (simp; omega)) : p ∧ K := ⟨h, k⟩
theorem pl_XDBRef {p K : Prop} (k : K) (h : p := by first | rfl | exact List.length_map _ | (simp; done) | (simp; omega)) : p ∧ K := ⟨h, k⟩
theorem pe_XDBRef {p K : Prop} (k : K) (h : p := by first | omega | (simp; omega) | (simp only [List.length_map, List.length_cons, List.length_nil, List.length_append]; omega)) : p ∧ K := ⟨h, k⟩
theorem dr_XDBRef {b : Bool} {p K : Prop} (k : K) (h : b = true → p := by intro h; first | (cases h; done) | exact ⟨by kernel_rfl, by kernel_rfl⟩) : (b = true → p) ∧ K := ⟨h, k⟩
theorem cl_XDBRef {C : Cx} {n : Nat} {o : Oper} {τ : Nat → AV} {η : Nat → Ent} {f : FuncId} {os : Array Operand} {ats : Array TypeId} {r : AV} {args : List AV} {K : Foot → Prop} (ho : o.op = .call ⟨.value (.func f), os, ats⟩) (hc : ACall C f args r) (k : K ⟨r, [], []⟩)
    (hd : InB n o.dst := by exact Nat.le_of_ble_eq_true rfl) (hargs : os.toList.map (evA τ) = args := by first | rfl | (simp [cGTask, cI, cF, cGOp, cGEffect, cL_cF]; done)) (hfr : frs args := by repeat (first | exact trivial | exact fr1_eA _ | exact fr0_eA _ | exact fr1_fr (by assumption) | exact FrV.h | refine And.intro ?_ ?_)) (hr : fr1 r := by repeat (first | exact trivial | exact fr1_eA _ | exact fr0_eA _ | exact fr1_fr (by assumption) | exact FrV.h | refine And.intro ?_ ?_)) : ∃ f : Foot, LF C n o τ η f ∧ K f := ⟨_, lf_call ho hd hargs hc hfr hr, k⟩
theorem clb_XDBRef {C : Cx} {n : Nat} {o : Oper} {τ : Nat → AV} {η : Nat → Ent} {f : FuncId} {os : Array Operand} {ats : Array TypeId} {r : AV} {xs ys : List AV} {K : Foot → Prop} (bs : List Nat) (ho : o.op = .call ⟨.value (.func f), os, ats⟩) (hargs : os.toList.map (evA τ) = xs) (hc : ACall C f ys r) (k : K ⟨r, [], bs⟩)
    (hd : InB n o.dst := by exact Nat.le_of_ble_eq_true rfl) (hb : BWL η (dropB η bs) xs ys := by repeat (first | exact BWL.nil | exact bwll_nil | exact bw_c | exact BW.sl | exact BW.nil | exact bwll_same rfl FrI.h | refine BWL.cons ?_ ?_ | refine bwll_cons ?_ ?_ | (refine bw_own3 rfl rfl rfl FrI.h ?_ ?_ ?_) | exact BW.fr FrV.h | exact BW.fr (by assumption) | refine bw_agg ?_ | refine bw_clo ?_ | refine bw_ptr rfl rfl rfl ?_ | (refine bw_own rfl rfl rfl ?_ FrI.h ?_ ?_) | assumption | omega | rfl | (rw [List.length_map, ← List.length_append]; assumption) | (refine bwll_same ?_ FrI.h; (simp [cGTask, cI, cF, cGOp, cGEffect, cL_cF] <;> fail)) | (rw [List.map_set]; refine bwll_set (by first | rfl | omega | simp) ?_ ?_) | refine bwll_set (by first | rfl | omega | simp) ?_ ?_ | (rw [List.map_replicate]; refine bwll_rep ?_) | refine bwll_rep ?_ | (rw [List.map_append]; refine bwll_append ?_ ?_) | refine bwll_append ?_ ?_ | (simp [cGTask, cI, cF, cGOp, cGEffect, cL_cF, take_len_map] <;> fail) | (rw [List.drop_zero, List.take_of_length_le] <;> first | rfl | (simp [cGTask, cI, cF, cGOp, cGEffect, cL_cF] <;> fail)) | (simp; omega))) (hr : scal r := by repeat (first | exact trivial | exact scal0_eA _ | exact scal_eA _ | refine And.intro ?_ ?_)) : ∃ f : Foot, LF C n o τ η f ∧ K f := ⟨_, lf_callB bs ho hd hargs hb hc hr, k⟩
theorem clf_XDBRef {C : Cx} {n : Nat} {o : Oper} {τ : Nat → AV} {η : Nat → Ent} {f : FuncId} {os : Array Operand} {ats : Array TypeId} {r : AV} {xs ys : List AV} {K : Foot → Prop} (us : List (Nat × Ent)) (ho : o.op = .call ⟨.value (.func f), os, ats⟩) (hargs : os.toList.map (evA τ) = xs) (hc : ACall C f ys r) (k : K ⟨r, us, []⟩)
    (hus : allUs η us := by repeat (first | exact trivial | refine And.intro rfl ?_)) (hul : ltUs n us := by repeat (first | exact trivial | refine And.intro (Nat.le_of_ble_eq_true rfl) ?_)) (hd : InB n o.dst := by exact Nat.le_of_ble_eq_true rfl) (hb : BWL η (dropB η (us.map (·.1))) xs ys := by repeat (first | exact BWL.nil | exact bwll_nil | exact bw_c | exact BW.sl | exact BW.nil | exact bwll_same rfl FrI.h | refine BWL.cons ?_ ?_ | refine bwll_cons ?_ ?_ | (refine bw_own3 rfl rfl rfl FrI.h ?_ ?_ ?_) | exact BW.fr FrV.h | exact BW.fr (by assumption) | refine bw_agg ?_ | refine bw_clo ?_ | refine bw_ptr rfl rfl rfl ?_ | (refine bw_own rfl rfl rfl ?_ FrI.h ?_ ?_) | assumption | omega | rfl | (rw [List.length_map, ← List.length_append]; assumption) | (refine bwll_same ?_ FrI.h; (simp [cGTask, cI, cF, cGOp, cGEffect, cL_cF] <;> fail)) | (rw [List.map_set]; refine bwll_set (by first | rfl | omega | simp) ?_ ?_) | refine bwll_set (by first | rfl | omega | simp) ?_ ?_ | (rw [List.map_replicate]; refine bwll_rep ?_) | refine bwll_rep ?_ | (rw [List.map_append]; refine bwll_append ?_ ?_) | refine bwll_append ?_ ?_ | (simp [cGTask, cI, cF, cGOp, cGEffect, cL_cF, take_len_map] <;> fail) | (rw [List.drop_zero, List.take_of_length_le] <;> first | rfl | (simp [cGTask, cI, cF, cGOp, cGEffect, cL_cF] <;> fail)) | (simp; omega))) (hr : fr1 r := by repeat (first | exact trivial | exact fr1_eA _ | exact fr0_eA _ | exact fr1_fr (by assumption) | exact FrV.h | refine And.intro ?_ ?_)) : ∃ f : Foot, LF C n o τ η f ∧ K f := ⟨_, lf_callF us (allUs_at hus) (ltUs_at hul) ho hd hargs hb hc hr, k⟩
def M_stratagemref26_Unless_L1 (y47 : Fact) (y48 : Int) : Nat → Int → (List (List Fact)) → Option (List (List Fact))
  | 0, _, _ => none
  | k53 + 1, v51, v52 =>
    sel (decide (v51 < y48))
     (sel (v51 != y47.2)
       (grd ((v52.length + 1) * 24 ≤ 140737488355328) (M_stratagemref26_Unless_L1 y47 y48 k53 (IntKind.i64.wrap (v51 + 1)) (v52 ++ [[(y47.1, v51)]])))
       (M_stratagemref26_Unless_L1 y47 y48 k53 (IntKind.i64.wrap (v51 + 1)) v52))
     (some v52)
def M_stratagemref26_Unless_L2 (a0 : GTask) (a1 : List Fact) : Nat → Int → (List (List Fact)) → Option (List (List Fact))
  | 0, _, _ => none
  | k37 + 1, v35, v36 =>
    sel (decide (v35 < ((a1.map cF).length : Int)))
     (ob1 (ix a1 v35 (fun y47 =>
        ix a0.Vars y47.1 (fun y48 =>
         M_stratagemref26_Unless_L1 y47 y48 ((y48).toNat + 1) 0 v36)) : Option (List (List Fact)))
       (fun v45 => M_stratagemref26_Unless_L2 a0 a1 k37 (IntKind.i64.wrap (v35 + 1)) v45))
     (grd (v36.length ≤ 140737488355328) (some v36))
def M_stratagemref26_Unless (a0 : GTask) (a1 : List Fact) : Option (List (List Fact)) :=
  M_stratagemref26_Unless_L2 a0 a1 ((((a1.map cF).length : Int)).toNat + 1) 0 []
set_option maxHeartbeats 16000000 in
set_option maxRecDepth 100000 in
theorem A_stratagemref26_Unless (a0 : GTask) (a1 : List Fact) {r1 : List (List Fact)} (h : M_stratagemref26_Unless a0 a1 = some r1) : ACall cx 85 [.agg [.sl 1 (a0.Vars.map cI), .sl 1 (a0.Init.map cI), .sl 2 (a0.Goal.map cF), .sl 4 (a0.Ops.map cGOp)], .sl 2 (a1.map cF)] (.sl 1 (r1.map cL_cF)) := by
  refine acall_of Try.func85 rfl (by decide) rfl (Nat.le_of_ble_eq_true rfl) ?_; intro _; unfold M_stratagemref26_Unless at h; refine awp_seq ?_; refine awp_region ?_; intro _; refine dr_XDBRef ?_; refine awp_seq ?_; refine awp_region ?_; intro _; refine dr_XDBRef ?_; refine awp_seq ?_; refine awp_seq ?_; refine awp_region ?_; intro _; refine dr_XDBRef ?_; refine awp_block ?_; refine awp_loop (α := Nat × Int × (List (List Fact))) (fun x => mkS 39 [(2, .ptr 2 0 0 0), (5, .own 35 0 0 x.2.2.length), (9, .sl 2 (a1.map cF)), (10, .c (.int .i64 ((a1.map cF).length : Int))), (11, .c (.int .i64 x.2.1))] [(2, ⟨26, 4, true, [[.sl 1 (a0.Vars.map cI), .sl 1 (a0.Init.map cI), .sl 2 (a0.Goal.map cF), .sl 4 (a0.Ops.map cGOp)]]⟩), (35, ⟨23, 1, false, x.2.2.map cL_cF⟩)]) (fun x => M_stratagemref26_Unless_L2 a0 a1 x.1 x.2.1 x.2.2 = some r1) (fun x => x.1) ((((a1.map cF).length : Int)).toNat + 1, 0, []) h ?_ ?_
  · repeat (first | exact True.intro | refine ci_XDBRef ?_)
  · intro x1 h; intro _; obtain ⟨k37, m2, h⟩ := succ_of (f := fun n => M_stratagemref26_Unless_L2 a0 a1 n x1.2.1 x1.2.2) rfl h; replace h : M_stratagemref26_Unless_L2 a0 a1 (k37 + 1) x1.2.1 x1.2.2 = some r1 := h; rw [M_stratagemref26_Unless_L2] at h; refine awp_seq ?_; refine awp_region ?_; intro _; refine dr_XDBRef ?_; refine awp_seq ?_; refine awp_cond ?_; intro _; refine spl h (fun c3 h => ?_) (fun c3 h => ?_)
    · refine awp_skip ?_; obtain ⟨o4, h, hK5⟩ := ob1_ok h; refine awp_cut (α := List (List Fact)) (fun v45 => mkS 39 [(2, .ptr 2 0 0 0), (5, .own 35 0 0 v45.length), (9, .sl 2 (a1.map cF)), (10, .c (.int .i64 ((a1.map cF).length : Int))), (11, .c (.int .i64 x1.2.1))] [(2, ⟨26, 4, true, [[.sl 1 (a0.Vars.map cI), .sl 1 (a0.Init.map cI), .sl 2 (a0.Goal.map cF), .sl 4 (a0.Ops.map cGOp)]]⟩), (35, ⟨23, 1, false, v45.map cL_cF⟩)]) (fun v => o4 = v) ?_ ?_
      · refine awp_block ?_; refine awp_seq ?_; refine awp_region ?_; intro _; obtain ⟨y47, w6, q7, h⟩ := ix_ok h; refine Exists.intro (cF y47) (And.intro (map_at' w6) ?_); intro _; refine pr_XDBRef ?_; refine dr_XDBRef ?_; refine awp_seq ?_; refine awp_region ?_; intro _; obtain ⟨y48, w8, q9, h⟩ := ix_ok h; refine Exists.intro (cI y48) (And.intro (map_at' w8) ?_); intro _; refine pr_XDBRef ?_; refine dr_XDBRef ?_; refine awp_block ?_; refine awp_loop (α := Nat × Int × (List (List Fact))) (fun x => mkS 39 [(2, .ptr 2 0 0 0), (5, .own 35 0 0 x.2.2.length), (7, .ptr 7 0 0 0), (9, .sl 2 (a1.map cF)), (10, .c (.int .i64 ((a1.map cF).length : Int))), (11, .c (.int .i64 x1.2.1)), (20, .c (.int .i64 y48)), (21, .c (.int .i64 x.2.1))] [(2, ⟨26, 4, true, [[.sl 1 (a0.Vars.map cI), .sl 1 (a0.Init.map cI), .sl 2 (a0.Goal.map cF), .sl 4 (a0.Ops.map cGOp)]]⟩), (7, ⟨40, 2, true, [[.c (.int .i64 y47.1), .c (.int .i64 y47.2)]]⟩), (35, ⟨23, 1, false, x.2.2.map cL_cF⟩)]) (fun x => M_stratagemref26_Unless_L1 y47 y48 x.1 x.2.1 x.2.2 = some o4) (fun x => x.1) ((y48).toNat + 1, 0, x1.2.2) h ?_ ?_
        · repeat (first | exact True.intro | refine ci_XDBRef ?_)
        · intro x10 h; intro _; obtain ⟨k53, m11, h⟩ := succ_of (f := fun n => M_stratagemref26_Unless_L1 y47 y48 n x10.2.1 x10.2.2) rfl h; replace h : M_stratagemref26_Unless_L1 y47 y48 (k53 + 1) x10.2.1 x10.2.2 = some o4 := h; rw [M_stratagemref26_Unless_L1] at h; refine awp_seq ?_; refine awp_region ?_; intro _; refine dr_XDBRef ?_; refine awp_seq ?_; refine awp_cond ?_; intro _; refine spl h (fun c12 h => ?_) (fun c12 h => ?_)
          · refine awp_skip ?_; refine awp_seq ?_; refine awp_block ?_; refine awp_seq ?_; refine awp_region ?_; intro _; refine dr_XDBRef ?_; refine awp_seq ?_; refine awp_region ?_; intro _; refine dr_XDBRef ?_; refine awp_cond ?_; intro _; refine spl h (fun c13 h => ?_) (fun c13 h => ?_)
            · refine awp_region ?_; intro _; obtain ⟨q14, h⟩ := grd_ok h; refine pl_XDBRef ?_; refine pl_XDBRef ?_; refine And.intro (by first | with_reducible assumption | (show (x10.2.2.length + 1) * 24 ≤ 140737488355328; with_reducible assumption) | omega | (simp only [List.drop_zero, List.length_map, List.length_take, List.length_drop, List.length_append, List.length_cons, List.length_nil, Nat.zero_add, Nat.add_zero] at q14 ⊢; first | with_reducible assumption | omega) | (simp; omega)) ?_; refine pe_XDBRef ?_; refine dr_XDBRef ?_; refine awp_region ?_; intro _; refine dr_XDBRef ?_; refine ⟨(k53, (IntKind.i64.wrap (x10.2.1 + 1)), (x10.2.2 ++ [[(y47.1, x10.2.1)]])), h, lt_of_succ m11, ?_⟩; repeat (first | exact True.intro | refine ci_XDBRef ?_)
            · refine awp_skip ?_; refine awp_region ?_; intro _; refine dr_XDBRef ?_; refine ⟨(k53, (IntKind.i64.wrap (x10.2.1 + 1)), x10.2.2), h, lt_of_succ m11, ?_⟩; repeat (first | exact True.intro | refine ci_XDBRef ?_)
          · refine awp_exit ?_; refine ⟨x10.2.2, (Option.some.inj h).symm, ?_⟩; repeat (first | exact True.intro | refine ci_XDBRef ?_)
      · rintro v45 ho; have ho := ho.symm; subst ho; intro _; replace h := hK5; refine awp_region ?_; intro _; refine dr_XDBRef ?_; refine ⟨(k37, (IntKind.i64.wrap (x1.2.1 + 1)), v45), h, lt_of_succ m2, ?_⟩; repeat (first | exact True.intro | refine ci_XDBRef ?_)
    · refine awp_exit ?_; refine awp_seq ?_; refine awp_region ?_; intro _; refine dr_XDBRef ?_; refine awp_ret ?_; obtain ⟨q15, h⟩ := grd_ok h; intro _; obtain rfl := inj1 h; repeat (first | exact True.intro | refine ci_XDBRef ?_)
def M_stratagemref26_Merge_L1 (a0 : List Fact) (a1 : List Fact) : Nat → Int → Int → (List Fact) → Option ((List Fact) × Bool)
  | 0, _, _, _ => none
  | k43 + 1, v40, v41, v42 =>
    ob1 (sel (decide (v40 < ((a0.map cF).length : Int)))
      (some (.inl ()))
      (sel (decide (v41 < ((a1.map cF).length : Int)))
        (some (.inl ()))
        (some (.inr ()))) : Option (Unit ⊕ Unit))
     (osum
     (fun _ => ob1 (sel (v41 == ((a1.map cF).length : Int))
         (some true)
         (sel (decide (v40 < ((a0.map cF).length : Int)))
           (ix a0 v40 (fun y49 =>
             ix a1 v41 (fun y50 =>
              some (decide (y49.1 < y50.1)))))
           (some false)) : Option (Bool))
        (fun v47 => sel v47
           (ix a0 v40 (fun y51 =>
             grd ((v42.length + 1) * 16 ≤ 140737488355328) (M_stratagemref26_Merge_L1 a0 a1 k43 (IntKind.i64.wrap (v40 + 1)) v41 (v42 ++ [y51]))))
           (ob1 (sel (v40 == ((a0.map cF).length : Int))
              (some true)
              (ix a1 v41 (fun y56 =>
                ix a0 v40 (fun y57 =>
                 some (decide (y56.1 < y57.1))))) : Option (Bool))
             (fun v54 => sel v54
                (ix a1 v41 (fun y58 =>
                  grd ((v42.length + 1) * 16 ≤ 140737488355328) (M_stratagemref26_Merge_L1 a0 a1 k43 v40 (IntKind.i64.wrap (v41 + 1)) (v42 ++ [y58]))))
                (ix a0 v40 (fun y59 =>
                  ix a1 v41 (fun y60 =>
                   sel (y59.2 != y60.2)
                    (some ([], false))
                    (ix a0 v40 (fun y61 =>
                      grd ((v42.length + 1) * 16 ≤ 140737488355328) (M_stratagemref26_Merge_L1 a0 a1 k43 (IntKind.i64.wrap (v40 + 1)) (IntKind.i64.wrap (v41 + 1)) (v42 ++ [y61])))))))))))
     (fun _ => grd (v42.length ≤ 140737488355328) (some (v42, true))))
def M_stratagemref26_Merge (g : Nat) (a0 : List Fact) (a1 : List Fact) : Option ((List Fact) × Bool) :=
  M_stratagemref26_Merge_L1 a0 a1 g 0 0 []
set_option maxHeartbeats 16000000 in
set_option maxRecDepth 100000 in
theorem A_stratagemref26_Merge (g : Nat) (a0 : List Fact) (a1 : List Fact) {r1 : List Fact} {r2 : Bool} (h : M_stratagemref26_Merge g a0 a1 = some (r1, r2)) : ACall cx 63 [.sl 2 (a0.map cF), .sl 2 (a1.map cF)] (.tup [.sl 2 (r1.map cF), .c (.bool r2)]) := by
  refine acall_of Try.func63 rfl (by decide) rfl (Nat.le_of_ble_eq_true rfl) ?_; intro _; unfold M_stratagemref26_Merge at h; refine awp_seq ?_; refine awp_region ?_; intro _; refine dr_XDBRef ?_; refine awp_seq ?_; refine awp_region ?_; intro _; refine dr_XDBRef ?_; refine awp_seq ?_; refine awp_region ?_; intro _; refine dr_XDBRef ?_; refine awp_seq ?_; refine awp_block ?_; refine awp_loop (α := Nat × Int × Int × (List Fact)) (fun x => mkS 103 [(0, .sl 2 (a0.map cF)), (1, .sl 2 (a1.map cF)), (6, .own 60 0 0 x.2.2.2.length), (7, .c (.int .i64 x.2.1)), (8, .c (.int .i64 x.2.2.1))] [(60, ⟨40, 2, false, x.2.2.2.map cF⟩)]) (fun x => M_stratagemref26_Merge_L1 a0 a1 x.1 x.2.1 x.2.2.1 x.2.2.2 = some (r1, r2)) (fun x => x.1) (g, 0, 0, []) h ?_ ?_
  · repeat (first | exact True.intro | refine ci_XDBRef ?_)
  · intro x1 h; intro _; obtain ⟨k43, m2, h⟩ := succ_of (f := fun n => M_stratagemref26_Merge_L1 a0 a1 n x1.2.1 x1.2.2.1 x1.2.2.2) rfl h; replace h : M_stratagemref26_Merge_L1 a0 a1 (k43 + 1) x1.2.1 x1.2.2.1 x1.2.2.2 = some (r1, r2) := h; rw [M_stratagemref26_Merge_L1] at h; obtain ⟨o3, h, hK4⟩ := ob1_ok h; refine awp_cut (α := Unit) (fun _ => mkS 103 [(0, .sl 2 (a0.map cF)), (1, .sl 2 (a1.map cF)), (6, .own 60 0 0 x1.2.2.2.length), (7, .c (.int .i64 x1.2.1)), (8, .c (.int .i64 x1.2.2.1))] [(60, ⟨40, 2, false, x1.2.2.2.map cF⟩)]) (fun v => o3 = (.inl v)) ?_ ?_
    · refine awp_seq ?_; refine awp_region ?_; intro _; refine spf h (fun c5 h => ?_) (fun c5 h => ?_)
      · intro _; refine dr_XDBRef ?_; refine awp_cond ?_; intro _; refine spl h (fun c6 h => ?_) (fun c6 h => ?_)
        · refine awp_skip ?_; refine ⟨(), (Option.some.inj h).symm, ?_⟩; repeat (first | exact True.intro | refine ci_XDBRef ?_)
        · refine awp_exit ?_; have j7 := Option.some.inj h; subst j7; replace h := (osum_r hK4); refine awp_seq ?_; refine awp_region ?_; intro _; refine dr_XDBRef ?_; refine awp_ret ?_; obtain ⟨q8, h⟩ := grd_ok h; intro _; obtain ⟨rfl, rfl⟩ := inj2 h; repeat (first | exact True.intro | refine ci_XDBRef ?_)
      · intro _; refine dr_XDBRef ?_; refine awp_cond ?_; intro _; refine litT ?_; refine awp_skip ?_; refine ⟨(), (Option.some.inj h).symm, ?_⟩; repeat (first | exact True.intro | refine ci_XDBRef ?_)
    · rintro _ ho; have ho := ho.symm; subst ho; intro _; replace h := (osum_l hK4); refine awp_block ?_; refine awp_block ?_; obtain ⟨o9, h, hK10⟩ := ob1_ok h; refine awp_cut (α := Bool) (fun v47 => mkS 103 [(0, .sl 2 (a0.map cF)), (1, .sl 2 (a1.map cF)), (6, .own 60 0 0 x1.2.2.2.length), (7, .c (.int .i64 x1.2.1)), (8, .c (.int .i64 x1.2.2.1)), (30, .c (.bool v47))] [(60, ⟨40, 2, false, x1.2.2.2.map cF⟩)]) (fun v => o9 = v) ?_ ?_
      · refine awp_region ?_; intro _; refine spf h (fun c11 h => ?_) (fun c11 h => ?_)
        · intro _; refine spl h (fun c12 h => ?_) (fun c12 h => ?_)
          · intro _; obtain ⟨y49, w13, q14, h⟩ := ix_ok h; refine Exists.intro (cF y49) (And.intro (map_at' w13) ?_); intro _; obtain ⟨y50, w15, q16, h⟩ := ix_ok h; refine Exists.intro (cF y50) (And.intro (map_at' w15) ?_); intro _; refine pr_XDBRef ?_; refine pr_XDBRef ?_; refine dr_XDBRef ?_; refine ⟨(decide (y49.1 < y50.1)), (Option.some.inj h).symm, ?_⟩; repeat (first | exact True.intro | refine ci_XDBRef ?_)
          · intro _; refine dr_XDBRef ?_; refine ⟨false, (Option.some.inj h).symm, ?_⟩; repeat (first | exact True.intro | refine ci_XDBRef ?_)
        · intro _; refine dr_XDBRef ?_; refine ⟨true, (Option.some.inj h).symm, ?_⟩; repeat (first | exact True.intro | refine ci_XDBRef ?_)
      · rintro v47 ho; have ho := ho.symm; subst ho; intro _; replace h := hK10; refine awp_cond ?_; intro _; refine spl h (fun c17 h => ?_) (fun c17 h => ?_)
        · refine awp_seq ?_; refine awp_region ?_; intro _; obtain ⟨y51, w18, q19, h⟩ := ix_ok h; refine Exists.intro (cF y51) (And.intro (map_at' w18) ?_); intro _; obtain ⟨q20, h⟩ := grd_ok h; refine pr_XDBRef ?_; refine pl_XDBRef ?_; refine pl_XDBRef ?_; refine And.intro (by first | with_reducible assumption | (show (x1.2.2.2.length + 1) * 16 ≤ 140737488355328; with_reducible assumption) | omega | (simp only [List.drop_zero, List.length_map, List.length_take, List.length_drop, List.length_append, List.length_cons, List.length_nil, Nat.zero_add, Nat.add_zero] at q20 ⊢; first | with_reducible assumption | omega) | (simp; omega)) ?_; refine pe_XDBRef ?_; refine dr_XDBRef ?_; refine awp_region ?_; intro _; refine dr_XDBRef ?_; refine ⟨(k43, (IntKind.i64.wrap (x1.2.1 + 1)), x1.2.2.1, (x1.2.2.2 ++ [y51])), h, lt_of_succ m2, ?_⟩; repeat (first | exact True.intro | refine ci_XDBRef ?_)
        · obtain ⟨o21, h, hK22⟩ := ob1_ok h; refine awp_cut (α := Bool) (fun v54 => mkS 103 [(0, .sl 2 (a0.map cF)), (1, .sl 2 (a1.map cF)), (6, .own 60 0 0 x1.2.2.2.length), (7, .c (.int .i64 x1.2.1)), (8, .c (.int .i64 x1.2.2.1)), (63, .c (.bool v54))] [(60, ⟨40, 2, false, x1.2.2.2.map cF⟩)]) (fun v => o21 = v) ?_ ?_
          · refine awp_region ?_; intro _; refine spf h (fun c23 h => ?_) (fun c23 h => ?_)
            · intro _; obtain ⟨y56, w24, q25, h⟩ := ix_ok h; refine Exists.intro (cF y56) (And.intro (map_at' w24) ?_); intro _; obtain ⟨y57, w26, q27, h⟩ := ix_ok h; refine Exists.intro (cF y57) (And.intro (map_at' w26) ?_); intro _; refine pr_XDBRef ?_; refine pr_XDBRef ?_; refine dr_XDBRef ?_; refine ⟨(decide (y56.1 < y57.1)), (Option.some.inj h).symm, ?_⟩; repeat (first | exact True.intro | refine ci_XDBRef ?_)
            · intro _; refine dr_XDBRef ?_; refine ⟨true, (Option.some.inj h).symm, ?_⟩; repeat (first | exact True.intro | refine ci_XDBRef ?_)
          · rintro v54 ho; have ho := ho.symm; subst ho; intro _; replace h := hK22; refine awp_cond ?_; intro _; refine spl h (fun c28 h => ?_) (fun c28 h => ?_)
            · refine awp_seq ?_; refine awp_region ?_; intro _; obtain ⟨y58, w29, q30, h⟩ := ix_ok h; refine Exists.intro (cF y58) (And.intro (map_at' w29) ?_); intro _; obtain ⟨q31, h⟩ := grd_ok h; refine pr_XDBRef ?_; refine pl_XDBRef ?_; refine pl_XDBRef ?_; refine And.intro (by first | with_reducible assumption | (show (x1.2.2.2.length + 1) * 16 ≤ 140737488355328; with_reducible assumption) | omega | (simp only [List.drop_zero, List.length_map, List.length_take, List.length_drop, List.length_append, List.length_cons, List.length_nil, Nat.zero_add, Nat.add_zero] at q31 ⊢; first | with_reducible assumption | omega) | (simp; omega)) ?_; refine pe_XDBRef ?_; refine dr_XDBRef ?_; refine awp_region ?_; intro _; refine dr_XDBRef ?_; refine ⟨(k43, x1.2.1, (IntKind.i64.wrap (x1.2.2.1 + 1)), (x1.2.2.2 ++ [y58])), h, lt_of_succ m2, ?_⟩; repeat (first | exact True.intro | refine ci_XDBRef ?_)
            · refine awp_seq ?_; refine awp_region ?_; intro _; obtain ⟨y59, w32, q33, h⟩ := ix_ok h; refine Exists.intro (cF y59) (And.intro (map_at' w32) ?_); intro _; obtain ⟨y60, w34, q35, h⟩ := ix_ok h; refine Exists.intro (cF y60) (And.intro (map_at' w34) ?_); intro _; refine pr_XDBRef ?_; refine pr_XDBRef ?_; refine dr_XDBRef ?_; refine awp_cond ?_; intro _; refine spl h (fun c36 h => ?_) (fun c36 h => ?_)
              · refine awp_seq ?_; refine awp_region ?_; intro _; refine dr_XDBRef ?_; refine awp_ret ?_; intro _; obtain ⟨rfl, rfl⟩ := inj2 h; repeat (first | exact True.intro | refine ci_XDBRef ?_)
              · refine awp_seq ?_; refine awp_region ?_; intro _; obtain ⟨y61, w37, q38, h⟩ := ix_ok h; refine Exists.intro (cF y61) (And.intro (map_at' w37) ?_); intro _; obtain ⟨q39, h⟩ := grd_ok h; refine pr_XDBRef ?_; refine pl_XDBRef ?_; refine pl_XDBRef ?_; refine And.intro (by first | with_reducible assumption | (show (x1.2.2.2.length + 1) * 16 ≤ 140737488355328; with_reducible assumption) | omega | (simp only [List.drop_zero, List.length_map, List.length_take, List.length_drop, List.length_append, List.length_cons, List.length_nil, Nat.zero_add, Nat.add_zero] at q39 ⊢; first | with_reducible assumption | omega) | (simp; omega)) ?_; refine pe_XDBRef ?_; refine dr_XDBRef ?_; refine awp_seq ?_; refine awp_region ?_; intro _; refine dr_XDBRef ?_; refine awp_region ?_; intro _; refine dr_XDBRef ?_; refine ⟨(k43, (IntKind.i64.wrap (x1.2.1 + 1)), (IntKind.i64.wrap (x1.2.2.1 + 1)), (x1.2.2.2 ++ [y61])), h, lt_of_succ m2, ?_⟩; repeat (first | exact True.intro | refine ci_XDBRef ?_)
def M_stratagemref26_has_L1 (a0 : List (List Fact)) (a1 : List Fact) : Nat → Int → Option (Bool)
  | 0, _ => none
  | k7 + 1, v6 =>
    sel (decide (v6 < ((a0.map cL_cF).length : Int)))
     (ix a0 v6 (fun y8 =>
       ob1 (M_stratagembase_Facts y8 a1) (fun z9 =>
        sel z9
         (some true)
         (M_stratagemref26_has_L1 a0 a1 k7 (IntKind.i64.wrap (v6 + 1))))))
     (some false)
def M_stratagemref26_has (a0 : List (List Fact)) (a1 : List Fact) : Option (Bool) :=
  M_stratagemref26_has_L1 a0 a1 ((((a0.map cL_cF).length : Int)).toNat + 1) 0
set_option maxHeartbeats 16000000 in
set_option maxRecDepth 100000 in
theorem A_stratagemref26_has (a0 : List (List Fact)) (a1 : List Fact) {r1 : Bool} (h : M_stratagemref26_has a0 a1 = some r1) : ACall cx 62 [.sl 1 (a0.map cL_cF), .sl 2 (a1.map cF)] (.c (.bool r1)) := by
  refine acall_of Try.func62 rfl (by decide) rfl (Nat.le_of_ble_eq_true rfl) ?_; intro _; unfold M_stratagemref26_has at h; refine awp_seq ?_; refine awp_region ?_; intro _; refine dr_XDBRef ?_; refine awp_seq ?_; refine awp_seq ?_; refine awp_region ?_; intro _; refine dr_XDBRef ?_; refine awp_block ?_; refine awp_loop (α := Nat × Int) (fun x => mkS 17 [(1, .sl 2 (a1.map cF)), (7, .sl 1 (a0.map cL_cF)), (8, .c (.int .i64 ((a0.map cL_cF).length : Int))), (9, .c (.int .i64 x.2))] []) (fun x => M_stratagemref26_has_L1 a0 a1 x.1 x.2 = some r1) (fun x => x.1) ((((a0.map cL_cF).length : Int)).toNat + 1, 0) h ?_ ?_
  · repeat (first | exact True.intro | refine ci_XDBRef ?_)
  · intro x1 h; intro _; obtain ⟨k7, m2, h⟩ := succ_of (f := fun n => M_stratagemref26_has_L1 a0 a1 n x1.2) rfl h; replace h : M_stratagemref26_has_L1 a0 a1 (k7 + 1) x1.2 = some r1 := h; rw [M_stratagemref26_has_L1] at h; refine awp_seq ?_; refine awp_region ?_; intro _; refine dr_XDBRef ?_; refine awp_seq ?_; refine awp_cond ?_; intro _; refine spl h (fun c3 h => ?_) (fun c3 h => ?_)
    · refine awp_skip ?_; refine awp_seq ?_; refine awp_block ?_; refine awp_seq ?_; refine awp_region ?_; intro _; obtain ⟨y8, w4, q5, h⟩ := ix_ok h; refine Exists.intro (cL_cF y8) (And.intro (map_at' w4) ?_); intro _; refine pr_XDBRef ?_; refine dr_XDBRef ?_; refine awp_seq ?_; refine awp_region ?_; intro _; obtain ⟨z9, u6, h⟩ := ob1_ok h; refine cl_XDBRef rfl (A_stratagembase_Facts y8 a1 u6) ?_; intro _; refine dr_XDBRef ?_; refine awp_cond ?_; intro _; refine spl h (fun c7 h => ?_) (fun c7 h => ?_)
      · refine awp_seq ?_; refine awp_region ?_; intro _; refine dr_XDBRef ?_; refine awp_ret ?_; intro _; obtain rfl := inj1 h; repeat (first | exact True.intro | refine ci_XDBRef ?_)
      · refine awp_skip ?_; refine awp_region ?_; intro _; refine dr_XDBRef ?_; refine ⟨(k7, (IntKind.i64.wrap (x1.2 + 1))), h, lt_of_succ m2, ?_⟩; repeat (first | exact True.intro | refine ci_XDBRef ?_)
    · refine awp_exit ?_; refine awp_seq ?_; refine awp_region ?_; intro _; refine dr_XDBRef ?_; refine awp_ret ?_; intro _; obtain rfl := inj1 h; repeat (first | exact True.intro | refine ci_XDBRef ?_)
def M_stratagemref26_Join_L1 (a1 : List (List Fact)) (g : Nat) (y223 : List Fact) : Nat → Int → (List (List Fact)) → Option (List (List Fact))
  | 0, _, _ => none
  | k236 + 1, v234, v235 =>
    sel (decide (v234 < ((a1.map cL_cF).length : Int)))
     (ix a1 v234 (fun y237 =>
       ob2 (M_stratagemref26_Merge g y223 y237) (fun z238 z239 =>
        sel (!z239)
         (M_stratagemref26_Join_L1 a1 g y223 k236 (IntKind.i64.wrap (v234 + 1)) v235)
         (grd (v235.length ≤ 140737488355328) (ob1 (M_stratagemref26_has v235 z238) (fun z240 =>
           sel z240
            (M_stratagemref26_Join_L1 a1 g y223 k236 (IntKind.i64.wrap (v234 + 1)) v235)
            (grd ((v235.length + 1) * 24 ≤ 140737488355328) (M_stratagemref26_Join_L1 a1 g y223 k236 (IntKind.i64.wrap (v234 + 1)) (v235 ++ [z238])))))))))
     (some v235)
def M_stratagemref26_Join_L2 (a0 : List (List Fact)) (a1 : List (List Fact)) (g : Nat) : Nat → Int → (List (List Fact)) → Option (List (List Fact))
  | 0, _, _ => none
  | k202 + 1, v200, v201 =>
    sel (decide (v200 < ((a0.map cL_cF).length : Int)))
     (ob1 (ix a0 v200 (fun y223 =>
        M_stratagemref26_Join_L1 a1 g y223 ((((a1.map cL_cF).length : Int)).toNat + 1) 0 v201) : Option (List (List Fact)))
       (fun v221 => M_stratagemref26_Join_L2 a0 a1 g k202 (IntKind.i64.wrap (v200 + 1)) v221))
     (some v201)
def M_stratagemref26_Join (g : Nat) (a0 : List (List Fact)) (a1 : List (List Fact)) : Option ((List (List Fact)) × Bool) :=
  ob1 (M_stratagemref26_Join_L2 a0 a1 g ((((a0.map cL_cF).length : Int)).toNat + 1) 0 [] : Option (List (List Fact)))
   (fun v120 => grd (v120.length ≤ 140737488355328) (some (v120, (decide (((v120.length : Nat) : Int) ≤ 1024)))))
set_option maxHeartbeats 16000000 in
set_option maxRecDepth 100000 in
theorem A_stratagemref26_Join (g : Nat) (a0 : List (List Fact)) (a1 : List (List Fact)) {r1 : List (List Fact)} {r2 : Bool} (h : M_stratagemref26_Join g a0 a1 = some (r1, r2)) : ACall cx 39 [.sl 1 (a0.map cL_cF), .sl 1 (a1.map cL_cF)] (.tup [.sl 1 (r1.map cL_cF), .c (.bool r2)]) := by
  refine acall_of Try.func39 rfl (by decide) rfl (Nat.le_of_ble_eq_true rfl) ?_; intro _; unfold M_stratagemref26_Join at h; refine awp_seq ?_; refine awp_region ?_; intro _; refine dr_XDBRef ?_; refine awp_seq ?_; refine awp_region ?_; intro _; refine dr_XDBRef ?_; obtain ⟨o1, h, hK2⟩ := ob1_ok h; refine awp_cut (α := List (List Fact)) (fun v120 => mkS 48 [(6, .own 41 0 0 v120.length)] [(41, ⟨23, 1, false, v120.map cL_cF⟩)]) (fun v => o1 = v) ?_ ?_
  · refine awp_seq ?_; refine awp_region ?_; intro _; refine dr_XDBRef ?_; refine awp_block ?_; refine awp_loop (α := Nat × Int × (List (List Fact))) (fun x => mkS 48 [(1, .sl 1 (a1.map cL_cF)), (6, .own 41 0 0 x.2.2.length), (13, .sl 1 (a0.map cL_cF)), (14, .c (.int .i64 ((a0.map cL_cF).length : Int))), (15, .c (.int .i64 x.2.1))] [(41, ⟨23, 1, false, x.2.2.map cL_cF⟩)]) (fun x => M_stratagemref26_Join_L2 a0 a1 g x.1 x.2.1 x.2.2 = some o1) (fun x => x.1) ((((a0.map cL_cF).length : Int)).toNat + 1, 0, []) h ?_ ?_
    · repeat (first | exact True.intro | refine ci_XDBRef ?_)
    · intro x3 h; intro _; obtain ⟨k202, m4, h⟩ := succ_of (f := fun n => M_stratagemref26_Join_L2 a0 a1 g n x3.2.1 x3.2.2) rfl h; replace h : M_stratagemref26_Join_L2 a0 a1 g (k202 + 1) x3.2.1 x3.2.2 = some o1 := h; rw [M_stratagemref26_Join_L2] at h; refine awp_seq ?_; refine awp_region ?_; intro _; refine dr_XDBRef ?_; refine awp_seq ?_; refine awp_cond ?_; intro _; refine spl h (fun c5 h => ?_) (fun c5 h => ?_)
      · refine awp_skip ?_; obtain ⟨o6, h, hK7⟩ := ob1_ok h; refine awp_cut (α := List (List Fact)) (fun v221 => mkS 48 [(1, .sl 1 (a1.map cL_cF)), (6, .own 41 0 0 v221.length), (13, .sl 1 (a0.map cL_cF)), (14, .c (.int .i64 ((a0.map cL_cF).length : Int))), (15, .c (.int .i64 x3.2.1))] [(41, ⟨23, 1, false, v221.map cL_cF⟩)]) (fun v => o6 = v) ?_ ?_
        · refine awp_block ?_; refine awp_seq ?_; refine awp_region ?_; intro _; obtain ⟨y223, w8, q9, h⟩ := ix_ok h; refine Exists.intro (cL_cF y223) (And.intro (map_at' w8) ?_); intro _; refine pr_XDBRef ?_; refine dr_XDBRef ?_; refine awp_seq ?_; refine awp_region ?_; intro _; refine dr_XDBRef ?_; refine awp_block ?_; refine awp_loop (α := Nat × Int × (List (List Fact))) (fun x => mkS 48 [(1, .sl 1 (a1.map cL_cF)), (6, .own 41 0 0 x.2.2.length), (8, .sl 2 (y223.map cF)), (13, .sl 1 (a0.map cL_cF)), (14, .c (.int .i64 ((a0.map cL_cF).length : Int))), (15, .c (.int .i64 x3.2.1)), (19, .sl 1 (a1.map cL_cF)), (20, .c (.int .i64 ((a1.map cL_cF).length : Int))), (21, .c (.int .i64 x.2.1))] [(41, ⟨23, 1, false, x.2.2.map cL_cF⟩)]) (fun x => M_stratagemref26_Join_L1 a1 g y223 x.1 x.2.1 x.2.2 = some o6) (fun x => x.1) ((((a1.map cL_cF).length : Int)).toNat + 1, 0, x3.2.2) h ?_ ?_
          · repeat (first | exact True.intro | refine ci_XDBRef ?_)
          · intro x10 h; intro _; obtain ⟨k236, m11, h⟩ := succ_of (f := fun n => M_stratagemref26_Join_L1 a1 g y223 n x10.2.1 x10.2.2) rfl h; replace h : M_stratagemref26_Join_L1 a1 g y223 (k236 + 1) x10.2.1 x10.2.2 = some o6 := h; rw [M_stratagemref26_Join_L1] at h; refine awp_seq ?_; refine awp_region ?_; intro _; refine dr_XDBRef ?_; refine awp_seq ?_; refine awp_cond ?_; intro _; refine spl h (fun c12 h => ?_) (fun c12 h => ?_)
            · refine awp_skip ?_; refine awp_seq ?_; refine awp_block ?_; refine awp_seq ?_; refine awp_region ?_; intro _; obtain ⟨y237, w13, q14, h⟩ := ix_ok h; refine Exists.intro (cL_cF y237) (And.intro (map_at' w13) ?_); intro _; refine pr_XDBRef ?_; refine dr_XDBRef ?_; refine awp_seq ?_; refine awp_region ?_; intro _; obtain ⟨z238, z239, u15, h⟩ := ob2_ok h; refine cl_XDBRef rfl (A_stratagemref26_Merge g y223 y237 u15) ?_; intro _; refine dr_XDBRef ?_; refine awp_seq ?_; refine awp_seq ?_; refine awp_region ?_; intro _; refine spf h (fun c16 h => ?_) (fun c16 h => ?_)
              · intro _; obtain ⟨q17, h⟩ := grd_ok h; obtain ⟨z240, u18, h⟩ := ob1_ok h; refine clb_XDBRef [41] rfl rfl (A_stratagemref26_has x10.2.2 z238 u18) ?_; intro _; refine dr_XDBRef ?_; refine awp_cond ?_; intro _; refine spl h (fun c19 h => ?_) (fun c19 h => ?_)
                · refine awp_exit ?_; refine awp_region ?_; intro _; refine dr_XDBRef ?_; refine ⟨(k236, (IntKind.i64.wrap (x10.2.1 + 1)), x10.2.2), h, lt_of_succ m11, ?_⟩; repeat (first | exact True.intro | refine ci_XDBRef ?_)
                · refine awp_skip ?_; refine awp_region ?_; intro _; obtain ⟨q20, h⟩ := grd_ok h; refine pl_XDBRef ?_; refine pl_XDBRef ?_; refine And.intro (by first | with_reducible assumption | (show (x10.2.2.length + 1) * 24 ≤ 140737488355328; with_reducible assumption) | omega | (simp only [List.drop_zero, List.length_map, List.length_take, List.length_drop, List.length_append, List.length_cons, List.length_nil, Nat.zero_add, Nat.add_zero] at q20 ⊢; first | with_reducible assumption | omega) | (simp; omega)) ?_; refine pe_XDBRef ?_; refine dr_XDBRef ?_; refine awp_region ?_; intro _; refine dr_XDBRef ?_; refine ⟨(k236, (IntKind.i64.wrap (x10.2.1 + 1)), (x10.2.2 ++ [z238])), h, lt_of_succ m11, ?_⟩; repeat (first | exact True.intro | refine ci_XDBRef ?_)
              · intro _; refine dr_XDBRef ?_; refine awp_cond ?_; intro _; refine litT ?_; refine awp_exit ?_; refine awp_region ?_; intro _; refine dr_XDBRef ?_; refine ⟨(k236, (IntKind.i64.wrap (x10.2.1 + 1)), x10.2.2), h, lt_of_succ m11, ?_⟩; repeat (first | exact True.intro | refine ci_XDBRef ?_)
            · refine awp_exit ?_; refine ⟨x10.2.2, (Option.some.inj h).symm, ?_⟩; repeat (first | exact True.intro | refine ci_XDBRef ?_)
        · rintro v221 ho; have ho := ho.symm; subst ho; intro _; replace h := hK7; refine awp_region ?_; intro _; refine dr_XDBRef ?_; refine ⟨(k202, (IntKind.i64.wrap (x3.2.1 + 1)), v221), h, lt_of_succ m4, ?_⟩; repeat (first | exact True.intro | refine ci_XDBRef ?_)
      · refine awp_exit ?_; refine ⟨x3.2.2, (Option.some.inj h).symm, ?_⟩; repeat (first | exact True.intro | refine ci_XDBRef ?_)
  · rintro v120 ho; have ho := ho.symm; subst ho; intro _; replace h := hK2; refine awp_seq ?_; refine awp_region ?_; intro _; refine dr_XDBRef ?_; refine awp_ret ?_; obtain ⟨q21, h⟩ := grd_ok h; intro _; obtain ⟨rfl, rfl⟩ := inj2 h; repeat (first | exact True.intro | refine ci_XDBRef ?_)
def M_stratagemref26_without_L1 (a0 : GTask) (a1 : GOp) (a2 : Fact) (a3 : Int) (g : Nat) : Nat → (List (List Fact)) → Int → Option ((List (List Fact)) × Bool)
  | 0, _, _ => none
  | k15 + 1, v13, v14 =>
    sel (decide (v14 < ((((a1.Effs.take ((a1.Effs.map cGEffect).length)).drop a3.toNat).map cGEffect).length : Int)))
     (ix ((a1.Effs.take ((a1.Effs.map cGEffect).length)).drop a3.toNat) v14 (fun y16 =>
       ob1 (sel (y16.Var != a2.1)
         (some (.inr ()))
         (sel (y16.Val == a2.2)
           (some (.inr ()))
           (some (.inl ()))) : Option (Unit ⊕ Unit))
        (osum
        (fun _ => ob1 (M_stratagemref26_Unless a0 y16.When) (fun z18 =>
           sel (decide (((z18.map cL_cF).length : Int) > 1024))
            (some ([], false))
            (ob2 (M_stratagemref26_Join g v13 z18) (fun z19 z20 =>
              sel (!z20)
               (some ([], false))
               (M_stratagemref26_without_L1 a0 a1 a2 a3 g k15 z19 (IntKind.i64.wrap (v14 + 1)))))))
        (fun _ => M_stratagemref26_without_L1 a0 a1 a2 a3 g k15 v13 (IntKind.i64.wrap (v14 + 1))))))
     (some (v13, true))
def M_stratagemref26_without (g : Nat) (a0 : GTask) (a1 : GOp) (a2 : Fact) (a3 : Int) (a4 : List (List Fact)) : Option ((List (List Fact)) × Bool) :=
  grd (0 ≤ a3) (grd (a3.toNat ≤ (a1.Effs.map cGEffect).length) (M_stratagemref26_without_L1 a0 a1 a2 a3 g ((((((a1.Effs.take ((a1.Effs.map cGEffect).length)).drop a3.toNat).map cGEffect).length : Int)).toNat + 1) a4 0))
set_option maxHeartbeats 16000000 in
set_option maxRecDepth 100000 in
theorem A_stratagemref26_without (g : Nat) (a0 : GTask) (a1 : GOp) (a2 : Fact) (a3 : Int) (a4 : List (List Fact)) {r1 : List (List Fact)} {r2 : Bool} (h : M_stratagemref26_without g a0 a1 a2 a3 a4 = some (r1, r2)) : ACall cx 61 [.agg [.sl 1 (a0.Vars.map cI), .sl 1 (a0.Init.map cI), .sl 2 (a0.Goal.map cF), .sl 4 (a0.Ops.map cGOp)], .agg [.c (.string a1.Name), .c (.int .i64 a1.Cost), .sl 2 (a1.Pre.map cF), .sl 3 (a1.Effs.map cGEffect)], .agg [.c (.int .i64 a2.1), .c (.int .i64 a2.2)], .c (.int .i64 a3), .sl 1 (a4.map cL_cF)] (.tup [.sl 1 (r1.map cL_cF), .c (.bool r2)]) := by
  refine acall_of Try.func61 rfl (by decide) rfl (Nat.le_of_ble_eq_true rfl) ?_; intro _; unfold M_stratagemref26_without at h; refine awp_seq ?_; refine awp_region ?_; intro _; refine dr_XDBRef ?_; refine awp_seq ?_; refine awp_seq ?_; refine awp_region ?_; intro _; obtain ⟨q1, h⟩ := grd_ok h; obtain ⟨q2, h⟩ := grd_ok h; refine pr_XDBRef ?_; refine pr_XDBRef ?_; refine pr_XDBRef ?_; refine dr_XDBRef ?_; refine awp_block ?_; refine awp_loop (α := Nat × (List (List Fact)) × Int) (fun x => mkS 56 [(4, .sl 1 (x.2.1.map cL_cF)), (5, .ptr 5 0 0 0), (7, .ptr 7 0 0 0), (20, .sl 3 (((a1.Effs.take ((a1.Effs.map cGEffect).length)).drop a3.toNat).map cGEffect)), (21, .c (.int .i64 ((((a1.Effs.take ((a1.Effs.map cGEffect).length)).drop a3.toNat).map cGEffect).length : Int))), (22, .c (.int .i64 x.2.2))] [(5, ⟨26, 4, true, [[.sl 1 (a0.Vars.map cI), .sl 1 (a0.Init.map cI), .sl 2 (a0.Goal.map cF), .sl 4 (a0.Ops.map cGOp)]]⟩), (7, ⟨40, 2, true, [[.c (.int .i64 a2.1), .c (.int .i64 a2.2)]]⟩)]) (fun x => M_stratagemref26_without_L1 a0 a1 a2 a3 g x.1 x.2.1 x.2.2 = some (r1, r2)) (fun x => x.1) ((((((a1.Effs.take ((a1.Effs.map cGEffect).length)).drop a3.toNat).map cGEffect).length : Int)).toNat + 1, a4, 0) h ?_ ?_
  · repeat (first | exact True.intro | refine ci_XDBRef ?_)
  · intro x3 h; intro _; obtain ⟨k15, m4, h⟩ := succ_of (f := fun n => M_stratagemref26_without_L1 a0 a1 a2 a3 g n x3.2.1 x3.2.2) rfl h; replace h : M_stratagemref26_without_L1 a0 a1 a2 a3 g (k15 + 1) x3.2.1 x3.2.2 = some (r1, r2) := h; rw [M_stratagemref26_without_L1] at h; refine awp_seq ?_; refine awp_region ?_; intro _; refine dr_XDBRef ?_; refine awp_seq ?_; refine awp_cond ?_; intro _; refine spl h (fun c5 h => ?_) (fun c5 h => ?_)
    · refine awp_skip ?_; refine awp_seq ?_; refine awp_block ?_; refine awp_seq ?_; refine awp_region ?_; intro _; obtain ⟨y16, w6, q7, h⟩ := ix_ok h; refine Exists.intro (cGEffect y16) (And.intro (map_at' w6) ?_); intro _; refine pr_XDBRef ?_; refine dr_XDBRef ?_; obtain ⟨o8, h, hK9⟩ := ob1_ok h; refine awp_cut (α := Unit) (fun _ => mkS 56 [(4, .sl 1 (x3.2.1.map cL_cF)), (5, .ptr 5 0 0 0), (7, .ptr 7 0 0 0), (13, .ptr 13 0 0 0), (20, .sl 3 (((a1.Effs.take ((a1.Effs.map cGEffect).length)).drop a3.toNat).map cGEffect)), (21, .c (.int .i64 ((((a1.Effs.take ((a1.Effs.map cGEffect).length)).drop a3.toNat).map cGEffect).length : Int))), (22, .c (.int .i64 x3.2.2)), (32, .ptr 13 0 0 2), (33, .c (.int .i64 y16.Val)), (34, .ptr 7 0 0 1), (35, .c (.int .i64 a2.2)), (36, .c (.bool (y16.Val == a2.2)))] [(5, ⟨26, 4, true, [[.sl 1 (a0.Vars.map cI), .sl 1 (a0.Init.map cI), .sl 2 (a0.Goal.map cF), .sl 4 (a0.Ops.map cGOp)]]⟩), (7, ⟨40, 2, true, [[.c (.int .i64 a2.1), .c (.int .i64 a2.2)]]⟩), (13, ⟨42, 3, true, [[.sl 2 (y16.When.map cF), .c (.int .i64 y16.Var), .c (.int .i64 y16.Val)]]⟩)]) (fun v => o8 = (.inl v)) ?_ ?_
      · refine awp_seq ?_; refine awp_region ?_; intro _; refine spf h (fun c10 h => ?_) (fun c10 h => ?_)
        · intro _; refine dr_XDBRef ?_; refine awp_cond ?_; intro _; refine spl h (fun c11 h => ?_) (fun c11 h => ?_)
          · refine awp_exit ?_; have j12 := Option.some.inj h; subst j12; replace h := (osum_r hK9); refine awp_region ?_; intro _; refine dr_XDBRef ?_; refine ⟨(k15, x3.2.1, (IntKind.i64.wrap (x3.2.2 + 1))), h, lt_of_succ m4, ?_⟩; repeat (first | exact True.intro | refine ci_XDBRef ?_)
          · refine awp_skip ?_; refine ⟨(), (Option.some.inj h).symm, ?_⟩; repeat (first | exact True.intro | refine ci_XDBRef ?_)
        · intro _; refine dr_XDBRef ?_; refine awp_cond ?_; intro _; refine litT ?_; refine awp_exit ?_; have j13 := Option.some.inj h; subst j13; replace h := (osum_r hK9); refine awp_region ?_; intro _; refine dr_XDBRef ?_; refine ⟨(k15, x3.2.1, (IntKind.i64.wrap (x3.2.2 + 1))), h, lt_of_succ m4, ?_⟩; repeat (first | exact True.intro | refine ci_XDBRef ?_)
      · rintro _ ho; have ho := ho.symm; subst ho; intro _; replace h := (osum_l hK9); refine awp_seq ?_; refine awp_region ?_; intro _; obtain ⟨z18, u14, h⟩ := ob1_ok h; refine cl_XDBRef rfl (A_stratagemref26_Unless a0 y16.When u14) ?_; intro _; refine dr_XDBRef ?_; refine awp_seq ?_; refine awp_seq ?_; refine awp_region ?_; intro _; refine dr_XDBRef ?_; refine awp_cond ?_; intro _; refine spl h (fun c15 h => ?_) (fun c15 h => ?_)
        · refine awp_seq ?_; refine awp_region ?_; intro _; refine dr_XDBRef ?_; refine awp_ret ?_; intro _; obtain ⟨rfl, rfl⟩ := inj2 h; repeat (first | exact True.intro | refine ci_XDBRef ?_)
        · refine awp_skip ?_; refine awp_seq ?_; refine awp_region ?_; intro _; obtain ⟨z19, z20, u16, h⟩ := ob2_ok h; refine cl_XDBRef rfl (A_stratagemref26_Join g x3.2.1 z18 u16) ?_; intro _; refine dr_XDBRef ?_; refine awp_seq ?_; refine awp_seq ?_; refine awp_region ?_; intro _; refine dr_XDBRef ?_; refine awp_cond ?_; intro _; refine spl h (fun c17 h => ?_) (fun c17 h => ?_)
          · refine awp_seq ?_; refine awp_region ?_; intro _; refine dr_XDBRef ?_; refine awp_ret ?_; intro _; obtain ⟨rfl, rfl⟩ := inj2 h; repeat (first | exact True.intro | refine ci_XDBRef ?_)
          · refine awp_skip ?_; refine awp_region ?_; intro _; refine dr_XDBRef ?_; refine awp_region ?_; intro _; refine dr_XDBRef ?_; refine ⟨(k15, z19, (IntKind.i64.wrap (x3.2.2 + 1))), h, lt_of_succ m4, ?_⟩; repeat (first | exact True.intro | refine ci_XDBRef ?_)
    · refine awp_exit ?_; refine awp_seq ?_; refine awp_region ?_; intro _; refine dr_XDBRef ?_; refine awp_ret ?_; intro _; obtain ⟨rfl, rfl⟩ := inj2 h; repeat (first | exact True.intro | refine ci_XDBRef ?_)
def M_stratagemref26_cases_L1 (z230 : List (List Fact)) : Nat → Int → (List (List Fact)) → Option ((List (List Fact)) ⊕ ((List (List Fact)) × Bool))
  | 0, _, _ => none
  | k240 + 1, v238, v239 =>
    sel (decide (v238 < ((z230.map cL_cF).length : Int)))
     (ix z230 v238 (fun y241 =>
       grd (v239.length ≤ 140737488355328) (ob1 (M_stratagemref26_has v239 y241) (fun z242 =>
        sel (!z242)
         (grd ((v239.length + 1) * 24 ≤ 140737488355328) (M_stratagemref26_cases_L1 z230 k240 (IntKind.i64.wrap (v238 + 1)) (v239 ++ [y241])))
         (M_stratagemref26_cases_L1 z230 k240 (IntKind.i64.wrap (v238 + 1)) v239)))))
     (some (.inl v239))
def M_stratagemref26_cases_L2 (a0 : GTask) (a1 : GOp) (a2 : Fact) (g : Nat) : Nat → Int → (List (List Fact)) → Option ((List (List Fact)) ⊕ ((List (List Fact)) × Bool))
  | 0, _, _ => none
  | k204 + 1, v202, v203 =>
    sel (decide (v202 ≥ (-1)))
     (ob1 (ob1 (sel (decide (v202 ≥ 0))
         (ix a1.Effs v202 (fun y229 =>
           sel (y229.Var != a2.1)
            (some (.inr ()))
            (sel (y229.Val != a2.2)
              (some (.inr ()))
              (some (.inl y229.When)))))
         (some (.inl [a2])) : Option ((List Fact) ⊕ Unit))
        (osum
        (fun v227 => ob2 (M_stratagemref26_without g a0 a1 a2 (IntKind.i64.wrap (v202 + 1)) [v227]) (fun z230 z231 =>
           sel (!z231)
            (some (.inr ([], false)))
            (M_stratagemref26_cases_L1 z230 ((((z230.map cL_cF).length : Int)).toNat + 1) 0 v203)))
        (fun _ => some (.inl v203))) : Option ((List (List Fact)) ⊕ ((List (List Fact)) × Bool)))
       (osum
       (fun v222 => M_stratagemref26_cases_L2 a0 a1 a2 g k204 (IntKind.i64.wrap (v202 - 1)) v222)
       (fun (r223, r224) => some (.inr (r223, r224)))))
     (some (.inl v203))
def M_stratagemref26_cases (g : Nat) (a0 : GTask) (a1 : GOp) (a2 : Fact) : Option ((List (List Fact)) × Bool) :=
  ob1 (M_stratagemref26_cases_L2 a0 a1 a2 g g (IntKind.i64.wrap (((a1.Effs.map cGEffect).length : Int) - 1)) [] : Option ((List (List Fact)) ⊕ ((List (List Fact)) × Bool)))
   (osum
   (fun v120 => grd (v120.length ≤ 140737488355328) (some (v120, (decide (((v120.length : Nat) : Int) ≤ 1024)))))
   (fun (r121, r122) => some (r121, r122)))
set_option maxHeartbeats 16000000 in
set_option maxRecDepth 100000 in
theorem A_stratagemref26_cases (g : Nat) (a0 : GTask) (a1 : GOp) (a2 : Fact) {r1 : List (List Fact)} {r2 : Bool} (h : M_stratagemref26_cases g a0 a1 a2 = some (r1, r2)) : ACall cx 38 [.agg [.sl 1 (a0.Vars.map cI), .sl 1 (a0.Init.map cI), .sl 2 (a0.Goal.map cF), .sl 4 (a0.Ops.map cGOp)], .agg [.c (.string a1.Name), .c (.int .i64 a1.Cost), .sl 2 (a1.Pre.map cF), .sl 3 (a1.Effs.map cGEffect)], .agg [.c (.int .i64 a2.1), .c (.int .i64 a2.2)]] (.tup [.sl 1 (r1.map cL_cF), .c (.bool r2)]) := by
  refine acall_of Try.func38 rfl (by decide) rfl (Nat.le_of_ble_eq_true rfl) ?_; intro _; unfold M_stratagemref26_cases at h; refine awp_seq ?_; refine awp_region ?_; intro _; refine dr_XDBRef ?_; refine awp_seq ?_; refine awp_region ?_; intro _; refine dr_XDBRef ?_; obtain ⟨o1, h, hK2⟩ := ob1_ok h; refine awp_cut (α := List (List Fact)) (fun v120 => mkS 79 [(8, .own 73 0 0 v120.length)] [(73, ⟨23, 1, false, v120.map cL_cF⟩)]) (fun v => o1 = (.inl v)) ?_ ?_
  · refine awp_seq ?_; refine awp_region ?_; intro _; refine dr_XDBRef ?_; refine awp_block ?_; refine awp_loop (α := Nat × Int × (List (List Fact))) (fun x => mkS 79 [(3, .ptr 3 0 0 0), (4, .ptr 4 0 0 0), (5, .ptr 5 0 0 0), (8, .own 73 0 0 x.2.2.length), (9, .c (.int .i64 x.2.1))] [(3, ⟨26, 4, true, [[.sl 1 (a0.Vars.map cI), .sl 1 (a0.Init.map cI), .sl 2 (a0.Goal.map cF), .sl 4 (a0.Ops.map cGOp)]]⟩), (4, ⟨38, 4, true, [[.c (.string a1.Name), .c (.int .i64 a1.Cost), .sl 2 (a1.Pre.map cF), .sl 3 (a1.Effs.map cGEffect)]]⟩), (5, ⟨40, 2, true, [[.c (.int .i64 a2.1), .c (.int .i64 a2.2)]]⟩), (73, ⟨23, 1, false, x.2.2.map cL_cF⟩)]) (fun x => M_stratagemref26_cases_L2 a0 a1 a2 g x.1 x.2.1 x.2.2 = some o1) (fun x => x.1) (g, (IntKind.i64.wrap (((a1.Effs.map cGEffect).length : Int) - 1)), []) h ?_ ?_
    · repeat (first | exact True.intro | refine ci_XDBRef ?_)
    · intro x3 h; intro _; obtain ⟨k204, m4, h⟩ := succ_of (f := fun n => M_stratagemref26_cases_L2 a0 a1 a2 g n x3.2.1 x3.2.2) rfl h; replace h : M_stratagemref26_cases_L2 a0 a1 a2 g (k204 + 1) x3.2.1 x3.2.2 = some o1 := h; rw [M_stratagemref26_cases_L2] at h; refine awp_seq ?_; refine awp_seq ?_; refine awp_region ?_; intro _; refine dr_XDBRef ?_; refine awp_cond ?_; intro _; refine spl h (fun c5 h => ?_) (fun c5 h => ?_)
      · refine awp_skip ?_; obtain ⟨o6, h, hK7⟩ := ob1_ok h; refine awp_cut (α := List (List Fact)) (fun v222 => mkS 79 [(3, .ptr 3 0 0 0), (4, .ptr 4 0 0 0), (5, .ptr 5 0 0 0), (8, .own 73 0 0 v222.length), (9, .c (.int .i64 x3.2.1))] [(3, ⟨26, 4, true, [[.sl 1 (a0.Vars.map cI), .sl 1 (a0.Init.map cI), .sl 2 (a0.Goal.map cF), .sl 4 (a0.Ops.map cGOp)]]⟩), (4, ⟨38, 4, true, [[.c (.string a1.Name), .c (.int .i64 a1.Cost), .sl 2 (a1.Pre.map cF), .sl 3 (a1.Effs.map cGEffect)]]⟩), (5, ⟨40, 2, true, [[.c (.int .i64 a2.1), .c (.int .i64 a2.2)]]⟩), (73, ⟨23, 1, false, v222.map cL_cF⟩)]) (fun v => o6 = (.inl v)) ?_ ?_
        · refine awp_block ?_; refine awp_seq ?_; refine awp_region ?_; intro _; refine dr_XDBRef ?_; obtain ⟨o8, h, hK9⟩ := ob1_ok h; refine awp_cut (α := List Fact) (fun v227 => mkS 79 [(3, .ptr 3 0 0 0), (4, .ptr 4 0 0 0), (5, .ptr 5 0 0 0), (8, .own 73 0 0 x3.2.2.length), (9, .c (.int .i64 x3.2.1)), (10, .sl 2 (v227.map cF))] [(3, ⟨26, 4, true, [[.sl 1 (a0.Vars.map cI), .sl 1 (a0.Init.map cI), .sl 2 (a0.Goal.map cF), .sl 4 (a0.Ops.map cGOp)]]⟩), (4, ⟨38, 4, true, [[.c (.string a1.Name), .c (.int .i64 a1.Cost), .sl 2 (a1.Pre.map cF), .sl 3 (a1.Effs.map cGEffect)]]⟩), (5, ⟨40, 2, true, [[.c (.int .i64 a2.1), .c (.int .i64 a2.2)]]⟩), (73, ⟨23, 1, false, x3.2.2.map cL_cF⟩)]) (fun v => o8 = (.inl v)) ?_ ?_
          · refine awp_seq ?_; refine awp_region ?_; intro _; refine dr_XDBRef ?_; refine awp_cond ?_; intro _; refine spl h (fun c10 h => ?_) (fun c10 h => ?_)
            · refine awp_seq ?_; refine awp_region ?_; intro _; obtain ⟨y229, w11, q12, h⟩ := ix_ok h; refine Exists.intro (cGEffect y229) (And.intro (map_at' w11) ?_); intro _; refine pr_XDBRef ?_; refine dr_XDBRef ?_; refine awp_seq ?_; refine awp_seq ?_; refine awp_region ?_; intro _; refine spf h (fun c13 h => ?_) (fun c13 h => ?_)
              · intro _; refine dr_XDBRef ?_; refine awp_cond ?_; intro _; refine spl h (fun c14 h => ?_) (fun c14 h => ?_)
                · refine awp_exit ?_; have j15 := Option.some.inj h; subst j15; replace h := (osum_r hK9); refine ⟨x3.2.2, (Option.some.inj h).symm, ?_⟩; repeat (first | exact True.intro | refine ci_XDBRef ?_)
                · refine awp_skip ?_; refine awp_region ?_; intro _; refine dr_XDBRef ?_; refine ⟨y229.When, (Option.some.inj h).symm, ?_⟩; repeat (first | exact True.intro | refine ci_XDBRef ?_)
              · intro _; refine dr_XDBRef ?_; refine awp_cond ?_; intro _; refine litT ?_; refine awp_exit ?_; have j16 := Option.some.inj h; subst j16; replace h := (osum_r hK9); refine ⟨x3.2.2, (Option.some.inj h).symm, ?_⟩; repeat (first | exact True.intro | refine ci_XDBRef ?_)
            · refine awp_skip ?_; refine ⟨[a2], (Option.some.inj h).symm, ?_⟩; repeat (first | exact True.intro | refine ci_XDBRef ?_)
          · rintro v227 ho; have ho := ho.symm; subst ho; intro _; replace h := (osum_l hK9); refine awp_seq ?_; refine awp_region ?_; intro _; obtain ⟨z230, z231, u17, h⟩ := ob2_ok h; refine clf_XDBRef [(54, ⟨2, none⟩)] rfl rfl (A_stratagemref26_without g a0 a1 a2 (IntKind.i64.wrap (x3.2.1 + 1)) [v227] u17) ?_; intro _; refine dr_XDBRef ?_; refine awp_seq ?_; refine awp_seq ?_; refine awp_region ?_; intro _; refine dr_XDBRef ?_; refine awp_cond ?_; intro _; refine spl h (fun c18 h => ?_) (fun c18 h => ?_)
            · refine awp_seq ?_; refine awp_region ?_; intro _; refine dr_XDBRef ?_; refine awp_ret ?_; have j19 := Option.some.inj h; subst j19; replace h := (osum_r hK7); have j20 := Option.some.inj h; subst j20; replace h := (osum_r hK2); intro _; obtain ⟨rfl, rfl⟩ := inj2 h; repeat (first | exact True.intro | refine ci_XDBRef ?_)
            · refine awp_skip ?_; refine awp_seq ?_; refine awp_region ?_; intro _; refine dr_XDBRef ?_; refine awp_block ?_; refine awp_loop (α := Nat × Int × (List (List Fact))) (fun x => mkS 79 [(3, .ptr 3 0 0 0), (4, .ptr 4 0 0 0), (5, .ptr 5 0 0 0), (8, .own 73 0 0 x.2.2.length), (9, .c (.int .i64 x3.2.1)), (60, .sl 1 (z230.map cL_cF)), (61, .c (.int .i64 ((z230.map cL_cF).length : Int))), (62, .c (.int .i64 x.2.1))] [(3, ⟨26, 4, true, [[.sl 1 (a0.Vars.map cI), .sl 1 (a0.Init.map cI), .sl 2 (a0.Goal.map cF), .sl 4 (a0.Ops.map cGOp)]]⟩), (4, ⟨38, 4, true, [[.c (.string a1.Name), .c (.int .i64 a1.Cost), .sl 2 (a1.Pre.map cF), .sl 3 (a1.Effs.map cGEffect)]]⟩), (5, ⟨40, 2, true, [[.c (.int .i64 a2.1), .c (.int .i64 a2.2)]]⟩), (73, ⟨23, 1, false, x.2.2.map cL_cF⟩)]) (fun x => M_stratagemref26_cases_L1 z230 x.1 x.2.1 x.2.2 = some o6) (fun x => x.1) ((((z230.map cL_cF).length : Int)).toNat + 1, 0, x3.2.2) h ?_ ?_
              · repeat (first | exact True.intro | refine ci_XDBRef ?_)
              · intro x21 h; intro _; obtain ⟨k240, m22, h⟩ := succ_of (f := fun n => M_stratagemref26_cases_L1 z230 n x21.2.1 x21.2.2) rfl h; replace h : M_stratagemref26_cases_L1 z230 (k240 + 1) x21.2.1 x21.2.2 = some o6 := h; rw [M_stratagemref26_cases_L1] at h; refine awp_seq ?_; refine awp_region ?_; intro _; refine dr_XDBRef ?_; refine awp_seq ?_; refine awp_cond ?_; intro _; refine spl h (fun c23 h => ?_) (fun c23 h => ?_)
                · refine awp_skip ?_; refine awp_seq ?_; refine awp_block ?_; refine awp_seq ?_; refine awp_region ?_; intro _; obtain ⟨y241, w24, q25, h⟩ := ix_ok h; refine Exists.intro (cL_cF y241) (And.intro (map_at' w24) ?_); intro _; refine pr_XDBRef ?_; refine dr_XDBRef ?_; refine awp_seq ?_; refine awp_region ?_; intro _; obtain ⟨q26, h⟩ := grd_ok h; obtain ⟨z242, u27, h⟩ := ob1_ok h; refine clb_XDBRef [73] rfl rfl (A_stratagemref26_has x21.2.2 y241 u27) ?_; intro _; refine dr_XDBRef ?_; refine awp_cond ?_; intro _; refine spl h (fun c28 h => ?_) (fun c28 h => ?_)
                  · refine awp_region ?_; intro _; obtain ⟨q29, h⟩ := grd_ok h; refine pl_XDBRef ?_; refine pl_XDBRef ?_; refine And.intro (by first | with_reducible assumption | (show (x21.2.2.length + 1) * 24 ≤ 140737488355328; with_reducible assumption) | omega | (simp only [List.drop_zero, List.length_map, List.length_take, List.length_drop, List.length_append, List.length_cons, List.length_nil, Nat.zero_add, Nat.add_zero] at q29 ⊢; first | with_reducible assumption | omega) | (simp; omega)) ?_; refine pe_XDBRef ?_; refine dr_XDBRef ?_; refine awp_region ?_; intro _; refine dr_XDBRef ?_; refine ⟨(k240, (IntKind.i64.wrap (x21.2.1 + 1)), (x21.2.2 ++ [y241])), h, lt_of_succ m22, ?_⟩; repeat (first | exact True.intro | refine ci_XDBRef ?_)
                  · refine awp_skip ?_; refine awp_region ?_; intro _; refine dr_XDBRef ?_; refine ⟨(k240, (IntKind.i64.wrap (x21.2.1 + 1)), x21.2.2), h, lt_of_succ m22, ?_⟩; repeat (first | exact True.intro | refine ci_XDBRef ?_)
                · refine awp_exit ?_; refine ⟨x21.2.2, (Option.some.inj h).symm, ?_⟩; repeat (first | exact True.intro | refine ci_XDBRef ?_)
        · rintro v222 ho; have ho := ho.symm; subst ho; intro _; replace h := (osum_l hK7); refine awp_region ?_; intro _; refine dr_XDBRef ?_; refine ⟨(k204, (IntKind.i64.wrap (x3.2.1 - 1)), v222), h, lt_of_succ m4, ?_⟩; repeat (first | exact True.intro | refine ci_XDBRef ?_)
      · refine awp_exit ?_; refine ⟨x3.2.2, (Option.some.inj h).symm, ?_⟩; repeat (first | exact True.intro | refine ci_XDBRef ?_)
  · rintro v120 ho; have ho := ho.symm; subst ho; intro _; replace h := (osum_l hK2); refine awp_seq ?_; refine awp_region ?_; intro _; refine dr_XDBRef ?_; refine awp_ret ?_; obtain ⟨q30, h⟩ := grd_ok h; intro _; obtain ⟨rfl, rfl⟩ := inj2 h; repeat (first | exact True.intro | refine ci_XDBRef ?_)
def M_stratagemref26_Minimal_L1 (a0 : List (List Fact)) (v161 : Int) (y211 : List Fact) : Nat → Bool → Int → Option (Bool)
  | 0, _, _ => none
  | k233 + 1, v231, v232 =>
    sel (decide (v232 < ((a0.map cL_cF).length : Int)))
     (ix a0 v232 (fun y234 =>
       sel (v161 != v232)
        (ob1 (M_stratagemref26_Contains y211 y234) (fun z235 =>
          sel z235
           (sel (decide (((y234.map cF).length : Int) < ((y211.map cF).length : Int)))
             (M_stratagemref26_Minimal_L1 a0 v161 y211 k233 false (IntKind.i64.wrap (v232 + 1)))
             (sel (decide (v232 < v161))
               (M_stratagemref26_Minimal_L1 a0 v161 y211 k233 false (IntKind.i64.wrap (v232 + 1)))
               (M_stratagemref26_Minimal_L1 a0 v161 y211 k233 v231 (IntKind.i64.wrap (v232 + 1)))))
           (M_stratagemref26_Minimal_L1 a0 v161 y211 k233 v231 (IntKind.i64.wrap (v232 + 1)))))
        (M_stratagemref26_Minimal_L1 a0 v161 y211 k233 v231 (IntKind.i64.wrap (v232 + 1)))))
     (some v231)
def M_stratagemref26_Minimal_L2 (v162 : List (List Fact)) (y211 : List Fact) : Nat → Int → Option (Int)
  | 0, _ => none
  | k253 + 1, v252 =>
    sel (decide (v252 > 0))
     (ixn v162 (((IntKind.i64.wrap (v252 - 1))).toNat) (fun y254 =>
       ob1 (M_stratagemref26_Less y211 y254) (fun z255 =>
        grd (0 ≤ (IntKind.i64.wrap (v252 - 1))) (grd ((IntKind.i64.wrap (v252 - 1)) < ((v162.length : Nat) : Int)) (sel z255
         (M_stratagemref26_Minimal_L2 v162 y211 k253 (IntKind.i64.wrap (v252 - 1)))
         (some v252))))))
     (some v252)
def M_stratagemref26_Minimal_L3 (a0 : List (List Fact)) (g : Nat) : Nat → Int → (List (List Fact)) → Option (List (List Fact))
  | 0, _, _ => none
  | k163 + 1, v161, v162 =>
    sel (decide (v161 < ((a0.map cL_cF).length : Int)))
     (ob1 (ix a0 v161 (fun y211 =>
        ob1 (M_stratagemref26_Minimal_L1 a0 v161 y211 ((((a0.map cL_cF).length : Int)).toNat + 1) true 0 : Option (Bool))
         (fun v223 => sel (!v223)
            (some v162)
            (ob1 (M_stratagemref26_Minimal_L2 v162 y211 g ((v162.length : Nat) : Int) : Option (Int))
              (fun v245 => grd (v162.length ≤ 140737488355328) (grd (0 ≤ v245) (grd (0 ≤ v245.toNat) (grd (v245.toNat ≤ (v162.map cL_cF).length) (grd ((0 + ((v162.take v245.toNat).drop 0).length) * 24 ≤ 140737488355328) (grd ((((v162.take v245.toNat).drop 0).length + 1) * 24 ≤ 140737488355328) (grd ((((v162.take v245.toNat).drop 0).length + 1 + ((v162.take ((v162.map cL_cF).length)).drop v245.toNat).length) * 24 ≤ 140737488355328) (some ((((v162.take v245.toNat).drop 0) ++ [y211]) ++ ((v162.take ((v162.map cL_cF).length)).drop v245.toNat))))))))))))) : Option (List (List Fact)))
       (fun v209 => M_stratagemref26_Minimal_L3 a0 g k163 (IntKind.i64.wrap (v161 + 1)) v209))
     (grd (v162.length ≤ 140737488355328) (some v162))
def M_stratagemref26_Minimal (g : Nat) (a0 : List (List Fact)) : Option (List (List Fact)) :=
  M_stratagemref26_Minimal_L3 a0 g ((((a0.map cL_cF).length : Int)).toNat + 1) 0 []
set_option maxHeartbeats 16000000 in
set_option maxRecDepth 100000 in
theorem A_stratagemref26_Minimal (g : Nat) (a0 : List (List Fact)) {r1 : List (List Fact)} (h : M_stratagemref26_Minimal g a0 = some r1) : ACall cx 40 [.sl 1 (a0.map cL_cF)] (.sl 1 (r1.map cL_cF)) := by
  refine acall_of Try.func40 rfl (by decide) rfl (Nat.le_of_ble_eq_true rfl) ?_; intro _; unfold M_stratagemref26_Minimal at h; refine awp_seq ?_; refine awp_region ?_; intro _; refine dr_XDBRef ?_; refine awp_seq ?_; refine awp_region ?_; intro _; refine dr_XDBRef ?_; refine awp_seq ?_; refine awp_seq ?_; refine awp_region ?_; intro _; refine dr_XDBRef ?_; refine awp_block ?_; refine awp_loop (α := Nat × Int × (List (List Fact))) (fun x => mkS 76 [(0, .sl 1 (a0.map cL_cF)), (3, .own 62 0 0 x.2.2.length), (10, .sl 1 (a0.map cL_cF)), (11, .c (.int .i64 ((a0.map cL_cF).length : Int))), (12, .c (.int .i64 x.2.1))] [(62, ⟨23, 1, false, x.2.2.map cL_cF⟩)]) (fun x => M_stratagemref26_Minimal_L3 a0 g x.1 x.2.1 x.2.2 = some r1) (fun x => x.1) ((((a0.map cL_cF).length : Int)).toNat + 1, 0, []) h ?_ ?_
  · repeat (first | exact True.intro | refine ci_XDBRef ?_)
  · intro x1 h; intro _; obtain ⟨k163, m2, h⟩ := succ_of (f := fun n => M_stratagemref26_Minimal_L3 a0 g n x1.2.1 x1.2.2) rfl h; replace h : M_stratagemref26_Minimal_L3 a0 g (k163 + 1) x1.2.1 x1.2.2 = some r1 := h; rw [M_stratagemref26_Minimal_L3] at h; refine awp_seq ?_; refine awp_region ?_; intro _; refine dr_XDBRef ?_; refine awp_seq ?_; refine awp_cond ?_; intro _; refine spl h (fun c3 h => ?_) (fun c3 h => ?_)
    · refine awp_skip ?_; obtain ⟨o4, h, hK5⟩ := ob1_ok h; refine awp_cut (α := List (List Fact)) (fun v209 => mkS 76 [(0, .sl 1 (a0.map cL_cF)), (3, .own 62 0 0 v209.length), (10, .sl 1 (a0.map cL_cF)), (11, .c (.int .i64 ((a0.map cL_cF).length : Int))), (12, .c (.int .i64 x1.2.1))] [(62, ⟨23, 1, false, v209.map cL_cF⟩)]) (fun v => o4 = v) ?_ ?_
      · refine awp_block ?_; refine awp_seq ?_; refine awp_region ?_; intro _; obtain ⟨y211, w6, q7, h⟩ := ix_ok h; refine Exists.intro (cL_cF y211) (And.intro (map_at' w6) ?_); intro _; refine pr_XDBRef ?_; refine dr_XDBRef ?_; refine awp_seq ?_; refine awp_region ?_; intro _; refine dr_XDBRef ?_; obtain ⟨o8, h, hK9⟩ := ob1_ok h; refine awp_cut (α := Bool) (fun v223 => mkS 76 [(0, .sl 1 (a0.map cL_cF)), (3, .own 62 0 0 x1.2.2.length), (5, .sl 2 (y211.map cF)), (6, .c (.bool v223)), (10, .sl 1 (a0.map cL_cF)), (11, .c (.int .i64 ((a0.map cL_cF).length : Int))), (12, .c (.int .i64 x1.2.1))] [(62, ⟨23, 1, false, x1.2.2.map cL_cF⟩)]) (fun v => o8 = v) ?_ ?_
        · refine awp_seq ?_; refine awp_region ?_; intro _; refine dr_XDBRef ?_; refine awp_block ?_; refine awp_loop (α := Nat × Bool × Int) (fun x => mkS 76 [(0, .sl 1 (a0.map cL_cF)), (3, .own 62 0 0 x1.2.2.length), (4, .c (.int .i64 x1.2.1)), (5, .sl 2 (y211.map cF)), (6, .c (.bool x.2.1)), (10, .sl 1 (a0.map cL_cF)), (11, .c (.int .i64 ((a0.map cL_cF).length : Int))), (12, .c (.int .i64 x1.2.1)), (17, .sl 1 (a0.map cL_cF)), (18, .c (.int .i64 ((a0.map cL_cF).length : Int))), (19, .c (.int .i64 x.2.2))] [(62, ⟨23, 1, false, x1.2.2.map cL_cF⟩)]) (fun x => M_stratagemref26_Minimal_L1 a0 x1.2.1 y211 x.1 x.2.1 x.2.2 = some o8) (fun x => x.1) ((((a0.map cL_cF).length : Int)).toNat + 1, true, 0) h ?_ ?_
          · repeat (first | exact True.intro | refine ci_XDBRef ?_)
          · intro x10 h; intro _; obtain ⟨k233, m11, h⟩ := succ_of (f := fun n => M_stratagemref26_Minimal_L1 a0 x1.2.1 y211 n x10.2.1 x10.2.2) rfl h; replace h : M_stratagemref26_Minimal_L1 a0 x1.2.1 y211 (k233 + 1) x10.2.1 x10.2.2 = some o8 := h; rw [M_stratagemref26_Minimal_L1] at h; refine awp_seq ?_; refine awp_region ?_; intro _; refine dr_XDBRef ?_; refine awp_seq ?_; refine awp_cond ?_; intro _; refine spl h (fun c12 h => ?_) (fun c12 h => ?_)
            · refine awp_skip ?_; refine awp_seq ?_; refine awp_block ?_; refine awp_seq ?_; refine awp_region ?_; intro _; obtain ⟨y234, w13, q14, h⟩ := ix_ok h; refine Exists.intro (cL_cF y234) (And.intro (map_at' w13) ?_); intro _; refine pr_XDBRef ?_; refine dr_XDBRef ?_; refine awp_seq ?_; refine awp_region ?_; intro _; refine spl h (fun c15 h => ?_) (fun c15 h => ?_)
              · intro _; obtain ⟨z235, u16, h⟩ := ob1_ok h; refine cl_XDBRef rfl (A_stratagemref26_Contains y211 y234 u16) ?_; intro _; refine spl h (fun c17 h => ?_) (fun c17 h => ?_)
                · intro _; refine spf h (fun c18 h => ?_) (fun c18 h => ?_)
                  · intro _; refine dr_XDBRef ?_; refine awp_cond ?_; intro _; refine spl h (fun c19 h => ?_) (fun c19 h => ?_)
                    · refine awp_region ?_; intro _; refine dr_XDBRef ?_; refine awp_region ?_; intro _; refine dr_XDBRef ?_; refine ⟨(k233, false, (IntKind.i64.wrap (x10.2.2 + 1))), h, lt_of_succ m11, ?_⟩; repeat (first | exact True.intro | refine ci_XDBRef ?_)
                    · refine awp_skip ?_; refine awp_region ?_; intro _; refine dr_XDBRef ?_; refine ⟨(k233, x10.2.1, (IntKind.i64.wrap (x10.2.2 + 1))), h, lt_of_succ m11, ?_⟩; repeat (first | exact True.intro | refine ci_XDBRef ?_)
                  · intro _; refine dr_XDBRef ?_; refine awp_cond ?_; intro _; refine litT ?_; refine awp_region ?_; intro _; refine dr_XDBRef ?_; refine awp_region ?_; intro _; refine dr_XDBRef ?_; refine ⟨(k233, false, (IntKind.i64.wrap (x10.2.2 + 1))), h, lt_of_succ m11, ?_⟩; repeat (first | exact True.intro | refine ci_XDBRef ?_)
                · intro _; refine dr_XDBRef ?_; refine awp_cond ?_; intro _; refine litF ?_; refine awp_skip ?_; refine awp_region ?_; intro _; refine dr_XDBRef ?_; refine ⟨(k233, x10.2.1, (IntKind.i64.wrap (x10.2.2 + 1))), h, lt_of_succ m11, ?_⟩; repeat (first | exact True.intro | refine ci_XDBRef ?_)
              · intro _; refine dr_XDBRef ?_; refine awp_cond ?_; intro _; refine litF ?_; refine awp_skip ?_; refine awp_region ?_; intro _; refine dr_XDBRef ?_; refine ⟨(k233, x10.2.1, (IntKind.i64.wrap (x10.2.2 + 1))), h, lt_of_succ m11, ?_⟩; repeat (first | exact True.intro | refine ci_XDBRef ?_)
            · refine awp_exit ?_; refine ⟨x10.2.1, (Option.some.inj h).symm, ?_⟩; repeat (first | exact True.intro | refine ci_XDBRef ?_)
        · rintro v223 ho; have ho := ho.symm; subst ho; intro _; replace h := hK9; refine awp_seq ?_; refine awp_seq ?_; refine awp_region ?_; intro _; refine dr_XDBRef ?_; refine awp_cond ?_; intro _; refine spl h (fun c20 h => ?_) (fun c20 h => ?_)
          · refine awp_exit ?_; refine ⟨x1.2.2, (Option.some.inj h).symm, ?_⟩; repeat (first | exact True.intro | refine ci_XDBRef ?_)
          · refine awp_skip ?_; refine awp_seq ?_; refine awp_region ?_; intro _; refine dr_XDBRef ?_; obtain ⟨o21, h, hK22⟩ := ob1_ok h; refine awp_cut (α := Int) (fun v245 => mkS 76 [(0, .sl 1 (a0.map cL_cF)), (3, .own 62 0 0 x1.2.2.length), (5, .sl 2 (y211.map cF)), (9, .c (.int .i64 v245)), (10, .sl 1 (a0.map cL_cF)), (11, .c (.int .i64 ((a0.map cL_cF).length : Int))), (12, .c (.int .i64 x1.2.1))] [(62, ⟨23, 1, false, x1.2.2.map cL_cF⟩)]) (fun v => o21 = v) ?_ ?_
            · refine awp_block ?_; refine awp_loop (α := Nat × Int) (fun x => mkS 76 [(0, .sl 1 (a0.map cL_cF)), (3, .own 62 0 0 x1.2.2.length), (5, .sl 2 (y211.map cF)), (9, .c (.int .i64 x.2)), (10, .sl 1 (a0.map cL_cF)), (11, .c (.int .i64 ((a0.map cL_cF).length : Int))), (12, .c (.int .i64 x1.2.1))] [(62, ⟨23, 1, false, x1.2.2.map cL_cF⟩)]) (fun x => M_stratagemref26_Minimal_L2 x1.2.2 y211 x.1 x.2 = some o21) (fun x => x.1) (g, ((x1.2.2.length : Nat) : Int)) h ?_ ?_
              · repeat (first | exact True.intro | refine ci_XDBRef ?_)
              · intro x23 h; intro _; obtain ⟨k253, m24, h⟩ := succ_of (f := fun n => M_stratagemref26_Minimal_L2 x1.2.2 y211 n x23.2) rfl h; replace h : M_stratagemref26_Minimal_L2 x1.2.2 y211 (k253 + 1) x23.2 = some o21 := h; rw [M_stratagemref26_Minimal_L2] at h; refine awp_seq ?_; refine awp_seq ?_; refine awp_region ?_; intro _; refine spl h (fun c25 h => ?_) (fun c25 h => ?_)
                · intro _; obtain ⟨y254, w26, h⟩ := ixn_ok h; refine Exists.intro (cL_cF y254) (And.intro (by first | exact map_at' w26 | (have w := map_at' (f := cL_cF) w26; simpa [cL_cF] using w)) ?_); intro _; obtain ⟨z255, u27, h⟩ := ob1_ok h; refine cl_XDBRef rfl (A_stratagemref26_Less y211 y254 u27) ?_; intro _; obtain ⟨q28, h⟩ := grd_ok h; obtain ⟨q29, h⟩ := grd_ok h; refine pr_XDBRef ?_; refine pr_XDBRef ?_; refine dr_XDBRef ?_; refine awp_cond ?_; intro _; refine spl h (fun c30 h => ?_) (fun c30 h => ?_)
                  · refine awp_skip ?_; refine awp_block ?_; refine awp_region ?_; intro _; refine dr_XDBRef ?_; refine ⟨(k253, (IntKind.i64.wrap (x23.2 - 1))), h, lt_of_succ m24, ?_⟩; repeat (first | exact True.intro | refine ci_XDBRef ?_)
                  · refine awp_exit ?_; refine ⟨x23.2, (Option.some.inj h).symm, ?_⟩; repeat (first | exact True.intro | refine ci_XDBRef ?_)
                · intro _; refine dr_XDBRef ?_; refine awp_cond ?_; intro _; refine litF ?_; refine awp_exit ?_; refine ⟨x23.2, (Option.some.inj h).symm, ?_⟩; repeat (first | exact True.intro | refine ci_XDBRef ?_)
            · rintro v245 ho; have ho := ho.symm; subst ho; intro _; replace h := hK22; obtain ⟨q31, h⟩ := grd_ok h; refine awp_wk (mkS 76 [(0, .sl 1 (a0.map cL_cF)), (3, .sl 1 (x1.2.2.map cL_cF)), (5, .sl 2 (y211.map cF)), (9, .c (.int .i64 v245)), (10, .sl 1 (a0.map cL_cF)), (11, .c (.int .i64 ((a0.map cL_cF).length : Int))), (12, .c (.int .i64 x1.2.1))] []) ?_ ?_
              · repeat (first | exact True.intro | refine ci_XDBRef ?_)
              · intro _; refine awp_region ?_; intro _; obtain ⟨q32, h⟩ := grd_ok h; obtain ⟨q33, h⟩ := grd_ok h; obtain ⟨q34, h⟩ := grd_ok h; obtain ⟨q35, h⟩ := grd_ok h; obtain ⟨q36, h⟩ := grd_ok h; obtain ⟨q37, h⟩ := grd_ok h; refine pr_XDBRef ?_; refine pr_XDBRef ?_; refine pr_XDBRef ?_; refine pl_XDBRef ?_; refine And.intro (by first | with_reducible assumption | (simp only [List.drop_zero, List.length_map, List.length_take, List.length_drop, List.length_append, List.length_cons, List.length_nil, Nat.zero_add, Nat.add_zero] at q32 q33 q34 q35 q36 q37 ⊢; first | with_reducible assumption | omega) | (show (0 + ((x1.2.2.take v245.toNat).drop 0).length) * 24 ≤ 140737488355328; with_reducible assumption) | omega | (simp; omega)) ?_; refine pe_XDBRef ?_; refine pl_XDBRef ?_; refine pl_XDBRef ?_; refine And.intro (by first | with_reducible assumption | (simp only [List.drop_zero, List.length_map, List.length_take, List.length_drop, List.length_append, List.length_cons, List.length_nil, Nat.zero_add, Nat.add_zero] at q32 q33 q34 q35 q36 q37 ⊢; first | with_reducible assumption | omega) | (show (((x1.2.2.take v245.toNat).drop 0).length + 1) * 24 ≤ 140737488355328; with_reducible assumption) | omega | (simp; omega)) ?_; refine pe_XDBRef ?_; refine pr_XDBRef ?_; refine pr_XDBRef ?_; refine pr_XDBRef ?_; refine pl_XDBRef ?_; refine And.intro (by first | with_reducible assumption | (simp only [List.drop_zero, List.length_map, List.length_take, List.length_drop, List.length_append, List.length_cons, List.length_nil, Nat.zero_add, Nat.add_zero] at q32 q33 q34 q35 q36 q37 ⊢; first | with_reducible assumption | omega) | (show (((x1.2.2.take v245.toNat).drop 0).length + 1 + ((x1.2.2.take ((x1.2.2.map cL_cF).length)).drop v245.toNat).length) * 24 ≤ 140737488355328; with_reducible assumption) | omega | (simp; omega)) ?_; refine pe_XDBRef ?_; refine dr_XDBRef ?_; refine ⟨((((x1.2.2.take v245.toNat).drop 0) ++ [y211]) ++ ((x1.2.2.take ((x1.2.2.map cL_cF).length)).drop v245.toNat)), (Option.some.inj h).symm, ?_⟩; repeat (first | exact True.intro | refine ci_XDBRef ?_)
      · rintro v209 ho; have ho := ho.symm; subst ho; intro _; replace h := hK5; refine awp_region ?_; intro _; refine dr_XDBRef ?_; refine ⟨(k163, (IntKind.i64.wrap (x1.2.1 + 1)), v209), h, lt_of_succ m2, ?_⟩; repeat (first | exact True.intro | refine ci_XDBRef ?_)
    · refine awp_exit ?_; refine awp_seq ?_; refine awp_region ?_; intro _; refine dr_XDBRef ?_; refine awp_ret ?_; obtain ⟨q38, h⟩ := grd_ok h; intro _; obtain rfl := inj1 h; repeat (first | exact True.intro | refine ci_XDBRef ?_)
def M_stratagemref26_Regress_L1 (a0 : GTask) (a2 : List Fact) (g : Nat) (y1 : GOp) : Nat → (List (List Fact)) → Int → Option ((List (List Fact)) × Bool)
  | 0, _, _ => none
  | k16 + 1, v14, v15 =>
    sel (decide (v15 < ((a2.map cF).length : Int)))
     (ix a2 v15 (fun y17 =>
       ob2 (M_stratagemref26_cases g a0 y1 y17) (fun z18 z19 =>
        sel (!z19)
         (some ([], false))
         (ob2 (M_stratagemref26_Join g v14 z18) (fun z20 z21 =>
           sel (!z21)
            (some ([], false))
            (M_stratagemref26_Regress_L1 a0 a2 g y1 k16 z20 (IntKind.i64.wrap (v15 + 1))))))))
     (ob1 (M_stratagemref26_Minimal g v14) (fun z22 =>
       some (z22, true)))
def M_stratagemref26_Regress (g : Nat) (a0 : GTask) (a1 : Int) (a2 : List Fact) : Option ((List (List Fact)) × Bool) :=
  ix a0.Ops a1 (fun y1 =>
   M_stratagemref26_Regress_L1 a0 a2 g y1 ((((a2.map cF).length : Int)).toNat + 1) [y1.Pre] 0)
set_option maxHeartbeats 16000000 in
set_option maxRecDepth 100000 in
theorem A_stratagemref26_Regress (g : Nat) (a0 : GTask) (a1 : Int) (a2 : List Fact) {r1 : List (List Fact)} {r2 : Bool} (h : M_stratagemref26_Regress g a0 a1 a2 = some (r1, r2)) : ACall cx 22 [.agg [.sl 1 (a0.Vars.map cI), .sl 1 (a0.Init.map cI), .sl 2 (a0.Goal.map cF), .sl 4 (a0.Ops.map cGOp)], .c (.int .i64 a1), .sl 2 (a2.map cF)] (.tup [.sl 1 (r1.map cL_cF), .c (.bool r2)]) := by
  refine acall_of Try.func22 rfl (by decide) rfl (Nat.le_of_ble_eq_true rfl) ?_; intro _; unfold M_stratagemref26_Regress at h; refine awp_seq ?_; refine awp_region ?_; intro _; refine dr_XDBRef ?_; refine awp_seq ?_; refine awp_region ?_; intro _; obtain ⟨y1, w1, q2, h⟩ := ix_ok h; refine Exists.intro (cGOp y1) (And.intro (map_at' w1) ?_); intro _; refine pr_XDBRef ?_; refine dr_XDBRef ?_; refine awp_seq ?_; refine awp_region ?_; intro _; refine dr_XDBRef ?_; refine awp_seq ?_; refine awp_seq ?_; refine awp_region ?_; intro _; refine dr_XDBRef ?_; refine awp_block ?_; refine awp_loop (α := Nat × (List (List Fact)) × Int) (fun x => mkS 48 [(3, .ptr 3 0 0 0), (8, .ptr 8 0 0 0), (9, .sl 1 (x.2.1.map cL_cF)), (22, .sl 2 (a2.map cF)), (23, .c (.int .i64 ((a2.map cF).length : Int))), (24, .c (.int .i64 x.2.2))] [(3, ⟨26, 4, true, [[.sl 1 (a0.Vars.map cI), .sl 1 (a0.Init.map cI), .sl 2 (a0.Goal.map cF), .sl 4 (a0.Ops.map cGOp)]]⟩), (8, ⟨38, 4, true, [[.c (.string y1.Name), .c (.int .i64 y1.Cost), .sl 2 (y1.Pre.map cF), .sl 3 (y1.Effs.map cGEffect)]]⟩)]) (fun x => M_stratagemref26_Regress_L1 a0 a2 g y1 x.1 x.2.1 x.2.2 = some (r1, r2)) (fun x => x.1) ((((a2.map cF).length : Int)).toNat + 1, [y1.Pre], 0) h ?_ ?_
  · repeat (first | exact True.intro | refine ci_XDBRef ?_)
  · intro x3 h; intro _; obtain ⟨k16, m4, h⟩ := succ_of (f := fun n => M_stratagemref26_Regress_L1 a0 a2 g y1 n x3.2.1 x3.2.2) rfl h; replace h : M_stratagemref26_Regress_L1 a0 a2 g y1 (k16 + 1) x3.2.1 x3.2.2 = some (r1, r2) := h; rw [M_stratagemref26_Regress_L1] at h; refine awp_seq ?_; refine awp_region ?_; intro _; refine dr_XDBRef ?_; refine awp_seq ?_; refine awp_cond ?_; intro _; refine spl h (fun c5 h => ?_) (fun c5 h => ?_)
    · refine awp_skip ?_; refine awp_seq ?_; refine awp_block ?_; refine awp_seq ?_; refine awp_region ?_; intro _; obtain ⟨y17, w6, q7, h⟩ := ix_ok h; refine Exists.intro (cF y17) (And.intro (map_at' w6) ?_); intro _; refine pr_XDBRef ?_; refine dr_XDBRef ?_; refine awp_seq ?_; refine awp_region ?_; intro _; obtain ⟨z18, z19, u8, h⟩ := ob2_ok h; refine cl_XDBRef rfl (A_stratagemref26_cases g a0 y1 y17 u8) ?_; intro _; refine dr_XDBRef ?_; refine awp_seq ?_; refine awp_seq ?_; refine awp_region ?_; intro _; refine dr_XDBRef ?_; refine awp_cond ?_; intro _; refine spl h (fun c9 h => ?_) (fun c9 h => ?_)
      · refine awp_seq ?_; refine awp_region ?_; intro _; refine dr_XDBRef ?_; refine awp_ret ?_; intro _; obtain ⟨rfl, rfl⟩ := inj2 h; repeat (first | exact True.intro | refine ci_XDBRef ?_)
      · refine awp_skip ?_; refine awp_seq ?_; refine awp_region ?_; intro _; obtain ⟨z20, z21, u10, h⟩ := ob2_ok h; refine cl_XDBRef rfl (A_stratagemref26_Join g x3.2.1 z18 u10) ?_; intro _; refine dr_XDBRef ?_; refine awp_seq ?_; refine awp_region ?_; intro _; refine dr_XDBRef ?_; refine awp_cond ?_; intro _; refine spl h (fun c11 h => ?_) (fun c11 h => ?_)
        · refine awp_seq ?_; refine awp_region ?_; intro _; refine dr_XDBRef ?_; refine awp_ret ?_; intro _; obtain ⟨rfl, rfl⟩ := inj2 h; repeat (first | exact True.intro | refine ci_XDBRef ?_)
        · refine awp_skip ?_; refine awp_region ?_; intro _; refine dr_XDBRef ?_; refine ⟨(k16, z20, (IntKind.i64.wrap (x3.2.2 + 1))), h, lt_of_succ m4, ?_⟩; repeat (first | exact True.intro | refine ci_XDBRef ?_)
    · refine awp_exit ?_; refine awp_seq ?_; refine awp_region ?_; intro _; obtain ⟨z22, u12, h⟩ := ob1_ok h; refine cl_XDBRef rfl (A_stratagemref26_Minimal g x3.2.1 u12) ?_; intro _; refine dr_XDBRef ?_; refine awp_ret ?_; intro _; obtain ⟨rfl, rfl⟩ := inj2 h; repeat (first | exact True.intro | refine ci_XDBRef ?_)
end Go.Proofs.Yteapjpgabdegnaa.Am
/- Models printed by my decompiler, and the proofs that the code computes them. -/
namespace Go.Proofs.Yteapjpgabdegnaa.Am
open Go.RowKit
theorem ci_XDBCase {p K : Prop} (k : K) (h : p := by first | rfl | exact ⟨rfl, rfl⟩ | exact BW.fr FrV.h | (refine BW.fr ?_; assumption) | (refine ⟨rfl, ?_⟩; (simp [cGTask, cI, cF, cGOp, cGEffect, cL_cF, take_len_map]; done)) | (refine RowK.same ?_ FrI.h; first | rfl | (simp [cGTask, cI, cF, cGOp, cGEffect, cL_cF, take_len_map]; done)) | (refine row_part1 ?_; (repeat (first | exact BWL.nil | exact bwll_nil | exact bw_c | exact BW.sl | exact BW.nil | exact bwll_same rfl FrI.h | refine BWL.cons ?_ ?_ | refine bwll_cons ?_ ?_ | (refine bw_own3 rfl rfl rfl FrI.h ?_ ?_ ?_) | exact BW.fr FrV.h | exact BW.fr (by assumption) | refine bw_agg ?_ | refine bw_clo ?_ | refine bw_ptr rfl rfl rfl ?_ | (refine bw_own rfl rfl rfl ?_ FrI.h ?_ ?_) | assumption | omega | rfl | (rw [List.length_map, ← List.length_append]; assumption) | (refine bwll_same ?_ FrI.h; (simp [cGTask, cI, cF, cGOp, cGEffect, cL_cF] <;> fail)) | (rw [List.map_set]; refine bwll_set (by first | rfl | omega | simp) ?_ ?_) | refine bwll_set (by first | rfl | omega | simp) ?_ ?_ | (rw [List.map_replicate]; refine bwll_rep ?_) | refine bwll_rep ?_ | (rw [List.map_append]; refine bwll_append ?_ ?_) | refine bwll_append ?_ ?_ | (simp [cGTask, cI, cF, cGOp, cGEffect, cL_cF, take_len_map] <;> fail) | (rw [List.drop_zero, List.take_of_length_le] <;> first | rfl | (simp [cGTask, cI, cF, cGOp, cGEffect, cL_cF] <;> fail)) | (simp; omega))); done) | ((repeat (first | exact BWL.nil | exact bwll_nil | exact bw_c | exact BW.sl | exact BW.nil | exact bwll_same rfl FrI.h | refine BWL.cons ?_ ?_ | refine bwll_cons ?_ ?_ | (refine bw_own3 rfl rfl rfl FrI.h ?_ ?_ ?_) | exact BW.fr FrV.h | exact BW.fr (by assumption) | refine bw_agg ?_ | refine bw_clo ?_ | refine bw_ptr rfl rfl rfl ?_ | (refine bw_own rfl rfl rfl ?_ FrI.h ?_ ?_) | assumption | omega | rfl | (rw [List.length_map, ← List.length_append]; assumption) | (refine bwll_same ?_ FrI.h; (simp [cGTask, cI, cF, cGOp, cGEffect, cL_cF] <;> fail)) | (rw [List.map_set]; refine bwll_set (by first | rfl | omega | simp) ?_ ?_) | refine bwll_set (by first | rfl | omega | simp) ?_ ?_ | (rw [List.map_replicate]; refine bwll_rep ?_) | refine bwll_rep ?_ | (rw [List.map_append]; refine bwll_append ?_ ?_) | refine bwll_append ?_ ?_ | (simp [cGTask, cI, cF, cGOp, cGEffect, cL_cF, take_len_map] <;> fail) | (rw [List.drop_zero, List.take_of_length_le] <;> first | rfl | (simp [cGTask, cI, cF, cGOp, cGEffect, cL_cF] <;> fail)) | (simp; omega))); done) | (simp [cGTask, cI, cF, cGOp, cGEffect, cL_cF, take_len_map]; done)) : p ∧ K := ⟨h, k⟩
theorem pr_XDBCase {p K : Prop} (k : K) (h : p := by first | assumption | exact Int.natCast_nonneg _ | exact Nat.le_refl _ | exact Nat.zero_le _ | omega | (simp; done) | (simp; omega)) : p ∧ K := ⟨h, k⟩
theorem dr_XDBCase {b : Bool} {p K : Prop} (k : K) (h : b = true → p := by intro h; first | (cases h; done) | exact ⟨by kernel_rfl, by kernel_rfl⟩) : (b = true → p) ∧ K := ⟨h, k⟩
theorem cl_XDBCase {C : Cx} {n : Nat} {o : Oper} {τ : Nat → AV} {η : Nat → Ent} {f : FuncId} {os : Array Operand} {ats : Array TypeId} {r : AV} {args : List AV} {K : Foot → Prop} (ho : o.op = .call ⟨.value (.func f), os, ats⟩) (hc : ACall C f args r) (k : K ⟨r, [], []⟩)
    (hd : InB n o.dst := by exact Nat.le_of_ble_eq_true rfl) (hargs : os.toList.map (evA τ) = args := by first | rfl | (simp [cGTask, cI, cF, cGOp, cGEffect, cL_cF]; done)) (hfr : frs args := by repeat (first | exact trivial | exact fr1_eA _ | exact fr0_eA _ | exact fr1_fr (by assumption) | exact FrV.h | refine And.intro ?_ ?_)) (hr : fr1 r := by repeat (first | exact trivial | exact fr1_eA _ | exact fr0_eA _ | exact fr1_fr (by assumption) | exact FrV.h | refine And.intro ?_ ?_)) : ∃ f : Foot, LF C n o τ η f ∧ K f := ⟨_, lf_call ho hd hargs hc hfr hr, k⟩
def M_stratagemlaw26_RegressCases (g : Nat) (a0 : GTask) (a1 : Int) (a2 : List Fact) : Option (Bool) :=
  ob1 (ob1 (M_stratagembase_Small a0) (fun z10 =>
    sel (!z10)
     (ob1 (M_stratagemlaw26_awake g) (fun z16 =>
       some (.inr z16)))
     (sel (((a0.Ops.map cGOp).length : Int) == 0)
       (ob1 (M_stratagemlaw26_awake g) (fun z15 =>
         some (.inr z15)))
       (ob1 (M_stratagembase_Proper a0.Vars a2) (fun z11 =>
         sel (!z11)
          (ob1 (M_stratagemlaw26_awake g) (fun z14 =>
            some (.inr z14)))
          (ob1 (M_stratagemlaw26_awake g) (fun z12 =>
            sel (!z12)
             (ob1 (M_stratagemlaw26_awake g) (fun z13 =>
               some (.inr z13)))
             (some (.inl ())))))))) : Option (Unit ⊕ Bool))
   (osum
   (fun _ => grd (((a0.Ops.map cGOp).length : Int) ≠ 0) (ob2 (M_stratagemref26_Regress g a0 ((IntKind.i64.wrap a1).tmod ((a0.Ops.map cGOp).length : Int)) a2) (fun z17 z18 =>
      ob2 (M_regress_Regress g a0 ((IntKind.i64.wrap a1).tmod ((a0.Ops.map cGOp).length : Int)) a2) (fun z19 z20 =>
       ob2 (M_regress_Possible g a0 ((IntKind.i64.wrap a1).tmod ((a0.Ops.map cGOp).length : Int)) a2) (fun z21 z22 =>
        sel (!z18)
         (ob1 (M_stratagembase_Is z20 5) (fun z23 =>
           sel z23
            (ob1 (M_stratagembase_Is z22 5) (fun z24 =>
              sel z24
               (sel (((z19.map cL_cF).length : Int) == 0)
                 (some (!z21))
                 (some false))
               (some false)))
            (some false)))
         (erM z20
           (erM z22
             (ob1 (M_stratagemlaw26_lists z19 z17) (fun z27 =>
               sel z27
                (some (z21 == (decide (((z17.map cL_cF).length : Int) > 0))))
                (some false)))
             (fun _ => some false))
           (fun _ => some false)))))))
   (fun r8 => some r8))
set_option maxHeartbeats 16000000 in
set_option maxRecDepth 100000 in
theorem A_stratagemlaw26_RegressCases (g : Nat) (a0 : GTask) (a1 : Int) (a2 : List Fact) {r1 : Bool} (h : M_stratagemlaw26_RegressCases g a0 a1 a2 = some r1) : ACall cx 7 [.agg [.sl 1 (a0.Vars.map cI), .sl 1 (a0.Init.map cI), .sl 2 (a0.Goal.map cF), .sl 4 (a0.Ops.map cGOp)], .c (.int .u8 a1), .sl 2 (a2.map cF)] (.c (.bool r1)) := by
  refine acall_of Try.func7 rfl (by decide) rfl (Nat.le_of_ble_eq_true rfl) ?_; intro _; unfold M_stratagemlaw26_RegressCases at h; refine awp_seq ?_; refine awp_region ?_; intro _; refine dr_XDBCase ?_; obtain ⟨o1, h, hK2⟩ := ob1_ok h; refine awp_cut (α := Unit) (fun _ => mkS 97 [(1, .c (.int .u8 a1)), (2, .sl 2 (a2.map cF)), (3, .ptr 3 0 0 0)] [(3, ⟨26, 4, true, [[.sl 1 (a0.Vars.map cI), .sl 1 (a0.Init.map cI), .sl 2 (a0.Goal.map cF), .sl 4 (a0.Ops.map cGOp)]]⟩)]) (fun v => o1 = (.inl v)) ?_ ?_
  · refine awp_seq ?_; refine awp_region ?_; intro _; obtain ⟨z10, u3, h⟩ := ob1_ok h; refine cl_XDBCase rfl (A_stratagembase_Small a0 u3) ?_; intro _; refine spf h (fun c4 h => ?_) (fun c4 h => ?_)
    · intro _; refine spf h (fun c5 h => ?_) (fun c5 h => ?_)
      · intro _; obtain ⟨z11, u6, h⟩ := ob1_ok h; refine cl_XDBCase rfl (A_stratagembase_Proper a0.Vars a2 u6) ?_; intro _; refine spf h (fun c7 h => ?_) (fun c7 h => ?_)
        · intro _; obtain ⟨z12, u8, h⟩ := ob1_ok h; refine cl_XDBCase rfl (A_stratagemlaw26_awake g u8) ?_; intro _; refine dr_XDBCase ?_; refine awp_cond ?_; intro _; refine spl h (fun c9 h => ?_) (fun c9 h => ?_)
          · refine awp_seq ?_; refine awp_region ?_; intro _; obtain ⟨z13, u10, h⟩ := ob1_ok h; refine cl_XDBCase rfl (A_stratagemlaw26_awake g u10) ?_; intro _; refine dr_XDBCase ?_; refine awp_ret ?_; have j11 := Option.some.inj h; subst j11; replace h := (osum_r hK2); intro _; obtain rfl := inj1 h; repeat (first | exact True.intro | refine ci_XDBCase ?_)
          · refine awp_skip ?_; refine ⟨(), (Option.some.inj h).symm, ?_⟩; repeat (first | exact True.intro | refine ci_XDBCase ?_)
        · intro _; refine dr_XDBCase ?_; refine awp_cond ?_; intro _; refine litT ?_; refine awp_seq ?_; refine awp_region ?_; intro _; obtain ⟨z14, u12, h⟩ := ob1_ok h; refine cl_XDBCase rfl (A_stratagemlaw26_awake g u12) ?_; intro _; refine dr_XDBCase ?_; refine awp_ret ?_; have j13 := Option.some.inj h; subst j13; replace h := (osum_r hK2); intro _; obtain rfl := inj1 h; repeat (first | exact True.intro | refine ci_XDBCase ?_)
      · intro _; refine dr_XDBCase ?_; refine awp_cond ?_; intro _; refine litT ?_; refine awp_seq ?_; refine awp_region ?_; intro _; obtain ⟨z15, u14, h⟩ := ob1_ok h; refine cl_XDBCase rfl (A_stratagemlaw26_awake g u14) ?_; intro _; refine dr_XDBCase ?_; refine awp_ret ?_; have j15 := Option.some.inj h; subst j15; replace h := (osum_r hK2); intro _; obtain rfl := inj1 h; repeat (first | exact True.intro | refine ci_XDBCase ?_)
    · intro _; refine dr_XDBCase ?_; refine awp_cond ?_; intro _; refine litT ?_; refine awp_seq ?_; refine awp_region ?_; intro _; obtain ⟨z16, u16, h⟩ := ob1_ok h; refine cl_XDBCase rfl (A_stratagemlaw26_awake g u16) ?_; intro _; refine dr_XDBCase ?_; refine awp_ret ?_; have j17 := Option.some.inj h; subst j17; replace h := (osum_r hK2); intro _; obtain rfl := inj1 h; repeat (first | exact True.intro | refine ci_XDBCase ?_)
  · rintro _ ho; have ho := ho.symm; subst ho; intro _; replace h := (osum_l hK2); refine awp_seq ?_; refine awp_region ?_; intro _; obtain ⟨q18, h⟩ := grd_ok h; refine ⟨rfl, ?_⟩; refine pr_XDBCase ?_; refine dr_XDBCase ?_; refine awp_seq ?_; refine awp_region ?_; intro _; obtain ⟨z17, z18, u19, h⟩ := ob2_ok h; refine cl_XDBCase rfl (A_stratagemref26_Regress g a0 ((IntKind.i64.wrap a1).tmod ((a0.Ops.map cGOp).length : Int)) a2 u19) ?_; intro _; refine dr_XDBCase ?_; refine awp_seq ?_; refine awp_region ?_; intro _; obtain ⟨z19, z20, u20, h⟩ := ob2_ok h; refine cl_XDBCase rfl (A_regress_Regress g a0 ((IntKind.i64.wrap a1).tmod ((a0.Ops.map cGOp).length : Int)) a2 u20) ?_; intro _; refine dr_XDBCase ?_; refine awp_seq ?_; refine awp_region ?_; intro _; obtain ⟨z21, z22, u21, h⟩ := ob2_ok h; refine cl_XDBCase rfl (A_regress_Possible g a0 ((IntKind.i64.wrap a1).tmod ((a0.Ops.map cGOp).length : Int)) a2 u21) ?_; intro _; refine dr_XDBCase ?_; refine awp_seq ?_; refine awp_seq ?_; refine awp_region ?_; intro _; refine dr_XDBCase ?_; refine awp_cond ?_; intro _; refine spl h (fun c22 h => ?_) (fun c22 h => ?_)
    · refine awp_seq ?_; refine awp_region ?_; intro _; obtain ⟨z23, u23, h⟩ := ob1_ok h; refine cl_XDBCase rfl (A_stratagembase_Is z20 5 u23) ?_; intro _; refine spl h (fun c24 h => ?_) (fun c24 h => ?_)
      · intro _; obtain ⟨z24, u25, h⟩ := ob1_ok h; refine cl_XDBCase rfl (A_stratagembase_Is z22 5 u25) ?_; intro _; refine spl h (fun c26 h => ?_) (fun c26 h => ?_)
        · intro _; refine spl h (fun c27 h => ?_) (fun c27 h => ?_)
          · intro _; refine dr_XDBCase ?_; refine awp_ret ?_; intro _; obtain rfl := inj1 h; repeat (first | exact True.intro | refine ci_XDBCase ?_)
          · intro _; refine dr_XDBCase ?_; refine awp_ret ?_; intro _; obtain rfl := inj1 h; repeat (first | exact True.intro | refine ci_XDBCase ?_)
        · intro _; refine dr_XDBCase ?_; refine awp_ret ?_; intro _; obtain rfl := inj1 h; repeat (first | exact True.intro | refine ci_XDBCase ?_)
      · intro _; refine dr_XDBCase ?_; refine awp_ret ?_; intro _; obtain rfl := inj1 h; repeat (first | exact True.intro | refine ci_XDBCase ?_)
    · refine awp_skip ?_; refine awp_seq ?_; rcases z20 with _ | e25
      · replace h := erM_nil h; rcases z22 with _ | e26
        · replace h := erM_nil h; refine awp_region ?_; intro _; refine litT ?_; intro _; refine litT ?_; intro _; obtain ⟨z27, u28, h⟩ := ob1_ok h; refine cl_XDBCase rfl (A_stratagemlaw26_lists z19 z17 u28) ?_; intro _; refine spl h (fun c29 h => ?_) (fun c29 h => ?_)
          · intro _; refine dr_XDBCase ?_; refine awp_ret ?_; intro _; obtain rfl := inj1 h; repeat (first | exact True.intro | refine ci_XDBCase ?_)
          · intro _; refine dr_XDBCase ?_; refine awp_ret ?_; intro _; obtain rfl := inj1 h; repeat (first | exact True.intro | refine ci_XDBCase ?_)
        · replace h := erM_no h; refine awp_region ?_; intro _; refine litT ?_; intro _; refine litF ?_; intro _; refine dr_XDBCase ?_; refine awp_ret ?_; intro _; obtain rfl := inj1 h; repeat (first | exact True.intro | refine ci_XDBCase ?_)
      · replace h := erM_no h; refine awp_region ?_; intro _; refine litF ?_; intro _; refine dr_XDBCase ?_; refine awp_ret ?_; intro _; obtain rfl := inj1 h; repeat (first | exact True.intro | refine ci_XDBCase ?_)
end Go.Proofs.Yteapjpgabdegnaa.Am
/- Range loops of the models as recursions. -/
namespace Go.Proofs.Yteapjpgabdegnaa.Am
def M_stratagemref26_Unless_L1_B (y47 : Fact) (_ : Int) (v51 : Int) : ((List (List Fact))) → (((List (List Fact))) → Option (List (List Fact))) → Option (List (List Fact)) := fun v52 rc => sel (v51 != y47.2)
       (grd ((v52.length + 1) * 24 ≤ 140737488355328) (rc ((v52 ++ [[(y47.1, v51)]]))))
       (rc (v52))
def M_stratagemref26_Unless_L1_E (_ : Fact) (_ : Int) : ((List (List Fact))) → Option (List (List Fact)) := fun v52 => some v52
theorem M_stratagemref26_Unless_L1_rg (y47 : Fact) (y48 : Int) {m : Nat} (hm : y48 = (m : Int)) (hl : m < 9223372036854775807) : ∀ (k n : Nat) (v52 : List (List Fact)), n ≤ m → m < k + n → M_stratagemref26_Unless_L1 y47 y48 k (n : Int) v52 = Rn (M_stratagemref26_Unless_L1_B y47 y48) (M_stratagemref26_Unless_L1_E y47 y48) (m - n) n v52 := by
  intro k n v52
  refine rn_of (L := fun k i (p : ((List (List Fact)))) => match p with | v52 => M_stratagemref26_Unless_L1 y47 y48 k i v52) hl (fun k n p hn => ?_) (fun k p => ?_) k n v52
  · have h2 := w64s (Nat.lt_trans hn hl)
    simp only [M_stratagemref26_Unless_L1, M_stratagemref26_Unless_L1_B, hm, decide_lt hn, sel, h2]
  · simp only [M_stratagemref26_Unless_L1, M_stratagemref26_Unless_L1_E, hm, decide_ge, sel]
theorem M_stratagemref26_Unless_L1_eq (y47 : Fact) (y48 : Int) (v52 : List (List Fact)) {m : Nat} (hm : y48 = (m : Int)) (hl : m < 9223372036854775807) : M_stratagemref26_Unless_L1 y47 y48 ((y48).toNat + 1) 0 v52 = Rn (M_stratagemref26_Unless_L1_B y47 y48) (M_stratagemref26_Unless_L1_E y47 y48) m 0 v52 := by
  have h := M_stratagemref26_Unless_L1_rg y47 y48 hm hl (m + 1) 0 v52 (Nat.zero_le _) (by omega)
  have e : (y48).toNat = m := by rw [hm, Int.toNat_natCast]
  rw [e]
  exact h
def M_stratagemref26_Unless_L2_B (a0 : GTask) (_ : List Fact) (_y47 : Fact) (_ : Int) : ((List (List Fact))) → (((List (List Fact))) → Option (List (List Fact))) → Option (List (List Fact)) := fun v36 rc => ob1 (ixv _y47 (fun y47 =>
        ix a0.Vars y47.1 (fun y48 =>
         M_stratagemref26_Unless_L1 y47 y48 ((y48).toNat + 1) 0 v36)) : Option (List (List Fact)))
       (fun v45 => rc (v45))
def M_stratagemref26_Unless_L2_E (_ : GTask) (_ : List Fact) : ((List (List Fact))) → Option (List (List Fact)) := fun v36 => grd (v36.length ≤ 140737488355328) (some v36)
theorem M_stratagemref26_Unless_L2_rg (a0 : GTask) (a1 : List Fact) (hl : a1.length < 9223372036854775807) : ∀ (k n : Nat) (v36 : List (List Fact)), n ≤ a1.length → a1.length < k + n → M_stratagemref26_Unless_L2 a0 a1 k (n : Int) v36 = Rg (M_stratagemref26_Unless_L2_B a0 a1) (M_stratagemref26_Unless_L2_E a0 a1) (a1.drop n) n v36 := by
  intro k n v36
  refine rg_of (L := fun k i (p : ((List (List Fact)))) => match p with | v36 => M_stratagemref26_Unless_L2 a0 a1 k i v36) hl (fun k n p y hy hn => ?_) (fun k p => ?_) k n v36
  · have h1 := lt_some hy
    have h2 := w64s hn
    first | (simp only [M_stratagemref26_Unless_L2, M_stratagemref26_Unless_L2_B, List.length_map, decide_lt h1, sel, ix_at hy, ixv, h2]; done) | (simp only [List.length_map] at h1 hy; simp only [M_stratagemref26_Unless_L2, M_stratagemref26_Unless_L2_B, List.length_map, decide_lt h1, sel, ix_at hy, ixv, h2]; done)
  · simp only [M_stratagemref26_Unless_L2, M_stratagemref26_Unless_L2_E, List.length_map, decide_ge, sel]
theorem M_stratagemref26_Unless_L2_eq (a0 : GTask) (a1 : List Fact) (v36 : List (List Fact)) (hl : a1.length < 9223372036854775807) : M_stratagemref26_Unless_L2 a0 a1 (((a1.map cF).length : Int).toNat + 1) 0 v36 = Rg (M_stratagemref26_Unless_L2_B a0 a1) (M_stratagemref26_Unless_L2_E a0 a1) a1 0 v36 := by
  have h := M_stratagemref26_Unless_L2_rg a0 a1 hl (a1.length + 1) 0 v36 (Nat.zero_le _) (by omega)
  rw [List.length_map, Int.toNat_natCast]
  exact h
def M_stratagemref26_has_L1_B (_ : List (List Fact)) (a1 : List Fact) (_y8 : List Fact) (_ : Int) : Unit → (Unit → Option (Bool)) → Option (Bool) := fun _ rc => ixv _y8 (fun y8 =>
       ob1 (M_stratagembase_Facts y8 a1) (fun z9 =>
        sel z9
         (some true)
         (rc ())))
def M_stratagemref26_has_L1_E (_ : List (List Fact)) (_ : List Fact) : Unit → Option (Bool) := fun _ => some false
theorem M_stratagemref26_has_L1_rg (a0 : List (List Fact)) (a1 : List Fact) (hl : a0.length < 9223372036854775807) : ∀ (k n : Nat) , n ≤ a0.length → a0.length < k + n → M_stratagemref26_has_L1 a0 a1 k (n : Int) = Rg (M_stratagemref26_has_L1_B a0 a1) (M_stratagemref26_has_L1_E a0 a1) (a0.drop n) n () := by
  intro k n 
  refine rg_of (L := fun k i (p : Unit) => M_stratagemref26_has_L1 a0 a1 k i) hl (fun k n p y hy hn => ?_) (fun k p => ?_) k n ()
  · have h1 := lt_some hy
    have h2 := w64s hn
    first | (simp only [M_stratagemref26_has_L1, M_stratagemref26_has_L1_B, List.length_map, decide_lt h1, sel, ix_at hy, ixv, h2]; done) | (simp only [List.length_map] at h1 hy; simp only [M_stratagemref26_has_L1, M_stratagemref26_has_L1_B, List.length_map, decide_lt h1, sel, ix_at hy, ixv, h2]; done)
  · simp only [M_stratagemref26_has_L1, M_stratagemref26_has_L1_E, List.length_map, decide_ge, sel]
theorem M_stratagemref26_has_L1_eq (a0 : List (List Fact)) (a1 : List Fact)  (hl : a0.length < 9223372036854775807) : M_stratagemref26_has_L1 a0 a1 (((a0.map cL_cF).length : Int).toNat + 1) 0 = Rg (M_stratagemref26_has_L1_B a0 a1) (M_stratagemref26_has_L1_E a0 a1) a0 0 () := by
  have h := M_stratagemref26_has_L1_rg a0 a1 hl (a0.length + 1) 0  (Nat.zero_le _) (by omega)
  rw [List.length_map, Int.toNat_natCast]
  exact h
def M_stratagemref26_Join_L1_B (_ : List (List Fact)) (g : Nat) (y223 : List Fact) (_y237 : List Fact) (_ : Int) : ((List (List Fact))) → (((List (List Fact))) → Option (List (List Fact))) → Option (List (List Fact)) := fun v235 rc => ixv _y237 (fun y237 =>
       ob2 (M_stratagemref26_Merge g y223 y237) (fun z238 z239 =>
        sel (!z239)
         (rc (v235))
         (grd (v235.length ≤ 140737488355328) (ob1 (M_stratagemref26_has v235 z238) (fun z240 =>
           sel z240
            (rc (v235))
            (grd ((v235.length + 1) * 24 ≤ 140737488355328) (rc ((v235 ++ [z238])))))))))
def M_stratagemref26_Join_L1_E (_ : List (List Fact)) (_ : Nat) (_ : List Fact) : ((List (List Fact))) → Option (List (List Fact)) := fun v235 => some v235
theorem M_stratagemref26_Join_L1_rg (a1 : List (List Fact)) (g : Nat) (y223 : List Fact) (hl : a1.length < 9223372036854775807) : ∀ (k n : Nat) (v235 : List (List Fact)), n ≤ a1.length → a1.length < k + n → M_stratagemref26_Join_L1 a1 g y223 k (n : Int) v235 = Rg (M_stratagemref26_Join_L1_B a1 g y223) (M_stratagemref26_Join_L1_E a1 g y223) (a1.drop n) n v235 := by
  intro k n v235
  refine rg_of (L := fun k i (p : ((List (List Fact)))) => match p with | v235 => M_stratagemref26_Join_L1 a1 g y223 k i v235) hl (fun k n p y hy hn => ?_) (fun k p => ?_) k n v235
  · have h1 := lt_some hy
    have h2 := w64s hn
    first | (simp only [M_stratagemref26_Join_L1, M_stratagemref26_Join_L1_B, List.length_map, decide_lt h1, sel, ix_at hy, ixv, h2]; done) | (simp only [List.length_map] at h1 hy; simp only [M_stratagemref26_Join_L1, M_stratagemref26_Join_L1_B, List.length_map, decide_lt h1, sel, ix_at hy, ixv, h2]; done)
  · simp only [M_stratagemref26_Join_L1, M_stratagemref26_Join_L1_E, List.length_map, decide_ge, sel]
theorem M_stratagemref26_Join_L1_eq (a1 : List (List Fact)) (g : Nat) (y223 : List Fact) (v235 : List (List Fact)) (hl : a1.length < 9223372036854775807) : M_stratagemref26_Join_L1 a1 g y223 (((a1.map cL_cF).length : Int).toNat + 1) 0 v235 = Rg (M_stratagemref26_Join_L1_B a1 g y223) (M_stratagemref26_Join_L1_E a1 g y223) a1 0 v235 := by
  have h := M_stratagemref26_Join_L1_rg a1 g y223 hl (a1.length + 1) 0 v235 (Nat.zero_le _) (by omega)
  rw [List.length_map, Int.toNat_natCast]
  exact h
def M_stratagemref26_Join_L2_B (_ : List (List Fact)) (a1 : List (List Fact)) (g : Nat) (_y223 : List Fact) (_ : Int) : ((List (List Fact))) → (((List (List Fact))) → Option (List (List Fact))) → Option (List (List Fact)) := fun v201 rc => ob1 (ixv _y223 (fun y223 =>
        M_stratagemref26_Join_L1 a1 g y223 ((((a1.map cL_cF).length : Int)).toNat + 1) 0 v201) : Option (List (List Fact)))
       (fun v221 => rc (v221))
def M_stratagemref26_Join_L2_E (_ : List (List Fact)) (_ : List (List Fact)) (_ : Nat) : ((List (List Fact))) → Option (List (List Fact)) := fun v201 => some v201
theorem M_stratagemref26_Join_L2_rg (a0 : List (List Fact)) (a1 : List (List Fact)) (g : Nat) (hl : a0.length < 9223372036854775807) : ∀ (k n : Nat) (v201 : List (List Fact)), n ≤ a0.length → a0.length < k + n → M_stratagemref26_Join_L2 a0 a1 g k (n : Int) v201 = Rg (M_stratagemref26_Join_L2_B a0 a1 g) (M_stratagemref26_Join_L2_E a0 a1 g) (a0.drop n) n v201 := by
  intro k n v201
  refine rg_of (L := fun k i (p : ((List (List Fact)))) => match p with | v201 => M_stratagemref26_Join_L2 a0 a1 g k i v201) hl (fun k n p y hy hn => ?_) (fun k p => ?_) k n v201
  · have h1 := lt_some hy
    have h2 := w64s hn
    first | (simp only [M_stratagemref26_Join_L2, M_stratagemref26_Join_L2_B, List.length_map, decide_lt h1, sel, ix_at hy, ixv, h2]; done) | (simp only [List.length_map] at h1 hy; simp only [M_stratagemref26_Join_L2, M_stratagemref26_Join_L2_B, List.length_map, decide_lt h1, sel, ix_at hy, ixv, h2]; done)
  · simp only [M_stratagemref26_Join_L2, M_stratagemref26_Join_L2_E, List.length_map, decide_ge, sel]
theorem M_stratagemref26_Join_L2_eq (a0 : List (List Fact)) (a1 : List (List Fact)) (g : Nat) (v201 : List (List Fact)) (hl : a0.length < 9223372036854775807) : M_stratagemref26_Join_L2 a0 a1 g (((a0.map cL_cF).length : Int).toNat + 1) 0 v201 = Rg (M_stratagemref26_Join_L2_B a0 a1 g) (M_stratagemref26_Join_L2_E a0 a1 g) a0 0 v201 := by
  have h := M_stratagemref26_Join_L2_rg a0 a1 g hl (a0.length + 1) 0 v201 (Nat.zero_le _) (by omega)
  rw [List.length_map, Int.toNat_natCast]
  exact h
def M_stratagemref26_without_L1_B (a0 : GTask) (_ : GOp) (a2 : Fact) (_ : Int) (g : Nat) (_y16 : GEffect) (_ : Int) : ((List (List Fact))) → (((List (List Fact))) → Option ((List (List Fact)) × Bool)) → Option ((List (List Fact)) × Bool) := fun v13 rc => ixv _y16 (fun y16 =>
       ob1 (sel (y16.Var != a2.1)
         (some (.inr ()))
         (sel (y16.Val == a2.2)
           (some (.inr ()))
           (some (.inl ()))) : Option (Unit ⊕ Unit))
        (osum
        (fun _ => ob1 (M_stratagemref26_Unless a0 y16.When) (fun z18 =>
           sel (decide (((z18.map cL_cF).length : Int) > 1024))
            (some ([], false))
            (ob2 (M_stratagemref26_Join g v13 z18) (fun z19 z20 =>
              sel (!z20)
               (some ([], false))
               (rc (z19))))))
        (fun _ => rc (v13))))
def M_stratagemref26_without_L1_E (_ : GTask) (_ : GOp) (_ : Fact) (_ : Int) (_ : Nat) : ((List (List Fact))) → Option ((List (List Fact)) × Bool) := fun v13 => some (v13, true)
theorem M_stratagemref26_without_L1_rg (a0 : GTask) (a1 : GOp) (a2 : Fact) (a3 : Int) (g : Nat) (hl : ((a1.Effs.take ((a1.Effs.map cGEffect).length)).drop a3.toNat).length < 9223372036854775807) : ∀ (k n : Nat) (v13 : List (List Fact)), n ≤ ((a1.Effs.take ((a1.Effs.map cGEffect).length)).drop a3.toNat).length → ((a1.Effs.take ((a1.Effs.map cGEffect).length)).drop a3.toNat).length < k + n → M_stratagemref26_without_L1 a0 a1 a2 a3 g k v13 (n : Int) = Rg (M_stratagemref26_without_L1_B a0 a1 a2 a3 g) (M_stratagemref26_without_L1_E a0 a1 a2 a3 g) (((a1.Effs.take ((a1.Effs.map cGEffect).length)).drop a3.toNat).drop n) n v13 := by
  intro k n v13
  refine rg_of (L := fun k i (p : ((List (List Fact)))) => match p with | v13 => M_stratagemref26_without_L1 a0 a1 a2 a3 g k v13 i) hl (fun k n p y hy hn => ?_) (fun k p => ?_) k n v13
  · have h1 := lt_some hy
    have h2 := w64s hn
    first | (simp only [M_stratagemref26_without_L1, M_stratagemref26_without_L1_B, List.length_map, decide_lt h1, sel, ix_at hy, ixv, h2]; done) | (simp only [List.length_map] at h1 hy; simp only [M_stratagemref26_without_L1, M_stratagemref26_without_L1_B, List.length_map, decide_lt h1, sel, ix_at hy, ixv, h2]; done)
  · simp only [M_stratagemref26_without_L1, M_stratagemref26_without_L1_E, List.length_map, decide_ge, sel]
theorem M_stratagemref26_without_L1_eq (a0 : GTask) (a1 : GOp) (a2 : Fact) (a3 : Int) (g : Nat) (v13 : List (List Fact)) (hl : ((a1.Effs.take ((a1.Effs.map cGEffect).length)).drop a3.toNat).length < 9223372036854775807) : M_stratagemref26_without_L1 a0 a1 a2 a3 g (((((a1.Effs.take ((a1.Effs.map cGEffect).length)).drop a3.toNat).map cGEffect).length : Int).toNat + 1) v13 0 = Rg (M_stratagemref26_without_L1_B a0 a1 a2 a3 g) (M_stratagemref26_without_L1_E a0 a1 a2 a3 g) ((a1.Effs.take ((a1.Effs.map cGEffect).length)).drop a3.toNat) 0 v13 := by
  have h := M_stratagemref26_without_L1_rg a0 a1 a2 a3 g hl (((a1.Effs.take ((a1.Effs.map cGEffect).length)).drop a3.toNat).length + 1) 0 v13 (Nat.zero_le _) (by omega)
  rw [List.length_map, Int.toNat_natCast]
  exact h
def M_stratagemref26_cases_L1_B (_ : List (List Fact)) (_y241 : List Fact) (_ : Int) : ((List (List Fact))) → (((List (List Fact))) → Option ((List (List Fact)) ⊕ ((List (List Fact)) × Bool))) → Option ((List (List Fact)) ⊕ ((List (List Fact)) × Bool)) := fun v239 rc => ixv _y241 (fun y241 =>
       grd (v239.length ≤ 140737488355328) (ob1 (M_stratagemref26_has v239 y241) (fun z242 =>
        sel (!z242)
         (grd ((v239.length + 1) * 24 ≤ 140737488355328) (rc ((v239 ++ [y241]))))
         (rc (v239)))))
def M_stratagemref26_cases_L1_E (_ : List (List Fact)) : ((List (List Fact))) → Option ((List (List Fact)) ⊕ ((List (List Fact)) × Bool)) := fun v239 => some (.inl v239)
theorem M_stratagemref26_cases_L1_rg (z230 : List (List Fact)) (hl : z230.length < 9223372036854775807) : ∀ (k n : Nat) (v239 : List (List Fact)), n ≤ z230.length → z230.length < k + n → M_stratagemref26_cases_L1 z230 k (n : Int) v239 = Rg (M_stratagemref26_cases_L1_B z230) (M_stratagemref26_cases_L1_E z230) (z230.drop n) n v239 := by
  intro k n v239
  refine rg_of (L := fun k i (p : ((List (List Fact)))) => match p with | v239 => M_stratagemref26_cases_L1 z230 k i v239) hl (fun k n p y hy hn => ?_) (fun k p => ?_) k n v239
  · have h1 := lt_some hy
    have h2 := w64s hn
    first | (simp only [M_stratagemref26_cases_L1, M_stratagemref26_cases_L1_B, List.length_map, decide_lt h1, sel, ix_at hy, ixv, h2]; done) | (simp only [List.length_map] at h1 hy; simp only [M_stratagemref26_cases_L1, M_stratagemref26_cases_L1_B, List.length_map, decide_lt h1, sel, ix_at hy, ixv, h2]; done)
  · simp only [M_stratagemref26_cases_L1, M_stratagemref26_cases_L1_E, List.length_map, decide_ge, sel]
theorem M_stratagemref26_cases_L1_eq (z230 : List (List Fact)) (v239 : List (List Fact)) (hl : z230.length < 9223372036854775807) : M_stratagemref26_cases_L1 z230 (((z230.map cL_cF).length : Int).toNat + 1) 0 v239 = Rg (M_stratagemref26_cases_L1_B z230) (M_stratagemref26_cases_L1_E z230) z230 0 v239 := by
  have h := M_stratagemref26_cases_L1_rg z230 hl (z230.length + 1) 0 v239 (Nat.zero_le _) (by omega)
  rw [List.length_map, Int.toNat_natCast]
  exact h
def M_stratagemref26_Minimal_L1_B (_ : List (List Fact)) (v161 : Int) (y211 : List Fact) (_y234 : List Fact) (v232 : Int) : ((Bool)) → (((Bool)) → Option (Bool)) → Option (Bool) := fun v231 rc => ixv _y234 (fun y234 =>
       sel (v161 != v232)
        (ob1 (M_stratagemref26_Contains y211 y234) (fun z235 =>
          sel z235
           (sel (decide (((y234.map cF).length : Int) < ((y211.map cF).length : Int)))
             (rc (false))
             (sel (decide (v232 < v161))
               (rc (false))
               (rc (v231))))
           (rc (v231))))
        (rc (v231)))
def M_stratagemref26_Minimal_L1_E (_ : List (List Fact)) (_ : Int) (_ : List Fact) : ((Bool)) → Option (Bool) := fun v231 => some v231
theorem M_stratagemref26_Minimal_L1_rg (a0 : List (List Fact)) (v161 : Int) (y211 : List Fact) (hl : a0.length < 9223372036854775807) : ∀ (k n : Nat) (v231 : Bool), n ≤ a0.length → a0.length < k + n → M_stratagemref26_Minimal_L1 a0 v161 y211 k v231 (n : Int) = Rg (M_stratagemref26_Minimal_L1_B a0 v161 y211) (M_stratagemref26_Minimal_L1_E a0 v161 y211) (a0.drop n) n v231 := by
  intro k n v231
  refine rg_of (L := fun k i (p : ((Bool))) => match p with | v231 => M_stratagemref26_Minimal_L1 a0 v161 y211 k v231 i) hl (fun k n p y hy hn => ?_) (fun k p => ?_) k n v231
  · have h1 := lt_some hy
    have h2 := w64s hn
    first | (simp only [M_stratagemref26_Minimal_L1, M_stratagemref26_Minimal_L1_B, List.length_map, decide_lt h1, sel, ix_at hy, ixv, h2]; done) | (simp only [List.length_map] at h1 hy; simp only [M_stratagemref26_Minimal_L1, M_stratagemref26_Minimal_L1_B, List.length_map, decide_lt h1, sel, ix_at hy, ixv, h2]; done)
  · simp only [M_stratagemref26_Minimal_L1, M_stratagemref26_Minimal_L1_E, List.length_map, decide_ge, sel]
theorem M_stratagemref26_Minimal_L1_eq (a0 : List (List Fact)) (v161 : Int) (y211 : List Fact) (v231 : Bool) (hl : a0.length < 9223372036854775807) : M_stratagemref26_Minimal_L1 a0 v161 y211 (((a0.map cL_cF).length : Int).toNat + 1) v231 0 = Rg (M_stratagemref26_Minimal_L1_B a0 v161 y211) (M_stratagemref26_Minimal_L1_E a0 v161 y211) a0 0 v231 := by
  have h := M_stratagemref26_Minimal_L1_rg a0 v161 y211 hl (a0.length + 1) 0 v231 (Nat.zero_le _) (by omega)
  rw [List.length_map, Int.toNat_natCast]
  exact h
def M_stratagemref26_Minimal_L3_B (a0 : List (List Fact)) (g : Nat) (_y211 : List Fact) (v161 : Int) : ((List (List Fact))) → (((List (List Fact))) → Option (List (List Fact))) → Option (List (List Fact)) := fun v162 rc => ob1 (ixv _y211 (fun y211 =>
        ob1 (M_stratagemref26_Minimal_L1 a0 v161 y211 ((((a0.map cL_cF).length : Int)).toNat + 1) true 0 : Option (Bool))
         (fun v223 => sel (!v223)
            (some v162)
            (ob1 (M_stratagemref26_Minimal_L2 v162 y211 g ((v162.length : Nat) : Int) : Option (Int))
              (fun v245 => grd (v162.length ≤ 140737488355328) (grd (0 ≤ v245) (grd (0 ≤ v245.toNat) (grd (v245.toNat ≤ (v162.map cL_cF).length) (grd ((0 + ((v162.take v245.toNat).drop 0).length) * 24 ≤ 140737488355328) (grd ((((v162.take v245.toNat).drop 0).length + 1) * 24 ≤ 140737488355328) (grd ((((v162.take v245.toNat).drop 0).length + 1 + ((v162.take ((v162.map cL_cF).length)).drop v245.toNat).length) * 24 ≤ 140737488355328) (some ((((v162.take v245.toNat).drop 0) ++ [y211]) ++ ((v162.take ((v162.map cL_cF).length)).drop v245.toNat))))))))))))) : Option (List (List Fact)))
       (fun v209 => rc (v209))
def M_stratagemref26_Minimal_L3_E (_ : List (List Fact)) (_ : Nat) : ((List (List Fact))) → Option (List (List Fact)) := fun v162 => grd (v162.length ≤ 140737488355328) (some v162)
theorem M_stratagemref26_Minimal_L3_rg (a0 : List (List Fact)) (g : Nat) (hl : a0.length < 9223372036854775807) : ∀ (k n : Nat) (v162 : List (List Fact)), n ≤ a0.length → a0.length < k + n → M_stratagemref26_Minimal_L3 a0 g k (n : Int) v162 = Rg (M_stratagemref26_Minimal_L3_B a0 g) (M_stratagemref26_Minimal_L3_E a0 g) (a0.drop n) n v162 := by
  intro k n v162
  refine rg_of (L := fun k i (p : ((List (List Fact)))) => match p with | v162 => M_stratagemref26_Minimal_L3 a0 g k i v162) hl (fun k n p y hy hn => ?_) (fun k p => ?_) k n v162
  · have h1 := lt_some hy
    have h2 := w64s hn
    first | (simp only [M_stratagemref26_Minimal_L3, M_stratagemref26_Minimal_L3_B, List.length_map, decide_lt h1, sel, ix_at hy, ixv, h2]; done) | (simp only [List.length_map] at h1 hy; simp only [M_stratagemref26_Minimal_L3, M_stratagemref26_Minimal_L3_B, List.length_map, decide_lt h1, sel, ix_at hy, ixv, h2]; done)
  · simp only [M_stratagemref26_Minimal_L3, M_stratagemref26_Minimal_L3_E, List.length_map, decide_ge, sel]
theorem M_stratagemref26_Minimal_L3_eq (a0 : List (List Fact)) (g : Nat) (v162 : List (List Fact)) (hl : a0.length < 9223372036854775807) : M_stratagemref26_Minimal_L3 a0 g (((a0.map cL_cF).length : Int).toNat + 1) 0 v162 = Rg (M_stratagemref26_Minimal_L3_B a0 g) (M_stratagemref26_Minimal_L3_E a0 g) a0 0 v162 := by
  have h := M_stratagemref26_Minimal_L3_rg a0 g hl (a0.length + 1) 0 v162 (Nat.zero_le _) (by omega)
  rw [List.length_map, Int.toNat_natCast]
  exact h
def M_stratagemref26_Regress_L1_B (a0 : GTask) (_ : List Fact) (g : Nat) (y1 : GOp) (_y17 : Fact) (_ : Int) : ((List (List Fact))) → (((List (List Fact))) → Option ((List (List Fact)) × Bool)) → Option ((List (List Fact)) × Bool) := fun v14 rc => ixv _y17 (fun y17 =>
       ob2 (M_stratagemref26_cases g a0 y1 y17) (fun z18 z19 =>
        sel (!z19)
         (some ([], false))
         (ob2 (M_stratagemref26_Join g v14 z18) (fun z20 z21 =>
           sel (!z21)
            (some ([], false))
            (rc (z20))))))
def M_stratagemref26_Regress_L1_E (_ : GTask) (_ : List Fact) (g : Nat) (_ : GOp) : ((List (List Fact))) → Option ((List (List Fact)) × Bool) := fun v14 => ob1 (M_stratagemref26_Minimal g v14) (fun z22 =>
       some (z22, true))
theorem M_stratagemref26_Regress_L1_rg (a0 : GTask) (a2 : List Fact) (g : Nat) (y1 : GOp) (hl : a2.length < 9223372036854775807) : ∀ (k n : Nat) (v14 : List (List Fact)), n ≤ a2.length → a2.length < k + n → M_stratagemref26_Regress_L1 a0 a2 g y1 k v14 (n : Int) = Rg (M_stratagemref26_Regress_L1_B a0 a2 g y1) (M_stratagemref26_Regress_L1_E a0 a2 g y1) (a2.drop n) n v14 := by
  intro k n v14
  refine rg_of (L := fun k i (p : ((List (List Fact)))) => match p with | v14 => M_stratagemref26_Regress_L1 a0 a2 g y1 k v14 i) hl (fun k n p y hy hn => ?_) (fun k p => ?_) k n v14
  · have h1 := lt_some hy
    have h2 := w64s hn
    first | (simp only [M_stratagemref26_Regress_L1, M_stratagemref26_Regress_L1_B, List.length_map, decide_lt h1, sel, ix_at hy, ixv, h2]; done) | (simp only [List.length_map] at h1 hy; simp only [M_stratagemref26_Regress_L1, M_stratagemref26_Regress_L1_B, List.length_map, decide_lt h1, sel, ix_at hy, ixv, h2]; done)
  · simp only [M_stratagemref26_Regress_L1, M_stratagemref26_Regress_L1_E, List.length_map, decide_ge, sel]
theorem M_stratagemref26_Regress_L1_eq (a0 : GTask) (a2 : List Fact) (g : Nat) (y1 : GOp) (v14 : List (List Fact)) (hl : a2.length < 9223372036854775807) : M_stratagemref26_Regress_L1 a0 a2 g y1 (((a2.map cF).length : Int).toNat + 1) v14 0 = Rg (M_stratagemref26_Regress_L1_B a0 a2 g y1) (M_stratagemref26_Regress_L1_E a0 a2 g y1) a2 0 v14 := by
  have h := M_stratagemref26_Regress_L1_rg a0 a2 g y1 hl (a2.length + 1) 0 v14 (Nat.zero_le _) (by omega)
  rw [List.length_map, Int.toNat_natCast]
  exact h
end Go.Proofs.Yteapjpgabdegnaa.Am
/- Range loops of the models as recursions. -/
namespace Go.Proofs.Yteapjpgabdegnaa.Am
end Go.Proofs.Yteapjpgabdegnaa.Am
/- Plain law: the reference of chapter 26; the law RegressCases. -/
namespace Go.Proofs.Yteapjpgabdegnaa.Am
open Go.RowKit
-- Merge
theorem merge_loop (a b : List Fact) (ha : vF (-1) a = true) (hb : vF (-1) b = true) : ∀ (k : Nat) (r s : List Fact) (i j : Nat) (out : List Fact), a.drop i = r → b.drop j = s → i ≤ a.length → j ≤ b.length → r.length + s.length < k → Asc r → Asc s →
    (∀ x ∈ r, x ∈ a) → (∀ x ∈ s, x ∈ b) → (∀ x, x ∈ a ∨ x ∈ b ↔ x ∈ out ∨ x ∈ r ∨ x ∈ s) → Asc out → (∀ x ∈ out, ∀ y ∈ r, x.1 < y.1) → (∀ x ∈ out, ∀ y ∈ s, x.1 < y.1) → out.length + r.length + s.length ≤ 1000000 → a.length ≤ 1000 → b.length ≤ 1000 →
    M_stratagemref26_Merge_L1 a b k i j out = some (joinR a b)
  | 0, r, s, i, j, out, _, _, _, _, hk, _, _, _, _, _, _, _, _, _, _, _ => by omega
  | k + 1, r, s, i, j, out, hr, hs, hi, hj, hk, ar, bs, mr, ms, hm, ao, or, os, hl, hla, hlb => by
    have na := ((vF_iff' a).1 ha).1
    have nb := ((vF_iff' b).1 hb).1
    have lr := congrArg List.length hr
    have ls := congrArg List.length hs
    rw [List.length_drop] at lr ls
    rw [M_stratagemref26_Merge_L1]
    simp only [List.length_map, sel_dec]
    cases r with
    | nil =>
      rw [List.length_nil] at lr
      obtain rfl : i = a.length := by omega
      rw [if_neg (by omega)]
      cases s with
      | nil =>
        rw [List.length_nil] at ls
        obtain rfl : j = b.length := by omega
        have hp : vF (-1) out = true := (vF_iff' out).2 ⟨fun x hx => by
          rcases (hm x).2 (Or.inl hx) with h | h
          · exact na x h
          · exact nb x h, ao⟩
        have hj := joinO_is ha hb hp (fun x => by rw [hm x]; simp)
        rw [if_neg (by omega), ob1_some, osum_inr, grd_t (by omega), joinR, hj]
      | cons y s =>
        obtain ⟨hy, hd, hlt⟩ := drop_cons hs
        obtain ⟨s1, s2⟩ := List.pairwise_cons.1 bs
        rw [if_pos (by omega), ob1_some, osum_inl, show ((j : Int) == (b.length : Int)) = false from by simp; omega, sel_ff, if_neg (by omega), ob1_some, sel_ff, show ((a.length : Int) == (a.length : Int)) = true from by simp, sel_tt, ob1_some, sel_tt, ix_at hy, grd_t (by omega), w64s (by omega)]
        refine merge_loop a b ha hb k [] s a.length (j + 1) _ hr hd hi (by omega) (by simp at hk ⊢; omega) ar s2 mr (fun x hx => ms x (List.mem_cons_of_mem _ hx)) (fun x => ?_) (List.pairwise_append.2 ⟨ao, List.pairwise_singleton .., fun x hx z hz => by rw [List.mem_singleton.1 hz]; exact os x hx y (List.mem_cons_self ..)⟩) (fun _ _ _ h => nomatch h) (fun x hx z hz => ?_) (by simp at hl ⊢; omega) hla hlb
        · rw [hm x, List.mem_append, List.mem_singleton, List.mem_cons, or_assoc]
          simp only [List.not_mem_nil, false_or]
        · rcases List.mem_append.1 hx with hx | hx
          · exact os x hx z (List.mem_cons_of_mem _ hz)
          · rw [List.mem_singleton.1 hx]; exact s1 z hz
    | cons x r =>
      obtain ⟨hx, hdx, hltx⟩ := drop_cons hr
      obtain ⟨r1, r2⟩ := List.pairwise_cons.1 ar
      rw [if_pos (by omega), ob1_some, osum_inl]
      -- take x
      have takex : (∀ y ∈ s, x.1 < y.1) → M_stratagemref26_Merge_L1 a b k ((i + 1 : Nat) : Int) j (out ++ [x]) = some (joinR a b) := fun hxs => by
        refine merge_loop a b ha hb k r s (i + 1) j _ hdx hs hltx hj (by simp at hk ⊢; omega) r2 bs (fun z hz => mr z (List.mem_cons_of_mem _ hz)) ms (fun z => ?_) (List.pairwise_append.2 ⟨ao, List.pairwise_singleton .., fun z hz w hw => by rw [List.mem_singleton.1 hw]; exact or z hz x (List.mem_cons_self ..)⟩) (fun z hz w hw => ?_) (fun z hz w hw => ?_) (by simp at hl ⊢; omega) hla hlb
        · rw [hm z, List.mem_append, List.mem_singleton, List.mem_cons, or_assoc, or_assoc]
        · rcases List.mem_append.1 hz with hz | hz
          · exact or z hz w (List.mem_cons_of_mem _ hw)
          · rw [List.mem_singleton.1 hz]; exact r1 w hw
        · rcases List.mem_append.1 hz with hz | hz
          · exact os z hz w hw
          · rw [List.mem_singleton.1 hz]; exact hxs w hw
      cases s with
      | nil =>
        rw [List.length_nil] at ls
        obtain rfl : j = b.length := by omega
        rw [show ((b.length : Int) == (b.length : Int)) = true from by simp, sel_tt, ob1_some, sel_tt, ix_at hx, grd_t (by omega), w64s (by omega)]
        exact takex (fun _ h => nomatch h)
      | cons y s =>
        obtain ⟨hy, hd, hlt⟩ := drop_cons hs
        obtain ⟨s1, s2⟩ := List.pairwise_cons.1 bs
        rw [show ((j : Int) == (b.length : Int)) = false from by simp; omega, sel_ff, if_pos (by omega), ix_at hx, ix_at hy, ob1_some]
        by_cases h1 : x.1 < y.1
        · rw [decide_eq_true h1, sel_tt, ix_at hx, grd_t (by omega), w64s (by omega)]
          refine takex (fun w hw => ?_)
          rcases List.mem_cons.1 hw with rfl | hw
          · exact h1
          · have := s1 w hw; omega
        · rw [decide_eq_false h1, sel_ff, show ((i : Int) == (a.length : Int)) = false from by simp; omega, sel_ff, ix_at hy, ix_at hx, ob1_some]
          by_cases h2 : y.1 < x.1
          · rw [decide_eq_true h2, sel_tt, ix_at hy, grd_t (by omega), w64s (by omega)]
            refine merge_loop a b ha hb k (x :: r) s i (j + 1) _ hr hd hi (by omega) (by simp at hk ⊢; omega) ar s2 mr (fun z hz => ms z (List.mem_cons_of_mem _ hz)) (fun z => ?_) (List.pairwise_append.2 ⟨ao, List.pairwise_singleton .., fun z hz w hw => by rw [List.mem_singleton.1 hw]; exact os z hz y (List.mem_cons_self ..)⟩) (fun z hz w hw => ?_) (fun z hz w hw => ?_) (by simp at hl ⊢; omega) hla hlb
            · rw [hm z, List.mem_append, List.mem_singleton, List.mem_cons (a := z) (b := y), or_assoc]
              constructor
              · rintro (h | h | h | h)
                · exact Or.inl h
                · exact Or.inr (Or.inr (Or.inl h))
                · exact Or.inr (Or.inl h)
                · exact Or.inr (Or.inr (Or.inr h))
              · rintro (h | h | h | h)
                · exact Or.inl h
                · exact Or.inr (Or.inr (Or.inl h))
                · exact Or.inr (Or.inl h)
                · exact Or.inr (Or.inr (Or.inr h))
            · rcases List.mem_append.1 hz with hz | hz
              · exact or z hz w hw
              · rw [List.mem_singleton.1 hz]
                rcases List.mem_cons.1 hw with rfl | hw
                · exact h2
                · have := r1 w hw; omega
            · rcases List.mem_append.1 hz with hz | hz
              · exact os z hz w (List.mem_cons_of_mem _ hw)
              · rw [List.mem_singleton.1 hz]; exact s1 w hw
          · rw [decide_eq_false h2, sel_ff, ix_at hx, ix_at hy]
            have he : x.1 = y.1 := by omega
            by_cases h3 : x.2 = y.2
            · obtain rfl : x = y := Prod.ext he h3
              rw [show (x.2 != x.2) = false from by simp, sel_ff, ix_at hx, grd_t (by omega), w64s (by omega), w64s (by omega)]
              refine merge_loop a b ha hb k r s (i + 1) (j + 1) _ hdx hd hltx hlt (by simp at hk ⊢; omega) r2 s2 (fun z hz => mr z (List.mem_cons_of_mem _ hz)) (fun z hz => ms z (List.mem_cons_of_mem _ hz)) (fun z => ?_) (List.pairwise_append.2 ⟨ao, List.pairwise_singleton .., fun z hz w hw => by rw [List.mem_singleton.1 hw]; exact or z hz x (List.mem_cons_self ..)⟩) (fun z hz w hw => ?_) (fun z hz w hw => ?_) (by simp at hl ⊢; omega) hla hlb
              · rw [hm z, List.mem_append, List.mem_singleton, List.mem_cons, List.mem_cons]
                constructor
                · rintro (h | (h | h) | h | h)
                  · exact Or.inl (Or.inl h)
                  · exact Or.inl (Or.inr h)
                  · exact Or.inr (Or.inl h)
                  · exact Or.inl (Or.inr h)
                  · exact Or.inr (Or.inr h)
                · rintro ((h | h) | h | h)
                  · exact Or.inl h
                  · exact Or.inr (Or.inl (Or.inl h))
                  · exact Or.inr (Or.inl (Or.inr h))
                  · exact Or.inr (Or.inr (Or.inr h))
              · rcases List.mem_append.1 hz with hz | hz
                · exact or z hz w (List.mem_cons_of_mem _ hw)
                · rw [List.mem_singleton.1 hz]; exact r1 w hw
              · rcases List.mem_append.1 hz with hz | hz
                · exact os z hz w (List.mem_cons_of_mem _ hw)
                · rw [List.mem_singleton.1 hz]; exact s1 w hw
            · rw [show (x.2 != y.2) = true from by rw [bne_iff_ne]; exact h3, sel_tt, joinR, joinO_not (mr x (List.mem_cons_self ..)) (ms y (List.mem_cons_self ..)) he h3]
theorem merge_eq (a b : List Fact) (ha : vF (-1) a = true) (hb : vF (-1) b = true) (g : Nat) (hla : a.length ≤ 64) (hlb : b.length ≤ 64) (hg : 129 ≤ g) : M_stratagemref26_Merge g a b = some (joinR a b) := by
  rw [M_stratagemref26_Merge]
  have := merge_loop a b ha hb g a b 0 0 [] rfl rfl (Nat.zero_le _) (Nat.zero_le _) (by omega) ((vF_iff' a).1 ha).2 ((vF_iff' b).1 hb).2 (fun _ h => h) (fun _ h => h) (fun x => by simp) List.Pairwise.nil (fun _ h => nomatch h) (fun _ h => nomatch h) (by simp; omega) (by omega) (by omega)
  exact this
theorem has_eq (l : List (List Fact)) (p : List Fact) (hl : Sh l) (hx : ∀ x ∈ l, Sh x) : M_stratagemref26_has l p = some (decide (p ∈ l)) := by
  have key : ∀ (r : List (List Fact)) (i : Int), (∀ x ∈ r, Sh x) → Rg (M_stratagemref26_has_L1_B l p) (M_stratagemref26_has_L1_E l p) r i () = some (decide (p ∈ r)) := by
    intro r
    induction r with
    | nil => intro i _; rw [Rg, M_stratagemref26_has_L1_E]; simp
    | cons y r ih =>
      intro i h
      rw [Rg, M_stratagemref26_has_L1_B, ixv, bfacts_eq y p (h y (List.mem_cons_self ..)), ob1_some]
      by_cases e : y = p
      · rw [decide_eq_true e, sel_tt, decide_eq_true (by rw [e]; exact List.mem_cons_self ..)]
      · rw [decide_eq_false e, sel_ff, ih _ (fun u hu => h u (List.mem_cons_of_mem _ hu))]
        congr 1
        rw [Bool.eq_iff_iff, decide_eq_true_iff, decide_eq_true_iff, List.mem_cons]
        constructor
        · exact Or.inr
        · rintro (h | h)
          · exact absurd h.symm e
          · exact h
  rw [M_stratagemref26_has, M_stratagemref26_has_L1_eq l p hl.lt]
  exact key l 0 hx
theorem joinX_le (x : List Fact) : ∀ (b out : List (List Fact)), (joinX x b out).length ≤ out.length + b.length
  | [], out => Nat.le_refl _
  | y :: r, out => by
    rw [joinX, List.length_cons]
    refine Nat.le_trans (joinX_le x r _) ?_
    split
    · rename_i z _
      have : (addN out z).length ≤ out.length + 1 := by unfold addN; split <;> simp
      omega
    · omega
theorem rjoin1 (vars : List Int) (hv : vars.length ≤ 64) (g : Nat) (hg : 129 ≤ g) (b : List (List Fact)) (x : List Fact) (hx : propF vars (-1) x = true) : ∀ (r : List (List Fact)) (i : Int) (v : List (List Fact)), PropL vars r → PropL vars v → v.length + r.length ≤ 1000000000 →
    Rg (M_stratagemref26_Join_L1_B b g x) (M_stratagemref26_Join_L1_E b g x) r i v = some (joinX x r v)
  | [], i, v, _, _, _ => rfl
  | y :: r, i, v, hr, hp, hl => by
    have hy := hr y (List.mem_cons_self ..)
    have hr' : PropL vars r := fun u hu => hr u (List.mem_cons_of_mem _ hu)
    rw [List.length_cons] at hl
    rw [Rg, M_stratagemref26_Join_L1_B, ixv, merge_eq x y (propF_vF' hx) (propF_vF' hy) g (prop_len hv hx) (prop_len hv hy) hg, joinR, joinX]
    cases hj : joinO x y with
    | none =>
      rw [ob2_some, Bool.not_false, sel_tt]
      exact rjoin1 vars hv g hg b x hx r _ v hr' hp (by omega)
    | some z =>
      have hz := joinO_prop hx hy hj
      rw [ob2_some, Bool.not_true, sel_ff, grd_t (by omega), has_eq v z (by show _ ≤ _; omega) (fun u hu => prop_sh hv (hp u hu)), ob1_some]
      by_cases hm : z ∈ v
      · rw [decide_eq_true hm, sel_tt]
        show _ = some (joinX x r (addN v z))
        rw [addN, if_pos hm]
        exact rjoin1 vars hv g hg b x hx r _ v hr' hp (by omega)
      · rw [decide_eq_false hm, sel_ff, grd_t (by omega)]
        show _ = some (joinX x r (addN v z))
        rw [addN, if_neg hm]
        exact rjoin1 vars hv g hg b x hx r _ (v ++ [z]) hr' (fun u hu => by
          rcases List.mem_append.1 hu with h | h
          · exact hp u h
          · rw [List.mem_singleton.1 h]; exact hz) (by rw [List.length_append, List.length_singleton]; omega)
theorem joinX_propv {vars : List Int} {x : List Fact} (hx : propF vars (-1) x = true) {b v : List (List Fact)} (hb : PropL vars b) (hv : PropL vars v) : PropL vars (joinX x b v) := fun z hz => by
  rcases (joinX_mem x z b v).1 hz with h | ⟨y, hy, h⟩
  · exact hv z h
  · exact joinO_prop hx (hb y hy) h
theorem rjoin2 (vars : List Int) (hv : vars.length ≤ 64) (g : Nat) (hg : 129 ≤ g) (a b : List (List Fact)) (hb : PropL vars b) (hbl : b.length ≤ 100000) : ∀ (r : List (List Fact)) (i : Int) (v : List (List Fact)), PropL vars r → PropL vars v → v.length + r.length * 100000 ≤ 500000000 →
    Rg (M_stratagemref26_Join_L2_B a b g) (M_stratagemref26_Join_L2_E a b g) r i v = some (joinXX r b v)
  | [], i, v, _, _, _ => rfl
  | x :: r, i, v, hr, hp, hl => by
    have hx := hr x (List.mem_cons_self ..)
    rw [List.length_cons, Nat.succ_mul] at hl
    have hle := joinX_le x b v
    rw [Rg, M_stratagemref26_Join_L2_B, ixv, M_stratagemref26_Join_L1_eq b g x v (by omega), rjoin1 vars hv g hg b x hx b 0 v hb hp (by omega), ob1_some, joinXX]
    exact rjoin2 vars hv g hg a b hb hbl r _ _ (fun u hu => hr u (List.mem_cons_of_mem _ hu)) (joinX_propv hx hb hp) (by omega)
def resB : Option (List (List Fact)) → List (List Fact) × Bool
  | some l => (l, true)
  | none => ([], false)
theorem refJoin_eq (vars : List Int) (hv : vars.length ≤ 64) (g : Nat) (hg : 129 ≤ g) (a b : List (List Fact)) (ha : PropL vars a) (hb : PropL vars b) (hal : a.length ≤ 1024) (hbl : b.length ≤ 100000) :
    M_stratagemref26_Join g a b = some (joinLL a b, decide ((joinLL a b).length ≤ 1024)) := by
  have h := rjoin2 vars hv g hg a b hb hbl a 0 [] ha (fun _ h => nomatch h) (by simp; omega)
  have hlen : (joinLL a b).length ≤ 500000000 := by
    have key : ∀ (a v : List (List Fact)), (joinXX a b v).length ≤ v.length + a.length * 100000 := by
      intro a
      induction a with
      | nil => intro v; simp [joinXX]
      | cons x r ih =>
        intro v
        have h1 := ih (joinX x b v)
        have h2 := joinX_le x b v
        rw [joinXX, List.length_cons, Nat.succ_mul]; omega
    have := key a []
    rw [List.length_nil] at this
    rw [joinLL]; omega
  rw [M_stratagemref26_Join, M_stratagemref26_Join_L2_eq a b g [] (by omega), h, ob1_some]
  show grd ((joinLL a b).length ≤ _) _ = _
  rw [grd_t (by omega)]
  congr 2
  rw [Bool.eq_iff_iff, decide_eq_true_iff, decide_eq_true_iff]
  show ((joinLL a b).length : Int) ≤ 1024 ↔ _
  omega
-- Unless
theorem unless1 (f : Fact) (d : Int) : ∀ (m n : Nat) (v : List (List Fact)), (v.length + m) ≤ 1000000 → Rn (M_stratagemref26_Unless_L1_B f d) (M_stratagemref26_Unless_L1_E f d) m n v = some (v ++ silOne f m n)
  | 0, n, v, h => by rw [Rn, M_stratagemref26_Unless_L1_E, silOne, List.append_nil]
  | m + 1, n, v, h => by
    rw [Rn, M_stratagemref26_Unless_L1_B, silOne]
    by_cases hn : (n : Int) = f.2
    · rw [show ((n : Int) != f.2) = false from by simp [hn], sel_ff, if_neg (by simp [hn]), List.nil_append]
      exact unless1 f d m (n + 1) v (by omega)
    · rw [show ((n : Int) != f.2) = true from by simp [hn], sel_tt, if_pos hn, grd_t (by omega), ← List.append_assoc]
      exact unless1 f d m (n + 1) _ (by simp; omega)
theorem unless2 (t : GTask) (hd : ∀ n ∈ t.Vars, 0 ≤ n ∧ n ≤ 64) (w : List Fact) : ∀ (r : List Fact) (i : Int) (v : List (List Fact)), (∀ f ∈ r, 0 ≤ f.1 ∧ f.1 < t.Vars.length) → v.length + r.length * 64 ≤ 100000 →
    Rg (M_stratagemref26_Unless_L2_B t w) (M_stratagemref26_Unless_L2_E t w) r i v = some (v ++ silF t.Vars r)
  | [], i, v, hr, h => by rw [List.length_nil] at h; rw [Rg, M_stratagemref26_Unless_L2_E, silF, List.flatMap_nil, List.append_nil, grd_t (by omega)]
  | f :: r, i, v, hr, h => by
    have hf := hr f (List.mem_cons_self ..)
    obtain ⟨d, hdd⟩ : ∃ d, t.Vars[f.1.toNat]? = some d := ⟨_, List.getElem?_eq_getElem (by omega)⟩
    have hd' := hd d (List.mem_of_getElem? hdd)
    rw [Rg, M_stratagemref26_Unless_L2_B, ixv, ix_getD (d := 0) hf.1 hf.2, List.getD_eq_getElem?_getD, hdd, Option.getD_some, M_stratagemref26_Unless_L1_eq f d v (m := d.toNat) (by omega) (by omega)]
    have h1 := unless1 f d d.toNat 0 v (by rw [List.length_cons] at h; omega)
    rw [show ((0 : Nat) : Int) = 0 from rfl] at h1
    rw [h1, ob1_some, unless2 t hd w r _ _ (fun u hu => hr u (List.mem_cons_of_mem _ hu)) (by have := silOne_len f d.toNat 0; rw [List.length_cons] at h; rw [List.length_append]; omega)]
    rw [silF, silF, List.flatMap_cons, List.append_assoc, List.getD_eq_getElem?_getD, hdd, Option.getD_some]
theorem unless_eq (t : GTask) (ok : Ok t.Vars) (w : List Fact) (hw : propF t.Vars (-1) w = true) : M_stratagemref26_Unless t w = some (silF t.Vars w) := by
  have hl := prop_len ok.len hw
  obtain ⟨h1, h2⟩ := (propF_iff t.Vars _ (-1)).1 hw
  have hn := ((vF_iff' _).1 h1).1
  rw [M_stratagemref26_Unless, M_stratagemref26_Unless_L2_eq t w [] (by omega), unless2 t ok.dom w w 0 [] (fun f hf => ⟨(hn f hf).1, (h2 f hf).1⟩) (by simp; omega), List.nil_append]
-- without
theorem without1 (t : GTask) (ok : Ok t.Vars) (o : GOp) (f : Fact) (a : Int) (g : Nat) (hg : 129 ≤ g) : ∀ (r : List GEffect) (i : Int) (l : List (List Fact)), WhenP t.Vars r → PropL t.Vars l → l.length ≤ 1024 →
    Rg (M_stratagemref26_without_L1_B t o f a g) (M_stratagemref26_without_L1_E t o f a g) r i l = some (resB (quietG t.Vars f (r.filter (fun e => e.Var == f.1)) l))
  | [], i, l, _, _, _ => rfl
  | e :: r, i, l, hw, hp, hl => by
    have hw' : WhenP t.Vars r := fun u hu => hw u (List.mem_cons_of_mem _ hu)
    have ih := fun l' h1 h2 => without1 t ok o f a g hg r (i + 1) l' hw' h1 h2
    rw [Rg, M_stratagemref26_without_L1_B, ixv]
    by_cases e1 : e.Var = f.1
    · rw [show (e.Var != f.1) = false from by simp [e1], sel_ff, List.filter_cons_of_pos (by simp [e1]), quietG]
      by_cases e2 : e.Val = f.2
      · rw [show (e.Val == f.2) = true from by simp [e2], sel_tt, ob1_some, osum_inr, if_pos e2]
        exact ih l hp hl
      · have hwe := hw e (List.mem_cons_self ..)
        have hsp := silF_prop hwe
        have hsl := silF_len (fun n hn => (ok.dom n hn).2) e.When
        have hwl := prop_len ok.len hwe
        rw [show (e.Val == f.2) = false from by simp [e2], sel_ff, ob1_some, osum_inl, if_neg e2, unless_eq t ok _ hwe, ob1_some, sel_dec, List.length_map, capO]
        by_cases hc : (silF t.Vars e.When).length ≤ 1024
        · rw [if_neg (by omega), if_pos hc, Option.bind_some, refJoin_eq t.Vars ok.len g hg l _ hp hsp hl (by omega), ob2_some, capO]
          by_cases hj : (joinLL l (silF t.Vars e.When)).length ≤ 1024
          · rw [decide_eq_true hj, Bool.not_true, sel_ff, if_pos hj, Option.bind_some]
            exact ih _ (joinLL_prop hp hsp) hj
          · rw [decide_eq_false hj, Bool.not_false, sel_tt, if_neg hj]; rfl
        · rw [if_pos (by omega), if_neg hc]; rfl
    · rw [show (e.Var != f.1) = true from by simp [e1], sel_tt, ob1_some, osum_inr, List.filter_cons_of_neg (by simp [e1])]
      exact ih l hp hl
theorem without_eq (t : GTask) (ok : Ok t.Vars) (o : GOp) (hes : o.Effs.length ≤ 64) (hw : WhenP t.Vars o.Effs) (f : Fact) (n : Nat) (hn : n ≤ o.Effs.length) (g : Nat) (hg : 129 ≤ g) (l : List (List Fact)) (hp : PropL t.Vars l) (hl : l.length ≤ 1024) :
    M_stratagemref26_without g t o f n l = some (resB (quietG t.Vars f ((o.Effs.drop n).filter (fun e => e.Var == f.1)) l)) := by
  have e : (o.Effs.take (o.Effs.map cGEffect).length).drop (n : Int).toNat = o.Effs.drop n := by rw [List.length_map, List.take_length, Int.toNat_natCast]
  have hs := M_stratagemref26_without_L1_eq t o f n g l (by rw [e, List.length_drop]; omega)
  rw [e] at hs
  rw [M_stratagemref26_without, grd_t (by omega), grd_t (by rw [List.length_map]; omega), e, hs]
  exact without1 t ok o f n g hg _ 0 l (fun u hu => hw u (List.mem_of_mem_drop hu)) hp hl
theorem cases1b (q : List (List Fact)) : ∀ (r : List (List Fact)) (i : Int) (v : List (List Fact)), v.length + r.length ≤ 1000000 → (∀ x ∈ v, Sh x) → (∀ x ∈ r, Sh x) →
    Rg (M_stratagemref26_cases_L1_B q) (M_stratagemref26_cases_L1_E q) r i v = some (.inl (r.foldl addN v))
  | [], i, v, _, _, _ => rfl
  | y :: r, i, v, h, hv, hr => by
    have hr' : ∀ x ∈ r, Sh x := fun u hu => hr u (List.mem_cons_of_mem _ hu)
    rw [List.length_cons] at h
    rw [Rg, M_stratagemref26_cases_L1_B, ixv, grd_t (by omega), has_eq v y (by show _ ≤ _; omega) hv, ob1_some, List.foldl_cons]
    by_cases hm : y ∈ v
    · rw [decide_eq_true hm, Bool.not_true, sel_ff, addN, if_pos hm]
      exact cases1b q r _ v (by omega) hv hr'
    · rw [decide_eq_false hm, Bool.not_false, sel_tt, addN, if_neg hm, grd_t (by omega)]
      exact cases1b q r _ _ (by rw [List.length_append, List.length_singleton]; omega) (fun u hu => by
        rcases List.mem_append.1 hu with h | h
        · exact hv u h
        · rw [List.mem_singleton.1 h]; exact hr y (List.mem_cons_self ..)) hr'
end Go.Proofs.Yteapjpgabdegnaa.Am
/- Plain law: the reference of chapter 26, second part; the law RegressCases. -/
namespace Go.Proofs.Yteapjpgabdegnaa.Am
open Go.RowKit
theorem casesG_app {vars : List Int} {f : Fact} : ∀ {a b : List GEffect}, casesG vars f b = none → casesG vars f (a ++ b) = none
  | [], b, h => h
  | e :: r, b, h => by rw [List.cons_append, casesG, casesG_app h]; rfl
theorem drop_filter_none {vars : List Int} {f : Fact} {es : List GEffect} {p : GEffect → Bool} {n : Nat} (h : casesG vars f ((es.drop n).filter p) = none) : casesG vars f (es.filter p) = none := by
  have e : es.filter p = (es.take n).filter p ++ (es.drop n).filter p := by rw [← List.filter_append, List.take_append_drop]
  rw [e]; exact casesG_app h
def sumB : Option (List (List Fact)) → List (List Fact) ⊕ (List (List Fact) × Bool)
  | some l => .inl l
  | none => .inr ([], false)
theorem cases2b (t : GTask) (ok : Ok t.Vars) (o : GOp) (hes : o.Effs.length ≤ 64) (hw : WhenP t.Vars o.Effs) (f : Fact) (hf : propF t.Vars (-1) [f] = true) (g : Nat) (hg : 129 ≤ g) : ∀ (n k : Nat) (out : List (List Fact)), n ≤ o.Effs.length → n + 1 < k → casesG t.Vars f ((o.Effs.drop n).filter (fun e => e.Var == f.1)) = some out →
    M_stratagemref26_cases_L2 t o f g k ((n : Int) - 1) out = some (sumB (casesE t.Vars f (o.Effs.filter (fun e => e.Var == f.1))))
  | n, 0, out, _, hk, _ => by omega
  | 0, k + 1, out, hn, hk, hc => by
    obtain ⟨m, rfl⟩ : ∃ m, k = m + 1 := ⟨k - 1, by omega⟩
    rw [List.drop_zero] at hc
    have hw' : WhenP t.Vars (o.Effs.filter (fun e => e.Var == f.1)) := fun e he => hw e (List.mem_filter.1 he).1
    have hwo := without_eq t ok o hes hw f 0 (Nat.zero_le _) g hg [[f]] (fun x hx => by rw [List.mem_singleton.1 hx]; exact hf) (by simp)
    rw [List.drop_zero, show ((0 : Nat) : Int) = 0 from rfl] at hwo
    rw [M_stratagemref26_cases_L2, show ((0 : Nat) : Int) - 1 = -1 from rfl, show decide ((-1 : Int) ≥ -1) = true from rfl, sel_tt, show decide ((-1 : Int) ≥ 0) = false from rfl, sel_ff, ob1_some, osum_inl, show IntKind.i64.wrap ((-1 : Int) + 1) = 0 from rfl, hwo, casesE, hc, Option.bind_some]
    obtain ⟨p1, p2⟩ := casesG_prop hw' hc
    have hfl : (o.Effs.filter (fun e => e.Var == f.1)).length ≤ 64 := Nat.le_trans (List.length_filter_le _ _) hes
    cases hq : quietG t.Vars f (o.Effs.filter (fun e => e.Var == f.1)) [[f]] with
    | none => rfl
    | some l =>
      obtain ⟨q1, q2⟩ := quietG_prop hw' (fun x hx => by rw [List.mem_singleton.1 hx]; exact hf) (by simp) hq
      rw [resB, ob2_some, Bool.not_true, sel_ff, M_stratagemref26_cases_L1_eq l out (by omega), cases1b l l 0 out (by omega) (fun x hx => prop_sh ok.len (p1 x hx)) (fun x hx => prop_sh ok.len (q1 x hx)), ob1_some, osum_inl, show IntKind.i64.wrap ((-1 : Int) - 1) = -2 from rfl, M_stratagemref26_cases_L2]
      rfl
  | n + 1, k + 1, out, hn, hk, hc => by
    obtain ⟨e, he, hd⟩ := drop_at (l := o.Effs) (n := n) (by omega)
    have hw' : WhenP t.Vars ((o.Effs.drop (n + 1)).filter (fun e => e.Var == f.1)) := fun e he => hw e (List.mem_of_mem_drop (List.mem_filter.1 he).1)
    have ih := fun out' h => cases2b t ok o hes hw f hf g hg n k out' (by omega) (by omega) h
    rw [hd] at ih
    have hfl : ((o.Effs.drop (n + 1)).filter (fun e => e.Var == f.1)).length ≤ 64 := Nat.le_trans (List.length_filter_le _ _) (by rw [List.length_drop]; omega)
    rw [M_stratagemref26_cases_L2, show ((n + 1 : Nat) : Int) - 1 = (n : Int) from by omega, show decide ((n : Int) ≥ -1) = true from decide_eq_true (by omega), sel_tt, show decide ((n : Int) ≥ 0) = true from decide_eq_true (by omega), sel_tt, ix_at he, w64 (z := (n : Int) - 1) (by omega) (by omega)]
    by_cases e1 : e.Var = f.1
    · rw [List.filter_cons_of_pos (by simp [e1]), casesG, hc, Option.bind_some] at ih
      rw [show (e.Var != f.1) = false from by simp [e1], sel_ff]
      by_cases e2 : e.Val = f.2
      · rw [if_pos e2] at ih
        have hwe := hw e (List.mem_of_getElem? he)
        have hwp : PropL t.Vars [e.When] := fun x hx => by rw [List.mem_singleton.1 hx]; exact hwe
        rw [show (e.Val != f.2) = false from by simp [e2], sel_ff, ob1_some, osum_inl, w64 (z := (n : Int) + 1) (by omega) (by omega)]
        have hwo := without_eq t ok o hes hw f (n + 1) hn g hg [e.When] hwp (by simp)
        rw [show ((n + 1 : Nat) : Int) = (n : Int) + 1 from by omega] at hwo
        rw [hwo]
        obtain ⟨p1, p2⟩ := casesG_prop hw' hc
        cases hq : quietG t.Vars f ((o.Effs.drop (n + 1)).filter (fun e => e.Var == f.1)) [e.When] with
        | none =>
          have hno : casesG t.Vars f ((o.Effs.drop n).filter (fun e => e.Var == f.1)) = none := by
            rw [hd, List.filter_cons_of_pos (by simp [e1]), casesG, hc, Option.bind_some, if_pos e2, hq]; rfl
          rw [casesE, drop_filter_none hno]
          rfl
        | some l =>
          rw [hq, Option.map_some] at ih
          obtain ⟨q1, q2⟩ := quietG_prop hw' hwp (by simp) hq
          rw [resB, ob2_some, Bool.not_true, sel_ff, M_stratagemref26_cases_L1_eq l out (by omega), cases1b l l 0 out (by omega) (fun x hx => prop_sh ok.len (p1 x hx)) (fun x hx => prop_sh ok.len (q1 x hx)), ob1_some, osum_inl]
          exact ih _ rfl
      · rw [if_neg e2] at ih
        rw [show (e.Val != f.2) = true from by simp [e2], sel_tt, ob1_some, osum_inr, ob1_some, osum_inl]
        exact ih _ rfl
    · rw [List.filter_cons_of_neg (by simp [e1])] at ih
      rw [show (e.Var != f.1) = true from by simp [e1], sel_tt, ob1_some, osum_inr, ob1_some, osum_inl]
      exact ih _ hc
theorem casesE_prop {vars : List Int} {f : Fact} {es : List GEffect} {out : List (List Fact)} (hw : WhenP vars es) (hf : propF vars (-1) [f] = true) (hes : es.length ≤ 64) (h : casesE vars f es = some out) : PropL vars out ∧ out.length ≤ 70000 := by
  unfold casesE at h
  cases hc : casesG vars f es with
  | none => rw [hc] at h; cases h
  | some o1 =>
    rw [hc, Option.bind_some] at h
    cases hq : quietG vars f es [[f]] with
    | none => rw [hq] at h; cases h
    | some q =>
      rw [hq, Option.map_some] at h
      obtain rfl := Option.some.inj h
      obtain ⟨p1, p2⟩ := casesG_prop hw hc
      obtain ⟨q1, q2⟩ := quietG_prop hw (fun x hx => by rw [List.mem_singleton.1 hx]; exact hf) (by simp) hq
      have := foldN_len q o1
      refine ⟨fun x hx => ?_, by omega⟩
      rcases (foldN_mem x q o1).1 hx with h | h
      · exact p1 x h
      · exact q1 x h
def resC : Option (List (List Fact)) → List (List Fact) × Bool
  | some l => (l, decide (l.length ≤ 1024))
  | none => ([], false)
theorem refcases_eq (t : GTask) (ok : Ok t.Vars) (o : GOp) (hes : o.Effs.length ≤ 64) (hw : WhenP t.Vars o.Effs) (f : Fact) (hf : propF t.Vars (-1) [f] = true) (g : Nat) (hg : 129 ≤ g) :
    M_stratagemref26_cases g t o f = some (resC (casesE t.Vars f (o.Effs.filter (fun e => e.Var == f.1)))) := by
  have h := cases2b t ok o hes hw f hf g hg o.Effs.length g [] (Nat.le_refl _) (by omega) (by rw [List.drop_length]; rfl)
  rw [M_stratagemref26_cases, List.length_map, w64 (z := (o.Effs.length : Int) - 1) (by omega) (by omega), h, ob1_some]
  cases hc : casesE t.Vars f (o.Effs.filter (fun e => e.Var == f.1)) with
  | none => rfl
  | some l =>
    obtain ⟨-, hl⟩ := casesE_prop (fun e he => hw e (List.mem_filter.1 he).1) hf (Nat.le_trans (List.length_filter_le _ _) hes) hc
    show grd (l.length ≤ _) _ = _
    rw [grd_t (by omega), resC]
    congr 2
    rw [Bool.eq_iff_iff, decide_eq_true_iff, decide_eq_true_iff]
    show ((l.length : Int) ≤ 1024) ↔ _
    omega
-- Minimal
theorem rmin1 (vars : List Int) (hv : vars.length ≤ 64) (l : List (List Fact)) (hl : PropL vars l) (hn : l.Nodup) (i : Nat) (x : List Fact) (hx : l[i]? = some x) : ∀ (r : List (List Fact)) (n : Nat) (v : Bool), l.drop n = r →
    Rg (M_stratagemref26_Minimal_L1_B l i x) (M_stratagemref26_Minimal_L1_E l i x) r n v = some (v && r.all fun y => !(subF y x && decide (y ≠ x)))
  | [], n, v, h => by rw [Rg, M_stratagemref26_Minimal_L1_E, List.all_nil, Bool.and_true]
  | y :: r, n, v, h => by
    obtain ⟨hy, hd, hlt⟩ := drop_cons h
    have hxp := hl x (List.mem_of_getElem? hx)
    have hyp := hl y (List.mem_of_getElem? hy)
    have ih := fun v' => rmin1 vars hv l hl hn i x hx r (n + 1) v' hd
    have vx := propF_vF' hxp
    have vy := propF_vF' hyp
    rw [Rg, M_stratagemref26_Minimal_L1_B, ixv, List.all_cons]
    by_cases e : i = n
    · subst e
      obtain rfl : x = y := by rw [hx] at hy; exact Option.some.inj hy
      rw [show ((i : Int) != (i : Int)) = false from by simp, sel_ff, decide_eq_false (by simp), Bool.and_false, Bool.not_false, Bool.true_and]
      exact ih v
    · have hne : y ≠ x := fun h => e (nodup_at hn hx (h ▸ hy))
      rw [show ((i : Int) != (n : Int)) = true from by rw [bne_iff_ne]; omega, sel_tt, rcontains_eq x y (prop_sh hv hxp) (prop_sh hv hyp), ob1_some, decide_eq_true hne, Bool.and_true]
      cases hs : subF y x with
      | false => rw [sel_ff, Bool.not_false, Bool.true_and]; exact ih v
      | true =>
        obtain ⟨s1, s2⟩ := sub_len ((vF_iff' x).1 vx).2 ((vF_iff' y).1 vy).2 (subF_iff.1 hs)
        have : y.length ≠ x.length := fun e => hne (s2 e)
        rw [sel_tt, sel_dec, List.length_map, List.length_map, if_pos (by omega), Bool.not_true, Bool.false_and, Bool.and_false]
        refine Eq.trans (ih false) ?_
        rw [Bool.false_and]
theorem rmin2 (v : List (List Fact)) (x : List Fact) (hx : Sh x) (hs : SortedL v) (hxv : x ∉ v) (hvl : v.length ≤ 100000) : ∀ (k at' : Nat), at' ≤ v.length → at' < k → (∀ j y, at' ≤ j → v[j]? = some y → cmpLF x y < 0) →
    ∃ p : Nat, M_stratagemref26_Minimal_L2 v x k at' = some (p : Int) ∧ p ≤ v.length ∧ (∀ j y, p ≤ j → v[j]? = some y → cmpLF x y < 0) ∧ (∀ j y, j < p → v[j]? = some y → cmpLF y x < 0)
  | 0, at', _, h, _ => by omega
  | k + 1, 0, h1, h2, h3 => ⟨0, by rw [M_stratagemref26_Minimal_L2]; rfl, Nat.zero_le _, h3, fun j y hj => by omega⟩
  | k + 1, m + 1, h1, h2, h3 => by
    obtain ⟨y, hy, -⟩ := drop_at (l := v) (n := m) (by omega)
    rw [M_stratagemref26_Minimal_L2, show decide (((m + 1 : Nat) : Int) > 0) = true from decide_eq_true (by omega), sel_tt, w64 (z := ((m + 1 : Nat) : Int) - 1) (by omega) (by omega), show ((m + 1 : Nat) : Int) - 1 = (m : Int) from by omega, Int.toNat_natCast, ixn_at hy, less_eq x y hx, ob1_some, grd_t (by omega), grd_t (by omega)]
    have hne : y ≠ x := fun e => hxv (e ▸ List.mem_of_getElem? hy)
    by_cases hc : cmpLF x y < 0
    · rw [decide_eq_true hc, sel_tt]
      refine rmin2 v x hx hs hxv hvl k m (by omega) (by omega) fun j z hj hz => ?_
      by_cases e : j = m
      · subst e; rw [hy] at hz; rw [← Option.some.inj hz]; exact hc
      · exact h3 j z (by omega) hz
    · rw [decide_eq_false hc, sel_ff]
      have hlt : cmpLF y x < 0 := by
        have h0 : cmpLF x y ≠ 0 := fun e => hne (cmpLF_zero.1 e).symm
        rw [cmpLF_anti x y]; omega
      refine ⟨m + 1, rfl, h1, h3, fun j z hj hz => ?_⟩
      by_cases e : j = m
      · subst e; rw [hy] at hz; rw [← Option.some.inj hz]; exact hlt
      · obtain ⟨b1, b2⟩ := List.getElem?_eq_some_iff.1 hz
        obtain ⟨b3, b4⟩ := List.getElem?_eq_some_iff.1 hy
        have := List.pairwise_iff_getElem.1 hs j m b1 b3 (by omega)
        rw [b2, b4] at this
        exact cmpLF_trans this hlt
theorem put_sorted {v : List (List Fact)} {x : List Fact} {p : Nat} (hs : SortedL v) (h1 : ∀ j y, p ≤ j → v[j]? = some y → cmpLF x y < 0) (h2 : ∀ j y, j < p → v[j]? = some y → cmpLF y x < 0) : SortedL (v.take p ++ [x] ++ v.drop p) := by
  have hs' := hs
  unfold SortedL at hs' ⊢
  rw [← List.take_append_drop p v] at hs'
  obtain ⟨a1, a2, a3⟩ := List.pairwise_append.1 hs'
  have ht : ∀ y ∈ v.take p, cmpLF y x < 0 := fun y hy => by
    obtain ⟨j, hj⟩ := List.mem_iff_getElem?.1 hy
    rw [List.getElem?_take] at hj
    split at hj
    · exact h2 j y ‹_› hj
    · cases hj
  have hdd : ∀ y ∈ v.drop p, cmpLF x y < 0 := fun y hy => by
    obtain ⟨j, hj⟩ := List.mem_iff_getElem?.1 hy
    rw [List.getElem?_drop] at hj
    exact h1 (p + j) y (by omega) hj
  refine List.pairwise_append.2 ⟨List.pairwise_append.2 ⟨a1, List.pairwise_singleton .., fun y hy z hz => by rw [List.mem_singleton.1 hz]; exact ht y hy⟩, a2, fun y hy z hz => ?_⟩
  rcases List.mem_append.1 hy with h | h
  · exact a3 y h z hz
  · rw [List.mem_singleton.1 h]; exact hdd z hz
theorem rmin3 (vars : List Int) (hv : vars.length ≤ 64) (g : Nat) (hg : 2000 ≤ g) (l : List (List Fact)) (hl : PropL vars l) (hn : l.Nodup) (hc : l.length ≤ 1024) : ∀ (r : List (List Fact)) (n : Nat) (v : List (List Fact)), l.drop n = r → SortedL v → v.length ≤ n → (∀ z, (z ∈ l ∧ keepF l z = true) ↔ (z ∈ v ∨ (z ∈ r ∧ keepF l z = true))) → (∀ z ∈ v, z ∉ r) →
    Rg (M_stratagemref26_Minimal_L3_B l g) (M_stratagemref26_Minimal_L3_E l g) r n v = some (sortLL (minF l))
  | [], n, v, h, hs, hvl, hm, hr => by
    have e : v = sortLL (minF l) := sortedL_unique v _ hs (sortLL_sorted (hn.filter _)) fun z => by
      rw [sortLL_mem, minF, List.mem_filter, hm z]; simp
    have hlen : v.length ≤ 1024 := by rw [e, sortLL_length]; exact Nat.le_trans (List.length_filter_le _ _) hc
    rw [Rg, M_stratagemref26_Minimal_L3_E, grd_t (by omega), e]
  | x :: r, n, v, h, hs, hvl, hm, hr => by
    obtain ⟨hx, hd, hlt⟩ := drop_cons h
    have hxp := hl x (List.mem_of_getElem? hx)
    have hnd : (x :: r).Nodup := h ▸ (hn.sublist (List.drop_sublist n l))
    obtain ⟨hxr, -⟩ := List.pairwise_cons.1 hnd
    have hxv : x ∉ v := fun hxv => hr x hxv (List.mem_cons_self ..)
    rw [Rg, M_stratagemref26_Minimal_L3_B, ixv, M_stratagemref26_Minimal_L1_eq l n x true (by omega)]
    have h1 := rmin1 vars hv l hl hn n x hx l 0 true rfl
    rw [show ((0 : Nat) : Int) = 0 from rfl, Bool.true_and] at h1
    rw [h1, ob1_some]
    show ob1 (sel (!(keepF l x)) _ _) _ = _
    cases hk : keepF l x with
    | false =>
      rw [Bool.not_false, sel_tt, ob1_some]
      refine rmin3 vars hv g hg l hl hn hc r (n + 1) v hd hs (by omega) (fun z => ?_) (fun z hz hz2 => hr z hz (List.mem_cons_of_mem _ hz2))
      rw [hm z, List.mem_cons]
      constructor
      · rintro (h | ⟨rfl | h, h2⟩)
        · exact Or.inl h
        · rw [hk] at h2; cases h2
        · exact Or.inr ⟨h, h2⟩
      · rintro (h | ⟨h, h2⟩)
        · exact Or.inl h
        · exact Or.inr ⟨Or.inr h, h2⟩
    | true =>
      obtain ⟨p, e2, p1, p2, p3⟩ := rmin2 v x (prop_sh hv hxp) hs hxv (by omega) g v.length (Nat.le_refl _) (by omega) (fun j y hj hy => by
        have := lt_some hy; omega)
      have hlt1 : (v.take p).length ≤ v.length := by rw [List.length_take]; omega
      have hlt2 : (v.drop p).length ≤ v.length := by rw [List.length_drop]; omega
      rw [Bool.not_true, sel_ff, e2, ob1_some, grd_t (by omega), grd_t (by omega), grd_t (by omega), Int.toNat_natCast, grd_t (by rw [List.length_map]; omega), List.length_map, List.take_length, List.drop_zero, grd_t (by omega), grd_t (by omega), grd_t (by omega), ob1_some]
      have hmem : ∀ z, z ∈ v.take p ++ [x] ++ v.drop p ↔ z ∈ v ∨ z = x := fun z => by
        rw [List.mem_append, List.mem_append, List.mem_singleton]
        conv => rhs; rw [← List.take_append_drop p v, List.mem_append]
        constructor
        · rintro ((h | h) | h)
          · exact Or.inl (Or.inl h)
          · exact Or.inr h
          · exact Or.inl (Or.inr h)
        · rintro ((h | h) | h)
          · exact Or.inl (Or.inl h)
          · exact Or.inr h
          · exact Or.inl (Or.inr h)
      refine rmin3 vars hv g hg l hl hn hc r (n + 1) _ hd (put_sorted hs p2 p3) ?_ (fun z => ?_) (fun z hz hz2 => ?_)
      · have := congrArg List.length (List.take_append_drop p v)
        rw [List.length_append] at this
        rw [List.length_append, List.length_append, List.length_singleton]; omega
      · rw [hm z, hmem z, List.mem_cons]
        constructor
        · rintro (h | ⟨h | h, h2⟩)
          · exact Or.inl (Or.inl h)
          · exact Or.inl (Or.inr h)
          · exact Or.inr ⟨h, h2⟩
        · rintro ((h | h) | ⟨h, h2⟩)
          · exact Or.inl h
          · exact Or.inr ⟨Or.inl h, h ▸ hk⟩
          · exact Or.inr ⟨Or.inr h, h2⟩
      · rcases (hmem z).1 hz with h | h
        · exact hr z h (List.mem_cons_of_mem _ hz2)
        · exact hxr z hz2 h.symm
theorem rmin_eq (vars : List Int) (hv : vars.length ≤ 64) (g : Nat) (hg : 2000 ≤ g) (l : List (List Fact)) (hl : PropL vars l) (hn : l.Nodup) (hc : l.length ≤ 1024) : M_stratagemref26_Minimal g l = some (sortLL (minF l)) := by
  rw [M_stratagemref26_Minimal, M_stratagemref26_Minimal_L3_eq l g [] (by omega)]
  exact rmin3 vars hv g hg l hl hn hc l 0 [] rfl List.Pairwise.nil (Nat.le_refl _) (fun z => by simp) (fun _ h => nomatch h)
theorem rreg1 (t : GTask) (ok : Ok t.Vars) (o : GOp) (hes : o.Effs.length ≤ 64) (hw : WhenP t.Vars o.Effs) (p : List Fact) (g : Nat) (hg : 2000 ≤ g) : ∀ (r : List Fact) (i : Int) (l : List (List Fact)), (∀ f ∈ r, propF t.Vars (-1) [f] = true) → PropL t.Vars l → l.Nodup → l.length ≤ 1024 →
    Rg (M_stratagemref26_Regress_L1_B t p g o) (M_stratagemref26_Regress_L1_E t p g o) r i l = some (resB ((regG t.Vars o r l).map fun l => sortLL (minF l)))
  | [], i, l, _, hl, hn, hc => by rw [Rg, M_stratagemref26_Regress_L1_E, rmin_eq t.Vars ok.len g hg l hl hn hc, ob1_some, regG]; rfl
  | f :: r, i, l, hf, hl, hn, hc => by
    have hf1 := hf f (List.mem_cons_self ..)
    rw [Rg, M_stratagemref26_Regress_L1_B, ixv, refcases_eq t ok o hes hw f hf1 g (by omega), regG, casesO]
    cases hce : casesE t.Vars f (o.Effs.filter (fun e => e.Var == f.1)) with
    | none => rfl
    | some c =>
      obtain ⟨c1, c2⟩ := casesE_prop (fun e he => hw e (List.mem_filter.1 he).1) hf1 (Nat.le_trans (List.length_filter_le _ _) hes) hce
      rw [resC, ob2_some, Option.bind_some]
      by_cases h : c.length ≤ 1024
      · rw [decide_eq_true h, Bool.not_true, sel_ff, refJoin_eq t.Vars ok.len g (by omega) l c hl c1 hc (by omega), ob2_some, show capO c = some c from by rw [capO, if_pos h], Option.bind_some]
        by_cases h2 : (joinLL l c).length ≤ 1024
        · rw [decide_eq_true h2, Bool.not_true, sel_ff, show capO (joinLL l c) = some (joinLL l c) from by rw [capO, if_pos h2], Option.bind_some]
          exact rreg1 t ok o hes hw p g hg r _ _ (fun u hu => hf u (List.mem_cons_of_mem _ hu)) (joinLL_prop hl c1) (joinLL_nodup _ _) h2
        · rw [decide_eq_false h2, Bool.not_false, sel_tt, show capO (joinLL l c) = none from by rw [capO, if_neg h2]]; rfl
      · rw [decide_eq_false h, Bool.not_false, sel_tt, show capO c = none from by rw [capO, if_neg h]]; rfl
theorem refRegress_eq (t : GTask) (hgood : goodF t = true) (p : List Fact) (hp : propF t.Vars (-1) p = true) (g : Nat) (hg : 2000 ≤ g) (j : Nat) (o : GOp) (hj : t.Ops[j]? = some o) : M_stratagemref26_Regress g t j p = some (resB (regO t.Vars o p)) := by
  have ok := good_ok hgood
  have oo := good_op hgood (List.mem_of_getElem? hj)
  have hpl := prop_len ok.len hp
  rw [M_stratagemref26_Regress, ix_at hj, M_stratagemref26_Regress_L1_eq t p g o [o.Pre] (by omega)]
  exact rreg1 t ok o oo.effs oo.when p g hg p 0 [o.Pre] (fun f hf => propF_one hp hf) (fun x hx => by rw [List.mem_singleton.1 hx]; exact oo.pre) (by simp) (by simp)
theorem lists_eq (l : List (List Fact)) (hl : Sh l) (hs : ∀ x ∈ l, Sh x) : M_stratagemlaw26_lists l l = some true := by
  have key : ∀ (r : List (List Fact)) (n : Nat), l.drop n = r → Rg (M_stratagemlaw26_lists_L1_B l l) (M_stratagemlaw26_lists_L1_E l l) r n () = some true := by
    intro r
    induction r with
    | nil => intro n _; rfl
    | cons y r ih =>
      intro n h
      obtain ⟨hy, hd, -⟩ := drop_cons h
      rw [Rg, M_stratagemlaw26_lists_L1_B, ixv, ix_at hy, bfacts_eq y y (hs y (List.mem_of_getElem? hy)), ob1_some, decide_eq_true rfl, Bool.not_true, sel_ff]
      exact ih (n + 1) hd
  rw [M_stratagemlaw26_lists, show (((l.map cL_cF).length : Int) != ((l.map cL_cF).length : Int)) = false from by simp, sel_ff, M_stratagemlaw26_lists_L1_eq l l hl.lt]
  exact key l 0 rfl
theorem cases_true (g : Nat) (hg : 2000 ≤ g) (t : GTask) (ht : ShT t) (k : Int) (hk : 0 ≤ k ∧ k ≤ 255) (p : List Fact) (hp : Sh p) : M_stratagemlaw26_RegressCases g t k p = some true := by
  have aw := awake_eq g (by omega)
  rw [M_stratagemlaw26_RegressCases, small_eq t ht, ob1_some, aw]
  cases hs : smallF t with
  | false => rfl
  | true =>
    obtain ⟨hgood, hv, ho⟩ := small_good hs
    have ok := good_ok hgood
    rw [Bool.not_true, sel_ff, List.length_map]
    by_cases h0 : t.Ops.length = 0
    · rw [show ((t.Ops.length : Int) == 0) = true from by simp [h0]]; rfl
    rw [show ((t.Ops.length : Int) == 0) = false from by simp; exact fun h => h0 (by rw [h]; rfl), sel_ff, proper_eq _ _ hp, ob1_some]
    cases hf : propF t.Vars (-1) p with
    | false => rfl
    | true =>
      obtain ⟨j, hj, hjl⟩ := pick hk (n := t.Ops.length) (by omega)
      obtain ⟨o, hoj, -⟩ := drop_at (l := t.Ops) hjl
      have hom := List.mem_of_getElem? hoj
      have hr := regress_eq t ht hgood p hf g (by omega) (j : Int) o (by omega) (by rw [Int.toNat_natCast]; exact hoj)
      have hpo := possible_eq t ht hgood p hf g (by omega) (j : Int) o (by omega) (by rw [Int.toNat_natCast]; exact hoj)
      rw [Bool.not_true, sel_ff, ob1_some, Bool.not_true, sel_ff, ob1_some, osum_inl, grd_t (by omega), hj, hr, hpo, refRegress_eq t hgood p hf g hg j o hoj]
      cases hm : regG t.Vars o p [o.Pre] with
      | none => rw [regO, hm]; rfl
      | some m =>
        have hl : regO t.Vars o p = some (sortLL (minF m)) := by rw [regO, hm]; rfl
        have hreg := regO_prop hgood hf hom hl
        have hmp := pre_prop hgood hf hom hm
        rw [hl, resB, ob2_some, resR, ob2_some, possR, ob2_some, Bool.not_true, sel_ff, erM_n, erM_n, lists_eq _ (by have := hreg.len; show _ ≤ _; omega) (fun x hx => prop_sh ok.len (hreg.prop x hx)), ob1_some, sel_tt, List.length_map]
        congr 1
        rw [beq_iff_eq, Bool.eq_iff_iff, decide_eq_true_iff, decide_eq_true_iff]
        constructor
        · intro h
          obtain ⟨z, hz⟩ := List.exists_mem_of_length_pos h
          obtain ⟨x, hx, -⟩ := below_min (fun x hx => ((vF_iff' x).1 (propF_vF' (hmp.1 x hx))).2) z.length z (Nat.le_refl _) hz
          have := List.length_pos_of_mem ((sortLL_mem x _).2 hx)
          omega
        · intro h
          obtain ⟨z, hz⟩ := List.exists_mem_of_length_pos (l := sortLL (minF m)) (by omega)
          exact List.length_pos_of_mem (List.mem_filter.1 ((sortLL_mem z _).1 hz)).1
end Go.Proofs.Yteapjpgabdegnaa.Am
/- Opening arguments: slices of numbers, of facts, of nogoods, a certificate. -/
namespace Go.Proofs.Yteapjpgabdegnaa
open Go.RowKit Go.ChangeShapes Go.WideShapes Go.Deep Go.Joins

def I64 (x : Int) : Prop := -9223372036854775808 ≤ x ∧ x ≤ 9223372036854775807
theorem I64.of {x : Int} (h : (Lit.int .i64 x).wf = true) : I64 x := by
  have := bounds_i64 h
  exact this

section
variable {H : Type} {enc : TypeId × Value → H} {P : Program} {w : World} {base : Nat} {spare : Nat → Bool} {held : Bool}

/-- within the form's reach -/
def Sized (P : Program) (t : TypeId) (d : DataW H) : Prop := ∀ n ∈ d.weights P t, n ≤ reachBytes
theorem sized_arg {ts : List TypeId} {ds : List (DataW H)} (h : (DataW.weightsEach P ts ds).all (· ≤ reachBytes) = true) {j : Nat} {t : TypeId} {d : DataW H} (ht : ts[j]? = some t) (hd : ds[j]? = some d) : Sized P t d :=
  fun n hn => of_decide_eq_true (List.all_eq_true.1 h n (DataW.weights_mem_each ht hd n hn))
theorem sized_field {t : TypeId} {fs : Array Field} {parts : List (DataW H)} (h : Sized P t (.agg parts)) (hu : P.underlying t = some (.struct fs)) {j : Nat} {f : Field} {d : DataW H} (hf : fs[j]? = some f) (hd : parts[j]? = some d) : Sized P f.type d :=
  fun n hn => h n (by
    simp only [DataW.weights, hu]
    exact DataW.weights_mem_each (j := j) (by simp [List.getElem?_map, hf]) hd n hn)
theorem weightsAll_mem {e : TypeId} : ∀ {l : List (DataW H)} {d : DataW H}, d ∈ l → ∀ n ∈ d.weights P e, n ∈ DataW.weightsAll P e l
  | x :: l, d, hd, n, hn => by
    simp only [DataW.weightsAll, List.mem_append]
    rcases List.mem_cons.1 hd with rfl | h
    · exact Or.inl hn
    · exact Or.inr (weightsAll_mem h n hn)
theorem sized_elem {t e : TypeId} {elems sp : List (DataW H)} (h : Sized P t (.slice elems sp)) (hu : P.underlying t = some (.slice e)) {d : DataW H} (hd : d ∈ elems) : Sized P e d :=
  fun n hn => h n (by
    simp only [DataW.weights, hu, List.mem_cons, List.mem_append]
    exact Or.inr (Or.inl (weightsAll_mem hd n hn)))
theorem sized_len {t e : TypeId} {elems sp : List (DataW H)} (h : Sized P t (.slice elems sp)) (hu : P.underlying t = some (.slice e)) : elems.length * P.bytesOf e ≤ 140737488355328 := by
  have h1 := h ((elems.length + sp.length) * P.bytesOf e) (by simp [DataW.weights, hu])
  have h2 : elems.length * P.bytesOf e ≤ (elems.length + sp.length) * P.bytesOf e := Nat.mul_le_mul_right _ (by omega)
  have h3 : reachBytes ≤ 140737488355328 := by decide
  omega

end

theorem spot_of_cell {w : World} {p : Addr} {v : Value} (h : w.cell? p = some v) : p.spot = none := by
  unfold World.cell? at h
  split at h
  · split at h
    · cases h
    · rename_i hs; simpa using hs
  · cases h
theorem addr_of_cell {w : World} {a : Addr} {k : Nat} {v : Value} (h0 : ∃ u, w.cell? (a.add 0) = some u) (h : w.cell? (a.add k) = some v) : a = ⟨a.block, a.off, none⟩ ∧ w.cell? ⟨a.block, a.off + k, none⟩ = some v := by
  obtain ⟨u, hu⟩ := h0
  have hs := spot_of_cell hu
  obtain ⟨b, off, sp⟩ := a
  simp [Addr.add] at hs
  subst hs
  refine ⟨rfl, ?_⟩
  rw [← h]
  congr 1
  unfold Addr.add
  split
  · subst k; rfl
  · rfl

theorem list_of {α : Type} (n : Nat) (R : Nat → α → Prop) (h : ∀ i, i < n → ∃ x, R i x) : ∃ l : List α, l.length = n ∧ ∀ k x, l[k]? = some x → R k x := by
  induction n with
  | zero => exact ⟨[], rfl, fun k x hx => by simp at hx⟩
  | succ n ih =>
    obtain ⟨l, hl, hr⟩ := ih (fun i hi => h i (by omega))
    obtain ⟨x, hx⟩ := h n (by omega)
    refine ⟨l ++ [x], by simp [hl], fun k y hy => ?_⟩
    by_cases hk : k < n
    · rw [List.getElem?_append_left (by omega)] at hy
      exact hr k y hy
    · rw [List.getElem?_append_right (by omega)] at hy
      have hk' : k - l.length = 0 := by
        have := (List.getElem?_eq_some_iff.1 hy).1
        simp at this
        omega
      rw [hk'] at hy
      simp at hy
      subst hy
      obtain rfl : k = n := by omega
      exact hx

variable {H : Type} {enc : TypeId × Value → H} {w : World} {base : Nat} {spare : Nat → Bool} {held : Bool}
end Go.Proofs.Yteapjpgabdegnaa
/- Opening arguments for the abstract machine: readers that compose. -/
namespace Go.Proofs.Yteapjpgabdegnaa.Am
open Go.RowKit Go.ChangeShapes Go.WideShapes Go.Deep Go.Joins

/-- nothing is owned at the start -/
abbrev mZ : MM := mO (fun _ => False)
theorem noZ (b : Nat) : ¬ Owned nov mZ b := fun h => owned_nov.1 h

section
variable {H : Type} {enc : TypeId × Value → H} {P : Program} {w : World} {base : Nat} {spare : Nat → Bool} {held : Bool}
/-- cells that stand for the values -/
def CellsRv (w : World) (es : List AV) (cs : List Value) : Prop := es.length = cs.length ∧ (∀ (j : Nat) (y : AV) (u : Value), es[j]? = some y → cs[j]? = some u → RV w nov mZ y u ∧ u.oneCell' = true) ∧ ∀ y ∈ es, Fr y
/-- data of type t read as an α -/
def Opens (enc : TypeId × Value → H) (P : Program) (w : World) (base : Nat) (spare : Nat → Bool) (held : Bool) (t : TypeId) {α : Type} (en : α → List AV) (R : α → Prop) : Prop :=
  ∀ (fuel : Nat) (cs : List Value) (x : DataW H × List MemPlace), DataW.trod enc P w base spare held fuel t cs = some x → Sized P t x.1 → ∃ a, R a ∧ CellsRv w (en a) cs

theorem cells_one1 {y : AV} {u : Value} (h : RV w nov mZ y u) (h1 : u.oneCell' = true) (hf : Fr y) : CellsRv w [y] [u] := by
  refine ⟨rfl, fun j z v hz hv => ?_, fun z hz => by simp at hz; subst hz; exact hf⟩
  cases j with
  | zero => simp at hz hv; subst hz hv; exact ⟨h, h1⟩
  | succ j => simp at hz
theorem opens_int {t : TypeId} {k : IntKind} (ht : P.underlying t = some (.int k)) : Opens enc P w base spare held t (fun z : Int => [.c (.int k z)]) (fun z => (Lit.int k z).wf = true) := by
  intro fuel cs x h _
  obtain ⟨z, rfl, _, wz⟩ := DataW.trod_int ht h
  exact ⟨z, wz, cells_one1 (.c _) rfl (.c _)⟩
theorem opens_slice {t e : TypeId} {α : Type} {en : α → List AV} {R : α → Prop} {sz by_ : Nat} (ht : P.underlying t = some (.slice e)) (hc : P.cellsOf e = sz) (hb : P.bytesOf e = by_) (hby : 0 < by_) (hsz : 0 < sz) (he : Opens enc P w base spare held e en R) :
    Opens enc P w base spare held t (fun l : List α => [.sl sz (l.map en)]) (fun l => l.length * by_ ≤ 140737488355328 ∧ ∀ x ∈ l, R x) := by
  intro fuel cs x h hs
  rcases open_slice ht h with ⟨rfl, _⟩ | ⟨a, len, cap, m, n, D, Pl, rfl, _, hl, hm, hmm, rfl, hi⟩
  · refine ⟨[], ⟨by simp, by simp⟩, cells_one1 ?_ rfl (.sl (fun e he => by cases he))⟩
    exact RV.sl (l := []) (b := 0) (off := 0) (f := fun _ _ => undef) (fun h => absurd rfl h) (Nat.zero_le _) (by simp) (fun k e h => by simp at h) (fun k j e x h => by simp at h) (fun k j e x h => by simp at h) (fun e he => by cases he)
  · have hlen := sized_len hs ht
    rw [hb] at hlen
    simp only [List.length_map, List.length_range] at hlen
    have hml : len ≤ m := by rw [hmm]; split <;> omega
    have hcell : ∀ i, i < len → ∃ z : α, R z ∧ ∃ cs', CellsRv w (en z) cs' ∧ cs'.length = sz ∧ ∀ j, j < sz → w.cell? (a.add (i * sz + j)) = cs'[j]? := by
      intro i hi'
      obtain ⟨cs', hcc, ht'⟩ := hi i (by omega)
      rw [hc] at hcc
      obtain ⟨z, hz, hcr⟩ := he n cs' _ ht' (sized_elem hs ht (List.mem_map.2 ⟨i, by simpa using hi', rfl⟩))
      obtain ⟨_, hcl', hat⟩ := World.cells?_some hcc
      exact ⟨z, hz, cs', hcr, hcl', fun j hj => by rw [← hat j hj, Go.Deep.add_add]⟩
    obtain ⟨l, hl', hat⟩ := list_of len _ hcell
    have hR : ∀ x ∈ l, R x := fun x hx => by
      obtain ⟨k, hk⟩ := List.getElem?_of_mem hx
      exact (hat k x hk).1
    have hfr : FrL (l.map en) := by
      intro e he
      obtain ⟨x, hx, rfl⟩ := List.mem_map.1 he
      obtain ⟨k, hk⟩ := List.getElem?_of_mem hx
      obtain ⟨_, cs', hcr, _⟩ := hat k x hk
      exact hcr.2.2
    refine ⟨l, ⟨by rw [hl']; exact hlen, hR⟩, cells_one1 ?_ rfl (.sl hfr)⟩
    have key : ∀ (k j : Nat) (e : List AV) (y : AV), (l.map en)[k]? = some e → e[j]? = some y → e.length = sz ∧ ∃ u, w.cell? ⟨a.block, a.off + (k * sz + j), none⟩ = some u ∧ u.oneCell' = true ∧ RV w nov mZ y u ∧ a = ⟨a.block, a.off, none⟩ ∧ a.block < w.heap.size := by
      intro k j e y hk hj
      rw [List.getElem?_map] at hk
      cases hx : l[k]? with
      | none => rw [hx] at hk; cases hk
      | some z =>
        rw [hx] at hk
        simp at hk
        subst hk
        obtain ⟨_, cs', ⟨c1, c2, _⟩, c4, c5⟩ := hat k z hx
        have hjl : j < sz := by rw [← c4, ← c1]; exact (List.getElem?_eq_some_iff.1 hj).1
        have hcj := c5 j hjl
        have hget : cs'[j]? = some (cs'[j]'(by omega)) := List.getElem?_eq_getElem _
        rw [hget] at hcj
        obtain ⟨r1, r2⟩ := c2 j y _ hj hget
        have h0 : 0 < len := by have := (List.getElem?_eq_some_iff.1 hx).1; omega
        obtain ⟨_, _, cs0, ⟨_, _, _⟩, d4, d5⟩ := hcell 0 h0
        have hz0 := d5 0 hsz
        rw [List.getElem?_eq_getElem (by omega)] at hz0
        obtain ⟨e1, e2⟩ := addr_of_cell ⟨_, by simpa using hz0⟩ hcj
        exact ⟨by rw [c1, c4], _, e2, r2, r1, e1, lt_of_cell (p := ⟨a.block, a.off + (k * sz + j), none⟩) e2⟩
    have hlen2 : (l.map en).length = len := by simp [hl']
    have := RV.sl (w := w) (vs := nov) (m := mZ) (sz := sz) (l := l.map en) (A := some a) (cap := cap) (b := a.block) (off := a.off) (f := fun k j => (w.cell? ⟨a.block, a.off + (k * sz + j), none⟩).getD undef)
      (fun hne => ?_) (by omega) (by rw [hlen2]; exact Nat.le_trans (Nat.le_mul_of_pos_right _ hby) hlen) (fun k e hk => ?_) (fun k j e y hk hj => ?_) (fun k j e y hk hj => ?_) hfr
    · rw [hlen2] at this
      exact this
    · have h0 : 0 < (l.map en).length := List.length_pos_iff.2 hne
      have hk := List.getElem?_eq_getElem h0
      obtain ⟨x0, hx0, hx0'⟩ : ∃ x0, l[0]? = some x0 ∧ (l.map en)[0] = en x0 := by
        have h1 : 0 < l.length := by simpa using h0
        exact ⟨l[0], List.getElem?_eq_getElem h1, by simp⟩
      obtain ⟨_, cs', ⟨c1, _, _⟩, c4, _⟩ := hat 0 x0 hx0
      have hel : 0 < ((l.map en)[0]).length := by rw [hx0', c1, c4]; exact hsz
      obtain ⟨_, _, _, _, _, q1, q2⟩ := key 0 0 _ _ hk (List.getElem?_eq_getElem hel)
      exact ⟨by rw [← q1], noZ _, q2⟩
    · rw [List.getElem?_map] at hk
      cases hx : l[k]? with
      | none => rw [hx] at hk; cases hk
      | some z =>
        rw [hx] at hk
        simp at hk
        subst hk
        obtain ⟨_, cs', ⟨c1, _, _⟩, c4, _⟩ := hat k z hx
        rw [c1, c4]
    · obtain ⟨_, u, q1, q2, _⟩ := key k j e y hk hj
      rw [q1]
      exact ⟨rfl, q2⟩
    · obtain ⟨_, u, q1, _, q3, _⟩ := key k j e y hk hj
      rw [q1]
      exact q3

/-- fields from one on -/
def OpensF (enc : TypeId × Value → H) (P : Program) (w : World) (base : Nat) (spare : Nat → Bool) (held : Bool) (fs : List Field) (off tot : Nat) {α : Type} (en : α → List AV) (R : α → Prop) : Prop :=
  ∀ (fuel : Nat) (cs : List Value) (xs : List (DataW H × List MemPlace)), cs.length = tot → xs.length = fs.length → (∀ (i : Nat) (f : Field), fs[i]? = some f → DataW.trod enc P w base spare held fuel f.type ((cs.drop f.offset).take (P.cellsOf f.type)) = xs[i]?) →
    (∀ (i : Nat) (f : Field) (x : DataW H × List MemPlace), fs[i]? = some f → xs[i]? = some x → Sized P f.type x.1) → ∃ a, R a ∧ CellsRv w (en a) (cs.drop off)
theorem cells_append {a b : List AV} {xs ys : List Value} (h1 : CellsRv w a xs) (h2 : CellsRv w b ys) : CellsRv w (a ++ b) (xs ++ ys) := by
  refine ⟨by rw [List.length_append, List.length_append, h1.1, h2.1], fun j y u hy hu => ?_, fun y hy => ?_⟩
  · rcases Nat.lt_or_ge j a.length with hlt | hge
    · rw [List.getElem?_append_left hlt] at hy
      rw [List.getElem?_append_left (by rw [← h1.1]; exact hlt)] at hu
      exact h1.2.1 j y u hy hu
    · rw [List.getElem?_append_right hge] at hy
      rw [List.getElem?_append_right (by rw [← h1.1]; exact hge)] at hu
      rw [h1.1] at hy
      exact h2.2.1 _ y u hy hu
  · rcases List.mem_append.1 hy with h | h
    · exact h1.2.2 y h
    · exact h2.2.2 y h
theorem opensF_last {f : Field} {off tot : Nat} {α : Type} {en : α → List AV} {R : α → Prop} (ho : f.offset = off) (htot : off + P.cellsOf f.type = tot) (h : Opens enc P w base spare held f.type en R) : OpensF enc P w base spare held [f] off tot en R := by
  intro fuel cs xs hcl hx ht hs
  obtain ⟨x, rfl⟩ := List.length_eq_one_iff.1 hx
  have h1 := ht 0 f rfl
  obtain ⟨a, ha, hc⟩ := h fuel _ x h1 (hs 0 f x rfl rfl)
  refine ⟨a, ha, ?_⟩
  rw [ho, List.take_of_length_le (by simp; omega)] at hc
  exact hc
theorem opensF_cons {f : Field} {fs : List Field} {off off' tot : Nat} {α β : Type} {en : α → List AV} {R : α → Prop} {en' : β → List AV} {R' : β → Prop} (ho : f.offset = off) (hoff : off + P.cellsOf f.type = off') (h : Opens enc P w base spare held f.type en R) (h' : OpensF enc P w base spare held fs off' tot en' R') :
    OpensF enc P w base spare held (f :: fs) off tot (fun p : α × β => en p.1 ++ en' p.2) (fun p => R p.1 ∧ R' p.2) := by
  intro fuel cs xs hcl hx ht hs
  cases xs with
  | nil => simp at hx
  | cons x xs =>
    obtain ⟨a, ha, hc⟩ := h fuel _ x (ht 0 f rfl) (hs 0 f x rfl rfl)
    obtain ⟨b, hb, hc'⟩ := h' fuel cs xs hcl (by simpa using hx) (fun i g hg => by simpa using ht (i + 1) g (by simpa using hg)) (fun i g y hg hy => hs (i + 1) g y (by simpa using hg) (by simpa using hy))
    refine ⟨(a, b), ⟨ha, hb⟩, ?_⟩
    rw [ho] at hc
    have : cs.drop off = (cs.drop off).take (P.cellsOf f.type) ++ cs.drop off' := by
      rw [← hoff, ← List.drop_drop, List.take_append_drop]
    rw [this]
    exact cells_append hc hc'
theorem opens_struct {t : TypeId} {fs : Array Field} {α : Type} {en : α → List AV} {R : α → Prop} (ht : P.underlying t = some (.struct fs)) (h : OpensF enc P w base spare held fs.toList 0 (P.cellsOf t) en R) : Opens enc P w base spare held t en R := by
  intro fuel cs x hx hs
  obtain ⟨xs, n, _, rfl, hcl, hxl, hf⟩ := DataW.trod_struct ht hx
  obtain ⟨a, ha, hc⟩ := h n cs xs hcl (by simpa using hxl) (fun i f hi => hf i f (by simpa using hi)) (fun i f y hi hy => sized_field hs ht (j := i) (by simpa using hi) (by simp [List.getElem?_map, hy]))
  exact ⟨a, ha, by simpa using hc⟩

/-- a struct that came in -/
theorem agg_rv {es : List AV} {us : Array Value} (h : CellsRv w es us.toList) : RV w nov mZ (.agg es) (.agg us) :=
  .agg (by rw [h.1]; simp) (fun j y u hy hu => (h.2.1 j y u hy (by simpa using hu)).1)
theorem one_rv {y : AV} {u : Value} (h : CellsRv w [y] [u]) : RV w nov mZ y u := (h.2.1 0 y u rfl rfl).1
end
end Go.Proofs.Yteapjpgabdegnaa.Am
/- From a walk to a law's row: the arguments read behind the call as before, the result is true. -/
namespace Go.Proofs.Yteapjpgabdegnaa
open Go.RowKit Go.WideShapes Go.ChangeShapes Go.ChangeAt
section
variable {H : Type} {enc : TypeId × Value → H} {P : Program}
theorem post_of_below {f : Func} {s : ChangeSpec} {apart fresh handsOn again : Bool} {W W' : World} {args : Array Value} {v : Value} {ds gs : List (DataW H)} {before pa pv : List MemPlace}
    (hW : DataW.Whole enc P f.params.toList s.vars apart W args.toList ds gs before)
    (hres : ∀ (b : Nat) (sp : Nat → Bool) (hd : Bool), DataW.TrodAll enc P W' b sp hd f.resultTypes.toList (v.resultList f.resultTypes.size) (s.fn H (ds ++ gs)).results [])
    (hargs : ∀ sp : Nat → Bool, (∀ p ∈ before, sp p.block = true) → DataW.TrodAll enc P W' 0 sp true f.params.toList args.toList (s.fn H (ds ++ gs)).args pa)
    (hvars : ∀ sp : Nat → Bool, (∀ p ∈ before, sp p.block = true) → DataW.TrodVars enc P W' sp s.vars (s.fn H (ds ++ gs)).vars pv)
    (hps : before = pa ++ pv) (hb : Below W.heap.size W W')
    (hok : ∀ (j : Nat) (t : TypeId) (r : Value), f.resultTypes[j]? = some t → (v.resultList f.resultTypes.size)[j]? = some r → Value.okWide P W' .any 0 t r) :
    s.post enc P f apart fresh handsOn again W args v W' := by
  have hlt : ∀ p ∈ before, p.block < W.heap.size := fun p hp => hW.lt p hp
  have hold : ∀ p ∈ before, (fun b => decide (b < W.heap.size)) p.block = true := fun p hp => by simpa using hlt p hp
  refine ⟨ds, gs, before, [], pa, pv, hW, hres _ _ _, hargs _ hold, hvars _ hold, World.keptBut_mono (fun p hp => ⟨hp, ?_⟩) (hb.frame (· ∈ before)), fun _ => ?_⟩
  · rw [hps, List.mem_append] at hp
    exact Or.inr hp
  · obtain ⟨_, _, _, _, _, hz, hn⟩ := hW
    refine ⟨hok, _, _, ([] ++ pa) ++ pv, ⟨[] ++ pa, pv, trodAll_append (hargs _ (fun _ _ => rfl)) (hres _ _ _), hvars _ (fun _ _ => rfl), rfl, ?_, ?_⟩, ?_⟩
    · intro b off hp
      have hin : MemPlace.cell b off ∈ before := by rw [hps]; simpa using hp
      rw [hb.frozen (hlt _ hin)]
      exact hz b off hin
    · intro ha
      have := hn ha
      rw [hps] at this
      simpa using this
    · intro p hp _
      rw [hps]
      simpa using hp

theorem trodAll_keep (hl : laidOutB P = true) {W W' : World} (hb : Below W.heap.size W W') (sp : Nat → Bool) (ts : List TypeId) : ∀ (vs : List Value) (ds : List (DataW H)) (ps : List MemPlace), (∀ t ∈ ts, P.readableRec t = true ∧ t < P.types.size) →
    DataW.TrodAll enc P W 0 (fun _ => true) true ts vs ds ps → (∀ x ∈ ps, x.block < W.heap.size) → (∀ x ∈ ps, sp x.block = true) → DataW.TrodAll enc P W' 0 sp true ts vs ds ps := by
  induction ts with
  | nil =>
    intro vs ds ps _ h _ _
    obtain ⟨rfl, rfl, rfl⟩ := trodAll_nil h
    exact trodAll_mk0
  | cons t ts ih =>
    intro vs ds ps hts h hlt hsp
    obtain ⟨v0, vs0, d0, ds0, p0, q0, rfl, rfl, rfl, h0, r0⟩ := trodAll_cons h
    obtain ⟨hr, hrow⟩ := hts t (by simp)
    exact trodAll_cons_mk (WideElems.Trod_stays hl hr hrow h0 (fun x hx => hb.same (hlt x (by simp [hx]))) (fun x hx => hsp x (by simp [hx])))
      (ih _ _ _ (fun t ht => hts t (by simp [ht])) r0 (fun x hx => hlt x (by simp [hx])) (fun x hx => hsp x (by simp [hx])))

/-- A LAW: it returned true, nothing that was there has turned. -/
theorem law_post (hl : laidOutB P = true) {f : Func} {s : ChangeSpec} {T : TypeId} {W W' : World} {args : Array Value} {ds : List (DataW H)} {before : List MemPlace}
    (hvars : s.vars = []) (hrt : f.resultTypes = #[T]) (hT : P.underlying T = some .bool) (hts : f.params.toList.all (fun t => P.readableRec t && decide (t < P.types.size)) = true)
    (hW : DataW.Whole enc P f.params.toList s.vars false W args.toList ds [] before) (hA : DataW.TrodAll enc P W 0 (fun _ => true) true f.params.toList args.toList ds before)
    (e1 : (s.fn H (ds ++ [])).results = [.lit (.bool true)]) (e2 : (s.fn H (ds ++ [])).args = ds) (e3 : (s.fn H (ds ++ [])).vars = []) (hb : Below W.heap.size W W') :
    s.post enc P f false true false false W args (.bool true) W' := by
  have hlt : ∀ x ∈ before, x.block < W.heap.size := fun x hx => hW.lt x hx
  refine post_of_below (pa := before) (pv := []) hW ?_ ?_ ?_ (by simp) hb ?_
  · intro b sp hd
    rw [e1, hrt]
    exact trodAll_cons_mk (shut_bool hT true) trodAll_mk0
  · intro sp hsp
    rw [e2]
    exact trodAll_keep hl hb sp _ _ _ _ (fun t ht => by simpa using List.all_eq_true.1 hts t ht) hA hlt hsp
  · intro sp hsp
    rw [e3, hvars]
    rfl
  · exact ok_one hrt rfl (okWide_bool_mk hT true)
end
end Go.Proofs.Yteapjpgabdegnaa
/- Readers of the arguments of the laws about tasks. -/
namespace Go.Proofs.Yteapjpgabdegnaa.Am
open Go.RowKit Go.ChangeShapes Go.WideShapes Go.Deep Go.Joins
section
variable {H : Type} {enc : TypeId × Value → H} {w : World} {base : Nat} {spare : Nat → Bool} {held : Bool}
theorem opens_conv {P : Program} {t : TypeId} {α β : Type} {en : α → List AV} {en2 : β → List AV} {R : α → Prop} {R2 : β → Prop} (f : α → β) (h : Opens enc P w base spare held t en R) (he : ∀ a, en2 (f a) = en a) (hR : ∀ a, R a → R2 (f a)) : Opens enc P w base spare held t en2 R2 := by
  intro fuel cs x hx hs
  obtain ⟨a, ha, hc⟩ := h fuel cs x hx hs
  exact ⟨f a, hR a ha, by rw [he]; exact hc⟩
theorem opens_str2 {P : Program} {t : TypeId} (ht : P.underlying t = some .string) : Opens enc P w base spare held t (fun s : ByteArray => [.c (.string s)]) (fun s => s.size ≤ 140737488355328) := by
  intro fuel cs x h hsz
  obtain ⟨s, rfl, rfl, -⟩ := DataW.trod_string ht h
  refine ⟨s, ?_, cells_one1 (.c _) rfl (.c _)⟩
  have h1 : s.data.toList.length ≤ 140737488355328 := Nat.le_trans (hsz s.data.toList.length (List.mem_singleton.2 rfl)) (by decide)
  rw [Array.length_toList] at h1
  exact h1
abbrev I64F (p : Fact) : Prop := (Lit.int .i64 p.1).wf = true ∧ (Lit.int .i64 p.2).wf = true
abbrev FactsR (l : List Fact) : Prop := l.length * 16 ≤ 140737488355328 ∧ ∀ p ∈ l, I64F p
abbrev EffR (e : GEffect) : Prop := FactsR e.When
abbrev OpR (o : GOp) : Prop := o.Name.size ≤ 140737488355328 ∧ FactsR o.Pre ∧ o.Effs.length * 40 ≤ 140737488355328 ∧ ∀ e ∈ o.Effs, EffR e
abbrev IntsR (l : List Int) : Prop := l.length * 8 ≤ 140737488355328 ∧ ∀ z ∈ l, (Lit.int .i64 z).wf = true
abbrev TaskR (t : GTask) : Prop := IntsR t.Vars ∧ IntsR t.Init ∧ FactsR t.Goal ∧ t.Ops.length * 72 ≤ 140737488355328 ∧ ∀ o ∈ t.Ops, OpR o
set_option maxRecDepth 100000 in
theorem oFact : Opens enc Try.prog w base spare held 40 cF I64F :=
  opens_struct Try.underlying40 (opensF_cons (off' := 1) rfl (by kernel_rfl) (opens_int Try.underlying3) (opensF_last rfl (by kernel_rfl) (opens_int Try.underlying3)))
set_option maxRecDepth 100000 in
theorem oFacts : Opens enc Try.prog w base spare held 23 (fun l : List Fact => [.sl 2 (l.map cF)]) FactsR :=
  opens_slice Try.underlying23 (by kernel_rfl) (by kernel_rfl) (by decide) (by decide) oFact
set_option maxRecDepth 100000 in
theorem oInts : Opens enc Try.prog w base spare held 22 (fun l : List Int => [.sl 1 (l.map cI)]) IntsR :=
  opens_slice Try.underlying22 (by kernel_rfl) (by kernel_rfl) (by decide) (by decide) (opens_int Try.underlying3)
set_option maxRecDepth 100000 in
theorem oEff : Opens enc Try.prog w base spare held 42 cGEffect EffR :=
  opens_conv (fun p : List Fact × (Int × Int) => { When := p.1, Var := p.2.1, Val := p.2.2 : GEffect })
    (opens_struct Try.underlying42 (opensF_cons (off' := 1) (en := fun l : List Fact => [AV.sl 2 (l.map cF)]) (R := FactsR) (en' := fun z : Int × Int => [AV.c (.int .i64 z.1)] ++ [AV.c (.int .i64 z.2)]) (R' := fun z : Int × Int => (Lit.int .i64 z.1).wf = true ∧ (Lit.int .i64 z.2).wf = true) rfl (by kernel_rfl) oFacts
      (opensF_cons (off' := 2) (en := fun z : Int => [AV.c (.int .i64 z)]) (R := fun z : Int => (Lit.int .i64 z).wf = true) (en' := fun z : Int => [AV.c (.int .i64 z)]) (R' := fun z : Int => (Lit.int .i64 z).wf = true) rfl (by kernel_rfl) (opens_int Try.underlying3) (opensF_last rfl (by kernel_rfl) (opens_int Try.underlying3)))))
    (fun _ => rfl) (fun _ h => h.1)
set_option maxRecDepth 100000 in
theorem oOp : Opens enc Try.prog w base spare held 38 cGOp OpR :=
  opens_conv (fun p : ByteArray × (Int × (List Fact × List GEffect)) => { Name := p.1, Cost := p.2.1, Pre := p.2.2.1, Effs := p.2.2.2 : GOp })
    (opens_struct Try.underlying38 (opensF_cons (off' := 1) (en := fun s : ByteArray => [AV.c (.string s)]) (R := fun s => s.size ≤ 140737488355328) (en' := fun p : Int × (List Fact × List GEffect) => [AV.c (.int .i64 p.1)] ++ ([AV.sl 2 (p.2.1.map cF)] ++ [AV.sl 3 (p.2.2.map cGEffect)])) (R' := fun p : Int × (List Fact × List GEffect) => (Lit.int .i64 p.1).wf = true ∧ (FactsR p.2.1 ∧ (p.2.2.length * 40 ≤ 140737488355328 ∧ ∀ e ∈ p.2.2, EffR e))) rfl (by kernel_rfl) (opens_str2 Try.underlying9)
      (opensF_cons (off' := 2) (en := fun z : Int => [AV.c (.int .i64 z)]) (R := fun z : Int => (Lit.int .i64 z).wf = true) (en' := fun p : List Fact × List GEffect => [AV.sl 2 (p.1.map cF)] ++ [AV.sl 3 (p.2.map cGEffect)]) (R' := fun p : List Fact × List GEffect => FactsR p.1 ∧ (p.2.length * 40 ≤ 140737488355328 ∧ ∀ e ∈ p.2, EffR e)) rfl (by kernel_rfl) (opens_int Try.underlying3)
        (opensF_cons (off' := 3) (en := fun l : List Fact => [AV.sl 2 (l.map cF)]) (R := FactsR) (en' := fun l : List GEffect => [AV.sl 3 (l.map cGEffect)]) (R' := fun l : List GEffect => l.length * 40 ≤ 140737488355328 ∧ ∀ e ∈ l, EffR e) rfl (by kernel_rfl) oFacts
          (opensF_last rfl (by kernel_rfl) (opens_slice Try.underlying36 (by kernel_rfl) (by kernel_rfl) (by decide) (by decide) oEff))))))
    (fun _ => rfl) (fun _ h => ⟨h.1, h.2.2.1, h.2.2.2⟩)
set_option maxRecDepth 100000 in
theorem oTask : Opens enc Try.prog w base spare held 26 cGTask TaskR :=
  opens_conv (fun p : List Int × (List Int × (List Fact × List GOp)) => { Vars := p.1, Init := p.2.1, Goal := p.2.2.1, Ops := p.2.2.2 : GTask })
    (opens_struct Try.underlying26 (opensF_cons (off' := 1) (en := fun l : List Int => [AV.sl 1 (l.map cI)]) (R := IntsR) (en' := fun p : List Int × (List Fact × List GOp) => [AV.sl 1 (p.1.map cI)] ++ ([AV.sl 2 (p.2.1.map cF)] ++ [AV.sl 4 (p.2.2.map cGOp)])) (R' := fun p : List Int × (List Fact × List GOp) => IntsR p.1 ∧ (FactsR p.2.1 ∧ (p.2.2.length * 72 ≤ 140737488355328 ∧ ∀ o ∈ p.2.2, OpR o))) rfl (by kernel_rfl) oInts
      (opensF_cons (off' := 2) (en := fun l : List Int => [AV.sl 1 (l.map cI)]) (R := IntsR) (en' := fun p : List Fact × List GOp => [AV.sl 2 (p.1.map cF)] ++ [AV.sl 4 (p.2.map cGOp)]) (R' := fun p : List Fact × List GOp => FactsR p.1 ∧ (p.2.length * 72 ≤ 140737488355328 ∧ ∀ o ∈ p.2, OpR o)) rfl (by kernel_rfl) oInts
        (opensF_cons (off' := 3) (en := fun l : List Fact => [AV.sl 2 (l.map cF)]) (R := FactsR) (en' := fun l : List GOp => [AV.sl 4 (l.map cGOp)]) (R' := fun l : List GOp => l.length * 72 ≤ 140737488355328 ∧ ∀ o ∈ l, OpR o) rfl (by kernel_rfl) oFacts
          (opensF_last rfl (by kernel_rfl) (opens_slice Try.underlying24 (by kernel_rfl) (by kernel_rfl) (by decide) (by decide) oOp))))))
    (fun _ => rfl) (fun _ h => h)
/-- a struct argument -/
theorem arg_struct {P : Program} {t : TypeId} {fs : Array Field} {α : Type} {en : α → List AV} {R : α → Prop} {r : Reach} {b0 : Nat} {v : Value} {d : DataW H} {p : List MemPlace} (ht : P.underlying t = some (.struct fs)) (hv : Value.okWide P w r b0 t v) (ho : Opens enc P w base spare held t en R) (h : DataW.Trod enc P w base spare held t v d p) (hs : Sized P t d) :
    ∃ a, R a ∧ RV w nov mZ (.agg (en a)) v := by
  obtain ⟨cs, rfl, hsz⟩ := okWide_struct ht hv
  obtain ⟨fuel, hf⟩ := h
  obtain ⟨a, ha, hc⟩ := ho fuel _ _ hf hs
  exact ⟨a, ha, agg_rv hc⟩
/-- an argument of one cell -/
theorem arg_one {P : Program} {t : TypeId} {α : Type} {y : α → AV} {R : α → Prop} {v : Value} {d : DataW H} {p : List MemPlace} (hv : v.cells = #[v]) (ho : Opens enc P w base spare held t (fun a => [y a]) R) (h : DataW.Trod enc P w base spare held t v d p) (hs : Sized P t d) :
    ∃ a, R a ∧ RV w nov mZ (y a) v := by
  obtain ⟨fuel, hf⟩ := h
  rw [hv] at hf
  obtain ⟨a, ha, hc⟩ := ho fuel _ _ hf hs
  exact ⟨a, ha, one_rv hc⟩
end
theorem TaskR.sh {t : GTask} (h : TaskR t) : ShT t := by
  obtain ⟨⟨h1, -⟩, ⟨h2, -⟩, ⟨h3, -⟩, h4, h5⟩ := h
  refine ⟨?_, ?_, ?_, ?_, fun o ho => ?_⟩
  · show _ ≤ _; omega
  · show _ ≤ _; omega
  · show _ ≤ _; omega
  · show _ ≤ _; omega
  · obtain ⟨g1, ⟨g2, -⟩, g3, g4⟩ := h5 o ho
    refine ⟨by omega, ?_, ?_, fun e he => ?_⟩
    · show _ ≤ _; omega
    · show _ ≤ _; omega
    · have := (g4 e he).1
      show _ ≤ _; omega
theorem FactsR.sh {l : List Fact} (h : FactsR l) : Sh l := by have := h.1; show _ ≤ _; omega
theorem u8_wf {z : Int} (h : (Lit.int .u8 z).wf = true) : 0 ≤ z ∧ z ≤ 255 := by
  simp only [Lit.wf, Bool.and_eq_true, decide_eq_true_eq] at h
  have h1 : IntKind.u8.min = 0 := rfl
  have h2 : IntKind.u8.max = 255 := rfl
  omega
theorem law_of {f : FuncId} {args : List AV} {w : World} {cargs : Array Value} (h : ACall cx f args (.c (.bool true))) (hs : cargs.size = args.length) (hr : ∀ (j : Nat) (x : AV) (v : Value), args[j]? = some x → cargs[j]? = some v → RV w nov (mO (fun _ => False)) x v) :
    Calls Try.prog f cargs w fun e w' => e = .returned (.bool true) ∧ Below w.heap.size w w' := by
  refine Calls.mono (h.2 w (fun _ => False) cargs trivial (Nat.zero_le _) (fun b hb => hb.elim) hs hr) ?_
  rintro e w' ⟨v, rfl, h1, h2, _⟩
  rw [rv_c h1]
  exact ⟨rfl, ⟨h2.os, h2.tape, h2.output, h2.size, fun b hb => h2.block b hb (fun h => h)⟩⟩
end Go.Proofs.Yteapjpgabdegnaa.Am
/- stratagemlaw26.RegressCases returns true for every input. No condition beyond the row's own. -/
namespace Go.Proofs.Yteapjpgabdegnaa.rowCases
open Go.ChangeShapes Go.WideShapes Go.ChangeAt Go.RowKit Am

theorem laidOut : laidOutB Try.prog = true := by kernel_rfl
set_option maxRecDepth 100000 in
theorem contract (H : Type) (enc : TypeId × Value → H) (W : World) (base : Nat) (args : Array Value) (ds gs : List (DataW H)) (before : List MemPlace)
    (hval : ∀ (j : Nat) t v, Try.f7.params[j]? = some t → args[j]? = some v → Value.okWide Try.prog W .any base t v)
    (hW : DataW.Whole enc Try.prog Try.f7.params.toList Rows.regressCasesSpec.vars false W args.toList ds gs before)
    (hsz : (DataW.weightsEach Try.prog (Try.f7.params.toList ++ (OpenSpec.ofChange Rows.regressCasesSpec).bare.plain.varTypes Try.prog) (ds ++ gs)).all (· ≤ reachBytes) = true) :
    Calls Try.prog 7 args W fun e W' => ∃ v, e = .returned v ∧ Rows.regressCasesSpec.post enc Try.prog Try.f7 false true false false W args v W' := by
  have hW' := hW
  obtain ⟨p, q, hA0, hV, rfl, hfz, hnd⟩ := hW
  have hA : DataW.TrodAll enc Try.prog W 0 (fun _ => true) true Try.f7.params.toList args.toList ds p := hA0
  rw [Try.params7] at hA hval
  obtain ⟨v0, vs0, d0, ds0, p0, q0, hargs, rfl, rfl, h0, r0⟩ := trodAll_cons hA
  obtain ⟨v1, vs1, d1, ds1, p1, q1, rfl, rfl, rfl, h1, r1⟩ := trodAll_cons r0
  obtain ⟨v2, vs2, d2, ds2, p2, q2, rfl, rfl, rfl, h2, r2⟩ := trodAll_cons r1
  obtain ⟨rfl, rfl, rfl⟩ := trodAll_nil r2
  obtain rfl : args = #[v0, v1, v2] := Array.ext' hargs
  obtain ⟨rfl, rfl⟩ := trodVars_none hV
  simp only [List.append_nil] at hW' hA0 hsz
  rw [Try.params7] at hsz
  obtain ⟨t, ht, k0⟩ := arg_struct Try.underlying26 (hval 0 26 v0 rfl rfl) oTask h0 (sized_arg hsz (j := 0) rfl rfl)
  obtain ⟨a2, len2, cap2, rfl⟩ := okWide_slice Try.underlying23 (hval 2 23 v2 rfl rfl)
  obtain ⟨p, hp, k2⟩ := arg_one rfl oFacts h2 (sized_arg hsz (j := 2) rfl rfl)
  obtain ⟨op, rfl, rfl, rfl, wd⟩ := open_int Try.underlying5 (hval 1 5 v1 rfl rfl) h1
  simp only [List.nil_append] at hW' hA0
  refine (law_of (A_stratagemlaw26_RegressCases 2000 t op p (cases_true 2000 (by decide) t ht.sh op (u8_wf wd) p hp.sh)) rfl (fun j x v hx hv => ?_)).mono fun e W' ⟨he, hb⟩ => ?_
  · match j, hx, hv with
    | 0, hx, hv => simp at hx hv; subst hx hv; exact k0
    | 1, hx, hv => simp at hx hv; subst hx hv; exact .c _
    | 2, hx, hv => simp at hx hv; subst hx hv; exact k2
    | j + 3, hx, hv => simp at hx
  · subst he
    exact ⟨_, rfl, law_post laidOut rfl (by kernel_rfl) Try.underlying4 (by kernel_rfl) hW' hA0 rfl rfl rfl hb⟩
theorem own : ownKnob Try.prog.godebug = none := by kernel_rfl
theorem laid_met (os : Os) : laidMet Try.prog Rows.regressCasesRow.laid ((World.holding Try.prog os ⟨#[], #[], []⟩).forCall (fun _ _ => 0) ⟨#[], #[.agg #[.slice none 0 0, .slice none 0 0, .slice none 0 0, .slice none 0 0], .int .u8 0, .slice none 0 0], []⟩).memory :=
  laidMet_of_run' 8 (by kernel_rfl) (by kernel_rfl)
theorem reads (os : Os) {H : Type} (enc : TypeId × Value → H) : ∃ places, DataW.whole enc Try.prog ((World.holding Try.prog os ⟨#[], #[], []⟩).forCall (fun _ _ => 0) ⟨#[], #[.agg #[.slice none 0 0, .slice none 0 0, .slice none 0 0, .slice none 0 0], .int .u8 0, .slice none 0 0], []⟩).memory Try.f7.params.toList Rows.regressCasesSpec.vars false (#[.agg #[.slice none 0 0, .slice none 0 0, .slice none 0 0, .slice none 0 0], .int .u8 0, .slice none 0 0] : Array Value).toList 8 = some ([.agg [.nil, .nil, .nil, .nil], .lit (.int .u8 0), .nil], [], places) :=
  ⟨[], by kernel_rfl⟩

set_option maxRecDepth 100000 in
theorem lifted (os : Os) (started : os.Started) (H : Type) (enc : TypeId × Value → H) (F : Stop.Interp) :
    ReturnsInHanded {} Try.checked os 7 .any ((OpenSpec.ofChange Rows.regressCasesSpec).preRow enc Try.prog Try.f7 Rows.regressCasesRow.domain false Rows.regressCasesRow.laid) (((OpenSpec.ofChange Rows.regressCasesSpec).at F).post enc Try.prog Try.f7 false true false false) := by
  obtain ⟨places, hx⟩ := reads os enc
  refine returnsInHanded_of_row (C := Try.checked) (s := OpenSpec.ofChange Rows.regressCasesSpec) own started (by kernel_rfl) Try.func7
    (witness_row_at (enc := enc) (C := Try.checked) false (World.holding Try.prog os ⟨#[], #[], []⟩) #[.agg #[.slice none 0 0, .slice none 0 0, .slice none 0 0, .slice none 0 0], .int .u8 0, .slice none 0 0] rfl (by kernel_rfl) (by kernel_rfl) (by kernel_rfl)
      (OpenSpec.preRow_of_cond 8 hx (by kernel_rfl) (fun k hk => by cases hk) (by kernel_rfl) (laid_met os))) ?_
  intro W base args ds gs before hval hW _ _ hsz _ _ _
  exact contract H enc W base args ds gs before hval hW hsz

/-- THE STATEMENT. -/
theorem said : Rows.RegressCasesSaid :=
  OpenClaim.holds_of_cond 7 Try.f7 rfl rfl rfl rfl rfl rfl rfl ⟨rfl, rfl, rfl, rfl, rfl⟩ rfl rfl rfl rfl rfl (by kernel_rfl) Try.func7 (by kernel_rfl)
    (of_decide_eq_true (by kernel_rfl)) (by unfold Func.isWrapper; first | (rw [if_pos (by decide +kernel)]; kernel_rfl) | (rw [if_neg (by decide +kernel)]; exact ⟨rfl, rfl⟩))
    (fun os started H enc _ F => by rw [OpenClaim.pre_eq_preRow]; exact lifted os started H enc F)
end Go.Proofs.Yteapjpgabdegnaa.rowCases
