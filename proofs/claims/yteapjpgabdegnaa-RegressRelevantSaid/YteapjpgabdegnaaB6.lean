/- stratagemlaw26.RegressRelevant returns true for every input. No condition beyond the row's own. -/
import Derived.Test.YteapjpgabdegnaaB2
import Derived.Test.YteapjpgabdegnaaB5
import Derived.Test.YteapjpgabdegnaaB1
import Derived.Deep.Slices
import Derived.Deep.Fields
import Derived.ChangeSame
import Derived.SizedLaws
import Derived.Lib.SmallJoins
import Derived.Below
import Derived.OpenShut
import Derived.Carry
import Derived.Test.YteapjpgabdegnaaRows
import Derived.Deep.DeepHandedRow
import Derived.Lib.LaidTab
/- Models printed by my decompiler, and the proofs that the code computes them. -/
namespace Go.Proofs.Yteapjpgabdegnaa.Am
open Go.RowKit
theorem ci_XDBv {p K : Prop} (k : K) (h : p := by first | rfl | exact ⟨rfl, rfl⟩ | exact BW.fr FrV.h | (refine BW.fr ?_; assumption) | (refine ⟨rfl, ?_⟩; (simp [cGTask, cI, cF, cGOp, cGEffect, take_len_map]; done)) | (refine RowK.same ?_ FrI.h; first | rfl | (simp [cGTask, cI, cF, cGOp, cGEffect, take_len_map]; done)) | (refine row_part1 ?_; (repeat (first | exact BWL.nil | exact bwll_nil | exact bw_c | exact BW.sl | exact BW.nil | exact bwll_same rfl FrI.h | refine BWL.cons ?_ ?_ | refine bwll_cons ?_ ?_ | (refine bw_own3 rfl rfl rfl FrI.h ?_ ?_ ?_) | exact BW.fr FrV.h | exact BW.fr (by assumption) | refine bw_agg ?_ | refine bw_clo ?_ | refine bw_ptr rfl rfl rfl ?_ | (refine bw_own rfl rfl rfl ?_ FrI.h ?_ ?_) | assumption | omega | rfl | (rw [List.length_map, ← List.length_append]; assumption) | (refine bwll_same ?_ FrI.h; (simp [cGTask, cI, cF, cGOp, cGEffect] <;> fail)) | (rw [List.map_set]; refine bwll_set (by first | rfl | omega | simp) ?_ ?_) | refine bwll_set (by first | rfl | omega | simp) ?_ ?_ | (rw [List.map_replicate]; refine bwll_rep ?_) | refine bwll_rep ?_ | (rw [List.map_append]; refine bwll_append ?_ ?_) | refine bwll_append ?_ ?_ | (simp [cGTask, cI, cF, cGOp, cGEffect, take_len_map] <;> fail) | (rw [List.drop_zero, List.take_of_length_le] <;> first | rfl | (simp [cGTask, cI, cF, cGOp, cGEffect] <;> fail)) | (simp; omega))); done) | ((repeat (first | exact BWL.nil | exact bwll_nil | exact bw_c | exact BW.sl | exact BW.nil | exact bwll_same rfl FrI.h | refine BWL.cons ?_ ?_ | refine bwll_cons ?_ ?_ | (refine bw_own3 rfl rfl rfl FrI.h ?_ ?_ ?_) | exact BW.fr FrV.h | exact BW.fr (by assumption) | refine bw_agg ?_ | refine bw_clo ?_ | refine bw_ptr rfl rfl rfl ?_ | (refine bw_own rfl rfl rfl ?_ FrI.h ?_ ?_) | assumption | omega | rfl | (rw [List.length_map, ← List.length_append]; assumption) | (refine bwll_same ?_ FrI.h; (simp [cGTask, cI, cF, cGOp, cGEffect] <;> fail)) | (rw [List.map_set]; refine bwll_set (by first | rfl | omega | simp) ?_ ?_) | refine bwll_set (by first | rfl | omega | simp) ?_ ?_ | (rw [List.map_replicate]; refine bwll_rep ?_) | refine bwll_rep ?_ | (rw [List.map_append]; refine bwll_append ?_ ?_) | refine bwll_append ?_ ?_ | (simp [cGTask, cI, cF, cGOp, cGEffect, take_len_map] <;> fail) | (rw [List.drop_zero, List.take_of_length_le] <;> first | rfl | (simp [cGTask, cI, cF, cGOp, cGEffect] <;> fail)) | (simp; omega))); done) | (simp [cGTask, cI, cF, cGOp, cGEffect, take_len_map]; done)) : p ∧ K := ⟨h, k⟩
theorem pr_XDBv {p K : Prop} (k : K) (h : p := by first | assumption | exact Int.natCast_nonneg _ | exact Nat.le_refl _ | exact Nat.zero_le _ | omega | (simp; done) | (simp; omega)) : p ∧ K := ⟨h, k⟩
theorem pl_XDBv {p K : Prop} (k : K) (h : p := by first | rfl | exact List.length_map _ | (simp; done) | (simp; omega)) : p ∧ K := ⟨h, k⟩
theorem pe_XDBv {p K : Prop} (k : K) (h : p := by first | omega | (simp; omega) | (simp only [List.length_map, List.length_cons, List.length_nil, List.length_append]; omega)) : p ∧ K := ⟨h, k⟩
theorem dr_XDBv {b : Bool} {p K : Prop} (k : K) (h : b = true → p := by intro h; first | (cases h; done) | exact ⟨by kernel_rfl, by kernel_rfl⟩) : (b = true → p) ∧ K := ⟨h, k⟩
theorem cl_XDBv {C : Cx} {n : Nat} {o : Oper} {τ : Nat → AV} {η : Nat → Ent} {f : FuncId} {os : Array Operand} {ats : Array TypeId} {r : AV} {args : List AV} {K : Foot → Prop} (ho : o.op = .call ⟨.value (.func f), os, ats⟩) (hc : ACall C f args r) (k : K ⟨r, [], []⟩)
    (hd : InB n o.dst := by exact Nat.le_of_ble_eq_true rfl) (hargs : os.toList.map (evA τ) = args := by first | rfl | (simp [cGTask, cI, cF, cGOp, cGEffect]; done)) (hfr : frs args := by repeat (first | exact trivial | exact fr1_eA _ | exact fr0_eA _ | exact fr1_fr (by assumption) | exact FrV.h | refine And.intro ?_ ?_)) (hr : fr1 r := by repeat (first | exact trivial | exact fr1_eA _ | exact fr0_eA _ | exact fr1_fr (by assumption) | exact FrV.h | refine And.intro ?_ ?_)) : ∃ f : Foot, LF C n o τ η f ∧ K f := ⟨_, lf_call ho hd hargs hc hfr hr, k⟩
theorem clc_XDBv {C : Cx} {n : Nat} {o : Oper} {τ : Nat → AV} {η : Nat → Ent} {c : Operand} {os : Array Operand} {ats : Array TypeId} {r F : AV} {xs : List AV} {K : Foot → Prop} (ho : o.op = .call ⟨.value c, os, ats⟩) (hc : CCl C F xs r) (hfF : Fr F) (k : K ⟨r, [], []⟩)
    (hd : InB n o.dst := by exact Nat.le_of_ble_eq_true rfl) (hF : evA τ c = F := by rfl) (hargs : os.toList.map (evA τ) = xs := by first | rfl | (simp [cGTask, cI, cF, cGOp, cGEffect]; done)) (hfr : frs xs := by repeat (first | exact trivial | exact fr1_eA _ | exact fr0_eA _ | exact fr1_fr (by assumption) | exact FrV.h | refine And.intro ?_ ?_)) (hr : fr1 r := by repeat (first | exact trivial | exact fr1_eA _ | exact fr0_eA _ | exact fr1_fr (by assumption) | exact FrV.h | refine And.intro ?_ ?_)) : ∃ f : Foot, LF C n o τ η f ∧ K f := ⟨_, lf_clo ho hd hF hargs hc hfF hfr hr, k⟩
theorem clb_XDBv {C : Cx} {n : Nat} {o : Oper} {τ : Nat → AV} {η : Nat → Ent} {f : FuncId} {os : Array Operand} {ats : Array TypeId} {r : AV} {xs ys : List AV} {K : Foot → Prop} (bs : List Nat) (ho : o.op = .call ⟨.value (.func f), os, ats⟩) (hargs : os.toList.map (evA τ) = xs) (hc : ACall C f ys r) (k : K ⟨r, [], bs⟩)
    (hd : InB n o.dst := by exact Nat.le_of_ble_eq_true rfl) (hb : BWL η (dropB η bs) xs ys := by repeat (first | exact BWL.nil | exact bwll_nil | exact bw_c | exact BW.sl | exact BW.nil | exact bwll_same rfl FrI.h | refine BWL.cons ?_ ?_ | refine bwll_cons ?_ ?_ | (refine bw_own3 rfl rfl rfl FrI.h ?_ ?_ ?_) | exact BW.fr FrV.h | exact BW.fr (by assumption) | refine bw_agg ?_ | refine bw_clo ?_ | refine bw_ptr rfl rfl rfl ?_ | (refine bw_own rfl rfl rfl ?_ FrI.h ?_ ?_) | assumption | omega | rfl | (rw [List.length_map, ← List.length_append]; assumption) | (refine bwll_same ?_ FrI.h; (simp [cGTask, cI, cF, cGOp, cGEffect] <;> fail)) | (rw [List.map_set]; refine bwll_set (by first | rfl | omega | simp) ?_ ?_) | refine bwll_set (by first | rfl | omega | simp) ?_ ?_ | (rw [List.map_replicate]; refine bwll_rep ?_) | refine bwll_rep ?_ | (rw [List.map_append]; refine bwll_append ?_ ?_) | refine bwll_append ?_ ?_ | (simp [cGTask, cI, cF, cGOp, cGEffect, take_len_map] <;> fail) | (rw [List.drop_zero, List.take_of_length_le] <;> first | rfl | (simp [cGTask, cI, cF, cGOp, cGEffect] <;> fail)) | (simp; omega))) (hr : scal r := by repeat (first | exact trivial | exact scal0_eA _ | exact scal_eA _ | refine And.intro ?_ ?_)) : ∃ f : Foot, LF C n o τ η f ∧ K f := ⟨_, lf_callB bs ho hd hargs hb hc hr, k⟩
theorem clf_XDBv {C : Cx} {n : Nat} {o : Oper} {τ : Nat → AV} {η : Nat → Ent} {f : FuncId} {os : Array Operand} {ats : Array TypeId} {r : AV} {xs ys : List AV} {K : Foot → Prop} (us : List (Nat × Ent)) (ho : o.op = .call ⟨.value (.func f), os, ats⟩) (hargs : os.toList.map (evA τ) = xs) (hc : ACall C f ys r) (k : K ⟨r, us, []⟩)
    (hus : allUs η us := by repeat (first | exact trivial | refine And.intro rfl ?_)) (hul : ltUs n us := by repeat (first | exact trivial | refine And.intro (Nat.le_of_ble_eq_true rfl) ?_)) (hd : InB n o.dst := by exact Nat.le_of_ble_eq_true rfl) (hb : BWL η (dropB η (us.map (·.1))) xs ys := by repeat (first | exact BWL.nil | exact bwll_nil | exact bw_c | exact BW.sl | exact BW.nil | exact bwll_same rfl FrI.h | refine BWL.cons ?_ ?_ | refine bwll_cons ?_ ?_ | (refine bw_own3 rfl rfl rfl FrI.h ?_ ?_ ?_) | exact BW.fr FrV.h | exact BW.fr (by assumption) | refine bw_agg ?_ | refine bw_clo ?_ | refine bw_ptr rfl rfl rfl ?_ | (refine bw_own rfl rfl rfl ?_ FrI.h ?_ ?_) | assumption | omega | rfl | (rw [List.length_map, ← List.length_append]; assumption) | (refine bwll_same ?_ FrI.h; (simp [cGTask, cI, cF, cGOp, cGEffect] <;> fail)) | (rw [List.map_set]; refine bwll_set (by first | rfl | omega | simp) ?_ ?_) | refine bwll_set (by first | rfl | omega | simp) ?_ ?_ | (rw [List.map_replicate]; refine bwll_rep ?_) | refine bwll_rep ?_ | (rw [List.map_append]; refine bwll_append ?_ ?_) | refine bwll_append ?_ ?_ | (simp [cGTask, cI, cF, cGOp, cGEffect, take_len_map] <;> fail) | (rw [List.drop_zero, List.take_of_length_le] <;> first | rfl | (simp [cGTask, cI, cF, cGOp, cGEffect] <;> fail)) | (simp; omega))) (hr : fr1 r := by repeat (first | exact trivial | exact fr1_eA _ | exact fr0_eA _ | exact fr1_fr (by assumption) | exact FrV.h | refine And.intro ?_ ?_)) : ∃ f : Foot, LF C n o τ η f ∧ K f := ⟨_, lf_callF us (allUs_at hus) (ltUs_at hul) ho hd hargs hb hc hr, k⟩
theorem clg_XDBv {C : Cx} {n : Nat} {o : Oper} {τ : Nat → AV} {η : Nat → Ent} {f : FuncId} {os : Array Operand} {ats : Array TypeId} {r : AV} {xs ys : List AV} {bs bs' : List (Nat × Blk)} {ks : List Nat} {K : Foot → Prop} (ρ : List (Nat × Nat)) (fz : List Nat) (go nb : List (Nat × Ent)) (r' : AV) (ho : o.op = .call ⟨.value (.func f), os, ats⟩) (hargs : os.toList.map (evA τ) = xs)
    (hc : ACallG C f ys bs ks r bs') (k : K ⟨r', go ++ nb, []⟩) (hd : InB n o.dst := by exact Nat.le_of_ble_eq_true rfl) (hok : okC ρ fz bs ks bs' (idsE go) = true := by rfl) (hgo : allUs η go := by repeat (first | exact trivial | refine And.intro rfl ?_)) (hgl : ltUs n go := by repeat (first | exact trivial | refine And.intro (Nat.le_of_ble_eq_true rfl) ?_))
    (hw : GWL η (fE bs) (lk ρ) (fun i => inB fz i = true) (fun i => inB (keys bs) i = true) xs ys := by repeat (first | exact True.intro | exact gb_nil rfl rfl | refine gb_some ⟨rfl, rfl, rfl⟩ ?_ | refine And.intro ?_ ?_ | refine gw_ren rfl rfl rfl rfl rfl ?_ | refine gw_pren rfl rfl rfl rfl rfl | exact gw_thaw rfl rfl rfl | refine gw_tup ?_ | exact GWL.nil | exact gwll_nil | exact gw_c | exact GW.sl | exact GW.nil | exact gwll_same rfl FrI.h | refine GWL.cons ?_ ?_ | refine gwll_cons ?_ ?_ | (refine gw_own3 rfl rfl rfl FrI.h ?_ ?_ ?_) | exact GW.fr FrV.h | exact GW.fr (by assumption) | refine gw_agg ?_ | refine gw_clo ?_ | refine gw_ptr rfl rfl rfl ?_ | (refine gw_own rfl rfl rfl ?_ FrI.h ?_ ?_) | assumption | omega | rfl | (rw [List.length_map, ← List.length_append]; assumption) | (refine gwll_same ?_ FrI.h; (simp [cGTask, cI, cF, cGOp, cGEffect] <;> fail)) | (rw [List.map_set]; refine gwll_set (by first | rfl | omega | simp) ?_ ?_) | refine gwll_set (by first | rfl | omega | simp) ?_ ?_ | (rw [List.map_replicate]; refine gwll_rep ?_) | refine gwll_rep ?_ | (rw [List.map_append]; refine gwll_append ?_ ?_) | refine gwll_append ?_ ?_ | (simp [cGTask, cI, cF, cGOp, cGEffect, take_len_map] <;> fail) | (rw [List.drop_zero, List.take_of_length_le] <;> first | rfl | (simp [cGTask, cI, cF, cGOp, cGEffect] <;> fail)) | (simp; omega))) (hb : GBL η (fE bs) (lk ρ) (fun i => inB fz i = true) (fun i => inB (keys bs) i = true) bs := by repeat (first | exact True.intro | exact gb_nil rfl rfl | refine gb_some ⟨rfl, rfl, rfl⟩ ?_ | refine And.intro ?_ ?_ | refine gw_ren rfl rfl rfl rfl rfl ?_ | refine gw_pren rfl rfl rfl rfl rfl | exact gw_thaw rfl rfl rfl | refine gw_tup ?_ | exact GWL.nil | exact gwll_nil | exact gw_c | exact GW.sl | exact GW.nil | exact gwll_same rfl FrI.h | refine GWL.cons ?_ ?_ | refine gwll_cons ?_ ?_ | (refine gw_own3 rfl rfl rfl FrI.h ?_ ?_ ?_) | exact GW.fr FrV.h | exact GW.fr (by assumption) | refine gw_agg ?_ | refine gw_clo ?_ | refine gw_ptr rfl rfl rfl ?_ | (refine gw_own rfl rfl rfl ?_ FrI.h ?_ ?_) | assumption | omega | rfl | (rw [List.length_map, ← List.length_append]; assumption) | (refine gwll_same ?_ FrI.h; (simp [cGTask, cI, cF, cGOp, cGEffect] <;> fail)) | (rw [List.map_set]; refine gwll_set (by first | rfl | omega | simp) ?_ ?_) | refine gwll_set (by first | rfl | omega | simp) ?_ ?_ | (rw [List.map_replicate]; refine gwll_rep ?_) | refine gwll_rep ?_ | (rw [List.map_append]; refine gwll_append ?_ ?_) | refine gwll_append ?_ ?_ | (simp [cGTask, cI, cF, cGOp, cGEffect, take_len_map] <;> fail) | (rw [List.drop_zero, List.take_of_length_le] <;> first | rfl | (simp [cGTask, cI, cF, cGOp, cGEffect] <;> fail)) | (simp; omega)))
    (hr : GW (fE bs') (updAll η (go ++ nb)) (lk (backN ρ bs')) (fun _ => False) (fun i => inB (idsE nb) i = true) r r' := by repeat (first | exact True.intro | exact gb_nil rfl rfl | refine gb_some ⟨rfl, rfl, rfl⟩ ?_ | refine And.intro ?_ ?_ | refine gw_ren rfl rfl rfl rfl rfl ?_ | refine gw_pren rfl rfl rfl rfl rfl | exact gw_thaw rfl rfl rfl | refine gw_tup ?_ | exact GWL.nil | exact gwll_nil | exact gw_c | exact GW.sl | exact GW.nil | exact gwll_same rfl FrI.h | refine GWL.cons ?_ ?_ | refine gwll_cons ?_ ?_ | (refine gw_own3 rfl rfl rfl FrI.h ?_ ?_ ?_) | exact GW.fr FrV.h | exact GW.fr (by assumption) | refine gw_agg ?_ | refine gw_clo ?_ | refine gw_ptr rfl rfl rfl ?_ | (refine gw_own rfl rfl rfl ?_ FrI.h ?_ ?_) | assumption | omega | rfl | (rw [List.length_map, ← List.length_append]; assumption) | (refine gwll_same ?_ FrI.h; (simp [cGTask, cI, cF, cGOp, cGEffect] <;> fail)) | (rw [List.map_set]; refine gwll_set (by first | rfl | omega | simp) ?_ ?_) | refine gwll_set (by first | rfl | omega | simp) ?_ ?_ | (rw [List.map_replicate]; refine gwll_rep ?_) | refine gwll_rep ?_ | (rw [List.map_append]; refine gwll_append ?_ ?_) | refine gwll_append ?_ ?_ | (simp [cGTask, cI, cF, cGOp, cGEffect, take_len_map] <;> fail) | (rw [List.drop_zero, List.take_of_length_le] <;> first | rfl | (simp [cGTask, cI, cF, cGOp, cGEffect] <;> fail)) | (simp; omega)))
    (hnb : nbOk n η (updAll η (go ++ nb)) ρ ks (fE bs') (lk (backN ρ bs')) (fun i => inB (idsE nb) i = true) bs' nb := by repeat (first | exact True.intro | rfl | exact Nat.le_of_ble_eq_true rfl | exact gb_nil rfl rfl | refine gb_some ⟨rfl, rfl, rfl⟩ ?_ | refine And.intro ?_ ?_ | refine gw_ren rfl rfl rfl rfl rfl ?_ | refine gw_pren rfl rfl rfl rfl rfl | exact gw_thaw rfl rfl rfl | refine gw_tup ?_ | exact GWL.nil | exact gwll_nil | exact gw_c | exact GW.sl | exact GW.nil | exact gwll_same rfl FrI.h | refine GWL.cons ?_ ?_ | refine gwll_cons ?_ ?_ | (refine gw_own3 rfl rfl rfl FrI.h ?_ ?_ ?_) | exact GW.fr FrV.h | exact GW.fr (by assumption) | refine gw_agg ?_ | refine gw_clo ?_ | refine gw_ptr rfl rfl rfl ?_ | (refine gw_own rfl rfl rfl ?_ FrI.h ?_ ?_) | assumption | omega | rfl | (rw [List.length_map, ← List.length_append]; assumption) | (refine gwll_same ?_ FrI.h; (simp [cGTask, cI, cF, cGOp, cGEffect] <;> fail)) | (rw [List.map_set]; refine gwll_set (by first | rfl | omega | simp) ?_ ?_) | refine gwll_set (by first | rfl | omega | simp) ?_ ?_ | (rw [List.map_replicate]; refine gwll_rep ?_) | refine gwll_rep ?_ | (rw [List.map_append]; refine gwll_append ?_ ?_) | refine gwll_append ?_ ?_ | (simp [cGTask, cI, cF, cGOp, cGEffect, take_len_map] <;> fail) | (rw [List.drop_zero, List.take_of_length_le] <;> first | rfl | (simp [cGTask, cI, cF, cGOp, cGEffect] <;> fail)) | (simp; omega))) : ∃ f : Foot, LF C n o τ η f ∧ K f := ⟨_, lf_callG ρ fz go nb ho hd hargs hc hok hgo hgl hw hb hr hnb, k⟩
def M_slices_IndexFunc_Effect_L1 (a0 : List GEffect) (a1 : GEffect → Option Bool) : Nat → Int → Option (Int)
  | 0, _ => none
  | k7 + 1, v6 =>
    sel (decide (v6 < ((a0.map cGEffect).length : Int)))
     (ix a0 v6 (fun y8 =>
       ob1 (a1 y8) (fun z9 =>
        sel z9
         (some v6)
         (M_slices_IndexFunc_Effect_L1 a0 a1 k7 (IntKind.i64.wrap (v6 + 1))))))
     (some (-1))
def M_slices_IndexFunc_Effect (a0 : List GEffect) (a1 : GEffect → Option Bool) : Option (Int) :=
  M_slices_IndexFunc_Effect_L1 a0 a1 ((((a0.map cGEffect).length : Int)).toNat + 1) 0
set_option maxHeartbeats 16000000 in
set_option maxRecDepth 100000 in
theorem A_slices_IndexFunc_Effect (a0 : List GEffect) (a1 : GEffect → Option Bool) (Fa1 : AV) (hFa1 : Fr Fa1) (ea1 : ∃ f fs cap, Fa1 = .clo (.func f) fs cap) (ha1 : ∀ (x0 : GEffect) (y0 : Bool), a1 x0 = some y0 → CCl cx Fa1 [.agg [.sl 2 (x0.When.map cF), .c (.int .i64 x0.Var), .c (.int .i64 x0.Val)]] (.c (.bool y0))) {r1 : Int} (h : M_slices_IndexFunc_Effect a0 a1 = some r1) : ACall cx 64 [.sl 3 (a0.map cGEffect), Fa1] (.c (.int .i64 r1)) := by
  obtain ⟨fa1, sa1, qa1, rfl⟩ := ea1
  refine acall_of Try.func64 rfl (by decide) rfl (Nat.le_of_ble_eq_true rfl) ?_
  intro _
  unfold M_slices_IndexFunc_Effect at h
  refine awp_seq ?_
  refine awp_region ?_
  intro _
  refine dr_XDBv ?_
  refine awp_seq ?_
  refine awp_seq ?_
  refine awp_region ?_
  intro _
  refine dr_XDBv ?_
  refine awp_block ?_
  refine awp_loop (α := Nat × Int) (fun x => mkS 19 [(0, .sl 3 (a0.map cGEffect)), (1, .clo (.func fa1) sa1 qa1), (7, .c (.int .i64 ((a0.map cGEffect).length : Int))), (8, .c (.int .i64 x.2))] []) (fun x => M_slices_IndexFunc_Effect_L1 a0 a1 x.1 x.2 = some r1) (fun x => x.1) ((((a0.map cGEffect).length : Int)).toNat + 1, 0) h ?_ ?_
  · repeat (first | exact True.intro | refine ci_XDBv ?_)
  · intro x1 h
    intro _
    obtain ⟨k7, m2, h⟩ := succ_of (f := fun n => M_slices_IndexFunc_Effect_L1 a0 a1 n x1.2) rfl h
    replace h : M_slices_IndexFunc_Effect_L1 a0 a1 (k7 + 1) x1.2 = some r1 := h
    rw [M_slices_IndexFunc_Effect_L1] at h
    refine awp_seq ?_
    refine awp_region ?_
    intro _
    refine dr_XDBv ?_
    refine awp_seq ?_
    refine awp_cond ?_
    intro _
    refine spl h (fun c3 h => ?_) (fun c3 h => ?_)
    · refine awp_skip ?_
      refine awp_seq ?_
      refine awp_block ?_
      refine awp_seq ?_
      refine awp_region ?_
      intro _
      refine dr_XDBv ?_
      refine awp_seq ?_
      refine awp_region ?_
      intro _
      obtain ⟨y8, w4, q5, h⟩ := ix_ok h
      refine Exists.intro (cGEffect y8) (And.intro (map_at' w4) ?_)
      intro _
      obtain ⟨z9, u6, h⟩ := ob1_ok h
      refine clc_XDBv rfl (ha1 _ _ u6) hFa1 ?_
      intro _
      refine pr_XDBv ?_
      refine dr_XDBv ?_
      refine awp_cond ?_
      intro _
      refine spl h (fun c7 h => ?_) (fun c7 h => ?_)
      · refine awp_seq ?_
        refine awp_region ?_
        intro _
        refine dr_XDBv ?_
        refine awp_ret ?_
        intro _
        obtain rfl := inj1 h
        repeat (first | exact True.intro | refine ci_XDBv ?_)
      · refine awp_skip ?_
        refine awp_region ?_
        intro _
        refine dr_XDBv ?_
        refine ⟨(k7, (IntKind.i64.wrap (x1.2 + 1))), h, lt_of_succ m2, ?_⟩
        repeat (first | exact True.intro | refine ci_XDBv ?_)
    · refine awp_exit ?_
      refine awp_seq ?_
      refine awp_region ?_
      intro _
      refine dr_XDBv ?_
      refine awp_ret ?_
      intro _
      obtain rfl := inj1 h
      repeat (first | exact True.intro | refine ci_XDBv ?_)
def M_slices_ContainsFunc_Effect (a0 : List GEffect) (a1 : GEffect → Option Bool) : Option (Bool) :=
  ob1 (M_slices_IndexFunc_Effect a0 a1) (fun z1 =>
   some (decide (z1 ≥ 0)))
set_option maxHeartbeats 16000000 in
set_option maxRecDepth 100000 in
theorem A_slices_ContainsFunc_Effect (a0 : List GEffect) (a1 : GEffect → Option Bool) (Fa1 : AV) (hFa1 : Fr Fa1) (ea1 : ∃ f fs cap, Fa1 = .clo (.func f) fs cap) (ha1 : ∀ (x0 : GEffect) (y0 : Bool), a1 x0 = some y0 → CCl cx Fa1 [.agg [.sl 2 (x0.When.map cF), .c (.int .i64 x0.Var), .c (.int .i64 x0.Val)]] (.c (.bool y0))) {r1 : Bool} (h : M_slices_ContainsFunc_Effect a0 a1 = some r1) : ACall cx 42 [.sl 3 (a0.map cGEffect), Fa1] (.c (.bool r1)) := by
  obtain ⟨fa1, sa1, qa1, rfl⟩ := ea1
  refine acall_of Try.func42 rfl (by decide) rfl (Nat.le_of_ble_eq_true rfl) ?_
  intro _
  unfold M_slices_ContainsFunc_Effect at h
  refine awp_seq ?_
  refine awp_region ?_
  intro _
  refine dr_XDBv ?_
  refine awp_seq ?_
  refine awp_region ?_
  intro _
  obtain ⟨z1, u1, h⟩ := ob1_ok h
  refine cl_XDBv rfl (A_slices_IndexFunc_Effect a0 a1 (.clo (.func fa1) sa1 qa1) hFa1 ⟨_, _, _, rfl⟩ ha1 u1) ?_
  intro _
  refine dr_XDBv ?_
  refine awp_ret ?_
  intro _
  obtain rfl := inj1 h
  repeat (first | exact True.intro | refine ci_XDBv ?_)
def M_slices_Index_Fact_L1 (a0 : List Fact) (a1 : Fact) : Nat → Int → Option (Int)
  | 0, _ => none
  | k5 + 1, v4 =>
    sel (decide (v4 < ((a0.map cF).length : Int)))
     (ix a0 v4 (fun y6 =>
       sel (a1.1 == y6.1 && a1.2 == y6.2)
        (some v4)
        (M_slices_Index_Fact_L1 a0 a1 k5 (IntKind.i64.wrap (v4 + 1)))))
     (some (-1))
def M_slices_Index_Fact (a0 : List Fact) (a1 : Fact) : Option (Int) :=
  M_slices_Index_Fact_L1 a0 a1 ((((a0.map cF).length : Int)).toNat + 1) 0
set_option maxHeartbeats 16000000 in
set_option maxRecDepth 100000 in
theorem A_slices_Index_Fact (a0 : List Fact) (a1 : Fact) {r1 : Int} (h : M_slices_Index_Fact a0 a1 = some r1) : ACall cx 65 [.sl 2 (a0.map cF), .agg [.c (.int .i64 a1.1), .c (.int .i64 a1.2)]] (.c (.int .i64 r1)) := by
  refine acall_of Try.func65 rfl (by decide) rfl (Nat.le_of_ble_eq_true rfl) ?_
  intro _
  unfold M_slices_Index_Fact at h
  refine awp_seq ?_
  refine awp_region ?_
  intro _
  refine dr_XDBv ?_
  refine awp_seq ?_
  refine awp_seq ?_
  refine awp_region ?_
  intro _
  refine dr_XDBv ?_
  refine awp_block ?_
  refine awp_loop (α := Nat × Int) (fun x => mkS 19 [(0, .sl 2 (a0.map cF)), (3, .ptr 3 0 0 0), (7, .c (.int .i64 ((a0.map cF).length : Int))), (8, .c (.int .i64 x.2))] [(3, ⟨40, 2, true, [[.c (.int .i64 a1.1), .c (.int .i64 a1.2)]]⟩)]) (fun x => M_slices_Index_Fact_L1 a0 a1 x.1 x.2 = some r1) (fun x => x.1) ((((a0.map cF).length : Int)).toNat + 1, 0) h ?_ ?_
  · repeat (first | exact True.intro | refine ci_XDBv ?_)
  · intro x1 h
    intro _
    obtain ⟨k5, m2, h⟩ := succ_of (f := fun n => M_slices_Index_Fact_L1 a0 a1 n x1.2) rfl h
    replace h : M_slices_Index_Fact_L1 a0 a1 (k5 + 1) x1.2 = some r1 := h
    rw [M_slices_Index_Fact_L1] at h
    refine awp_seq ?_
    refine awp_region ?_
    intro _
    refine dr_XDBv ?_
    refine awp_seq ?_
    refine awp_cond ?_
    intro _
    refine spl h (fun c3 h => ?_) (fun c3 h => ?_)
    · refine awp_skip ?_
      refine awp_seq ?_
      refine awp_block ?_
      refine awp_seq ?_
      refine awp_region ?_
      intro _
      refine dr_XDBv ?_
      refine awp_seq ?_
      refine awp_region ?_
      intro _
      obtain ⟨y6, w4, q5, h⟩ := ix_ok h
      refine Exists.intro (cF y6) (And.intro (map_at' w4) ?_)
      intro _
      refine ⟨_, lf_eq2 rfl (Nat.le_of_ble_eq_true rfl) rfl rfl (eqFact _ _ _ _) (eqFactG _ _ _ _ _ _ _) (.inl ⟨rfl, rfl⟩), ?_⟩
      intro _
      refine pr_XDBv ?_
      refine dr_XDBv ?_
      refine awp_cond ?_
      intro _
      refine spl h (fun c6 h => ?_) (fun c6 h => ?_)
      · refine awp_seq ?_
        refine awp_region ?_
        intro _
        refine dr_XDBv ?_
        refine awp_ret ?_
        intro _
        obtain rfl := inj1 h
        repeat (first | exact True.intro | refine ci_XDBv ?_)
      · refine awp_skip ?_
        refine awp_region ?_
        intro _
        refine dr_XDBv ?_
        refine ⟨(k5, (IntKind.i64.wrap (x1.2 + 1))), h, lt_of_succ m2, ?_⟩
        repeat (first | exact True.intro | refine ci_XDBv ?_)
    · refine awp_exit ?_
      refine awp_seq ?_
      refine awp_region ?_
      intro _
      refine dr_XDBv ?_
      refine awp_ret ?_
      intro _
      obtain rfl := inj1 h
      repeat (first | exact True.intro | refine ci_XDBv ?_)
def M_slices_Contains_Fact (a0 : List Fact) (a1 : Fact) : Option (Bool) :=
  ob1 (M_slices_Index_Fact a0 a1) (fun z1 =>
   some (decide (z1 ≥ 0)))
set_option maxHeartbeats 16000000 in
set_option maxRecDepth 100000 in
theorem A_slices_Contains_Fact (a0 : List Fact) (a1 : Fact) {r1 : Bool} (h : M_slices_Contains_Fact a0 a1 = some r1) : ACall cx 44 [.sl 2 (a0.map cF), .agg [.c (.int .i64 a1.1), .c (.int .i64 a1.2)]] (.c (.bool r1)) := by
  refine acall_of Try.func44 rfl (by decide) rfl (Nat.le_of_ble_eq_true rfl) ?_
  intro _
  unfold M_slices_Contains_Fact at h
  refine awp_seq ?_
  refine awp_region ?_
  intro _
  refine dr_XDBv ?_
  refine awp_seq ?_
  refine awp_region ?_
  intro _
  obtain ⟨z1, u1, h⟩ := ob1_ok h
  refine cl_XDBv rfl (A_slices_Index_Fact a0 a1 u1) ?_
  intro _
  refine dr_XDBv ?_
  refine awp_ret ?_
  intro _
  obtain rfl := inj1 h
  repeat (first | exact True.intro | refine ci_XDBv ?_)
def M_regress_Relevant_1 (b0 : List Fact) (a0 : GEffect) : Option (Bool) :=
  ob1 (M_slices_Contains_Fact b0 (a0.Var, a0.Val)) (fun z1 =>
   some z1)
set_option maxHeartbeats 16000000 in
set_option maxRecDepth 100000 in
theorem A_regress_Relevant_1 (b0 : List Fact) (a0 : GEffect) {r1 : Bool} (h : M_regress_Relevant_1 b0 a0 = some r1) : ACall cx 43 [.agg [.sl 2 (a0.When.map cF), .c (.int .i64 a0.Var), .c (.int .i64 a0.Val)], .pim [.sl 2 (b0.map cF)] 0] (.c (.bool r1)) := by
  refine acall_of Try.func43 rfl (by decide) rfl (Nat.le_of_ble_eq_true rfl) ?_
  intro _
  unfold M_regress_Relevant_1 at h
  refine awp_seq ?_
  refine awp_region ?_
  intro _
  refine dr_XDBv ?_
  refine awp_seq ?_
  refine awp_region ?_
  intro _
  obtain ⟨z1, u1, h⟩ := ob1_ok h
  refine cl_XDBv rfl (A_slices_Contains_Fact b0 (a0.Var, a0.Val) u1) ?_
  intro _
  refine dr_XDBv ?_
  refine awp_ret ?_
  intro _
  obtain rfl := inj1 h
  repeat (first | exact True.intro | refine ci_XDBv ?_)
def M_regress_Relevant_L1 (a0 : GTask) (a1 : List Fact) : Nat → Int → (List Int) → Option ((List Int) × Er)
  | 0, _, _ => none
  | k12 + 1, v10, v11 =>
    sel (decide (v10 < ((a0.Ops.map cGOp).length : Int)))
     (ix a0.Ops v10 (fun y13 =>
       ob1 (M_slices_ContainsFunc_Effect y13.Effs (M_regress_Relevant_1 a1)) (fun z14 =>
        sel z14
         (grd ((v11.length + 1) * 8 ≤ 140737488355328) (M_regress_Relevant_L1 a0 a1 k12 (IntKind.i64.wrap (v10 + 1)) (v11 ++ [v10])))
         (M_regress_Relevant_L1 a0 a1 k12 (IntKind.i64.wrap (v10 + 1)) v11))))
     (grd (v11.length ≤ 140737488355328) (some (v11, Er.nil)))
def M_regress_Relevant (a0 : GTask) (a1 : List Fact) : Option ((List Int) × Er) :=
  ob1 (M_task_Check a0) (fun z1 =>
   erM z1
    (ob1 (M_task_Facts a0.Vars a1) (fun z3 =>
      sel (!z3)
       (some ([], (Er.no 2)))
       (M_regress_Relevant_L1 a0 a1 ((((a0.Ops.map cGOp).length : Int)).toNat + 1) 0 [])))
    (fun e2 => some ([], (Er.no e2))))
set_option maxHeartbeats 16000000 in
set_option maxRecDepth 100000 in
theorem A_regress_Relevant (a0 : GTask) (a1 : List Fact) {r1 : List Int} {r2 : Er} (h : M_regress_Relevant a0 a1 = some (r1, r2)) : ACall cx 27 [.agg [.sl 1 (a0.Vars.map cI), .sl 1 (a0.Init.map cI), .sl 2 (a0.Goal.map cF), .sl 4 (a0.Ops.map cGOp)], .sl 2 (a1.map cF)] (.tup [.sl 1 (r1.map cI), eA r2]) := by
  refine acall_of Try.func27 rfl (by decide) rfl (Nat.le_of_ble_eq_true rfl) ?_
  intro _
  unfold M_regress_Relevant at h
  refine awp_seq ?_
  refine awp_region ?_
  intro _
  refine dr_XDBv ?_
  refine awp_seq ?_
  refine awp_seq ?_
  refine awp_region ?_
  intro _
  obtain ⟨z1, u1, h⟩ := ob1_ok h
  refine cl_XDBv rfl (A_task_Check a0 u1) ?_
  intro _
  refine dr_XDBv ?_
  refine awp_seq ?_
  rcases z1 with _ | e2
  · replace h := erM_nil h
    refine awp_region ?_
    intro _
    refine dr_XDBv ?_
    refine awp_cond ?_
    intro _
    refine litF ?_
    refine awp_skip ?_
    refine awp_seq ?_
    refine awp_seq ?_
    refine awp_region ?_
    intro _
    obtain ⟨z3, u2, h⟩ := ob1_ok h
    refine cl_XDBv rfl (A_task_Facts a0.Vars a1 u2) ?_
    intro _
    refine dr_XDBv ?_
    refine awp_cond ?_
    intro _
    refine spl h (fun c3 h => ?_) (fun c3 h => ?_)
    · refine awp_seq ?_
      refine awp_region ?_
      intro _
      refine dr_XDBv ?_
      refine awp_ret ?_
      intro _
      obtain ⟨rfl, rfl⟩ := inj2 h
      repeat (first | exact True.intro | refine ci_XDBv ?_)
    · refine awp_skip ?_
      refine awp_seq ?_
      refine awp_region ?_
      intro _
      refine dr_XDBv ?_
      refine awp_seq ?_
      refine awp_seq ?_
      refine awp_region ?_
      intro _
      refine dr_XDBv ?_
      refine awp_block ?_
      refine awp_loop (α := Nat × Int × (List Int)) (fun x => mkS 39 [(3, .ptr 3 0 0 0), (7, .own 36 0 0 x.2.2.length), (22, .sl 4 (a0.Ops.map cGOp)), (23, .c (.int .i64 ((a0.Ops.map cGOp).length : Int))), (24, .c (.int .i64 x.2.1))] [(3, ⟨23, 1, true, [[.sl 2 (a1.map cF)]]⟩), (36, ⟨3, 1, false, x.2.2.map cI⟩)]) (fun x => M_regress_Relevant_L1 a0 a1 x.1 x.2.1 x.2.2 = some (r1, r2)) (fun x => x.1) ((((a0.Ops.map cGOp).length : Int)).toNat + 1, 0, []) h ?_ ?_
      · repeat (first | exact True.intro | refine ci_XDBv ?_)
      · intro x4 h
        intro _
        obtain ⟨k12, m5, h⟩ := succ_of (f := fun n => M_regress_Relevant_L1 a0 a1 n x4.2.1 x4.2.2) rfl h
        replace h : M_regress_Relevant_L1 a0 a1 (k12 + 1) x4.2.1 x4.2.2 = some (r1, r2) := h
        rw [M_regress_Relevant_L1] at h
        refine awp_seq ?_
        refine awp_region ?_
        intro _
        refine dr_XDBv ?_
        refine awp_seq ?_
        refine awp_cond ?_
        intro _
        refine spl h (fun c6 h => ?_) (fun c6 h => ?_)
        · refine awp_skip ?_
          refine awp_seq ?_
          refine awp_block ?_
          refine awp_seq ?_
          refine awp_region ?_
          intro _
          obtain ⟨y13, w7, q8, h⟩ := ix_ok h
          refine Exists.intro (cGOp y13) (And.intro (map_at' w7) ?_)
          intro _
          refine pr_XDBv ?_
          refine dr_XDBv ?_
          refine awp_seq ?_
          refine awp_region ?_
          intro _
          refine ⟨_, lf_func rfl (Nat.le_of_ble_eq_true rfl) rfl rfl, ?_⟩
          intro _
          obtain ⟨z14, u9, h⟩ := ob1_ok h
          refine clb_XDBv [3] rfl rfl (A_slices_ContainsFunc_Effect y13.Effs (M_regress_Relevant_1 a1) (.clo (.func 43) [] [.pim [.sl 2 (a1.map cF)] 0]) (Fr.clo FrC_nil FrE.h) ⟨_, _, _, rfl⟩ (fun x0 y0 hx => ⟨43, [], _, rfl, A_regress_Relevant_1 a1 x0 hx⟩) u9) ?_
          intro _
          refine dr_XDBv ?_
          refine awp_cond ?_
          intro _
          refine spl h (fun c10 h => ?_) (fun c10 h => ?_)
          · refine awp_region ?_
            intro _
            obtain ⟨q11, h⟩ := grd_ok h
            refine pl_XDBv ?_
            refine pl_XDBv ?_
            refine And.intro (by first | assumption | (show (x4.2.2.length + 1) * 8 ≤ 140737488355328; assumption) | omega | (simp; omega)) ?_
            refine pe_XDBv ?_
            refine dr_XDBv ?_
            refine awp_region ?_
            intro _
            refine dr_XDBv ?_
            refine ⟨(k12, (IntKind.i64.wrap (x4.2.1 + 1)), (x4.2.2 ++ [x4.2.1])), h, lt_of_succ m5, ?_⟩
            repeat (first | exact True.intro | refine ci_XDBv ?_)
          · refine awp_skip ?_
            refine awp_region ?_
            intro _
            refine dr_XDBv ?_
            refine ⟨(k12, (IntKind.i64.wrap (x4.2.1 + 1)), x4.2.2), h, lt_of_succ m5, ?_⟩
            repeat (first | exact True.intro | refine ci_XDBv ?_)
        · refine awp_exit ?_
          refine awp_seq ?_
          refine awp_region ?_
          intro _
          refine dr_XDBv ?_
          refine awp_ret ?_
          obtain ⟨q12, h⟩ := grd_ok h
          intro _
          obtain ⟨rfl, rfl⟩ := inj2 h
          repeat (first | exact True.intro | refine ci_XDBv ?_)
  · replace h := erM_no h
    refine awp_region ?_
    intro _
    refine dr_XDBv ?_
    refine awp_cond ?_
    intro _
    refine litT ?_
    refine awp_seq ?_
    refine awp_region ?_
    intro _
    refine dr_XDBv ?_
    refine awp_ret ?_
    intro _
    obtain ⟨rfl, rfl⟩ := inj2 h
    repeat (first | exact True.intro | refine ci_XDBv ?_)
end Go.Proofs.Yteapjpgabdegnaa.Am
/- Models printed by my decompiler, and the proofs that the code computes them. -/
namespace Go.Proofs.Yteapjpgabdegnaa.Am
open Go.RowKit
theorem ci_XDBErr {p K : Prop} (k : K) (h : p := by first | rfl | exact ⟨rfl, rfl⟩ | exact BW.fr FrV.h | (refine BW.fr ?_; assumption) | (refine ⟨rfl, ?_⟩; (simp [cGTask, cI, cF, cGOp, cGEffect, take_len_map]; done)) | (refine RowK.same ?_ FrI.h; first | rfl | (simp [cGTask, cI, cF, cGOp, cGEffect, take_len_map]; done)) | (refine row_part1 ?_; (repeat (first | exact BWL.nil | exact bwll_nil | exact bw_c | exact BW.sl | exact BW.nil | exact bwll_same rfl FrI.h | refine BWL.cons ?_ ?_ | refine bwll_cons ?_ ?_ | (refine bw_own3 rfl rfl rfl FrI.h ?_ ?_ ?_) | exact BW.fr FrV.h | exact BW.fr (by assumption) | refine bw_agg ?_ | refine bw_clo ?_ | refine bw_ptr rfl rfl rfl ?_ | (refine bw_own rfl rfl rfl ?_ FrI.h ?_ ?_) | assumption | omega | rfl | (rw [List.length_map, ← List.length_append]; assumption) | (refine bwll_same ?_ FrI.h; (simp [cGTask, cI, cF, cGOp, cGEffect] <;> fail)) | (rw [List.map_set]; refine bwll_set (by first | rfl | omega | simp) ?_ ?_) | refine bwll_set (by first | rfl | omega | simp) ?_ ?_ | (rw [List.map_replicate]; refine bwll_rep ?_) | refine bwll_rep ?_ | (rw [List.map_append]; refine bwll_append ?_ ?_) | refine bwll_append ?_ ?_ | (simp [cGTask, cI, cF, cGOp, cGEffect, take_len_map] <;> fail) | (rw [List.drop_zero, List.take_of_length_le] <;> first | rfl | (simp [cGTask, cI, cF, cGOp, cGEffect] <;> fail)) | (simp; omega))); done) | ((repeat (first | exact BWL.nil | exact bwll_nil | exact bw_c | exact BW.sl | exact BW.nil | exact bwll_same rfl FrI.h | refine BWL.cons ?_ ?_ | refine bwll_cons ?_ ?_ | (refine bw_own3 rfl rfl rfl FrI.h ?_ ?_ ?_) | exact BW.fr FrV.h | exact BW.fr (by assumption) | refine bw_agg ?_ | refine bw_clo ?_ | refine bw_ptr rfl rfl rfl ?_ | (refine bw_own rfl rfl rfl ?_ FrI.h ?_ ?_) | assumption | omega | rfl | (rw [List.length_map, ← List.length_append]; assumption) | (refine bwll_same ?_ FrI.h; (simp [cGTask, cI, cF, cGOp, cGEffect] <;> fail)) | (rw [List.map_set]; refine bwll_set (by first | rfl | omega | simp) ?_ ?_) | refine bwll_set (by first | rfl | omega | simp) ?_ ?_ | (rw [List.map_replicate]; refine bwll_rep ?_) | refine bwll_rep ?_ | (rw [List.map_append]; refine bwll_append ?_ ?_) | refine bwll_append ?_ ?_ | (simp [cGTask, cI, cF, cGOp, cGEffect, take_len_map] <;> fail) | (rw [List.drop_zero, List.take_of_length_le] <;> first | rfl | (simp [cGTask, cI, cF, cGOp, cGEffect] <;> fail)) | (simp; omega))); done) | (simp [cGTask, cI, cF, cGOp, cGEffect, take_len_map]; done)) : p ∧ K := ⟨h, k⟩
theorem pr_XDBErr {p K : Prop} (k : K) (h : p := by first | assumption | exact Int.natCast_nonneg _ | exact Nat.le_refl _ | exact Nat.zero_le _ | omega | (simp; done) | (simp; omega)) : p ∧ K := ⟨h, k⟩
theorem pl_XDBErr {p K : Prop} (k : K) (h : p := by first | rfl | exact List.length_map _ | (simp; done) | (simp; omega)) : p ∧ K := ⟨h, k⟩
theorem pe_XDBErr {p K : Prop} (k : K) (h : p := by first | omega | (simp; omega) | (simp only [List.length_map, List.length_cons, List.length_nil, List.length_append]; omega)) : p ∧ K := ⟨h, k⟩
theorem dr_XDBErr {b : Bool} {p K : Prop} (k : K) (h : b = true → p := by intro h; first | (cases h; done) | exact ⟨by kernel_rfl, by kernel_rfl⟩) : (b = true → p) ∧ K := ⟨h, k⟩
theorem cl_XDBErr {C : Cx} {n : Nat} {o : Oper} {τ : Nat → AV} {η : Nat → Ent} {f : FuncId} {os : Array Operand} {ats : Array TypeId} {r : AV} {args : List AV} {K : Foot → Prop} (ho : o.op = .call ⟨.value (.func f), os, ats⟩) (hc : ACall C f args r) (k : K ⟨r, [], []⟩)
    (hd : InB n o.dst := by exact Nat.le_of_ble_eq_true rfl) (hargs : os.toList.map (evA τ) = args := by first | rfl | (simp [cGTask, cI, cF, cGOp, cGEffect]; done)) (hfr : frs args := by repeat (first | exact trivial | exact fr1_eA _ | exact fr0_eA _ | exact fr1_fr (by assumption) | exact FrV.h | refine And.intro ?_ ?_)) (hr : fr1 r := by repeat (first | exact trivial | exact fr1_eA _ | exact fr0_eA _ | exact fr1_fr (by assumption) | exact FrV.h | refine And.intro ?_ ?_)) : ∃ f : Foot, LF C n o τ η f ∧ K f := ⟨_, lf_call ho hd hargs hc hfr hr, k⟩
theorem clc_XDBErr {C : Cx} {n : Nat} {o : Oper} {τ : Nat → AV} {η : Nat → Ent} {c : Operand} {os : Array Operand} {ats : Array TypeId} {r F : AV} {xs : List AV} {K : Foot → Prop} (ho : o.op = .call ⟨.value c, os, ats⟩) (hc : CCl C F xs r) (hfF : Fr F) (k : K ⟨r, [], []⟩)
    (hd : InB n o.dst := by exact Nat.le_of_ble_eq_true rfl) (hF : evA τ c = F := by rfl) (hargs : os.toList.map (evA τ) = xs := by first | rfl | (simp [cGTask, cI, cF, cGOp, cGEffect]; done)) (hfr : frs xs := by repeat (first | exact trivial | exact fr1_eA _ | exact fr0_eA _ | exact fr1_fr (by assumption) | exact FrV.h | refine And.intro ?_ ?_)) (hr : fr1 r := by repeat (first | exact trivial | exact fr1_eA _ | exact fr0_eA _ | exact fr1_fr (by assumption) | exact FrV.h | refine And.intro ?_ ?_)) : ∃ f : Foot, LF C n o τ η f ∧ K f := ⟨_, lf_clo ho hd hF hargs hc hfF hfr hr, k⟩
theorem clb_XDBErr {C : Cx} {n : Nat} {o : Oper} {τ : Nat → AV} {η : Nat → Ent} {f : FuncId} {os : Array Operand} {ats : Array TypeId} {r : AV} {xs ys : List AV} {K : Foot → Prop} (bs : List Nat) (ho : o.op = .call ⟨.value (.func f), os, ats⟩) (hargs : os.toList.map (evA τ) = xs) (hc : ACall C f ys r) (k : K ⟨r, [], bs⟩)
    (hd : InB n o.dst := by exact Nat.le_of_ble_eq_true rfl) (hb : BWL η (dropB η bs) xs ys := by repeat (first | exact BWL.nil | exact bwll_nil | exact bw_c | exact BW.sl | exact BW.nil | exact bwll_same rfl FrI.h | refine BWL.cons ?_ ?_ | refine bwll_cons ?_ ?_ | (refine bw_own3 rfl rfl rfl FrI.h ?_ ?_ ?_) | exact BW.fr FrV.h | exact BW.fr (by assumption) | refine bw_agg ?_ | refine bw_clo ?_ | refine bw_ptr rfl rfl rfl ?_ | (refine bw_own rfl rfl rfl ?_ FrI.h ?_ ?_) | assumption | omega | rfl | (rw [List.length_map, ← List.length_append]; assumption) | (refine bwll_same ?_ FrI.h; (simp [cGTask, cI, cF, cGOp, cGEffect] <;> fail)) | (rw [List.map_set]; refine bwll_set (by first | rfl | omega | simp) ?_ ?_) | refine bwll_set (by first | rfl | omega | simp) ?_ ?_ | (rw [List.map_replicate]; refine bwll_rep ?_) | refine bwll_rep ?_ | (rw [List.map_append]; refine bwll_append ?_ ?_) | refine bwll_append ?_ ?_ | (simp [cGTask, cI, cF, cGOp, cGEffect, take_len_map] <;> fail) | (rw [List.drop_zero, List.take_of_length_le] <;> first | rfl | (simp [cGTask, cI, cF, cGOp, cGEffect] <;> fail)) | (simp; omega))) (hr : scal r := by repeat (first | exact trivial | exact scal0_eA _ | exact scal_eA _ | refine And.intro ?_ ?_)) : ∃ f : Foot, LF C n o τ η f ∧ K f := ⟨_, lf_callB bs ho hd hargs hb hc hr, k⟩
theorem clf_XDBErr {C : Cx} {n : Nat} {o : Oper} {τ : Nat → AV} {η : Nat → Ent} {f : FuncId} {os : Array Operand} {ats : Array TypeId} {r : AV} {xs ys : List AV} {K : Foot → Prop} (us : List (Nat × Ent)) (ho : o.op = .call ⟨.value (.func f), os, ats⟩) (hargs : os.toList.map (evA τ) = xs) (hc : ACall C f ys r) (k : K ⟨r, us, []⟩)
    (hus : allUs η us := by repeat (first | exact trivial | refine And.intro rfl ?_)) (hul : ltUs n us := by repeat (first | exact trivial | refine And.intro (Nat.le_of_ble_eq_true rfl) ?_)) (hd : InB n o.dst := by exact Nat.le_of_ble_eq_true rfl) (hb : BWL η (dropB η (us.map (·.1))) xs ys := by repeat (first | exact BWL.nil | exact bwll_nil | exact bw_c | exact BW.sl | exact BW.nil | exact bwll_same rfl FrI.h | refine BWL.cons ?_ ?_ | refine bwll_cons ?_ ?_ | (refine bw_own3 rfl rfl rfl FrI.h ?_ ?_ ?_) | exact BW.fr FrV.h | exact BW.fr (by assumption) | refine bw_agg ?_ | refine bw_clo ?_ | refine bw_ptr rfl rfl rfl ?_ | (refine bw_own rfl rfl rfl ?_ FrI.h ?_ ?_) | assumption | omega | rfl | (rw [List.length_map, ← List.length_append]; assumption) | (refine bwll_same ?_ FrI.h; (simp [cGTask, cI, cF, cGOp, cGEffect] <;> fail)) | (rw [List.map_set]; refine bwll_set (by first | rfl | omega | simp) ?_ ?_) | refine bwll_set (by first | rfl | omega | simp) ?_ ?_ | (rw [List.map_replicate]; refine bwll_rep ?_) | refine bwll_rep ?_ | (rw [List.map_append]; refine bwll_append ?_ ?_) | refine bwll_append ?_ ?_ | (simp [cGTask, cI, cF, cGOp, cGEffect, take_len_map] <;> fail) | (rw [List.drop_zero, List.take_of_length_le] <;> first | rfl | (simp [cGTask, cI, cF, cGOp, cGEffect] <;> fail)) | (simp; omega))) (hr : fr1 r := by repeat (first | exact trivial | exact fr1_eA _ | exact fr0_eA _ | exact fr1_fr (by assumption) | exact FrV.h | refine And.intro ?_ ?_)) : ∃ f : Foot, LF C n o τ η f ∧ K f := ⟨_, lf_callF us (allUs_at hus) (ltUs_at hul) ho hd hargs hb hc hr, k⟩
theorem clg_XDBErr {C : Cx} {n : Nat} {o : Oper} {τ : Nat → AV} {η : Nat → Ent} {f : FuncId} {os : Array Operand} {ats : Array TypeId} {r : AV} {xs ys : List AV} {bs bs' : List (Nat × Blk)} {ks : List Nat} {K : Foot → Prop} (ρ : List (Nat × Nat)) (fz : List Nat) (go nb : List (Nat × Ent)) (r' : AV) (ho : o.op = .call ⟨.value (.func f), os, ats⟩) (hargs : os.toList.map (evA τ) = xs)
    (hc : ACallG C f ys bs ks r bs') (k : K ⟨r', go ++ nb, []⟩) (hd : InB n o.dst := by exact Nat.le_of_ble_eq_true rfl) (hok : okC ρ fz bs ks bs' (idsE go) = true := by rfl) (hgo : allUs η go := by repeat (first | exact trivial | refine And.intro rfl ?_)) (hgl : ltUs n go := by repeat (first | exact trivial | refine And.intro (Nat.le_of_ble_eq_true rfl) ?_))
    (hw : GWL η (fE bs) (lk ρ) (fun i => inB fz i = true) (fun i => inB (keys bs) i = true) xs ys := by repeat (first | exact True.intro | exact gb_nil rfl rfl | refine gb_some ⟨rfl, rfl, rfl⟩ ?_ | refine And.intro ?_ ?_ | refine gw_ren rfl rfl rfl rfl rfl ?_ | refine gw_pren rfl rfl rfl rfl rfl | exact gw_thaw rfl rfl rfl | refine gw_tup ?_ | exact GWL.nil | exact gwll_nil | exact gw_c | exact GW.sl | exact GW.nil | exact gwll_same rfl FrI.h | refine GWL.cons ?_ ?_ | refine gwll_cons ?_ ?_ | (refine gw_own3 rfl rfl rfl FrI.h ?_ ?_ ?_) | exact GW.fr FrV.h | exact GW.fr (by assumption) | refine gw_agg ?_ | refine gw_clo ?_ | refine gw_ptr rfl rfl rfl ?_ | (refine gw_own rfl rfl rfl ?_ FrI.h ?_ ?_) | assumption | omega | rfl | (rw [List.length_map, ← List.length_append]; assumption) | (refine gwll_same ?_ FrI.h; (simp [cGTask, cI, cF, cGOp, cGEffect] <;> fail)) | (rw [List.map_set]; refine gwll_set (by first | rfl | omega | simp) ?_ ?_) | refine gwll_set (by first | rfl | omega | simp) ?_ ?_ | (rw [List.map_replicate]; refine gwll_rep ?_) | refine gwll_rep ?_ | (rw [List.map_append]; refine gwll_append ?_ ?_) | refine gwll_append ?_ ?_ | (simp [cGTask, cI, cF, cGOp, cGEffect, take_len_map] <;> fail) | (rw [List.drop_zero, List.take_of_length_le] <;> first | rfl | (simp [cGTask, cI, cF, cGOp, cGEffect] <;> fail)) | (simp; omega))) (hb : GBL η (fE bs) (lk ρ) (fun i => inB fz i = true) (fun i => inB (keys bs) i = true) bs := by repeat (first | exact True.intro | exact gb_nil rfl rfl | refine gb_some ⟨rfl, rfl, rfl⟩ ?_ | refine And.intro ?_ ?_ | refine gw_ren rfl rfl rfl rfl rfl ?_ | refine gw_pren rfl rfl rfl rfl rfl | exact gw_thaw rfl rfl rfl | refine gw_tup ?_ | exact GWL.nil | exact gwll_nil | exact gw_c | exact GW.sl | exact GW.nil | exact gwll_same rfl FrI.h | refine GWL.cons ?_ ?_ | refine gwll_cons ?_ ?_ | (refine gw_own3 rfl rfl rfl FrI.h ?_ ?_ ?_) | exact GW.fr FrV.h | exact GW.fr (by assumption) | refine gw_agg ?_ | refine gw_clo ?_ | refine gw_ptr rfl rfl rfl ?_ | (refine gw_own rfl rfl rfl ?_ FrI.h ?_ ?_) | assumption | omega | rfl | (rw [List.length_map, ← List.length_append]; assumption) | (refine gwll_same ?_ FrI.h; (simp [cGTask, cI, cF, cGOp, cGEffect] <;> fail)) | (rw [List.map_set]; refine gwll_set (by first | rfl | omega | simp) ?_ ?_) | refine gwll_set (by first | rfl | omega | simp) ?_ ?_ | (rw [List.map_replicate]; refine gwll_rep ?_) | refine gwll_rep ?_ | (rw [List.map_append]; refine gwll_append ?_ ?_) | refine gwll_append ?_ ?_ | (simp [cGTask, cI, cF, cGOp, cGEffect, take_len_map] <;> fail) | (rw [List.drop_zero, List.take_of_length_le] <;> first | rfl | (simp [cGTask, cI, cF, cGOp, cGEffect] <;> fail)) | (simp; omega)))
    (hr : GW (fE bs') (updAll η (go ++ nb)) (lk (backN ρ bs')) (fun _ => False) (fun i => inB (idsE nb) i = true) r r' := by repeat (first | exact True.intro | exact gb_nil rfl rfl | refine gb_some ⟨rfl, rfl, rfl⟩ ?_ | refine And.intro ?_ ?_ | refine gw_ren rfl rfl rfl rfl rfl ?_ | refine gw_pren rfl rfl rfl rfl rfl | exact gw_thaw rfl rfl rfl | refine gw_tup ?_ | exact GWL.nil | exact gwll_nil | exact gw_c | exact GW.sl | exact GW.nil | exact gwll_same rfl FrI.h | refine GWL.cons ?_ ?_ | refine gwll_cons ?_ ?_ | (refine gw_own3 rfl rfl rfl FrI.h ?_ ?_ ?_) | exact GW.fr FrV.h | exact GW.fr (by assumption) | refine gw_agg ?_ | refine gw_clo ?_ | refine gw_ptr rfl rfl rfl ?_ | (refine gw_own rfl rfl rfl ?_ FrI.h ?_ ?_) | assumption | omega | rfl | (rw [List.length_map, ← List.length_append]; assumption) | (refine gwll_same ?_ FrI.h; (simp [cGTask, cI, cF, cGOp, cGEffect] <;> fail)) | (rw [List.map_set]; refine gwll_set (by first | rfl | omega | simp) ?_ ?_) | refine gwll_set (by first | rfl | omega | simp) ?_ ?_ | (rw [List.map_replicate]; refine gwll_rep ?_) | refine gwll_rep ?_ | (rw [List.map_append]; refine gwll_append ?_ ?_) | refine gwll_append ?_ ?_ | (simp [cGTask, cI, cF, cGOp, cGEffect, take_len_map] <;> fail) | (rw [List.drop_zero, List.take_of_length_le] <;> first | rfl | (simp [cGTask, cI, cF, cGOp, cGEffect] <;> fail)) | (simp; omega)))
    (hnb : nbOk n η (updAll η (go ++ nb)) ρ ks (fE bs') (lk (backN ρ bs')) (fun i => inB (idsE nb) i = true) bs' nb := by repeat (first | exact True.intro | rfl | exact Nat.le_of_ble_eq_true rfl | exact gb_nil rfl rfl | refine gb_some ⟨rfl, rfl, rfl⟩ ?_ | refine And.intro ?_ ?_ | refine gw_ren rfl rfl rfl rfl rfl ?_ | refine gw_pren rfl rfl rfl rfl rfl | exact gw_thaw rfl rfl rfl | refine gw_tup ?_ | exact GWL.nil | exact gwll_nil | exact gw_c | exact GW.sl | exact GW.nil | exact gwll_same rfl FrI.h | refine GWL.cons ?_ ?_ | refine gwll_cons ?_ ?_ | (refine gw_own3 rfl rfl rfl FrI.h ?_ ?_ ?_) | exact GW.fr FrV.h | exact GW.fr (by assumption) | refine gw_agg ?_ | refine gw_clo ?_ | refine gw_ptr rfl rfl rfl ?_ | (refine gw_own rfl rfl rfl ?_ FrI.h ?_ ?_) | assumption | omega | rfl | (rw [List.length_map, ← List.length_append]; assumption) | (refine gwll_same ?_ FrI.h; (simp [cGTask, cI, cF, cGOp, cGEffect] <;> fail)) | (rw [List.map_set]; refine gwll_set (by first | rfl | omega | simp) ?_ ?_) | refine gwll_set (by first | rfl | omega | simp) ?_ ?_ | (rw [List.map_replicate]; refine gwll_rep ?_) | refine gwll_rep ?_ | (rw [List.map_append]; refine gwll_append ?_ ?_) | refine gwll_append ?_ ?_ | (simp [cGTask, cI, cF, cGOp, cGEffect, take_len_map] <;> fail) | (rw [List.drop_zero, List.take_of_length_le] <;> first | rfl | (simp [cGTask, cI, cF, cGOp, cGEffect] <;> fail)) | (simp; omega))) : ∃ f : Foot, LF C n o τ η f ∧ K f := ⟨_, lf_callG ρ fz go nb ho hd hargs hc hok hgo hgl hw hb hr hnb, k⟩
def M_stratagemlaw26_RegressErrors_L1 (a0 : GTask) : Nat → Int → Option (Unit ⊕ Bool)
  | 0, _ => none
  | k25 + 1, v24 =>
    sel (decide (v24 < ((a0.Ops.map cGOp).length : Int)))
     (ix a0.Ops v24 (fun y26 =>
       sel (decide (((y26.Effs.map cGEffect).length : Int) > 8))
        (some (.inr true))
        (sel (decide (((y26.Pre.map cF).length : Int) > 100))
          (some (.inr true))
          (M_stratagemlaw26_RegressErrors_L1 a0 k25 (IntKind.i64.wrap (v24 + 1))))))
     (some (.inl ()))
def M_stratagemlaw26_RegressErrors (g : Nat) (a0 : GTask) (a1 : Int) (a2 : List Fact) : Option (Bool) :=
  ob1 (sel (decide (((a0.Vars.map cI).length : Int) > 100))
    (ob1 (M_stratagemlaw26_awake g) (fun z12 =>
      some (.inr z12)))
    (sel (decide (((a0.Ops.map cGOp).length : Int) > 50))
      (ob1 (M_stratagemlaw26_awake g) (fun z11 =>
        some (.inr z11)))
      (sel (decide (((a2.map cF).length : Int) > 100))
        (ob1 (M_stratagemlaw26_awake g) (fun z10 =>
          some (.inr z10)))
        (ob1 (M_stratagemlaw26_awake g) (fun z8 =>
          sel (!z8)
           (ob1 (M_stratagemlaw26_awake g) (fun z9 =>
             some (.inr z9)))
           (some (.inl ())))))) : Option (Unit ⊕ Bool))
   (osum
   (fun _ => ob1 (M_stratagemlaw26_RegressErrors_L1 a0 ((((a0.Ops.map cGOp).length : Int)).toNat + 1) 0 : Option (Unit ⊕ Bool))
      (osum
      (fun _ => ob1 (ob1 (M_stratagembase_Good a0) (fun z35 =>
          sel (!z35)
           (ob1 (M_task_Check a0) (fun z36 =>
             ob1 (M_stratagembase_Num z36) (fun z37 =>
              some z37)))
           (ob1 (sel (decide (a1 < 0))
              (some true)
              (some (decide (a1 ≥ ((a0.Ops.map cGOp).length : Int)))) : Option (Bool))
             (fun v38 => sel v38
                (some 1)
                (ob1 (M_stratagembase_Proper a0.Vars a2) (fun z40 =>
                  sel (!z40)
                   (some 2)
                   (some 0)))))) : Option (Int))
         (fun v33 => ob2 (M_regress_Regress g a0 a1 a2) (fun _ z42 =>
            ob2 (M_regress_Possible g a0 a1 a2) (fun z43 z44 =>
             ob2 (M_regress_Relevant a0 a2) (fun _ z46 =>
              sel (v33 == 1)
               (ob1 (M_stratagembase_Num z42) (fun z47 =>
                 sel (z47 == v33)
                  (ob1 (M_stratagembase_Num z44) (fun z48 =>
                    sel (z48 == v33)
                     (some (!z43))
                     (some false)))
                  (some false)))
               (sel (v33 == 0)
                 (erM z42
                   (erM z44
                     (erM z46
                       (sel (true == true)
                         (some true)
                         (some false))
                       (fun _ => sel (true == true)
                         (some false)
                         (some false)))
                     (fun _ => erM z46
                       (sel (true == false)
                         (some true)
                         (some false))
                       (fun _ => sel (true == false)
                         (some false)
                         (some false))))
                   (fun e49 => erM z44
                     (erM z46
                       (sel (false == true)
                         (ob1 (M_stratagembase_Is (Er.no e49) 5) (fun z56 =>
                           sel z56
                            (some true)
                            (some false)))
                         (some false))
                       (fun _ => sel (false == true)
                         (ob1 (M_stratagembase_Is (Er.no e49) 5) (fun z57 =>
                           sel z57
                            (some false)
                            (some false)))
                         (some false)))
                     (fun _ => erM z46
                       (sel (false == false)
                         (ob1 (M_stratagembase_Is (Er.no e49) 5) (fun z60 =>
                           sel z60
                            (some true)
                            (some false)))
                         (some false))
                       (fun _ => sel (false == false)
                         (ob1 (M_stratagembase_Is (Er.no e49) 5) (fun z61 =>
                           sel z61
                            (some false)
                            (some false)))
                         (some false)))))
                 (ob1 (M_stratagembase_Num z42) (fun z62 =>
                   sel (z62 == v33)
                    (ob1 (M_stratagembase_Num z44) (fun z63 =>
                      sel (z63 == v33)
                       (sel (!z43)
                         (ob1 (M_stratagembase_Num z46) (fun z64 =>
                           some (z64 == v33)))
                         (some false))
                       (some false)))
                    (some false)))))))))
      (fun r19 => some r19)))
   (fun r6 => some r6))
set_option maxHeartbeats 16000000 in
set_option maxRecDepth 100000 in
theorem A_stratagemlaw26_RegressErrors (g : Nat) (a0 : GTask) (a1 : Int) (a2 : List Fact) {r1 : Bool} (h : M_stratagemlaw26_RegressErrors g a0 a1 a2 = some r1) : ACall cx 10 [.agg [.sl 1 (a0.Vars.map cI), .sl 1 (a0.Init.map cI), .sl 2 (a0.Goal.map cF), .sl 4 (a0.Ops.map cGOp)], .c (.int .i64 a1), .sl 2 (a2.map cF)] (.c (.bool r1)) := by
  refine acall_of Try.func10 rfl (by decide) rfl (Nat.le_of_ble_eq_true rfl) ?_
  intro _
  unfold M_stratagemlaw26_RegressErrors at h
  refine awp_seq ?_
  refine awp_region ?_
  intro _
  refine dr_XDBErr ?_
  obtain ⟨o1, h, hK2⟩ := ob1_ok h
  refine awp_cut (α := Unit) (fun _ => mkS 152 [(1, .c (.int .i64 a1)), (2, .sl 2 (a2.map cF)), (3, .ptr 3 0 0 0)] [(3, ⟨26, 4, true, [[.sl 1 (a0.Vars.map cI), .sl 1 (a0.Init.map cI), .sl 2 (a0.Goal.map cF), .sl 4 (a0.Ops.map cGOp)]]⟩)]) (fun v => o1 = (.inl v)) ?_ ?_
  · refine awp_seq ?_
    refine awp_region ?_
    intro _
    refine spf h (fun c3 h => ?_) (fun c3 h => ?_)
    · intro _
      refine spf h (fun c4 h => ?_) (fun c4 h => ?_)
      · intro _
        refine spf h (fun c5 h => ?_) (fun c5 h => ?_)
        · intro _
          obtain ⟨z8, u6, h⟩ := ob1_ok h
          refine cl_XDBErr rfl (A_stratagemlaw26_awake g u6) ?_
          intro _
          refine dr_XDBErr ?_
          refine awp_cond ?_
          intro _
          refine spl h (fun c7 h => ?_) (fun c7 h => ?_)
          · refine awp_seq ?_
            refine awp_region ?_
            intro _
            obtain ⟨z9, u8, h⟩ := ob1_ok h
            refine cl_XDBErr rfl (A_stratagemlaw26_awake g u8) ?_
            intro _
            refine dr_XDBErr ?_
            refine awp_ret ?_
            have j9 := Option.some.inj h
            subst j9
            replace h := (osum_r hK2)
            intro _
            obtain rfl := inj1 h
            repeat (first | exact True.intro | refine ci_XDBErr ?_)
          · refine awp_skip ?_
            refine ⟨(), (Option.some.inj h).symm, ?_⟩
            repeat (first | exact True.intro | refine ci_XDBErr ?_)
        · intro _
          refine dr_XDBErr ?_
          refine awp_cond ?_
          intro _
          refine litT ?_
          refine awp_seq ?_
          refine awp_region ?_
          intro _
          obtain ⟨z10, u10, h⟩ := ob1_ok h
          refine cl_XDBErr rfl (A_stratagemlaw26_awake g u10) ?_
          intro _
          refine dr_XDBErr ?_
          refine awp_ret ?_
          have j11 := Option.some.inj h
          subst j11
          replace h := (osum_r hK2)
          intro _
          obtain rfl := inj1 h
          repeat (first | exact True.intro | refine ci_XDBErr ?_)
      · intro _
        refine dr_XDBErr ?_
        refine awp_cond ?_
        intro _
        refine litT ?_
        refine awp_seq ?_
        refine awp_region ?_
        intro _
        obtain ⟨z11, u12, h⟩ := ob1_ok h
        refine cl_XDBErr rfl (A_stratagemlaw26_awake g u12) ?_
        intro _
        refine dr_XDBErr ?_
        refine awp_ret ?_
        have j13 := Option.some.inj h
        subst j13
        replace h := (osum_r hK2)
        intro _
        obtain rfl := inj1 h
        repeat (first | exact True.intro | refine ci_XDBErr ?_)
    · intro _
      refine dr_XDBErr ?_
      refine awp_cond ?_
      intro _
      refine litT ?_
      refine awp_seq ?_
      refine awp_region ?_
      intro _
      obtain ⟨z12, u14, h⟩ := ob1_ok h
      refine cl_XDBErr rfl (A_stratagemlaw26_awake g u14) ?_
      intro _
      refine dr_XDBErr ?_
      refine awp_ret ?_
      have j15 := Option.some.inj h
      subst j15
      replace h := (osum_r hK2)
      intro _
      obtain rfl := inj1 h
      repeat (first | exact True.intro | refine ci_XDBErr ?_)
  · rintro _ ho
    have ho := ho.symm
    subst ho
    intro _
    replace h := (osum_l hK2)
    obtain ⟨o16, h, hK17⟩ := ob1_ok h
    refine awp_cut (α := Unit) (fun _ => mkS 152 [(1, .c (.int .i64 a1)), (2, .sl 2 (a2.map cF)), (3, .ptr 3 0 0 0)] [(3, ⟨26, 4, true, [[.sl 1 (a0.Vars.map cI), .sl 1 (a0.Init.map cI), .sl 2 (a0.Goal.map cF), .sl 4 (a0.Ops.map cGOp)]]⟩)]) (fun v => o16 = (.inl v)) ?_ ?_
    · refine awp_seq ?_
      refine awp_region ?_
      intro _
      refine dr_XDBErr ?_
      refine awp_block ?_
      refine awp_loop (α := Nat × Int) (fun x => mkS 152 [(1, .c (.int .i64 a1)), (2, .sl 2 (a2.map cF)), (3, .ptr 3 0 0 0), (37, .sl 4 (a0.Ops.map cGOp)), (38, .c (.int .i64 ((a0.Ops.map cGOp).length : Int))), (39, .c (.int .i64 x.2))] [(3, ⟨26, 4, true, [[.sl 1 (a0.Vars.map cI), .sl 1 (a0.Init.map cI), .sl 2 (a0.Goal.map cF), .sl 4 (a0.Ops.map cGOp)]]⟩)]) (fun x => M_stratagemlaw26_RegressErrors_L1 a0 x.1 x.2 = some o16) (fun x => x.1) ((((a0.Ops.map cGOp).length : Int)).toNat + 1, 0) h ?_ ?_
      · repeat (first | exact True.intro | refine ci_XDBErr ?_)
      · intro x18 h
        intro _
        obtain ⟨k25, m19, h⟩ := succ_of (f := fun n => M_stratagemlaw26_RegressErrors_L1 a0 n x18.2) rfl h
        replace h : M_stratagemlaw26_RegressErrors_L1 a0 (k25 + 1) x18.2 = some o16 := h
        rw [M_stratagemlaw26_RegressErrors_L1] at h
        refine awp_seq ?_
        refine awp_region ?_
        intro _
        refine dr_XDBErr ?_
        refine awp_seq ?_
        refine awp_cond ?_
        intro _
        refine spl h (fun c20 h => ?_) (fun c20 h => ?_)
        · refine awp_skip ?_
          refine awp_seq ?_
          refine awp_block ?_
          refine awp_seq ?_
          refine awp_region ?_
          intro _
          obtain ⟨y26, w21, q22, h⟩ := ix_ok h
          refine Exists.intro (cGOp y26) (And.intro (map_at' w21) ?_)
          intro _
          refine pr_XDBErr ?_
          refine dr_XDBErr ?_
          refine awp_seq ?_
          refine awp_region ?_
          intro _
          refine spf h (fun c23 h => ?_) (fun c23 h => ?_)
          · intro _
            refine dr_XDBErr ?_
            refine awp_cond ?_
            intro _
            refine spl h (fun c24 h => ?_) (fun c24 h => ?_)
            · refine awp_seq ?_
              refine awp_region ?_
              intro _
              refine dr_XDBErr ?_
              refine awp_ret ?_
              have j25 := Option.some.inj h
              subst j25
              replace h := (osum_r hK17)
              intro _
              obtain rfl := inj1 h
              repeat (first | exact True.intro | refine ci_XDBErr ?_)
            · refine awp_skip ?_
              refine awp_region ?_
              intro _
              refine dr_XDBErr ?_
              refine ⟨(k25, (IntKind.i64.wrap (x18.2 + 1))), h, lt_of_succ m19, ?_⟩
              repeat (first | exact True.intro | refine ci_XDBErr ?_)
          · intro _
            refine dr_XDBErr ?_
            refine awp_cond ?_
            intro _
            refine litT ?_
            refine awp_seq ?_
            refine awp_region ?_
            intro _
            refine dr_XDBErr ?_
            refine awp_ret ?_
            have j26 := Option.some.inj h
            subst j26
            replace h := (osum_r hK17)
            intro _
            obtain rfl := inj1 h
            repeat (first | exact True.intro | refine ci_XDBErr ?_)
        · refine awp_exit ?_
          refine ⟨(), (Option.some.inj h).symm, ?_⟩
          repeat (first | exact True.intro | refine ci_XDBErr ?_)
    · rintro _ ho
      have ho := ho.symm
      subst ho
      intro _
      replace h := (osum_l hK17)
      refine awp_seq ?_
      refine awp_region ?_
      intro _
      refine dr_XDBErr ?_
      obtain ⟨o27, h, hK28⟩ := ob1_ok h
      refine awp_cut (α := Int) (fun v33 => mkS 152 [(1, .c (.int .i64 a1)), (2, .sl 2 (a2.map cF)), (3, .ptr 3 0 0 0), (9, .c (.int .i64 v33))] [(3, ⟨26, 4, true, [[.sl 1 (a0.Vars.map cI), .sl 1 (a0.Init.map cI), .sl 2 (a0.Goal.map cF), .sl 4 (a0.Ops.map cGOp)]]⟩)]) (fun v => o27 = v) ?_ ?_
      · refine awp_block ?_
        refine awp_seq ?_
        refine awp_region ?_
        intro _
        obtain ⟨z35, u29, h⟩ := ob1_ok h
        refine cl_XDBErr rfl (A_stratagembase_Good a0 u29) ?_
        intro _
        refine dr_XDBErr ?_
        refine awp_cond ?_
        intro _
        refine spl h (fun c30 h => ?_) (fun c30 h => ?_)
        · refine awp_region ?_
          intro _
          obtain ⟨z36, u31, h⟩ := ob1_ok h
          refine cl_XDBErr rfl (A_task_Check a0 u31) ?_
          intro _
          obtain ⟨z37, u32, h⟩ := ob1_ok h
          refine cl_XDBErr rfl (A_stratagembase_Num z36 u32) ?_
          intro _
          refine dr_XDBErr ?_
          refine ⟨z37, (Option.some.inj h).symm, ?_⟩
          repeat (first | exact True.intro | refine ci_XDBErr ?_)
        · obtain ⟨o33, h, hK34⟩ := ob1_ok h
          refine awp_cut (α := Bool) (fun v38 => mkS 152 [(1, .c (.int .i64 a1)), (2, .sl 2 (a2.map cF)), (3, .ptr 3 0 0 0), (9, .c (.int .i64 0)), (61, .c (.bool v38))] [(3, ⟨26, 4, true, [[.sl 1 (a0.Vars.map cI), .sl 1 (a0.Init.map cI), .sl 2 (a0.Goal.map cF), .sl 4 (a0.Ops.map cGOp)]]⟩)]) (fun v => o33 = v) ?_ ?_
          · refine awp_region ?_
            intro _
            refine spf h (fun c35 h => ?_) (fun c35 h => ?_)
            · intro _
              refine dr_XDBErr ?_
              refine ⟨(decide (a1 ≥ ((a0.Ops.map cGOp).length : Int))), (Option.some.inj h).symm, ?_⟩
              repeat (first | exact True.intro | refine ci_XDBErr ?_)
            · intro _
              refine dr_XDBErr ?_
              refine ⟨true, (Option.some.inj h).symm, ?_⟩
              repeat (first | exact True.intro | refine ci_XDBErr ?_)
          · rintro v38 ho
            have ho := ho.symm
            subst ho
            intro _
            replace h := hK34
            refine awp_cond ?_
            intro _
            refine spl h (fun c36 h => ?_) (fun c36 h => ?_)
            · refine awp_region ?_
              intro _
              refine dr_XDBErr ?_
              refine ⟨1, (Option.some.inj h).symm, ?_⟩
              repeat (first | exact True.intro | refine ci_XDBErr ?_)
            · refine awp_seq ?_
              refine awp_region ?_
              intro _
              obtain ⟨z40, u37, h⟩ := ob1_ok h
              refine cl_XDBErr rfl (A_stratagembase_Proper a0.Vars a2 u37) ?_
              intro _
              refine dr_XDBErr ?_
              refine awp_cond ?_
              intro _
              refine spl h (fun c38 h => ?_) (fun c38 h => ?_)
              · refine awp_region ?_
                intro _
                refine dr_XDBErr ?_
                refine ⟨2, (Option.some.inj h).symm, ?_⟩
                repeat (first | exact True.intro | refine ci_XDBErr ?_)
              · refine awp_skip ?_
                refine ⟨0, (Option.some.inj h).symm, ?_⟩
                repeat (first | exact True.intro | refine ci_XDBErr ?_)
      · rintro v33 ho
        have ho := ho.symm
        subst ho
        intro _
        replace h := hK28
        refine awp_seq ?_
        refine awp_region ?_
        intro _
        obtain ⟨z41, z42, u39, h⟩ := ob2_ok h
        refine cl_XDBErr rfl (A_regress_Regress g a0 a1 a2 u39) ?_
        intro _
        refine dr_XDBErr ?_
        refine awp_seq ?_
        refine awp_region ?_
        intro _
        obtain ⟨z43, z44, u40, h⟩ := ob2_ok h
        refine cl_XDBErr rfl (A_regress_Possible g a0 a1 a2 u40) ?_
        intro _
        refine dr_XDBErr ?_
        refine awp_seq ?_
        refine awp_region ?_
        intro _
        obtain ⟨z45, z46, u41, h⟩ := ob2_ok h
        refine cl_XDBErr rfl (A_regress_Relevant a0 a2 u41) ?_
        intro _
        refine dr_XDBErr ?_
        refine awp_seq ?_
        refine awp_seq ?_
        refine awp_region ?_
        intro _
        refine dr_XDBErr ?_
        refine awp_cond ?_
        intro _
        refine spl h (fun c42 h => ?_) (fun c42 h => ?_)
        · refine awp_seq ?_
          refine awp_region ?_
          intro _
          obtain ⟨z47, u43, h⟩ := ob1_ok h
          refine cl_XDBErr rfl (A_stratagembase_Num z42 u43) ?_
          intro _
          refine spl h (fun c44 h => ?_) (fun c44 h => ?_)
          · intro _
            obtain ⟨z48, u45, h⟩ := ob1_ok h
            refine cl_XDBErr rfl (A_stratagembase_Num z44 u45) ?_
            intro _
            refine spl h (fun c46 h => ?_) (fun c46 h => ?_)
            · intro _
              refine dr_XDBErr ?_
              refine awp_ret ?_
              intro _
              obtain rfl := inj1 h
              repeat (first | exact True.intro | refine ci_XDBErr ?_)
            · intro _
              refine dr_XDBErr ?_
              refine awp_ret ?_
              intro _
              obtain rfl := inj1 h
              repeat (first | exact True.intro | refine ci_XDBErr ?_)
          · intro _
            refine dr_XDBErr ?_
            refine awp_ret ?_
            intro _
            obtain rfl := inj1 h
            repeat (first | exact True.intro | refine ci_XDBErr ?_)
        · refine awp_skip ?_
          refine awp_seq ?_
          refine awp_seq ?_
          refine awp_region ?_
          intro _
          refine dr_XDBErr ?_
          refine awp_cond ?_
          intro _
          refine spl h (fun c47 h => ?_) (fun c47 h => ?_)
          · refine awp_seq ?_
            rcases z42 with _ | e49
            · replace h := erM_nil h
              rcases z44 with _ | e50
              · replace h := erM_nil h
                rcases z46 with _ | e51
                · replace h := erM_nil h
                  refine awp_region ?_
                  intro _
                  refine spl h (fun c48 h => ?_) (fun c48 h => ?_)
                  · intro _
                    refine litTf ?_
                    intro _
                    refine dr_XDBErr ?_
                    refine awp_ret ?_
                    intro _
                    obtain rfl := inj1 h
                    repeat (first | exact True.intro | refine ci_XDBErr ?_)
                  · intro _
                    refine dr_XDBErr ?_
                    refine awp_ret ?_
                    intro _
                    obtain rfl := inj1 h
                    repeat (first | exact True.intro | refine ci_XDBErr ?_)
                · replace h := erM_no h
                  refine awp_region ?_
                  intro _
                  refine spl h (fun c49 h => ?_) (fun c49 h => ?_)
                  · intro _
                    refine litTf ?_
                    intro _
                    refine dr_XDBErr ?_
                    refine awp_ret ?_
                    intro _
                    obtain rfl := inj1 h
                    repeat (first | exact True.intro | refine ci_XDBErr ?_)
                  · intro _
                    refine dr_XDBErr ?_
                    refine awp_ret ?_
                    intro _
                    obtain rfl := inj1 h
                    repeat (first | exact True.intro | refine ci_XDBErr ?_)
              · replace h := erM_no h
                rcases z46 with _ | e52
                · replace h := erM_nil h
                  refine awp_region ?_
                  intro _
                  refine spl h (fun c50 h => ?_) (fun c50 h => ?_)
                  · intro _
                    refine litTf ?_
                    intro _
                    refine dr_XDBErr ?_
                    refine awp_ret ?_
                    intro _
                    obtain rfl := inj1 h
                    repeat (first | exact True.intro | refine ci_XDBErr ?_)
                  · intro _
                    refine dr_XDBErr ?_
                    refine awp_ret ?_
                    intro _
                    obtain rfl := inj1 h
                    repeat (first | exact True.intro | refine ci_XDBErr ?_)
                · replace h := erM_no h
                  refine awp_region ?_
                  intro _
                  refine spl h (fun c51 h => ?_) (fun c51 h => ?_)
                  · intro _
                    refine litTf ?_
                    intro _
                    refine dr_XDBErr ?_
                    refine awp_ret ?_
                    intro _
                    obtain rfl := inj1 h
                    repeat (first | exact True.intro | refine ci_XDBErr ?_)
                  · intro _
                    refine dr_XDBErr ?_
                    refine awp_ret ?_
                    intro _
                    obtain rfl := inj1 h
                    repeat (first | exact True.intro | refine ci_XDBErr ?_)
            · replace h := erM_no h
              rcases z44 with _ | e53
              · replace h := erM_nil h
                rcases z46 with _ | e55
                · replace h := erM_nil h
                  refine awp_region ?_
                  intro _
                  refine spl h (fun c52 h => ?_) (fun c52 h => ?_)
                  · intro _
                    refine litFf ?_
                    intro _
                    obtain ⟨z56, u53, h⟩ := ob1_ok h
                    refine cl_XDBErr rfl (A_stratagembase_Is (Er.no e49) 5 u53) ?_
                    intro _
                    refine spl h (fun c54 h => ?_) (fun c54 h => ?_)
                    · intro _
                      refine dr_XDBErr ?_
                      refine awp_ret ?_
                      intro _
                      obtain rfl := inj1 h
                      repeat (first | exact True.intro | refine ci_XDBErr ?_)
                    · intro _
                      refine dr_XDBErr ?_
                      refine awp_ret ?_
                      intro _
                      obtain rfl := inj1 h
                      repeat (first | exact True.intro | refine ci_XDBErr ?_)
                  · intro _
                    refine dr_XDBErr ?_
                    refine awp_ret ?_
                    intro _
                    obtain rfl := inj1 h
                    repeat (first | exact True.intro | refine ci_XDBErr ?_)
                · replace h := erM_no h
                  refine awp_region ?_
                  intro _
                  refine spl h (fun c55 h => ?_) (fun c55 h => ?_)
                  · intro _
                    refine litFf ?_
                    intro _
                    obtain ⟨z57, u56, h⟩ := ob1_ok h
                    refine cl_XDBErr rfl (A_stratagembase_Is (Er.no e49) 5 u56) ?_
                    intro _
                    refine spl h (fun c57 h => ?_) (fun c57 h => ?_)
                    · intro _
                      refine dr_XDBErr ?_
                      refine awp_ret ?_
                      intro _
                      obtain rfl := inj1 h
                      repeat (first | exact True.intro | refine ci_XDBErr ?_)
                    · intro _
                      refine dr_XDBErr ?_
                      refine awp_ret ?_
                      intro _
                      obtain rfl := inj1 h
                      repeat (first | exact True.intro | refine ci_XDBErr ?_)
                  · intro _
                    refine dr_XDBErr ?_
                    refine awp_ret ?_
                    intro _
                    obtain rfl := inj1 h
                    repeat (first | exact True.intro | refine ci_XDBErr ?_)
              · replace h := erM_no h
                rcases z46 with _ | e59
                · replace h := erM_nil h
                  refine awp_region ?_
                  intro _
                  refine spl h (fun c58 h => ?_) (fun c58 h => ?_)
                  · intro _
                    refine litFf ?_
                    intro _
                    obtain ⟨z60, u59, h⟩ := ob1_ok h
                    refine cl_XDBErr rfl (A_stratagembase_Is (Er.no e49) 5 u59) ?_
                    intro _
                    refine spl h (fun c60 h => ?_) (fun c60 h => ?_)
                    · intro _
                      refine dr_XDBErr ?_
                      refine awp_ret ?_
                      intro _
                      obtain rfl := inj1 h
                      repeat (first | exact True.intro | refine ci_XDBErr ?_)
                    · intro _
                      refine dr_XDBErr ?_
                      refine awp_ret ?_
                      intro _
                      obtain rfl := inj1 h
                      repeat (first | exact True.intro | refine ci_XDBErr ?_)
                  · intro _
                    refine dr_XDBErr ?_
                    refine awp_ret ?_
                    intro _
                    obtain rfl := inj1 h
                    repeat (first | exact True.intro | refine ci_XDBErr ?_)
                · replace h := erM_no h
                  refine awp_region ?_
                  intro _
                  refine spl h (fun c61 h => ?_) (fun c61 h => ?_)
                  · intro _
                    refine litFf ?_
                    intro _
                    obtain ⟨z61, u62, h⟩ := ob1_ok h
                    refine cl_XDBErr rfl (A_stratagembase_Is (Er.no e49) 5 u62) ?_
                    intro _
                    refine spl h (fun c63 h => ?_) (fun c63 h => ?_)
                    · intro _
                      refine dr_XDBErr ?_
                      refine awp_ret ?_
                      intro _
                      obtain rfl := inj1 h
                      repeat (first | exact True.intro | refine ci_XDBErr ?_)
                    · intro _
                      refine dr_XDBErr ?_
                      refine awp_ret ?_
                      intro _
                      obtain rfl := inj1 h
                      repeat (first | exact True.intro | refine ci_XDBErr ?_)
                  · intro _
                    refine dr_XDBErr ?_
                    refine awp_ret ?_
                    intro _
                    obtain rfl := inj1 h
                    repeat (first | exact True.intro | refine ci_XDBErr ?_)
          · refine awp_skip ?_
            refine awp_seq ?_
            refine awp_region ?_
            intro _
            obtain ⟨z62, u64, h⟩ := ob1_ok h
            refine cl_XDBErr rfl (A_stratagembase_Num z42 u64) ?_
            intro _
            refine spl h (fun c65 h => ?_) (fun c65 h => ?_)
            · intro _
              obtain ⟨z63, u66, h⟩ := ob1_ok h
              refine cl_XDBErr rfl (A_stratagembase_Num z44 u66) ?_
              intro _
              refine spl h (fun c67 h => ?_) (fun c67 h => ?_)
              · intro _
                refine spl h (fun c68 h => ?_) (fun c68 h => ?_)
                · intro _
                  obtain ⟨z64, u69, h⟩ := ob1_ok h
                  refine cl_XDBErr rfl (A_stratagembase_Num z46 u69) ?_
                  intro _
                  refine dr_XDBErr ?_
                  refine awp_ret ?_
                  intro _
                  obtain rfl := inj1 h
                  repeat (first | exact True.intro | refine ci_XDBErr ?_)
                · intro _
                  refine dr_XDBErr ?_
                  refine awp_ret ?_
                  intro _
                  obtain rfl := inj1 h
                  repeat (first | exact True.intro | refine ci_XDBErr ?_)
              · intro _
                refine dr_XDBErr ?_
                refine awp_ret ?_
                intro _
                obtain rfl := inj1 h
                repeat (first | exact True.intro | refine ci_XDBErr ?_)
            · intro _
              refine dr_XDBErr ?_
              refine awp_ret ?_
              intro _
              obtain rfl := inj1 h
              repeat (first | exact True.intro | refine ci_XDBErr ?_)
end Go.Proofs.Yteapjpgabdegnaa.Am
/- Range loops of the models as recursions. -/
namespace Go.Proofs.Yteapjpgabdegnaa.Am
def M_slices_IndexFunc_Effect_L1_B (_ : List GEffect) (a1 : GEffect → Option Bool) (_y8 : GEffect) (v6 : Int) : Unit → (Unit → Option (Int)) → Option (Int) := fun _ rc => ixv _y8 (fun y8 =>
       ob1 (a1 y8) (fun z9 =>
        sel z9
         (some v6)
         (rc ())))
def M_slices_IndexFunc_Effect_L1_E (_ : List GEffect) (_ : GEffect → Option Bool) : Unit → Option (Int) := fun _ => some (-1)
theorem M_slices_IndexFunc_Effect_L1_rg (a0 : List GEffect) (a1 : GEffect → Option Bool) (hl : a0.length < 9223372036854775807) : ∀ (k n : Nat) , n ≤ a0.length → a0.length < k + n → M_slices_IndexFunc_Effect_L1 a0 a1 k (n : Int) = Rg (M_slices_IndexFunc_Effect_L1_B a0 a1) (M_slices_IndexFunc_Effect_L1_E a0 a1) (a0.drop n) n () := by
  intro k n 
  refine rg_of (L := fun k i (p : Unit) => M_slices_IndexFunc_Effect_L1 a0 a1 k i) hl (fun k n p y hy hn => ?_) (fun k p => ?_) k n ()
  · have h1 := lt_some hy
    have h2 := w64s hn
    first | (simp only [M_slices_IndexFunc_Effect_L1, M_slices_IndexFunc_Effect_L1_B, List.length_map, decide_lt h1, sel, ix_at hy, ixv, h2]; done) | (simp only [List.length_map] at h1 hy; simp only [M_slices_IndexFunc_Effect_L1, M_slices_IndexFunc_Effect_L1_B, List.length_map, decide_lt h1, sel, ix_at hy, ixv, h2]; done)
  · simp only [M_slices_IndexFunc_Effect_L1, M_slices_IndexFunc_Effect_L1_E, List.length_map, decide_ge, sel]
theorem M_slices_IndexFunc_Effect_L1_eq (a0 : List GEffect) (a1 : GEffect → Option Bool)  (hl : a0.length < 9223372036854775807) : M_slices_IndexFunc_Effect_L1 a0 a1 (((a0.map cGEffect).length : Int).toNat + 1) 0 = Rg (M_slices_IndexFunc_Effect_L1_B a0 a1) (M_slices_IndexFunc_Effect_L1_E a0 a1) a0 0 () := by
  have h := M_slices_IndexFunc_Effect_L1_rg a0 a1 hl (a0.length + 1) 0  (Nat.zero_le _) (by omega)
  rw [List.length_map, Int.toNat_natCast]
  exact h
def M_slices_Index_Fact_L1_B (_ : List Fact) (a1 : Fact) (_y6 : Fact) (v4 : Int) : Unit → (Unit → Option (Int)) → Option (Int) := fun _ rc => ixv _y6 (fun y6 =>
       sel (a1.1 == y6.1 && a1.2 == y6.2)
        (some v4)
        (rc ()))
def M_slices_Index_Fact_L1_E (_ : List Fact) (_ : Fact) : Unit → Option (Int) := fun _ => some (-1)
theorem M_slices_Index_Fact_L1_rg (a0 : List Fact) (a1 : Fact) (hl : a0.length < 9223372036854775807) : ∀ (k n : Nat) , n ≤ a0.length → a0.length < k + n → M_slices_Index_Fact_L1 a0 a1 k (n : Int) = Rg (M_slices_Index_Fact_L1_B a0 a1) (M_slices_Index_Fact_L1_E a0 a1) (a0.drop n) n () := by
  intro k n 
  refine rg_of (L := fun k i (p : Unit) => M_slices_Index_Fact_L1 a0 a1 k i) hl (fun k n p y hy hn => ?_) (fun k p => ?_) k n ()
  · have h1 := lt_some hy
    have h2 := w64s hn
    first | (simp only [M_slices_Index_Fact_L1, M_slices_Index_Fact_L1_B, List.length_map, decide_lt h1, sel, ix_at hy, ixv, h2]; done) | (simp only [List.length_map] at h1 hy; simp only [M_slices_Index_Fact_L1, M_slices_Index_Fact_L1_B, List.length_map, decide_lt h1, sel, ix_at hy, ixv, h2]; done)
  · simp only [M_slices_Index_Fact_L1, M_slices_Index_Fact_L1_E, List.length_map, decide_ge, sel]
theorem M_slices_Index_Fact_L1_eq (a0 : List Fact) (a1 : Fact)  (hl : a0.length < 9223372036854775807) : M_slices_Index_Fact_L1 a0 a1 (((a0.map cF).length : Int).toNat + 1) 0 = Rg (M_slices_Index_Fact_L1_B a0 a1) (M_slices_Index_Fact_L1_E a0 a1) a0 0 () := by
  have h := M_slices_Index_Fact_L1_rg a0 a1 hl (a0.length + 1) 0  (Nat.zero_le _) (by omega)
  rw [List.length_map, Int.toNat_natCast]
  exact h
def M_regress_Relevant_L1_B (_ : GTask) (a1 : List Fact) (_y13 : GOp) (v10 : Int) : ((List Int)) → (((List Int)) → Option ((List Int) × Er)) → Option ((List Int) × Er) := fun v11 rc => ixv _y13 (fun y13 =>
       ob1 (M_slices_ContainsFunc_Effect y13.Effs (M_regress_Relevant_1 a1)) (fun z14 =>
        sel z14
         (grd ((v11.length + 1) * 8 ≤ 140737488355328) (rc ((v11 ++ [v10]))))
         (rc (v11))))
def M_regress_Relevant_L1_E (_ : GTask) (_ : List Fact) : ((List Int)) → Option ((List Int) × Er) := fun v11 => grd (v11.length ≤ 140737488355328) (some (v11, Er.nil))
theorem M_regress_Relevant_L1_rg (a0 : GTask) (a1 : List Fact) (hl : a0.Ops.length < 9223372036854775807) : ∀ (k n : Nat) (v11 : List Int), n ≤ a0.Ops.length → a0.Ops.length < k + n → M_regress_Relevant_L1 a0 a1 k (n : Int) v11 = Rg (M_regress_Relevant_L1_B a0 a1) (M_regress_Relevant_L1_E a0 a1) (a0.Ops.drop n) n v11 := by
  intro k n v11
  refine rg_of (L := fun k i (p : ((List Int))) => match p with | v11 => M_regress_Relevant_L1 a0 a1 k i v11) hl (fun k n p y hy hn => ?_) (fun k p => ?_) k n v11
  · have h1 := lt_some hy
    have h2 := w64s hn
    first | (simp only [M_regress_Relevant_L1, M_regress_Relevant_L1_B, List.length_map, decide_lt h1, sel, ix_at hy, ixv, h2]; done) | (simp only [List.length_map] at h1 hy; simp only [M_regress_Relevant_L1, M_regress_Relevant_L1_B, List.length_map, decide_lt h1, sel, ix_at hy, ixv, h2]; done)
  · simp only [M_regress_Relevant_L1, M_regress_Relevant_L1_E, List.length_map, decide_ge, sel]
theorem M_regress_Relevant_L1_eq (a0 : GTask) (a1 : List Fact) (v11 : List Int) (hl : a0.Ops.length < 9223372036854775807) : M_regress_Relevant_L1 a0 a1 (((a0.Ops.map cGOp).length : Int).toNat + 1) 0 v11 = Rg (M_regress_Relevant_L1_B a0 a1) (M_regress_Relevant_L1_E a0 a1) a0.Ops 0 v11 := by
  have h := M_regress_Relevant_L1_rg a0 a1 hl (a0.Ops.length + 1) 0 v11 (Nat.zero_le _) (by omega)
  rw [List.length_map, Int.toNat_natCast]
  exact h
end Go.Proofs.Yteapjpgabdegnaa.Am
/- Range loops of the models as recursions. -/
namespace Go.Proofs.Yteapjpgabdegnaa.Am
def M_stratagemlaw26_RegressErrors_L1_B (_ : GTask) (_y26 : GOp) (_ : Int) : Unit → (Unit → Option (Unit ⊕ Bool)) → Option (Unit ⊕ Bool) := fun _ rc => ixv _y26 (fun y26 =>
       sel (decide (((y26.Effs.map cGEffect).length : Int) > 8))
        (some (.inr true))
        (sel (decide (((y26.Pre.map cF).length : Int) > 100))
          (some (.inr true))
          (rc ())))
def M_stratagemlaw26_RegressErrors_L1_E (_ : GTask) : Unit → Option (Unit ⊕ Bool) := fun _ => some (.inl ())
theorem M_stratagemlaw26_RegressErrors_L1_rg (a0 : GTask) (hl : a0.Ops.length < 9223372036854775807) : ∀ (k n : Nat) , n ≤ a0.Ops.length → a0.Ops.length < k + n → M_stratagemlaw26_RegressErrors_L1 a0 k (n : Int) = Rg (M_stratagemlaw26_RegressErrors_L1_B a0) (M_stratagemlaw26_RegressErrors_L1_E a0) (a0.Ops.drop n) n () := by
  intro k n 
  refine rg_of (L := fun k i (p : Unit) => M_stratagemlaw26_RegressErrors_L1 a0 k i) hl (fun k n p y hy hn => ?_) (fun k p => ?_) k n ()
  · have h1 := lt_some hy
    have h2 := w64s hn
    first | (simp only [M_stratagemlaw26_RegressErrors_L1, M_stratagemlaw26_RegressErrors_L1_B, List.length_map, decide_lt h1, sel, ix_at hy, ixv, h2]; done) | (simp only [List.length_map] at h1 hy; simp only [M_stratagemlaw26_RegressErrors_L1, M_stratagemlaw26_RegressErrors_L1_B, List.length_map, decide_lt h1, sel, ix_at hy, ixv, h2]; done)
  · simp only [M_stratagemlaw26_RegressErrors_L1, M_stratagemlaw26_RegressErrors_L1_E, List.length_map, decide_ge, sel]
theorem M_stratagemlaw26_RegressErrors_L1_eq (a0 : GTask)  (hl : a0.Ops.length < 9223372036854775807) : M_stratagemlaw26_RegressErrors_L1 a0 (((a0.Ops.map cGOp).length : Int).toNat + 1) 0 = Rg (M_stratagemlaw26_RegressErrors_L1_B a0) (M_stratagemlaw26_RegressErrors_L1_E a0) a0.Ops 0 () := by
  have h := M_stratagemlaw26_RegressErrors_L1_rg a0 hl (a0.Ops.length + 1) 0  (Nat.zero_le _) (by omega)
  rw [List.length_map, Int.toNat_natCast]
  exact h
end Go.Proofs.Yteapjpgabdegnaa.Am
/- Plain laws: regress.Possible, Relevant, the errors; the law RegressErrors. -/
namespace Go.Proofs.Yteapjpgabdegnaa.Am
open Go.RowKit
theorem pre_check (t : GTask) (ht : ShT t) (p : List Fact) (g : Nat) (op : Int) {c : Int} (h : checkF t = .no c) : M_regress_preimage g t op p = some ([], .no c) := by
  rw [M_regress_preimage, check_eq t ht, h, ob1_some]; rfl
theorem pre_range (t : GTask) (ht : ShT t) (hgood : goodF t = true) (p : List Fact) (g : Nat) (op : Int) (h : op < 0 ∨ (t.Ops.length : Int) ≤ op) : M_regress_preimage g t op p = some ([], .no 1) := by
  rw [M_regress_preimage, check_eq t ht, (good_check t).1 hgood, ob1_some]
  show ob1 _ _ = _
  rw [sel_dec, sel_dec, List.length_map]
  by_cases h0 : op < 0
  · rw [if_pos h0]; rfl
  · rw [if_neg h0, if_pos (by omega)]; rfl
theorem pre_form (t : GTask) (ht : ShT t) (hgood : goodF t = true) (p : List Fact) (hp : Sh p) (g : Nat) (op : Int) (h0 : 0 ≤ op) (h1 : op < t.Ops.length) (hf : propF t.Vars (-1) p = false) : M_regress_preimage g t op p = some ([], .no 2) := by
  rw [M_regress_preimage, check_eq t ht, (good_check t).1 hgood, ob1_some]
  show ob1 _ _ = _
  rw [sel_dec, sel_dec, List.length_map, if_neg (by omega), if_neg (by omega), ob1_some, osum_inl, facts_eq _ _ hp, hf]; rfl
theorem regress_err {t : GTask} {p : List Fact} {g : Nat} {op c : Int} (h : M_regress_preimage g t op p = some ([], .no c)) : M_regress_Regress g t op p = some ([], .no c) := by
  rw [M_regress_Regress, h]; rfl
theorem possible_err {t : GTask} {p : List Fact} {g : Nat} {op c : Int} (h : M_regress_preimage g t op p = some ([], .no c)) : M_regress_Possible g t op p = some (false, .no c) := by
  rw [M_regress_Possible, h]; rfl
def possR : Option (List (List Fact)) → Bool × Er
  | some l => (decide (0 < l.length), .nil)
  | none => (false, .no 5)
theorem possible_eq (t : GTask) (ht : ShT t) (hgood : goodF t = true) (p : List Fact) (hpf : propF t.Vars (-1) p = true) (g : Nat) (hg : 70 ≤ g) (op : Int) (o : GOp) (h0 : 0 ≤ op) (hop : t.Ops[op.toNat]? = some o) :
    M_regress_Possible g t op p = some (possR (regG t.Vars o p [o.Pre])) := by
  rw [M_regress_Possible, preimage_eq t ht hgood p hpf g hg op o h0 hop, ob2_res]
  cases regG t.Vars o p [o.Pre] with
  | none => rfl
  | some l =>
    show some _ = some _
    rw [List.length_map, possR]
    congr 2
    rw [Bool.eq_iff_iff, decide_eq_true_iff, decide_eq_true_iff]; omega
-- Relevant
theorem containsEff_eq {l : List GEffect} {f : GEffect → Option Bool} {p : GEffect → Bool} (hl : Sh l) (h : ∀ y ∈ l, f y = some (p y)) : M_slices_ContainsFunc_Effect l f = some (l.any p) := by
  have key : ∀ (r : List GEffect) (n : Nat), (∀ y ∈ r, f y = some (p y)) → ∃ z, Rg (M_slices_IndexFunc_Effect_L1_B l f) (M_slices_IndexFunc_Effect_L1_E l f) r n () = some z ∧ (0 ≤ z ↔ r.any p = true) := by
    intro r
    induction r with
    | nil => intro n _; exact ⟨-1, rfl, by simp⟩
    | cons y r ih =>
      intro n hr
      rw [Rg]
      simp only [M_slices_IndexFunc_Effect_L1_B, ixv, hr y (by simp), ob1_some]
      cases hp : p y
      · obtain ⟨z, h1, h2⟩ := ih (n + 1) (fun w hw => hr w (by simp [hw]))
        exact ⟨z, h1, by rw [h2, List.any_cons, hp, Bool.false_or]⟩
      · exact ⟨n, rfl, by simp [hp]⟩
  obtain ⟨z, h1, h2⟩ := key l 0 h
  rw [M_slices_ContainsFunc_Effect, M_slices_IndexFunc_Effect, M_slices_IndexFunc_Effect_L1_eq _ _ hl.lt]
  rw [show ((0 : Nat) : Int) = 0 from rfl] at h1
  rw [h1, ob1_some]
  congr 1
  rw [Bool.eq_iff_iff, decide_eq_true_iff, ge_iff_le, h2]
theorem containsFact_eq (l : List Fact) (x : Fact) (hl : Sh l) : M_slices_Contains_Fact l x = some (decide (x ∈ l)) := by
  have key : ∀ (r : List Fact) (n : Nat), ∃ z, Rg (M_slices_Index_Fact_L1_B l x) (M_slices_Index_Fact_L1_E l x) r n () = some z ∧ (0 ≤ z ↔ x ∈ r) := by
    intro r
    induction r with
    | nil => intro n; exact ⟨-1, rfl, by simp⟩
    | cons y r ih =>
      intro n
      rw [Rg, M_slices_Index_Fact_L1_B, ixv, fact_beq]
      by_cases e : x = y
      · exact ⟨n, by rw [decide_eq_true e, sel_tt], by simp [e]⟩
      · obtain ⟨z, h1, h2⟩ := ih (n + 1)
        exact ⟨z, by rw [decide_eq_false e, sel_ff]; exact h1, by rw [h2, List.mem_cons]; simp [e]⟩
  obtain ⟨z, h1, h2⟩ := key l 0
  rw [M_slices_Contains_Fact, M_slices_Index_Fact, M_slices_Index_Fact_L1_eq _ _ hl.lt]
  rw [show ((0 : Nat) : Int) = 0 from rfl] at h1
  rw [h1, ob1_some]
  congr 1
  rw [Bool.eq_iff_iff, decide_eq_true_iff, ge_iff_le, h2, decide_eq_true_iff]
def relO (p : List Fact) (o : GOp) : Bool := o.Effs.any fun e => decide ((e.Var, e.Val) ∈ p)
def relG (p : List Fact) : List GOp → Int → List Int
  | [], _ => []
  | o :: r, i => (if relO p o = true then [i] else []) ++ relG p r (i + 1)
theorem rel_loop (t : GTask) (p : List Fact) (hp : Sh p) : ∀ (r : List GOp) (i : Int) (v : List Int), (∀ o ∈ r, Sh o.Effs) → v.length + r.length ≤ 1000000 → Rg (M_regress_Relevant_L1_B t p) (M_regress_Relevant_L1_E t p) r i v = some (v ++ relG p r i, .nil)
  | [], i, v, _, h => by rw [List.length_nil] at h; rw [Rg, M_regress_Relevant_L1_E, relG, List.append_nil, grd_t (by omega)]
  | o :: r, i, v, ho, h => by
    have ho' : ∀ u ∈ r, Sh u.Effs := fun u hu => ho u (List.mem_cons_of_mem _ hu)
    rw [List.length_cons] at h
    rw [Rg, M_regress_Relevant_L1_B, ixv, containsEff_eq (p := fun e => decide ((e.Var, e.Val) ∈ p)) (ho o (List.mem_cons_self ..)) (fun e _ => by rw [M_regress_Relevant_1, containsFact_eq p _ hp, ob1_some]), ob1_some, relG]
    show sel (relO p o) _ _ = _
    cases relO p o with
    | true =>
      rw [sel_tt, grd_t (by omega), rel_loop t p hp r _ _ ho' (by rw [List.length_append, List.length_singleton]; omega), if_pos rfl, List.append_assoc]
    | false => rw [sel_ff, rel_loop t p hp r _ _ ho' (by omega), if_neg (by decide), List.nil_append]
theorem relevant_eq (t : GTask) (ht : ShT t) (hgood : goodF t = true) (p : List Fact) (hp : Sh p) (hpf : propF t.Vars (-1) p = true) : M_regress_Relevant t p = some (relG p t.Ops 0, .nil) := by
  have hn : t.Ops.length ≤ 4096 := by
    unfold goodF at hgood
    simp only [Bool.and_eq_true, decide_eq_true_iff] at hgood
    exact hgood.1.2
  rw [M_regress_Relevant, check_eq t ht, (good_check t).1 hgood, ob1_some]
  show ob1 _ _ = _
  rw [facts_eq _ _ hp, hpf, ob1_some, Bool.not_true, sel_ff, M_regress_Relevant_L1_eq t p [] ht.ops.lt, rel_loop t p hp t.Ops 0 [] (fun o ho => (ht.op o ho).effs) (by simp; omega), List.nil_append]
theorem relevant_check (t : GTask) (ht : ShT t) (p : List Fact) {c : Int} (h : checkF t = .no c) : M_regress_Relevant t p = some ([], .no c) := by
  rw [M_regress_Relevant, check_eq t ht, h, ob1_some]; rfl
theorem relevant_form (t : GTask) (ht : ShT t) (hgood : goodF t = true) (p : List Fact) (hp : Sh p) (hf : propF t.Vars (-1) p = false) : M_regress_Relevant t p = some ([], .no 2) := by
  rw [M_regress_Relevant, check_eq t ht, (good_check t).1 hgood, ob1_some]
  show ob1 _ _ = _
  rw [facts_eq _ _ hp, hf]; rfl
-- the law
theorem errors_pre (t : GTask) : ∀ (r : List GOp) (i : Int), Rg (M_stratagemlaw26_RegressErrors_L1_B t) (M_stratagemlaw26_RegressErrors_L1_E t) r i () = some (.inl ()) ∨ Rg (M_stratagemlaw26_RegressErrors_L1_B t) (M_stratagemlaw26_RegressErrors_L1_E t) r i () = some (.inr true)
  | [], i => Or.inl rfl
  | o :: r, i => by
    rw [Rg, M_stratagemlaw26_RegressErrors_L1_B, ixv, sel_dec, sel_dec]
    split
    · exact Or.inr rfl
    · split
      · exact Or.inr rfl
      · exact errors_pre t r (i + 1)
theorem checkF_codes {t : GTask} (h : goodF t = false) : ∃ c : Int, checkF t = .no c ∧ (c = 1 ∨ c ≠ 0) := by
  have hne : checkF t ≠ .nil := fun e => by rw [(good_check t).2 e] at h; cases h
  cases hc : checkF t with
  | nil => exact absurd hc hne
  | no c =>
    refine ⟨c, rfl, ?_⟩
    unfold checkF at hc
    repeat' split at hc
    all_goals first | (cases hc; omega) | cases hc
theorem errors_true (g : Nat) (hg : 70 ≤ g) (t : GTask) (ht : ShT t) (op : Int) (p : List Fact) (hp : Sh p) : M_stratagemlaw26_RegressErrors g t op p = some true := by
  rw [M_stratagemlaw26_RegressErrors, awake_eq g hg, List.length_map, List.length_map, List.length_map, sel_dec, sel_dec, sel_dec]
  by_cases h1 : (t.Vars.length : Int) > 100
  · rw [if_pos h1]; rfl
  by_cases h2 : (t.Ops.length : Int) > 50
  · rw [if_neg h1, if_pos h2]; rfl
  by_cases h3 : (p.length : Int) > 100
  · rw [if_neg h1, if_neg h2, if_pos h3]; rfl
  have el := M_stratagemlaw26_RegressErrors_L1_eq t ht.ops.lt
  rw [List.length_map] at el
  rw [if_neg h1, if_neg h2, if_neg h3, ob1_some, Bool.not_true, sel_ff, ob1_some, osum_inl, el]
  rcases errors_pre t t.Ops 0 with e | e
  rotate_left
  · rw [e]; rfl
  rw [e, ob1_some, osum_inl, good_eq t ht, ob1_some]
  cases hgood : goodF t with
  | false =>
    obtain ⟨c, hc, hc2⟩ := checkF_codes hgood
    rw [Bool.not_false, sel_tt, check_eq t ht, hc, ob1_some, num_no, ob1_some, ob1_some]
    have hr := pre_check t ht p g op hc
    rw [regress_err hr, possible_err hr, relevant_check t ht p hc, ob2_some, ob2_some, ob2_some]
    simp only [num_no, ob1_some, beq_self_eq_true, sel_tt, Bool.not_false]
    by_cases e1 : c = 1
    · rw [show (c == 1) = true from by simp [e1]]; rfl
    · rw [show (c == 1) = false from by simp [e1], show (c == 0) = false from by simp; omega]; rfl
  | true =>
    rw [Bool.not_true, sel_ff, sel_dec]
    by_cases hop : op < 0 ∨ (t.Ops.length : Int) ≤ op
    · have hr := pre_range t ht hgood p g op hop
      have ev : (if op < 0 then some true else some (decide (op ≥ (t.Ops.length : Int)))) = some true := by
        by_cases h0 : op < 0
        · rw [if_pos h0]
        · rw [if_neg h0, decide_eq_true (by omega)]
      rw [ev, ob1_some, sel_tt, ob1_some, regress_err hr, possible_err hr, ob2_some, ob2_some]
      cases hf : propF t.Vars (-1) p with
      | true => rw [relevant_eq t ht hgood p hp hf]; rfl
      | false => rw [relevant_form t ht hgood p hp hf]; rfl
    · rw [if_neg (by omega), ob1_some, decide_eq_false (by omega), sel_ff, proper_eq _ _ hp, ob1_some]
      cases hf : propF t.Vars (-1) p with
      | false =>
        have hr := pre_form t ht hgood p hp g op (by omega) (by omega) hf
        rw [Bool.not_false, sel_tt, ob1_some, regress_err hr, possible_err hr, relevant_form t ht hgood p hp hf]
        rfl
      | true =>
        obtain ⟨o, ho⟩ : ∃ o, t.Ops[op.toNat]? = some o := ⟨_, List.getElem?_eq_getElem (by omega)⟩
        rw [Bool.not_true, sel_ff, ob1_some, regress_eq t ht hgood p hf g hg op o (by omega) ho, possible_eq t ht hgood p hf g hg op o (by omega) ho, relevant_eq t ht hgood p hp hf, regO]
        cases regG t.Vars o p [o.Pre] with
        | none => rfl
        | some l => rfl
end Go.Proofs.Yteapjpgabdegnaa.Am
/- Models printed by my decompiler, and the proofs that the code computes them. -/
namespace Go.Proofs.Yteapjpgabdegnaa.Am
open Go.RowKit
theorem ci_XDBForm {p K : Prop} (k : K) (h : p := by first | rfl | exact ⟨rfl, rfl⟩ | exact BW.fr FrV.h | (refine BW.fr ?_; assumption) | (refine ⟨rfl, ?_⟩; (simp [cGTask, cI, cF, cGOp, cGEffect, cL_cF, take_len_map]; done)) | (refine RowK.same ?_ FrI.h; first | rfl | (simp [cGTask, cI, cF, cGOp, cGEffect, cL_cF, take_len_map]; done)) | (refine row_part1 ?_; (repeat (first | exact BWL.nil | exact bwll_nil | exact bw_c | exact BW.sl | exact BW.nil | exact bwll_same rfl FrI.h | refine BWL.cons ?_ ?_ | refine bwll_cons ?_ ?_ | (refine bw_own3 rfl rfl rfl FrI.h ?_ ?_ ?_) | exact BW.fr FrV.h | exact BW.fr (by assumption) | refine bw_agg ?_ | refine bw_clo ?_ | refine bw_ptr rfl rfl rfl ?_ | (refine bw_own rfl rfl rfl ?_ FrI.h ?_ ?_) | assumption | omega | rfl | (rw [List.length_map, ← List.length_append]; assumption) | (refine bwll_same ?_ FrI.h; (simp [cGTask, cI, cF, cGOp, cGEffect, cL_cF] <;> fail)) | (rw [List.map_set]; refine bwll_set (by first | rfl | omega | simp) ?_ ?_) | refine bwll_set (by first | rfl | omega | simp) ?_ ?_ | (rw [List.map_replicate]; refine bwll_rep ?_) | refine bwll_rep ?_ | (rw [List.map_append]; refine bwll_append ?_ ?_) | refine bwll_append ?_ ?_ | (simp [cGTask, cI, cF, cGOp, cGEffect, cL_cF, take_len_map] <;> fail) | (rw [List.drop_zero, List.take_of_length_le] <;> first | rfl | (simp [cGTask, cI, cF, cGOp, cGEffect, cL_cF] <;> fail)) | (simp; omega))); done) | ((repeat (first | exact BWL.nil | exact bwll_nil | exact bw_c | exact BW.sl | exact BW.nil | exact bwll_same rfl FrI.h | refine BWL.cons ?_ ?_ | refine bwll_cons ?_ ?_ | (refine bw_own3 rfl rfl rfl FrI.h ?_ ?_ ?_) | exact BW.fr FrV.h | exact BW.fr (by assumption) | refine bw_agg ?_ | refine bw_clo ?_ | refine bw_ptr rfl rfl rfl ?_ | (refine bw_own rfl rfl rfl ?_ FrI.h ?_ ?_) | assumption | omega | rfl | (rw [List.length_map, ← List.length_append]; assumption) | (refine bwll_same ?_ FrI.h; (simp [cGTask, cI, cF, cGOp, cGEffect, cL_cF] <;> fail)) | (rw [List.map_set]; refine bwll_set (by first | rfl | omega | simp) ?_ ?_) | refine bwll_set (by first | rfl | omega | simp) ?_ ?_ | (rw [List.map_replicate]; refine bwll_rep ?_) | refine bwll_rep ?_ | (rw [List.map_append]; refine bwll_append ?_ ?_) | refine bwll_append ?_ ?_ | (simp [cGTask, cI, cF, cGOp, cGEffect, cL_cF, take_len_map] <;> fail) | (rw [List.drop_zero, List.take_of_length_le] <;> first | rfl | (simp [cGTask, cI, cF, cGOp, cGEffect, cL_cF] <;> fail)) | (simp; omega))); done) | (simp [cGTask, cI, cF, cGOp, cGEffect, cL_cF, take_len_map]; done)) : p ∧ K := ⟨h, k⟩
theorem pr_XDBForm {p K : Prop} (k : K) (h : p := by first | assumption | exact Int.natCast_nonneg _ | exact Nat.le_refl _ | exact Nat.zero_le _ | omega | (simp; done) | (simp; omega)) : p ∧ K := ⟨h, k⟩
theorem pl_XDBForm {p K : Prop} (k : K) (h : p := by first | rfl | exact List.length_map _ | (simp; done) | (simp; omega)) : p ∧ K := ⟨h, k⟩
theorem pe_XDBForm {p K : Prop} (k : K) (h : p := by first | omega | (simp; omega) | (simp only [List.length_map, List.length_cons, List.length_nil, List.length_append]; omega)) : p ∧ K := ⟨h, k⟩
theorem dr_XDBForm {b : Bool} {p K : Prop} (k : K) (h : b = true → p := by intro h; first | (cases h; done) | exact ⟨by kernel_rfl, by kernel_rfl⟩) : (b = true → p) ∧ K := ⟨h, k⟩
theorem cl_XDBForm {C : Cx} {n : Nat} {o : Oper} {τ : Nat → AV} {η : Nat → Ent} {f : FuncId} {os : Array Operand} {ats : Array TypeId} {r : AV} {args : List AV} {K : Foot → Prop} (ho : o.op = .call ⟨.value (.func f), os, ats⟩) (hc : ACall C f args r) (k : K ⟨r, [], []⟩)
    (hd : InB n o.dst := by exact Nat.le_of_ble_eq_true rfl) (hargs : os.toList.map (evA τ) = args := by first | rfl | (simp [cGTask, cI, cF, cGOp, cGEffect, cL_cF]; done)) (hfr : frs args := by repeat (first | exact trivial | exact fr1_eA _ | exact fr0_eA _ | exact fr1_fr (by assumption) | exact FrV.h | refine And.intro ?_ ?_)) (hr : fr1 r := by repeat (first | exact trivial | exact fr1_eA _ | exact fr0_eA _ | exact fr1_fr (by assumption) | exact FrV.h | refine And.intro ?_ ?_)) : ∃ f : Foot, LF C n o τ η f ∧ K f := ⟨_, lf_call ho hd hargs hc hfr hr, k⟩
theorem clc_XDBForm {C : Cx} {n : Nat} {o : Oper} {τ : Nat → AV} {η : Nat → Ent} {c : Operand} {os : Array Operand} {ats : Array TypeId} {r F : AV} {xs : List AV} {K : Foot → Prop} (ho : o.op = .call ⟨.value c, os, ats⟩) (hc : CCl C F xs r) (hfF : Fr F) (k : K ⟨r, [], []⟩)
    (hd : InB n o.dst := by exact Nat.le_of_ble_eq_true rfl) (hF : evA τ c = F := by rfl) (hargs : os.toList.map (evA τ) = xs := by first | rfl | (simp [cGTask, cI, cF, cGOp, cGEffect, cL_cF]; done)) (hfr : frs xs := by repeat (first | exact trivial | exact fr1_eA _ | exact fr0_eA _ | exact fr1_fr (by assumption) | exact FrV.h | refine And.intro ?_ ?_)) (hr : fr1 r := by repeat (first | exact trivial | exact fr1_eA _ | exact fr0_eA _ | exact fr1_fr (by assumption) | exact FrV.h | refine And.intro ?_ ?_)) : ∃ f : Foot, LF C n o τ η f ∧ K f := ⟨_, lf_clo ho hd hF hargs hc hfF hfr hr, k⟩
theorem clb_XDBForm {C : Cx} {n : Nat} {o : Oper} {τ : Nat → AV} {η : Nat → Ent} {f : FuncId} {os : Array Operand} {ats : Array TypeId} {r : AV} {xs ys : List AV} {K : Foot → Prop} (bs : List Nat) (ho : o.op = .call ⟨.value (.func f), os, ats⟩) (hargs : os.toList.map (evA τ) = xs) (hc : ACall C f ys r) (k : K ⟨r, [], bs⟩)
    (hd : InB n o.dst := by exact Nat.le_of_ble_eq_true rfl) (hb : BWL η (dropB η bs) xs ys := by repeat (first | exact BWL.nil | exact bwll_nil | exact bw_c | exact BW.sl | exact BW.nil | exact bwll_same rfl FrI.h | refine BWL.cons ?_ ?_ | refine bwll_cons ?_ ?_ | (refine bw_own3 rfl rfl rfl FrI.h ?_ ?_ ?_) | exact BW.fr FrV.h | exact BW.fr (by assumption) | refine bw_agg ?_ | refine bw_clo ?_ | refine bw_ptr rfl rfl rfl ?_ | (refine bw_own rfl rfl rfl ?_ FrI.h ?_ ?_) | assumption | omega | rfl | (rw [List.length_map, ← List.length_append]; assumption) | (refine bwll_same ?_ FrI.h; (simp [cGTask, cI, cF, cGOp, cGEffect, cL_cF] <;> fail)) | (rw [List.map_set]; refine bwll_set (by first | rfl | omega | simp) ?_ ?_) | refine bwll_set (by first | rfl | omega | simp) ?_ ?_ | (rw [List.map_replicate]; refine bwll_rep ?_) | refine bwll_rep ?_ | (rw [List.map_append]; refine bwll_append ?_ ?_) | refine bwll_append ?_ ?_ | (simp [cGTask, cI, cF, cGOp, cGEffect, cL_cF, take_len_map] <;> fail) | (rw [List.drop_zero, List.take_of_length_le] <;> first | rfl | (simp [cGTask, cI, cF, cGOp, cGEffect, cL_cF] <;> fail)) | (simp; omega))) (hr : scal r := by repeat (first | exact trivial | exact scal0_eA _ | exact scal_eA _ | refine And.intro ?_ ?_)) : ∃ f : Foot, LF C n o τ η f ∧ K f := ⟨_, lf_callB bs ho hd hargs hb hc hr, k⟩
theorem clf_XDBForm {C : Cx} {n : Nat} {o : Oper} {τ : Nat → AV} {η : Nat → Ent} {f : FuncId} {os : Array Operand} {ats : Array TypeId} {r : AV} {xs ys : List AV} {K : Foot → Prop} (us : List (Nat × Ent)) (ho : o.op = .call ⟨.value (.func f), os, ats⟩) (hargs : os.toList.map (evA τ) = xs) (hc : ACall C f ys r) (k : K ⟨r, us, []⟩)
    (hus : allUs η us := by repeat (first | exact trivial | refine And.intro rfl ?_)) (hul : ltUs n us := by repeat (first | exact trivial | refine And.intro (Nat.le_of_ble_eq_true rfl) ?_)) (hd : InB n o.dst := by exact Nat.le_of_ble_eq_true rfl) (hb : BWL η (dropB η (us.map (·.1))) xs ys := by repeat (first | exact BWL.nil | exact bwll_nil | exact bw_c | exact BW.sl | exact BW.nil | exact bwll_same rfl FrI.h | refine BWL.cons ?_ ?_ | refine bwll_cons ?_ ?_ | (refine bw_own3 rfl rfl rfl FrI.h ?_ ?_ ?_) | exact BW.fr FrV.h | exact BW.fr (by assumption) | refine bw_agg ?_ | refine bw_clo ?_ | refine bw_ptr rfl rfl rfl ?_ | (refine bw_own rfl rfl rfl ?_ FrI.h ?_ ?_) | assumption | omega | rfl | (rw [List.length_map, ← List.length_append]; assumption) | (refine bwll_same ?_ FrI.h; (simp [cGTask, cI, cF, cGOp, cGEffect, cL_cF] <;> fail)) | (rw [List.map_set]; refine bwll_set (by first | rfl | omega | simp) ?_ ?_) | refine bwll_set (by first | rfl | omega | simp) ?_ ?_ | (rw [List.map_replicate]; refine bwll_rep ?_) | refine bwll_rep ?_ | (rw [List.map_append]; refine bwll_append ?_ ?_) | refine bwll_append ?_ ?_ | (simp [cGTask, cI, cF, cGOp, cGEffect, cL_cF, take_len_map] <;> fail) | (rw [List.drop_zero, List.take_of_length_le] <;> first | rfl | (simp [cGTask, cI, cF, cGOp, cGEffect, cL_cF] <;> fail)) | (simp; omega))) (hr : fr1 r := by repeat (first | exact trivial | exact fr1_eA _ | exact fr0_eA _ | exact fr1_fr (by assumption) | exact FrV.h | refine And.intro ?_ ?_)) : ∃ f : Foot, LF C n o τ η f ∧ K f := ⟨_, lf_callF us (allUs_at hus) (ltUs_at hul) ho hd hargs hb hc hr, k⟩
theorem clg_XDBForm {C : Cx} {n : Nat} {o : Oper} {τ : Nat → AV} {η : Nat → Ent} {f : FuncId} {os : Array Operand} {ats : Array TypeId} {r : AV} {xs ys : List AV} {bs bs' : List (Nat × Blk)} {ks : List Nat} {K : Foot → Prop} (ρ : List (Nat × Nat)) (fz : List Nat) (go nb : List (Nat × Ent)) (r' : AV) (ho : o.op = .call ⟨.value (.func f), os, ats⟩) (hargs : os.toList.map (evA τ) = xs)
    (hc : ACallG C f ys bs ks r bs') (k : K ⟨r', go ++ nb, []⟩) (hd : InB n o.dst := by exact Nat.le_of_ble_eq_true rfl) (hok : okC ρ fz bs ks bs' (idsE go) = true := by rfl) (hgo : allUs η go := by repeat (first | exact trivial | refine And.intro rfl ?_)) (hgl : ltUs n go := by repeat (first | exact trivial | refine And.intro (Nat.le_of_ble_eq_true rfl) ?_))
    (hw : GWL η (fE bs) (lk ρ) (fun i => inB fz i = true) (fun i => inB (keys bs) i = true) xs ys := by repeat (first | exact True.intro | exact gb_nil rfl rfl | refine gb_some ⟨rfl, rfl, rfl⟩ ?_ | refine And.intro ?_ ?_ | refine gw_ren rfl rfl rfl rfl rfl ?_ | refine gw_pren rfl rfl rfl rfl rfl | exact gw_thaw rfl rfl rfl | refine gw_tup ?_ | exact GWL.nil | exact gwll_nil | exact gw_c | exact GW.sl | exact GW.nil | exact gwll_same rfl FrI.h | refine GWL.cons ?_ ?_ | refine gwll_cons ?_ ?_ | (refine gw_own3 rfl rfl rfl FrI.h ?_ ?_ ?_) | exact GW.fr FrV.h | exact GW.fr (by assumption) | refine gw_agg ?_ | refine gw_clo ?_ | refine gw_ptr rfl rfl rfl ?_ | (refine gw_own rfl rfl rfl ?_ FrI.h ?_ ?_) | assumption | omega | rfl | (rw [List.length_map, ← List.length_append]; assumption) | (refine gwll_same ?_ FrI.h; (simp [cGTask, cI, cF, cGOp, cGEffect, cL_cF] <;> fail)) | (rw [List.map_set]; refine gwll_set (by first | rfl | omega | simp) ?_ ?_) | refine gwll_set (by first | rfl | omega | simp) ?_ ?_ | (rw [List.map_replicate]; refine gwll_rep ?_) | refine gwll_rep ?_ | (rw [List.map_append]; refine gwll_append ?_ ?_) | refine gwll_append ?_ ?_ | (simp [cGTask, cI, cF, cGOp, cGEffect, cL_cF, take_len_map] <;> fail) | (rw [List.drop_zero, List.take_of_length_le] <;> first | rfl | (simp [cGTask, cI, cF, cGOp, cGEffect, cL_cF] <;> fail)) | (simp; omega))) (hb : GBL η (fE bs) (lk ρ) (fun i => inB fz i = true) (fun i => inB (keys bs) i = true) bs := by repeat (first | exact True.intro | exact gb_nil rfl rfl | refine gb_some ⟨rfl, rfl, rfl⟩ ?_ | refine And.intro ?_ ?_ | refine gw_ren rfl rfl rfl rfl rfl ?_ | refine gw_pren rfl rfl rfl rfl rfl | exact gw_thaw rfl rfl rfl | refine gw_tup ?_ | exact GWL.nil | exact gwll_nil | exact gw_c | exact GW.sl | exact GW.nil | exact gwll_same rfl FrI.h | refine GWL.cons ?_ ?_ | refine gwll_cons ?_ ?_ | (refine gw_own3 rfl rfl rfl FrI.h ?_ ?_ ?_) | exact GW.fr FrV.h | exact GW.fr (by assumption) | refine gw_agg ?_ | refine gw_clo ?_ | refine gw_ptr rfl rfl rfl ?_ | (refine gw_own rfl rfl rfl ?_ FrI.h ?_ ?_) | assumption | omega | rfl | (rw [List.length_map, ← List.length_append]; assumption) | (refine gwll_same ?_ FrI.h; (simp [cGTask, cI, cF, cGOp, cGEffect, cL_cF] <;> fail)) | (rw [List.map_set]; refine gwll_set (by first | rfl | omega | simp) ?_ ?_) | refine gwll_set (by first | rfl | omega | simp) ?_ ?_ | (rw [List.map_replicate]; refine gwll_rep ?_) | refine gwll_rep ?_ | (rw [List.map_append]; refine gwll_append ?_ ?_) | refine gwll_append ?_ ?_ | (simp [cGTask, cI, cF, cGOp, cGEffect, cL_cF, take_len_map] <;> fail) | (rw [List.drop_zero, List.take_of_length_le] <;> first | rfl | (simp [cGTask, cI, cF, cGOp, cGEffect, cL_cF] <;> fail)) | (simp; omega)))
    (hr : GW (fE bs') (updAll η (go ++ nb)) (lk (backN ρ bs')) (fun _ => False) (fun i => inB (idsE nb) i = true) r r' := by repeat (first | exact True.intro | exact gb_nil rfl rfl | refine gb_some ⟨rfl, rfl, rfl⟩ ?_ | refine And.intro ?_ ?_ | refine gw_ren rfl rfl rfl rfl rfl ?_ | refine gw_pren rfl rfl rfl rfl rfl | exact gw_thaw rfl rfl rfl | refine gw_tup ?_ | exact GWL.nil | exact gwll_nil | exact gw_c | exact GW.sl | exact GW.nil | exact gwll_same rfl FrI.h | refine GWL.cons ?_ ?_ | refine gwll_cons ?_ ?_ | (refine gw_own3 rfl rfl rfl FrI.h ?_ ?_ ?_) | exact GW.fr FrV.h | exact GW.fr (by assumption) | refine gw_agg ?_ | refine gw_clo ?_ | refine gw_ptr rfl rfl rfl ?_ | (refine gw_own rfl rfl rfl ?_ FrI.h ?_ ?_) | assumption | omega | rfl | (rw [List.length_map, ← List.length_append]; assumption) | (refine gwll_same ?_ FrI.h; (simp [cGTask, cI, cF, cGOp, cGEffect, cL_cF] <;> fail)) | (rw [List.map_set]; refine gwll_set (by first | rfl | omega | simp) ?_ ?_) | refine gwll_set (by first | rfl | omega | simp) ?_ ?_ | (rw [List.map_replicate]; refine gwll_rep ?_) | refine gwll_rep ?_ | (rw [List.map_append]; refine gwll_append ?_ ?_) | refine gwll_append ?_ ?_ | (simp [cGTask, cI, cF, cGOp, cGEffect, cL_cF, take_len_map] <;> fail) | (rw [List.drop_zero, List.take_of_length_le] <;> first | rfl | (simp [cGTask, cI, cF, cGOp, cGEffect, cL_cF] <;> fail)) | (simp; omega)))
    (hnb : nbOk n η (updAll η (go ++ nb)) ρ ks (fE bs') (lk (backN ρ bs')) (fun i => inB (idsE nb) i = true) bs' nb := by repeat (first | exact True.intro | rfl | exact Nat.le_of_ble_eq_true rfl | exact gb_nil rfl rfl | refine gb_some ⟨rfl, rfl, rfl⟩ ?_ | refine And.intro ?_ ?_ | refine gw_ren rfl rfl rfl rfl rfl ?_ | refine gw_pren rfl rfl rfl rfl rfl | exact gw_thaw rfl rfl rfl | refine gw_tup ?_ | exact GWL.nil | exact gwll_nil | exact gw_c | exact GW.sl | exact GW.nil | exact gwll_same rfl FrI.h | refine GWL.cons ?_ ?_ | refine gwll_cons ?_ ?_ | (refine gw_own3 rfl rfl rfl FrI.h ?_ ?_ ?_) | exact GW.fr FrV.h | exact GW.fr (by assumption) | refine gw_agg ?_ | refine gw_clo ?_ | refine gw_ptr rfl rfl rfl ?_ | (refine gw_own rfl rfl rfl ?_ FrI.h ?_ ?_) | assumption | omega | rfl | (rw [List.length_map, ← List.length_append]; assumption) | (refine gwll_same ?_ FrI.h; (simp [cGTask, cI, cF, cGOp, cGEffect, cL_cF] <;> fail)) | (rw [List.map_set]; refine gwll_set (by first | rfl | omega | simp) ?_ ?_) | refine gwll_set (by first | rfl | omega | simp) ?_ ?_ | (rw [List.map_replicate]; refine gwll_rep ?_) | refine gwll_rep ?_ | (rw [List.map_append]; refine gwll_append ?_ ?_) | refine gwll_append ?_ ?_ | (simp [cGTask, cI, cF, cGOp, cGEffect, cL_cF, take_len_map] <;> fail) | (rw [List.drop_zero, List.take_of_length_le] <;> first | rfl | (simp [cGTask, cI, cF, cGOp, cGEffect, cL_cF] <;> fail)) | (simp; omega))) : ∃ f : Foot, LF C n o τ η f ∧ K f := ⟨_, lf_callG ρ fz go nb ho hd hargs hc hok hgo hgl hw hb hr hnb, k⟩
def M_stratagemlaw26_RegressForms_L1 (v206 : Int) (v234 : Bool) (y230 : List Fact) (z17 : List (List Fact)) : Nat → Int → Option (Bool ⊕ Bool)
  | 0, _ => none
  | k246 + 1, v245 =>
    sel (decide (v245 < ((z17.map cL_cF).length : Int)))
     (ix z17 v245 (fun y247 =>
       sel (v206 != v245)
        (ob1 (M_stratagemref26_Contains y230 y247) (fun z248 =>
          sel z248
           (some (.inr false))
           (M_stratagemlaw26_RegressForms_L1 v206 v234 y230 z17 k246 (IntKind.i64.wrap (v245 + 1)))))
        (M_stratagemlaw26_RegressForms_L1 v206 v234 y230 z17 k246 (IntKind.i64.wrap (v245 + 1)))))
     (some (.inl v234))
def M_stratagemlaw26_RegressForms_L2 (a0 : GTask) (z17 : List (List Fact)) : Nat → Int → Option (Unit ⊕ Bool)
  | 0, _ => none
  | k207 + 1, v206 =>
    sel (decide (v206 < ((z17.map cL_cF).length : Int)))
     (ob1 (ix z17 v206 (fun y230 =>
        ob1 (ob1 (M_stratagembase_Proper a0.Vars y230) (fun z237 =>
          sel (!z237)
           (some (.inr false))
           (sel (decide (v206 > 0))
             (ix z17 (IntKind.i64.wrap (v206 - 1)) (fun y238 =>
               ob1 (M_stratagemref26_Less y238 y230) (fun z239 =>
                sel (!z239)
                 (some (.inr false))
                 (some (.inl (!z239))))))
             (some (.inl false)))) : Option (Bool ⊕ Bool))
         (osum
         (fun v234 => M_stratagemlaw26_RegressForms_L1 v206 v234 y230 z17 ((((z17.map cL_cF).length : Int)).toNat + 1) 0)
         (fun r235 => some (.inr r235)))) : Option (Bool ⊕ Bool))
       (osum
       (fun _ => M_stratagemlaw26_RegressForms_L2 a0 z17 k207 (IntKind.i64.wrap (v206 + 1)))
       (fun r228 => some (.inr r228))))
     (some (.inl ()))
def M_stratagemlaw26_RegressForms (g : Nat) (a0 : GTask) (a1 : Int) (a2 : List Fact) : Option (Bool) :=
  ob1 (ob1 (M_stratagembase_Small a0) (fun z10 =>
    sel (!z10)
     (ob1 (M_stratagemlaw26_awake g) (fun z16 =>
       some (.inr z16)))
     (sel (((a0.Ops.map cGOp).length : Int) == 0)
       (ob1 (M_stratagemlaw26_awake g) (fun z15 =>
         some (.inr z15)))
       (ob1 (M_stratagembase_Proper a0.Vars a2) (fun z11 =>
         sel (!z11)
          (ob1 (M_stratagemlaw26_awake g) (fun z14 =>
            some (.inr z14)))
          (ob1 (M_stratagemlaw26_awake g) (fun z12 =>
            sel (!z12)
             (ob1 (M_stratagemlaw26_awake g) (fun z13 =>
               some (.inr z13)))
             (some (.inl ())))))))) : Option (Unit ⊕ Bool))
   (osum
   (fun _ => grd (((a0.Ops.map cGOp).length : Int) ≠ 0) (ob2 (M_regress_Regress g a0 ((IntKind.i64.wrap a1).tmod ((a0.Ops.map cGOp).length : Int)) a2) (fun z17 z18 =>
      ob1 (M_stratagembase_Is z18 5) (fun z19 =>
       sel z19
        (some true)
        (erM z18
          (ob1 (M_stratagemlaw26_RegressForms_L2 a0 z17 ((((z17.map cL_cF).length : Int)).toNat + 1) 0 : Option (Unit ⊕ Bool))
            (osum
            (fun _ => ob2 (M_regress_Regress g a0 ((IntKind.i64.wrap a1).tmod ((a0.Ops.map cGOp).length : Int)) []) (fun z249 z250 =>
               erM z250
                (sel (((z249.map cL_cF).length : Int) == 1)
                  (ix z249 0 (fun y252 =>
                    ix a0.Ops ((IntKind.i64.wrap a1).tmod ((a0.Ops.map cGOp).length : Int)) (fun y253 =>
                     ob1 (M_stratagembase_Facts y252 y253.Pre) (fun z254 =>
                      some z254))))
                  (some false))
                (fun _ => some false)))
            (fun r134 => some r134)))
          (fun _ => some false))))))
   (fun r8 => some r8))
set_option maxHeartbeats 16000000 in
set_option maxRecDepth 100000 in
theorem A_stratagemlaw26_RegressForms (g : Nat) (a0 : GTask) (a1 : Int) (a2 : List Fact) {r1 : Bool} (h : M_stratagemlaw26_RegressForms g a0 a1 a2 = some r1) : ACall cx 4 [.agg [.sl 1 (a0.Vars.map cI), .sl 1 (a0.Init.map cI), .sl 2 (a0.Goal.map cF), .sl 4 (a0.Ops.map cGOp)], .c (.int .u8 a1), .sl 2 (a2.map cF)] (.c (.bool r1)) := by
  refine acall_of Try.func4 rfl (by decide) rfl (Nat.le_of_ble_eq_true rfl) ?_
  intro _
  unfold M_stratagemlaw26_RegressForms at h
  refine awp_seq ?_
  refine awp_region ?_
  intro _
  refine dr_XDBForm ?_
  obtain ⟨o1, h, hK2⟩ := ob1_ok h
  refine awp_cut (α := Unit) (fun _ => mkS 121 [(1, .c (.int .u8 a1)), (2, .sl 2 (a2.map cF)), (3, .ptr 3 0 0 0)] [(3, ⟨26, 4, true, [[.sl 1 (a0.Vars.map cI), .sl 1 (a0.Init.map cI), .sl 2 (a0.Goal.map cF), .sl 4 (a0.Ops.map cGOp)]]⟩)]) (fun v => o1 = (.inl v)) ?_ ?_
  · refine awp_seq ?_
    refine awp_region ?_
    intro _
    obtain ⟨z10, u3, h⟩ := ob1_ok h
    refine cl_XDBForm rfl (A_stratagembase_Small a0 u3) ?_
    intro _
    refine spf h (fun c4 h => ?_) (fun c4 h => ?_)
    · intro _
      refine spf h (fun c5 h => ?_) (fun c5 h => ?_)
      · intro _
        obtain ⟨z11, u6, h⟩ := ob1_ok h
        refine cl_XDBForm rfl (A_stratagembase_Proper a0.Vars a2 u6) ?_
        intro _
        refine spf h (fun c7 h => ?_) (fun c7 h => ?_)
        · intro _
          obtain ⟨z12, u8, h⟩ := ob1_ok h
          refine cl_XDBForm rfl (A_stratagemlaw26_awake g u8) ?_
          intro _
          refine dr_XDBForm ?_
          refine awp_cond ?_
          intro _
          refine spl h (fun c9 h => ?_) (fun c9 h => ?_)
          · refine awp_seq ?_
            refine awp_region ?_
            intro _
            obtain ⟨z13, u10, h⟩ := ob1_ok h
            refine cl_XDBForm rfl (A_stratagemlaw26_awake g u10) ?_
            intro _
            refine dr_XDBForm ?_
            refine awp_ret ?_
            have j11 := Option.some.inj h
            subst j11
            replace h := (osum_r hK2)
            intro _
            obtain rfl := inj1 h
            repeat (first | exact True.intro | refine ci_XDBForm ?_)
          · refine awp_skip ?_
            refine ⟨(), (Option.some.inj h).symm, ?_⟩
            repeat (first | exact True.intro | refine ci_XDBForm ?_)
        · intro _
          refine dr_XDBForm ?_
          refine awp_cond ?_
          intro _
          refine litT ?_
          refine awp_seq ?_
          refine awp_region ?_
          intro _
          obtain ⟨z14, u12, h⟩ := ob1_ok h
          refine cl_XDBForm rfl (A_stratagemlaw26_awake g u12) ?_
          intro _
          refine dr_XDBForm ?_
          refine awp_ret ?_
          have j13 := Option.some.inj h
          subst j13
          replace h := (osum_r hK2)
          intro _
          obtain rfl := inj1 h
          repeat (first | exact True.intro | refine ci_XDBForm ?_)
      · intro _
        refine dr_XDBForm ?_
        refine awp_cond ?_
        intro _
        refine litT ?_
        refine awp_seq ?_
        refine awp_region ?_
        intro _
        obtain ⟨z15, u14, h⟩ := ob1_ok h
        refine cl_XDBForm rfl (A_stratagemlaw26_awake g u14) ?_
        intro _
        refine dr_XDBForm ?_
        refine awp_ret ?_
        have j15 := Option.some.inj h
        subst j15
        replace h := (osum_r hK2)
        intro _
        obtain rfl := inj1 h
        repeat (first | exact True.intro | refine ci_XDBForm ?_)
    · intro _
      refine dr_XDBForm ?_
      refine awp_cond ?_
      intro _
      refine litT ?_
      refine awp_seq ?_
      refine awp_region ?_
      intro _
      obtain ⟨z16, u16, h⟩ := ob1_ok h
      refine cl_XDBForm rfl (A_stratagemlaw26_awake g u16) ?_
      intro _
      refine dr_XDBForm ?_
      refine awp_ret ?_
      have j17 := Option.some.inj h
      subst j17
      replace h := (osum_r hK2)
      intro _
      obtain rfl := inj1 h
      repeat (first | exact True.intro | refine ci_XDBForm ?_)
  · rintro _ ho
    have ho := ho.symm
    subst ho
    intro _
    replace h := (osum_l hK2)
    refine awp_seq ?_
    refine awp_region ?_
    intro _
    obtain ⟨q18, h⟩ := grd_ok h
    refine ⟨rfl, ?_⟩
    refine pr_XDBForm ?_
    refine dr_XDBForm ?_
    refine awp_seq ?_
    refine awp_region ?_
    intro _
    obtain ⟨z17, z18, u19, h⟩ := ob2_ok h
    refine cl_XDBForm rfl (A_regress_Regress g a0 ((IntKind.i64.wrap a1).tmod ((a0.Ops.map cGOp).length : Int)) a2 u19) ?_
    intro _
    refine dr_XDBForm ?_
    refine awp_seq ?_
    refine awp_seq ?_
    refine awp_region ?_
    intro _
    obtain ⟨z19, u20, h⟩ := ob1_ok h
    refine cl_XDBForm rfl (A_stratagembase_Is z18 5 u20) ?_
    intro _
    refine dr_XDBForm ?_
    refine awp_cond ?_
    intro _
    refine spl h (fun c21 h => ?_) (fun c21 h => ?_)
    · refine awp_seq ?_
      refine awp_region ?_
      intro _
      refine dr_XDBForm ?_
      refine awp_ret ?_
      intro _
      obtain rfl := inj1 h
      repeat (first | exact True.intro | refine ci_XDBForm ?_)
    · refine awp_skip ?_
      refine awp_seq ?_
      refine awp_seq ?_
      rcases z18 with _ | e20
      · replace h := erM_nil h
        refine awp_region ?_
        intro _
        refine dr_XDBForm ?_
        refine awp_cond ?_
        intro _
        refine litF ?_
        refine awp_skip ?_
        obtain ⟨o22, h, hK23⟩ := ob1_ok h
        refine awp_cut (α := Unit) (fun _ => mkS 121 [(3, .ptr 3 0 0 0), (7, .c (.int .i64 ((IntKind.i64.wrap a1).tmod ((a0.Ops.map cGOp).length : Int))))] [(3, ⟨26, 4, true, [[.sl 1 (a0.Vars.map cI), .sl 1 (a0.Init.map cI), .sl 2 (a0.Goal.map cF), .sl 4 (a0.Ops.map cGOp)]]⟩)]) (fun v => o22 = (.inl v)) ?_ ?_
        · refine awp_seq ?_
          refine awp_region ?_
          intro _
          refine dr_XDBForm ?_
          refine awp_block ?_
          refine awp_loop (α := Nat × Int) (fun x => mkS 121 [(3, .ptr 3 0 0 0), (7, .c (.int .i64 ((IntKind.i64.wrap a1).tmod ((a0.Ops.map cGOp).length : Int)))), (8, .sl 1 (z17.map cL_cF)), (53, .sl 1 (z17.map cL_cF)), (54, .c (.int .i64 ((z17.map cL_cF).length : Int))), (55, .c (.int .i64 x.2))] [(3, ⟨26, 4, true, [[.sl 1 (a0.Vars.map cI), .sl 1 (a0.Init.map cI), .sl 2 (a0.Goal.map cF), .sl 4 (a0.Ops.map cGOp)]]⟩)]) (fun x => M_stratagemlaw26_RegressForms_L2 a0 z17 x.1 x.2 = some o22) (fun x => x.1) ((((z17.map cL_cF).length : Int)).toNat + 1, 0) h ?_ ?_
          · repeat (first | exact True.intro | refine ci_XDBForm ?_)
          · intro x24 h
            intro _
            obtain ⟨k207, m25, h⟩ := succ_of (f := fun n => M_stratagemlaw26_RegressForms_L2 a0 z17 n x24.2) rfl h
            replace h : M_stratagemlaw26_RegressForms_L2 a0 z17 (k207 + 1) x24.2 = some o22 := h
            rw [M_stratagemlaw26_RegressForms_L2] at h
            refine awp_seq ?_
            refine awp_region ?_
            intro _
            refine dr_XDBForm ?_
            refine awp_seq ?_
            refine awp_cond ?_
            intro _
            refine spl h (fun c26 h => ?_) (fun c26 h => ?_)
            · refine awp_skip ?_
              obtain ⟨o27, h, hK28⟩ := ob1_ok h
              refine awp_cut (α := Bool) (fun v227 => mkS 121 [(3, .ptr 3 0 0 0), (7, .c (.int .i64 ((IntKind.i64.wrap a1).tmod ((a0.Ops.map cGOp).length : Int)))), (8, .sl 1 (z17.map cL_cF)), (53, .sl 1 (z17.map cL_cF)), (54, .c (.int .i64 ((z17.map cL_cF).length : Int))), (55, .c (.int .i64 x24.2)), (66, .c (.int .i64 x24.2)), (67, .c (.bool (decide (x24.2 > 0)))), (68, .c (.bool (decide (x24.2 > 0)))), (77, .c (.bool v227))] [(3, ⟨26, 4, true, [[.sl 1 (a0.Vars.map cI), .sl 1 (a0.Init.map cI), .sl 2 (a0.Goal.map cF), .sl 4 (a0.Ops.map cGOp)]]⟩)]) (fun v => o27 = (.inl v)) ?_ ?_
              · refine awp_block ?_
                refine awp_seq ?_
                refine awp_region ?_
                intro _
                obtain ⟨y230, w29, q30, h⟩ := ix_ok h
                refine Exists.intro (cL_cF y230) (And.intro (map_at' w29) ?_)
                intro _
                refine pr_XDBForm ?_
                refine dr_XDBForm ?_
                obtain ⟨o31, h, hK32⟩ := ob1_ok h
                refine awp_cut (α := Bool) (fun v234 => mkS 121 [(3, .ptr 3 0 0 0), (7, .c (.int .i64 ((IntKind.i64.wrap a1).tmod ((a0.Ops.map cGOp).length : Int)))), (8, .sl 1 (z17.map cL_cF)), (10, .c (.int .i64 x24.2)), (11, .sl 2 (y230.map cF)), (53, .sl 1 (z17.map cL_cF)), (54, .c (.int .i64 ((z17.map cL_cF).length : Int))), (55, .c (.int .i64 x24.2)), (66, .c (.int .i64 x24.2)), (67, .c (.bool (decide (x24.2 > 0)))), (68, .c (.bool (decide (x24.2 > 0)))), (77, .c (.bool v234))] [(3, ⟨26, 4, true, [[.sl 1 (a0.Vars.map cI), .sl 1 (a0.Init.map cI), .sl 2 (a0.Goal.map cF), .sl 4 (a0.Ops.map cGOp)]]⟩)]) (fun v => o31 = (.inl v)) ?_ ?_
                · refine awp_seq ?_
                  refine awp_region ?_
                  intro _
                  obtain ⟨z237, u33, h⟩ := ob1_ok h
                  refine cl_XDBForm rfl (A_stratagembase_Proper a0.Vars y230 u33) ?_
                  intro _
                  refine spf h (fun c34 h => ?_) (fun c34 h => ?_)
                  · intro _
                    refine spl h (fun c35 h => ?_) (fun c35 h => ?_)
                    · intro _
                      obtain ⟨y238, w36, q37, h⟩ := ix_ok h
                      refine Exists.intro (cL_cF y238) (And.intro (map_at' w36) ?_)
                      intro _
                      obtain ⟨z239, u38, h⟩ := ob1_ok h
                      refine cl_XDBForm rfl (A_stratagemref26_Less y238 y230 u38) ?_
                      intro _
                      refine pr_XDBForm ?_
                      refine dr_XDBForm ?_
                      refine awp_cond ?_
                      intro _
                      refine spl h (fun c39 h => ?_) (fun c39 h => ?_)
                      · refine awp_seq ?_
                        refine awp_region ?_
                        intro _
                        refine dr_XDBForm ?_
                        refine awp_ret ?_
                        have j40 := Option.some.inj h
                        subst j40
                        replace h := (osum_r hK32)
                        have j41 := Option.some.inj h
                        subst j41
                        replace h := (osum_r hK28)
                        have j42 := Option.some.inj h
                        subst j42
                        replace h := (osum_r hK23)
                        intro _
                        obtain rfl := inj1 h
                        repeat (first | exact True.intro | refine ci_XDBForm ?_)
                      · refine awp_skip ?_
                        refine ⟨(!z239), (Option.some.inj h).symm, ?_⟩
                        repeat (first | exact True.intro | refine ci_XDBForm ?_)
                    · intro _
                      refine dr_XDBForm ?_
                      refine awp_cond ?_
                      intro _
                      refine litF ?_
                      refine awp_skip ?_
                      refine ⟨false, (Option.some.inj h).symm, ?_⟩
                      repeat (first | exact True.intro | refine ci_XDBForm ?_)
                  · intro _
                    refine dr_XDBForm ?_
                    refine awp_cond ?_
                    intro _
                    refine litT ?_
                    refine awp_seq ?_
                    refine awp_region ?_
                    intro _
                    refine dr_XDBForm ?_
                    refine awp_ret ?_
                    have j43 := Option.some.inj h
                    subst j43
                    replace h := (osum_r hK32)
                    have j44 := Option.some.inj h
                    subst j44
                    replace h := (osum_r hK28)
                    have j45 := Option.some.inj h
                    subst j45
                    replace h := (osum_r hK23)
                    intro _
                    obtain rfl := inj1 h
                    repeat (first | exact True.intro | refine ci_XDBForm ?_)
                · rintro v234 ho
                  have ho := ho.symm
                  subst ho
                  intro _
                  replace h := (osum_l hK32)
                  refine awp_seq ?_
                  refine awp_region ?_
                  intro _
                  refine dr_XDBForm ?_
                  refine awp_block ?_
                  refine awp_loop (α := Nat × Int) (fun x => mkS 121 [(3, .ptr 3 0 0 0), (7, .c (.int .i64 ((IntKind.i64.wrap a1).tmod ((a0.Ops.map cGOp).length : Int)))), (8, .sl 1 (z17.map cL_cF)), (10, .c (.int .i64 x24.2)), (11, .sl 2 (y230.map cF)), (53, .sl 1 (z17.map cL_cF)), (54, .c (.int .i64 ((z17.map cL_cF).length : Int))), (55, .c (.int .i64 x24.2)), (66, .c (.int .i64 x24.2)), (67, .c (.bool (decide (x24.2 > 0)))), (68, .c (.bool (decide (x24.2 > 0)))), (77, .c (.bool v234)), (79, .sl 1 (z17.map cL_cF)), (80, .c (.int .i64 ((z17.map cL_cF).length : Int))), (81, .c (.int .i64 x.2))] [(3, ⟨26, 4, true, [[.sl 1 (a0.Vars.map cI), .sl 1 (a0.Init.map cI), .sl 2 (a0.Goal.map cF), .sl 4 (a0.Ops.map cGOp)]]⟩)]) (fun x => M_stratagemlaw26_RegressForms_L1 x24.2 v234 y230 z17 x.1 x.2 = some o27) (fun x => x.1) ((((z17.map cL_cF).length : Int)).toNat + 1, 0) h ?_ ?_
                  · repeat (first | exact True.intro | refine ci_XDBForm ?_)
                  · intro x46 h
                    intro _
                    obtain ⟨k246, m47, h⟩ := succ_of (f := fun n => M_stratagemlaw26_RegressForms_L1 x24.2 v234 y230 z17 n x46.2) rfl h
                    replace h : M_stratagemlaw26_RegressForms_L1 x24.2 v234 y230 z17 (k246 + 1) x46.2 = some o27 := h
                    rw [M_stratagemlaw26_RegressForms_L1] at h
                    refine awp_seq ?_
                    refine awp_region ?_
                    intro _
                    refine dr_XDBForm ?_
                    refine awp_seq ?_
                    refine awp_cond ?_
                    intro _
                    refine spl h (fun c48 h => ?_) (fun c48 h => ?_)
                    · refine awp_skip ?_
                      refine awp_seq ?_
                      refine awp_block ?_
                      refine awp_seq ?_
                      refine awp_region ?_
                      intro _
                      obtain ⟨y247, w49, q50, h⟩ := ix_ok h
                      refine Exists.intro (cL_cF y247) (And.intro (map_at' w49) ?_)
                      intro _
                      refine pr_XDBForm ?_
                      refine dr_XDBForm ?_
                      refine awp_seq ?_
                      refine awp_region ?_
                      intro _
                      refine spl h (fun c51 h => ?_) (fun c51 h => ?_)
                      · intro _
                        obtain ⟨z248, u52, h⟩ := ob1_ok h
                        refine cl_XDBForm rfl (A_stratagemref26_Contains y230 y247 u52) ?_
                        intro _
                        refine dr_XDBForm ?_
                        refine awp_cond ?_
                        intro _
                        refine spl h (fun c53 h => ?_) (fun c53 h => ?_)
                        · refine awp_seq ?_
                          refine awp_region ?_
                          intro _
                          refine dr_XDBForm ?_
                          refine awp_ret ?_
                          have j54 := Option.some.inj h
                          subst j54
                          replace h := (osum_r hK28)
                          have j55 := Option.some.inj h
                          subst j55
                          replace h := (osum_r hK23)
                          intro _
                          obtain rfl := inj1 h
                          repeat (first | exact True.intro | refine ci_XDBForm ?_)
                        · refine awp_skip ?_
                          refine awp_region ?_
                          intro _
                          refine dr_XDBForm ?_
                          refine ⟨(k246, (IntKind.i64.wrap (x46.2 + 1))), h, lt_of_succ m47, ?_⟩
                          repeat (first | exact True.intro | refine ci_XDBForm ?_)
                      · intro _
                        refine dr_XDBForm ?_
                        refine awp_cond ?_
                        intro _
                        refine litF ?_
                        refine awp_skip ?_
                        refine awp_region ?_
                        intro _
                        refine dr_XDBForm ?_
                        refine ⟨(k246, (IntKind.i64.wrap (x46.2 + 1))), h, lt_of_succ m47, ?_⟩
                        repeat (first | exact True.intro | refine ci_XDBForm ?_)
                    · refine awp_exit ?_
                      refine ⟨v234, (Option.some.inj h).symm, ?_⟩
                      repeat (first | exact True.intro | refine ci_XDBForm ?_)
              · rintro v227 ho
                have ho := ho.symm
                subst ho
                intro _
                replace h := (osum_l hK28)
                refine awp_region ?_
                intro _
                refine dr_XDBForm ?_
                refine ⟨(k207, (IntKind.i64.wrap (x24.2 + 1))), h, lt_of_succ m25, ?_⟩
                repeat (first | exact True.intro | refine ci_XDBForm ?_)
            · refine awp_exit ?_
              refine ⟨(), (Option.some.inj h).symm, ?_⟩
              repeat (first | exact True.intro | refine ci_XDBForm ?_)
        · rintro _ ho
          have ho := ho.symm
          subst ho
          intro _
          replace h := (osum_l hK23)
          refine awp_seq ?_
          refine awp_region ?_
          intro _
          obtain ⟨z249, z250, u56, h⟩ := ob2_ok h
          refine clf_XDBForm [] rfl rfl (A_regress_Regress g a0 ((IntKind.i64.wrap a1).tmod ((a0.Ops.map cGOp).length : Int)) [] u56) ?_
          intro _
          refine dr_XDBForm ?_
          refine awp_seq ?_
          rcases z250 with _ | e251
          · replace h := erM_nil h
            refine awp_region ?_
            intro _
            refine litT ?_
            intro _
            refine spl h (fun c57 h => ?_) (fun c57 h => ?_)
            · intro _
              obtain ⟨y252, w58, q59, h⟩ := ix_ok h
              refine Exists.intro (cL_cF y252) (And.intro (map_at' w58) ?_)
              intro _
              obtain ⟨y253, w60, q61, h⟩ := ix_ok h
              refine Exists.intro (cGOp y253) (And.intro (map_at' w60) ?_)
              intro _
              obtain ⟨z254, u62, h⟩ := ob1_ok h
              refine cl_XDBForm rfl (A_stratagembase_Facts y252 y253.Pre u62) ?_
              intro _
              refine pr_XDBForm ?_
              refine pr_XDBForm ?_
              refine dr_XDBForm ?_
              refine awp_ret ?_
              intro _
              obtain rfl := inj1 h
              repeat (first | exact True.intro | refine ci_XDBForm ?_)
            · intro _
              refine dr_XDBForm ?_
              refine awp_ret ?_
              intro _
              obtain rfl := inj1 h
              repeat (first | exact True.intro | refine ci_XDBForm ?_)
          · replace h := erM_no h
            refine awp_region ?_
            intro _
            refine litF ?_
            intro _
            refine dr_XDBForm ?_
            refine awp_ret ?_
            intro _
            obtain rfl := inj1 h
            repeat (first | exact True.intro | refine ci_XDBForm ?_)
      · replace h := erM_no h
        refine awp_region ?_
        intro _
        refine dr_XDBForm ?_
        refine awp_cond ?_
        intro _
        refine litT ?_
        refine awp_seq ?_
        refine awp_region ?_
        intro _
        refine dr_XDBForm ?_
        refine awp_ret ?_
        intro _
        obtain rfl := inj1 h
        repeat (first | exact True.intro | refine ci_XDBForm ?_)
end Go.Proofs.Yteapjpgabdegnaa.Am
/- Range loops of the models as recursions. -/
namespace Go.Proofs.Yteapjpgabdegnaa.Am
def M_stratagemlaw26_RegressForms_L1_B (v206 : Int) (_ : Bool) (y230 : List Fact) (_ : List (List Fact)) (_y247 : List Fact) (v245 : Int) : Unit → (Unit → Option (Bool ⊕ Bool)) → Option (Bool ⊕ Bool) := fun _ rc => ixv _y247 (fun y247 =>
       sel (v206 != v245)
        (ob1 (M_stratagemref26_Contains y230 y247) (fun z248 =>
          sel z248
           (some (.inr false))
           (rc ())))
        (rc ()))
def M_stratagemlaw26_RegressForms_L1_E (_ : Int) (v234 : Bool) (_ : List Fact) (_ : List (List Fact)) : Unit → Option (Bool ⊕ Bool) := fun _ => some (.inl v234)
theorem M_stratagemlaw26_RegressForms_L1_rg (v206 : Int) (v234 : Bool) (y230 : List Fact) (z17 : List (List Fact)) (hl : z17.length < 9223372036854775807) : ∀ (k n : Nat) , n ≤ z17.length → z17.length < k + n → M_stratagemlaw26_RegressForms_L1 v206 v234 y230 z17 k (n : Int) = Rg (M_stratagemlaw26_RegressForms_L1_B v206 v234 y230 z17) (M_stratagemlaw26_RegressForms_L1_E v206 v234 y230 z17) (z17.drop n) n () := by
  intro k n 
  refine rg_of (L := fun k i (p : Unit) => M_stratagemlaw26_RegressForms_L1 v206 v234 y230 z17 k i) hl (fun k n p y hy hn => ?_) (fun k p => ?_) k n ()
  · have h1 := lt_some hy
    have h2 := w64s hn
    first | (simp only [M_stratagemlaw26_RegressForms_L1, M_stratagemlaw26_RegressForms_L1_B, List.length_map, decide_lt h1, sel, ix_at hy, ixv, h2]; done) | (simp only [List.length_map] at h1 hy; simp only [M_stratagemlaw26_RegressForms_L1, M_stratagemlaw26_RegressForms_L1_B, List.length_map, decide_lt h1, sel, ix_at hy, ixv, h2]; done)
  · simp only [M_stratagemlaw26_RegressForms_L1, M_stratagemlaw26_RegressForms_L1_E, List.length_map, decide_ge, sel]
theorem M_stratagemlaw26_RegressForms_L1_eq (v206 : Int) (v234 : Bool) (y230 : List Fact) (z17 : List (List Fact))  (hl : z17.length < 9223372036854775807) : M_stratagemlaw26_RegressForms_L1 v206 v234 y230 z17 (((z17.map cL_cF).length : Int).toNat + 1) 0 = Rg (M_stratagemlaw26_RegressForms_L1_B v206 v234 y230 z17) (M_stratagemlaw26_RegressForms_L1_E v206 v234 y230 z17) z17 0 () := by
  have h := M_stratagemlaw26_RegressForms_L1_rg v206 v234 y230 z17 hl (z17.length + 1) 0  (Nat.zero_le _) (by omega)
  rw [List.length_map, Int.toNat_natCast]
  exact h
def M_stratagemlaw26_RegressForms_L2_B (a0 : GTask) (z17 : List (List Fact)) (_y230 : List Fact) (v206 : Int) : Unit → (Unit → Option (Unit ⊕ Bool)) → Option (Unit ⊕ Bool) := fun _ rc => ob1 (ixv _y230 (fun y230 =>
        ob1 (ob1 (M_stratagembase_Proper a0.Vars y230) (fun z237 =>
          sel (!z237)
           (some (.inr false))
           (sel (decide (v206 > 0))
             (ix z17 (IntKind.i64.wrap (v206 - 1)) (fun y238 =>
               ob1 (M_stratagemref26_Less y238 y230) (fun z239 =>
                sel (!z239)
                 (some (.inr false))
                 (some (.inl (!z239))))))
             (some (.inl false)))) : Option (Bool ⊕ Bool))
         (osum
         (fun v234 => M_stratagemlaw26_RegressForms_L1 v206 v234 y230 z17 ((((z17.map cL_cF).length : Int)).toNat + 1) 0)
         (fun r235 => some (.inr r235)))) : Option (Bool ⊕ Bool))
       (osum
       (fun _ => rc ())
       (fun r228 => some (.inr r228)))
def M_stratagemlaw26_RegressForms_L2_E (_ : GTask) (_ : List (List Fact)) : Unit → Option (Unit ⊕ Bool) := fun _ => some (.inl ())
theorem M_stratagemlaw26_RegressForms_L2_rg (a0 : GTask) (z17 : List (List Fact)) (hl : z17.length < 9223372036854775807) : ∀ (k n : Nat) , n ≤ z17.length → z17.length < k + n → M_stratagemlaw26_RegressForms_L2 a0 z17 k (n : Int) = Rg (M_stratagemlaw26_RegressForms_L2_B a0 z17) (M_stratagemlaw26_RegressForms_L2_E a0 z17) (z17.drop n) n () := by
  intro k n 
  refine rg_of (L := fun k i (p : Unit) => M_stratagemlaw26_RegressForms_L2 a0 z17 k i) hl (fun k n p y hy hn => ?_) (fun k p => ?_) k n ()
  · have h1 := lt_some hy
    have h2 := w64s hn
    first | (simp only [M_stratagemlaw26_RegressForms_L2, M_stratagemlaw26_RegressForms_L2_B, List.length_map, decide_lt h1, sel, ix_at hy, ixv, h2]; done) | (simp only [List.length_map] at h1 hy; simp only [M_stratagemlaw26_RegressForms_L2, M_stratagemlaw26_RegressForms_L2_B, List.length_map, decide_lt h1, sel, ix_at hy, ixv, h2]; done)
  · simp only [M_stratagemlaw26_RegressForms_L2, M_stratagemlaw26_RegressForms_L2_E, List.length_map, decide_ge, sel]
theorem M_stratagemlaw26_RegressForms_L2_eq (a0 : GTask) (z17 : List (List Fact))  (hl : z17.length < 9223372036854775807) : M_stratagemlaw26_RegressForms_L2 a0 z17 (((z17.map cL_cF).length : Int).toNat + 1) 0 = Rg (M_stratagemlaw26_RegressForms_L2_B a0 z17) (M_stratagemlaw26_RegressForms_L2_E a0 z17) z17 0 () := by
  have h := M_stratagemlaw26_RegressForms_L2_rg a0 z17 hl (z17.length + 1) 0  (Nat.zero_le _) (by omega)
  rw [List.length_map, Int.toNat_natCast]
  exact h
end Go.Proofs.Yteapjpgabdegnaa.Am
/- Plain laws: Less and Contains of the reference; the law RegressForms. -/
namespace Go.Proofs.Yteapjpgabdegnaa.Am
open Go.RowKit
theorem erM_n {α : Type} {x : Option α} {k : Int → Option α} : erM .nil x k = x := rfl
theorem rcon1 (a : List Fact) (x : Fact) : ∀ (r : List Fact) (i : Int) (v : Bool), Rg (M_stratagemref26_Contains_L1_B a x) (M_stratagemref26_Contains_L1_E a x) r i v = some (v || decide (x ∈ r))
  | [], i, v => by rw [Rg, M_stratagemref26_Contains_L1_E]; simp
  | y :: r, i, v => by
    rw [Rg, M_stratagemref26_Contains_L1_B, ixv]
    cases v with
    | true => rw [sel_tt, rcon1 a x r, Bool.true_or, Bool.true_or]
    | false =>
      rw [sel_ff, fact_beq, rcon1 a x r, Bool.false_or]
      congr 1
      rw [Bool.eq_iff_iff, Bool.or_eq_true, decide_eq_true_iff, decide_eq_true_iff, decide_eq_true_iff, List.mem_cons]
theorem rcontains_eq (a b : List Fact) (ha : Sh a) (hb : Sh b) : M_stratagemref26_Contains a b = some (subF b a) := by
  rw [M_stratagemref26_Contains, M_stratagemref26_Contains_L2_eq a b hb.lt, rg_all (p := fun f => decide (f ∈ a)) (c := some false)]
  · rw [M_stratagemref26_Contains_L2_E]; show _ = some (b.all _); cases b.all fun f => decide (f ∈ a) <;> rfl
  · intro y _ i rc
    rw [M_stratagemref26_Contains_L2_B, ixv, M_stratagemref26_Contains_L1_eq a y false ha.lt, rcon1, ob1_some, Bool.false_or]
    cases decide (y ∈ a) <;> rfl
theorem cmpF_lt {x y : Fact} : cmpF x y < 0 ↔ LtF x y := by
  unfold cmpF LtF
  rcases compareInt_cases x.1 y.1 with ⟨h, hc⟩ | ⟨h, hc⟩ | ⟨h, hc⟩ <;> rcases compareInt_cases x.2 y.2 with ⟨k, kc⟩ | ⟨k, kc⟩ | ⟨k, kc⟩ <;> rw [hc, kc] <;> simp <;> omega
theorem less_loop (a b : List Fact) : ∀ (r : List Fact) (n : Nat), a.drop n = r → n ≤ a.length → n ≤ b.length →
    ob1 (Rg (M_stratagemref26_Less_L1_B a b) (M_stratagemref26_Less_L1_E a b) r n ()) (osum (fun _ => some (decide ((a.length : Int) < (b.length : Int)))) (fun r28 => some r28)) = some (decide (cmpLF r (b.drop n) < 0))
  | [], n, h, hna, hm => by
    have hn := congrArg List.length h
    simp only [List.length_drop, List.length_nil] at hn
    rw [Rg, M_stratagemref26_Less_L1_E, ob1_some, osum_inl]
    by_cases hlt : n < b.length
    · obtain ⟨y, hy, hd⟩ := drop_at hlt
      rw [hd, cmpLF, decide_eq_true (show ((a.length : Int) < b.length) by omega)]; rfl
    · rw [List.drop_eq_nil_of_le (by omega), cmpLF]
      by_cases e : a.length < b.length
      · omega
      · rw [decide_eq_false (by omega)]; rfl
  | x :: r, n, h, hna, hm => by
    obtain ⟨hx, hd, hlt⟩ := drop_cons h
    rw [Rg, M_stratagemref26_Less_L1_B, ixv, sel_dec, List.length_map]
    by_cases hb : n < b.length
    · obtain ⟨y, hy, hdy⟩ := drop_at hb
      rw [if_neg (by omega), ix_at hy, hdy, cmpLF, fact_beq]
      by_cases e : x = y
      · rw [decide_eq_true e, Bool.not_true, sel_ff, if_neg (by rw [cmpF_zero.2 e]; simp)]
        exact less_loop a b r (n + 1) hd hlt hb
      · have hne : cmpF x y ≠ 0 := fun h => e (cmpF_zero.1 h)
        rw [decide_eq_false e, Bool.not_false, sel_tt, if_pos hne, ix_at hx, ix_at hy, sel_dec, ix_at hx, ix_at hy, ix_at hx, ix_at hy]
        have hiff := cmpF_lt (x := x) (y := y)
        unfold LtF at hiff
        by_cases h1 : x.1 < y.1
        · rw [if_pos h1, ob1_some, osum_inr, decide_eq_true (hiff.2 (Or.inl h1))]
        · rw [if_neg h1]
          by_cases h2 : x.1 = y.1
          · rw [show (x.1 == y.1) = true from by simp [h2], sel_tt, ob1_some, osum_inr]
            congr 1
            rw [Bool.eq_iff_iff, decide_eq_true_iff, decide_eq_true_iff, hiff]
            constructor
            · intro h; exact Or.inr ⟨h2, h⟩
            · rintro (h | h); exact absurd h h1; exact h.2
          · rw [show (x.1 == y.1) = false from by simp [h2], sel_ff, ob1_some, osum_inr, decide_eq_false]
            rw [hiff]; rintro (h | h); exact h1 h; exact h2 h.1
    · rw [if_pos (by omega), ob1_some, osum_inr, List.drop_eq_nil_of_le (by omega), cmpLF]; rfl
theorem less_eq (a b : List Fact) (ha : Sh a) : M_stratagemref26_Less a b = some (decide (cmpLF a b < 0)) := by
  have e := M_stratagemref26_Less_L1_eq a b ha.lt
  rw [List.length_map] at e
  rw [M_stratagemref26_Less, List.length_map, List.length_map, e]
  exact less_loop a b a 0 rfl (Nat.zero_le _) (Nat.zero_le _)
/-- what Regress returns: sorted, minimal, proper -/
structure RegP (vars : List Int) (l : List (List Fact)) : Prop where
  prop : PropL vars l
  asc : SortedL l
  len : l.length ≤ 1024
  min : ∀ x ∈ l, ∀ y ∈ l, subF y x = true → y = x
theorem regO_prop {t : GTask} (hgood : goodF t = true) {p : List Fact} (hpf : propF t.Vars (-1) p = true) {o : GOp} (ho : o ∈ t.Ops) {l : List (List Fact)} (h : regO t.Vars o p = some l) : RegP t.Vars l := by
  unfold regO at h
  cases hr : regG t.Vars o p [o.Pre] with
  | none => rw [hr] at h; cases h
  | some m =>
    rw [hr, Option.map_some] at h
    obtain rfl := Option.some.inj h
    obtain ⟨l1, l2, l3⟩ := pre_prop hgood hpf ho hr
    have hmem : ∀ x, x ∈ sortLL (minF m) ↔ x ∈ m ∧ keepF m x = true := fun x => by rw [sortLL_mem, minF, List.mem_filter]
    refine ⟨fun x hx => l1 x ((hmem x).1 hx).1, sortLL_sorted (l2.filter _), ?_, fun x hx y hy hs => ?_⟩
    · rw [sortLL_length]; exact Nat.le_trans (List.length_filter_le _ _) l3
    · have hk := ((hmem x).1 hx).2
      unfold keepF at hk
      have := List.all_eq_true.1 hk y ((hmem y).1 hy).1
      rw [hs] at this
      simpa using this
theorem forms1 (i : Nat) (b : Bool) (x : List Fact) (l : List (List Fact)) (hi : l[i]? = some x) (hsh : ∀ y ∈ l, Sh y) (hn : l.Nodup) (hmin : ∀ y ∈ l, subF y x = true → y = x) : ∀ (r : List (List Fact)) (n : Nat), l.drop n = r →
    Rg (M_stratagemlaw26_RegressForms_L1_B i b x l) (M_stratagemlaw26_RegressForms_L1_E i b x l) r n () = some (.inl b)
  | [], n, h => rfl
  | y :: r, n, h => by
    obtain ⟨hy, hd, -⟩ := drop_cons h
    have ih := forms1 i b x l hi hsh hn hmin r (n + 1) hd
    rw [Rg, M_stratagemlaw26_RegressForms_L1_B, ixv]
    by_cases e : i = n
    · rw [show ((i : Int) != (n : Int)) = false from by simp [e], sel_ff]; exact ih
    · rw [show ((i : Int) != (n : Int)) = true from by rw [bne_iff_ne]; omega, sel_tt, rcontains_eq x y (hsh x (List.mem_of_getElem? hi)) (hsh y (List.mem_of_getElem? hy)), ob1_some]
      cases hs : subF y x with
      | false => rw [sel_ff]; exact ih
      | true =>
        have := hmin y (List.mem_of_getElem? hy) hs
        rw [this] at hy
        exact absurd (nodup_at hn hi hy) e
theorem sorted_nodup {l : List (List Fact)} (h : SortedL l) : l.Nodup := h.imp fun {a b} hab e => by rw [e, cmpLF_zero.2 rfl] at hab; omega
theorem forms2 (t : GTask) (hv : t.Vars.length ≤ 64) (l : List (List Fact)) (hl : RegP t.Vars l) : ∀ (r : List (List Fact)) (n : Nat), l.drop n = r →
    Rg (M_stratagemlaw26_RegressForms_L2_B t l) (M_stratagemlaw26_RegressForms_L2_E t l) r n () = some (.inl ())
  | [], n, h => rfl
  | x :: r, n, h => by
    obtain ⟨hx, hd, hlt⟩ := drop_cons h
    have ih := forms2 t hv l hl r (n + 1) hd
    have hsh : ∀ y ∈ l, Sh y := fun y hy => prop_sh hv (hl.prop y hy)
    have hxm := List.mem_of_getElem? hx
    have hll := hl.len
    rw [Rg, M_stratagemlaw26_RegressForms_L2_B, ixv, proper_eq _ x (hsh x hxm), hl.prop x hxm, ob1_some, Bool.not_true, sel_ff, sel_dec]
    have h1 : ∀ b, M_stratagemlaw26_RegressForms_L1 n b x l ((((l.map cL_cF).length : Int)).toNat + 1) 0 = some (.inl b) := fun b => by
      rw [M_stratagemlaw26_RegressForms_L1_eq n b x l (by omega)]
      exact forms1 n b x l hx hsh (sorted_nodup hl.asc) (hl.min x hxm) l 0 rfl
    cases n with
    | zero => rw [if_neg (by omega), ob1_some, osum_inl, h1, ob1_some, osum_inl]; exact ih
    | succ m =>
      obtain ⟨y, hy, -⟩ := drop_at (l := l) (n := m) (by omega)
      obtain ⟨b1, b2⟩ := List.getElem?_eq_some_iff.1 hx
      obtain ⟨b3, b4⟩ := List.getElem?_eq_some_iff.1 hy
      have hc := List.pairwise_iff_getElem.1 hl.asc m (m + 1) b3 b1 (by omega)
      rw [b2, b4] at hc
      rw [if_pos (by omega), show IntKind.i64.wrap (((m + 1 : Nat) : Int) - 1) = (m : Int) from by rw [w64 (by omega) (by omega)]; omega, ix_at hy, less_eq y x (hsh y (List.mem_of_getElem? hy)), ob1_some, decide_eq_true hc, Bool.not_true, sel_ff, ob1_some, osum_inl, h1, ob1_some, osum_inl]
      exact ih
theorem pick {n : Nat} {k : Int} (hk : 0 ≤ k ∧ k ≤ 255) (hn : 0 < n) : ∃ j : Nat, (IntKind.i64.wrap k).tmod (n : Int) = (j : Int) ∧ j < n := by
  rw [w64 (by omega) (by omega)]
  refine ⟨k.toNat % n, ?_, Nat.mod_lt _ hn⟩
  obtain ⟨m, rfl⟩ : ∃ m : Nat, k = m := ⟨k.toNat, by omega⟩
  rw [Int.toNat_natCast]
  rfl
theorem regO_nil (vars : List Int) (o : GOp) : regO vars o [] = some [o.Pre] := by
  have e : minF [o.Pre] = [o.Pre] := by simp [minF, keepF]
  rw [regO, regG, Option.map_some, e, sortLL_of (List.pairwise_singleton ..)]
theorem forms_true (g : Nat) (hg : 70 ≤ g) (t : GTask) (ht : ShT t) (k : Int) (hk : 0 ≤ k ∧ k ≤ 255) (p : List Fact) (hp : Sh p) : M_stratagemlaw26_RegressForms g t k p = some true := by
  have aw := awake_eq g hg
  rw [M_stratagemlaw26_RegressForms, small_eq t ht, ob1_some, aw]
  cases hs : smallF t with
  | false => rfl
  | true =>
    obtain ⟨hgood, hv, ho⟩ := small_good hs
    have ok := good_ok hgood
    rw [Bool.not_true, sel_ff, List.length_map]
    by_cases h0 : t.Ops.length = 0
    · rw [show ((t.Ops.length : Int) == 0) = true from by simp [h0]]; rfl
    rw [show ((t.Ops.length : Int) == 0) = false from by simp; exact fun h => h0 (by rw [h]; rfl), sel_ff, proper_eq _ _ hp, ob1_some]
    cases hf : propF t.Vars (-1) p with
    | false => rfl
    | true =>
      obtain ⟨j, hj, hjl⟩ := pick hk (n := t.Ops.length) (by omega)
      obtain ⟨o, hoj, -⟩ := drop_at (l := t.Ops) hjl
      have hom := List.mem_of_getElem? hoj
      have hr := fun q (hq : propF t.Vars (-1) q = true) => regress_eq t ht hgood q hq g hg (j : Int) o (by omega) (by rw [Int.toNat_natCast]; exact hoj)
      rw [Bool.not_true, sel_ff, ob1_some, Bool.not_true, sel_ff, ob1_some, osum_inl, grd_t (by omega), hj, hr p hf]
      cases hl : regO t.Vars o p with
      | none => rfl
      | some l =>
        have hreg := regO_prop hgood hf hom hl
        have hll := hreg.len
        rw [resR, ob2_some, is_nil, ob1_some, sel_ff]
        have h2 := forms2 t (by omega) l hreg l 0 rfl
        rw [show ((0 : Nat) : Int) = 0 from rfl] at h2
        rw [erM_n, M_stratagemlaw26_RegressForms_L2_eq t l (by omega), h2, ob1_some, osum_inl, hr [] rfl, regO_nil, resR, ob2_some, erM_n]
        rw [show (((([o.Pre] : List (List Fact)).map cL_cF).length : Int) == 1) = true from rfl, sel_tt, show ix [o.Pre] 0 = ix [o.Pre] ((0 : Nat) : Int) from rfl, ix_at (y := o.Pre) rfl, ix_at hoj, bfacts_eq _ _ (prop_sh (by omega) (good_op hgood hom).pre), ob1_some, decide_eq_true rfl]
end Go.Proofs.Yteapjpgabdegnaa.Am
/- Models printed by my decompiler, and the proofs that the code computes them. -/
namespace Go.Proofs.Yteapjpgabdegnaa.Am
open Go.RowKit
theorem ci_XDBRel {p K : Prop} (k : K) (h : p := by first | rfl | exact ⟨rfl, rfl⟩ | exact BW.fr FrV.h | (refine BW.fr ?_; assumption) | (refine ⟨rfl, ?_⟩; (simp [cGTask, cI, cF, cGOp, cGEffect, cL_cF, take_len_map]; done)) | (refine RowK.same ?_ FrI.h; first | rfl | (simp [cGTask, cI, cF, cGOp, cGEffect, cL_cF, take_len_map]; done)) | (refine row_part1 ?_; (repeat (first | exact BWL.nil | exact bwll_nil | exact bw_c | exact BW.sl | exact BW.nil | exact bwll_same rfl FrI.h | refine BWL.cons ?_ ?_ | refine bwll_cons ?_ ?_ | (refine bw_own3 rfl rfl rfl FrI.h ?_ ?_ ?_) | exact BW.fr FrV.h | exact BW.fr (by assumption) | refine bw_agg ?_ | refine bw_clo ?_ | refine bw_ptr rfl rfl rfl ?_ | (refine bw_own rfl rfl rfl ?_ FrI.h ?_ ?_) | assumption | omega | rfl | (rw [List.length_map, ← List.length_append]; assumption) | (refine bwll_same ?_ FrI.h; (simp [cGTask, cI, cF, cGOp, cGEffect, cL_cF] <;> fail)) | (rw [List.map_set]; refine bwll_set (by first | rfl | omega | simp) ?_ ?_) | refine bwll_set (by first | rfl | omega | simp) ?_ ?_ | (rw [List.map_replicate]; refine bwll_rep ?_) | refine bwll_rep ?_ | (rw [List.map_append]; refine bwll_append ?_ ?_) | refine bwll_append ?_ ?_ | (simp [cGTask, cI, cF, cGOp, cGEffect, cL_cF, take_len_map] <;> fail) | (rw [List.drop_zero, List.take_of_length_le] <;> first | rfl | (simp [cGTask, cI, cF, cGOp, cGEffect, cL_cF] <;> fail)) | (simp; omega))); done) | ((repeat (first | exact BWL.nil | exact bwll_nil | exact bw_c | exact BW.sl | exact BW.nil | exact bwll_same rfl FrI.h | refine BWL.cons ?_ ?_ | refine bwll_cons ?_ ?_ | (refine bw_own3 rfl rfl rfl FrI.h ?_ ?_ ?_) | exact BW.fr FrV.h | exact BW.fr (by assumption) | refine bw_agg ?_ | refine bw_clo ?_ | refine bw_ptr rfl rfl rfl ?_ | (refine bw_own rfl rfl rfl ?_ FrI.h ?_ ?_) | assumption | omega | rfl | (rw [List.length_map, ← List.length_append]; assumption) | (refine bwll_same ?_ FrI.h; (simp [cGTask, cI, cF, cGOp, cGEffect, cL_cF] <;> fail)) | (rw [List.map_set]; refine bwll_set (by first | rfl | omega | simp) ?_ ?_) | refine bwll_set (by first | rfl | omega | simp) ?_ ?_ | (rw [List.map_replicate]; refine bwll_rep ?_) | refine bwll_rep ?_ | (rw [List.map_append]; refine bwll_append ?_ ?_) | refine bwll_append ?_ ?_ | (simp [cGTask, cI, cF, cGOp, cGEffect, cL_cF, take_len_map] <;> fail) | (rw [List.drop_zero, List.take_of_length_le] <;> first | rfl | (simp [cGTask, cI, cF, cGOp, cGEffect, cL_cF] <;> fail)) | (simp; omega))); done) | (simp [cGTask, cI, cF, cGOp, cGEffect, cL_cF, take_len_map]; done)) : p ∧ K := ⟨h, k⟩
theorem pr_XDBRel {p K : Prop} (k : K) (h : p := by first | assumption | exact Int.natCast_nonneg _ | exact Nat.le_refl _ | exact Nat.zero_le _ | omega | (simp; done) | (simp; omega)) : p ∧ K := ⟨h, k⟩
theorem pl_XDBRel {p K : Prop} (k : K) (h : p := by first | rfl | exact List.length_map _ | (simp; done) | (simp; omega)) : p ∧ K := ⟨h, k⟩
theorem pe_XDBRel {p K : Prop} (k : K) (h : p := by first | omega | (simp; omega) | (simp only [List.length_map, List.length_cons, List.length_nil, List.length_append]; omega)) : p ∧ K := ⟨h, k⟩
theorem dr_XDBRel {b : Bool} {p K : Prop} (k : K) (h : b = true → p := by intro h; first | (cases h; done) | exact ⟨by kernel_rfl, by kernel_rfl⟩) : (b = true → p) ∧ K := ⟨h, k⟩
theorem cl_XDBRel {C : Cx} {n : Nat} {o : Oper} {τ : Nat → AV} {η : Nat → Ent} {f : FuncId} {os : Array Operand} {ats : Array TypeId} {r : AV} {args : List AV} {K : Foot → Prop} (ho : o.op = .call ⟨.value (.func f), os, ats⟩) (hc : ACall C f args r) (k : K ⟨r, [], []⟩)
    (hd : InB n o.dst := by exact Nat.le_of_ble_eq_true rfl) (hargs : os.toList.map (evA τ) = args := by first | rfl | (simp [cGTask, cI, cF, cGOp, cGEffect, cL_cF]; done)) (hfr : frs args := by repeat (first | exact trivial | exact fr1_eA _ | exact fr0_eA _ | exact fr1_fr (by assumption) | exact FrV.h | refine And.intro ?_ ?_)) (hr : fr1 r := by repeat (first | exact trivial | exact fr1_eA _ | exact fr0_eA _ | exact fr1_fr (by assumption) | exact FrV.h | refine And.intro ?_ ?_)) : ∃ f : Foot, LF C n o τ η f ∧ K f := ⟨_, lf_call ho hd hargs hc hfr hr, k⟩
theorem clc_XDBRel {C : Cx} {n : Nat} {o : Oper} {τ : Nat → AV} {η : Nat → Ent} {c : Operand} {os : Array Operand} {ats : Array TypeId} {r F : AV} {xs : List AV} {K : Foot → Prop} (ho : o.op = .call ⟨.value c, os, ats⟩) (hc : CCl C F xs r) (hfF : Fr F) (k : K ⟨r, [], []⟩)
    (hd : InB n o.dst := by exact Nat.le_of_ble_eq_true rfl) (hF : evA τ c = F := by rfl) (hargs : os.toList.map (evA τ) = xs := by first | rfl | (simp [cGTask, cI, cF, cGOp, cGEffect, cL_cF]; done)) (hfr : frs xs := by repeat (first | exact trivial | exact fr1_eA _ | exact fr0_eA _ | exact fr1_fr (by assumption) | exact FrV.h | refine And.intro ?_ ?_)) (hr : fr1 r := by repeat (first | exact trivial | exact fr1_eA _ | exact fr0_eA _ | exact fr1_fr (by assumption) | exact FrV.h | refine And.intro ?_ ?_)) : ∃ f : Foot, LF C n o τ η f ∧ K f := ⟨_, lf_clo ho hd hF hargs hc hfF hfr hr, k⟩
theorem clb_XDBRel {C : Cx} {n : Nat} {o : Oper} {τ : Nat → AV} {η : Nat → Ent} {f : FuncId} {os : Array Operand} {ats : Array TypeId} {r : AV} {xs ys : List AV} {K : Foot → Prop} (bs : List Nat) (ho : o.op = .call ⟨.value (.func f), os, ats⟩) (hargs : os.toList.map (evA τ) = xs) (hc : ACall C f ys r) (k : K ⟨r, [], bs⟩)
    (hd : InB n o.dst := by exact Nat.le_of_ble_eq_true rfl) (hb : BWL η (dropB η bs) xs ys := by repeat (first | exact BWL.nil | exact bwll_nil | exact bw_c | exact BW.sl | exact BW.nil | exact bwll_same rfl FrI.h | refine BWL.cons ?_ ?_ | refine bwll_cons ?_ ?_ | (refine bw_own3 rfl rfl rfl FrI.h ?_ ?_ ?_) | exact BW.fr FrV.h | exact BW.fr (by assumption) | refine bw_agg ?_ | refine bw_clo ?_ | refine bw_ptr rfl rfl rfl ?_ | (refine bw_own rfl rfl rfl ?_ FrI.h ?_ ?_) | assumption | omega | rfl | (rw [List.length_map, ← List.length_append]; assumption) | (refine bwll_same ?_ FrI.h; (simp [cGTask, cI, cF, cGOp, cGEffect, cL_cF] <;> fail)) | (rw [List.map_set]; refine bwll_set (by first | rfl | omega | simp) ?_ ?_) | refine bwll_set (by first | rfl | omega | simp) ?_ ?_ | (rw [List.map_replicate]; refine bwll_rep ?_) | refine bwll_rep ?_ | (rw [List.map_append]; refine bwll_append ?_ ?_) | refine bwll_append ?_ ?_ | (simp [cGTask, cI, cF, cGOp, cGEffect, cL_cF, take_len_map] <;> fail) | (rw [List.drop_zero, List.take_of_length_le] <;> first | rfl | (simp [cGTask, cI, cF, cGOp, cGEffect, cL_cF] <;> fail)) | (simp; omega))) (hr : scal r := by repeat (first | exact trivial | exact scal0_eA _ | exact scal_eA _ | refine And.intro ?_ ?_)) : ∃ f : Foot, LF C n o τ η f ∧ K f := ⟨_, lf_callB bs ho hd hargs hb hc hr, k⟩
theorem clf_XDBRel {C : Cx} {n : Nat} {o : Oper} {τ : Nat → AV} {η : Nat → Ent} {f : FuncId} {os : Array Operand} {ats : Array TypeId} {r : AV} {xs ys : List AV} {K : Foot → Prop} (us : List (Nat × Ent)) (ho : o.op = .call ⟨.value (.func f), os, ats⟩) (hargs : os.toList.map (evA τ) = xs) (hc : ACall C f ys r) (k : K ⟨r, us, []⟩)
    (hus : allUs η us := by repeat (first | exact trivial | refine And.intro rfl ?_)) (hul : ltUs n us := by repeat (first | exact trivial | refine And.intro (Nat.le_of_ble_eq_true rfl) ?_)) (hd : InB n o.dst := by exact Nat.le_of_ble_eq_true rfl) (hb : BWL η (dropB η (us.map (·.1))) xs ys := by repeat (first | exact BWL.nil | exact bwll_nil | exact bw_c | exact BW.sl | exact BW.nil | exact bwll_same rfl FrI.h | refine BWL.cons ?_ ?_ | refine bwll_cons ?_ ?_ | (refine bw_own3 rfl rfl rfl FrI.h ?_ ?_ ?_) | exact BW.fr FrV.h | exact BW.fr (by assumption) | refine bw_agg ?_ | refine bw_clo ?_ | refine bw_ptr rfl rfl rfl ?_ | (refine bw_own rfl rfl rfl ?_ FrI.h ?_ ?_) | assumption | omega | rfl | (rw [List.length_map, ← List.length_append]; assumption) | (refine bwll_same ?_ FrI.h; (simp [cGTask, cI, cF, cGOp, cGEffect, cL_cF] <;> fail)) | (rw [List.map_set]; refine bwll_set (by first | rfl | omega | simp) ?_ ?_) | refine bwll_set (by first | rfl | omega | simp) ?_ ?_ | (rw [List.map_replicate]; refine bwll_rep ?_) | refine bwll_rep ?_ | (rw [List.map_append]; refine bwll_append ?_ ?_) | refine bwll_append ?_ ?_ | (simp [cGTask, cI, cF, cGOp, cGEffect, cL_cF, take_len_map] <;> fail) | (rw [List.drop_zero, List.take_of_length_le] <;> first | rfl | (simp [cGTask, cI, cF, cGOp, cGEffect, cL_cF] <;> fail)) | (simp; omega))) (hr : fr1 r := by repeat (first | exact trivial | exact fr1_eA _ | exact fr0_eA _ | exact fr1_fr (by assumption) | exact FrV.h | refine And.intro ?_ ?_)) : ∃ f : Foot, LF C n o τ η f ∧ K f := ⟨_, lf_callF us (allUs_at hus) (ltUs_at hul) ho hd hargs hb hc hr, k⟩
theorem clg_XDBRel {C : Cx} {n : Nat} {o : Oper} {τ : Nat → AV} {η : Nat → Ent} {f : FuncId} {os : Array Operand} {ats : Array TypeId} {r : AV} {xs ys : List AV} {bs bs' : List (Nat × Blk)} {ks : List Nat} {K : Foot → Prop} (ρ : List (Nat × Nat)) (fz : List Nat) (go nb : List (Nat × Ent)) (r' : AV) (ho : o.op = .call ⟨.value (.func f), os, ats⟩) (hargs : os.toList.map (evA τ) = xs)
    (hc : ACallG C f ys bs ks r bs') (k : K ⟨r', go ++ nb, []⟩) (hd : InB n o.dst := by exact Nat.le_of_ble_eq_true rfl) (hok : okC ρ fz bs ks bs' (idsE go) = true := by rfl) (hgo : allUs η go := by repeat (first | exact trivial | refine And.intro rfl ?_)) (hgl : ltUs n go := by repeat (first | exact trivial | refine And.intro (Nat.le_of_ble_eq_true rfl) ?_))
    (hw : GWL η (fE bs) (lk ρ) (fun i => inB fz i = true) (fun i => inB (keys bs) i = true) xs ys := by repeat (first | exact True.intro | exact gb_nil rfl rfl | refine gb_some ⟨rfl, rfl, rfl⟩ ?_ | refine And.intro ?_ ?_ | refine gw_ren rfl rfl rfl rfl rfl ?_ | refine gw_pren rfl rfl rfl rfl rfl | exact gw_thaw rfl rfl rfl | refine gw_tup ?_ | exact GWL.nil | exact gwll_nil | exact gw_c | exact GW.sl | exact GW.nil | exact gwll_same rfl FrI.h | refine GWL.cons ?_ ?_ | refine gwll_cons ?_ ?_ | (refine gw_own3 rfl rfl rfl FrI.h ?_ ?_ ?_) | exact GW.fr FrV.h | exact GW.fr (by assumption) | refine gw_agg ?_ | refine gw_clo ?_ | refine gw_ptr rfl rfl rfl ?_ | (refine gw_own rfl rfl rfl ?_ FrI.h ?_ ?_) | assumption | omega | rfl | (rw [List.length_map, ← List.length_append]; assumption) | (refine gwll_same ?_ FrI.h; (simp [cGTask, cI, cF, cGOp, cGEffect, cL_cF] <;> fail)) | (rw [List.map_set]; refine gwll_set (by first | rfl | omega | simp) ?_ ?_) | refine gwll_set (by first | rfl | omega | simp) ?_ ?_ | (rw [List.map_replicate]; refine gwll_rep ?_) | refine gwll_rep ?_ | (rw [List.map_append]; refine gwll_append ?_ ?_) | refine gwll_append ?_ ?_ | (simp [cGTask, cI, cF, cGOp, cGEffect, cL_cF, take_len_map] <;> fail) | (rw [List.drop_zero, List.take_of_length_le] <;> first | rfl | (simp [cGTask, cI, cF, cGOp, cGEffect, cL_cF] <;> fail)) | (simp; omega))) (hb : GBL η (fE bs) (lk ρ) (fun i => inB fz i = true) (fun i => inB (keys bs) i = true) bs := by repeat (first | exact True.intro | exact gb_nil rfl rfl | refine gb_some ⟨rfl, rfl, rfl⟩ ?_ | refine And.intro ?_ ?_ | refine gw_ren rfl rfl rfl rfl rfl ?_ | refine gw_pren rfl rfl rfl rfl rfl | exact gw_thaw rfl rfl rfl | refine gw_tup ?_ | exact GWL.nil | exact gwll_nil | exact gw_c | exact GW.sl | exact GW.nil | exact gwll_same rfl FrI.h | refine GWL.cons ?_ ?_ | refine gwll_cons ?_ ?_ | (refine gw_own3 rfl rfl rfl FrI.h ?_ ?_ ?_) | exact GW.fr FrV.h | exact GW.fr (by assumption) | refine gw_agg ?_ | refine gw_clo ?_ | refine gw_ptr rfl rfl rfl ?_ | (refine gw_own rfl rfl rfl ?_ FrI.h ?_ ?_) | assumption | omega | rfl | (rw [List.length_map, ← List.length_append]; assumption) | (refine gwll_same ?_ FrI.h; (simp [cGTask, cI, cF, cGOp, cGEffect, cL_cF] <;> fail)) | (rw [List.map_set]; refine gwll_set (by first | rfl | omega | simp) ?_ ?_) | refine gwll_set (by first | rfl | omega | simp) ?_ ?_ | (rw [List.map_replicate]; refine gwll_rep ?_) | refine gwll_rep ?_ | (rw [List.map_append]; refine gwll_append ?_ ?_) | refine gwll_append ?_ ?_ | (simp [cGTask, cI, cF, cGOp, cGEffect, cL_cF, take_len_map] <;> fail) | (rw [List.drop_zero, List.take_of_length_le] <;> first | rfl | (simp [cGTask, cI, cF, cGOp, cGEffect, cL_cF] <;> fail)) | (simp; omega)))
    (hr : GW (fE bs') (updAll η (go ++ nb)) (lk (backN ρ bs')) (fun _ => False) (fun i => inB (idsE nb) i = true) r r' := by repeat (first | exact True.intro | exact gb_nil rfl rfl | refine gb_some ⟨rfl, rfl, rfl⟩ ?_ | refine And.intro ?_ ?_ | refine gw_ren rfl rfl rfl rfl rfl ?_ | refine gw_pren rfl rfl rfl rfl rfl | exact gw_thaw rfl rfl rfl | refine gw_tup ?_ | exact GWL.nil | exact gwll_nil | exact gw_c | exact GW.sl | exact GW.nil | exact gwll_same rfl FrI.h | refine GWL.cons ?_ ?_ | refine gwll_cons ?_ ?_ | (refine gw_own3 rfl rfl rfl FrI.h ?_ ?_ ?_) | exact GW.fr FrV.h | exact GW.fr (by assumption) | refine gw_agg ?_ | refine gw_clo ?_ | refine gw_ptr rfl rfl rfl ?_ | (refine gw_own rfl rfl rfl ?_ FrI.h ?_ ?_) | assumption | omega | rfl | (rw [List.length_map, ← List.length_append]; assumption) | (refine gwll_same ?_ FrI.h; (simp [cGTask, cI, cF, cGOp, cGEffect, cL_cF] <;> fail)) | (rw [List.map_set]; refine gwll_set (by first | rfl | omega | simp) ?_ ?_) | refine gwll_set (by first | rfl | omega | simp) ?_ ?_ | (rw [List.map_replicate]; refine gwll_rep ?_) | refine gwll_rep ?_ | (rw [List.map_append]; refine gwll_append ?_ ?_) | refine gwll_append ?_ ?_ | (simp [cGTask, cI, cF, cGOp, cGEffect, cL_cF, take_len_map] <;> fail) | (rw [List.drop_zero, List.take_of_length_le] <;> first | rfl | (simp [cGTask, cI, cF, cGOp, cGEffect, cL_cF] <;> fail)) | (simp; omega)))
    (hnb : nbOk n η (updAll η (go ++ nb)) ρ ks (fE bs') (lk (backN ρ bs')) (fun i => inB (idsE nb) i = true) bs' nb := by repeat (first | exact True.intro | rfl | exact Nat.le_of_ble_eq_true rfl | exact gb_nil rfl rfl | refine gb_some ⟨rfl, rfl, rfl⟩ ?_ | refine And.intro ?_ ?_ | refine gw_ren rfl rfl rfl rfl rfl ?_ | refine gw_pren rfl rfl rfl rfl rfl | exact gw_thaw rfl rfl rfl | refine gw_tup ?_ | exact GWL.nil | exact gwll_nil | exact gw_c | exact GW.sl | exact GW.nil | exact gwll_same rfl FrI.h | refine GWL.cons ?_ ?_ | refine gwll_cons ?_ ?_ | (refine gw_own3 rfl rfl rfl FrI.h ?_ ?_ ?_) | exact GW.fr FrV.h | exact GW.fr (by assumption) | refine gw_agg ?_ | refine gw_clo ?_ | refine gw_ptr rfl rfl rfl ?_ | (refine gw_own rfl rfl rfl ?_ FrI.h ?_ ?_) | assumption | omega | rfl | (rw [List.length_map, ← List.length_append]; assumption) | (refine gwll_same ?_ FrI.h; (simp [cGTask, cI, cF, cGOp, cGEffect, cL_cF] <;> fail)) | (rw [List.map_set]; refine gwll_set (by first | rfl | omega | simp) ?_ ?_) | refine gwll_set (by first | rfl | omega | simp) ?_ ?_ | (rw [List.map_replicate]; refine gwll_rep ?_) | refine gwll_rep ?_ | (rw [List.map_append]; refine gwll_append ?_ ?_) | refine gwll_append ?_ ?_ | (simp [cGTask, cI, cF, cGOp, cGEffect, cL_cF, take_len_map] <;> fail) | (rw [List.drop_zero, List.take_of_length_le] <;> first | rfl | (simp [cGTask, cI, cF, cGOp, cGEffect, cL_cF] <;> fail)) | (simp; omega))) : ∃ f : Foot, LF C n o τ η f ∧ K f := ⟨_, lf_callG ρ fz go nb ho hd hargs hc hok hgo hgl hw hb hr hnb, k⟩
def M_stratagemlaw26_RegressRelevant_L1 (a1 : List Fact) (y891 : GEffect) : Nat → Bool → Int → Option (Bool)
  | 0, _, _ => none
  | k898 + 1, v896, v897 =>
    sel (decide (v897 < ((a1.map cF).length : Int)))
     (ix a1 v897 (fun y899 =>
       sel v896
        (M_stratagemlaw26_RegressRelevant_L1 a1 y891 k898 true (IntKind.i64.wrap (v897 + 1)))
        (sel (y891.Var == y899.1)
          (M_stratagemlaw26_RegressRelevant_L1 a1 y891 k898 (y891.Val == y899.2) (IntKind.i64.wrap (v897 + 1)))
          (M_stratagemlaw26_RegressRelevant_L1 a1 y891 k898 false (IntKind.i64.wrap (v897 + 1))))))
     (some v896)
def M_stratagemlaw26_RegressRelevant_L2 (a1 : List Fact) (y767 : GOp) : Nat → Bool → Int → Option (Bool)
  | 0, _, _ => none
  | k879 + 1, v877, v878 =>
    sel (decide (v878 < ((y767.Effs.map cGEffect).length : Int)))
     (ob1 (ix y767.Effs v878 (fun y891 =>
        M_stratagemlaw26_RegressRelevant_L1 a1 y891 ((((a1.map cF).length : Int)).toNat + 1) v877 0) : Option (Bool))
       (fun v889 => M_stratagemlaw26_RegressRelevant_L2 a1 y767 k879 v889 (IntKind.i64.wrap (v878 + 1))))
     (some v877)
def M_stratagemlaw26_RegressRelevant_L3 (a1 : List Fact) (v614 : Int) (z901 : List (List Fact)) : Nat → Int → Option (Int ⊕ Bool)
  | 0, _ => none
  | k911 + 1, v910 =>
    sel (decide (v910 < ((z901.map cL_cF).length : Int)))
     (ix z901 v910 (fun y912 =>
       ob1 (M_stratagemref26_Contains y912 a1) (fun z913 =>
        sel (!z913)
         (some (.inr false))
         (M_stratagemlaw26_RegressRelevant_L3 a1 v614 z901 k911 (IntKind.i64.wrap (v910 + 1))))))
     (some (.inl v614))
def M_stratagemlaw26_RegressRelevant_L4 (a0 : GTask) (a1 : List Fact) (g : Nat) (z15 : List Int) : Nat → Int → Int → Option (Bool)
  | 0, _, _ => none
  | k616 + 1, v614, v615 =>
    sel (decide (v615 < ((a0.Ops.map cGOp).length : Int)))
     (ob1 (ix a0.Ops v615 (fun y767 =>
        ob1 (M_stratagemlaw26_RegressRelevant_L2 a1 y767 ((((y767.Effs.map cGEffect).length : Int)).toNat + 1) false 0 : Option (Bool))
         (fun v833 => sel v833
            (sel (decide (v614 ≥ ((z15.map cI).length : Int)))
              (some (.inr false))
              (ix z15 v614 (fun y900 =>
                sel (y900 != v615)
                 (some (.inr false))
                 (some (.inl (IntKind.i64.wrap (v614 + 1)))))))
            (ob2 (M_regress_Regress g a0 v615 a1) (fun z901 z902 =>
              ob1 (M_stratagembase_Is z902 5) (fun z903 =>
               sel z903
                (some (.inl v614))
                (erM z902
                  (M_stratagemlaw26_RegressRelevant_L3 a1 v614 z901 ((((z901.map cL_cF).length : Int)).toNat + 1) 0)
                  (fun _ => some (.inr false)))))))) : Option (Int ⊕ Bool))
       (osum
       (fun v764 => M_stratagemlaw26_RegressRelevant_L4 a0 a1 g z15 k616 v764 (IntKind.i64.wrap (v615 + 1)))
       (fun r765 => some r765)))
     (some (v614 == ((z15.map cI).length : Int)))
def M_stratagemlaw26_RegressRelevant (g : Nat) (a0 : GTask) (a1 : List Fact) : Option (Bool) :=
  ob1 (ob1 (M_stratagembase_Small a0) (fun z9 =>
    sel (!z9)
     (ob1 (M_stratagemlaw26_awake g) (fun z14 =>
       some (.inr z14)))
     (ob1 (M_stratagembase_Proper a0.Vars a1) (fun z10 =>
       sel (!z10)
        (ob1 (M_stratagemlaw26_awake g) (fun z13 =>
          some (.inr z13)))
        (ob1 (M_stratagemlaw26_awake g) (fun z11 =>
          sel (!z11)
           (ob1 (M_stratagemlaw26_awake g) (fun z12 =>
             some (.inr z12)))
           (some (.inl ()))))))) : Option (Unit ⊕ Bool))
   (osum
   (fun _ => ob2 (M_regress_Relevant a0 a1) (fun z15 z16 =>
      erM z16
       (M_stratagemlaw26_RegressRelevant_L4 a0 a1 g z15 ((((a0.Ops.map cGOp).length : Int)).toNat + 1) 0 0)
       (fun _ => some false)))
   (fun r7 => some r7))
set_option maxHeartbeats 16000000 in
set_option maxRecDepth 100000 in
theorem A_stratagemlaw26_RegressRelevant (g : Nat) (a0 : GTask) (a1 : List Fact) {r1 : Bool} (h : M_stratagemlaw26_RegressRelevant g a0 a1 = some r1) : ACall cx 9 [.agg [.sl 1 (a0.Vars.map cI), .sl 1 (a0.Init.map cI), .sl 2 (a0.Goal.map cF), .sl 4 (a0.Ops.map cGOp)], .sl 2 (a1.map cF)] (.c (.bool r1)) := by
  refine acall_of Try.func9 rfl (by decide) rfl (Nat.le_of_ble_eq_true rfl) ?_
  intro _
  unfold M_stratagemlaw26_RegressRelevant at h
  refine awp_seq ?_
  refine awp_region ?_
  intro _
  refine dr_XDBRel ?_
  obtain ⟨o1, h, hK2⟩ := ob1_ok h
  refine awp_cut (α := Unit) (fun _ => mkS 122 [(1, .sl 2 (a1.map cF)), (2, .ptr 2 0 0 0)] [(2, ⟨26, 4, true, [[.sl 1 (a0.Vars.map cI), .sl 1 (a0.Init.map cI), .sl 2 (a0.Goal.map cF), .sl 4 (a0.Ops.map cGOp)]]⟩)]) (fun v => o1 = (.inl v)) ?_ ?_
  · refine awp_seq ?_
    refine awp_region ?_
    intro _
    obtain ⟨z9, u3, h⟩ := ob1_ok h
    refine cl_XDBRel rfl (A_stratagembase_Small a0 u3) ?_
    intro _
    refine spf h (fun c4 h => ?_) (fun c4 h => ?_)
    · intro _
      obtain ⟨z10, u5, h⟩ := ob1_ok h
      refine cl_XDBRel rfl (A_stratagembase_Proper a0.Vars a1 u5) ?_
      intro _
      refine spf h (fun c6 h => ?_) (fun c6 h => ?_)
      · intro _
        obtain ⟨z11, u7, h⟩ := ob1_ok h
        refine cl_XDBRel rfl (A_stratagemlaw26_awake g u7) ?_
        intro _
        refine dr_XDBRel ?_
        refine awp_cond ?_
        intro _
        refine spl h (fun c8 h => ?_) (fun c8 h => ?_)
        · refine awp_seq ?_
          refine awp_region ?_
          intro _
          obtain ⟨z12, u9, h⟩ := ob1_ok h
          refine cl_XDBRel rfl (A_stratagemlaw26_awake g u9) ?_
          intro _
          refine dr_XDBRel ?_
          refine awp_ret ?_
          have j10 := Option.some.inj h
          subst j10
          replace h := (osum_r hK2)
          intro _
          obtain rfl := inj1 h
          repeat (first | exact True.intro | refine ci_XDBRel ?_)
        · refine awp_skip ?_
          refine ⟨(), (Option.some.inj h).symm, ?_⟩
          repeat (first | exact True.intro | refine ci_XDBRel ?_)
      · intro _
        refine dr_XDBRel ?_
        refine awp_cond ?_
        intro _
        refine litT ?_
        refine awp_seq ?_
        refine awp_region ?_
        intro _
        obtain ⟨z13, u11, h⟩ := ob1_ok h
        refine cl_XDBRel rfl (A_stratagemlaw26_awake g u11) ?_
        intro _
        refine dr_XDBRel ?_
        refine awp_ret ?_
        have j12 := Option.some.inj h
        subst j12
        replace h := (osum_r hK2)
        intro _
        obtain rfl := inj1 h
        repeat (first | exact True.intro | refine ci_XDBRel ?_)
    · intro _
      refine dr_XDBRel ?_
      refine awp_cond ?_
      intro _
      refine litT ?_
      refine awp_seq ?_
      refine awp_region ?_
      intro _
      obtain ⟨z14, u13, h⟩ := ob1_ok h
      refine cl_XDBRel rfl (A_stratagemlaw26_awake g u13) ?_
      intro _
      refine dr_XDBRel ?_
      refine awp_ret ?_
      have j14 := Option.some.inj h
      subst j14
      replace h := (osum_r hK2)
      intro _
      obtain rfl := inj1 h
      repeat (first | exact True.intro | refine ci_XDBRel ?_)
  · rintro _ ho
    have ho := ho.symm
    subst ho
    intro _
    replace h := (osum_l hK2)
    refine awp_seq ?_
    refine awp_region ?_
    intro _
    obtain ⟨z15, z16, u15, h⟩ := ob2_ok h
    refine cl_XDBRel rfl (A_regress_Relevant a0 a1 u15) ?_
    intro _
    refine dr_XDBRel ?_
    refine awp_seq ?_
    refine awp_seq ?_
    rcases z16 with _ | e17
    · replace h := erM_nil h
      refine awp_region ?_
      intro _
      refine dr_XDBRel ?_
      refine awp_cond ?_
      intro _
      refine litF ?_
      refine awp_skip ?_
      refine awp_seq ?_
      refine awp_region ?_
      intro _
      refine dr_XDBRel ?_
      refine awp_seq ?_
      refine awp_seq ?_
      refine awp_region ?_
      intro _
      refine dr_XDBRel ?_
      refine awp_block ?_
      refine awp_loop (α := Nat × Int × Int) (fun x => mkS 122 [(1, .sl 2 (a1.map cF)), (2, .ptr 2 0 0 0), (5, .sl 1 (z15.map cI)), (7, .c (.int .i64 x.2.1)), (43, .sl 4 (a0.Ops.map cGOp)), (44, .c (.int .i64 ((a0.Ops.map cGOp).length : Int))), (45, .c (.int .i64 x.2.2))] [(2, ⟨26, 4, true, [[.sl 1 (a0.Vars.map cI), .sl 1 (a0.Init.map cI), .sl 2 (a0.Goal.map cF), .sl 4 (a0.Ops.map cGOp)]]⟩)]) (fun x => M_stratagemlaw26_RegressRelevant_L4 a0 a1 g z15 x.1 x.2.1 x.2.2 = some r1) (fun x => x.1) ((((a0.Ops.map cGOp).length : Int)).toNat + 1, 0, 0) h ?_ ?_
      · repeat (first | exact True.intro | refine ci_XDBRel ?_)
      · intro x16 h
        intro _
        obtain ⟨k616, m17, h⟩ := succ_of (f := fun n => M_stratagemlaw26_RegressRelevant_L4 a0 a1 g z15 n x16.2.1 x16.2.2) rfl h
        replace h : M_stratagemlaw26_RegressRelevant_L4 a0 a1 g z15 (k616 + 1) x16.2.1 x16.2.2 = some r1 := h
        rw [M_stratagemlaw26_RegressRelevant_L4] at h
        refine awp_seq ?_
        refine awp_region ?_
        intro _
        refine dr_XDBRel ?_
        refine awp_seq ?_
        refine awp_cond ?_
        intro _
        refine spl h (fun c18 h => ?_) (fun c18 h => ?_)
        · refine awp_skip ?_
          obtain ⟨o19, h, hK20⟩ := ob1_ok h
          refine awp_cut (α := Int) (fun v764 => mkS 122 [(1, .sl 2 (a1.map cF)), (2, .ptr 2 0 0 0), (5, .sl 1 (z15.map cI)), (7, .c (.int .i64 v764)), (43, .sl 4 (a0.Ops.map cGOp)), (44, .c (.int .i64 ((a0.Ops.map cGOp).length : Int))), (45, .c (.int .i64 x16.2.2))] [(2, ⟨26, 4, true, [[.sl 1 (a0.Vars.map cI), .sl 1 (a0.Init.map cI), .sl 2 (a0.Goal.map cF), .sl 4 (a0.Ops.map cGOp)]]⟩)]) (fun v => o19 = (.inl v)) ?_ ?_
          · refine awp_block ?_
            refine awp_seq ?_
            refine awp_region ?_
            intro _
            obtain ⟨y767, w21, q22, h⟩ := ix_ok h
            refine Exists.intro (cGOp y767) (And.intro (map_at' w21) ?_)
            intro _
            refine pr_XDBRel ?_
            refine dr_XDBRel ?_
            refine awp_seq ?_
            refine awp_region ?_
            intro _
            refine dr_XDBRel ?_
            obtain ⟨o23, h, hK24⟩ := ob1_ok h
            refine awp_cut (α := Bool) (fun v833 => mkS 122 [(1, .sl 2 (a1.map cF)), (2, .ptr 2 0 0 0), (5, .sl 1 (z15.map cI)), (7, .c (.int .i64 x16.2.1)), (8, .c (.int .i64 x16.2.2)), (10, .c (.bool v833)), (43, .sl 4 (a0.Ops.map cGOp)), (44, .c (.int .i64 ((a0.Ops.map cGOp).length : Int))), (45, .c (.int .i64 x16.2.2))] [(2, ⟨26, 4, true, [[.sl 1 (a0.Vars.map cI), .sl 1 (a0.Init.map cI), .sl 2 (a0.Goal.map cF), .sl 4 (a0.Ops.map cGOp)]]⟩)]) (fun v => o23 = v) ?_ ?_
            · refine awp_seq ?_
              refine awp_region ?_
              intro _
              refine dr_XDBRel ?_
              refine awp_block ?_
              refine awp_loop (α := Nat × Bool × Int) (fun x => mkS 122 [(1, .sl 2 (a1.map cF)), (2, .ptr 2 0 0 0), (5, .sl 1 (z15.map cI)), (7, .c (.int .i64 x16.2.1)), (8, .c (.int .i64 x16.2.2)), (10, .c (.bool x.2.1)), (43, .sl 4 (a0.Ops.map cGOp)), (44, .c (.int .i64 ((a0.Ops.map cGOp).length : Int))), (45, .c (.int .i64 x16.2.2)), (51, .sl 3 (y767.Effs.map cGEffect)), (52, .c (.int .i64 ((y767.Effs.map cGEffect).length : Int))), (53, .c (.int .i64 x.2.2))] [(2, ⟨26, 4, true, [[.sl 1 (a0.Vars.map cI), .sl 1 (a0.Init.map cI), .sl 2 (a0.Goal.map cF), .sl 4 (a0.Ops.map cGOp)]]⟩)]) (fun x => M_stratagemlaw26_RegressRelevant_L2 a1 y767 x.1 x.2.1 x.2.2 = some o23) (fun x => x.1) ((((y767.Effs.map cGEffect).length : Int)).toNat + 1, false, 0) h ?_ ?_
              · repeat (first | exact True.intro | refine ci_XDBRel ?_)
              · intro x25 h
                intro _
                obtain ⟨k879, m26, h⟩ := succ_of (f := fun n => M_stratagemlaw26_RegressRelevant_L2 a1 y767 n x25.2.1 x25.2.2) rfl h
                replace h : M_stratagemlaw26_RegressRelevant_L2 a1 y767 (k879 + 1) x25.2.1 x25.2.2 = some o23 := h
                rw [M_stratagemlaw26_RegressRelevant_L2] at h
                refine awp_seq ?_
                refine awp_region ?_
                intro _
                refine dr_XDBRel ?_
                refine awp_seq ?_
                refine awp_cond ?_
                intro _
                refine spl h (fun c27 h => ?_) (fun c27 h => ?_)
                · refine awp_skip ?_
                  obtain ⟨o28, h, hK29⟩ := ob1_ok h
                  refine awp_cut (α := Bool) (fun v889 => mkS 122 [(1, .sl 2 (a1.map cF)), (2, .ptr 2 0 0 0), (5, .sl 1 (z15.map cI)), (7, .c (.int .i64 x16.2.1)), (8, .c (.int .i64 x16.2.2)), (10, .c (.bool v889)), (43, .sl 4 (a0.Ops.map cGOp)), (44, .c (.int .i64 ((a0.Ops.map cGOp).length : Int))), (45, .c (.int .i64 x16.2.2)), (51, .sl 3 (y767.Effs.map cGEffect)), (52, .c (.int .i64 ((y767.Effs.map cGEffect).length : Int))), (53, .c (.int .i64 x25.2.2))] [(2, ⟨26, 4, true, [[.sl 1 (a0.Vars.map cI), .sl 1 (a0.Init.map cI), .sl 2 (a0.Goal.map cF), .sl 4 (a0.Ops.map cGOp)]]⟩)]) (fun v => o28 = v) ?_ ?_
                  · refine awp_block ?_
                    refine awp_seq ?_
                    refine awp_region ?_
                    intro _
                    obtain ⟨y891, w30, q31, h⟩ := ix_ok h
                    refine Exists.intro (cGEffect y891) (And.intro (map_at' w30) ?_)
                    intro _
                    refine pr_XDBRel ?_
                    refine dr_XDBRel ?_
                    refine awp_seq ?_
                    refine awp_region ?_
                    intro _
                    refine dr_XDBRel ?_
                    refine awp_block ?_
                    refine awp_loop (α := Nat × Bool × Int) (fun x => mkS 122 [(1, .sl 2 (a1.map cF)), (2, .ptr 2 0 0 0), (5, .sl 1 (z15.map cI)), (7, .c (.int .i64 x16.2.1)), (8, .c (.int .i64 x16.2.2)), (10, .c (.bool x.2.1)), (12, .ptr 12 0 0 0), (43, .sl 4 (a0.Ops.map cGOp)), (44, .c (.int .i64 ((a0.Ops.map cGOp).length : Int))), (45, .c (.int .i64 x16.2.2)), (51, .sl 3 (y767.Effs.map cGEffect)), (52, .c (.int .i64 ((y767.Effs.map cGEffect).length : Int))), (53, .c (.int .i64 x25.2.2)), (57, .sl 2 (a1.map cF)), (58, .c (.int .i64 ((a1.map cF).length : Int))), (59, .c (.int .i64 x.2.2))] [(2, ⟨26, 4, true, [[.sl 1 (a0.Vars.map cI), .sl 1 (a0.Init.map cI), .sl 2 (a0.Goal.map cF), .sl 4 (a0.Ops.map cGOp)]]⟩), (12, ⟨42, 3, true, [[.sl 2 (y891.When.map cF), .c (.int .i64 y891.Var), .c (.int .i64 y891.Val)]]⟩)]) (fun x => M_stratagemlaw26_RegressRelevant_L1 a1 y891 x.1 x.2.1 x.2.2 = some o28) (fun x => x.1) ((((a1.map cF).length : Int)).toNat + 1, x25.2.1, 0) h ?_ ?_
                    · repeat (first | exact True.intro | refine ci_XDBRel ?_)
                    · intro x32 h
                      intro _
                      obtain ⟨k898, m33, h⟩ := succ_of (f := fun n => M_stratagemlaw26_RegressRelevant_L1 a1 y891 n x32.2.1 x32.2.2) rfl h
                      replace h : M_stratagemlaw26_RegressRelevant_L1 a1 y891 (k898 + 1) x32.2.1 x32.2.2 = some o28 := h
                      rw [M_stratagemlaw26_RegressRelevant_L1] at h
                      refine awp_seq ?_
                      refine awp_region ?_
                      intro _
                      refine dr_XDBRel ?_
                      refine awp_seq ?_
                      refine awp_cond ?_
                      intro _
                      refine spl h (fun c34 h => ?_) (fun c34 h => ?_)
                      · refine awp_skip ?_
                        refine awp_seq ?_
                        refine awp_block ?_
                        refine awp_seq ?_
                        refine awp_region ?_
                        intro _
                        obtain ⟨y899, w35, q36, h⟩ := ix_ok h
                        refine Exists.intro (cF y899) (And.intro (map_at' w35) ?_)
                        intro _
                        refine pr_XDBRel ?_
                        refine dr_XDBRel ?_
                        refine awp_region ?_
                        intro _
                        refine spf h (fun c37 h => ?_) (fun c37 h => ?_)
                        · intro _
                          refine spl h (fun c38 h => ?_) (fun c38 h => ?_)
                          · intro _
                            refine dr_XDBRel ?_
                            refine awp_region ?_
                            intro _
                            refine dr_XDBRel ?_
                            refine ⟨(k898, (y891.Val == y899.2), (IntKind.i64.wrap (x32.2.2 + 1))), h, lt_of_succ m33, ?_⟩
                            repeat (first | exact True.intro | refine ci_XDBRel ?_)
                          · intro _
                            refine dr_XDBRel ?_
                            refine awp_region ?_
                            intro _
                            refine dr_XDBRel ?_
                            refine ⟨(k898, false, (IntKind.i64.wrap (x32.2.2 + 1))), h, lt_of_succ m33, ?_⟩
                            repeat (first | exact True.intro | refine ci_XDBRel ?_)
                        · intro _
                          refine dr_XDBRel ?_
                          refine awp_region ?_
                          intro _
                          refine dr_XDBRel ?_
                          refine ⟨(k898, true, (IntKind.i64.wrap (x32.2.2 + 1))), h, lt_of_succ m33, ?_⟩
                          repeat (first | exact True.intro | refine ci_XDBRel ?_)
                      · refine awp_exit ?_
                        refine ⟨x32.2.1, (Option.some.inj h).symm, ?_⟩
                        repeat (first | exact True.intro | refine ci_XDBRel ?_)
                  · rintro v889 ho
                    have ho := ho.symm
                    subst ho
                    intro _
                    replace h := hK29
                    refine awp_region ?_
                    intro _
                    refine dr_XDBRel ?_
                    refine ⟨(k879, v889, (IntKind.i64.wrap (x25.2.2 + 1))), h, lt_of_succ m26, ?_⟩
                    repeat (first | exact True.intro | refine ci_XDBRel ?_)
                · refine awp_exit ?_
                  refine ⟨x25.2.1, (Option.some.inj h).symm, ?_⟩
                  repeat (first | exact True.intro | refine ci_XDBRel ?_)
            · rintro v833 ho
              have ho := ho.symm
              subst ho
              intro _
              replace h := hK24
              refine awp_seq ?_
              refine awp_seq ?_
              refine awp_region ?_
              intro _
              refine dr_XDBRel ?_
              refine awp_cond ?_
              intro _
              refine spl h (fun c39 h => ?_) (fun c39 h => ?_)
              · refine awp_seq ?_
                refine awp_seq ?_
                refine awp_region ?_
                intro _
                refine spf h (fun c40 h => ?_) (fun c40 h => ?_)
                · intro _
                  obtain ⟨y900, w41, q42, h⟩ := ix_ok h
                  refine Exists.intro (cI y900) (And.intro (map_at' w41) ?_)
                  intro _
                  refine pr_XDBRel ?_
                  refine dr_XDBRel ?_
                  refine awp_cond ?_
                  intro _
                  refine spl h (fun c43 h => ?_) (fun c43 h => ?_)
                  · refine awp_seq ?_
                    refine awp_region ?_
                    intro _
                    refine dr_XDBRel ?_
                    refine awp_ret ?_
                    have j44 := Option.some.inj h
                    subst j44
                    replace h := (osum_r hK20)
                    intro _
                    obtain rfl := inj1 h
                    repeat (first | exact True.intro | refine ci_XDBRel ?_)
                  · refine awp_skip ?_
                    refine awp_seq ?_
                    refine awp_region ?_
                    intro _
                    refine dr_XDBRel ?_
                    refine awp_exit ?_
                    refine ⟨(IntKind.i64.wrap (x16.2.1 + 1)), (Option.some.inj h).symm, ?_⟩
                    repeat (first | exact True.intro | refine ci_XDBRel ?_)
                · intro _
                  refine dr_XDBRel ?_
                  refine awp_cond ?_
                  intro _
                  refine litT ?_
                  refine awp_seq ?_
                  refine awp_region ?_
                  intro _
                  refine dr_XDBRel ?_
                  refine awp_ret ?_
                  have j45 := Option.some.inj h
                  subst j45
                  replace h := (osum_r hK20)
                  intro _
                  obtain rfl := inj1 h
                  repeat (first | exact True.intro | refine ci_XDBRel ?_)
              · refine awp_skip ?_
                refine awp_seq ?_
                refine awp_region ?_
                intro _
                obtain ⟨z901, z902, u46, h⟩ := ob2_ok h
                refine cl_XDBRel rfl (A_regress_Regress g a0 x16.2.2 a1 u46) ?_
                intro _
                refine dr_XDBRel ?_
                refine awp_seq ?_
                refine awp_seq ?_
                refine awp_region ?_
                intro _
                obtain ⟨z903, u47, h⟩ := ob1_ok h
                refine cl_XDBRel rfl (A_stratagembase_Is z902 5 u47) ?_
                intro _
                refine dr_XDBRel ?_
                refine awp_cond ?_
                intro _
                refine spl h (fun c48 h => ?_) (fun c48 h => ?_)
                · refine awp_exit ?_
                  refine ⟨x16.2.1, (Option.some.inj h).symm, ?_⟩
                  repeat (first | exact True.intro | refine ci_XDBRel ?_)
                · refine awp_skip ?_
                  refine awp_seq ?_
                  refine awp_seq ?_
                  rcases z902 with _ | e904
                  · replace h := erM_nil h
                    refine awp_region ?_
                    intro _
                    refine dr_XDBRel ?_
                    refine awp_cond ?_
                    intro _
                    refine litF ?_
                    refine awp_skip ?_
                    refine awp_seq ?_
                    refine awp_region ?_
                    intro _
                    refine dr_XDBRel ?_
                    refine awp_block ?_
                    refine awp_loop (α := Nat × Int) (fun x => mkS 122 [(1, .sl 2 (a1.map cF)), (2, .ptr 2 0 0 0), (5, .sl 1 (z15.map cI)), (7, .c (.int .i64 x16.2.1)), (43, .sl 4 (a0.Ops.map cGOp)), (44, .c (.int .i64 ((a0.Ops.map cGOp).length : Int))), (45, .c (.int .i64 x16.2.2)), (106, .sl 1 (z901.map cL_cF)), (107, .c (.int .i64 ((z901.map cL_cF).length : Int))), (108, .c (.int .i64 x.2))] [(2, ⟨26, 4, true, [[.sl 1 (a0.Vars.map cI), .sl 1 (a0.Init.map cI), .sl 2 (a0.Goal.map cF), .sl 4 (a0.Ops.map cGOp)]]⟩)]) (fun x => M_stratagemlaw26_RegressRelevant_L3 a1 x16.2.1 z901 x.1 x.2 = some o19) (fun x => x.1) ((((z901.map cL_cF).length : Int)).toNat + 1, 0) h ?_ ?_
                    · repeat (first | exact True.intro | refine ci_XDBRel ?_)
                    · intro x49 h
                      intro _
                      obtain ⟨k911, m50, h⟩ := succ_of (f := fun n => M_stratagemlaw26_RegressRelevant_L3 a1 x16.2.1 z901 n x49.2) rfl h
                      replace h : M_stratagemlaw26_RegressRelevant_L3 a1 x16.2.1 z901 (k911 + 1) x49.2 = some o19 := h
                      rw [M_stratagemlaw26_RegressRelevant_L3] at h
                      refine awp_seq ?_
                      refine awp_region ?_
                      intro _
                      refine dr_XDBRel ?_
                      refine awp_seq ?_
                      refine awp_cond ?_
                      intro _
                      refine spl h (fun c51 h => ?_) (fun c51 h => ?_)
                      · refine awp_skip ?_
                        refine awp_seq ?_
                        refine awp_block ?_
                        refine awp_seq ?_
                        refine awp_region ?_
                        intro _
                        obtain ⟨y912, w52, q53, h⟩ := ix_ok h
                        refine Exists.intro (cL_cF y912) (And.intro (map_at' w52) ?_)
                        intro _
                        refine pr_XDBRel ?_
                        refine dr_XDBRel ?_
                        refine awp_seq ?_
                        refine awp_region ?_
                        intro _
                        obtain ⟨z913, u54, h⟩ := ob1_ok h
                        refine cl_XDBRel rfl (A_stratagemref26_Contains y912 a1 u54) ?_
                        intro _
                        refine dr_XDBRel ?_
                        refine awp_cond ?_
                        intro _
                        refine spl h (fun c55 h => ?_) (fun c55 h => ?_)
                        · refine awp_seq ?_
                          refine awp_region ?_
                          intro _
                          refine dr_XDBRel ?_
                          refine awp_ret ?_
                          have j56 := Option.some.inj h
                          subst j56
                          replace h := (osum_r hK20)
                          intro _
                          obtain rfl := inj1 h
                          repeat (first | exact True.intro | refine ci_XDBRel ?_)
                        · refine awp_skip ?_
                          refine awp_region ?_
                          intro _
                          refine dr_XDBRel ?_
                          refine ⟨(k911, (IntKind.i64.wrap (x49.2 + 1))), h, lt_of_succ m50, ?_⟩
                          repeat (first | exact True.intro | refine ci_XDBRel ?_)
                      · refine awp_exit ?_
                        refine ⟨x16.2.1, (Option.some.inj h).symm, ?_⟩
                        repeat (first | exact True.intro | refine ci_XDBRel ?_)
                  · replace h := erM_no h
                    refine awp_region ?_
                    intro _
                    refine dr_XDBRel ?_
                    refine awp_cond ?_
                    intro _
                    refine litT ?_
                    refine awp_seq ?_
                    refine awp_region ?_
                    intro _
                    refine dr_XDBRel ?_
                    refine awp_ret ?_
                    have j57 := Option.some.inj h
                    subst j57
                    replace h := (osum_r hK20)
                    intro _
                    obtain rfl := inj1 h
                    repeat (first | exact True.intro | refine ci_XDBRel ?_)
          · rintro v764 ho
            have ho := ho.symm
            subst ho
            intro _
            replace h := (osum_l hK20)
            refine awp_region ?_
            intro _
            refine dr_XDBRel ?_
            refine ⟨(k616, v764, (IntKind.i64.wrap (x16.2.2 + 1))), h, lt_of_succ m17, ?_⟩
            repeat (first | exact True.intro | refine ci_XDBRel ?_)
        · refine awp_exit ?_
          refine awp_seq ?_
          refine awp_region ?_
          intro _
          refine dr_XDBRel ?_
          refine awp_ret ?_
          intro _
          obtain rfl := inj1 h
          repeat (first | exact True.intro | refine ci_XDBRel ?_)
    · replace h := erM_no h
      refine awp_region ?_
      intro _
      refine dr_XDBRel ?_
      refine awp_cond ?_
      intro _
      refine litT ?_
      refine awp_seq ?_
      refine awp_region ?_
      intro _
      refine dr_XDBRel ?_
      refine awp_ret ?_
      intro _
      obtain rfl := inj1 h
      repeat (first | exact True.intro | refine ci_XDBRel ?_)
end Go.Proofs.Yteapjpgabdegnaa.Am
/- Range loops of the models as recursions. -/
namespace Go.Proofs.Yteapjpgabdegnaa.Am
def M_stratagemlaw26_RegressRelevant_L1_B (_ : List Fact) (y891 : GEffect) (_y899 : Fact) (_ : Int) : ((Bool)) → (((Bool)) → Option (Bool)) → Option (Bool) := fun v896 rc => ixv _y899 (fun y899 =>
       sel v896
        (rc (true))
        (sel (y891.Var == y899.1)
          (rc ((y891.Val == y899.2)))
          (rc (false))))
def M_stratagemlaw26_RegressRelevant_L1_E (_ : List Fact) (_ : GEffect) : ((Bool)) → Option (Bool) := fun v896 => some v896
theorem M_stratagemlaw26_RegressRelevant_L1_rg (a1 : List Fact) (y891 : GEffect) (hl : a1.length < 9223372036854775807) : ∀ (k n : Nat) (v896 : Bool), n ≤ a1.length → a1.length < k + n → M_stratagemlaw26_RegressRelevant_L1 a1 y891 k v896 (n : Int) = Rg (M_stratagemlaw26_RegressRelevant_L1_B a1 y891) (M_stratagemlaw26_RegressRelevant_L1_E a1 y891) (a1.drop n) n v896 := by
  intro k n v896
  refine rg_of (L := fun k i (p : ((Bool))) => match p with | v896 => M_stratagemlaw26_RegressRelevant_L1 a1 y891 k v896 i) hl (fun k n p y hy hn => ?_) (fun k p => ?_) k n v896
  · have h1 := lt_some hy
    have h2 := w64s hn
    first | (simp only [M_stratagemlaw26_RegressRelevant_L1, M_stratagemlaw26_RegressRelevant_L1_B, List.length_map, decide_lt h1, sel, ix_at hy, ixv, h2]; done) | (simp only [List.length_map] at h1 hy; simp only [M_stratagemlaw26_RegressRelevant_L1, M_stratagemlaw26_RegressRelevant_L1_B, List.length_map, decide_lt h1, sel, ix_at hy, ixv, h2]; done)
  · simp only [M_stratagemlaw26_RegressRelevant_L1, M_stratagemlaw26_RegressRelevant_L1_E, List.length_map, decide_ge, sel]
theorem M_stratagemlaw26_RegressRelevant_L1_eq (a1 : List Fact) (y891 : GEffect) (v896 : Bool) (hl : a1.length < 9223372036854775807) : M_stratagemlaw26_RegressRelevant_L1 a1 y891 (((a1.map cF).length : Int).toNat + 1) v896 0 = Rg (M_stratagemlaw26_RegressRelevant_L1_B a1 y891) (M_stratagemlaw26_RegressRelevant_L1_E a1 y891) a1 0 v896 := by
  have h := M_stratagemlaw26_RegressRelevant_L1_rg a1 y891 hl (a1.length + 1) 0 v896 (Nat.zero_le _) (by omega)
  rw [List.length_map, Int.toNat_natCast]
  exact h
def M_stratagemlaw26_RegressRelevant_L2_B (a1 : List Fact) (_ : GOp) (_y891 : GEffect) (_ : Int) : ((Bool)) → (((Bool)) → Option (Bool)) → Option (Bool) := fun v877 rc => ob1 (ixv _y891 (fun y891 =>
        M_stratagemlaw26_RegressRelevant_L1 a1 y891 ((((a1.map cF).length : Int)).toNat + 1) v877 0) : Option (Bool))
       (fun v889 => rc (v889))
def M_stratagemlaw26_RegressRelevant_L2_E (_ : List Fact) (_ : GOp) : ((Bool)) → Option (Bool) := fun v877 => some v877
theorem M_stratagemlaw26_RegressRelevant_L2_rg (a1 : List Fact) (y767 : GOp) (hl : y767.Effs.length < 9223372036854775807) : ∀ (k n : Nat) (v877 : Bool), n ≤ y767.Effs.length → y767.Effs.length < k + n → M_stratagemlaw26_RegressRelevant_L2 a1 y767 k v877 (n : Int) = Rg (M_stratagemlaw26_RegressRelevant_L2_B a1 y767) (M_stratagemlaw26_RegressRelevant_L2_E a1 y767) (y767.Effs.drop n) n v877 := by
  intro k n v877
  refine rg_of (L := fun k i (p : ((Bool))) => match p with | v877 => M_stratagemlaw26_RegressRelevant_L2 a1 y767 k v877 i) hl (fun k n p y hy hn => ?_) (fun k p => ?_) k n v877
  · have h1 := lt_some hy
    have h2 := w64s hn
    first | (simp only [M_stratagemlaw26_RegressRelevant_L2, M_stratagemlaw26_RegressRelevant_L2_B, List.length_map, decide_lt h1, sel, ix_at hy, ixv, h2]; done) | (simp only [List.length_map] at h1 hy; simp only [M_stratagemlaw26_RegressRelevant_L2, M_stratagemlaw26_RegressRelevant_L2_B, List.length_map, decide_lt h1, sel, ix_at hy, ixv, h2]; done)
  · simp only [M_stratagemlaw26_RegressRelevant_L2, M_stratagemlaw26_RegressRelevant_L2_E, List.length_map, decide_ge, sel]
theorem M_stratagemlaw26_RegressRelevant_L2_eq (a1 : List Fact) (y767 : GOp) (v877 : Bool) (hl : y767.Effs.length < 9223372036854775807) : M_stratagemlaw26_RegressRelevant_L2 a1 y767 (((y767.Effs.map cGEffect).length : Int).toNat + 1) v877 0 = Rg (M_stratagemlaw26_RegressRelevant_L2_B a1 y767) (M_stratagemlaw26_RegressRelevant_L2_E a1 y767) y767.Effs 0 v877 := by
  have h := M_stratagemlaw26_RegressRelevant_L2_rg a1 y767 hl (y767.Effs.length + 1) 0 v877 (Nat.zero_le _) (by omega)
  rw [List.length_map, Int.toNat_natCast]
  exact h
def M_stratagemlaw26_RegressRelevant_L3_B (a1 : List Fact) (_ : Int) (_ : List (List Fact)) (_y912 : List Fact) (_ : Int) : Unit → (Unit → Option (Int ⊕ Bool)) → Option (Int ⊕ Bool) := fun _ rc => ixv _y912 (fun y912 =>
       ob1 (M_stratagemref26_Contains y912 a1) (fun z913 =>
        sel (!z913)
         (some (.inr false))
         (rc ())))
def M_stratagemlaw26_RegressRelevant_L3_E (_ : List Fact) (v614 : Int) (_ : List (List Fact)) : Unit → Option (Int ⊕ Bool) := fun _ => some (.inl v614)
theorem M_stratagemlaw26_RegressRelevant_L3_rg (a1 : List Fact) (v614 : Int) (z901 : List (List Fact)) (hl : z901.length < 9223372036854775807) : ∀ (k n : Nat) , n ≤ z901.length → z901.length < k + n → M_stratagemlaw26_RegressRelevant_L3 a1 v614 z901 k (n : Int) = Rg (M_stratagemlaw26_RegressRelevant_L3_B a1 v614 z901) (M_stratagemlaw26_RegressRelevant_L3_E a1 v614 z901) (z901.drop n) n () := by
  intro k n 
  refine rg_of (L := fun k i (p : Unit) => M_stratagemlaw26_RegressRelevant_L3 a1 v614 z901 k i) hl (fun k n p y hy hn => ?_) (fun k p => ?_) k n ()
  · have h1 := lt_some hy
    have h2 := w64s hn
    first | (simp only [M_stratagemlaw26_RegressRelevant_L3, M_stratagemlaw26_RegressRelevant_L3_B, List.length_map, decide_lt h1, sel, ix_at hy, ixv, h2]; done) | (simp only [List.length_map] at h1 hy; simp only [M_stratagemlaw26_RegressRelevant_L3, M_stratagemlaw26_RegressRelevant_L3_B, List.length_map, decide_lt h1, sel, ix_at hy, ixv, h2]; done)
  · simp only [M_stratagemlaw26_RegressRelevant_L3, M_stratagemlaw26_RegressRelevant_L3_E, List.length_map, decide_ge, sel]
theorem M_stratagemlaw26_RegressRelevant_L3_eq (a1 : List Fact) (v614 : Int) (z901 : List (List Fact))  (hl : z901.length < 9223372036854775807) : M_stratagemlaw26_RegressRelevant_L3 a1 v614 z901 (((z901.map cL_cF).length : Int).toNat + 1) 0 = Rg (M_stratagemlaw26_RegressRelevant_L3_B a1 v614 z901) (M_stratagemlaw26_RegressRelevant_L3_E a1 v614 z901) z901 0 () := by
  have h := M_stratagemlaw26_RegressRelevant_L3_rg a1 v614 z901 hl (z901.length + 1) 0  (Nat.zero_le _) (by omega)
  rw [List.length_map, Int.toNat_natCast]
  exact h
def M_stratagemlaw26_RegressRelevant_L4_B (a0 : GTask) (a1 : List Fact) (g : Nat) (z15 : List Int) (_y767 : GOp) (v615 : Int) : ((Int)) → (((Int)) → Option (Bool)) → Option (Bool) := fun v614 rc => ob1 (ixv _y767 (fun y767 =>
        ob1 (M_stratagemlaw26_RegressRelevant_L2 a1 y767 ((((y767.Effs.map cGEffect).length : Int)).toNat + 1) false 0 : Option (Bool))
         (fun v833 => sel v833
            (sel (decide (v614 ≥ ((z15.map cI).length : Int)))
              (some (.inr false))
              (ix z15 v614 (fun y900 =>
                sel (y900 != v615)
                 (some (.inr false))
                 (some (.inl (IntKind.i64.wrap (v614 + 1)))))))
            (ob2 (M_regress_Regress g a0 v615 a1) (fun z901 z902 =>
              ob1 (M_stratagembase_Is z902 5) (fun z903 =>
               sel z903
                (some (.inl v614))
                (erM z902
                  (M_stratagemlaw26_RegressRelevant_L3 a1 v614 z901 ((((z901.map cL_cF).length : Int)).toNat + 1) 0)
                  (fun _ => some (.inr false)))))))) : Option (Int ⊕ Bool))
       (osum
       (fun v764 => rc (v764))
       (fun r765 => some r765))
def M_stratagemlaw26_RegressRelevant_L4_E (_ : GTask) (_ : List Fact) (_ : Nat) (z15 : List Int) : ((Int)) → Option (Bool) := fun v614 => some (v614 == ((z15.map cI).length : Int))
theorem M_stratagemlaw26_RegressRelevant_L4_rg (a0 : GTask) (a1 : List Fact) (g : Nat) (z15 : List Int) (hl : a0.Ops.length < 9223372036854775807) : ∀ (k n : Nat) (v614 : Int), n ≤ a0.Ops.length → a0.Ops.length < k + n → M_stratagemlaw26_RegressRelevant_L4 a0 a1 g z15 k v614 (n : Int) = Rg (M_stratagemlaw26_RegressRelevant_L4_B a0 a1 g z15) (M_stratagemlaw26_RegressRelevant_L4_E a0 a1 g z15) (a0.Ops.drop n) n v614 := by
  intro k n v614
  refine rg_of (L := fun k i (p : ((Int))) => match p with | v614 => M_stratagemlaw26_RegressRelevant_L4 a0 a1 g z15 k v614 i) hl (fun k n p y hy hn => ?_) (fun k p => ?_) k n v614
  · have h1 := lt_some hy
    have h2 := w64s hn
    first | (simp only [M_stratagemlaw26_RegressRelevant_L4, M_stratagemlaw26_RegressRelevant_L4_B, List.length_map, decide_lt h1, sel, ix_at hy, ixv, h2]; done) | (simp only [List.length_map] at h1 hy; simp only [M_stratagemlaw26_RegressRelevant_L4, M_stratagemlaw26_RegressRelevant_L4_B, List.length_map, decide_lt h1, sel, ix_at hy, ixv, h2]; done)
  · simp only [M_stratagemlaw26_RegressRelevant_L4, M_stratagemlaw26_RegressRelevant_L4_E, List.length_map, decide_ge, sel]
theorem M_stratagemlaw26_RegressRelevant_L4_eq (a0 : GTask) (a1 : List Fact) (g : Nat) (z15 : List Int) (v614 : Int) (hl : a0.Ops.length < 9223372036854775807) : M_stratagemlaw26_RegressRelevant_L4 a0 a1 g z15 (((a0.Ops.map cGOp).length : Int).toNat + 1) v614 0 = Rg (M_stratagemlaw26_RegressRelevant_L4_B a0 a1 g z15) (M_stratagemlaw26_RegressRelevant_L4_E a0 a1 g z15) a0.Ops 0 v614 := by
  have h := M_stratagemlaw26_RegressRelevant_L4_rg a0 a1 g z15 hl (a0.Ops.length + 1) 0 v614 (Nat.zero_le _) (by omega)
  rw [List.length_map, Int.toNat_natCast]
  exact h
end Go.Proofs.Yteapjpgabdegnaa.Am
/- Plain law: RegressRelevant. -/
namespace Go.Proofs.Yteapjpgabdegnaa.Am
open Go.RowKit
theorem joinLL_sub {a b : List (List Fact)} {z : List Fact} (h : z ∈ joinLL a b) : ∃ x ∈ a, ∃ y ∈ b, ∀ w, w ∈ z ↔ w ∈ x ∨ w ∈ y := by
  obtain ⟨x, hx, y, hy, hj⟩ := (joinLL_mem z a b).1 h
  exact ⟨x, hx, y, hy, (joinO_some hj).2⟩
theorem quietG_has {vars : List Int} {f : Fact} {w : Fact} : ∀ {es : List GEffect} {l j : List (List Fact)}, quietG vars f es l = some j → (∀ x ∈ l, w ∈ x) → ∀ z ∈ j, w ∈ z
  | [], l, j, h, hl => by rw [quietG] at h; obtain rfl := Option.some.inj h; exact hl
  | e :: r, l, j, h, hl => by
    rw [quietG] at h
    split at h
    · exact quietG_has h hl
    · cases hq : capO (silF vars e.When) with
      | none => rw [hq] at h; cases h
      | some q =>
        rw [hq, Option.bind_some] at h
        cases hj : capO (joinLL l q) with
        | none => rw [hj] at h; cases h
        | some m =>
          rw [hj, Option.bind_some] at h
          obtain ⟨rfl, -⟩ := capO_some hj
          refine quietG_has h fun z hz => ?_
          obtain ⟨x, hx, y, -, hw⟩ := joinLL_sub hz
          exact (hw w).2 (Or.inl (hl x hx))
theorem casesG_none_of {vars : List Int} {f : Fact} : ∀ {es : List GEffect}, (∀ e ∈ es, e.Val ≠ f.2) → casesG vars f es = some []
  | [], _ => rfl
  | e :: r, h => by rw [casesG, casesG_none_of (fun u hu => h u (List.mem_cons_of_mem _ hu)), Option.bind_some, if_neg (h e (List.mem_cons_self ..))]
theorem casesO_has {vars : List Int} {o : GOp} {f : Fact} {c : List (List Fact)} (hno : ∀ e ∈ o.Effs, (e.Var, e.Val) ≠ f) (h : casesO vars o f = some c) : ∀ z ∈ c, f ∈ z := by
  unfold casesO at h
  have hv : ∀ e ∈ o.Effs.filter (fun e => e.Var == f.1), e.Val ≠ f.2 := fun e he hv => by
    obtain ⟨h1, h2⟩ := List.mem_filter.1 he
    exact hno e h1 (Prod.ext (beq_iff_eq.1 h2) hv)
  generalize o.Effs.filter (fun e => e.Var == f.1) = es at h hv
  rw [casesE, casesG_none_of hv, Option.bind_some] at h
  cases hq : quietG vars f es [[f]] with
  | none => rw [hq] at h; cases h
  | some q =>
    rw [hq, Option.map_some, Option.bind_some] at h
    obtain ⟨rfl, -⟩ := capO_some h
    intro z hz
    rcases (foldN_mem z q []).1 hz with h | h
    · cases h
    · exact quietG_has hq (fun x hx => by rw [List.mem_singleton.1 hx]; exact List.mem_singleton.2 rfl) z h
theorem regG_has {vars : List Int} {o : GOp} : ∀ {p : List Fact} {l j : List (List Fact)}, (∀ f ∈ p, ∀ e ∈ o.Effs, (e.Var, e.Val) ≠ f) → regG vars o p l = some j → ∀ z ∈ j, (∃ x ∈ l, ∀ w ∈ x, w ∈ z) ∧ ∀ f ∈ p, f ∈ z
  | [], l, j, _, h, z, hz => by rw [regG] at h; obtain rfl := Option.some.inj h; exact ⟨⟨z, hz, fun _ h => h⟩, fun _ h => nomatch h⟩
  | f :: r, l, j, hno, h, z, hz => by
    rw [regG] at h
    cases hc : casesO vars o f with
    | none => rw [hc] at h; cases h
    | some c =>
      rw [hc, Option.bind_some] at h
      cases hj : capO (joinLL l c) with
      | none => rw [hj] at h; cases h
      | some m =>
        rw [hj, Option.bind_some] at h
        obtain ⟨rfl, -⟩ := capO_some hj
        obtain ⟨⟨x, hx, hxz⟩, hr⟩ := regG_has (fun u hu => hno u (List.mem_cons_of_mem _ hu)) h z hz
        obtain ⟨a, ha, b, hb, hab⟩ := joinLL_sub hx
        refine ⟨⟨a, ha, fun w hw => hxz w ((hab w).2 (Or.inl hw))⟩, fun u hu => ?_⟩
        rcases List.mem_cons.1 hu with rfl | hu
        · exact hxz u ((hab u).2 (Or.inr (casesO_has (hno u (List.mem_cons_self ..)) hc b hb)))
        · exact hr u hu
theorem rel1 (p : List Fact) (e : GEffect) : ∀ (r : List Fact) (i : Int) (v : Bool), Rg (M_stratagemlaw26_RegressRelevant_L1_B p e) (M_stratagemlaw26_RegressRelevant_L1_E p e) r i v = some (v || decide ((e.Var, e.Val) ∈ r))
  | [], i, v => by rw [Rg, M_stratagemlaw26_RegressRelevant_L1_E]; simp
  | y :: r, i, v => by
    rw [Rg, M_stratagemlaw26_RegressRelevant_L1_B, ixv]
    cases v with
    | true => rw [sel_tt, rel1 p e r, Bool.true_or, Bool.true_or]
    | false =>
      have hb := fact_beq (e.Var, e.Val) y
      by_cases h1 : e.Var = y.1
      · rw [sel_ff, show (e.Var == y.1) = true from by simp [h1], sel_tt, rel1 p e r, Bool.false_or]
        rw [show (e.Var == y.1) = true from by simp [h1], Bool.true_and] at hb
        congr 1
        rw [hb, Bool.eq_iff_iff, Bool.or_eq_true, decide_eq_true_iff, decide_eq_true_iff, decide_eq_true_iff, List.mem_cons]
      · rw [sel_ff, show (e.Var == y.1) = false from by simp [h1], sel_ff, rel1 p e r, Bool.false_or, Bool.false_or]
        congr 1
        rw [Bool.eq_iff_iff, decide_eq_true_iff, decide_eq_true_iff, List.mem_cons]
        constructor
        · exact Or.inr
        · rintro (h | h)
          · exact absurd (congrArg Prod.fst h) h1
          · exact h
theorem rel2 (p : List Fact) (hp : Sh p) (o : GOp) : ∀ (r : List GEffect) (i : Int) (v : Bool), Rg (M_stratagemlaw26_RegressRelevant_L2_B p o) (M_stratagemlaw26_RegressRelevant_L2_E p o) r i v = some (v || r.any fun e => decide ((e.Var, e.Val) ∈ p))
  | [], i, v => by rw [Rg, M_stratagemlaw26_RegressRelevant_L2_E]; simp
  | e :: r, i, v => by
    rw [Rg, M_stratagemlaw26_RegressRelevant_L2_B, ixv, M_stratagemlaw26_RegressRelevant_L1_eq p e v hp.lt, rel1, ob1_some, rel2 p hp o r, List.any_cons, Bool.or_assoc]
theorem relO_not {p : List Fact} {o : GOp} (h : relO p o = false) : ∀ f ∈ p, ∀ e ∈ o.Effs, (e.Var, e.Val) ≠ f := fun f hf e he hh => by
  unfold relO at h
  rw [List.any_eq_false] at h
  have := h e he
  rw [hh, decide_eq_true hf] at this
  exact this rfl
theorem rel4 (g : Nat) (hg : 70 ≤ g) (t : GTask) (ht : ShT t) (hgood : goodF t = true) (hv : t.Vars.length ≤ 64) (p : List Fact) (hp : Sh p) (hf : propF t.Vars (-1) p = true) (L : List Int) (hL : L.length ≤ 4096) : ∀ (r : List GOp) (n v : Nat), t.Ops.drop n = r → v ≤ L.length → L.drop v = relG p r n →
    Rg (M_stratagemlaw26_RegressRelevant_L4_B t p g L) (M_stratagemlaw26_RegressRelevant_L4_E t p g L) r n (v : Int) = some true
  | [], n, v, h, hvl, hr => by
    rw [relG] at hr
    have := congrArg List.length hr
    simp only [List.length_drop, List.length_nil] at this
    rw [Rg, M_stratagemlaw26_RegressRelevant_L4_E, List.length_map, show v = L.length from by omega]; simp
  | o :: r, n, v, h, hvl, hr => by
    obtain ⟨ho, hd, hlt⟩ := drop_cons h
    have hom := List.mem_of_getElem? ho
    have hoe : o.Effs.length < 9223372036854775807 := (ht.op o hom).effs.lt
    rw [Rg, M_stratagemlaw26_RegressRelevant_L4_B, ixv, M_stratagemlaw26_RegressRelevant_L2_eq p o false hoe, rel2 p hp o, ob1_some, Bool.false_or]
    show ob1 (sel (relO p o) _ _) _ = _
    rw [relG] at hr
    cases hrel : relO p o with
    | true =>
      rw [hrel, if_pos rfl, List.singleton_append] at hr
      obtain ⟨h1, h2, h3⟩ := drop_cons hr
      rw [sel_tt, sel_dec, List.length_map, if_neg (by omega), ix_at h1, show ((n : Int) != (n : Int)) = false from by simp, sel_ff, w64s (by omega), ob1_some, osum_inl]
      exact rel4 g hg t ht hgood hv p hp hf L hL r (n + 1) (v + 1) hd h3 h2
    | false =>
      rw [hrel, if_neg (by decide), List.nil_append] at hr
      have ih := rel4 g hg t ht hgood hv p hp hf L hL r (n + 1) v hd hvl hr
      rw [sel_ff, regress_eq t ht hgood p hf g hg (n : Int) o (by omega) (by rw [Int.toNat_natCast]; exact ho)]
      cases hl : regO t.Vars o p with
      | none => rw [resR, ob2_some, is_no, ob1_some]; exact ih
      | some l =>
        have hreg := regO_prop hgood hf hom hl
        have hll := hreg.len
        rw [resR, ob2_some, is_nil, ob1_some, sel_ff, erM_n, M_stratagemlaw26_RegressRelevant_L3_eq p v l (by omega), rg_all (p := fun _ => true) (c := some (.inr false))]
        · rw [if_pos (by simp), M_stratagemlaw26_RegressRelevant_L3_E, ob1_some, osum_inl]; exact ih
        · intro x hx i rc
          have hs : subF p x = true := by
            unfold regO at hl
            cases hr2 : regG t.Vars o p [o.Pre] with
            | none => rw [hr2] at hl; cases hl
            | some m =>
              rw [hr2, Option.map_some] at hl
              obtain rfl := Option.some.inj hl
              rw [sortLL_mem, minF, List.mem_filter] at hx
              exact subF_iff.2 (regG_has (relO_not hrel) hr2 x hx.1).2
          rw [M_stratagemlaw26_RegressRelevant_L3_B, ixv, rcontains_eq x p (prop_sh hv (hreg.prop x hx)) hp, hs, ob1_some, Bool.not_true, sel_ff, if_pos rfl]
theorem relG_len (p : List Fact) : ∀ (r : List GOp) (i : Int), (relG p r i).length ≤ r.length
  | [], _ => Nat.le_refl _
  | o :: r, i => by
    have := relG_len p r (i + 1)
    rw [relG, List.length_append, List.length_cons]
    split <;> simp <;> omega
theorem relevant_true (g : Nat) (hg : 70 ≤ g) (t : GTask) (ht : ShT t) (p : List Fact) (hp : Sh p) : M_stratagemlaw26_RegressRelevant g t p = some true := by
  have aw := awake_eq g hg
  rw [M_stratagemlaw26_RegressRelevant, small_eq t ht, ob1_some, aw]
  cases hs : smallF t with
  | false => rfl
  | true =>
    obtain ⟨hgood, hv, ho⟩ := small_good hs
    rw [Bool.not_true, sel_ff, proper_eq _ _ hp, ob1_some]
    cases hf : propF t.Vars (-1) p with
    | false => rfl
    | true =>
      have hl := relG_len p t.Ops 0
      have h4 := rel4 g hg t ht hgood (by omega) p hp hf (relG p t.Ops 0) (by omega) t.Ops 0 0 rfl (Nat.zero_le _) rfl
      rw [show ((0 : Nat) : Int) = 0 from rfl] at h4
      rw [Bool.not_true, sel_ff, ob1_some, Bool.not_true, sel_ff, ob1_some, osum_inl, relevant_eq t ht hgood p hp hf, ob2_some, erM_n, M_stratagemlaw26_RegressRelevant_L4_eq t p g _ 0 ht.ops.lt, h4]
end Go.Proofs.Yteapjpgabdegnaa.Am
/- Opening arguments: slices of numbers, of facts, of nogoods, a certificate. -/
namespace Go.Proofs.Yteapjpgabdegnaa
open Go.RowKit Go.ChangeShapes Go.WideShapes Go.Deep Go.Joins

def I64 (x : Int) : Prop := -9223372036854775808 ≤ x ∧ x ≤ 9223372036854775807
theorem I64.of {x : Int} (h : (Lit.int .i64 x).wf = true) : I64 x := by
  have := bounds_i64 h
  exact this

section
variable {H : Type} {enc : TypeId × Value → H} {P : Program} {w : World} {base : Nat} {spare : Nat → Bool} {held : Bool}

/-- within the form's reach -/
def Sized (P : Program) (t : TypeId) (d : DataW H) : Prop := ∀ n ∈ d.weights P t, n ≤ reachBytes
theorem sized_arg {ts : List TypeId} {ds : List (DataW H)} (h : (DataW.weightsEach P ts ds).all (· ≤ reachBytes) = true) {j : Nat} {t : TypeId} {d : DataW H} (ht : ts[j]? = some t) (hd : ds[j]? = some d) : Sized P t d :=
  fun n hn => of_decide_eq_true (List.all_eq_true.1 h n (DataW.weights_mem_each ht hd n hn))
theorem sized_field {t : TypeId} {fs : Array Field} {parts : List (DataW H)} (h : Sized P t (.agg parts)) (hu : P.underlying t = some (.struct fs)) {j : Nat} {f : Field} {d : DataW H} (hf : fs[j]? = some f) (hd : parts[j]? = some d) : Sized P f.type d :=
  fun n hn => h n (by
    simp only [DataW.weights, hu]
    exact DataW.weights_mem_each (j := j) (by simp [List.getElem?_map, hf]) hd n hn)
theorem weightsAll_mem {e : TypeId} : ∀ {l : List (DataW H)} {d : DataW H}, d ∈ l → ∀ n ∈ d.weights P e, n ∈ DataW.weightsAll P e l
  | x :: l, d, hd, n, hn => by
    simp only [DataW.weightsAll, List.mem_append]
    rcases List.mem_cons.1 hd with rfl | h
    · exact Or.inl hn
    · exact Or.inr (weightsAll_mem h n hn)
theorem sized_elem {t e : TypeId} {elems sp : List (DataW H)} (h : Sized P t (.slice elems sp)) (hu : P.underlying t = some (.slice e)) {d : DataW H} (hd : d ∈ elems) : Sized P e d :=
  fun n hn => h n (by
    simp only [DataW.weights, hu, List.mem_cons, List.mem_append]
    exact Or.inr (Or.inl (weightsAll_mem hd n hn)))
theorem sized_len {t e : TypeId} {elems sp : List (DataW H)} (h : Sized P t (.slice elems sp)) (hu : P.underlying t = some (.slice e)) : elems.length * P.bytesOf e ≤ 140737488355328 := by
  have h1 := h ((elems.length + sp.length) * P.bytesOf e) (by simp [DataW.weights, hu])
  have h2 : elems.length * P.bytesOf e ≤ (elems.length + sp.length) * P.bytesOf e := Nat.mul_le_mul_right _ (by omega)
  have h3 : reachBytes ≤ 140737488355328 := by decide
  omega

theorem open_slice_fields {t e : TypeId} {fs : Array Field} {fuel : Nat} {cs : List Value} {x : DataW H × List MemPlace} (ht : P.underlying t = some (.slice e)) (he : P.underlying e = some (.struct fs))
    (hone : oneCellFields P fs = true) (hC : P.cellsOf e = fs.size) (h : DataW.trod enc P w base spare held fuel t cs = some x) :
    (cs = [.slice none 0 0] ∧ x = (.nil, [])) ∨
    ∃ (a : Addr) (len cap m : Nat) (D : Nat → DataW H) (Pl : Nat → List MemPlace), cs = [.slice (some a) len cap] ∧ base ≤ a.block ∧ len ≤ cap ∧ cap ≤ maxLen ∧ m = (if spare a.block then cap else len) ∧
      x = (.slice ((List.range len).map D) ((List.range (m - len)).map fun j => D (len + j)), MemPlace.row a (m * fs.size) ++ (List.range m).flatMap Pl) ∧
      ∀ i, i < m → ∃ (ys : List (DataW H × List MemPlace)) (n : Nat), D i = .agg (ys.map (·.1)) ∧ Pl i = ys.flatMap (·.2) ∧ ys.length = fs.size ∧
        ∀ (j : Nat) (f : Field), fs[j]? = some f → ∃ (v : Value) (y : DataW H × List MemPlace), w.cell? (a.add (i * fs.size + j)) = some v ∧ ys[j]? = some y ∧ DataW.trod enc P w base spare held n f.type [v] = some y := by
  rcases open_slice ht h with h0 | ⟨a, len, cap, m, n, D, Pl, hcs, hb, hl, hm, hmm, hx, hi⟩
  · exact .inl h0
  · refine .inr ⟨a, len, cap, m, D, Pl, hcs, hb, hl, hm, hmm, by rw [hC] at hx; exact hx, fun i him => ?_⟩
    obtain ⟨cs', hc, ht'⟩ := hi i him
    rw [hC] at hc
    obtain ⟨ys, n', hn', hy, hlen, hyl, hf⟩ := DataW.trod_struct he ht'
    obtain ⟨_, hcl, hat⟩ := World.cells?_some hc
    simp only [Prod.mk.injEq] at hy
    refine ⟨ys, n', hy.1, hy.2, hyl, fun j f hj => ?_⟩
    obtain ⟨ho, hk⟩ := hone_of hone j f hj
    have hjl : j < fs.size := (Array.getElem?_eq_some_iff.1 hj).1
    have hcell := hat j hjl
    have hv : cs'[j]? = some (cs'[j]'(by omega)) := List.getElem?_eq_getElem (by omega)
    have h1 := hf j f hj
    rw [ho, hk] at h1
    have hone' : (cs'.drop j).take 1 = [cs'[j]'(by omega)] := by
      rw [List.drop_eq_getElem_cons (by omega)]
      rfl
    rw [hone'] at h1
    have hys : ys[j]? = some (ys[j]'(by omega)) := List.getElem?_eq_getElem (by omega)
    refine ⟨_, _, ?_, hys, h1.trans hys⟩
    rw [← Go.Deep.add_add, hcell, hv]
end

theorem spot_of_cell {w : World} {p : Addr} {v : Value} (h : w.cell? p = some v) : p.spot = none := by
  unfold World.cell? at h
  split at h
  · split at h
    · cases h
    · rename_i hs; simpa using hs
  · cases h
theorem addr_of_cell {w : World} {a : Addr} {k : Nat} {v : Value} (h0 : ∃ u, w.cell? (a.add 0) = some u) (h : w.cell? (a.add k) = some v) : a = ⟨a.block, a.off, none⟩ ∧ w.cell? ⟨a.block, a.off + k, none⟩ = some v := by
  obtain ⟨u, hu⟩ := h0
  have hs := spot_of_cell hu
  obtain ⟨b, off, sp⟩ := a
  simp [Addr.add] at hs
  subst hs
  refine ⟨rfl, ?_⟩
  rw [← h]
  congr 1
  unfold Addr.add
  split
  · subst k; rfl
  · rfl

theorem list_of {α : Type} (n : Nat) (R : Nat → α → Prop) (h : ∀ i, i < n → ∃ x, R i x) : ∃ l : List α, l.length = n ∧ ∀ k x, l[k]? = some x → R k x := by
  induction n with
  | zero => exact ⟨[], rfl, fun k x hx => by simp at hx⟩
  | succ n ih =>
    obtain ⟨l, hl, hr⟩ := ih (fun i hi => h i (by omega))
    obtain ⟨x, hx⟩ := h n (by omega)
    refine ⟨l ++ [x], by simp [hl], fun k y hy => ?_⟩
    by_cases hk : k < n
    · rw [List.getElem?_append_left (by omega)] at hy
      exact hr k y hy
    · rw [List.getElem?_append_right (by omega)] at hy
      have hk' : k - l.length = 0 := by
        have := (List.getElem?_eq_some_iff.1 hy).1
        simp at this
        omega
      rw [hk'] at hy
      simp at hy
      subst hy
      obtain rfl : k = n := by omega
      exact hx

variable {H : Type} {enc : TypeId × Value → H} {w : World} {base : Nat} {spare : Nat → Bool} {held : Bool}
theorem open_intsAt {fuel : Nat} {v : Value} {x : DataW H × List MemPlace} (h : DataW.trod enc Try.prog w base spare held fuel 22 [v] = some x) (hs : Sized Try.prog 22 x.1) : ∃ l, IntsAt w v l ∧ ∀ z ∈ l, I64 z := by
  rcases open_slice Try.underlying22 h with ⟨hv, _⟩ | ⟨a, len, cap, m, n, D, Pl, hcs, hb, hl, hm, hmm, hx, hi⟩
  · injection hv with hv
    subst hv
    exact ⟨[], ⟨none, 0, rfl, by simp, fun k x hx => by simp at hx⟩, fun z hz => by cases hz⟩
  · injection hcs with hcs
    subst hcs
    subst hx
    have hlen := sized_len hs Try.underlying22
    have hby : Try.prog.bytesOf 3 = 8 := by kernel_rfl
    have hcl : Try.prog.cellsOf 3 = 1 := by kernel_rfl
    simp only [List.length_map, List.length_range, hby] at hlen
    have hml : len ≤ m := by rw [hmm]; split <;> omega
    have hcell : ∀ i, i < len → ∃ z, w.cell? (a.add i) = some (.int .i64 z) ∧ I64 z := by
      intro i hi'
      obtain ⟨cs', hc, ht'⟩ := hi i (by omega)
      rw [hcl] at hc
      obtain ⟨z, hz, _, wz⟩ := DataW.trod_int Try.underlying3 ht'
      obtain ⟨_, hcl', hat⟩ := World.cells?_some hc
      subst hz
      have := hat 0 (by omega)
      simp [Go.Deep.add_add] at this
      exact ⟨z, this, I64.of wz⟩
    obtain ⟨l, hl', hat⟩ := list_of len (fun i z => w.cell? (a.add i) = some (.int .i64 z) ∧ I64 z) hcell
    refine ⟨l, ⟨some a, cap, by rw [hl'], by rw [hl']; exact hlen, fun k x hx => ?_⟩, fun z hz => ?_⟩
    · obtain ⟨z0, h0, _⟩ := hcell 0 (by have := (List.getElem?_eq_some_iff.1 hx).1; omega)
      obtain ⟨e1, e2⟩ := addr_of_cell ⟨_, h0⟩ (hat k x hx).1
      exact ⟨a.block, a.off, by rw [← e1], e2⟩
    · obtain ⟨k, hk⟩ := List.getElem?_of_mem hz
      exact (hat k z hk).2
theorem open_factsAt {fuel : Nat} {v : Value} {x : DataW H × List MemPlace} (h : DataW.trod enc Try.prog w base spare held fuel 23 [v] = some x) (hs : Sized Try.prog 23 x.1) : ∃ l, FactsAt w v l ∧ ∀ z ∈ l, I64 z.1 ∧ I64 z.2 := by
  rcases open_slice_fields Try.underlying23 Try.underlying40 (by kernel_rfl) (by kernel_rfl) h with ⟨hv, _⟩ | ⟨a, len, cap, m, D, Pl, hcs, hb, hl, hm, hmm, hx, hi⟩
  · injection hv with hv
    subst hv
    exact ⟨[], ⟨none, 0, rfl, by simp, fun k x hx => by simp at hx⟩, fun z hz => by cases hz⟩
  · injection hcs with hcs
    subst hcs
    subst hx
    have hlen := sized_len hs Try.underlying23
    have hby : Try.prog.bytesOf 40 = 16 := by kernel_rfl
    simp only [List.length_map, List.length_range, hby] at hlen
    have hml : len ≤ m := by rw [hmm]; split <;> omega
    have hcell : ∀ i, i < len → ∃ z : Fact, (w.cell? (a.add (i * 2 + 0)) = some (.int .i64 z.1) ∧ w.cell? (a.add (i * 2 + 1)) = some (.int .i64 z.2)) ∧ I64 z.1 ∧ I64 z.2 := by
      intro i hi'
      obtain ⟨ys, n', _, _, hyl, hf⟩ := hi i (by omega)
      obtain ⟨v0, y0, c0, _, t0⟩ := hf 0 _ rfl
      obtain ⟨v1, y1, c1, _, t1⟩ := hf 1 _ rfl
      obtain ⟨z0, hz0, _, wz0⟩ := DataW.trod_int Try.underlying3 t0
      obtain ⟨z1, hz1, _, wz1⟩ := DataW.trod_int Try.underlying3 t1
      injection hz0 with hz0
      injection hz1 with hz1
      subst hz0 hz1
      exact ⟨(z0, z1), ⟨c0, c1⟩, I64.of wz0, I64.of wz1⟩
    obtain ⟨l, hl', hat⟩ := list_of len (fun i (z : Fact) => (w.cell? (a.add (i * 2 + 0)) = some (.int .i64 z.1) ∧ w.cell? (a.add (i * 2 + 1)) = some (.int .i64 z.2)) ∧ I64 z.1 ∧ I64 z.2) hcell
    refine ⟨l, ⟨some a, cap, by rw [hl'], by rw [hl']; exact hlen, fun k x hx => ?_⟩, fun z hz => ?_⟩
    · obtain ⟨z0, ⟨h0, _⟩, _⟩ := hcell 0 (by have := (List.getElem?_eq_some_iff.1 hx).1; omega)
      obtain ⟨e1, e2⟩ := addr_of_cell ⟨_, h0⟩ (hat k x hx).1.1
      obtain ⟨_, e3⟩ := addr_of_cell ⟨_, h0⟩ (hat k x hx).1.2
      exact ⟨a.block, a.off, by rw [← e1], e2, e3⟩
    · obtain ⟨k, hk⟩ := List.getElem?_of_mem hz
      exact (hat k z hk).2
end Go.Proofs.Yteapjpgabdegnaa
/- Opening arguments for the abstract machine: readers that compose. -/
namespace Go.Proofs.Yteapjpgabdegnaa.Am
open Go.RowKit Go.ChangeShapes Go.WideShapes Go.Deep Go.Joins

/-- nothing is owned at the start -/
abbrev mZ : MM := mO (fun _ => False)
theorem noZ (b : Nat) : ¬ Owned nov mZ b := fun h => owned_nov.1 h

section
variable {H : Type} {enc : TypeId × Value → H} {P : Program} {w : World} {base : Nat} {spare : Nat → Bool} {held : Bool}
/-- cells that stand for the values -/
def CellsRv (w : World) (es : List AV) (cs : List Value) : Prop := es.length = cs.length ∧ (∀ (j : Nat) (y : AV) (u : Value), es[j]? = some y → cs[j]? = some u → RV w nov mZ y u ∧ u.oneCell' = true) ∧ ∀ y ∈ es, Fr y
/-- data of type t read as an α -/
def Opens (enc : TypeId × Value → H) (P : Program) (w : World) (base : Nat) (spare : Nat → Bool) (held : Bool) (t : TypeId) {α : Type} (en : α → List AV) (R : α → Prop) : Prop :=
  ∀ (fuel : Nat) (cs : List Value) (x : DataW H × List MemPlace), DataW.trod enc P w base spare held fuel t cs = some x → Sized P t x.1 → ∃ a, R a ∧ CellsRv w (en a) cs

theorem cells_one1 {y : AV} {u : Value} (h : RV w nov mZ y u) (h1 : u.oneCell' = true) (hf : Fr y) : CellsRv w [y] [u] := by
  refine ⟨rfl, fun j z v hz hv => ?_, fun z hz => by simp at hz; subst hz; exact hf⟩
  cases j with
  | zero => simp at hz hv; subst hz hv; exact ⟨h, h1⟩
  | succ j => simp at hz
theorem opens_int {t : TypeId} {k : IntKind} (ht : P.underlying t = some (.int k)) : Opens enc P w base spare held t (fun z : Int => [.c (.int k z)]) (fun z => (Lit.int k z).wf = true) := by
  intro fuel cs x h _
  obtain ⟨z, rfl, _, wz⟩ := DataW.trod_int ht h
  exact ⟨z, wz, cells_one1 (.c _) rfl (.c _)⟩
theorem opens_bool {t : TypeId} (ht : P.underlying t = some .bool) : Opens enc P w base spare held t (fun b : Bool => [.c (.bool b)]) (fun _ => True) := by
  intro fuel cs x h _
  obtain ⟨b, rfl, _⟩ := DataW.trod_bool ht h
  exact ⟨b, trivial, cells_one1 (.c _) rfl (.c _)⟩
theorem opens_str {t : TypeId} (ht : P.underlying t = some .string) : Opens enc P w base spare held t (fun s : ByteArray => [.c (.string s)]) (fun s => s.size ≤ maxLen) := by
  intro fuel cs x h _
  obtain ⟨s, rfl, _, hs⟩ := DataW.trod_string ht h
  exact ⟨s, hs, cells_one1 (.c _) rfl (.c _)⟩

theorem opens_slice {t e : TypeId} {α : Type} {en : α → List AV} {R : α → Prop} {sz by_ : Nat} (ht : P.underlying t = some (.slice e)) (hc : P.cellsOf e = sz) (hb : P.bytesOf e = by_) (hby : 0 < by_) (hsz : 0 < sz) (he : Opens enc P w base spare held e en R) :
    Opens enc P w base spare held t (fun l : List α => [.sl sz (l.map en)]) (fun l => l.length * by_ ≤ 140737488355328 ∧ ∀ x ∈ l, R x) := by
  intro fuel cs x h hs
  rcases open_slice ht h with ⟨rfl, _⟩ | ⟨a, len, cap, m, n, D, Pl, rfl, _, hl, hm, hmm, rfl, hi⟩
  · refine ⟨[], ⟨by simp, by simp⟩, cells_one1 ?_ rfl (.sl (fun e he => by cases he))⟩
    exact RV.sl (l := []) (b := 0) (off := 0) (f := fun _ _ => undef) (fun h => absurd rfl h) (Nat.zero_le _) (by simp) (fun k e h => by simp at h) (fun k j e x h => by simp at h) (fun k j e x h => by simp at h) (fun e he => by cases he)
  · have hlen := sized_len hs ht
    rw [hb] at hlen
    simp only [List.length_map, List.length_range] at hlen
    have hml : len ≤ m := by rw [hmm]; split <;> omega
    have hcell : ∀ i, i < len → ∃ z : α, R z ∧ ∃ cs', CellsRv w (en z) cs' ∧ cs'.length = sz ∧ ∀ j, j < sz → w.cell? (a.add (i * sz + j)) = cs'[j]? := by
      intro i hi'
      obtain ⟨cs', hcc, ht'⟩ := hi i (by omega)
      rw [hc] at hcc
      obtain ⟨z, hz, hcr⟩ := he n cs' _ ht' (sized_elem hs ht (List.mem_map.2 ⟨i, by simpa using hi', rfl⟩))
      obtain ⟨_, hcl', hat⟩ := World.cells?_some hcc
      exact ⟨z, hz, cs', hcr, hcl', fun j hj => by rw [← hat j hj, Go.Deep.add_add]⟩
    obtain ⟨l, hl', hat⟩ := list_of len _ hcell
    have hR : ∀ x ∈ l, R x := fun x hx => by
      obtain ⟨k, hk⟩ := List.getElem?_of_mem hx
      exact (hat k x hk).1
    have hfr : FrL (l.map en) := by
      intro e he
      obtain ⟨x, hx, rfl⟩ := List.mem_map.1 he
      obtain ⟨k, hk⟩ := List.getElem?_of_mem hx
      obtain ⟨_, cs', hcr, _⟩ := hat k x hk
      exact hcr.2.2
    refine ⟨l, ⟨by rw [hl']; exact hlen, hR⟩, cells_one1 ?_ rfl (.sl hfr)⟩
    have key : ∀ (k j : Nat) (e : List AV) (y : AV), (l.map en)[k]? = some e → e[j]? = some y → e.length = sz ∧ ∃ u, w.cell? ⟨a.block, a.off + (k * sz + j), none⟩ = some u ∧ u.oneCell' = true ∧ RV w nov mZ y u ∧ a = ⟨a.block, a.off, none⟩ ∧ a.block < w.heap.size := by
      intro k j e y hk hj
      rw [List.getElem?_map] at hk
      cases hx : l[k]? with
      | none => rw [hx] at hk; cases hk
      | some z =>
        rw [hx] at hk
        simp at hk
        subst hk
        obtain ⟨_, cs', ⟨c1, c2, _⟩, c4, c5⟩ := hat k z hx
        have hjl : j < sz := by rw [← c4, ← c1]; exact (List.getElem?_eq_some_iff.1 hj).1
        have hcj := c5 j hjl
        have hget : cs'[j]? = some (cs'[j]'(by omega)) := List.getElem?_eq_getElem _
        rw [hget] at hcj
        obtain ⟨r1, r2⟩ := c2 j y _ hj hget
        have h0 : 0 < len := by have := (List.getElem?_eq_some_iff.1 hx).1; omega
        obtain ⟨_, _, cs0, ⟨_, _, _⟩, d4, d5⟩ := hcell 0 h0
        have hz0 := d5 0 hsz
        rw [List.getElem?_eq_getElem (by omega)] at hz0
        obtain ⟨e1, e2⟩ := addr_of_cell ⟨_, by simpa using hz0⟩ hcj
        exact ⟨by rw [c1, c4], _, e2, r2, r1, e1, lt_of_cell (p := ⟨a.block, a.off + (k * sz + j), none⟩) e2⟩
    have hlen2 : (l.map en).length = len := by simp [hl']
    have := RV.sl (w := w) (vs := nov) (m := mZ) (sz := sz) (l := l.map en) (A := some a) (cap := cap) (b := a.block) (off := a.off) (f := fun k j => (w.cell? ⟨a.block, a.off + (k * sz + j), none⟩).getD undef)
      (fun hne => ?_) (by omega) (by rw [hlen2]; exact Nat.le_trans (Nat.le_mul_of_pos_right _ hby) hlen) (fun k e hk => ?_) (fun k j e y hk hj => ?_) (fun k j e y hk hj => ?_) hfr
    · rw [hlen2] at this
      exact this
    · have h0 : 0 < (l.map en).length := List.length_pos_iff.2 hne
      have hk := List.getElem?_eq_getElem h0
      obtain ⟨x0, hx0, hx0'⟩ : ∃ x0, l[0]? = some x0 ∧ (l.map en)[0] = en x0 := by
        have h1 : 0 < l.length := by simpa using h0
        exact ⟨l[0], List.getElem?_eq_getElem h1, by simp⟩
      obtain ⟨_, cs', ⟨c1, _, _⟩, c4, _⟩ := hat 0 x0 hx0
      have hel : 0 < ((l.map en)[0]).length := by rw [hx0', c1, c4]; exact hsz
      obtain ⟨_, _, _, _, _, q1, q2⟩ := key 0 0 _ _ hk (List.getElem?_eq_getElem hel)
      exact ⟨by rw [← q1], noZ _, q2⟩
    · rw [List.getElem?_map] at hk
      cases hx : l[k]? with
      | none => rw [hx] at hk; cases hk
      | some z =>
        rw [hx] at hk
        simp at hk
        subst hk
        obtain ⟨_, cs', ⟨c1, _, _⟩, c4, _⟩ := hat k z hx
        rw [c1, c4]
    · obtain ⟨_, u, q1, q2, _⟩ := key k j e y hk hj
      rw [q1]
      exact ⟨rfl, q2⟩
    · obtain ⟨_, u, q1, _, q3, _⟩ := key k j e y hk hj
      rw [q1]
      exact q3

/-- fields from one on -/
def OpensF (enc : TypeId × Value → H) (P : Program) (w : World) (base : Nat) (spare : Nat → Bool) (held : Bool) (fs : List Field) (off tot : Nat) {α : Type} (en : α → List AV) (R : α → Prop) : Prop :=
  ∀ (fuel : Nat) (cs : List Value) (xs : List (DataW H × List MemPlace)), cs.length = tot → xs.length = fs.length → (∀ (i : Nat) (f : Field), fs[i]? = some f → DataW.trod enc P w base spare held fuel f.type ((cs.drop f.offset).take (P.cellsOf f.type)) = xs[i]?) →
    (∀ (i : Nat) (f : Field) (x : DataW H × List MemPlace), fs[i]? = some f → xs[i]? = some x → Sized P f.type x.1) → ∃ a, R a ∧ CellsRv w (en a) (cs.drop off)
theorem cells_append {a b : List AV} {xs ys : List Value} (h1 : CellsRv w a xs) (h2 : CellsRv w b ys) : CellsRv w (a ++ b) (xs ++ ys) := by
  refine ⟨by rw [List.length_append, List.length_append, h1.1, h2.1], fun j y u hy hu => ?_, fun y hy => ?_⟩
  · rcases Nat.lt_or_ge j a.length with hlt | hge
    · rw [List.getElem?_append_left hlt] at hy
      rw [List.getElem?_append_left (by rw [← h1.1]; exact hlt)] at hu
      exact h1.2.1 j y u hy hu
    · rw [List.getElem?_append_right hge] at hy
      rw [List.getElem?_append_right (by rw [← h1.1]; exact hge)] at hu
      rw [h1.1] at hy
      exact h2.2.1 _ y u hy hu
  · rcases List.mem_append.1 hy with h | h
    · exact h1.2.2 y h
    · exact h2.2.2 y h
theorem opensF_last {f : Field} {off tot : Nat} {α : Type} {en : α → List AV} {R : α → Prop} (ho : f.offset = off) (htot : off + P.cellsOf f.type = tot) (h : Opens enc P w base spare held f.type en R) : OpensF enc P w base spare held [f] off tot en R := by
  intro fuel cs xs hcl hx ht hs
  obtain ⟨x, rfl⟩ := List.length_eq_one_iff.1 hx
  have h1 := ht 0 f rfl
  obtain ⟨a, ha, hc⟩ := h fuel _ x h1 (hs 0 f x rfl rfl)
  refine ⟨a, ha, ?_⟩
  rw [ho, List.take_of_length_le (by simp; omega)] at hc
  exact hc
theorem opensF_cons {f : Field} {fs : List Field} {off off' tot : Nat} {α β : Type} {en : α → List AV} {R : α → Prop} {en' : β → List AV} {R' : β → Prop} (ho : f.offset = off) (hoff : off + P.cellsOf f.type = off') (h : Opens enc P w base spare held f.type en R) (h' : OpensF enc P w base spare held fs off' tot en' R') :
    OpensF enc P w base spare held (f :: fs) off tot (fun p : α × β => en p.1 ++ en' p.2) (fun p => R p.1 ∧ R' p.2) := by
  intro fuel cs xs hcl hx ht hs
  cases xs with
  | nil => simp at hx
  | cons x xs =>
    obtain ⟨a, ha, hc⟩ := h fuel _ x (ht 0 f rfl) (hs 0 f x rfl rfl)
    obtain ⟨b, hb, hc'⟩ := h' fuel cs xs hcl (by simpa using hx) (fun i g hg => by simpa using ht (i + 1) g (by simpa using hg)) (fun i g y hg hy => hs (i + 1) g y (by simpa using hg) (by simpa using hy))
    refine ⟨(a, b), ⟨ha, hb⟩, ?_⟩
    rw [ho] at hc
    have : cs.drop off = (cs.drop off).take (P.cellsOf f.type) ++ cs.drop off' := by
      rw [← hoff, ← List.drop_drop, List.take_append_drop]
    rw [this]
    exact cells_append hc hc'
theorem opens_struct {t : TypeId} {fs : Array Field} {α : Type} {en : α → List AV} {R : α → Prop} (ht : P.underlying t = some (.struct fs)) (h : OpensF enc P w base spare held fs.toList 0 (P.cellsOf t) en R) : Opens enc P w base spare held t en R := by
  intro fuel cs x hx hs
  obtain ⟨xs, n, _, rfl, hcl, hxl, hf⟩ := DataW.trod_struct ht hx
  obtain ⟨a, ha, hc⟩ := h n cs xs hcl (by simpa using hxl) (fun i f hi => hf i f (by simpa using hi)) (fun i f y hi hy => sized_field hs ht (j := i) (by simpa using hi) (by simp [List.getElem?_map, hy]))
  exact ⟨a, ha, by simpa using hc⟩

/-- a struct that came in -/
theorem agg_rv {es : List AV} {us : Array Value} (h : CellsRv w es us.toList) : RV w nov mZ (.agg es) (.agg us) :=
  .agg (by rw [h.1]; simp) (fun j y u hy hu => (h.2.1 j y u hy (by simpa using hu)).1)
theorem one_rv {y : AV} {u : Value} (h : CellsRv w [y] [u]) : RV w nov mZ y u := (h.2.1 0 y u rfl rfl).1
end
end Go.Proofs.Yteapjpgabdegnaa.Am
/- From a walk to a law's row: the arguments read behind the call as before, the result is true. -/
namespace Go.Proofs.Yteapjpgabdegnaa
open Go.RowKit Go.WideShapes Go.ChangeShapes Go.ChangeAt
section
variable {H : Type} {enc : TypeId × Value → H} {P : Program}
theorem post_of_below {f : Func} {s : ChangeSpec} {apart fresh handsOn again : Bool} {W W' : World} {args : Array Value} {v : Value} {ds gs : List (DataW H)} {before pa pv : List MemPlace}
    (hW : DataW.Whole enc P f.params.toList s.vars apart W args.toList ds gs before)
    (hres : ∀ (b : Nat) (sp : Nat → Bool) (hd : Bool), DataW.TrodAll enc P W' b sp hd f.resultTypes.toList (v.resultList f.resultTypes.size) (s.fn H (ds ++ gs)).results [])
    (hargs : ∀ sp : Nat → Bool, (∀ p ∈ before, sp p.block = true) → DataW.TrodAll enc P W' 0 sp true f.params.toList args.toList (s.fn H (ds ++ gs)).args pa)
    (hvars : ∀ sp : Nat → Bool, (∀ p ∈ before, sp p.block = true) → DataW.TrodVars enc P W' sp s.vars (s.fn H (ds ++ gs)).vars pv)
    (hps : before = pa ++ pv) (hb : Below W.heap.size W W')
    (hok : ∀ (j : Nat) (t : TypeId) (r : Value), f.resultTypes[j]? = some t → (v.resultList f.resultTypes.size)[j]? = some r → Value.okWide P W' .any 0 t r) :
    s.post enc P f apart fresh handsOn again W args v W' := by
  have hlt : ∀ p ∈ before, p.block < W.heap.size := fun p hp => hW.lt p hp
  have hold : ∀ p ∈ before, (fun b => decide (b < W.heap.size)) p.block = true := fun p hp => by simpa using hlt p hp
  refine ⟨ds, gs, before, [], pa, pv, hW, hres _ _ _, hargs _ hold, hvars _ hold, World.keptBut_mono (fun p hp => ⟨hp, ?_⟩) (hb.frame (· ∈ before)), fun _ => ?_⟩
  · rw [hps, List.mem_append] at hp
    exact Or.inr hp
  · obtain ⟨_, _, _, _, _, hz, hn⟩ := hW
    refine ⟨hok, _, _, ([] ++ pa) ++ pv, ⟨[] ++ pa, pv, trodAll_append (hargs _ (fun _ _ => rfl)) (hres _ _ _), hvars _ (fun _ _ => rfl), rfl, ?_, ?_⟩, ?_⟩
    · intro b off hp
      have hin : MemPlace.cell b off ∈ before := by rw [hps]; simpa using hp
      rw [hb.frozen (hlt _ hin)]
      exact hz b off hin
    · intro ha
      have := hn ha
      rw [hps] at this
      simpa using this
    · intro p hp _
      rw [hps]
      simpa using hp

theorem trodAll_keep (hl : laidOutB P = true) {W W' : World} (hb : Below W.heap.size W W') (sp : Nat → Bool) (ts : List TypeId) : ∀ (vs : List Value) (ds : List (DataW H)) (ps : List MemPlace), (∀ t ∈ ts, P.readableRec t = true ∧ t < P.types.size) →
    DataW.TrodAll enc P W 0 (fun _ => true) true ts vs ds ps → (∀ x ∈ ps, x.block < W.heap.size) → (∀ x ∈ ps, sp x.block = true) → DataW.TrodAll enc P W' 0 sp true ts vs ds ps := by
  induction ts with
  | nil =>
    intro vs ds ps _ h _ _
    obtain ⟨rfl, rfl, rfl⟩ := trodAll_nil h
    exact trodAll_mk0
  | cons t ts ih =>
    intro vs ds ps hts h hlt hsp
    obtain ⟨v0, vs0, d0, ds0, p0, q0, rfl, rfl, rfl, h0, r0⟩ := trodAll_cons h
    obtain ⟨hr, hrow⟩ := hts t (by simp)
    exact trodAll_cons_mk (WideElems.Trod_stays hl hr hrow h0 (fun x hx => hb.same (hlt x (by simp [hx]))) (fun x hx => hsp x (by simp [hx])))
      (ih _ _ _ (fun t ht => hts t (by simp [ht])) r0 (fun x hx => hlt x (by simp [hx])) (fun x hx => hsp x (by simp [hx])))

/-- A LAW: it returned true, nothing that was there has turned. -/
theorem law_post (hl : laidOutB P = true) {f : Func} {s : ChangeSpec} {T : TypeId} {W W' : World} {args : Array Value} {ds : List (DataW H)} {before : List MemPlace}
    (hvars : s.vars = []) (hrt : f.resultTypes = #[T]) (hT : P.underlying T = some .bool) (hts : f.params.toList.all (fun t => P.readableRec t && decide (t < P.types.size)) = true)
    (hW : DataW.Whole enc P f.params.toList s.vars false W args.toList ds [] before) (hA : DataW.TrodAll enc P W 0 (fun _ => true) true f.params.toList args.toList ds before)
    (e1 : (s.fn H (ds ++ [])).results = [.lit (.bool true)]) (e2 : (s.fn H (ds ++ [])).args = ds) (e3 : (s.fn H (ds ++ [])).vars = []) (hb : Below W.heap.size W W') :
    s.post enc P f false true false false W args (.bool true) W' := by
  have hlt : ∀ x ∈ before, x.block < W.heap.size := fun x hx => hW.lt x hx
  refine post_of_below (pa := before) (pv := []) hW ?_ ?_ ?_ (by simp) hb ?_
  · intro b sp hd
    rw [e1, hrt]
    exact trodAll_cons_mk (shut_bool hT true) trodAll_mk0
  · intro sp hsp
    rw [e2]
    exact trodAll_keep hl hb sp _ _ _ _ (fun t ht => by simpa using List.all_eq_true.1 hts t ht) hA hlt hsp
  · intro sp hsp
    rw [e3, hvars]
    rfl
  · exact ok_one hrt rfl (okWide_bool_mk hT true)
end
end Go.Proofs.Yteapjpgabdegnaa
/- Readers of the arguments of the laws about tasks. -/
namespace Go.Proofs.Yteapjpgabdegnaa.Am
open Go.RowKit Go.ChangeShapes Go.WideShapes Go.Deep Go.Joins
section
variable {H : Type} {enc : TypeId × Value → H} {w : World} {base : Nat} {spare : Nat → Bool} {held : Bool}
theorem opens_conv {P : Program} {t : TypeId} {α β : Type} {en : α → List AV} {en2 : β → List AV} {R : α → Prop} {R2 : β → Prop} (f : α → β) (h : Opens enc P w base spare held t en R) (he : ∀ a, en2 (f a) = en a) (hR : ∀ a, R a → R2 (f a)) : Opens enc P w base spare held t en2 R2 := by
  intro fuel cs x hx hs
  obtain ⟨a, ha, hc⟩ := h fuel cs x hx hs
  exact ⟨f a, hR a ha, by rw [he]; exact hc⟩
theorem opens_str2 {P : Program} {t : TypeId} (ht : P.underlying t = some .string) : Opens enc P w base spare held t (fun s : ByteArray => [.c (.string s)]) (fun s => s.size ≤ 140737488355328) := by
  intro fuel cs x h hsz
  obtain ⟨s, rfl, rfl, -⟩ := DataW.trod_string ht h
  refine ⟨s, ?_, cells_one1 (.c _) rfl (.c _)⟩
  have h1 : s.data.toList.length ≤ 140737488355328 := Nat.le_trans (hsz s.data.toList.length (List.mem_singleton.2 rfl)) (by decide)
  rw [Array.length_toList] at h1
  exact h1
abbrev I64F (p : Fact) : Prop := (Lit.int .i64 p.1).wf = true ∧ (Lit.int .i64 p.2).wf = true
abbrev FactsR (l : List Fact) : Prop := l.length * 16 ≤ 140737488355328 ∧ ∀ p ∈ l, I64F p
abbrev EffR (e : GEffect) : Prop := FactsR e.When
abbrev OpR (o : GOp) : Prop := o.Name.size ≤ 140737488355328 ∧ FactsR o.Pre ∧ o.Effs.length * 40 ≤ 140737488355328 ∧ ∀ e ∈ o.Effs, EffR e
abbrev IntsR (l : List Int) : Prop := l.length * 8 ≤ 140737488355328 ∧ ∀ z ∈ l, (Lit.int .i64 z).wf = true
abbrev TaskR (t : GTask) : Prop := IntsR t.Vars ∧ IntsR t.Init ∧ FactsR t.Goal ∧ t.Ops.length * 72 ≤ 140737488355328 ∧ ∀ o ∈ t.Ops, OpR o
set_option maxRecDepth 100000 in
theorem oFact : Opens enc Try.prog w base spare held 40 cF I64F :=
  opens_struct Try.underlying40 (opensF_cons (off' := 1) rfl (by kernel_rfl) (opens_int Try.underlying3) (opensF_last rfl (by kernel_rfl) (opens_int Try.underlying3)))
set_option maxRecDepth 100000 in
theorem oFacts : Opens enc Try.prog w base spare held 23 (fun l : List Fact => [.sl 2 (l.map cF)]) FactsR :=
  opens_slice Try.underlying23 (by kernel_rfl) (by kernel_rfl) (by decide) (by decide) oFact
set_option maxRecDepth 100000 in
theorem oInts : Opens enc Try.prog w base spare held 22 (fun l : List Int => [.sl 1 (l.map cI)]) IntsR :=
  opens_slice Try.underlying22 (by kernel_rfl) (by kernel_rfl) (by decide) (by decide) (opens_int Try.underlying3)
set_option maxRecDepth 100000 in
theorem oEff : Opens enc Try.prog w base spare held 42 cGEffect EffR :=
  opens_conv (fun p : List Fact × (Int × Int) => { When := p.1, Var := p.2.1, Val := p.2.2 : GEffect })
    (opens_struct Try.underlying42 (opensF_cons (off' := 1) (en := fun l : List Fact => [AV.sl 2 (l.map cF)]) (R := FactsR) (en' := fun z : Int × Int => [AV.c (.int .i64 z.1)] ++ [AV.c (.int .i64 z.2)]) (R' := fun z : Int × Int => (Lit.int .i64 z.1).wf = true ∧ (Lit.int .i64 z.2).wf = true) rfl (by kernel_rfl) oFacts
      (opensF_cons (off' := 2) (en := fun z : Int => [AV.c (.int .i64 z)]) (R := fun z : Int => (Lit.int .i64 z).wf = true) (en' := fun z : Int => [AV.c (.int .i64 z)]) (R' := fun z : Int => (Lit.int .i64 z).wf = true) rfl (by kernel_rfl) (opens_int Try.underlying3) (opensF_last rfl (by kernel_rfl) (opens_int Try.underlying3)))))
    (fun _ => rfl) (fun _ h => h.1)
set_option maxRecDepth 100000 in
theorem oOp : Opens enc Try.prog w base spare held 38 cGOp OpR :=
  opens_conv (fun p : ByteArray × (Int × (List Fact × List GEffect)) => { Name := p.1, Cost := p.2.1, Pre := p.2.2.1, Effs := p.2.2.2 : GOp })
    (opens_struct Try.underlying38 (opensF_cons (off' := 1) (en := fun s : ByteArray => [AV.c (.string s)]) (R := fun s => s.size ≤ 140737488355328) (en' := fun p : Int × (List Fact × List GEffect) => [AV.c (.int .i64 p.1)] ++ ([AV.sl 2 (p.2.1.map cF)] ++ [AV.sl 3 (p.2.2.map cGEffect)])) (R' := fun p : Int × (List Fact × List GEffect) => (Lit.int .i64 p.1).wf = true ∧ (FactsR p.2.1 ∧ (p.2.2.length * 40 ≤ 140737488355328 ∧ ∀ e ∈ p.2.2, EffR e))) rfl (by kernel_rfl) (opens_str2 Try.underlying9)
      (opensF_cons (off' := 2) (en := fun z : Int => [AV.c (.int .i64 z)]) (R := fun z : Int => (Lit.int .i64 z).wf = true) (en' := fun p : List Fact × List GEffect => [AV.sl 2 (p.1.map cF)] ++ [AV.sl 3 (p.2.map cGEffect)]) (R' := fun p : List Fact × List GEffect => FactsR p.1 ∧ (p.2.length * 40 ≤ 140737488355328 ∧ ∀ e ∈ p.2, EffR e)) rfl (by kernel_rfl) (opens_int Try.underlying3)
        (opensF_cons (off' := 3) (en := fun l : List Fact => [AV.sl 2 (l.map cF)]) (R := FactsR) (en' := fun l : List GEffect => [AV.sl 3 (l.map cGEffect)]) (R' := fun l : List GEffect => l.length * 40 ≤ 140737488355328 ∧ ∀ e ∈ l, EffR e) rfl (by kernel_rfl) oFacts
          (opensF_last rfl (by kernel_rfl) (opens_slice Try.underlying36 (by kernel_rfl) (by kernel_rfl) (by decide) (by decide) oEff))))))
    (fun _ => rfl) (fun _ h => ⟨h.1, h.2.2.1, h.2.2.2⟩)
set_option maxRecDepth 100000 in
theorem oTask : Opens enc Try.prog w base spare held 26 cGTask TaskR :=
  opens_conv (fun p : List Int × (List Int × (List Fact × List GOp)) => { Vars := p.1, Init := p.2.1, Goal := p.2.2.1, Ops := p.2.2.2 : GTask })
    (opens_struct Try.underlying26 (opensF_cons (off' := 1) (en := fun l : List Int => [AV.sl 1 (l.map cI)]) (R := IntsR) (en' := fun p : List Int × (List Fact × List GOp) => [AV.sl 1 (p.1.map cI)] ++ ([AV.sl 2 (p.2.1.map cF)] ++ [AV.sl 4 (p.2.2.map cGOp)])) (R' := fun p : List Int × (List Fact × List GOp) => IntsR p.1 ∧ (FactsR p.2.1 ∧ (p.2.2.length * 72 ≤ 140737488355328 ∧ ∀ o ∈ p.2.2, OpR o))) rfl (by kernel_rfl) oInts
      (opensF_cons (off' := 2) (en := fun l : List Int => [AV.sl 1 (l.map cI)]) (R := IntsR) (en' := fun p : List Fact × List GOp => [AV.sl 2 (p.1.map cF)] ++ [AV.sl 4 (p.2.map cGOp)]) (R' := fun p : List Fact × List GOp => FactsR p.1 ∧ (p.2.length * 72 ≤ 140737488355328 ∧ ∀ o ∈ p.2, OpR o)) rfl (by kernel_rfl) oInts
        (opensF_cons (off' := 3) (en := fun l : List Fact => [AV.sl 2 (l.map cF)]) (R := FactsR) (en' := fun l : List GOp => [AV.sl 4 (l.map cGOp)]) (R' := fun l : List GOp => l.length * 72 ≤ 140737488355328 ∧ ∀ o ∈ l, OpR o) rfl (by kernel_rfl) oFacts
          (opensF_last rfl (by kernel_rfl) (opens_slice Try.underlying24 (by kernel_rfl) (by kernel_rfl) (by decide) (by decide) oOp))))))
    (fun _ => rfl) (fun _ h => h)
/-- a struct argument -/
theorem arg_struct {P : Program} {t : TypeId} {fs : Array Field} {α : Type} {en : α → List AV} {R : α → Prop} {r : Reach} {b0 : Nat} {v : Value} {d : DataW H} {p : List MemPlace} (ht : P.underlying t = some (.struct fs)) (hv : Value.okWide P w r b0 t v) (ho : Opens enc P w base spare held t en R) (h : DataW.Trod enc P w base spare held t v d p) (hs : Sized P t d) :
    ∃ a, R a ∧ RV w nov mZ (.agg (en a)) v := by
  obtain ⟨cs, rfl, hsz⟩ := okWide_struct ht hv
  obtain ⟨fuel, hf⟩ := h
  obtain ⟨a, ha, hc⟩ := ho fuel _ _ hf hs
  exact ⟨a, ha, agg_rv hc⟩
/-- an argument of one cell -/
theorem arg_one {P : Program} {t : TypeId} {α : Type} {y : α → AV} {R : α → Prop} {v : Value} {d : DataW H} {p : List MemPlace} (hv : v.cells = #[v]) (ho : Opens enc P w base spare held t (fun a => [y a]) R) (h : DataW.Trod enc P w base spare held t v d p) (hs : Sized P t d) :
    ∃ a, R a ∧ RV w nov mZ (y a) v := by
  obtain ⟨fuel, hf⟩ := h
  rw [hv] at hf
  obtain ⟨a, ha, hc⟩ := ho fuel _ _ hf hs
  exact ⟨a, ha, one_rv hc⟩
end
theorem TaskR.sh {t : GTask} (h : TaskR t) : ShT t := by
  obtain ⟨⟨h1, -⟩, ⟨h2, -⟩, ⟨h3, -⟩, h4, h5⟩ := h
  refine ⟨?_, ?_, ?_, ?_, fun o ho => ?_⟩
  · show _ ≤ _; omega
  · show _ ≤ _; omega
  · show _ ≤ _; omega
  · show _ ≤ _; omega
  · obtain ⟨g1, ⟨g2, -⟩, g3, g4⟩ := h5 o ho
    refine ⟨by omega, ?_, ?_, fun e he => ?_⟩
    · show _ ≤ _; omega
    · show _ ≤ _; omega
    · have := (g4 e he).1
      show _ ≤ _; omega
theorem FactsR.sh {l : List Fact} (h : FactsR l) : Sh l := by have := h.1; show _ ≤ _; omega
theorem u8_wf {z : Int} (h : (Lit.int .u8 z).wf = true) : 0 ≤ z ∧ z ≤ 255 := by
  simp only [Lit.wf, Bool.and_eq_true, decide_eq_true_eq] at h
  have h1 : IntKind.u8.min = 0 := rfl
  have h2 : IntKind.u8.max = 255 := rfl
  omega
theorem law_of {f : FuncId} {args : List AV} {w : World} {cargs : Array Value} (h : ACall cx f args (.c (.bool true))) (hs : cargs.size = args.length) (hr : ∀ (j : Nat) (x : AV) (v : Value), args[j]? = some x → cargs[j]? = some v → RV w nov (mO (fun _ => False)) x v) :
    Calls Try.prog f cargs w fun e w' => e = .returned (.bool true) ∧ Below w.heap.size w w' := by
  refine Calls.mono (h.2 w (fun _ => False) cargs trivial (Nat.zero_le _) (fun b hb => hb.elim) hs hr) ?_
  rintro e w' ⟨v, rfl, h1, h2, _⟩
  rw [rv_c h1]
  exact ⟨rfl, ⟨h2.os, h2.tape, h2.output, h2.size, fun b hb => h2.block b hb (fun h => h)⟩⟩
end Go.Proofs.Yteapjpgabdegnaa.Am
/- stratagemlaw26.RegressRelevant returns true for every input. No condition beyond the row's own. -/
namespace Go.Proofs.Yteapjpgabdegnaa.rowRelevant
open Go.ChangeShapes Go.WideShapes Go.ChangeAt Go.RowKit Am

theorem laidOut : laidOutB Try.prog = true := by kernel_rfl
set_option maxRecDepth 100000 in
theorem contract (H : Type) (enc : TypeId × Value → H) (W : World) (base : Nat) (args : Array Value) (ds gs : List (DataW H)) (before : List MemPlace)
    (hval : ∀ (j : Nat) t v, Try.f9.params[j]? = some t → args[j]? = some v → Value.okWide Try.prog W .any base t v)
    (hW : DataW.Whole enc Try.prog Try.f9.params.toList Rows.regressRelevantSpec.vars false W args.toList ds gs before)
    (hsz : (DataW.weightsEach Try.prog (Try.f9.params.toList ++ (OpenSpec.ofChange Rows.regressRelevantSpec).bare.plain.varTypes Try.prog) (ds ++ gs)).all (· ≤ reachBytes) = true) :
    Calls Try.prog 9 args W fun e W' => ∃ v, e = .returned v ∧ Rows.regressRelevantSpec.post enc Try.prog Try.f9 false true false false W args v W' := by
  have hW' := hW
  obtain ⟨p, q, hA0, hV, rfl, hfz, hnd⟩ := hW
  have hA : DataW.TrodAll enc Try.prog W 0 (fun _ => true) true Try.f9.params.toList args.toList ds p := hA0
  rw [Try.params9] at hA hval
  obtain ⟨v0, vs0, d0, ds0, p0, q0, hargs, rfl, rfl, h0, r0⟩ := trodAll_cons hA
  obtain ⟨v1, vs1, d1, ds1, p1, q1, rfl, rfl, rfl, h1, r1⟩ := trodAll_cons r0
  obtain ⟨rfl, rfl, rfl⟩ := trodAll_nil r1
  obtain rfl : args = #[v0, v1] := Array.ext' hargs
  obtain ⟨rfl, rfl⟩ := trodVars_none hV
  simp only [List.append_nil] at hW' hA0 hsz
  rw [Try.params9] at hsz
  obtain ⟨t, ht, k0⟩ := arg_struct Try.underlying26 (hval 0 26 v0 rfl rfl) oTask h0 (sized_arg hsz (j := 0) rfl rfl)
  obtain ⟨a2, len2, cap2, rfl⟩ := okWide_slice Try.underlying23 (hval 1 23 v1 rfl rfl)
  obtain ⟨p, hp, k2⟩ := arg_one rfl oFacts h1 (sized_arg hsz (j := 1) rfl rfl)
  refine (law_of (A_stratagemlaw26_RegressRelevant 100 t p (relevant_true 100 (by decide) t ht.sh p hp.sh)) rfl (fun j x v hx hv => ?_)).mono fun e W' ⟨he, hb⟩ => ?_
  · match j, hx, hv with
    | 0, hx, hv => simp at hx hv; subst hx hv; exact k0
    | 1, hx, hv => simp at hx hv; subst hx hv; exact k2
    | j + 2, hx, hv => simp at hx
  · subst he
    exact ⟨_, rfl, law_post laidOut rfl (by kernel_rfl) Try.underlying4 (by kernel_rfl) hW' hA0 rfl rfl rfl hb⟩
theorem own : ownKnob Try.prog.godebug = none := by kernel_rfl
theorem laid_met (os : Os) : laidMet Try.prog Rows.regressRelevantRow.laid ((World.holding Try.prog os ⟨#[], #[], []⟩).forCall (fun _ _ => 0) ⟨#[], #[.agg #[.slice none 0 0, .slice none 0 0, .slice none 0 0, .slice none 0 0], .slice none 0 0], []⟩).memory :=
  laidMet_of_run' 8 (by kernel_rfl) (by kernel_rfl)
theorem reads (os : Os) {H : Type} (enc : TypeId × Value → H) : ∃ places, DataW.whole enc Try.prog ((World.holding Try.prog os ⟨#[], #[], []⟩).forCall (fun _ _ => 0) ⟨#[], #[.agg #[.slice none 0 0, .slice none 0 0, .slice none 0 0, .slice none 0 0], .slice none 0 0], []⟩).memory Try.f9.params.toList Rows.regressRelevantSpec.vars false (#[.agg #[.slice none 0 0, .slice none 0 0, .slice none 0 0, .slice none 0 0], .slice none 0 0] : Array Value).toList 8 = some ([.agg [.nil, .nil, .nil, .nil], .nil], [], places) :=
  ⟨[], by kernel_rfl⟩

set_option maxRecDepth 100000 in
theorem lifted (os : Os) (started : os.Started) (H : Type) (enc : TypeId × Value → H) (F : Stop.Interp) :
    ReturnsInHanded {} Try.checked os 9 .any ((OpenSpec.ofChange Rows.regressRelevantSpec).preRow enc Try.prog Try.f9 Rows.regressRelevantRow.domain false Rows.regressRelevantRow.laid) (((OpenSpec.ofChange Rows.regressRelevantSpec).at F).post enc Try.prog Try.f9 false true false false) := by
  obtain ⟨places, hx⟩ := reads os enc
  refine returnsInHanded_of_row (C := Try.checked) (s := OpenSpec.ofChange Rows.regressRelevantSpec) own started (by kernel_rfl) Try.func9
    (witness_row_at (enc := enc) (C := Try.checked) false (World.holding Try.prog os ⟨#[], #[], []⟩) #[.agg #[.slice none 0 0, .slice none 0 0, .slice none 0 0, .slice none 0 0], .slice none 0 0] rfl (by kernel_rfl) (by kernel_rfl) (by kernel_rfl)
      (OpenSpec.preRow_of_cond 8 hx (by kernel_rfl) (fun k hk => by cases hk) (by kernel_rfl) (laid_met os))) ?_
  intro W base args ds gs before hval hW _ _ hsz _ _ _
  exact contract H enc W base args ds gs before hval hW hsz

/-- THE STATEMENT. -/
theorem said : Rows.RegressRelevantSaid :=
  OpenClaim.holds_of_cond 9 Try.f9 rfl rfl rfl rfl rfl rfl rfl ⟨rfl, rfl, rfl, rfl, rfl⟩ rfl rfl rfl rfl rfl (by kernel_rfl) Try.func9 (by kernel_rfl)
    (of_decide_eq_true (by kernel_rfl)) (by unfold Func.isWrapper; first | (rw [if_pos (by decide +kernel)]; kernel_rfl) | (rw [if_neg (by decide +kernel)]; exact ⟨rfl, rfl⟩))
    (fun os started H enc _ F => by rw [OpenClaim.pre_eq_preRow]; exact lifted os started H enc F)
end Go.Proofs.Yteapjpgabdegnaa.rowRelevant
