/- stratagemlaw31.CheckerSteps returns true for every input. No condition beyond the row's own. -/
import Derived.Test.YtcpajbglcgbolaaGreatB2
import Derived.Test.YtcpajbglcgbolaaGreatB5
import Derived.Test.YtcpajbglcgbolaaGreatB4
import Derived.Test.YtcpajbglcgbolaaGreatB1
import Derived.Deep.Slices
import Derived.Deep.Fields
import Derived.ChangeSame
import Derived.SizedLaws
import Derived.Lib.SmallJoins
import Derived.Below
import Derived.OpenShut
import Derived.Carry
import Derived.Test.YtcpajbglcgbolaaGreatRows
import Derived.Deep.DeepHandedRow
import Derived.Lib.LaidTab
/- Models printed by my decompiler, and the proofs that the code computes them. -/
namespace Go.Proofs.YtcpajbglcgbolaaGreat.Am
open Go.RowKit
structure GCertificate where
  Bound : Int
  Nogoods : List Nogood
  deriving DecidableEq
def cGCertificate (x : GCertificate) : List AV := [.c (.int .i64 x.Bound), .sl 2 (x.Nogoods.map cN)]
theorem fr_cGCertificate (x : GCertificate) : ∀ y ∈ cGCertificate x, Fr y := FrC_cons (.c _) (FrC_cons (.sl (frl_cN _)) (FrC_nil))
theorem frl_cGCertificate (l : List GCertificate) : FrL (l.map cGCertificate) := FrL_map (fun x _ => fr_cGCertificate x)
instance {l : List GCertificate} : FrI (l.map cGCertificate) := ⟨frl_cGCertificate l⟩
structure GChecker where
  t : GTask
  c : GCertificate
  steps : Int
  deriving DecidableEq
def cGChecker (x : GChecker) : List AV := [.sl 1 (x.t.Vars.map cI), .sl 1 (x.t.Init.map cI), .sl 2 (x.t.Goal.map cF), .sl 4 (x.t.Ops.map cGOp), .c (.int .i64 x.c.Bound), .sl 2 (x.c.Nogoods.map cN), .c (.int .i64 x.steps)]
theorem fr_cGChecker (x : GChecker) : ∀ y ∈ cGChecker x, Fr y := FrC_cons (.sl (frl_cI _)) (FrC_cons (.sl (frl_cI _)) (FrC_cons (.sl (frl_cF _)) (FrC_cons (.sl (frl_cGOp _)) (FrC_cons (.c _) (FrC_cons (.sl (frl_cN _)) (FrC_cons (.c _) (FrC_nil)))))))
theorem frl_cGChecker (l : List GChecker) : FrL (l.map cGChecker) := FrL_map (fun x _ => fr_cGChecker x)
instance {l : List GChecker} : FrI (l.map cGChecker) := ⟨frl_cGChecker l⟩
theorem ci_XDChk {p K : Prop} (k : K) (h : p := by first | rfl | exact ⟨rfl, rfl⟩ | exact BW.fr FrV.h | (refine BW.fr ?_; assumption) | (refine ⟨rfl, ?_⟩; (simp [cGTask, cI, cF, cGOp, cGEffect, cGCertificate, cN, cGChecker, cL_cF, take_len_map]; done)) | (refine RowK.same ?_ FrI.h; first | rfl | (simp [cGTask, cI, cF, cGOp, cGEffect, cGCertificate, cN, cGChecker, cL_cF, take_len_map]; done)) | (refine row_part1 ?_; (repeat (first | exact BWL.nil | exact bwll_nil | exact bw_c | exact BW.sl | exact BW.nil | exact bwll_same rfl FrI.h | refine BWL.cons ?_ ?_ | refine bwll_cons ?_ ?_ | (refine bw_own3 rfl rfl rfl FrI.h ?_ ?_ ?_) | exact BW.fr FrV.h | exact BW.fr (by assumption) | refine bw_agg ?_ | refine bw_clo ?_ | refine bw_ptr rfl rfl rfl ?_ | (refine bw_own rfl rfl rfl ?_ FrI.h ?_ ?_) | assumption | omega | rfl | (rw [List.length_map, ← List.length_append]; assumption) | (refine bwll_same ?_ FrI.h; (simp [cGTask, cI, cF, cGOp, cGEffect, cGCertificate, cN, cGChecker, cL_cF] <;> fail)) | (rw [List.map_set]; refine bwll_set (by first | rfl | omega | simp) ?_ ?_) | refine bwll_set (by first | rfl | omega | simp) ?_ ?_ | (rw [List.map_replicate]; refine bwll_rep ?_) | refine bwll_rep ?_ | (rw [List.map_append]; refine bwll_append ?_ ?_) | refine bwll_append ?_ ?_ | (simp [cGTask, cI, cF, cGOp, cGEffect, cGCertificate, cN, cGChecker, cL_cF, take_len_map] <;> fail) | (rw [List.drop_zero, List.take_of_length_le] <;> first | rfl | (simp [cGTask, cI, cF, cGOp, cGEffect, cGCertificate, cN, cGChecker, cL_cF] <;> fail)) | (simp; omega))); done) | ((repeat (first | exact BWL.nil | exact bwll_nil | exact bw_c | exact BW.sl | exact BW.nil | exact bwll_same rfl FrI.h | refine BWL.cons ?_ ?_ | refine bwll_cons ?_ ?_ | (refine bw_own3 rfl rfl rfl FrI.h ?_ ?_ ?_) | exact BW.fr FrV.h | exact BW.fr (by assumption) | refine bw_agg ?_ | refine bw_clo ?_ | refine bw_ptr rfl rfl rfl ?_ | (refine bw_own rfl rfl rfl ?_ FrI.h ?_ ?_) | assumption | omega | rfl | (rw [List.length_map, ← List.length_append]; assumption) | (refine bwll_same ?_ FrI.h; (simp [cGTask, cI, cF, cGOp, cGEffect, cGCertificate, cN, cGChecker, cL_cF] <;> fail)) | (rw [List.map_set]; refine bwll_set (by first | rfl | omega | simp) ?_ ?_) | refine bwll_set (by first | rfl | omega | simp) ?_ ?_ | (rw [List.map_replicate]; refine bwll_rep ?_) | refine bwll_rep ?_ | (rw [List.map_append]; refine bwll_append ?_ ?_) | refine bwll_append ?_ ?_ | (simp [cGTask, cI, cF, cGOp, cGEffect, cGCertificate, cN, cGChecker, cL_cF, take_len_map] <;> fail) | (rw [List.drop_zero, List.take_of_length_le] <;> first | rfl | (simp [cGTask, cI, cF, cGOp, cGEffect, cGCertificate, cN, cGChecker, cL_cF] <;> fail)) | (simp; omega))); done) | (simp [cGTask, cI, cF, cGOp, cGEffect, cGCertificate, cN, cGChecker, cL_cF, take_len_map]; done)) : p ∧ K := ⟨h, k⟩
theorem pr_XDChk {p K : Prop} (k : K) (h : p := by first | assumption | exact Int.natCast_nonneg _ | exact Nat.le_refl _ | exact Nat.zero_le _ | omega | (simp; done) | (simp; omega)) : p ∧ K := ⟨h, k⟩
theorem pl_XDChk {p K : Prop} (k : K) (h : p := by first | rfl | exact List.length_map _ | (simp; done) | (simp; omega)) : p ∧ K := ⟨h, k⟩
theorem pe_XDChk {p K : Prop} (k : K) (h : p := by first | omega | (simp; omega) | (simp only [List.length_map, List.length_cons, List.length_nil, List.length_append]; omega)) : p ∧ K := ⟨h, k⟩
theorem dr_XDChk {b : Bool} {p K : Prop} (k : K) (h : b = true → p := by intro h; first | (cases h; done) | exact ⟨by kernel_rfl, by kernel_rfl⟩) : (b = true → p) ∧ K := ⟨h, k⟩
theorem cl_XDChk {C : Cx} {n : Nat} {o : Oper} {τ : Nat → AV} {η : Nat → Ent} {f : FuncId} {os : Array Operand} {ats : Array TypeId} {r : AV} {args : List AV} {K : Foot → Prop} (ho : o.op = .call ⟨.value (.func f), os, ats⟩) (hc : ACall C f args r) (k : K ⟨r, [], []⟩)
    (hd : InB n o.dst := by exact Nat.le_of_ble_eq_true rfl) (hargs : os.toList.map (evA τ) = args := by first | rfl | (simp [cGTask, cI, cF, cGOp, cGEffect, cGCertificate, cN, cGChecker, cL_cF]; done)) (hfr : frs args := by repeat (first | exact trivial | exact fr1_eA _ | exact fr0_eA _ | exact fr1_fr (by assumption) | exact FrV.h | refine And.intro ?_ ?_)) (hr : fr1 r := by repeat (first | exact trivial | exact fr1_eA _ | exact fr0_eA _ | exact fr1_fr (by assumption) | exact FrV.h | refine And.intro ?_ ?_)) : ∃ f : Foot, LF C n o τ η f ∧ K f := ⟨_, lf_call ho hd hargs hc hfr hr, k⟩
theorem clb_XDChk {C : Cx} {n : Nat} {o : Oper} {τ : Nat → AV} {η : Nat → Ent} {f : FuncId} {os : Array Operand} {ats : Array TypeId} {r : AV} {xs ys : List AV} {K : Foot → Prop} (bs : List Nat) (ho : o.op = .call ⟨.value (.func f), os, ats⟩) (hargs : os.toList.map (evA τ) = xs) (hc : ACall C f ys r) (k : K ⟨r, [], bs⟩)
    (hd : InB n o.dst := by exact Nat.le_of_ble_eq_true rfl) (hb : BWL η (dropB η bs) xs ys := by repeat (first | exact BWL.nil | exact bwll_nil | exact bw_c | exact BW.sl | exact BW.nil | exact bwll_same rfl FrI.h | refine BWL.cons ?_ ?_ | refine bwll_cons ?_ ?_ | (refine bw_own3 rfl rfl rfl FrI.h ?_ ?_ ?_) | exact BW.fr FrV.h | exact BW.fr (by assumption) | refine bw_agg ?_ | refine bw_clo ?_ | refine bw_ptr rfl rfl rfl ?_ | (refine bw_own rfl rfl rfl ?_ FrI.h ?_ ?_) | assumption | omega | rfl | (rw [List.length_map, ← List.length_append]; assumption) | (refine bwll_same ?_ FrI.h; (simp [cGTask, cI, cF, cGOp, cGEffect, cGCertificate, cN, cGChecker, cL_cF] <;> fail)) | (rw [List.map_set]; refine bwll_set (by first | rfl | omega | simp) ?_ ?_) | refine bwll_set (by first | rfl | omega | simp) ?_ ?_ | (rw [List.map_replicate]; refine bwll_rep ?_) | refine bwll_rep ?_ | (rw [List.map_append]; refine bwll_append ?_ ?_) | refine bwll_append ?_ ?_ | (simp [cGTask, cI, cF, cGOp, cGEffect, cGCertificate, cN, cGChecker, cL_cF, take_len_map] <;> fail) | (rw [List.drop_zero, List.take_of_length_le] <;> first | rfl | (simp [cGTask, cI, cF, cGOp, cGEffect, cGCertificate, cN, cGChecker, cL_cF] <;> fail)) | (simp; omega))) (hr : scal r := by repeat (first | exact trivial | exact scal0_eA _ | exact scal_eA _ | refine And.intro ?_ ?_)) : ∃ f : Foot, LF C n o τ η f ∧ K f := ⟨_, lf_callB bs ho hd hargs hb hc hr, k⟩
theorem clg_XDChk {C : Cx} {n : Nat} {o : Oper} {τ : Nat → AV} {η : Nat → Ent} {f : FuncId} {os : Array Operand} {ats : Array TypeId} {r : AV} {xs ys : List AV} {bs bs' : List (Nat × Blk)} {ks : List Nat} {K : Foot → Prop} (ρ : List (Nat × Nat)) (fz : List Nat) (go nb : List (Nat × Ent)) (r' : AV) (ho : o.op = .call ⟨.value (.func f), os, ats⟩) (hargs : os.toList.map (evA τ) = xs)
    (hc : ACallG C f ys bs ks r bs') (k : K ⟨r', go ++ nb, []⟩) (hd : InB n o.dst := by exact Nat.le_of_ble_eq_true rfl) (hok : okC ρ fz bs ks bs' (idsE go) = true := by rfl) (hgo : allUs η go := by repeat (first | exact trivial | refine And.intro rfl ?_)) (hgl : ltUs n go := by repeat (first | exact trivial | refine And.intro (Nat.le_of_ble_eq_true rfl) ?_))
    (hw : GWL η (fE bs) (lk ρ) (fun i => inB fz i = true) (fun i => inB (keys bs) i = true) xs ys := by repeat (first | exact True.intro | exact gb_nil rfl rfl | refine gb_some ⟨rfl, rfl, rfl⟩ ?_ | refine And.intro ?_ ?_ | refine gw_ren rfl rfl rfl rfl rfl ?_ | refine gw_pren rfl rfl rfl rfl rfl | exact gw_thaw rfl rfl rfl | refine gw_tup ?_ | exact GWL.nil | exact gwll_nil | exact gw_c | exact GW.sl | exact GW.nil | exact gwll_same rfl FrI.h | refine GWL.cons ?_ ?_ | refine gwll_cons ?_ ?_ | (refine gw_own3 rfl rfl rfl FrI.h ?_ ?_ ?_) | exact GW.fr FrV.h | exact GW.fr (by assumption) | refine gw_agg ?_ | refine gw_clo ?_ | refine gw_ptr rfl rfl rfl ?_ | (refine gw_own rfl rfl rfl ?_ FrI.h ?_ ?_) | assumption | omega | rfl | (rw [List.length_map, ← List.length_append]; assumption) | (refine gwll_same ?_ FrI.h; (simp [cGTask, cI, cF, cGOp, cGEffect, cGCertificate, cN, cGChecker, cL_cF] <;> fail)) | (rw [List.map_set]; refine gwll_set (by first | rfl | omega | simp) ?_ ?_) | refine gwll_set (by first | rfl | omega | simp) ?_ ?_ | (rw [List.map_replicate]; refine gwll_rep ?_) | refine gwll_rep ?_ | (rw [List.map_append]; refine gwll_append ?_ ?_) | refine gwll_append ?_ ?_ | (simp [cGTask, cI, cF, cGOp, cGEffect, cGCertificate, cN, cGChecker, cL_cF, take_len_map] <;> fail) | (rw [List.drop_zero, List.take_of_length_le] <;> first | rfl | (simp [cGTask, cI, cF, cGOp, cGEffect, cGCertificate, cN, cGChecker, cL_cF] <;> fail)) | (simp; omega))) (hb : GBL η (fE bs) (lk ρ) (fun i => inB fz i = true) (fun i => inB (keys bs) i = true) bs := by repeat (first | exact True.intro | exact gb_nil rfl rfl | refine gb_some ⟨rfl, rfl, rfl⟩ ?_ | refine And.intro ?_ ?_ | refine gw_ren rfl rfl rfl rfl rfl ?_ | refine gw_pren rfl rfl rfl rfl rfl | exact gw_thaw rfl rfl rfl | refine gw_tup ?_ | exact GWL.nil | exact gwll_nil | exact gw_c | exact GW.sl | exact GW.nil | exact gwll_same rfl FrI.h | refine GWL.cons ?_ ?_ | refine gwll_cons ?_ ?_ | (refine gw_own3 rfl rfl rfl FrI.h ?_ ?_ ?_) | exact GW.fr FrV.h | exact GW.fr (by assumption) | refine gw_agg ?_ | refine gw_clo ?_ | refine gw_ptr rfl rfl rfl ?_ | (refine gw_own rfl rfl rfl ?_ FrI.h ?_ ?_) | assumption | omega | rfl | (rw [List.length_map, ← List.length_append]; assumption) | (refine gwll_same ?_ FrI.h; (simp [cGTask, cI, cF, cGOp, cGEffect, cGCertificate, cN, cGChecker, cL_cF] <;> fail)) | (rw [List.map_set]; refine gwll_set (by first | rfl | omega | simp) ?_ ?_) | refine gwll_set (by first | rfl | omega | simp) ?_ ?_ | (rw [List.map_replicate]; refine gwll_rep ?_) | refine gwll_rep ?_ | (rw [List.map_append]; refine gwll_append ?_ ?_) | refine gwll_append ?_ ?_ | (simp [cGTask, cI, cF, cGOp, cGEffect, cGCertificate, cN, cGChecker, cL_cF, take_len_map] <;> fail) | (rw [List.drop_zero, List.take_of_length_le] <;> first | rfl | (simp [cGTask, cI, cF, cGOp, cGEffect, cGCertificate, cN, cGChecker, cL_cF] <;> fail)) | (simp; omega)))
    (hr : GW (fE bs') (updAll η (go ++ nb)) (lk (backN ρ bs')) (fun _ => False) (fun i => inB (idsE nb) i = true) r r' := by repeat (first | exact True.intro | exact gb_nil rfl rfl | refine gb_some ⟨rfl, rfl, rfl⟩ ?_ | refine And.intro ?_ ?_ | refine gw_ren rfl rfl rfl rfl rfl ?_ | refine gw_pren rfl rfl rfl rfl rfl | exact gw_thaw rfl rfl rfl | refine gw_tup ?_ | exact GWL.nil | exact gwll_nil | exact gw_c | exact GW.sl | exact GW.nil | exact gwll_same rfl FrI.h | refine GWL.cons ?_ ?_ | refine gwll_cons ?_ ?_ | (refine gw_own3 rfl rfl rfl FrI.h ?_ ?_ ?_) | exact GW.fr FrV.h | exact GW.fr (by assumption) | refine gw_agg ?_ | refine gw_clo ?_ | refine gw_ptr rfl rfl rfl ?_ | (refine gw_own rfl rfl rfl ?_ FrI.h ?_ ?_) | assumption | omega | rfl | (rw [List.length_map, ← List.length_append]; assumption) | (refine gwll_same ?_ FrI.h; (simp [cGTask, cI, cF, cGOp, cGEffect, cGCertificate, cN, cGChecker, cL_cF] <;> fail)) | (rw [List.map_set]; refine gwll_set (by first | rfl | omega | simp) ?_ ?_) | refine gwll_set (by first | rfl | omega | simp) ?_ ?_ | (rw [List.map_replicate]; refine gwll_rep ?_) | refine gwll_rep ?_ | (rw [List.map_append]; refine gwll_append ?_ ?_) | refine gwll_append ?_ ?_ | (simp [cGTask, cI, cF, cGOp, cGEffect, cGCertificate, cN, cGChecker, cL_cF, take_len_map] <;> fail) | (rw [List.drop_zero, List.take_of_length_le] <;> first | rfl | (simp [cGTask, cI, cF, cGOp, cGEffect, cGCertificate, cN, cGChecker, cL_cF] <;> fail)) | (simp; omega)))
    (hnb : nbOk n η (updAll η (go ++ nb)) ρ ks (fE bs') (lk (backN ρ bs')) (fun i => inB (idsE nb) i = true) bs' nb := by repeat (first | exact True.intro | rfl | exact Nat.le_of_ble_eq_true rfl | exact gb_nil rfl rfl | refine gb_some ⟨rfl, rfl, rfl⟩ ?_ | refine And.intro ?_ ?_ | refine gw_ren rfl rfl rfl rfl rfl ?_ | refine gw_pren rfl rfl rfl rfl rfl | exact gw_thaw rfl rfl rfl | refine gw_tup ?_ | exact GWL.nil | exact gwll_nil | exact gw_c | exact GW.sl | exact GW.nil | exact gwll_same rfl FrI.h | refine GWL.cons ?_ ?_ | refine gwll_cons ?_ ?_ | (refine gw_own3 rfl rfl rfl FrI.h ?_ ?_ ?_) | exact GW.fr FrV.h | exact GW.fr (by assumption) | refine gw_agg ?_ | refine gw_clo ?_ | refine gw_ptr rfl rfl rfl ?_ | (refine gw_own rfl rfl rfl ?_ FrI.h ?_ ?_) | assumption | omega | rfl | (rw [List.length_map, ← List.length_append]; assumption) | (refine gwll_same ?_ FrI.h; (simp [cGTask, cI, cF, cGOp, cGEffect, cGCertificate, cN, cGChecker, cL_cF] <;> fail)) | (rw [List.map_set]; refine gwll_set (by first | rfl | omega | simp) ?_ ?_) | refine gwll_set (by first | rfl | omega | simp) ?_ ?_ | (rw [List.map_replicate]; refine gwll_rep ?_) | refine gwll_rep ?_ | (rw [List.map_append]; refine gwll_append ?_ ?_) | refine gwll_append ?_ ?_ | (simp [cGTask, cI, cF, cGOp, cGEffect, cGCertificate, cN, cGChecker, cL_cF, take_len_map] <;> fail) | (rw [List.drop_zero, List.take_of_length_le] <;> first | rfl | (simp [cGTask, cI, cF, cGOp, cGEffect, cGCertificate, cN, cGChecker, cL_cF] <;> fail)) | (simp; omega))) : ∃ f : Foot, LF C n o τ η f ∧ K f := ⟨_, lf_callG ρ fz go nb ho hd hargs hc hok hgo hgl hw hb hr hnb, k⟩
theorem clk_XDChk {C : Cx} {n : Nat} {o : Oper} {τ : Nat → AV} {η : Nat → Ent} {f : FuncId} {os : Array Operand} {ats : Array TypeId} {r : AV} {xs ys : List AV} {bs bs' : List (Nat × Blk)} {ks : List Nat} {K : Foot → Prop} (ρ : List (Nat × Nat)) (nb : List (Nat × Ent)) (r' : AV) (ho : o.op = .call ⟨.value (.func f), os, ats⟩) (hargs : os.toList.map (evA τ) = xs)
    (hc : ACallG C f ys bs ks r bs') (k : K ⟨r', [], nb.map (·.1)⟩) (hd : InB n o.dst := by exact Nat.le_of_ble_eq_true rfl) (hok : okC ρ [] bs ks bs' (idsE []) = true := by rfl)
    (hw : GWL η (fE bs) (lk ρ) (fun i => inB [] i = true) (fun i => inB (keys bs) i = true) xs ys := by repeat (first | exact True.intro | exact gb_nil rfl rfl | refine gb_some ⟨rfl, rfl, rfl⟩ ?_ | refine And.intro ?_ ?_ | refine gw_ren rfl rfl rfl rfl rfl ?_ | refine gw_pren rfl rfl rfl rfl rfl | exact gw_thaw rfl rfl rfl | refine gw_tup ?_ | exact GWL.nil | exact gwll_nil | exact gw_c | exact GW.sl | exact GW.nil | exact gwll_same rfl FrI.h | refine GWL.cons ?_ ?_ | refine gwll_cons ?_ ?_ | (refine gw_own3 rfl rfl rfl FrI.h ?_ ?_ ?_) | exact GW.fr FrV.h | exact GW.fr (by assumption) | refine gw_agg ?_ | refine gw_clo ?_ | refine gw_ptr rfl rfl rfl ?_ | (refine gw_own rfl rfl rfl ?_ FrI.h ?_ ?_) | assumption | omega | rfl | (rw [List.length_map, ← List.length_append]; assumption) | (refine gwll_same ?_ FrI.h; (simp [cGTask, cI, cF, cGOp, cGEffect, cGCertificate, cN, cGChecker, cL_cF] <;> fail)) | (rw [List.map_set]; refine gwll_set (by first | rfl | omega | simp) ?_ ?_) | refine gwll_set (by first | rfl | omega | simp) ?_ ?_ | (rw [List.map_replicate]; refine gwll_rep ?_) | refine gwll_rep ?_ | (rw [List.map_append]; refine gwll_append ?_ ?_) | refine gwll_append ?_ ?_ | (simp [cGTask, cI, cF, cGOp, cGEffect, cGCertificate, cN, cGChecker, cL_cF, take_len_map] <;> fail) | (rw [List.drop_zero, List.take_of_length_le] <;> first | rfl | (simp [cGTask, cI, cF, cGOp, cGEffect, cGCertificate, cN, cGChecker, cL_cF] <;> fail)) | (simp; omega))) (hb : GBL η (fE bs) (lk ρ) (fun i => inB [] i = true) (fun i => inB (keys bs) i = true) bs := by repeat (first | exact True.intro | exact gb_nil rfl rfl | refine gb_some ⟨rfl, rfl, rfl⟩ ?_ | refine And.intro ?_ ?_ | refine gw_ren rfl rfl rfl rfl rfl ?_ | refine gw_pren rfl rfl rfl rfl rfl | exact gw_thaw rfl rfl rfl | refine gw_tup ?_ | exact GWL.nil | exact gwll_nil | exact gw_c | exact GW.sl | exact GW.nil | exact gwll_same rfl FrI.h | refine GWL.cons ?_ ?_ | refine gwll_cons ?_ ?_ | (refine gw_own3 rfl rfl rfl FrI.h ?_ ?_ ?_) | exact GW.fr FrV.h | exact GW.fr (by assumption) | refine gw_agg ?_ | refine gw_clo ?_ | refine gw_ptr rfl rfl rfl ?_ | (refine gw_own rfl rfl rfl ?_ FrI.h ?_ ?_) | assumption | omega | rfl | (rw [List.length_map, ← List.length_append]; assumption) | (refine gwll_same ?_ FrI.h; (simp [cGTask, cI, cF, cGOp, cGEffect, cGCertificate, cN, cGChecker, cL_cF] <;> fail)) | (rw [List.map_set]; refine gwll_set (by first | rfl | omega | simp) ?_ ?_) | refine gwll_set (by first | rfl | omega | simp) ?_ ?_ | (rw [List.map_replicate]; refine gwll_rep ?_) | refine gwll_rep ?_ | (rw [List.map_append]; refine gwll_append ?_ ?_) | refine gwll_append ?_ ?_ | (simp [cGTask, cI, cF, cGOp, cGEffect, cGCertificate, cN, cGChecker, cL_cF, take_len_map] <;> fail) | (rw [List.drop_zero, List.take_of_length_le] <;> first | rfl | (simp [cGTask, cI, cF, cGOp, cGEffect, cGCertificate, cN, cGChecker, cL_cF] <;> fail)) | (simp; omega)))
    (hr : GW (fE bs') (updAll η ([] ++ nb)) (lk (backN ρ bs')) (fun _ => False) (fun i => inB (idsE nb) i = true) r r' := by repeat (first | exact True.intro | exact gb_nil rfl rfl | refine gb_some ⟨rfl, rfl, rfl⟩ ?_ | refine And.intro ?_ ?_ | refine gw_ren rfl rfl rfl rfl rfl ?_ | refine gw_pren rfl rfl rfl rfl rfl | exact gw_thaw rfl rfl rfl | refine gw_tup ?_ | exact GWL.nil | exact gwll_nil | exact gw_c | exact GW.sl | exact GW.nil | exact gwll_same rfl FrI.h | refine GWL.cons ?_ ?_ | refine gwll_cons ?_ ?_ | (refine gw_own3 rfl rfl rfl FrI.h ?_ ?_ ?_) | exact GW.fr FrV.h | exact GW.fr (by assumption) | refine gw_agg ?_ | refine gw_clo ?_ | refine gw_ptr rfl rfl rfl ?_ | (refine gw_own rfl rfl rfl ?_ FrI.h ?_ ?_) | assumption | omega | rfl | (rw [List.length_map, ← List.length_append]; assumption) | (refine gwll_same ?_ FrI.h; (simp [cGTask, cI, cF, cGOp, cGEffect, cGCertificate, cN, cGChecker, cL_cF] <;> fail)) | (rw [List.map_set]; refine gwll_set (by first | rfl | omega | simp) ?_ ?_) | refine gwll_set (by first | rfl | omega | simp) ?_ ?_ | (rw [List.map_replicate]; refine gwll_rep ?_) | refine gwll_rep ?_ | (rw [List.map_append]; refine gwll_append ?_ ?_) | refine gwll_append ?_ ?_ | (simp [cGTask, cI, cF, cGOp, cGEffect, cGCertificate, cN, cGChecker, cL_cF, take_len_map] <;> fail) | (rw [List.drop_zero, List.take_of_length_le] <;> first | rfl | (simp [cGTask, cI, cF, cGOp, cGEffect, cGCertificate, cN, cGChecker, cL_cF] <;> fail)) | (simp; omega)))
    (hnb : nbOk n η (updAll η ([] ++ nb)) ρ ks (fE bs') (lk (backN ρ bs')) (fun i => inB (idsE nb) i = true) bs' nb := by repeat (first | exact True.intro | rfl | exact Nat.le_of_ble_eq_true rfl | exact gb_nil rfl rfl | refine gb_some ⟨rfl, rfl, rfl⟩ ?_ | refine And.intro ?_ ?_ | refine gw_ren rfl rfl rfl rfl rfl ?_ | refine gw_pren rfl rfl rfl rfl rfl | exact gw_thaw rfl rfl rfl | refine gw_tup ?_ | exact GWL.nil | exact gwll_nil | exact gw_c | exact GW.sl | exact GW.nil | exact gwll_same rfl FrI.h | refine GWL.cons ?_ ?_ | refine gwll_cons ?_ ?_ | (refine gw_own3 rfl rfl rfl FrI.h ?_ ?_ ?_) | exact GW.fr FrV.h | exact GW.fr (by assumption) | refine gw_agg ?_ | refine gw_clo ?_ | refine gw_ptr rfl rfl rfl ?_ | (refine gw_own rfl rfl rfl ?_ FrI.h ?_ ?_) | assumption | omega | rfl | (rw [List.length_map, ← List.length_append]; assumption) | (refine gwll_same ?_ FrI.h; (simp [cGTask, cI, cF, cGOp, cGEffect, cGCertificate, cN, cGChecker, cL_cF] <;> fail)) | (rw [List.map_set]; refine gwll_set (by first | rfl | omega | simp) ?_ ?_) | refine gwll_set (by first | rfl | omega | simp) ?_ ?_ | (rw [List.map_replicate]; refine gwll_rep ?_) | refine gwll_rep ?_ | (rw [List.map_append]; refine gwll_append ?_ ?_) | refine gwll_append ?_ ?_ | (simp [cGTask, cI, cF, cGOp, cGEffect, cGCertificate, cN, cGChecker, cL_cF, take_len_map] <;> fail) | (rw [List.drop_zero, List.take_of_length_le] <;> first | rfl | (simp [cGTask, cI, cF, cGOp, cGEffect, cGCertificate, cN, cGChecker, cL_cF] <;> fail)) | (simp; omega))) (hs : sameUs η nb := by repeat (first | exact True.intro | refine And.intro rfl ?_)) : ∃ f : Foot, LF C n o τ η f ∧ K f := ⟨_, lf_callK (lf_callG ρ [] [] nb ho hd hargs hc hok True.intro True.intro hw hb hr hnb) hs, k⟩
def M_certificate_formed_L1 (a0 : List Fact) : Nat → Int → Option (Bool)
  | 0, _ => none
  | k6 + 1, v5 =>
    sel (decide (v5 < ((a0.map cF).length : Int)))
     (ix a0 v5 (fun y7 =>
       sel (decide (y7.1 < 0))
        (some false)
        (sel (decide (y7.1 ≥ 64))
          (some false)
          (sel (decide (y7.2 < 0))
            (some false)
            (sel (decide (y7.2 ≥ 64))
              (some false)
              (sel (decide (v5 > 0))
                (ix a0 (IntKind.i64.wrap (v5 - 1)) (fun y8 =>
                  sel (decide (y8.1 ≥ y7.1))
                   (some false)
                   (M_certificate_formed_L1 a0 k6 (IntKind.i64.wrap (v5 + 1)))))
                (M_certificate_formed_L1 a0 k6 (IntKind.i64.wrap (v5 + 1)))))))))
     (some true)
def M_certificate_formed (a0 : List Fact) : Option (Bool) :=
  M_certificate_formed_L1 a0 ((((a0.map cF).length : Int)).toNat + 1) 0
set_option maxHeartbeats 16000000 in
set_option maxRecDepth 100000 in
theorem A_certificate_formed (a0 : List Fact) {r1 : Bool} (h : M_certificate_formed a0 = some r1) : ACall cx 47 [.sl 2 (a0.map cF)] (.c (.bool r1)) := by
  refine acall_of Tryz.func47 rfl (by decide) rfl (Nat.le_of_ble_eq_true rfl) ?_; intro _; unfold M_certificate_formed at h; refine awp_seq ?_; refine awp_region ?_; intro _; refine dr_XDChk ?_; refine awp_seq ?_; refine awp_seq ?_; refine awp_region ?_; intro _; refine dr_XDChk ?_; refine awp_block ?_; refine awp_loop (α := Nat × Int) (fun x => mkS 46 [(0, .sl 2 (a0.map cF)), (5, .sl 2 (a0.map cF)), (6, .c (.int .i64 ((a0.map cF).length : Int))), (7, .c (.int .i64 x.2))] []) (fun x => M_certificate_formed_L1 a0 x.1 x.2 = some r1) (fun x => x.1) ((((a0.map cF).length : Int)).toNat + 1, 0) h ?_ ?_
  · repeat (first | exact True.intro | refine ci_XDChk ?_)
  · intro x1 h; intro _; obtain ⟨k6, m2, h⟩ := succ_of (f := fun n => M_certificate_formed_L1 a0 n x1.2) rfl h; replace h : M_certificate_formed_L1 a0 (k6 + 1) x1.2 = some r1 := h; rw [M_certificate_formed_L1] at h; refine awp_seq ?_; refine awp_region ?_; intro _; refine dr_XDChk ?_; refine awp_seq ?_; refine awp_cond ?_; intro _; refine spl h (fun c3 h => ?_) (fun c3 h => ?_)
    · refine awp_skip ?_; refine awp_seq ?_; refine awp_block ?_; refine awp_seq ?_; refine awp_region ?_; intro _; obtain ⟨y7, w4, q5, h⟩ := ix_ok h; refine Exists.intro (cF y7) (And.intro (map_at' w4) ?_); intro _; refine pr_XDChk ?_; refine dr_XDChk ?_; refine awp_seq ?_; refine awp_region ?_; intro _; refine spf h (fun c6 h => ?_) (fun c6 h => ?_)
      · intro _; refine spf h (fun c7 h => ?_) (fun c7 h => ?_)
        · intro _; refine spf h (fun c8 h => ?_) (fun c8 h => ?_)
          · intro _; refine spf h (fun c9 h => ?_) (fun c9 h => ?_)
            · intro _; refine spl h (fun c10 h => ?_) (fun c10 h => ?_)
              · intro _; obtain ⟨y8, w11, q12, h⟩ := ix_ok h; refine Exists.intro (cF y8) (And.intro (map_at' w11) ?_); intro _; refine pr_XDChk ?_; refine dr_XDChk ?_; refine awp_cond ?_; intro _; refine spl h (fun c13 h => ?_) (fun c13 h => ?_)
                · refine awp_seq ?_; refine awp_region ?_; intro _; refine dr_XDChk ?_; refine awp_ret ?_; intro _; obtain rfl := inj1 h; repeat (first | exact True.intro | refine ci_XDChk ?_)
                · refine awp_skip ?_; refine awp_region ?_; intro _; refine dr_XDChk ?_; refine ⟨(k6, (IntKind.i64.wrap (x1.2 + 1))), h, lt_of_succ m2, ?_⟩; repeat (first | exact True.intro | refine ci_XDChk ?_)
              · intro _; refine dr_XDChk ?_; refine awp_cond ?_; intro _; refine litF ?_; refine awp_skip ?_; refine awp_region ?_; intro _; refine dr_XDChk ?_; refine ⟨(k6, (IntKind.i64.wrap (x1.2 + 1))), h, lt_of_succ m2, ?_⟩; repeat (first | exact True.intro | refine ci_XDChk ?_)
            · intro _; refine dr_XDChk ?_; refine awp_cond ?_; intro _; refine litT ?_; refine awp_seq ?_; refine awp_region ?_; intro _; refine dr_XDChk ?_; refine awp_ret ?_; intro _; obtain rfl := inj1 h; repeat (first | exact True.intro | refine ci_XDChk ?_)
          · intro _; refine dr_XDChk ?_; refine awp_cond ?_; intro _; refine litT ?_; refine awp_seq ?_; refine awp_region ?_; intro _; refine dr_XDChk ?_; refine awp_ret ?_; intro _; obtain rfl := inj1 h; repeat (first | exact True.intro | refine ci_XDChk ?_)
        · intro _; refine dr_XDChk ?_; refine awp_cond ?_; intro _; refine litT ?_; refine awp_seq ?_; refine awp_region ?_; intro _; refine dr_XDChk ?_; refine awp_ret ?_; intro _; obtain rfl := inj1 h; repeat (first | exact True.intro | refine ci_XDChk ?_)
      · intro _; refine dr_XDChk ?_; refine awp_cond ?_; intro _; refine litT ?_; refine awp_seq ?_; refine awp_region ?_; intro _; refine dr_XDChk ?_; refine awp_ret ?_; intro _; obtain rfl := inj1 h; repeat (first | exact True.intro | refine ci_XDChk ?_)
    · refine awp_exit ?_; refine awp_seq ?_; refine awp_region ?_; intro _; refine dr_XDChk ?_; refine awp_ret ?_; intro _; obtain rfl := inj1 h; repeat (first | exact True.intro | refine ci_XDChk ?_)
def M_certificate_Check_L1 (a0 : GCertificate) : Nat → Int → Option (Unit ⊕ Er)
  | 0, _ => none
  | k20 + 1, v19 =>
    sel (decide (v19 < ((a0.Nogoods.map cN).length : Int)))
     (ix a0.Nogoods v19 (fun y21 =>
       ob1 (M_certificate_formed y21.1) (fun z22 =>
        sel (!z22)
         (some (.inr (Er.no 2)))
         (M_certificate_Check_L1 a0 k20 (IntKind.i64.wrap (v19 + 1))))))
     (some (.inl ()))
def M_certificate_Check_L2 (a0 : GCertificate) : Nat → Int → Option (Er)
  | 0, _ => none
  | k27 + 1, v26 =>
    sel (decide (v26 < ((a0.Nogoods.map cN).length : Int)))
     (ix a0.Nogoods v26 (fun y28 =>
       sel (decide (y28.2 < 0))
        (some (Er.no 1))
        (sel (decide (a0.Bound ≥ 0))
          (sel (decide (y28.2 ≥ a0.Bound))
            (some (Er.no 1))
            (sel (decide (a0.Bound < 0))
              (sel (y28.2 != 0)
                (some (Er.no 1))
                (M_certificate_Check_L2 a0 k27 (IntKind.i64.wrap (v26 + 1))))
              (M_certificate_Check_L2 a0 k27 (IntKind.i64.wrap (v26 + 1)))))
          (sel (decide (a0.Bound < 0))
            (sel (y28.2 != 0)
              (some (Er.no 1))
              (M_certificate_Check_L2 a0 k27 (IntKind.i64.wrap (v26 + 1))))
            (M_certificate_Check_L2 a0 k27 (IntKind.i64.wrap (v26 + 1)))))))
     (some Er.nil)
def M_certificate_Check (a0 : GCertificate) : Option (Er) :=
  ob1 (sel (decide (a0.Bound < (-1)))
    (some (.inr (Er.no 1)))
    (sel (decide (a0.Bound > 1099511627776))
      (some (.inr (Er.no 1)))
      (some (.inl ()))) : Option (Unit ⊕ Er))
   (osum
   (fun _ => sel (decide (((a0.Nogoods.map cN).length : Int) > 4096))
      (some (Er.no 5))
      (ob1 (M_certificate_Check_L1 a0 ((((a0.Nogoods.map cN).length : Int)).toNat + 1) 0 : Option (Unit ⊕ Er))
        (osum
        (fun _ => M_certificate_Check_L2 a0 ((((a0.Nogoods.map cN).length : Int)).toNat + 1) 0)
        (fun r12 => some r12))))
   (fun r1 => some r1))
set_option maxHeartbeats 16000000 in
set_option maxRecDepth 100000 in
theorem A_certificate_Check (a0 : GCertificate) {r1 : Er} (h : M_certificate_Check a0 = some r1) : ACall cx 26 [.agg [.c (.int .i64 a0.Bound), .sl 2 (a0.Nogoods.map cN)]] (eA r1) := by
  refine acall_of Tryz.func26 rfl (by decide) rfl (Nat.le_of_ble_eq_true rfl) ?_; intro _; unfold M_certificate_Check at h; refine awp_seq ?_; refine awp_region ?_; intro _; refine dr_XDChk ?_; obtain ⟨o1, h, hK2⟩ := ob1_ok h; refine awp_cut (α := Unit) (fun _ => mkS 68 [(1, .ptr 1 0 0 0)] [(1, ⟨29, 2, true, [[.c (.int .i64 a0.Bound), .sl 2 (a0.Nogoods.map cN)]]⟩)]) (fun v => o1 = (.inl v)) ?_ ?_
  · refine awp_seq ?_; refine awp_region ?_; intro _; refine spf h (fun c3 h => ?_) (fun c3 h => ?_)
    · intro _; refine dr_XDChk ?_; refine awp_cond ?_; intro _; refine spl h (fun c4 h => ?_) (fun c4 h => ?_)
      · refine awp_seq ?_; refine awp_region ?_; intro _; refine dr_XDChk ?_; refine awp_ret ?_; have j5 := Option.some.inj h; subst j5; replace h := (osum_r hK2); intro _; obtain rfl := inj1 h; repeat (first | exact True.intro | refine ci_XDChk ?_)
      · refine awp_skip ?_; refine ⟨(), (Option.some.inj h).symm, ?_⟩; repeat (first | exact True.intro | refine ci_XDChk ?_)
    · intro _; refine dr_XDChk ?_; refine awp_cond ?_; intro _; refine litT ?_; refine awp_seq ?_; refine awp_region ?_; intro _; refine dr_XDChk ?_; refine awp_ret ?_; have j6 := Option.some.inj h; subst j6; replace h := (osum_r hK2); intro _; obtain rfl := inj1 h; repeat (first | exact True.intro | refine ci_XDChk ?_)
  · rintro _ ho; have ho := ho.symm; subst ho; intro _; replace h := (osum_l hK2); refine awp_seq ?_; refine awp_seq ?_; refine awp_region ?_; intro _; refine dr_XDChk ?_; refine awp_cond ?_; intro _; refine spl h (fun c7 h => ?_) (fun c7 h => ?_)
    · refine awp_seq ?_; refine awp_region ?_; intro _; refine dr_XDChk ?_; refine awp_ret ?_; intro _; obtain rfl := inj1 h; repeat (first | exact True.intro | refine ci_XDChk ?_)
    · refine awp_skip ?_; obtain ⟨o8, h, hK9⟩ := ob1_ok h; refine awp_cut (α := Unit) (fun _ => mkS 68 [(1, .ptr 1 0 0 0)] [(1, ⟨29, 2, true, [[.c (.int .i64 a0.Bound), .sl 2 (a0.Nogoods.map cN)]]⟩)]) (fun v => o8 = (.inl v)) ?_ ?_
      · refine awp_seq ?_; refine awp_region ?_; intro _; refine dr_XDChk ?_; refine awp_block ?_; refine awp_loop (α := Nat × Int) (fun x => mkS 68 [(1, .ptr 1 0 0 0), (22, .sl 2 (a0.Nogoods.map cN)), (23, .c (.int .i64 ((a0.Nogoods.map cN).length : Int))), (24, .c (.int .i64 x.2))] [(1, ⟨29, 2, true, [[.c (.int .i64 a0.Bound), .sl 2 (a0.Nogoods.map cN)]]⟩)]) (fun x => M_certificate_Check_L1 a0 x.1 x.2 = some o8) (fun x => x.1) ((((a0.Nogoods.map cN).length : Int)).toNat + 1, 0) h ?_ ?_
        · repeat (first | exact True.intro | refine ci_XDChk ?_)
        · intro x10 h; intro _; obtain ⟨k20, m11, h⟩ := succ_of (f := fun n => M_certificate_Check_L1 a0 n x10.2) rfl h; replace h : M_certificate_Check_L1 a0 (k20 + 1) x10.2 = some o8 := h; rw [M_certificate_Check_L1] at h; refine awp_seq ?_; refine awp_region ?_; intro _; refine dr_XDChk ?_; refine awp_seq ?_; refine awp_cond ?_; intro _; refine spl h (fun c12 h => ?_) (fun c12 h => ?_)
          · refine awp_skip ?_; refine awp_seq ?_; refine awp_block ?_; refine awp_seq ?_; refine awp_region ?_; intro _; obtain ⟨y21, w13, q14, h⟩ := ix_ok h; refine Exists.intro (cN y21) (And.intro (map_at' w13) ?_); intro _; refine pr_XDChk ?_; refine dr_XDChk ?_; refine awp_seq ?_; refine awp_region ?_; intro _; obtain ⟨z22, u15, h⟩ := ob1_ok h; refine cl_XDChk rfl (A_certificate_formed y21.1 u15) ?_; intro _; refine dr_XDChk ?_; refine awp_cond ?_; intro _; refine spl h (fun c16 h => ?_) (fun c16 h => ?_)
            · refine awp_seq ?_; refine awp_region ?_; intro _; refine dr_XDChk ?_; refine awp_ret ?_; have j17 := Option.some.inj h; subst j17; replace h := (osum_r hK9); intro _; obtain rfl := inj1 h; repeat (first | exact True.intro | refine ci_XDChk ?_)
            · refine awp_skip ?_; refine awp_region ?_; intro _; refine dr_XDChk ?_; refine ⟨(k20, (IntKind.i64.wrap (x10.2 + 1))), h, lt_of_succ m11, ?_⟩; repeat (first | exact True.intro | refine ci_XDChk ?_)
          · refine awp_exit ?_; refine ⟨(), (Option.some.inj h).symm, ?_⟩; repeat (first | exact True.intro | refine ci_XDChk ?_)
      · rintro _ ho; have ho := ho.symm; subst ho; intro _; replace h := (osum_l hK9); refine awp_seq ?_; refine awp_seq ?_; refine awp_region ?_; intro _; refine dr_XDChk ?_; refine awp_block ?_; refine awp_loop (α := Nat × Int) (fun x => mkS 68 [(1, .ptr 1 0 0 0), (35, .sl 2 (a0.Nogoods.map cN)), (36, .c (.int .i64 ((a0.Nogoods.map cN).length : Int))), (37, .c (.int .i64 x.2))] [(1, ⟨29, 2, true, [[.c (.int .i64 a0.Bound), .sl 2 (a0.Nogoods.map cN)]]⟩)]) (fun x => M_certificate_Check_L2 a0 x.1 x.2 = some r1) (fun x => x.1) ((((a0.Nogoods.map cN).length : Int)).toNat + 1, 0) h ?_ ?_
        · repeat (first | exact True.intro | refine ci_XDChk ?_)
        · intro x18 h; intro _; obtain ⟨k27, m19, h⟩ := succ_of (f := fun n => M_certificate_Check_L2 a0 n x18.2) rfl h; replace h : M_certificate_Check_L2 a0 (k27 + 1) x18.2 = some r1 := h; rw [M_certificate_Check_L2] at h; refine awp_seq ?_; refine awp_region ?_; intro _; refine dr_XDChk ?_; refine awp_seq ?_; refine awp_cond ?_; intro _; refine spl h (fun c20 h => ?_) (fun c20 h => ?_)
          · refine awp_skip ?_; refine awp_seq ?_; refine awp_block ?_; refine awp_seq ?_; refine awp_region ?_; intro _; obtain ⟨y28, w21, q22, h⟩ := ix_ok h; refine Exists.intro (cN y28) (And.intro (map_at' w21) ?_); intro _; refine pr_XDChk ?_; refine dr_XDChk ?_; refine awp_seq ?_; refine awp_region ?_; intro _; refine spf h (fun c23 h => ?_) (fun c23 h => ?_)
            · intro _; refine spl h (fun c24 h => ?_) (fun c24 h => ?_)
              · intro _; refine spf h (fun c25 h => ?_) (fun c25 h => ?_)
                · intro _; refine spl h (fun c26 h => ?_) (fun c26 h => ?_)
                  · intro _; refine dr_XDChk ?_; refine awp_cond ?_; intro _; refine spl h (fun c27 h => ?_) (fun c27 h => ?_)
                    · refine awp_seq ?_; refine awp_region ?_; intro _; refine dr_XDChk ?_; refine awp_ret ?_; intro _; obtain rfl := inj1 h; repeat (first | exact True.intro | refine ci_XDChk ?_)
                    · refine awp_skip ?_; refine awp_region ?_; intro _; refine dr_XDChk ?_; refine ⟨(k27, (IntKind.i64.wrap (x18.2 + 1))), h, lt_of_succ m19, ?_⟩; repeat (first | exact True.intro | refine ci_XDChk ?_)
                  · intro _; refine dr_XDChk ?_; refine awp_cond ?_; intro _; refine litF ?_; refine awp_skip ?_; refine awp_region ?_; intro _; refine dr_XDChk ?_; refine ⟨(k27, (IntKind.i64.wrap (x18.2 + 1))), h, lt_of_succ m19, ?_⟩; repeat (first | exact True.intro | refine ci_XDChk ?_)
                · intro _; refine dr_XDChk ?_; refine awp_cond ?_; intro _; refine litT ?_; refine awp_seq ?_; refine awp_region ?_; intro _; refine dr_XDChk ?_; refine awp_ret ?_; intro _; obtain rfl := inj1 h; repeat (first | exact True.intro | refine ci_XDChk ?_)
              · intro _; refine spl h (fun c28 h => ?_) (fun c28 h => ?_)
                · intro _; refine dr_XDChk ?_; refine awp_cond ?_; intro _; refine spl h (fun c29 h => ?_) (fun c29 h => ?_)
                  · refine awp_seq ?_; refine awp_region ?_; intro _; refine dr_XDChk ?_; refine awp_ret ?_; intro _; obtain rfl := inj1 h; repeat (first | exact True.intro | refine ci_XDChk ?_)
                  · refine awp_skip ?_; refine awp_region ?_; intro _; refine dr_XDChk ?_; refine ⟨(k27, (IntKind.i64.wrap (x18.2 + 1))), h, lt_of_succ m19, ?_⟩; repeat (first | exact True.intro | refine ci_XDChk ?_)
                · intro _; refine dr_XDChk ?_; refine awp_cond ?_; intro _; refine litF ?_; refine awp_skip ?_; refine awp_region ?_; intro _; refine dr_XDChk ?_; refine ⟨(k27, (IntKind.i64.wrap (x18.2 + 1))), h, lt_of_succ m19, ?_⟩; repeat (first | exact True.intro | refine ci_XDChk ?_)
            · intro _; refine dr_XDChk ?_; refine awp_cond ?_; intro _; refine litT ?_; refine awp_seq ?_; refine awp_region ?_; intro _; refine dr_XDChk ?_; refine awp_ret ?_; intro _; obtain rfl := inj1 h; repeat (first | exact True.intro | refine ci_XDChk ?_)
          · refine awp_exit ?_; refine awp_seq ?_; refine awp_region ?_; intro _; refine dr_XDChk ?_; refine awp_ret ?_; intro _; obtain rfl := inj1 h; repeat (first | exact True.intro | refine ci_XDChk ?_)
def M_certificate_Proper_L1 (a0 : List Int) (a1 : GCertificate) : Nat → Int → Option (Er)
  | 0, _ => none
  | k9 + 1, v8 =>
    sel (decide (v8 < ((a1.Nogoods.map cN).length : Int)))
     (ix a1.Nogoods v8 (fun y10 =>
       ob1 (M_task_Facts a0 y10.1) (fun z11 =>
        sel (!z11)
         (some (Er.no 2))
         (M_certificate_Proper_L1 a0 a1 k9 (IntKind.i64.wrap (v8 + 1))))))
     (some Er.nil)
def M_certificate_Proper (a0 : List Int) (a1 : GCertificate) : Option (Er) :=
  ob1 (M_certificate_Check a1) (fun z1 =>
   erM z1
    (M_certificate_Proper_L1 a0 a1 ((((a1.Nogoods.map cN).length : Int)).toNat + 1) 0)
    (fun e2 => some (Er.no e2)))
set_option maxHeartbeats 16000000 in
set_option maxRecDepth 100000 in
theorem A_certificate_Proper (a0 : List Int) (a1 : GCertificate) {r1 : Er} (h : M_certificate_Proper a0 a1 = some r1) : ACall cx 34 [.sl 1 (a0.map cI), .agg [.c (.int .i64 a1.Bound), .sl 2 (a1.Nogoods.map cN)]] (eA r1) := by
  refine acall_of Tryz.func34 rfl (by decide) rfl (Nat.le_of_ble_eq_true rfl) ?_; intro _; unfold M_certificate_Proper at h; refine awp_seq ?_; refine awp_region ?_; intro _; refine dr_XDChk ?_; refine awp_seq ?_; refine awp_seq ?_; refine awp_region ?_; intro _; obtain ⟨z1, u1, h⟩ := ob1_ok h; refine cl_XDChk rfl (A_certificate_Check a1 u1) ?_; intro _; refine dr_XDChk ?_; refine awp_seq ?_; rcases z1 with _ | e2
  · replace h := erM_nil h; refine awp_region ?_; intro _; refine dr_XDChk ?_; refine awp_cond ?_; intro _; refine litF ?_; refine awp_skip ?_; refine awp_seq ?_; refine awp_seq ?_; refine awp_region ?_; intro _; refine dr_XDChk ?_; refine awp_block ?_; refine awp_loop (α := Nat × Int) (fun x => mkS 27 [(0, .sl 1 (a0.map cI)), (14, .sl 2 (a1.Nogoods.map cN)), (15, .c (.int .i64 ((a1.Nogoods.map cN).length : Int))), (16, .c (.int .i64 x.2))] []) (fun x => M_certificate_Proper_L1 a0 a1 x.1 x.2 = some r1) (fun x => x.1) ((((a1.Nogoods.map cN).length : Int)).toNat + 1, 0) h ?_ ?_
    · repeat (first | exact True.intro | refine ci_XDChk ?_)
    · intro x2 h; intro _; obtain ⟨k9, m3, h⟩ := succ_of (f := fun n => M_certificate_Proper_L1 a0 a1 n x2.2) rfl h; replace h : M_certificate_Proper_L1 a0 a1 (k9 + 1) x2.2 = some r1 := h; rw [M_certificate_Proper_L1] at h; refine awp_seq ?_; refine awp_region ?_; intro _; refine dr_XDChk ?_; refine awp_seq ?_; refine awp_cond ?_; intro _; refine spl h (fun c4 h => ?_) (fun c4 h => ?_)
      · refine awp_skip ?_; refine awp_seq ?_; refine awp_block ?_; refine awp_seq ?_; refine awp_region ?_; intro _; obtain ⟨y10, w5, q6, h⟩ := ix_ok h; refine Exists.intro (cN y10) (And.intro (map_at' w5) ?_); intro _; refine pr_XDChk ?_; refine dr_XDChk ?_; refine awp_seq ?_; refine awp_region ?_; intro _; obtain ⟨z11, u7, h⟩ := ob1_ok h; refine cl_XDChk rfl (A_task_Facts a0 y10.1 u7) ?_; intro _; refine dr_XDChk ?_; refine awp_cond ?_; intro _; refine spl h (fun c8 h => ?_) (fun c8 h => ?_)
        · refine awp_seq ?_; refine awp_region ?_; intro _; refine dr_XDChk ?_; refine awp_ret ?_; intro _; obtain rfl := inj1 h; repeat (first | exact True.intro | refine ci_XDChk ?_)
        · refine awp_skip ?_; refine awp_region ?_; intro _; refine dr_XDChk ?_; refine ⟨(k9, (IntKind.i64.wrap (x2.2 + 1))), h, lt_of_succ m3, ?_⟩; repeat (first | exact True.intro | refine ci_XDChk ?_)
      · refine awp_exit ?_; refine awp_seq ?_; refine awp_region ?_; intro _; refine dr_XDChk ?_; refine awp_ret ?_; intro _; obtain rfl := inj1 h; repeat (first | exact True.intro | refine ci_XDChk ?_)
  · replace h := erM_no h; refine awp_region ?_; intro _; refine dr_XDChk ?_; refine awp_cond ?_; intro _; refine litT ?_; refine awp_seq ?_; refine awp_region ?_; intro _; refine dr_XDChk ?_; refine awp_ret ?_; intro _; obtain rfl := inj1 h; repeat (first | exact True.intro | refine ci_XDChk ?_)
def M_stratagem_checker_checker_counting_L1 (a0 : GChecker) (a1 : Int) : Nat → Int → (List (List Fact)) → Option (List (List Fact))
  | 0, _, _ => none
  | k7 + 1, v5, v6 =>
    sel (decide (v5 < ((a0.c.Nogoods.map cN).length : Int)))
     (ix a0.c.Nogoods v5 (fun y8 =>
       sel (decide (y8.2 ≤ a1))
        (grd ((v6.length + 1) * 24 ≤ 140737488355328) (M_stratagem_checker_checker_counting_L1 a0 a1 k7 (IntKind.i64.wrap (v5 + 1)) (v6 ++ [y8.1])))
        (M_stratagem_checker_checker_counting_L1 a0 a1 k7 (IntKind.i64.wrap (v5 + 1)) v6)))
     (grd (v6.length ≤ 140737488355328) (some v6))
def M_stratagem_checker_checker_counting (a0 : GChecker) (a1 : Int) : Option (List (List Fact)) :=
  M_stratagem_checker_checker_counting_L1 a0 a1 ((((a0.c.Nogoods.map cN).length : Int)).toNat + 1) 0 []
set_option maxHeartbeats 16000000 in
set_option maxRecDepth 100000 in
theorem A_stratagem_checker_checker_counting (a0 : GChecker) (a1 : Int) {r1 : List (List Fact)} (h : M_stratagem_checker_checker_counting a0 a1 = some r1) : ACallG cx 62 [.ptr 29 0 0 0, .c (.int .i64 a1)] [(29, ⟨73, 7, true, [[.sl 1 (a0.t.Vars.map cI), .sl 1 (a0.t.Init.map cI), .sl 2 (a0.t.Goal.map cF), .sl 4 (a0.t.Ops.map cGOp), .c (.int .i64 a0.c.Bound), .sl 2 (a0.c.Nogoods.map cN), .c (.int .i64 a0.steps)]]⟩)] [29] (.sl 1 (r1.map cL_cF)) [(29, ⟨73, 7, true, [[.sl 1 (a0.t.Vars.map cI), .sl 1 (a0.t.Init.map cI), .sl 2 (a0.t.Goal.map cF), .sl 4 (a0.t.Ops.map cGOp), .c (.int .i64 a0.c.Bound), .sl 2 (a0.c.Nogoods.map cN), .c (.int .i64 a0.steps)]]⟩)] := by
  refine acallg_of 31 Tryz.func62 rfl (by decide) rfl (Nat.le_of_ble_eq_true rfl) rfl rfl ?_; intro _; unfold M_stratagem_checker_checker_counting at h; refine awp_seq ?_; refine awp_region ?_; intro _; refine dr_XDChk ?_; refine awp_seq ?_; refine awp_region ?_; intro _; refine dr_XDChk ?_; refine awp_seq ?_; refine awp_seq ?_; refine awp_region ?_; intro _; refine dr_XDChk ?_; refine awp_block ?_; refine awp_loop (α := Nat × Int × (List (List Fact))) (fun x => mkG 29 31 [(1, .c (.int .i64 a1)), (5, .own 26 0 0 x.2.2.length), (12, .sl 2 (a0.c.Nogoods.map cN)), (13, .c (.int .i64 ((a0.c.Nogoods.map cN).length : Int))), (14, .c (.int .i64 x.2.1))] [(26, ⟨23, 1, false, x.2.2.map cL_cF⟩), (29, ⟨73, 7, true, [[.sl 1 (a0.t.Vars.map cI), .sl 1 (a0.t.Init.map cI), .sl 2 (a0.t.Goal.map cF), .sl 4 (a0.t.Ops.map cGOp), .c (.int .i64 a0.c.Bound), .sl 2 (a0.c.Nogoods.map cN), .c (.int .i64 a0.steps)]]⟩)]) (fun x => M_stratagem_checker_checker_counting_L1 a0 a1 x.1 x.2.1 x.2.2 = some r1) (fun x => x.1) ((((a0.c.Nogoods.map cN).length : Int)).toNat + 1, 0, []) h ?_ ?_
  · repeat (first | exact True.intro | refine ci_XDChk ?_)
  · intro x1 h; intro _; obtain ⟨k7, m2, h⟩ := succ_of (f := fun n => M_stratagem_checker_checker_counting_L1 a0 a1 n x1.2.1 x1.2.2) rfl h; replace h : M_stratagem_checker_checker_counting_L1 a0 a1 (k7 + 1) x1.2.1 x1.2.2 = some r1 := h; rw [M_stratagem_checker_checker_counting_L1] at h; refine awp_seq ?_; refine awp_region ?_; intro _; refine dr_XDChk ?_; refine awp_seq ?_; refine awp_cond ?_; intro _; refine spl h (fun c3 h => ?_) (fun c3 h => ?_)
    · refine awp_skip ?_; refine awp_seq ?_; refine awp_block ?_; refine awp_seq ?_; refine awp_region ?_; intro _; obtain ⟨y8, w4, q5, h⟩ := ix_ok h; refine Exists.intro (cN y8) (And.intro (map_at' w4) ?_); intro _; refine pr_XDChk ?_; refine dr_XDChk ?_; refine awp_seq ?_; refine awp_region ?_; intro _; refine dr_XDChk ?_; refine awp_cond ?_; intro _; refine spl h (fun c6 h => ?_) (fun c6 h => ?_)
      · refine awp_region ?_; intro _; obtain ⟨q7, h⟩ := grd_ok h; refine pl_XDChk ?_; refine pl_XDChk ?_; refine And.intro (by first | assumption | (show (x1.2.2.length + 1) * 24 ≤ 140737488355328; assumption) | omega | (simp; omega)) ?_; refine pe_XDChk ?_; refine dr_XDChk ?_; refine awp_region ?_; intro _; refine dr_XDChk ?_; refine ⟨(k7, (IntKind.i64.wrap (x1.2.1 + 1)), (x1.2.2 ++ [y8.1])), h, lt_of_succ m2, ?_⟩; repeat (first | exact True.intro | refine ci_XDChk ?_)
      · refine awp_skip ?_; refine awp_region ?_; intro _; refine dr_XDChk ?_; refine ⟨(k7, (IntKind.i64.wrap (x1.2.1 + 1)), x1.2.2), h, lt_of_succ m2, ?_⟩; repeat (first | exact True.intro | refine ci_XDChk ?_)
    · refine awp_exit ?_; refine awp_seq ?_; refine awp_region ?_; intro _; refine dr_XDChk ?_; refine awp_ret ?_; obtain ⟨q8, h⟩ := grd_ok h; intro _; obtain rfl := inj1 h; all_goals (refine Exists.intro [] (And.intro rfl (And.intro ?_ ?_))); all_goals (repeat (first | exact True.intro | exact gb_nil rfl rfl | refine gb_some ⟨rfl, rfl, rfl⟩ ?_ | refine And.intro ?_ ?_ | refine gw_ren rfl rfl rfl rfl rfl ?_ | refine gw_pren rfl rfl rfl rfl rfl | exact gw_thaw rfl rfl rfl | refine gw_tup ?_ | exact GWL.nil | exact gwll_nil | exact gw_c | exact GW.sl | exact GW.nil | exact gwll_same rfl FrI.h | refine GWL.cons ?_ ?_ | refine gwll_cons ?_ ?_ | (refine gw_own3 rfl rfl rfl FrI.h ?_ ?_ ?_) | exact GW.fr FrV.h | exact GW.fr (by assumption) | refine gw_agg ?_ | refine gw_clo ?_ | refine gw_ptr rfl rfl rfl ?_ | (refine gw_own rfl rfl rfl ?_ FrI.h ?_ ?_) | assumption | omega | rfl | (rw [List.length_map, ← List.length_append]; assumption) | (refine gwll_same ?_ FrI.h; (simp [cGTask, cI, cF, cGOp, cGEffect, cGCertificate, cN, cGChecker, cL_cF] <;> fail)) | (rw [List.map_set]; refine gwll_set (by first | rfl | omega | simp) ?_ ?_) | refine gwll_set (by first | rfl | omega | simp) ?_ ?_ | (rw [List.map_replicate]; refine gwll_rep ?_) | refine gwll_rep ?_ | (rw [List.map_append]; refine gwll_append ?_ ?_) | refine gwll_append ?_ ?_ | (simp [cGTask, cI, cF, cGOp, cGEffect, cGCertificate, cN, cGChecker, cL_cF, take_len_map] <;> fail) | (rw [List.drop_zero, List.take_of_length_le] <;> first | rfl | (simp [cGTask, cI, cF, cGOp, cGEffect, cGCertificate, cN, cGChecker, cL_cF] <;> fail)) | (simp; omega)))
def M_stratagem_checker_checker_covered (g : Nat) (a0 : GChecker) (a1 : List Fact) (a2 : Int) : Option (Bool × Er × GChecker) :=
  ob1 (M_stratagem_checker_checker_counting a0 a2) (fun z1 =>
   ob3 (M_partial_Covered g a0.t.Vars a1 z1 a0.steps) (fun z2 z3 z4 =>
    erM z4
     (some (z2, Er.nil, { t := a0.t, c := a0.c, steps := (IntKind.i64.wrap (a0.steps - z3)) : GChecker }))
     (fun e5 => some (false, (Er.no e5), a0))))
set_option maxHeartbeats 16000000 in
set_option maxRecDepth 100000 in
theorem A_stratagem_checker_checker_covered (g : Nat) (a0 : GChecker) (a1 : List Fact) (a2 : Int) {r1 : Bool} {r2 : Er} {r3 : GChecker} (h : M_stratagem_checker_checker_covered g a0 a1 a2 = some (r1, r2, r3)) : ACallG cx 36 [.ptr 41 0 0 0, .sl 2 (a1.map cF), .c (.int .i64 a2)] [(41, ⟨73, 7, true, [[.sl 1 (a0.t.Vars.map cI), .sl 1 (a0.t.Init.map cI), .sl 2 (a0.t.Goal.map cF), .sl 4 (a0.t.Ops.map cGOp), .c (.int .i64 a0.c.Bound), .sl 2 (a0.c.Nogoods.map cN), .c (.int .i64 a0.steps)]]⟩)] [41] (.tup [.c (.bool r1), eA r2]) [(41, ⟨73, 7, true, [[.sl 1 (r3.t.Vars.map cI), .sl 1 (r3.t.Init.map cI), .sl 2 (r3.t.Goal.map cF), .sl 4 (r3.t.Ops.map cGOp), .c (.int .i64 r3.c.Bound), .sl 2 (r3.c.Nogoods.map cN), .c (.int .i64 r3.steps)]]⟩)] := by
  refine acallg_of 44 Tryz.func36 rfl (by decide) rfl (Nat.le_of_ble_eq_true rfl) rfl rfl ?_; intro _; unfold M_stratagem_checker_checker_covered at h; refine awp_seq ?_; refine awp_region ?_; intro _; refine dr_XDChk ?_; refine awp_seq ?_; refine awp_region ?_; intro _; obtain ⟨z1, u1, h⟩ := ob1_ok h; refine clk_XDChk [(29, 41)] [(41, ⟨0, some ⟨73, 7, true, [[.sl 1 (a0.t.Vars.map cI), .sl 1 (a0.t.Init.map cI), .sl 2 (a0.t.Goal.map cF), .sl 4 (a0.t.Ops.map cGOp), .c (.int .i64 a0.c.Bound), .sl 2 (a0.c.Nogoods.map cN), .c (.int .i64 a0.steps)]]⟩⟩)] (.sl 1 (z1.map cL_cF)) rfl rfl (A_stratagem_checker_checker_counting a0 a2 u1) ?_; intro _; obtain ⟨z2, z3, z4, u2, h⟩ := ob3_ok h; refine cl_XDChk rfl (A_partial_Covered g a0.t.Vars a1 z1 a0.steps u2) ?_; intro _; refine dr_XDChk ?_; refine awp_seq ?_; refine awp_seq ?_; rcases z4 with _ | e5
  · replace h := erM_nil h; refine awp_region ?_; intro _; refine dr_XDChk ?_; refine awp_cond ?_; intro _; refine litF ?_; refine awp_skip ?_; refine awp_seq ?_; refine awp_region ?_; intro _; refine dr_XDChk ?_; refine awp_seq ?_; refine awp_region ?_; intro _; refine dr_XDChk ?_; refine awp_ret ?_; intro _; obtain ⟨rfl, rfl, rfl⟩ := inj3 h; all_goals (refine Exists.intro [] (And.intro rfl (And.intro ?_ ?_))); all_goals (repeat (first | exact True.intro | exact gb_nil rfl rfl | refine gb_some ⟨rfl, rfl, rfl⟩ ?_ | refine And.intro ?_ ?_ | refine gw_ren rfl rfl rfl rfl rfl ?_ | refine gw_pren rfl rfl rfl rfl rfl | exact gw_thaw rfl rfl rfl | refine gw_tup ?_ | exact GWL.nil | exact gwll_nil | exact gw_c | exact GW.sl | exact GW.nil | exact gwll_same rfl FrI.h | refine GWL.cons ?_ ?_ | refine gwll_cons ?_ ?_ | (refine gw_own3 rfl rfl rfl FrI.h ?_ ?_ ?_) | exact GW.fr FrV.h | exact GW.fr (by assumption) | refine gw_agg ?_ | refine gw_clo ?_ | refine gw_ptr rfl rfl rfl ?_ | (refine gw_own rfl rfl rfl ?_ FrI.h ?_ ?_) | assumption | omega | rfl | (rw [List.length_map, ← List.length_append]; assumption) | (refine gwll_same ?_ FrI.h; (simp [cGTask, cI, cF, cGOp, cGEffect, cGCertificate, cN, cGChecker, cL_cF] <;> fail)) | (rw [List.map_set]; refine gwll_set (by first | rfl | omega | simp) ?_ ?_) | refine gwll_set (by first | rfl | omega | simp) ?_ ?_ | (rw [List.map_replicate]; refine gwll_rep ?_) | refine gwll_rep ?_ | (rw [List.map_append]; refine gwll_append ?_ ?_) | refine gwll_append ?_ ?_ | (simp [cGTask, cI, cF, cGOp, cGEffect, cGCertificate, cN, cGChecker, cL_cF, take_len_map] <;> fail) | (rw [List.drop_zero, List.take_of_length_le] <;> first | rfl | (simp [cGTask, cI, cF, cGOp, cGEffect, cGCertificate, cN, cGChecker, cL_cF] <;> fail)) | (simp; omega)))
  · replace h := erM_no h; refine awp_region ?_; intro _; refine dr_XDChk ?_; refine awp_cond ?_; intro _; refine litT ?_; refine awp_seq ?_; refine awp_region ?_; intro _; refine dr_XDChk ?_; refine awp_ret ?_; intro _; obtain ⟨rfl, rfl, rfl⟩ := inj3 h; all_goals (refine Exists.intro [] (And.intro rfl (And.intro ?_ ?_))); all_goals (repeat (first | exact True.intro | exact gb_nil rfl rfl | refine gb_some ⟨rfl, rfl, rfl⟩ ?_ | refine And.intro ?_ ?_ | refine gw_ren rfl rfl rfl rfl rfl ?_ | refine gw_pren rfl rfl rfl rfl rfl | exact gw_thaw rfl rfl rfl | refine gw_tup ?_ | exact GWL.nil | exact gwll_nil | exact gw_c | exact GW.sl | exact GW.nil | exact gwll_same rfl FrI.h | refine GWL.cons ?_ ?_ | refine gwll_cons ?_ ?_ | (refine gw_own3 rfl rfl rfl FrI.h ?_ ?_ ?_) | exact GW.fr FrV.h | exact GW.fr (by assumption) | refine gw_agg ?_ | refine gw_clo ?_ | refine gw_ptr rfl rfl rfl ?_ | (refine gw_own rfl rfl rfl ?_ FrI.h ?_ ?_) | assumption | omega | rfl | (rw [List.length_map, ← List.length_append]; assumption) | (refine gwll_same ?_ FrI.h; (simp [cGTask, cI, cF, cGOp, cGEffect, cGCertificate, cN, cGChecker, cL_cF] <;> fail)) | (rw [List.map_set]; refine gwll_set (by first | rfl | omega | simp) ?_ ?_) | refine gwll_set (by first | rfl | omega | simp) ?_ ?_ | (rw [List.map_replicate]; refine gwll_rep ?_) | refine gwll_rep ?_ | (rw [List.map_append]; refine gwll_append ?_ ?_) | refine gwll_append ?_ ?_ | (simp [cGTask, cI, cF, cGOp, cGEffect, cGCertificate, cN, cGChecker, cL_cF, take_len_map] <;> fail) | (rw [List.drop_zero, List.take_of_length_le] <;> first | rfl | (simp [cGTask, cI, cF, cGOp, cGEffect, cGCertificate, cN, cGChecker, cL_cF] <;> fail)) | (simp; omega)))
def M_stratagem_checker_checker_step_L1 (g : Nat) (v2 : Int) (z7 : List (List Fact)) : Nat → Int → (List Int) → (List Int) → (List Fact) → (List GOp) → Int → (List Nogood) → Int → Option (Er × GChecker)
  | 0, _, _, _, _, _, _, _, _ => none
  | k36 + 1, v28, v29, v30, v31, v32, v33, v34, v35 =>
    sel (decide (v28 < ((z7.map cL_cF).length : Int)))
     (ix z7 v28 (fun y37 =>
       ob3 (M_stratagem_checker_checker_covered g ({ t := { Vars := v29, Init := v30, Goal := v31, Ops := v32 : GTask }, c := { Bound := v33, Nogoods := v34 : GCertificate }, steps := v35 : GChecker }) y37 v2) (fun z38 z39 c40 =>
        erM z39
         (sel (!z38)
           (some ((Er.no 19), c40))
           (M_stratagem_checker_checker_step_L1 g v2 z7 k36 (IntKind.i64.wrap (v28 + 1)) c40.t.Vars c40.t.Init c40.t.Goal c40.t.Ops c40.c.Bound c40.c.Nogoods c40.steps))
         (fun e41 => some ((Er.no e41), c40)))))
     (some (Er.nil, { t := { Vars := v29, Init := v30, Goal := v31, Ops := v32 : GTask }, c := { Bound := v33, Nogoods := v34 : GCertificate }, steps := v35 : GChecker }))
def M_stratagem_checker_checker_step (g : Nat) (a0 : GChecker) (a1 : Nogood) (a2 : Int) : Option (Er × GChecker) :=
  ob1 (sel (decide (a0.c.Bound ≥ 0))
    (ix a0.t.Ops a2 (fun y6 =>
      sel (decide ((IntKind.i64.wrap (a1.2 + y6.Cost)) ≥ a0.c.Bound))
       (some (.inr (Er.nil, a0)))
       (some (.inl (IntKind.i64.wrap (a1.2 + y6.Cost))))))
    (some (.inl 0)) : Option (Int ⊕ (Er × GChecker)))
   (osum
   (fun v2 => ob2 (M_regress_Regress g a0.t a2 a1.1) (fun z7 z8 =>
      erM z8
       (M_stratagem_checker_checker_step_L1 g v2 z7 ((((z7.map cL_cF).length : Int)).toNat + 1) 0 a0.t.Vars a0.t.Init a0.t.Goal a0.t.Ops a0.c.Bound a0.c.Nogoods a0.steps)
       (fun e9 => some ((Er.no e9), a0))))
   (fun (r3, r4) => some (r3, r4)))
set_option maxHeartbeats 16000000 in
set_option maxRecDepth 100000 in
theorem A_stratagem_checker_checker_step (g : Nat) (a0 : GChecker) (a1 : Nogood) (a2 : Int) {r1 : Er} {r2 : GChecker} (h : M_stratagem_checker_checker_step g a0 a1 a2 = some (r1, r2)) : ACallG cx 37 [.ptr 73 0 0 0, .agg [.sl 2 (a1.1.map cF), .c (.int .i64 a1.2)], .c (.int .i64 a2)] [(73, ⟨73, 7, true, [[.sl 1 (a0.t.Vars.map cI), .sl 1 (a0.t.Init.map cI), .sl 2 (a0.t.Goal.map cF), .sl 4 (a0.t.Ops.map cGOp), .c (.int .i64 a0.c.Bound), .sl 2 (a0.c.Nogoods.map cN), .c (.int .i64 a0.steps)]]⟩)] [73] (eA r1) [(73, ⟨73, 7, true, [[.sl 1 (r2.t.Vars.map cI), .sl 1 (r2.t.Init.map cI), .sl 2 (r2.t.Goal.map cF), .sl 4 (r2.t.Ops.map cGOp), .c (.int .i64 r2.c.Bound), .sl 2 (r2.c.Nogoods.map cN), .c (.int .i64 r2.steps)]]⟩)] := by
  refine acallg_of 76 Tryz.func37 rfl (by decide) rfl (Nat.le_of_ble_eq_true rfl) rfl rfl ?_; intro _; unfold M_stratagem_checker_checker_step at h; refine awp_seq ?_; refine awp_region ?_; intro _; refine dr_XDChk ?_; refine awp_seq ?_; refine awp_region ?_; intro _; refine dr_XDChk ?_; obtain ⟨o1, h, hK2⟩ := ob1_ok h; refine awp_cut (α := Int) (fun v2 => mkG 73 76 [(0, .ptr 73 0 0 0), (2, .c (.int .i64 a2)), (4, .ptr 4 0 0 0), (7, .c (.int .i64 v2))] [(4, ⟨51, 2, true, [[.sl 2 (a1.1.map cF), .c (.int .i64 a1.2)]]⟩), (73, ⟨73, 7, true, [[.sl 1 (a0.t.Vars.map cI), .sl 1 (a0.t.Init.map cI), .sl 2 (a0.t.Goal.map cF), .sl 4 (a0.t.Ops.map cGOp), .c (.int .i64 a0.c.Bound), .sl 2 (a0.c.Nogoods.map cN), .c (.int .i64 a0.steps)]]⟩)]) (fun v => o1 = (.inl v)) ?_ ?_
  · refine awp_seq ?_; refine awp_region ?_; intro _; refine dr_XDChk ?_; refine awp_cond ?_; intro _; refine spl h (fun c3 h => ?_) (fun c3 h => ?_)
    · refine awp_seq ?_; refine awp_region ?_; intro _; obtain ⟨y6, w4, q5, h⟩ := ix_ok h; refine Exists.intro (cGOp y6) (And.intro (map_at' w4) ?_); intro _; refine pr_XDChk ?_; refine dr_XDChk ?_; refine awp_seq ?_; refine awp_region ?_; intro _; refine dr_XDChk ?_; refine awp_cond ?_; intro _; refine spl h (fun c6 h => ?_) (fun c6 h => ?_)
      · refine awp_seq ?_; refine awp_region ?_; intro _; refine dr_XDChk ?_; refine awp_ret ?_; have j7 := Option.some.inj h; subst j7; replace h := (osum_r hK2); intro _; obtain ⟨rfl, rfl⟩ := inj2 h; all_goals (refine Exists.intro [] (And.intro rfl (And.intro ?_ ?_))); all_goals (repeat (first | exact True.intro | exact gb_nil rfl rfl | refine gb_some ⟨rfl, rfl, rfl⟩ ?_ | refine And.intro ?_ ?_ | refine gw_ren rfl rfl rfl rfl rfl ?_ | refine gw_pren rfl rfl rfl rfl rfl | exact gw_thaw rfl rfl rfl | refine gw_tup ?_ | exact GWL.nil | exact gwll_nil | exact gw_c | exact GW.sl | exact GW.nil | exact gwll_same rfl FrI.h | refine GWL.cons ?_ ?_ | refine gwll_cons ?_ ?_ | (refine gw_own3 rfl rfl rfl FrI.h ?_ ?_ ?_) | exact GW.fr FrV.h | exact GW.fr (by assumption) | refine gw_agg ?_ | refine gw_clo ?_ | refine gw_ptr rfl rfl rfl ?_ | (refine gw_own rfl rfl rfl ?_ FrI.h ?_ ?_) | assumption | omega | rfl | (rw [List.length_map, ← List.length_append]; assumption) | (refine gwll_same ?_ FrI.h; (simp [cGTask, cI, cF, cGOp, cGEffect, cGCertificate, cN, cGChecker, cL_cF] <;> fail)) | (rw [List.map_set]; refine gwll_set (by first | rfl | omega | simp) ?_ ?_) | refine gwll_set (by first | rfl | omega | simp) ?_ ?_ | (rw [List.map_replicate]; refine gwll_rep ?_) | refine gwll_rep ?_ | (rw [List.map_append]; refine gwll_append ?_ ?_) | refine gwll_append ?_ ?_ | (simp [cGTask, cI, cF, cGOp, cGEffect, cGCertificate, cN, cGChecker, cL_cF, take_len_map] <;> fail) | (rw [List.drop_zero, List.take_of_length_le] <;> first | rfl | (simp [cGTask, cI, cF, cGOp, cGEffect, cGCertificate, cN, cGChecker, cL_cF] <;> fail)) | (simp; omega)))
      · refine awp_skip ?_; refine ⟨(IntKind.i64.wrap (a1.2 + y6.Cost)), (Option.some.inj h).symm, ?_⟩; repeat (first | exact True.intro | refine ci_XDChk ?_)
    · refine awp_skip ?_; refine ⟨0, (Option.some.inj h).symm, ?_⟩; repeat (first | exact True.intro | refine ci_XDChk ?_)
  · rintro v2 ho; have ho := ho.symm; subst ho; intro _; replace h := (osum_l hK2); refine awp_seq ?_; refine awp_region ?_; intro _; obtain ⟨z7, z8, u8, h⟩ := ob2_ok h; refine cl_XDChk rfl (A_regress_Regress g a0.t a2 a1.1 u8) ?_; intro _; refine dr_XDChk ?_; refine awp_seq ?_; refine awp_seq ?_; rcases z8 with _ | e9
    · replace h := erM_nil h; refine awp_region ?_; intro _; refine dr_XDChk ?_; refine awp_cond ?_; intro _; refine litF ?_; refine awp_skip ?_; refine awp_seq ?_; refine awp_seq ?_; refine awp_region ?_; intro _; refine dr_XDChk ?_; refine awp_block ?_; refine awp_loop (α := Nat × Int × (List Int) × (List Int) × (List Fact) × (List GOp) × Int × (List Nogood) × Int) (fun x => mkG 73 76 [(0, .ptr 73 0 0 0), (7, .c (.int .i64 v2)), (53, .sl 1 (z7.map cL_cF)), (54, .c (.int .i64 ((z7.map cL_cF).length : Int))), (55, .c (.int .i64 x.2.1))] [(73, ⟨73, 7, true, [[.sl 1 (x.2.2.1.map cI), .sl 1 (x.2.2.2.1.map cI), .sl 2 (x.2.2.2.2.1.map cF), .sl 4 (x.2.2.2.2.2.1.map cGOp), .c (.int .i64 x.2.2.2.2.2.2.1), .sl 2 (x.2.2.2.2.2.2.2.1.map cN), .c (.int .i64 x.2.2.2.2.2.2.2.2)]]⟩)]) (fun x => M_stratagem_checker_checker_step_L1 g v2 z7 x.1 x.2.1 x.2.2.1 x.2.2.2.1 x.2.2.2.2.1 x.2.2.2.2.2.1 x.2.2.2.2.2.2.1 x.2.2.2.2.2.2.2.1 x.2.2.2.2.2.2.2.2 = some (r1, r2)) (fun x => x.1) ((((z7.map cL_cF).length : Int)).toNat + 1, 0, a0.t.Vars, a0.t.Init, a0.t.Goal, a0.t.Ops, a0.c.Bound, a0.c.Nogoods, a0.steps) h ?_ ?_
      · repeat (first | exact True.intro | refine ci_XDChk ?_)
      · intro x9 h; intro _; obtain ⟨k36, m10, h⟩ := succ_of (f := fun n => M_stratagem_checker_checker_step_L1 g v2 z7 n x9.2.1 x9.2.2.1 x9.2.2.2.1 x9.2.2.2.2.1 x9.2.2.2.2.2.1 x9.2.2.2.2.2.2.1 x9.2.2.2.2.2.2.2.1 x9.2.2.2.2.2.2.2.2) rfl h; replace h : M_stratagem_checker_checker_step_L1 g v2 z7 (k36 + 1) x9.2.1 x9.2.2.1 x9.2.2.2.1 x9.2.2.2.2.1 x9.2.2.2.2.2.1 x9.2.2.2.2.2.2.1 x9.2.2.2.2.2.2.2.1 x9.2.2.2.2.2.2.2.2 = some (r1, r2) := h; rw [M_stratagem_checker_checker_step_L1] at h; refine awp_seq ?_; refine awp_region ?_; intro _; refine dr_XDChk ?_; refine awp_seq ?_; refine awp_cond ?_; intro _; refine spl h (fun c11 h => ?_) (fun c11 h => ?_)
        · refine awp_skip ?_; refine awp_seq ?_; refine awp_block ?_; refine awp_seq ?_; refine awp_region ?_; intro _; obtain ⟨y37, w12, q13, h⟩ := ix_ok h; refine Exists.intro (cL_cF y37) (And.intro (map_at' w12) ?_); intro _; refine pr_XDChk ?_; refine dr_XDChk ?_; refine awp_seq ?_; refine awp_region ?_; intro _; obtain ⟨z38, z39, c40, u14, h⟩ := ob3_ok h; refine clg_XDChk [(41, 73)] [] [] [(73, ⟨0, some ⟨73, 7, true, [[.sl 1 (c40.t.Vars.map cI), .sl 1 (c40.t.Init.map cI), .sl 2 (c40.t.Goal.map cF), .sl 4 (c40.t.Ops.map cGOp), .c (.int .i64 c40.c.Bound), .sl 2 (c40.c.Nogoods.map cN), .c (.int .i64 c40.steps)]]⟩⟩)] (.tup [.c (.bool z38), eA z39]) rfl rfl (A_stratagem_checker_checker_covered g ({ t := { Vars := x9.2.2.1, Init := x9.2.2.2.1, Goal := x9.2.2.2.2.1, Ops := x9.2.2.2.2.2.1 : GTask }, c := { Bound := x9.2.2.2.2.2.2.1, Nogoods := x9.2.2.2.2.2.2.2.1 : GCertificate }, steps := x9.2.2.2.2.2.2.2.2 : GChecker }) y37 v2 u14) ?_; intro _; refine dr_XDChk ?_; refine awp_seq ?_; refine awp_seq ?_; rcases z39 with _ | e41
          · replace h := erM_nil h; refine awp_region ?_; intro _; refine dr_XDChk ?_; refine awp_cond ?_; intro _; refine litF ?_; refine awp_skip ?_; refine awp_seq ?_; refine awp_region ?_; intro _; refine dr_XDChk ?_; refine awp_cond ?_; intro _; refine spl h (fun c15 h => ?_) (fun c15 h => ?_)
            · refine awp_seq ?_; refine awp_region ?_; intro _; refine dr_XDChk ?_; refine awp_ret ?_; intro _; obtain ⟨rfl, rfl⟩ := inj2 h; all_goals (refine Exists.intro [] (And.intro rfl (And.intro ?_ ?_))); all_goals (repeat (first | exact True.intro | exact gb_nil rfl rfl | refine gb_some ⟨rfl, rfl, rfl⟩ ?_ | refine And.intro ?_ ?_ | refine gw_ren rfl rfl rfl rfl rfl ?_ | refine gw_pren rfl rfl rfl rfl rfl | exact gw_thaw rfl rfl rfl | refine gw_tup ?_ | exact GWL.nil | exact gwll_nil | exact gw_c | exact GW.sl | exact GW.nil | exact gwll_same rfl FrI.h | refine GWL.cons ?_ ?_ | refine gwll_cons ?_ ?_ | (refine gw_own3 rfl rfl rfl FrI.h ?_ ?_ ?_) | exact GW.fr FrV.h | exact GW.fr (by assumption) | refine gw_agg ?_ | refine gw_clo ?_ | refine gw_ptr rfl rfl rfl ?_ | (refine gw_own rfl rfl rfl ?_ FrI.h ?_ ?_) | assumption | omega | rfl | (rw [List.length_map, ← List.length_append]; assumption) | (refine gwll_same ?_ FrI.h; (simp [cGTask, cI, cF, cGOp, cGEffect, cGCertificate, cN, cGChecker, cL_cF] <;> fail)) | (rw [List.map_set]; refine gwll_set (by first | rfl | omega | simp) ?_ ?_) | refine gwll_set (by first | rfl | omega | simp) ?_ ?_ | (rw [List.map_replicate]; refine gwll_rep ?_) | refine gwll_rep ?_ | (rw [List.map_append]; refine gwll_append ?_ ?_) | refine gwll_append ?_ ?_ | (simp [cGTask, cI, cF, cGOp, cGEffect, cGCertificate, cN, cGChecker, cL_cF, take_len_map] <;> fail) | (rw [List.drop_zero, List.take_of_length_le] <;> first | rfl | (simp [cGTask, cI, cF, cGOp, cGEffect, cGCertificate, cN, cGChecker, cL_cF] <;> fail)) | (simp; omega)))
            · refine awp_skip ?_; refine awp_region ?_; intro _; refine dr_XDChk ?_; refine ⟨(k36, (IntKind.i64.wrap (x9.2.1 + 1)), c40.t.Vars, c40.t.Init, c40.t.Goal, c40.t.Ops, c40.c.Bound, c40.c.Nogoods, c40.steps), h, lt_of_succ m10, ?_⟩; repeat (first | exact True.intro | refine ci_XDChk ?_)
          · replace h := erM_no h; refine awp_region ?_; intro _; refine dr_XDChk ?_; refine awp_cond ?_; intro _; refine litT ?_; refine awp_seq ?_; refine awp_region ?_; intro _; refine dr_XDChk ?_; refine awp_ret ?_; intro _; obtain ⟨rfl, rfl⟩ := inj2 h; all_goals (refine Exists.intro [] (And.intro rfl (And.intro ?_ ?_))); all_goals (repeat (first | exact True.intro | exact gb_nil rfl rfl | refine gb_some ⟨rfl, rfl, rfl⟩ ?_ | refine And.intro ?_ ?_ | refine gw_ren rfl rfl rfl rfl rfl ?_ | refine gw_pren rfl rfl rfl rfl rfl | exact gw_thaw rfl rfl rfl | refine gw_tup ?_ | exact GWL.nil | exact gwll_nil | exact gw_c | exact GW.sl | exact GW.nil | exact gwll_same rfl FrI.h | refine GWL.cons ?_ ?_ | refine gwll_cons ?_ ?_ | (refine gw_own3 rfl rfl rfl FrI.h ?_ ?_ ?_) | exact GW.fr FrV.h | exact GW.fr (by assumption) | refine gw_agg ?_ | refine gw_clo ?_ | refine gw_ptr rfl rfl rfl ?_ | (refine gw_own rfl rfl rfl ?_ FrI.h ?_ ?_) | assumption | omega | rfl | (rw [List.length_map, ← List.length_append]; assumption) | (refine gwll_same ?_ FrI.h; (simp [cGTask, cI, cF, cGOp, cGEffect, cGCertificate, cN, cGChecker, cL_cF] <;> fail)) | (rw [List.map_set]; refine gwll_set (by first | rfl | omega | simp) ?_ ?_) | refine gwll_set (by first | rfl | omega | simp) ?_ ?_ | (rw [List.map_replicate]; refine gwll_rep ?_) | refine gwll_rep ?_ | (rw [List.map_append]; refine gwll_append ?_ ?_) | refine gwll_append ?_ ?_ | (simp [cGTask, cI, cF, cGOp, cGEffect, cGCertificate, cN, cGChecker, cL_cF, take_len_map] <;> fail) | (rw [List.drop_zero, List.take_of_length_le] <;> first | rfl | (simp [cGTask, cI, cF, cGOp, cGEffect, cGCertificate, cN, cGChecker, cL_cF] <;> fail)) | (simp; omega)))
        · refine awp_exit ?_; refine awp_seq ?_; refine awp_region ?_; intro _; refine dr_XDChk ?_; refine awp_ret ?_; intro _; obtain ⟨rfl, rfl⟩ := inj2 h; all_goals (refine Exists.intro [] (And.intro rfl (And.intro ?_ ?_))); all_goals (repeat (first | exact True.intro | exact gb_nil rfl rfl | refine gb_some ⟨rfl, rfl, rfl⟩ ?_ | refine And.intro ?_ ?_ | refine gw_ren rfl rfl rfl rfl rfl ?_ | refine gw_pren rfl rfl rfl rfl rfl | exact gw_thaw rfl rfl rfl | refine gw_tup ?_ | exact GWL.nil | exact gwll_nil | exact gw_c | exact GW.sl | exact GW.nil | exact gwll_same rfl FrI.h | refine GWL.cons ?_ ?_ | refine gwll_cons ?_ ?_ | (refine gw_own3 rfl rfl rfl FrI.h ?_ ?_ ?_) | exact GW.fr FrV.h | exact GW.fr (by assumption) | refine gw_agg ?_ | refine gw_clo ?_ | refine gw_ptr rfl rfl rfl ?_ | (refine gw_own rfl rfl rfl ?_ FrI.h ?_ ?_) | assumption | omega | rfl | (rw [List.length_map, ← List.length_append]; assumption) | (refine gwll_same ?_ FrI.h; (simp [cGTask, cI, cF, cGOp, cGEffect, cGCertificate, cN, cGChecker, cL_cF] <;> fail)) | (rw [List.map_set]; refine gwll_set (by first | rfl | omega | simp) ?_ ?_) | refine gwll_set (by first | rfl | omega | simp) ?_ ?_ | (rw [List.map_replicate]; refine gwll_rep ?_) | refine gwll_rep ?_ | (rw [List.map_append]; refine gwll_append ?_ ?_) | refine gwll_append ?_ ?_ | (simp [cGTask, cI, cF, cGOp, cGEffect, cGCertificate, cN, cGChecker, cL_cF, take_len_map] <;> fail) | (rw [List.drop_zero, List.take_of_length_le] <;> first | rfl | (simp [cGTask, cI, cF, cGOp, cGEffect, cGCertificate, cN, cGChecker, cL_cF] <;> fail)) | (simp; omega)))
    · replace h := erM_no h; refine awp_region ?_; intro _; refine dr_XDChk ?_; refine awp_cond ?_; intro _; refine litT ?_; refine awp_seq ?_; refine awp_region ?_; intro _; refine dr_XDChk ?_; refine awp_ret ?_; intro _; obtain ⟨rfl, rfl⟩ := inj2 h; all_goals (refine Exists.intro [] (And.intro rfl (And.intro ?_ ?_))); all_goals (repeat (first | exact True.intro | exact gb_nil rfl rfl | refine gb_some ⟨rfl, rfl, rfl⟩ ?_ | refine And.intro ?_ ?_ | refine gw_ren rfl rfl rfl rfl rfl ?_ | refine gw_pren rfl rfl rfl rfl rfl | exact gw_thaw rfl rfl rfl | refine gw_tup ?_ | exact GWL.nil | exact gwll_nil | exact gw_c | exact GW.sl | exact GW.nil | exact gwll_same rfl FrI.h | refine GWL.cons ?_ ?_ | refine gwll_cons ?_ ?_ | (refine gw_own3 rfl rfl rfl FrI.h ?_ ?_ ?_) | exact GW.fr FrV.h | exact GW.fr (by assumption) | refine gw_agg ?_ | refine gw_clo ?_ | refine gw_ptr rfl rfl rfl ?_ | (refine gw_own rfl rfl rfl ?_ FrI.h ?_ ?_) | assumption | omega | rfl | (rw [List.length_map, ← List.length_append]; assumption) | (refine gwll_same ?_ FrI.h; (simp [cGTask, cI, cF, cGOp, cGEffect, cGCertificate, cN, cGChecker, cL_cF] <;> fail)) | (rw [List.map_set]; refine gwll_set (by first | rfl | omega | simp) ?_ ?_) | refine gwll_set (by first | rfl | omega | simp) ?_ ?_ | (rw [List.map_replicate]; refine gwll_rep ?_) | refine gwll_rep ?_ | (rw [List.map_append]; refine gwll_append ?_ ?_) | refine gwll_append ?_ ?_ | (simp [cGTask, cI, cF, cGOp, cGEffect, cGCertificate, cN, cGChecker, cL_cF, take_len_map] <;> fail) | (rw [List.drop_zero, List.take_of_length_le] <;> first | rfl | (simp [cGTask, cI, cF, cGOp, cGEffect, cGCertificate, cN, cGChecker, cL_cF] <;> fail)) | (simp; omega)))
def M_checker_Where_L1 (a0 : GTask) (a1 : GCertificate) : Nat → Int → Option (Unit ⊕ (Int × Int × Er))
  | 0, _ => none
  | k24 + 1, v23 =>
    sel (decide (v23 < ((a1.Nogoods.map cN).length : Int)))
     (ix a1.Nogoods v23 (fun y25 =>
       ob1 (M_task_Holds y25.1 a0.Init) (fun z26 =>
        sel z26
         (some (.inr ((-1), (-1), (Er.no 20))))
         (M_checker_Where_L1 a0 a1 k24 (IntKind.i64.wrap (v23 + 1))))))
     (some (.inl ()))
def M_checker_Where_L2 (a0 : GTask) (g : Nat) (v184 : Int) (y231 : Nogood) : Nat → Int → (List Int) → (List Int) → (List Fact) → (List GOp) → Int → (List Nogood) → Int → Option (((List Int) × (List Int) × (List Fact) × (List GOp) × Int × (List Nogood) × Int) ⊕ (Int × Int × Er))
  | 0, _, _, _, _, _, _, _, _ => none
  | k254 + 1, v246, v247, v248, v249, v250, v251, v252, v253 =>
    sel (decide (v246 < ((a0.Ops.map cGOp).length : Int)))
     (ob2 (M_stratagem_checker_checker_step g ({ t := { Vars := v247, Init := v248, Goal := v249, Ops := v250 : GTask }, c := { Bound := v251, Nogoods := v252 : GCertificate }, steps := v253 : GChecker }) y231 v246) (fun z255 c256 =>
       erM z255
        (M_checker_Where_L2 a0 g v184 y231 k254 (IntKind.i64.wrap (v246 + 1)) c256.t.Vars c256.t.Init c256.t.Goal c256.t.Ops c256.c.Bound c256.c.Nogoods c256.steps)
        (fun e257 => some (.inr (v184, v246, (Er.no e257))))))
     (some (.inl (v247, v248, v249, v250, v251, v252, v253)))
def M_checker_Where_L3 (a0 : GTask) (a1 : GCertificate) (g : Nat) : Nat → Int → (List Int) → (List Int) → (List Fact) → (List GOp) → Int → (List Nogood) → Int → Option (Int × Int × Er)
  | 0, _, _, _, _, _, _, _, _ => none
  | k192 + 1, v184, v185, v186, v187, v188, v189, v190, v191 =>
    sel (decide (v184 < ((a1.Nogoods.map cN).length : Int)))
     (ob1 (ix a1.Nogoods v184 (fun y231 =>
        M_checker_Where_L2 a0 g v184 y231 ((((a0.Ops.map cGOp).length : Int)).toNat + 1) 0 v185 v186 v187 v188 v189 v190 v191) : Option (((List Int) × (List Int) × (List Fact) × (List GOp) × Int × (List Nogood) × Int) ⊕ (Int × Int × Er)))
       (osum
       (fun (v220, v221, v222, v223, v224, v225, v226) => M_checker_Where_L3 a0 a1 g k192 (IntKind.i64.wrap (v184 + 1)) v220 v221 v222 v223 v224 v225 v226)
       (fun (r227, r228, r229) => some (r227, r228, r229))))
     (some ((-1), (-1), Er.nil))
def M_checker_Where (g : Nat) (a0 : GTask) (a1 : GCertificate) (a2 : Int) : Option (Int × Int × Er) :=
  ob1 (M_task_Check a0) (fun z1 =>
   erM z1
    (ob1 (M_certificate_Proper a0.Vars a1) (fun z3 =>
      erM z3
       (ob1 (M_checker_Where_L1 a0 a1 ((((a1.Nogoods.map cN).length : Int)).toNat + 1) 0 : Option (Unit ⊕ (Int × Int × Er)))
         (osum
         (fun _ => ob1 (sel (a1.Bound != 0)
             (ob3 (M_stratagem_checker_checker_covered g ({ t := a0, c := a1, steps := (max 0 (min a2 1048576)) : GChecker }) a0.Goal 0) (fun z42 z43 c44 =>
               erM z43
                (sel (!z42)
                  (some (.inr ((-1), (-1), (Er.no 13))))
                  (some (.inl (c44.t.Vars, c44.t.Init, c44.t.Goal, c44.t.Ops, c44.c.Bound, c44.c.Nogoods, c44.steps))))
                (fun e45 => some (.inr ((-1), (-1), (Er.no e45))))))
             (some (.inl (a0.Vars, a0.Init, a0.Goal, a0.Ops, a1.Bound, a1.Nogoods, (max 0 (min a2 1048576))))) : Option (((List Int) × (List Int) × (List Fact) × (List GOp) × Int × (List Nogood) × Int) ⊕ (Int × Int × Er)))
            (osum
            (fun (v31, v32, v33, v34, v35, v36, v37) => M_checker_Where_L3 a0 a1 g ((((a1.Nogoods.map cN).length : Int)).toNat + 1) 0 v31 v32 v33 v34 v35 v36 v37)
            (fun (r38, r39, r40) => some (r38, r39, r40))))
         (fun (r14, r15, r16) => some (r14, r15, r16))))
       (fun e4 => some ((-1), (-1), (Er.no e4)))))
    (fun e2 => some ((-1), (-1), (Er.no e2))))
set_option maxHeartbeats 16000000 in
set_option maxRecDepth 100000 in
theorem A_checker_Where (g : Nat) (a0 : GTask) (a1 : GCertificate) (a2 : Int) {r1 : Int} {r2 : Int} {r3 : Er} (h : M_checker_Where g a0 a1 a2 = some (r1, r2, r3)) : ACall cx 14 [.agg [.sl 1 (a0.Vars.map cI), .sl 1 (a0.Init.map cI), .sl 2 (a0.Goal.map cF), .sl 4 (a0.Ops.map cGOp)], .agg [.c (.int .i64 a1.Bound), .sl 2 (a1.Nogoods.map cN)], .c (.int .i64 a2)] (.tup [.c (.int .i64 r1), .c (.int .i64 r2), eA r3]) := by
  refine acall_of Tryz.func14 rfl (by decide) rfl (Nat.le_of_ble_eq_true rfl) ?_; intro _; unfold M_checker_Where at h; refine awp_seq ?_; refine awp_region ?_; intro _; refine dr_XDChk ?_; refine awp_seq ?_; refine awp_seq ?_; refine awp_region ?_; intro _; obtain ⟨z1, u1, h⟩ := ob1_ok h; refine cl_XDChk rfl (A_task_Check a0 u1) ?_; intro _; refine dr_XDChk ?_; refine awp_seq ?_; rcases z1 with _ | e2
  · replace h := erM_nil h; refine awp_region ?_; intro _; refine dr_XDChk ?_; refine awp_cond ?_; intro _; refine litF ?_; refine awp_skip ?_; refine awp_seq ?_; refine awp_seq ?_; refine awp_region ?_; intro _; obtain ⟨z3, u2, h⟩ := ob1_ok h; refine cl_XDChk rfl (A_certificate_Proper a0.Vars a1 u2) ?_; intro _; refine dr_XDChk ?_; refine awp_seq ?_; rcases z3 with _ | e4
    · replace h := erM_nil h; refine awp_region ?_; intro _; refine dr_XDChk ?_; refine awp_cond ?_; intro _; refine litF ?_; refine awp_skip ?_; obtain ⟨o3, h, hK4⟩ := ob1_ok h; refine awp_cut (α := Unit) (fun _ => mkS 94 [(2, .c (.int .i64 a2)), (3, .ptr 3 0 0 0), (4, .ptr 4 0 0 0)] [(3, ⟨26, 4, true, [[.sl 1 (a0.Vars.map cI), .sl 1 (a0.Init.map cI), .sl 2 (a0.Goal.map cF), .sl 4 (a0.Ops.map cGOp)]]⟩), (4, ⟨29, 2, true, [[.c (.int .i64 a1.Bound), .sl 2 (a1.Nogoods.map cN)]]⟩)]) (fun v => o3 = (.inl v)) ?_ ?_
      · refine awp_seq ?_; refine awp_region ?_; intro _; refine dr_XDChk ?_; refine awp_block ?_; refine awp_loop (α := Nat × Int) (fun x => mkS 94 [(2, .c (.int .i64 a2)), (3, .ptr 3 0 0 0), (4, .ptr 4 0 0 0), (33, .sl 2 (a1.Nogoods.map cN)), (34, .c (.int .i64 ((a1.Nogoods.map cN).length : Int))), (35, .c (.int .i64 x.2))] [(3, ⟨26, 4, true, [[.sl 1 (a0.Vars.map cI), .sl 1 (a0.Init.map cI), .sl 2 (a0.Goal.map cF), .sl 4 (a0.Ops.map cGOp)]]⟩), (4, ⟨29, 2, true, [[.c (.int .i64 a1.Bound), .sl 2 (a1.Nogoods.map cN)]]⟩)]) (fun x => M_checker_Where_L1 a0 a1 x.1 x.2 = some o3) (fun x => x.1) ((((a1.Nogoods.map cN).length : Int)).toNat + 1, 0) h ?_ ?_
        · repeat (first | exact True.intro | refine ci_XDChk ?_)
        · intro x5 h; intro _; obtain ⟨k24, m6, h⟩ := succ_of (f := fun n => M_checker_Where_L1 a0 a1 n x5.2) rfl h; replace h : M_checker_Where_L1 a0 a1 (k24 + 1) x5.2 = some o3 := h; rw [M_checker_Where_L1] at h; refine awp_seq ?_; refine awp_region ?_; intro _; refine dr_XDChk ?_; refine awp_seq ?_; refine awp_cond ?_; intro _; refine spl h (fun c7 h => ?_) (fun c7 h => ?_)
          · refine awp_skip ?_; refine awp_seq ?_; refine awp_block ?_; refine awp_seq ?_; refine awp_region ?_; intro _; obtain ⟨y25, w8, q9, h⟩ := ix_ok h; refine Exists.intro (cN y25) (And.intro (map_at' w8) ?_); intro _; refine pr_XDChk ?_; refine dr_XDChk ?_; refine awp_seq ?_; refine awp_region ?_; intro _; obtain ⟨z26, u10, h⟩ := ob1_ok h; refine cl_XDChk rfl (A_task_Holds y25.1 a0.Init u10) ?_; intro _; refine dr_XDChk ?_; refine awp_cond ?_; intro _; refine spl h (fun c11 h => ?_) (fun c11 h => ?_)
            · refine awp_seq ?_; refine awp_region ?_; intro _; refine dr_XDChk ?_; refine awp_ret ?_; have j12 := Option.some.inj h; subst j12; replace h := (osum_r hK4); intro _; obtain ⟨rfl, rfl, rfl⟩ := inj3 h; repeat (first | exact True.intro | refine ci_XDChk ?_)
            · refine awp_skip ?_; refine awp_region ?_; intro _; refine dr_XDChk ?_; refine ⟨(k24, (IntKind.i64.wrap (x5.2 + 1))), h, lt_of_succ m6, ?_⟩; repeat (first | exact True.intro | refine ci_XDChk ?_)
          · refine awp_exit ?_; refine ⟨(), (Option.some.inj h).symm, ?_⟩; repeat (first | exact True.intro | refine ci_XDChk ?_)
      · rintro _ ho; have ho := ho.symm; subst ho; intro _; replace h := (osum_l hK4); refine awp_seq ?_; refine awp_region ?_; intro _; refine ⟨_, lf_min rfl (Nat.le_of_ble_eq_true rfl) rfl rfl, ?_⟩; intro _; refine ⟨_, lf_max rfl (Nat.le_of_ble_eq_true rfl) rfl rfl, ?_⟩; intro _; refine dr_XDChk ?_; obtain ⟨o13, h, hK14⟩ := ob1_ok h; refine awp_cut (α := (List Int) × (List Int) × (List Fact) × (List GOp) × Int × (List Nogood) × Int) (fun (v31, v32, v33, v34, v35, v36, v37) => mkS 94 [(3, .ptr 3 0 0 0), (4, .ptr 4 0 0 0), (13, .ptr 52 0 0 0)] [(3, ⟨26, 4, true, [[.sl 1 (a0.Vars.map cI), .sl 1 (a0.Init.map cI), .sl 2 (a0.Goal.map cF), .sl 4 (a0.Ops.map cGOp)]]⟩), (4, ⟨29, 2, true, [[.c (.int .i64 a1.Bound), .sl 2 (a1.Nogoods.map cN)]]⟩), (52, ⟨73, 7, true, [[.sl 1 (v31.map cI), .sl 1 (v32.map cI), .sl 2 (v33.map cF), .sl 4 (v34.map cGOp), .c (.int .i64 v35), .sl 2 (v36.map cN), .c (.int .i64 v37)]]⟩)]) (fun v => o13 = (.inl v)) ?_ ?_
        · refine awp_seq ?_; refine awp_region ?_; intro _; refine dr_XDChk ?_; refine awp_cond ?_; intro _; refine spl h (fun c15 h => ?_) (fun c15 h => ?_)
          · refine awp_seq ?_; refine awp_region ?_; intro _; obtain ⟨z42, z43, c44, u16, h⟩ := ob3_ok h; refine clg_XDChk [(41, 52)] [] [] [(52, ⟨1, some ⟨73, 7, true, [[.sl 1 (c44.t.Vars.map cI), .sl 1 (c44.t.Init.map cI), .sl 2 (c44.t.Goal.map cF), .sl 4 (c44.t.Ops.map cGOp), .c (.int .i64 c44.c.Bound), .sl 2 (c44.c.Nogoods.map cN), .c (.int .i64 c44.steps)]]⟩⟩)] (.tup [.c (.bool z42), eA z43]) rfl rfl (A_stratagem_checker_checker_covered g ({ t := a0, c := a1, steps := (max 0 (min a2 1048576)) : GChecker }) a0.Goal 0 u16) ?_; intro _; refine dr_XDChk ?_; refine awp_seq ?_; refine awp_seq ?_; rcases z43 with _ | e45
            · replace h := erM_nil h; refine awp_region ?_; intro _; refine dr_XDChk ?_; refine awp_cond ?_; intro _; refine litF ?_; refine awp_skip ?_; refine awp_seq ?_; refine awp_region ?_; intro _; refine dr_XDChk ?_; refine awp_cond ?_; intro _; refine spl h (fun c17 h => ?_) (fun c17 h => ?_)
              · refine awp_seq ?_; refine awp_region ?_; intro _; refine dr_XDChk ?_; refine awp_ret ?_; have j18 := Option.some.inj h; subst j18; replace h := (osum_r hK14); intro _; obtain ⟨rfl, rfl, rfl⟩ := inj3 h; repeat (first | exact True.intro | refine ci_XDChk ?_)
              · refine awp_skip ?_; refine ⟨(c44.t.Vars, c44.t.Init, c44.t.Goal, c44.t.Ops, c44.c.Bound, c44.c.Nogoods, c44.steps), (Option.some.inj h).symm, ?_⟩; repeat (first | exact True.intro | refine ci_XDChk ?_)
            · replace h := erM_no h; refine awp_region ?_; intro _; refine dr_XDChk ?_; refine awp_cond ?_; intro _; refine litT ?_; refine awp_seq ?_; refine awp_region ?_; intro _; refine dr_XDChk ?_; refine awp_ret ?_; have j19 := Option.some.inj h; subst j19; replace h := (osum_r hK14); intro _; obtain ⟨rfl, rfl, rfl⟩ := inj3 h; repeat (first | exact True.intro | refine ci_XDChk ?_)
          · refine awp_skip ?_; refine ⟨(a0.Vars, a0.Init, a0.Goal, a0.Ops, a1.Bound, a1.Nogoods, (max 0 (min a2 1048576))), (Option.some.inj h).symm, ?_⟩; repeat (first | exact True.intro | refine ci_XDChk ?_)
        · rintro ⟨v31, v32, v33, v34, v35, v36, v37⟩ ho; have ho := ho.symm; subst ho; intro _; replace h := (osum_l hK14); refine awp_seq ?_; refine awp_seq ?_; refine awp_region ?_; intro _; refine dr_XDChk ?_; refine awp_block ?_; refine awp_loop (α := Nat × Int × (List Int) × (List Int) × (List Fact) × (List GOp) × Int × (List Nogood) × Int) (fun x => mkS 94 [(3, .ptr 3 0 0 0), (13, .ptr 52 0 0 0), (70, .sl 2 (a1.Nogoods.map cN)), (71, .c (.int .i64 ((a1.Nogoods.map cN).length : Int))), (72, .c (.int .i64 x.2.1))] [(3, ⟨26, 4, true, [[.sl 1 (a0.Vars.map cI), .sl 1 (a0.Init.map cI), .sl 2 (a0.Goal.map cF), .sl 4 (a0.Ops.map cGOp)]]⟩), (52, ⟨73, 7, true, [[.sl 1 (x.2.2.1.map cI), .sl 1 (x.2.2.2.1.map cI), .sl 2 (x.2.2.2.2.1.map cF), .sl 4 (x.2.2.2.2.2.1.map cGOp), .c (.int .i64 x.2.2.2.2.2.2.1), .sl 2 (x.2.2.2.2.2.2.2.1.map cN), .c (.int .i64 x.2.2.2.2.2.2.2.2)]]⟩)]) (fun x => M_checker_Where_L3 a0 a1 g x.1 x.2.1 x.2.2.1 x.2.2.2.1 x.2.2.2.2.1 x.2.2.2.2.2.1 x.2.2.2.2.2.2.1 x.2.2.2.2.2.2.2.1 x.2.2.2.2.2.2.2.2 = some (r1, r2, r3)) (fun x => x.1) ((((a1.Nogoods.map cN).length : Int)).toNat + 1, 0, v31, v32, v33, v34, v35, v36, v37) h ?_ ?_
          · repeat (first | exact True.intro | refine ci_XDChk ?_)
          · intro x20 h; intro _; obtain ⟨k192, m21, h⟩ := succ_of (f := fun n => M_checker_Where_L3 a0 a1 g n x20.2.1 x20.2.2.1 x20.2.2.2.1 x20.2.2.2.2.1 x20.2.2.2.2.2.1 x20.2.2.2.2.2.2.1 x20.2.2.2.2.2.2.2.1 x20.2.2.2.2.2.2.2.2) rfl h; replace h : M_checker_Where_L3 a0 a1 g (k192 + 1) x20.2.1 x20.2.2.1 x20.2.2.2.1 x20.2.2.2.2.1 x20.2.2.2.2.2.1 x20.2.2.2.2.2.2.1 x20.2.2.2.2.2.2.2.1 x20.2.2.2.2.2.2.2.2 = some (r1, r2, r3) := h; rw [M_checker_Where_L3] at h; refine awp_seq ?_; refine awp_region ?_; intro _; refine dr_XDChk ?_; refine awp_seq ?_; refine awp_cond ?_; intro _; refine spl h (fun c22 h => ?_) (fun c22 h => ?_)
            · refine awp_skip ?_; obtain ⟨o23, h, hK24⟩ := ob1_ok h; refine awp_cut (α := (List Int) × (List Int) × (List Fact) × (List GOp) × Int × (List Nogood) × Int) (fun (v220, v221, v222, v223, v224, v225, v226) => mkS 94 [(3, .ptr 3 0 0 0), (13, .ptr 52 0 0 0), (70, .sl 2 (a1.Nogoods.map cN)), (71, .c (.int .i64 ((a1.Nogoods.map cN).length : Int))), (72, .c (.int .i64 x20.2.1))] [(3, ⟨26, 4, true, [[.sl 1 (a0.Vars.map cI), .sl 1 (a0.Init.map cI), .sl 2 (a0.Goal.map cF), .sl 4 (a0.Ops.map cGOp)]]⟩), (52, ⟨73, 7, true, [[.sl 1 (v220.map cI), .sl 1 (v221.map cI), .sl 2 (v222.map cF), .sl 4 (v223.map cGOp), .c (.int .i64 v224), .sl 2 (v225.map cN), .c (.int .i64 v226)]]⟩)]) (fun v => o23 = (.inl v)) ?_ ?_
              · refine awp_block ?_; refine awp_seq ?_; refine awp_region ?_; intro _; obtain ⟨y231, w25, q26, h⟩ := ix_ok h; refine Exists.intro (cN y231) (And.intro (map_at' w25) ?_); intro _; refine pr_XDChk ?_; refine dr_XDChk ?_; refine awp_seq ?_; refine awp_region ?_; intro _; refine dr_XDChk ?_; refine awp_block ?_; refine awp_loop (α := Nat × Int × (List Int) × (List Int) × (List Fact) × (List GOp) × Int × (List Nogood) × Int) (fun x => mkS 94 [(3, .ptr 3 0 0 0), (13, .ptr 52 0 0 0), (16, .c (.int .i64 x20.2.1)), (17, .ptr 17 0 0 0), (70, .sl 2 (a1.Nogoods.map cN)), (71, .c (.int .i64 ((a1.Nogoods.map cN).length : Int))), (72, .c (.int .i64 x20.2.1)), (79, .c (.int .i64 ((a0.Ops.map cGOp).length : Int))), (80, .c (.int .i64 x.2.1))] [(3, ⟨26, 4, true, [[.sl 1 (a0.Vars.map cI), .sl 1 (a0.Init.map cI), .sl 2 (a0.Goal.map cF), .sl 4 (a0.Ops.map cGOp)]]⟩), (17, ⟨51, 2, true, [[.sl 2 (y231.1.map cF), .c (.int .i64 y231.2)]]⟩), (52, ⟨73, 7, true, [[.sl 1 (x.2.2.1.map cI), .sl 1 (x.2.2.2.1.map cI), .sl 2 (x.2.2.2.2.1.map cF), .sl 4 (x.2.2.2.2.2.1.map cGOp), .c (.int .i64 x.2.2.2.2.2.2.1), .sl 2 (x.2.2.2.2.2.2.2.1.map cN), .c (.int .i64 x.2.2.2.2.2.2.2.2)]]⟩)]) (fun x => M_checker_Where_L2 a0 g x20.2.1 y231 x.1 x.2.1 x.2.2.1 x.2.2.2.1 x.2.2.2.2.1 x.2.2.2.2.2.1 x.2.2.2.2.2.2.1 x.2.2.2.2.2.2.2.1 x.2.2.2.2.2.2.2.2 = some o23) (fun x => x.1) ((((a0.Ops.map cGOp).length : Int)).toNat + 1, 0, x20.2.2.1, x20.2.2.2.1, x20.2.2.2.2.1, x20.2.2.2.2.2.1, x20.2.2.2.2.2.2.1, x20.2.2.2.2.2.2.2.1, x20.2.2.2.2.2.2.2.2) h ?_ ?_
                · repeat (first | exact True.intro | refine ci_XDChk ?_)
                · intro x27 h; intro _; obtain ⟨k254, m28, h⟩ := succ_of (f := fun n => M_checker_Where_L2 a0 g x20.2.1 y231 n x27.2.1 x27.2.2.1 x27.2.2.2.1 x27.2.2.2.2.1 x27.2.2.2.2.2.1 x27.2.2.2.2.2.2.1 x27.2.2.2.2.2.2.2.1 x27.2.2.2.2.2.2.2.2) rfl h; replace h : M_checker_Where_L2 a0 g x20.2.1 y231 (k254 + 1) x27.2.1 x27.2.2.1 x27.2.2.2.1 x27.2.2.2.2.1 x27.2.2.2.2.2.1 x27.2.2.2.2.2.2.1 x27.2.2.2.2.2.2.2.1 x27.2.2.2.2.2.2.2.2 = some o23 := h; rw [M_checker_Where_L2] at h; refine awp_seq ?_; refine awp_region ?_; intro _; refine dr_XDChk ?_; refine awp_seq ?_; refine awp_cond ?_; intro _; refine spl h (fun c29 h => ?_) (fun c29 h => ?_)
                  · refine awp_skip ?_; refine awp_seq ?_; refine awp_block ?_; refine awp_seq ?_; refine awp_region ?_; intro _; refine dr_XDChk ?_; refine awp_seq ?_; refine awp_region ?_; intro _; obtain ⟨z255, c256, u30, h⟩ := ob2_ok h; refine clg_XDChk [(73, 52)] [] [] [(52, ⟨0, some ⟨73, 7, true, [[.sl 1 (c256.t.Vars.map cI), .sl 1 (c256.t.Init.map cI), .sl 2 (c256.t.Goal.map cF), .sl 4 (c256.t.Ops.map cGOp), .c (.int .i64 c256.c.Bound), .sl 2 (c256.c.Nogoods.map cN), .c (.int .i64 c256.steps)]]⟩⟩)] (eA z255) rfl rfl (A_stratagem_checker_checker_step g ({ t := { Vars := x27.2.2.1, Init := x27.2.2.2.1, Goal := x27.2.2.2.2.1, Ops := x27.2.2.2.2.2.1 : GTask }, c := { Bound := x27.2.2.2.2.2.2.1, Nogoods := x27.2.2.2.2.2.2.2.1 : GCertificate }, steps := x27.2.2.2.2.2.2.2.2 : GChecker }) y231 x27.2.1 u30) ?_; intro _; refine dr_XDChk ?_; refine awp_seq ?_; rcases z255 with _ | e257
                    · replace h := erM_nil h; refine awp_region ?_; intro _; refine dr_XDChk ?_; refine awp_cond ?_; intro _; refine litF ?_; refine awp_skip ?_; refine awp_region ?_; intro _; refine dr_XDChk ?_; refine ⟨(k254, (IntKind.i64.wrap (x27.2.1 + 1)), c256.t.Vars, c256.t.Init, c256.t.Goal, c256.t.Ops, c256.c.Bound, c256.c.Nogoods, c256.steps), h, lt_of_succ m28, ?_⟩; repeat (first | exact True.intro | refine ci_XDChk ?_)
                    · replace h := erM_no h; refine awp_region ?_; intro _; refine dr_XDChk ?_; refine awp_cond ?_; intro _; refine litT ?_; refine awp_seq ?_; refine awp_region ?_; intro _; refine dr_XDChk ?_; refine awp_ret ?_; have j31 := Option.some.inj h; subst j31; replace h := (osum_r hK24); intro _; obtain ⟨rfl, rfl, rfl⟩ := inj3 h; repeat (first | exact True.intro | refine ci_XDChk ?_)
                  · refine awp_exit ?_; refine ⟨(x27.2.2.1, x27.2.2.2.1, x27.2.2.2.2.1, x27.2.2.2.2.2.1, x27.2.2.2.2.2.2.1, x27.2.2.2.2.2.2.2.1, x27.2.2.2.2.2.2.2.2), (Option.some.inj h).symm, ?_⟩; repeat (first | exact True.intro | refine ci_XDChk ?_)
              · rintro ⟨v220, v221, v222, v223, v224, v225, v226⟩ ho; have ho := ho.symm; subst ho; intro _; replace h := (osum_l hK24); refine awp_region ?_; intro _; refine dr_XDChk ?_; refine ⟨(k192, (IntKind.i64.wrap (x20.2.1 + 1)), v220, v221, v222, v223, v224, v225, v226), h, lt_of_succ m21, ?_⟩; repeat (first | exact True.intro | refine ci_XDChk ?_)
            · refine awp_exit ?_; refine awp_seq ?_; refine awp_region ?_; intro _; refine dr_XDChk ?_; refine awp_ret ?_; intro _; obtain ⟨rfl, rfl, rfl⟩ := inj3 h; repeat (first | exact True.intro | refine ci_XDChk ?_)
    · replace h := erM_no h; refine awp_region ?_; intro _; refine dr_XDChk ?_; refine awp_cond ?_; intro _; refine litT ?_; refine awp_seq ?_; refine awp_region ?_; intro _; refine dr_XDChk ?_; refine awp_ret ?_; intro _; obtain ⟨rfl, rfl, rfl⟩ := inj3 h; repeat (first | exact True.intro | refine ci_XDChk ?_)
  · replace h := erM_no h; refine awp_region ?_; intro _; refine dr_XDChk ?_; refine awp_cond ?_; intro _; refine litT ?_; refine awp_seq ?_; refine awp_region ?_; intro _; refine dr_XDChk ?_; refine awp_ret ?_; intro _; obtain ⟨rfl, rfl, rfl⟩ := inj3 h; repeat (first | exact True.intro | refine ci_XDChk ?_)
def M_checker_Verify (g : Nat) (a0 : GTask) (a1 : GCertificate) (a2 : Int) : Option (Er) :=
  ob3 (M_checker_Where g a0 a1 a2) (fun _ _ z3 =>
   some z3)
set_option maxHeartbeats 16000000 in
set_option maxRecDepth 100000 in
theorem A_checker_Verify (g : Nat) (a0 : GTask) (a1 : GCertificate) (a2 : Int) {r1 : Er} (h : M_checker_Verify g a0 a1 a2 = some r1) : ACall cx 16 [.agg [.sl 1 (a0.Vars.map cI), .sl 1 (a0.Init.map cI), .sl 2 (a0.Goal.map cF), .sl 4 (a0.Ops.map cGOp)], .agg [.c (.int .i64 a1.Bound), .sl 2 (a1.Nogoods.map cN)], .c (.int .i64 a2)] (eA r1) := by
  refine acall_of Tryz.func16 rfl (by decide) rfl (Nat.le_of_ble_eq_true rfl) ?_; intro _; unfold M_checker_Verify at h; refine awp_seq ?_; refine awp_region ?_; intro _; refine dr_XDChk ?_; refine awp_seq ?_; refine awp_region ?_; intro _; obtain ⟨z1, z2, z3, u1, h⟩ := ob3_ok h; refine cl_XDChk rfl (A_checker_Where g a0 a1 a2 u1) ?_; intro _; refine dr_XDChk ?_; refine awp_seq ?_; refine awp_region ?_; intro _; refine dr_XDChk ?_; refine awp_ret ?_; intro _; obtain rfl := inj1 h; all_goals (cases z3); all_goals repeat (first | exact True.intro | refine ci_XDChk ?_)
def M_stratagemlaw31_awake (g : Nat) : Option (Bool) :=
  ob1 (M_checker_Verify g ({ Vars := [2], Init := [0], Goal := [(0, 1)], Ops := [] : GTask }) ({ Bound := (-1), Nogoods := [([(0, 1)], 0)] : GCertificate }) 100) (fun z1 =>
   erM z1
    (ob1 (M_checker_Verify g ({ Vars := [2], Init := [0], Goal := [(0, 1)], Ops := [] : GTask }) ({ Bound := (-1), Nogoods := [] : GCertificate }) 100) (fun z3 =>
      ob1 (M_stratagembase_Is z3 13) (fun z4 =>
       some z4)))
    (fun _ => some false))
set_option maxHeartbeats 16000000 in
set_option maxRecDepth 100000 in
theorem A_stratagemlaw31_awake (g : Nat) {r1 : Bool} (h : M_stratagemlaw31_awake g = some r1) : ACall cx 12 [] (.c (.bool r1)) := by
  refine acall_of Tryz.func12 rfl (by decide) rfl (Nat.le_of_ble_eq_true rfl) ?_; intro _; unfold M_stratagemlaw31_awake at h; refine awp_seq ?_; refine awp_region ?_; intro _; refine dr_XDChk ?_; refine awp_seq ?_; refine awp_region ?_; intro _; refine dr_XDChk ?_; refine awp_seq ?_; refine awp_region ?_; intro _; refine dr_XDChk ?_; refine awp_seq ?_; refine awp_region ?_; intro _; obtain ⟨z1, u1, h⟩ := ob1_ok h; refine clb_XDChk [3, 4, 6, 11] rfl rfl (A_checker_Verify g ({ Vars := [2], Init := [0], Goal := [(0, 1)], Ops := [] : GTask }) ({ Bound := (-1), Nogoods := [([(0, 1)], 0)] : GCertificate }) 100 u1) ?_; rcases z1 with _ | e2
  · replace h := erM_nil h; intro _; refine litT ?_; intro _; obtain ⟨z3, u2, h⟩ := ob1_ok h; refine clb_XDChk [3, 4, 6] rfl rfl (A_checker_Verify g ({ Vars := [2], Init := [0], Goal := [(0, 1)], Ops := [] : GTask }) ({ Bound := (-1), Nogoods := [] : GCertificate }) 100 u2) ?_; intro _; obtain ⟨z4, u3, h⟩ := ob1_ok h; refine cl_XDChk rfl (A_stratagembase_Is z3 13 u3) ?_; intro _; refine dr_XDChk ?_; refine awp_ret ?_; intro _; obtain rfl := inj1 h; repeat (first | exact True.intro | refine ci_XDChk ?_)
  · replace h := erM_no h; intro _; refine litF ?_; intro _; refine dr_XDChk ?_; refine awp_ret ?_; intro _; obtain rfl := inj1 h; repeat (first | exact True.intro | refine ci_XDChk ?_)
end Go.Proofs.YtcpajbglcgbolaaGreat.Am
/- Range loops of the models as recursions. -/
namespace Go.Proofs.YtcpajbglcgbolaaGreat.Am
def M_certificate_formed_L1_B (a0 : List Fact) (_y7 : Fact) (v5 : Int) : Unit → (Unit → Option (Bool)) → Option (Bool) := fun _ rc => ixv _y7 (fun y7 =>
       sel (decide (y7.1 < 0))
        (some false)
        (sel (decide (y7.1 ≥ 64))
          (some false)
          (sel (decide (y7.2 < 0))
            (some false)
            (sel (decide (y7.2 ≥ 64))
              (some false)
              (sel (decide (v5 > 0))
                (ix a0 (IntKind.i64.wrap (v5 - 1)) (fun y8 =>
                  sel (decide (y8.1 ≥ y7.1))
                   (some false)
                   (rc ())))
                (rc ()))))))
def M_certificate_formed_L1_E (_ : List Fact) : Unit → Option (Bool) := fun _ => some true
theorem M_certificate_formed_L1_rg (a0 : List Fact) (hl : a0.length < 9223372036854775807) : ∀ (k n : Nat) , n ≤ a0.length → a0.length < k + n → M_certificate_formed_L1 a0 k (n : Int) = Rg (M_certificate_formed_L1_B a0) (M_certificate_formed_L1_E a0) (a0.drop n) n () := by
  intro k n 
  refine rg_of (L := fun k i (p : Unit) => M_certificate_formed_L1 a0 k i) hl (fun k n p y hy hn => ?_) (fun k p => ?_) k n ()
  · have h1 := lt_some hy
    have h2 := w64s hn
    first | (simp only [M_certificate_formed_L1, M_certificate_formed_L1_B, List.length_map, decide_lt h1, sel, ix_at hy, ixv, h2]; done) | (simp only [List.length_map] at h1 hy; simp only [M_certificate_formed_L1, M_certificate_formed_L1_B, List.length_map, decide_lt h1, sel, ix_at hy, ixv, h2]; done)
  · simp only [M_certificate_formed_L1, M_certificate_formed_L1_E, List.length_map, decide_ge, sel]
theorem M_certificate_formed_L1_eq (a0 : List Fact)  (hl : a0.length < 9223372036854775807) : M_certificate_formed_L1 a0 (((a0.map cF).length : Int).toNat + 1) 0 = Rg (M_certificate_formed_L1_B a0) (M_certificate_formed_L1_E a0) a0 0 () := by
  have h := M_certificate_formed_L1_rg a0 hl (a0.length + 1) 0  (Nat.zero_le _) (by omega)
  rw [List.length_map, Int.toNat_natCast]
  exact h
def M_certificate_Check_L1_B (_ : GCertificate) (_y21 : Nogood) (_ : Int) : Unit → (Unit → Option (Unit ⊕ Er)) → Option (Unit ⊕ Er) := fun _ rc => ixv _y21 (fun y21 =>
       ob1 (M_certificate_formed y21.1) (fun z22 =>
        sel (!z22)
         (some (.inr (Er.no 2)))
         (rc ())))
def M_certificate_Check_L1_E (_ : GCertificate) : Unit → Option (Unit ⊕ Er) := fun _ => some (.inl ())
theorem M_certificate_Check_L1_rg (a0 : GCertificate) (hl : a0.Nogoods.length < 9223372036854775807) : ∀ (k n : Nat) , n ≤ a0.Nogoods.length → a0.Nogoods.length < k + n → M_certificate_Check_L1 a0 k (n : Int) = Rg (M_certificate_Check_L1_B a0) (M_certificate_Check_L1_E a0) (a0.Nogoods.drop n) n () := by
  intro k n 
  refine rg_of (L := fun k i (p : Unit) => M_certificate_Check_L1 a0 k i) hl (fun k n p y hy hn => ?_) (fun k p => ?_) k n ()
  · have h1 := lt_some hy
    have h2 := w64s hn
    first | (simp only [M_certificate_Check_L1, M_certificate_Check_L1_B, List.length_map, decide_lt h1, sel, ix_at hy, ixv, h2]; done) | (simp only [List.length_map] at h1 hy; simp only [M_certificate_Check_L1, M_certificate_Check_L1_B, List.length_map, decide_lt h1, sel, ix_at hy, ixv, h2]; done)
  · simp only [M_certificate_Check_L1, M_certificate_Check_L1_E, List.length_map, decide_ge, sel]
theorem M_certificate_Check_L1_eq (a0 : GCertificate)  (hl : a0.Nogoods.length < 9223372036854775807) : M_certificate_Check_L1 a0 (((a0.Nogoods.map cN).length : Int).toNat + 1) 0 = Rg (M_certificate_Check_L1_B a0) (M_certificate_Check_L1_E a0) a0.Nogoods 0 () := by
  have h := M_certificate_Check_L1_rg a0 hl (a0.Nogoods.length + 1) 0  (Nat.zero_le _) (by omega)
  rw [List.length_map, Int.toNat_natCast]
  exact h
def M_certificate_Check_L2_B (a0 : GCertificate) (_y28 : Nogood) (_ : Int) : Unit → (Unit → Option (Er)) → Option (Er) := fun _ rc => ixv _y28 (fun y28 =>
       sel (decide (y28.2 < 0))
        (some (Er.no 1))
        (sel (decide (a0.Bound ≥ 0))
          (sel (decide (y28.2 ≥ a0.Bound))
            (some (Er.no 1))
            (sel (decide (a0.Bound < 0))
              (sel (y28.2 != 0)
                (some (Er.no 1))
                (rc ()))
              (rc ())))
          (sel (decide (a0.Bound < 0))
            (sel (y28.2 != 0)
              (some (Er.no 1))
              (rc ()))
            (rc ()))))
def M_certificate_Check_L2_E (_ : GCertificate) : Unit → Option (Er) := fun _ => some Er.nil
theorem M_certificate_Check_L2_rg (a0 : GCertificate) (hl : a0.Nogoods.length < 9223372036854775807) : ∀ (k n : Nat) , n ≤ a0.Nogoods.length → a0.Nogoods.length < k + n → M_certificate_Check_L2 a0 k (n : Int) = Rg (M_certificate_Check_L2_B a0) (M_certificate_Check_L2_E a0) (a0.Nogoods.drop n) n () := by
  intro k n 
  refine rg_of (L := fun k i (p : Unit) => M_certificate_Check_L2 a0 k i) hl (fun k n p y hy hn => ?_) (fun k p => ?_) k n ()
  · have h1 := lt_some hy
    have h2 := w64s hn
    first | (simp only [M_certificate_Check_L2, M_certificate_Check_L2_B, List.length_map, decide_lt h1, sel, ix_at hy, ixv, h2]; done) | (simp only [List.length_map] at h1 hy; simp only [M_certificate_Check_L2, M_certificate_Check_L2_B, List.length_map, decide_lt h1, sel, ix_at hy, ixv, h2]; done)
  · simp only [M_certificate_Check_L2, M_certificate_Check_L2_E, List.length_map, decide_ge, sel]
theorem M_certificate_Check_L2_eq (a0 : GCertificate)  (hl : a0.Nogoods.length < 9223372036854775807) : M_certificate_Check_L2 a0 (((a0.Nogoods.map cN).length : Int).toNat + 1) 0 = Rg (M_certificate_Check_L2_B a0) (M_certificate_Check_L2_E a0) a0.Nogoods 0 () := by
  have h := M_certificate_Check_L2_rg a0 hl (a0.Nogoods.length + 1) 0  (Nat.zero_le _) (by omega)
  rw [List.length_map, Int.toNat_natCast]
  exact h
def M_certificate_Proper_L1_B (a0 : List Int) (_ : GCertificate) (_y10 : Nogood) (_ : Int) : Unit → (Unit → Option (Er)) → Option (Er) := fun _ rc => ixv _y10 (fun y10 =>
       ob1 (M_task_Facts a0 y10.1) (fun z11 =>
        sel (!z11)
         (some (Er.no 2))
         (rc ())))
def M_certificate_Proper_L1_E (_ : List Int) (_ : GCertificate) : Unit → Option (Er) := fun _ => some Er.nil
theorem M_certificate_Proper_L1_rg (a0 : List Int) (a1 : GCertificate) (hl : a1.Nogoods.length < 9223372036854775807) : ∀ (k n : Nat) , n ≤ a1.Nogoods.length → a1.Nogoods.length < k + n → M_certificate_Proper_L1 a0 a1 k (n : Int) = Rg (M_certificate_Proper_L1_B a0 a1) (M_certificate_Proper_L1_E a0 a1) (a1.Nogoods.drop n) n () := by
  intro k n 
  refine rg_of (L := fun k i (p : Unit) => M_certificate_Proper_L1 a0 a1 k i) hl (fun k n p y hy hn => ?_) (fun k p => ?_) k n ()
  · have h1 := lt_some hy
    have h2 := w64s hn
    first | (simp only [M_certificate_Proper_L1, M_certificate_Proper_L1_B, List.length_map, decide_lt h1, sel, ix_at hy, ixv, h2]; done) | (simp only [List.length_map] at h1 hy; simp only [M_certificate_Proper_L1, M_certificate_Proper_L1_B, List.length_map, decide_lt h1, sel, ix_at hy, ixv, h2]; done)
  · simp only [M_certificate_Proper_L1, M_certificate_Proper_L1_E, List.length_map, decide_ge, sel]
theorem M_certificate_Proper_L1_eq (a0 : List Int) (a1 : GCertificate)  (hl : a1.Nogoods.length < 9223372036854775807) : M_certificate_Proper_L1 a0 a1 (((a1.Nogoods.map cN).length : Int).toNat + 1) 0 = Rg (M_certificate_Proper_L1_B a0 a1) (M_certificate_Proper_L1_E a0 a1) a1.Nogoods 0 () := by
  have h := M_certificate_Proper_L1_rg a0 a1 hl (a1.Nogoods.length + 1) 0  (Nat.zero_le _) (by omega)
  rw [List.length_map, Int.toNat_natCast]
  exact h
def M_stratagem_checker_checker_counting_L1_B (_ : GChecker) (a1 : Int) (_y8 : Nogood) (_ : Int) : ((List (List Fact))) → (((List (List Fact))) → Option (List (List Fact))) → Option (List (List Fact)) := fun v6 rc => ixv _y8 (fun y8 =>
       sel (decide (y8.2 ≤ a1))
        (grd ((v6.length + 1) * 24 ≤ 140737488355328) (rc ((v6 ++ [y8.1]))))
        (rc (v6)))
def M_stratagem_checker_checker_counting_L1_E (_ : GChecker) (_ : Int) : ((List (List Fact))) → Option (List (List Fact)) := fun v6 => grd (v6.length ≤ 140737488355328) (some v6)
theorem M_stratagem_checker_checker_counting_L1_rg (a0 : GChecker) (a1 : Int) (hl : a0.c.Nogoods.length < 9223372036854775807) : ∀ (k n : Nat) (v6 : List (List Fact)), n ≤ a0.c.Nogoods.length → a0.c.Nogoods.length < k + n → M_stratagem_checker_checker_counting_L1 a0 a1 k (n : Int) v6 = Rg (M_stratagem_checker_checker_counting_L1_B a0 a1) (M_stratagem_checker_checker_counting_L1_E a0 a1) (a0.c.Nogoods.drop n) n v6 := by
  intro k n v6
  refine rg_of (L := fun k i (p : ((List (List Fact)))) => match p with | v6 => M_stratagem_checker_checker_counting_L1 a0 a1 k i v6) hl (fun k n p y hy hn => ?_) (fun k p => ?_) k n v6
  · have h1 := lt_some hy
    have h2 := w64s hn
    first | (simp only [M_stratagem_checker_checker_counting_L1, M_stratagem_checker_checker_counting_L1_B, List.length_map, decide_lt h1, sel, ix_at hy, ixv, h2]; done) | (simp only [List.length_map] at h1 hy; simp only [M_stratagem_checker_checker_counting_L1, M_stratagem_checker_checker_counting_L1_B, List.length_map, decide_lt h1, sel, ix_at hy, ixv, h2]; done)
  · simp only [M_stratagem_checker_checker_counting_L1, M_stratagem_checker_checker_counting_L1_E, List.length_map, decide_ge, sel]
theorem M_stratagem_checker_checker_counting_L1_eq (a0 : GChecker) (a1 : Int) (v6 : List (List Fact)) (hl : a0.c.Nogoods.length < 9223372036854775807) : M_stratagem_checker_checker_counting_L1 a0 a1 (((a0.c.Nogoods.map cN).length : Int).toNat + 1) 0 v6 = Rg (M_stratagem_checker_checker_counting_L1_B a0 a1) (M_stratagem_checker_checker_counting_L1_E a0 a1) a0.c.Nogoods 0 v6 := by
  have h := M_stratagem_checker_checker_counting_L1_rg a0 a1 hl (a0.c.Nogoods.length + 1) 0 v6 (Nat.zero_le _) (by omega)
  rw [List.length_map, Int.toNat_natCast]
  exact h
def M_stratagem_checker_checker_step_L1_B (g : Nat) (v2 : Int) (_ : List (List Fact)) (_y37 : List Fact) (_ : Int) : ((List Int) × (List Int) × (List Fact) × (List GOp) × (Int) × (List Nogood) × (Int)) → (((List Int) × (List Int) × (List Fact) × (List GOp) × (Int) × (List Nogood) × (Int)) → Option (Er × GChecker)) → Option (Er × GChecker) := fun (v29, v30, v31, v32, v33, v34, v35) rc => ixv _y37 (fun y37 =>
       ob3 (M_stratagem_checker_checker_covered g ({ t := { Vars := v29, Init := v30, Goal := v31, Ops := v32 : GTask }, c := { Bound := v33, Nogoods := v34 : GCertificate }, steps := v35 : GChecker }) y37 v2) (fun z38 z39 c40 =>
        erM z39
         (sel (!z38)
           (some ((Er.no 19), c40))
           (rc (c40.t.Vars, c40.t.Init, c40.t.Goal, c40.t.Ops, c40.c.Bound, c40.c.Nogoods, c40.steps)))
         (fun e41 => some ((Er.no e41), c40))))
def M_stratagem_checker_checker_step_L1_E (_ : Nat) (_ : Int) (_ : List (List Fact)) : ((List Int) × (List Int) × (List Fact) × (List GOp) × (Int) × (List Nogood) × (Int)) → Option (Er × GChecker) := fun (v29, v30, v31, v32, v33, v34, v35) => some (Er.nil, { t := { Vars := v29, Init := v30, Goal := v31, Ops := v32 : GTask }, c := { Bound := v33, Nogoods := v34 : GCertificate }, steps := v35 : GChecker })
theorem M_stratagem_checker_checker_step_L1_rg (g : Nat) (v2 : Int) (z7 : List (List Fact)) (hl : z7.length < 9223372036854775807) : ∀ (k n : Nat) (v29 : List Int) (v30 : List Int) (v31 : List Fact) (v32 : List GOp) (v33 : Int) (v34 : List Nogood) (v35 : Int), n ≤ z7.length → z7.length < k + n → M_stratagem_checker_checker_step_L1 g v2 z7 k (n : Int) v29 v30 v31 v32 v33 v34 v35 = Rg (M_stratagem_checker_checker_step_L1_B g v2 z7) (M_stratagem_checker_checker_step_L1_E g v2 z7) (z7.drop n) n (v29, v30, v31, v32, v33, v34, v35) := by
  intro k n v29 v30 v31 v32 v33 v34 v35
  refine rg_of (L := fun k i (p : ((List Int) × (List Int) × (List Fact) × (List GOp) × (Int) × (List Nogood) × (Int))) => match p with | (v29, v30, v31, v32, v33, v34, v35) => M_stratagem_checker_checker_step_L1 g v2 z7 k i v29 v30 v31 v32 v33 v34 v35) hl (fun k n p y hy hn => ?_) (fun k p => ?_) k n (v29, v30, v31, v32, v33, v34, v35)
  · have h1 := lt_some hy
    have h2 := w64s hn
    first | (simp only [M_stratagem_checker_checker_step_L1, M_stratagem_checker_checker_step_L1_B, List.length_map, decide_lt h1, sel, ix_at hy, ixv, h2]; done) | (simp only [List.length_map] at h1 hy; simp only [M_stratagem_checker_checker_step_L1, M_stratagem_checker_checker_step_L1_B, List.length_map, decide_lt h1, sel, ix_at hy, ixv, h2]; done)
  · simp only [M_stratagem_checker_checker_step_L1, M_stratagem_checker_checker_step_L1_E, List.length_map, decide_ge, sel]
theorem M_stratagem_checker_checker_step_L1_eq (g : Nat) (v2 : Int) (z7 : List (List Fact)) (v29 : List Int) (v30 : List Int) (v31 : List Fact) (v32 : List GOp) (v33 : Int) (v34 : List Nogood) (v35 : Int) (hl : z7.length < 9223372036854775807) : M_stratagem_checker_checker_step_L1 g v2 z7 (((z7.map cL_cF).length : Int).toNat + 1) 0 v29 v30 v31 v32 v33 v34 v35 = Rg (M_stratagem_checker_checker_step_L1_B g v2 z7) (M_stratagem_checker_checker_step_L1_E g v2 z7) z7 0 (v29, v30, v31, v32, v33, v34, v35) := by
  have h := M_stratagem_checker_checker_step_L1_rg g v2 z7 hl (z7.length + 1) 0 v29 v30 v31 v32 v33 v34 v35 (Nat.zero_le _) (by omega)
  rw [List.length_map, Int.toNat_natCast]
  exact h
def M_checker_Where_L1_B (a0 : GTask) (_ : GCertificate) (_y25 : Nogood) (_ : Int) : Unit → (Unit → Option (Unit ⊕ (Int × Int × Er))) → Option (Unit ⊕ (Int × Int × Er)) := fun _ rc => ixv _y25 (fun y25 =>
       ob1 (M_task_Holds y25.1 a0.Init) (fun z26 =>
        sel z26
         (some (.inr ((-1), (-1), (Er.no 20))))
         (rc ())))
def M_checker_Where_L1_E (_ : GTask) (_ : GCertificate) : Unit → Option (Unit ⊕ (Int × Int × Er)) := fun _ => some (.inl ())
theorem M_checker_Where_L1_rg (a0 : GTask) (a1 : GCertificate) (hl : a1.Nogoods.length < 9223372036854775807) : ∀ (k n : Nat) , n ≤ a1.Nogoods.length → a1.Nogoods.length < k + n → M_checker_Where_L1 a0 a1 k (n : Int) = Rg (M_checker_Where_L1_B a0 a1) (M_checker_Where_L1_E a0 a1) (a1.Nogoods.drop n) n () := by
  intro k n 
  refine rg_of (L := fun k i (p : Unit) => M_checker_Where_L1 a0 a1 k i) hl (fun k n p y hy hn => ?_) (fun k p => ?_) k n ()
  · have h1 := lt_some hy
    have h2 := w64s hn
    first | (simp only [M_checker_Where_L1, M_checker_Where_L1_B, List.length_map, decide_lt h1, sel, ix_at hy, ixv, h2]; done) | (simp only [List.length_map] at h1 hy; simp only [M_checker_Where_L1, M_checker_Where_L1_B, List.length_map, decide_lt h1, sel, ix_at hy, ixv, h2]; done)
  · simp only [M_checker_Where_L1, M_checker_Where_L1_E, List.length_map, decide_ge, sel]
theorem M_checker_Where_L1_eq (a0 : GTask) (a1 : GCertificate)  (hl : a1.Nogoods.length < 9223372036854775807) : M_checker_Where_L1 a0 a1 (((a1.Nogoods.map cN).length : Int).toNat + 1) 0 = Rg (M_checker_Where_L1_B a0 a1) (M_checker_Where_L1_E a0 a1) a1.Nogoods 0 () := by
  have h := M_checker_Where_L1_rg a0 a1 hl (a1.Nogoods.length + 1) 0  (Nat.zero_le _) (by omega)
  rw [List.length_map, Int.toNat_natCast]
  exact h
def M_checker_Where_L2_B (_ : GTask) (g : Nat) (v184 : Int) (y231 : Nogood) (v246 : Int) : ((List Int) × (List Int) × (List Fact) × (List GOp) × (Int) × (List Nogood) × (Int)) → (((List Int) × (List Int) × (List Fact) × (List GOp) × (Int) × (List Nogood) × (Int)) → Option (((List Int) × (List Int) × (List Fact) × (List GOp) × Int × (List Nogood) × Int) ⊕ (Int × Int × Er))) → Option (((List Int) × (List Int) × (List Fact) × (List GOp) × Int × (List Nogood) × Int) ⊕ (Int × Int × Er)) := fun (v247, v248, v249, v250, v251, v252, v253) rc => ob2 (M_stratagem_checker_checker_step g ({ t := { Vars := v247, Init := v248, Goal := v249, Ops := v250 : GTask }, c := { Bound := v251, Nogoods := v252 : GCertificate }, steps := v253 : GChecker }) y231 v246) (fun z255 c256 =>
       erM z255
        (rc (c256.t.Vars, c256.t.Init, c256.t.Goal, c256.t.Ops, c256.c.Bound, c256.c.Nogoods, c256.steps))
        (fun e257 => some (.inr (v184, v246, (Er.no e257)))))
def M_checker_Where_L2_E (_ : GTask) (_ : Nat) (_ : Int) (_ : Nogood) : ((List Int) × (List Int) × (List Fact) × (List GOp) × (Int) × (List Nogood) × (Int)) → Option (((List Int) × (List Int) × (List Fact) × (List GOp) × Int × (List Nogood) × Int) ⊕ (Int × Int × Er)) := fun (v247, v248, v249, v250, v251, v252, v253) => some (.inl (v247, v248, v249, v250, v251, v252, v253))
theorem M_checker_Where_L2_rg (a0 : GTask) (g : Nat) (v184 : Int) (y231 : Nogood) {m : Nat} (hm : ((a0.Ops.map cGOp).length : Int) = (m : Int)) (hl : m < 9223372036854775807) : ∀ (k n : Nat) (v247 : List Int) (v248 : List Int) (v249 : List Fact) (v250 : List GOp) (v251 : Int) (v252 : List Nogood) (v253 : Int), n ≤ m → m < k + n → M_checker_Where_L2 a0 g v184 y231 k (n : Int) v247 v248 v249 v250 v251 v252 v253 = Rn (M_checker_Where_L2_B a0 g v184 y231) (M_checker_Where_L2_E a0 g v184 y231) (m - n) n (v247, v248, v249, v250, v251, v252, v253) := by
  intro k n v247 v248 v249 v250 v251 v252 v253
  refine rn_of (L := fun k i (p : ((List Int) × (List Int) × (List Fact) × (List GOp) × (Int) × (List Nogood) × (Int))) => match p with | (v247, v248, v249, v250, v251, v252, v253) => M_checker_Where_L2 a0 g v184 y231 k i v247 v248 v249 v250 v251 v252 v253) hl (fun k n p hn => ?_) (fun k p => ?_) k n (v247, v248, v249, v250, v251, v252, v253)
  · have h2 := w64s (Nat.lt_trans hn hl)
    simp only [M_checker_Where_L2, M_checker_Where_L2_B, hm, decide_lt hn, sel, h2]
  · simp only [M_checker_Where_L2, M_checker_Where_L2_E, hm, decide_ge, sel]
theorem M_checker_Where_L2_eq (a0 : GTask) (g : Nat) (v184 : Int) (y231 : Nogood) (v247 : List Int) (v248 : List Int) (v249 : List Fact) (v250 : List GOp) (v251 : Int) (v252 : List Nogood) (v253 : Int) {m : Nat} (hm : ((a0.Ops.map cGOp).length : Int) = (m : Int)) (hl : m < 9223372036854775807) : M_checker_Where_L2 a0 g v184 y231 ((((a0.Ops.map cGOp).length : Int)).toNat + 1) 0 v247 v248 v249 v250 v251 v252 v253 = Rn (M_checker_Where_L2_B a0 g v184 y231) (M_checker_Where_L2_E a0 g v184 y231) m 0 (v247, v248, v249, v250, v251, v252, v253) := by
  have h := M_checker_Where_L2_rg a0 g v184 y231 hm hl (m + 1) 0 v247 v248 v249 v250 v251 v252 v253 (Nat.zero_le _) (by omega)
  have e : (((a0.Ops.map cGOp).length : Int)).toNat = m := by rw [hm, Int.toNat_natCast]
  rw [e]
  exact h
def M_checker_Where_L3_B (a0 : GTask) (_ : GCertificate) (g : Nat) (_y231 : Nogood) (v184 : Int) : ((List Int) × (List Int) × (List Fact) × (List GOp) × (Int) × (List Nogood) × (Int)) → (((List Int) × (List Int) × (List Fact) × (List GOp) × (Int) × (List Nogood) × (Int)) → Option (Int × Int × Er)) → Option (Int × Int × Er) := fun (v185, v186, v187, v188, v189, v190, v191) rc => ob1 (ixv _y231 (fun y231 =>
        M_checker_Where_L2 a0 g v184 y231 ((((a0.Ops.map cGOp).length : Int)).toNat + 1) 0 v185 v186 v187 v188 v189 v190 v191) : Option (((List Int) × (List Int) × (List Fact) × (List GOp) × Int × (List Nogood) × Int) ⊕ (Int × Int × Er)))
       (osum
       (fun (v220, v221, v222, v223, v224, v225, v226) => rc (v220, v221, v222, v223, v224, v225, v226))
       (fun (r227, r228, r229) => some (r227, r228, r229)))
def M_checker_Where_L3_E (_ : GTask) (_ : GCertificate) (_ : Nat) : ((List Int) × (List Int) × (List Fact) × (List GOp) × (Int) × (List Nogood) × (Int)) → Option (Int × Int × Er) := fun (_, _, _, _, _, _, _) => some ((-1), (-1), Er.nil)
theorem M_checker_Where_L3_rg (a0 : GTask) (a1 : GCertificate) (g : Nat) (hl : a1.Nogoods.length < 9223372036854775807) : ∀ (k n : Nat) (v185 : List Int) (v186 : List Int) (v187 : List Fact) (v188 : List GOp) (v189 : Int) (v190 : List Nogood) (v191 : Int), n ≤ a1.Nogoods.length → a1.Nogoods.length < k + n → M_checker_Where_L3 a0 a1 g k (n : Int) v185 v186 v187 v188 v189 v190 v191 = Rg (M_checker_Where_L3_B a0 a1 g) (M_checker_Where_L3_E a0 a1 g) (a1.Nogoods.drop n) n (v185, v186, v187, v188, v189, v190, v191) := by
  intro k n v185 v186 v187 v188 v189 v190 v191
  refine rg_of (L := fun k i (p : ((List Int) × (List Int) × (List Fact) × (List GOp) × (Int) × (List Nogood) × (Int))) => match p with | (v185, v186, v187, v188, v189, v190, v191) => M_checker_Where_L3 a0 a1 g k i v185 v186 v187 v188 v189 v190 v191) hl (fun k n p y hy hn => ?_) (fun k p => ?_) k n (v185, v186, v187, v188, v189, v190, v191)
  · have h1 := lt_some hy
    have h2 := w64s hn
    first | (simp only [M_checker_Where_L3, M_checker_Where_L3_B, List.length_map, decide_lt h1, sel, ix_at hy, ixv, h2]; done) | (simp only [List.length_map] at h1 hy; simp only [M_checker_Where_L3, M_checker_Where_L3_B, List.length_map, decide_lt h1, sel, ix_at hy, ixv, h2]; done)
  · simp only [M_checker_Where_L3, M_checker_Where_L3_E, List.length_map, decide_ge, sel]
theorem M_checker_Where_L3_eq (a0 : GTask) (a1 : GCertificate) (g : Nat) (v185 : List Int) (v186 : List Int) (v187 : List Fact) (v188 : List GOp) (v189 : Int) (v190 : List Nogood) (v191 : Int) (hl : a1.Nogoods.length < 9223372036854775807) : M_checker_Where_L3 a0 a1 g (((a1.Nogoods.map cN).length : Int).toNat + 1) 0 v185 v186 v187 v188 v189 v190 v191 = Rg (M_checker_Where_L3_B a0 a1 g) (M_checker_Where_L3_E a0 a1 g) a1.Nogoods 0 (v185, v186, v187, v188, v189, v190, v191) := by
  have h := M_checker_Where_L3_rg a0 a1 g hl (a1.Nogoods.length + 1) 0 v185 v186 v187 v188 v189 v190 v191 (Nat.zero_le _) (by omega)
  rw [List.length_map, Int.toNat_natCast]
  exact h
end Go.Proofs.YtcpajbglcgbolaaGreat.Am
/- Plain: certificate.Check, Proper; task.Holds. -/
namespace Go.Proofs.YtcpajbglcgbolaaGreat.Am
open Go.RowKit
theorem tholds_eq (l : List Fact) (s : List Int) (hl : Sh l) : M_task_Holds l s = some (holdsF s l) := by
  rw [M_task_Holds, M_task_Holds_L1_eq l s hl.lt, rg_all (p := hold1 s) (c := some false)]
  · rw [M_task_Holds_L1_E, holdsF]; cases l.all (hold1 s) <;> rfl
  · intro x _ i rc
    rw [M_task_Holds_L1_B, ixv, sel_dec, sel_dec, List.length_map, hold1]
    by_cases h0 : x.1 < 0
    · rw [if_pos h0, decide_eq_false (by omega), Bool.false_and, if_neg (by decide)]
    · rw [if_neg h0, decide_eq_true (p := 0 ≤ x.1) (by omega), Bool.true_and]
      by_cases h1 : x.1 < s.length
      · rw [if_neg (by omega), decide_eq_true h1, Bool.true_and, ix_getD (d := 0) (by omega) h1, bne]
        cases s.getD x.1.toNat 0 == x.2 <;> rfl
      · rw [if_pos (by omega), decide_eq_false h1, Bool.false_and, if_neg (by decide)]
def limF (l : List Fact) : Bool := l.all fun x => decide (x.1 < 64 ∧ x.2 < 64)
def frmF (l : List Fact) : Bool := vF (-1) l && limF l
theorem formed_loop (l : List Fact) (hs : Sh l) : ∀ (r : List Fact) (n : Nat) (last : Int), l.drop n = r → n ≤ l.length → -1 ≤ last → (n = 0 → last = -1) → (∀ m, n = m + 1 → ∃ x, l[m]? = some x ∧ x.1 = last) → Rg (M_certificate_formed_L1_B l) (M_certificate_formed_L1_E l) r n () = some (vF last r && limF r)
  | [], _, _, _, _, _, _, _ => rfl
  | y :: r, n, last, hd, hn, hl, h0, hp => by
    rw [Rg, vF, limF, List.all_cons]
    obtain ⟨hy, hd', hlt⟩ := drop_cons hd
    have hih : 0 ≤ y.1 → Rg (M_certificate_formed_L1_B l) (M_certificate_formed_L1_E l) r ((n : Int) + 1) () = some (vF y.1 r && limF r) := fun h => formed_loop l hs r (n + 1) y.1 hd' hlt (by omega) (by omega) (fun m hm => ⟨y, by rw [show m = n by omega]; exact hy, rfl⟩)
    simp only [M_certificate_formed_L1_B, ixv, sel_dec]
    by_cases h1 : y.1 < 0
    · rw [if_pos h1, decide_eq_false (p := last < y.1 ∧ 0 ≤ y.2) (by omega)]; rfl
    · rw [if_neg h1]
      by_cases h2 : y.1 ≥ 64
      · rw [if_pos h2, decide_eq_false (p := y.1 < 64 ∧ y.2 < 64) (by omega), Bool.false_and, Bool.and_false]
      · rw [if_neg h2]
        by_cases h3 : y.2 < 0
        · rw [if_pos h3, decide_eq_false (p := last < y.1 ∧ 0 ≤ y.2) (by omega)]; rfl
        · rw [if_neg h3]
          by_cases h4 : y.2 ≥ 64
          · rw [if_pos h4, decide_eq_false (p := y.1 < 64 ∧ y.2 < 64) (by omega), Bool.false_and, Bool.and_false]
          · rw [if_neg h4, decide_eq_true (p := y.1 < 64 ∧ y.2 < 64) (by omega), Bool.true_and]
            cases n with
            | zero =>
              have := h0 rfl
              rw [if_neg (by omega), decide_eq_true (p := last < y.1 ∧ 0 ≤ y.2) (by omega)]
              exact hih (by omega)
            | succ m =>
              obtain ⟨x, hx, hxl⟩ := hp m rfl
              rw [if_pos (by omega), w64 (by omega) (by have := hs; unfold Sh at this; omega), show (((m + 1 : Nat) : Int) - 1) = (m : Int) by omega, ix_at hx]
              by_cases h5 : x.1 ≥ y.1
              · rw [if_pos h5, decide_eq_false (p := last < y.1 ∧ 0 ≤ y.2) (by omega)]; rfl
              · rw [if_neg h5, decide_eq_true (p := last < y.1 ∧ 0 ≤ y.2) (by omega)]
                exact hih (by omega)
theorem formed_eq (l : List Fact) (hl : Sh l) : M_certificate_formed l = some (frmF l) := by
  rw [M_certificate_formed, M_certificate_formed_L1_eq _ hl.lt]
  exact formed_loop l hl l 0 (-1) rfl (Nat.zero_le _) (by omega) (fun _ => rfl) (fun m hm => by omega)
/-- sizes of a certificate -/
structure ShC (c : GCertificate) : Prop where
  list : Sh c.Nogoods
  each : ∀ n ∈ c.Nogoods, Sh n.1
def distF (b : Int) (n : Nogood) : Bool := decide (0 ≤ n.2 ∧ (0 ≤ b → n.2 < b) ∧ (b < 0 → n.2 = 0))
def certF (c : GCertificate) : Er :=
  if c.Bound < -1 ∨ c.Bound > 1099511627776 then .no 1
  else if c.Nogoods.length > 4096 then .no 5
  else if (c.Nogoods.all fun n => frmF n.1) = true then (if (c.Nogoods.all (distF c.Bound)) = true then .nil else .no 1)
  else .no 2
theorem ccheck_eq (c : GCertificate) (hc : ShC c) : M_certificate_Check c = some (certF c) := by
  rw [M_certificate_Check, certF, sel_dec, sel_dec]
  by_cases h1 : c.Bound < -1
  · rw [if_pos h1, if_pos (Or.inl h1)]; rfl
  · rw [if_neg h1]
    by_cases h2 : c.Bound > 1099511627776
    · rw [if_pos h2, if_pos (Or.inr h2)]; rfl
    · rw [if_neg h2, if_neg (by omega), ob1_some, osum_inl, sel_dec, List.length_map]
      by_cases h3 : c.Nogoods.length > 4096
      · rw [if_pos (by omega), if_pos h3]
      · have e1 := M_certificate_Check_L1_eq c (by omega)
        have e2 := M_certificate_Check_L2_eq c (by omega)
        rw [List.length_map] at e1 e2
        rw [if_neg (by omega), if_neg h3, e1, rg_all (p := fun n : Nogood => frmF n.1) (c := some (.inr (Er.no 2)))]
        · cases ha : c.Nogoods.all fun n => frmF n.1 with
          | false => rw [if_neg (by decide), ob1_some, osum_inr, if_neg (by decide)]
          | true =>
            rw [if_pos rfl, if_pos rfl, M_certificate_Check_L1_E, ob1_some, osum_inl, e2, rg_all (p := distF c.Bound) (c := some (Er.no 1)), M_certificate_Check_L2_E]
            · split <;> rfl
            · intro n _ i rc
              rw [M_certificate_Check_L2_B, ixv, distF]
              simp only [sel_dec]
              by_cases q1 : n.2 < 0
              · rw [if_pos q1, decide_eq_false (by omega)]; rfl
              · rw [if_neg q1]
                by_cases q2 : c.Bound ≥ 0
                · rw [if_pos q2]
                  by_cases q3 : n.2 ≥ c.Bound
                  · rw [if_pos q3, decide_eq_false (by omega)]; rfl
                  · rw [if_neg q3, if_neg (by omega), decide_eq_true (by omega)]; rfl
                · rw [if_neg q2, if_pos (by omega)]
                  by_cases q4 : n.2 = 0
                  · rw [show (n.2 != 0) = false from by simp [q4], sel_ff, decide_eq_true (by omega)]; rfl
                  · rw [show (n.2 != 0) = true from by simp [q4], sel_tt, decide_eq_false (by omega)]; rfl
        · intro n hn i rc
          rw [M_certificate_Check_L1_B, ixv, formed_eq n.1 (hc.each n hn), ob1_some]
          cases frmF n.1 <;> rfl
def properF (vars : List Int) (c : GCertificate) : Er :=
  match certF c with
  | .nil => if (c.Nogoods.all fun n => propF vars (-1) n.1) = true then .nil else .no 2
  | .no e => .no e
theorem cproper_eq (vars : List Int) (c : GCertificate) (hc : ShC c) : M_certificate_Proper vars c = some (properF vars c) := by
  have e1 := M_certificate_Proper_L1_eq vars c hc.list.lt
  rw [M_certificate_Proper, ccheck_eq c hc, ob1_some, properF, e1]
  cases certF c with
  | no e => rfl
  | nil =>
    show Rg _ _ _ _ _ = _
    rw [rg_all (p := fun n : Nogood => propF vars (-1) n.1) (c := some (Er.no 2)), M_certificate_Proper_L1_E]
    · simp only; split <;> rfl
    · intro n hn i rc
      rw [M_certificate_Proper_L1_B, ixv, facts_eq vars n.1 (hc.each n hn), ob1_some]
      cases propF vars (-1) n.1 <;> rfl
/-- a certificate that is proper -/
structure CertP (vars : List Int) (c : GCertificate) : Prop where
  b0 : -1 ≤ c.Bound
  b1 : c.Bound ≤ 1099511627776
  len : c.Nogoods.length ≤ 4096
  prop : ∀ n ∈ c.Nogoods, propF vars (-1) n.1 = true
  frm : ∀ n ∈ c.Nogoods, frmF n.1 = true
  d0 : ∀ n ∈ c.Nogoods, 0 ≤ n.2
  d1 : ∀ n ∈ c.Nogoods, 0 ≤ c.Bound → n.2 < c.Bound
  d2 : ∀ n ∈ c.Nogoods, c.Bound < 0 → n.2 = 0
theorem certF_nil (c : GCertificate) : certF c = .nil ↔ -1 ≤ c.Bound ∧ c.Bound ≤ 1099511627776 ∧ c.Nogoods.length ≤ 4096 ∧ (∀ n ∈ c.Nogoods, frmF n.1 = true) ∧ ∀ n ∈ c.Nogoods, distF c.Bound n = true := by
  unfold certF
  split
  · exact ⟨(nofun), fun h => by omega⟩
  · split
    · exact ⟨(nofun), fun h => by omega⟩
    · split
      · rename_i h
        rw [List.all_eq_true] at h
        split
        · rename_i h2
          rw [List.all_eq_true] at h2
          exact ⟨fun _ => ⟨by omega, by omega, by omega, h, h2⟩, fun _ => rfl⟩
        · rename_i h2
          rw [List.all_eq_true] at h2
          exact ⟨(nofun), fun hh => absurd hh.2.2.2.2 h2⟩
      · rename_i h
        rw [List.all_eq_true] at h
        exact ⟨(nofun), fun hh => absurd hh.2.2.2.1 h⟩
theorem properF_nil (vars : List Int) (c : GCertificate) : properF vars c = .nil ↔ CertP vars c := by
  unfold properF
  constructor
  · intro h
    cases hc : certF c with
    | no e => rw [hc] at h; cases h
    | nil =>
      rw [hc] at h
      simp only at h
      split at h
      · rename_i ha
        rw [List.all_eq_true] at ha
        obtain ⟨h1, h2, h3, h4, h5⟩ := (certF_nil c).1 hc
        have hd : ∀ n ∈ c.Nogoods, 0 ≤ n.2 ∧ (0 ≤ c.Bound → n.2 < c.Bound) ∧ (c.Bound < 0 → n.2 = 0) := fun n hn => of_decide_eq_true (h5 n hn)
        exact ⟨h1, h2, h3, ha, h4, fun n hn => (hd n hn).1, fun n hn => (hd n hn).2.1, fun n hn => (hd n hn).2.2⟩
      · cases h
  · intro h
    rw [(certF_nil c).2 ⟨h.b0, h.b1, h.len, h.frm, fun n hn => decide_eq_true ⟨h.d0 n hn, h.d1 n hn, h.d2 n hn⟩⟩]
    simp only
    rw [if_pos (List.all_eq_true.2 h.prop)]
end Go.Proofs.YtcpajbglcgbolaaGreat.Am
/- Plain: checker.Where, Verify. -/
namespace Go.Proofs.YtcpajbglcgbolaaGreat.Am
open Go.RowKit
def countL (ns : List Nogood) (d : Int) : List (List Fact) := (ns.filter fun n => decide (n.2 ≤ d)).map (·.1)
theorem count_loop (x : GChecker) (d : Int) : ∀ (r : List Nogood) (i : Int) (v : List (List Fact)), v.length + r.length ≤ 1000000 →
    Rg (M_stratagem_checker_checker_counting_L1_B x d) (M_stratagem_checker_checker_counting_L1_E x d) r i v = some (v ++ countL r d)
  | [], i, v, h => by rw [Rg, M_stratagem_checker_checker_counting_L1_E, grd_t (by simp at h; omega)]; simp [countL]
  | n :: r, i, v, h => by
    rw [List.length_cons] at h
    rw [Rg, M_stratagem_checker_checker_counting_L1_B, ixv, sel_dec]
    by_cases hd : n.2 ≤ d
    · rw [if_pos hd, grd_t (by omega), count_loop x d r _ _ (by simp; omega)]
      simp [countL, hd]
    · rw [if_neg hd, count_loop x d r _ _ (by omega)]
      simp [countL, hd]
theorem counting_eq (x : GChecker) (d : Int) (h : x.c.Nogoods.length ≤ 4096) : M_stratagem_checker_checker_counting x d = some (countL x.c.Nogoods d) := by
  rw [M_stratagem_checker_checker_counting, M_stratagem_checker_checker_counting_L1_eq x d [] (by omega), count_loop x d _ _ _ (by simp; omega), List.nil_append]
theorem count_prop {vars : List Int} {c : GCertificate} (h : CertP vars c) (d : Int) : PropL vars (countL c.Nogoods d) := fun x hx => by
  obtain ⟨n, hn, rfl⟩ := List.mem_map.1 hx
  exact h.prop n (List.mem_filter.1 hn).1
theorem count_len {vars : List Int} {c : GCertificate} (h : CertP vars c) (d : Int) : (countL c.Nogoods d).length ≤ 4096 := by
  unfold countL
  rw [List.length_map]
  exact Nat.le_trans (List.length_filter_le _ _) h.len
/-- one question, with the steps that are left -/
def askC (t : GTask) (c : GCertificate) (p : List Fact) (d r : Int) : Bool × Er × Int :=
  if (covA t.Vars p (countL c.Nogoods d)).2 ≤ r then ((covA t.Vars p (countL c.Nogoods d)).1, .nil, r - (covA t.Vars p (countL c.Nogoods d)).2) else (false, .no 10, r)
theorem covA_pos (vars : List Int) (p : List Fact) (l : List (List Fact)) : 1 ≤ (covA vars p l).2 := decA_pos _ _ _ _
theorem askC_r {t : GTask} {c : GCertificate} {p : List Fact} {d r : Int} (h : 0 ≤ r ∧ r ≤ 1048576) : 0 ≤ (askC t c p d r).2.2 ∧ (askC t c p d r).2.2 ≤ 1048576 := by
  have := covA_pos t.Vars p (countL c.Nogoods d)
  unfold askC
  split
  · show 0 ≤ r - _ ∧ r - _ ≤ _; omega
  · exact h
theorem ask_eq {t : GTask} {c : GCertificate} (hd : DomP t.Vars) (hc : CertP t.Vars c) (g : Nat) (hg : 70 ≤ g) (p : List Fact) (hp : propF t.Vars (-1) p = true) (d r : Int) (hr : 0 ≤ r ∧ r ≤ 1048576) :
    M_stratagem_checker_checker_covered g { t := t, c := c, steps := r } p d = some ((askC t c p d r).1, (askC t c p d r).2.1, { t := t, c := c, steps := (askC t c p d r).2.2 }) := by
  have hl := count_len hc d
  rw [M_stratagem_checker_checker_covered, counting_eq _ d hc.len, ob1_some]
  show ob3 (M_partial_Covered g t.Vars p (countL c.Nogoods d) r) _ = _
  rw [covered_eq hd hp (count_prop hc d) (by omega) r (by omega) g (by omega), covR, askC]
  have hpos := covA_pos t.Vars p (countL c.Nogoods d)
  by_cases h : (covA t.Vars p (countL c.Nogoods d)).2 ≤ r
  · rw [if_pos h, if_pos h, ob3_some]
    show some (_, _, _) = some (_, _, _)
    rw [wrap_eq (by show _ ≤ r - _; omega) (by show r - _ ≤ _; omega)]
  · rw [if_neg h, if_neg h, ob3_some]; rfl
def stepL (t : GTask) (c : GCertificate) (d : Int) : List (List Fact) → Int → Er × Int
  | [], r => (.nil, r)
  | p :: ps, r => match askC t c p d r with
    | (true, .nil, r') => stepL t c d ps r'
    | (false, .nil, r') => (.no 19, r')
    | (_, .no e, r') => (.no e, r')
theorem stepL_r (t : GTask) (c : GCertificate) (d : Int) : ∀ (l : List (List Fact)) (r : Int), 0 ≤ r ∧ r ≤ 1048576 → 0 ≤ (stepL t c d l r).2 ∧ (stepL t c d l r).2 ≤ 1048576
  | [], r, h => h
  | p :: ps, r, h => by
    have ha := askC_r (t := t) (c := c) (p := p) (d := d) h
    rw [stepL]
    rcases hq : askC t c p d r with ⟨b, e, r'⟩
    rw [hq] at ha
    cases e with
    | no e => cases b <;> exact ha
    | nil =>
      cases b with
      | false => exact ha
      | true => exact stepL_r t c d ps r' ha
theorem step_loop {t : GTask} {c : GCertificate} (hd : DomP t.Vars) (hc : CertP t.Vars c) (g : Nat) (hg : 70 ≤ g) (d : Int) (z : List (List Fact)) : ∀ (l : List (List Fact)) (i r : Int), PropL t.Vars l → 0 ≤ r ∧ r ≤ 1048576 →
    Rg (M_stratagem_checker_checker_step_L1_B g d z) (M_stratagem_checker_checker_step_L1_E g d z) l i (t.Vars, t.Init, t.Goal, t.Ops, c.Bound, c.Nogoods, r) = some ((stepL t c d l r).1, { t := t, c := c, steps := (stepL t c d l r).2 })
  | [], i, r, _, _ => rfl
  | p :: ps, i, r, hl, hr => by
    rw [Rg, M_stratagem_checker_checker_step_L1_B]
    show ixv p (fun y37 => ob3 (M_stratagem_checker_checker_covered g { t := t, c := c, steps := r } y37 d) _) = _
    rw [ixv, ask_eq hd hc g hg p (hl p (List.mem_cons_self ..)) d r hr, ob3_some, stepL]
    have ha := askC_r (t := t) (c := c) (p := p) (d := d) hr
    rcases hq : askC t c p d r with ⟨b, e, r'⟩
    rw [hq] at ha
    cases e with
    | no e => cases b <;> rfl
    | nil =>
      cases b with
      | false => rfl
      | true => exact step_loop hd hc g hg d z ps _ r' (fun x hx => hl x (List.mem_cons_of_mem _ hx)) ha
def distO (c : GCertificate) (n : Nogood) (o : GOp) : Int := if 0 ≤ c.Bound then n.2 + o.Cost else 0
def skipO (c : GCertificate) (n : Nogood) (o : GOp) : Bool := decide (0 ≤ c.Bound ∧ c.Bound ≤ n.2 + o.Cost)
def stepO (t : GTask) (c : GCertificate) (n : Nogood) (o : GOp) (r : Int) : Er × Int :=
  if skipO c n o = true then (.nil, r)
  else match regO t.Vars o n.1 with
    | none => (.no 5, r)
    | some l => stepL t c (distO c n o) l r
theorem stepO_r (t : GTask) (c : GCertificate) (n : Nogood) (o : GOp) (r : Int) (h : 0 ≤ r ∧ r ≤ 1048576) : 0 ≤ (stepO t c n o r).2 ∧ (stepO t c n o r).2 ≤ 1048576 := by
  unfold stepO
  split
  · exact h
  · split
    · exact h
    · exact stepL_r _ _ _ _ _ h
theorem regO_len {t : GTask} (hgood : goodF t = true) {p : List Fact} (hpf : propF t.Vars (-1) p = true) {o : GOp} (ho : o ∈ t.Ops) {l : List (List Fact)} (h : regO t.Vars o p = some l) : PropL t.Vars l ∧ l.length ≤ 1024 := by
  unfold regO at h
  cases hr : regG t.Vars o p [o.Pre] with
  | none => rw [hr] at h; cases h
  | some m =>
    rw [hr, Option.map_some] at h
    obtain rfl := Option.some.inj h
    obtain ⟨l1, -, l3⟩ := pre_prop hgood hpf ho hr
    refine ⟨fun x hx => l1 x (List.mem_filter.1 ((sortLL_mem x _).1 hx)).1, ?_⟩
    rw [sortLL_length]
    exact Nat.le_trans (List.length_filter_le _ _) l3
theorem good_cost {t : GTask} (h : goodF t = true) {o : GOp} (ho : o ∈ t.Ops) : 0 ≤ o.Cost ∧ o.Cost ≤ 1048576 := by
  unfold goodF at h
  simp only [Bool.and_eq_true, List.all_eq_true] at h
  have := h.2.2.2.2 o ho
  unfold opF at this
  simp only [Bool.and_eq_true, decide_eq_true_iff] at this
  exact ⟨this.1.1, this.1.2.1⟩
theorem step_eq {t : GTask} (ht : ShT t) (hgood : goodF t = true) {c : GCertificate} (hc : CertP t.Vars c) (g : Nat) (hg : 70 ≤ g) (n : Nogood) (hn : n ∈ c.Nogoods) (j : Nat) (o : GOp) (hj : t.Ops[j]? = some o) (r : Int) (hr : 0 ≤ r ∧ r ≤ 1048576) :
    M_stratagem_checker_checker_step g { t := t, c := c, steps := r } n j = some ((stepO t c n o r).1, { t := t, c := c, steps := (stepO t c n o r).2 }) := by
  have hd := good_dom hgood
  have ho := List.mem_of_getElem? hj
  have hcost := good_cost hgood ho
  have hn0 := hc.d0 n hn
  have hn1 := hc.d1 n hn
  have hb1 := hc.b1
  have hw : 0 ≤ c.Bound → IntKind.i64.wrap (n.2 + o.Cost) = n.2 + o.Cost := fun h => wrap_eq (by omega) (by have := hn1 h; omega)
  have hreg : ∀ v : Int, v = distO c n o → skipO c n o = false → ob2 (M_regress_Regress g t (j : Int) n.1) (fun z7 z8 =>
      erM z8 (M_stratagem_checker_checker_step_L1 g v z7 ((((z7.map cL_cF).length : Int)).toNat + 1) 0 t.Vars t.Init t.Goal t.Ops c.Bound c.Nogoods r)
       (fun e9 => some ((Er.no e9), ({ t := t, c := c, steps := r } : GChecker)))) = some ((stepO t c n o r).1, { t := t, c := c, steps := (stepO t c n o r).2 }) := by
    intro v hv hs
    rw [regress_eq t ht hgood n.1 (hc.prop n hn) g hg (j : Int) o (by omega) (by rw [Int.toNat_natCast]; exact hj), ob2_res, stepO, hs, if_neg (by decide)]
    cases hro : regO t.Vars o n.1 with
    | none => rfl
    | some l =>
      obtain ⟨l1, l2⟩ := regO_len hgood (hc.prop n hn) ho hro
      simp only
      rw [M_stratagem_checker_checker_step_L1_eq g v l _ _ _ _ _ _ _ (by omega), step_loop hd hc g hg v l l 0 r l1 hr, hv]
  rw [M_stratagem_checker_checker_step]
  simp only [sel_dec, ge_iff_le]
  by_cases h : 0 ≤ c.Bound
  · rw [if_pos h, ix_at hj, hw h]
    by_cases h2 : c.Bound ≤ n.2 + o.Cost
    · have hs : skipO c n o = true := decide_eq_true ⟨h, h2⟩
      rw [if_pos h2, ob1_some, osum_inr, stepO, hs, if_pos rfl]
    · rw [if_neg h2, ob1_some, osum_inl]
      exact hreg _ (by rw [distO, if_pos h]) (decide_eq_false (by omega))
  · rw [if_neg h, ob1_some, osum_inl]
    exact hreg _ (by rw [distO, if_neg h]) (decide_eq_false (by omega))
/-- the operators for one nogood: the steps left, or where it fails -/
def opsC (t : GTask) (c : GCertificate) (n : Nogood) (i : Int) : List GOp → Int → Int → Int ⊕ (Int × Int × Er)
  | [], _, r => .inl r
  | o :: os, j, r => match stepO t c n o r with
    | (.nil, r') => opsC t c n i os (j + 1) r'
    | (.no e, _) => .inr (i, j, .no e)
def nogC (t : GTask) (c : GCertificate) : List Nogood → Int → Int → Int × Int × Er
  | [], _, _ => (-1, -1, .nil)
  | n :: ns, i, r => match opsC t c n i t.Ops 0 r with
    | .inl r' => nogC t c ns (i + 1) r'
    | .inr x => x
theorem opsC_r (t : GTask) (c : GCertificate) (n : Nogood) (i : Int) : ∀ (l : List GOp) (j r : Int), 0 ≤ r ∧ r ≤ 1048576 → ∀ r', opsC t c n i l j r = .inl r' → 0 ≤ r' ∧ r' ≤ 1048576
  | [], j, r, h, r', e => by rw [opsC] at e; injection e with e; omega
  | o :: os, j, r, h, r', e => by
    have hs := stepO_r t c n o r h
    rw [opsC] at e
    rcases hq : stepO t c n o r with ⟨x, y⟩
    rw [hq] at e hs
    cases x with
    | no x => cases e
    | nil => exact opsC_r t c n i os (j + 1) y hs r' e
theorem ops_loop {t : GTask} (ht : ShT t) (hgood : goodF t = true) {c : GCertificate} (hc : CertP t.Vars c) (g : Nat) (hg : 70 ≤ g) (n : Nogood) (hn : n ∈ c.Nogoods) (i : Int) : ∀ (l : List GOp) (m j : Nat) (r : Int), t.Ops.drop j = l → l.length = m → 0 ≤ r ∧ r ≤ 1048576 →
    Rn (M_checker_Where_L2_B t g i n) (M_checker_Where_L2_E t g i n) m j (t.Vars, t.Init, t.Goal, t.Ops, c.Bound, c.Nogoods, r) = some (match opsC t c n i l j r with | .inl r' => .inl (t.Vars, t.Init, t.Goal, t.Ops, c.Bound, c.Nogoods, r') | .inr x => .inr x)
  | [], m, j, r, _, hm, _ => by subst hm; rfl
  | o :: os, m, j, r, hdr, hm, hr => by
    obtain ⟨hj, hd', hlt⟩ := drop_cons hdr
    obtain ⟨m, rfl⟩ : ∃ k, m = k + 1 := ⟨os.length, hm.symm⟩
    rw [Rn, M_checker_Where_L2_B]
    show ob2 (M_stratagem_checker_checker_step g { t := t, c := c, steps := r } n (j : Int)) _ = _
    have hs := stepO_r t c n o r hr
    rw [step_eq ht hgood hc g hg n hn j o hj r hr, ob2_some, opsC]
    rcases hq : stepO t c n o r with ⟨x, y⟩
    rw [hq] at hs
    cases x with
    | no x => rfl
    | nil => exact ops_loop ht hgood hc g hg n hn i os m (j + 1) y hd' (by simpa using hm) hs
theorem nog_loop {t : GTask} (ht : ShT t) (hgood : goodF t = true) {c : GCertificate} (hc : CertP t.Vars c) (g : Nat) (hg : 70 ≤ g) : ∀ (l : List Nogood) (i r : Int), (∀ n ∈ l, n ∈ c.Nogoods) → 0 ≤ r ∧ r ≤ 1048576 →
    Rg (M_checker_Where_L3_B t c g) (M_checker_Where_L3_E t c g) l i (t.Vars, t.Init, t.Goal, t.Ops, c.Bound, c.Nogoods, r) = some (nogC t c l i r)
  | [], i, r, _, _ => rfl
  | n :: ns, i, r, hl, hr => by
    have hops : t.Ops.length ≤ 4096 := by
      unfold goodF at hgood
      simp only [Bool.and_eq_true, decide_eq_true_iff] at hgood
      exact hgood.1.2
    rw [Rg, M_checker_Where_L3_B]
    show ob1 (ixv n (fun y231 => M_checker_Where_L2 t g i y231 ((((t.Ops.map cGOp).length : Int)).toNat + 1) 0 t.Vars t.Init t.Goal t.Ops c.Bound c.Nogoods r)) _ = _
    rw [ixv, M_checker_Where_L2_eq t g i n _ _ _ _ _ _ _ (m := t.Ops.length) (by rw [List.length_map]) (by omega)]
    have e := ops_loop ht hgood hc g hg n (hl n (List.mem_cons_self ..)) i t.Ops t.Ops.length 0 r rfl rfl hr
    have e' : Rn (M_checker_Where_L2_B t g i n) (M_checker_Where_L2_E t g i n) t.Ops.length 0 (t.Vars, t.Init, t.Goal, t.Ops, c.Bound, c.Nogoods, r) = _ := e
    rw [e', ob1_some, nogC]
    have hr2 := opsC_r t c n i t.Ops 0 r hr
    show osum _ _ (match opsC t c n i t.Ops 0 r with | .inl r' => _ | .inr x => _) = _
    cases ho : opsC t c n i t.Ops 0 r with
    | inl r' => exact nog_loop ht hgood hc g hg ns _ r' (fun x hx => hl x (List.mem_cons_of_mem _ hx)) (hr2 r' ho)
    | inr x => rfl
/-- what Where answers for a right task and certificate -/
def whereC (t : GTask) (c : GCertificate) (r : Int) : Int × Int × Er :=
  if c.Nogoods.any (fun n => holdsF t.Init n.1) = true then (-1, -1, .no 20)
  else if c.Bound = 0 then nogC t c c.Nogoods 0 r
  else match askC t c t.Goal 0 r with
    | (true, .nil, r') => nogC t c c.Nogoods 0 r'
    | (false, .nil, _) => (-1, -1, .no 13)
    | (_, .no e, _) => (-1, -1, .no e)
def whereF (t : GTask) (c : GCertificate) (steps : Int) : Int × Int × Er :=
  match checkF t with
  | .no e => (-1, -1, .no e)
  | .nil => match properF t.Vars c with
    | .no e => (-1, -1, .no e)
    | .nil => whereC t c (max 0 (min steps 1048576))
theorem where_eq (t : GTask) (ht : ShT t) (c : GCertificate) (hc : ShC c) (steps : Int) (g : Nat) (hg : 70 ≤ g) : M_checker_Where g t c steps = some (whereF t c steps) := by
  rw [M_checker_Where, check_eq t ht, ob1_some, whereF]
  cases hck : checkF t with
  | no e => rfl
  | nil =>
    have hgood := (good_check t).2 hck
    show ob1 (M_certificate_Proper t.Vars c) _ = _
    rw [cproper_eq t.Vars c hc, ob1_some]
    cases hpr : properF t.Vars c with
    | no e => rfl
    | nil =>
      have hcp := (properF_nil t.Vars c).1 hpr
      have hd := good_dom hgood
      have e1 := M_checker_Where_L1_eq t c hc.list.lt
      have hr : 0 ≤ max 0 (min steps 1048576) ∧ max 0 (min steps 1048576) ≤ 1048576 := by omega
      have hgoal : propF t.Vars (-1) t.Goal = true := by
        unfold goodF at hgood
        simp only [Bool.and_eq_true] at hgood
        exact hgood.2.2.2.1
      show ob1 (M_checker_Where_L1 t c _ 0) _ = _
      rw [e1, rg_all (p := fun n : Nogood => !holdsF t.Init n.1) (c := some (.inr ((-1), (-1), (Er.no 20)))), whereC]
      · have hna : (c.Nogoods.all fun n => !holdsF t.Init n.1) = !(c.Nogoods.any fun n => holdsF t.Init n.1) := by rw [List.not_any_eq_all_not]
        rw [hna]
        cases ha : c.Nogoods.any fun n => holdsF t.Init n.1 with
        | true => rfl
        | false =>
          rw [Bool.not_false, if_pos rfl, M_checker_Where_L1_E, ob1_some, osum_inl, if_neg (by decide)]
          have hnog : ∀ r : Int, 0 ≤ r ∧ r ≤ 1048576 → M_checker_Where_L3 t c g ((((c.Nogoods.map cN).length : Int)).toNat + 1) 0 t.Vars t.Init t.Goal t.Ops c.Bound c.Nogoods r = some (nogC t c c.Nogoods 0 r) := fun r hr => by
            rw [M_checker_Where_L3_eq t c g _ _ _ _ _ _ _ hc.list.lt, nog_loop ht hgood hcp g hg c.Nogoods 0 r (fun _ h => h) hr]
          by_cases hb : c.Bound = 0
          · rw [if_pos hb, show (c.Bound != 0) = false from by simp [hb], sel_ff, ob1_some, osum_inl]
            exact hnog _ hr
          · rw [if_neg hb, show (c.Bound != 0) = true from by simp [hb], sel_tt, ask_eq hd hcp g hg t.Goal hgoal 0 _ hr, ob3_some]
            have ha := askC_r (t := t) (c := c) (p := t.Goal) (d := 0) hr
            rcases hq : askC t c t.Goal 0 (max 0 (min steps 1048576)) with ⟨b, e, r'⟩
            rw [hq] at ha
            cases e with
            | no e => cases b <;> rfl
            | nil =>
              cases b with
              | false => rfl
              | true => exact hnog r' ha
      · intro n hn i rc
        rw [M_checker_Where_L1_B, ixv, tholds_eq n.1 t.Init (hc.each n hn), ob1_some]
        cases holdsF t.Init n.1 <;> rfl
def verF (t : GTask) (c : GCertificate) (steps : Int) : Er := (whereF t c steps).2.2
theorem verify_eq (t : GTask) (ht : ShT t) (c : GCertificate) (hc : ShC c) (steps : Int) (g : Nat) (hg : 70 ≤ g) : M_checker_Verify g t c steps = some (verF t c steps) := by
  rw [M_checker_Verify, where_eq t ht c hc steps g hg]
  rfl
end Go.Proofs.YtcpajbglcgbolaaGreat.Am
/- Plain: the law's example. -/
namespace Go.Proofs.YtcpajbglcgbolaaGreat.Am
open Go.RowKit
def ex31 : GTask := { Vars := [2], Init := [0], Goal := [(0, 1)], Ops := [] }
theorem ex31_a : verF ex31 { Bound := -1, Nogoods := [([(0, 1)], 0)] } 100 = .nil := by rfl
theorem ex31_b : verF ex31 { Bound := -1, Nogoods := [] } 100 = .no 13 := by rfl
theorem ex31_sh : ShT ex31 := ⟨by show _ ≤ _; decide, by show _ ≤ _; decide, by show _ ≤ _; decide, by show _ ≤ _; decide, fun o ho => by cases ho⟩
theorem awake_eq (g : Nat) (hg : 70 ≤ g) : M_stratagemlaw31_awake g = some true := by
  rw [M_stratagemlaw31_awake]
  have h1 := verify_eq ex31 ex31_sh { Bound := -1, Nogoods := [([(0, 1)], 0)] } ⟨by show _ ≤ _; decide, fun n hn => by rw [List.mem_singleton.1 hn]; show _ ≤ _; decide⟩ 100 g hg
  have h2 := verify_eq ex31 ex31_sh { Bound := -1, Nogoods := [] } ⟨by show _ ≤ _; decide, fun n hn => by cases hn⟩ 100 g hg
  rw [ex31_a] at h1
  rw [ex31_b] at h2
  unfold ex31 at h1 h2
  rw [h1, ob1_some]
  show ob1 (M_checker_Verify g _ _ 100) _ = _
  rw [h2]
  rfl
end Go.Proofs.YtcpajbglcgbolaaGreat.Am
/- Models printed by my decompiler, and the proofs that the code computes them. -/
namespace Go.Proofs.YtcpajbglcgbolaaGreat.Am
open Go.RowKit
theorem ci_XDStp {p K : Prop} (k : K) (h : p := by first | rfl | exact ⟨rfl, rfl⟩ | exact BW.fr FrV.h | (refine BW.fr ?_; assumption) | (refine ⟨rfl, ?_⟩; (simp [cGTask, cI, cF, cGOp, cGEffect, cGCertificate, cN, take_len_map]; done)) | (refine RowK.same ?_ FrI.h; first | rfl | (simp [cGTask, cI, cF, cGOp, cGEffect, cGCertificate, cN, take_len_map]; done)) | (refine row_part1 ?_; (repeat (first | exact BWL.nil | exact bwll_nil | exact bw_c | exact BW.sl | exact BW.nil | exact bwll_same rfl FrI.h | refine BWL.cons ?_ ?_ | refine bwll_cons ?_ ?_ | (refine bw_own3 rfl rfl rfl FrI.h ?_ ?_ ?_) | exact BW.fr FrV.h | exact BW.fr (by assumption) | refine bw_agg ?_ | refine bw_clo ?_ | refine bw_ptr rfl rfl rfl ?_ | (refine bw_own rfl rfl rfl ?_ FrI.h ?_ ?_) | assumption | omega | rfl | (rw [List.length_map, ← List.length_append]; assumption) | (refine bwll_same ?_ FrI.h; (simp [cGTask, cI, cF, cGOp, cGEffect, cGCertificate, cN] <;> fail)) | (rw [List.map_set]; refine bwll_set (by first | rfl | omega | simp) ?_ ?_) | refine bwll_set (by first | rfl | omega | simp) ?_ ?_ | (rw [List.map_replicate]; refine bwll_rep ?_) | refine bwll_rep ?_ | (rw [List.map_append]; refine bwll_append ?_ ?_) | refine bwll_append ?_ ?_ | (simp [cGTask, cI, cF, cGOp, cGEffect, cGCertificate, cN, take_len_map] <;> fail) | (rw [List.drop_zero, List.take_of_length_le] <;> first | rfl | (simp [cGTask, cI, cF, cGOp, cGEffect, cGCertificate, cN] <;> fail)) | (simp; omega) | (simp only [List.length_map, List.drop_zero, List.length_cons, List.length_nil, Nat.zero_add, Nat.add_zero] at *; omega))); done) | ((repeat (first | exact BWL.nil | exact bwll_nil | exact bw_c | exact BW.sl | exact BW.nil | exact bwll_same rfl FrI.h | refine BWL.cons ?_ ?_ | refine bwll_cons ?_ ?_ | (refine bw_own3 rfl rfl rfl FrI.h ?_ ?_ ?_) | exact BW.fr FrV.h | exact BW.fr (by assumption) | refine bw_agg ?_ | refine bw_clo ?_ | refine bw_ptr rfl rfl rfl ?_ | (refine bw_own rfl rfl rfl ?_ FrI.h ?_ ?_) | assumption | omega | rfl | (rw [List.length_map, ← List.length_append]; assumption) | (refine bwll_same ?_ FrI.h; (simp [cGTask, cI, cF, cGOp, cGEffect, cGCertificate, cN] <;> fail)) | (rw [List.map_set]; refine bwll_set (by first | rfl | omega | simp) ?_ ?_) | refine bwll_set (by first | rfl | omega | simp) ?_ ?_ | (rw [List.map_replicate]; refine bwll_rep ?_) | refine bwll_rep ?_ | (rw [List.map_append]; refine bwll_append ?_ ?_) | refine bwll_append ?_ ?_ | (simp [cGTask, cI, cF, cGOp, cGEffect, cGCertificate, cN, take_len_map] <;> fail) | (rw [List.drop_zero, List.take_of_length_le] <;> first | rfl | (simp [cGTask, cI, cF, cGOp, cGEffect, cGCertificate, cN] <;> fail)) | (simp; omega) | (simp only [List.length_map, List.drop_zero, List.length_cons, List.length_nil, Nat.zero_add, Nat.add_zero] at *; omega))); done) | (simp [cGTask, cI, cF, cGOp, cGEffect, cGCertificate, cN, take_len_map]; done)) : p ∧ K := ⟨h, k⟩
theorem pr_XDStp {p K : Prop} (k : K) (h : p := by first | assumption | exact Int.natCast_nonneg _ | exact Nat.le_refl _ | exact Nat.zero_le _ | omega | (simp; done) | (simp; omega)) : p ∧ K := ⟨h, k⟩
theorem dr_XDStp {b : Bool} {p K : Prop} (k : K) (h : b = true → p := by intro h; first | (cases h; done) | exact ⟨by kernel_rfl, by kernel_rfl⟩) : (b = true → p) ∧ K := ⟨h, k⟩
theorem cl_XDStp {C : Cx} {n : Nat} {o : Oper} {τ : Nat → AV} {η : Nat → Ent} {f : FuncId} {os : Array Operand} {ats : Array TypeId} {r : AV} {args : List AV} {K : Foot → Prop} (ho : o.op = .call ⟨.value (.func f), os, ats⟩) (hc : ACall C f args r) (k : K ⟨r, [], []⟩)
    (hd : InB n o.dst := by exact Nat.le_of_ble_eq_true rfl) (hargs : os.toList.map (evA τ) = args := by first | rfl | (simp [cGTask, cI, cF, cGOp, cGEffect, cGCertificate, cN]; done) | (repeat (first | exact rfl | refine cons_eq ?_ ?_ | exact sl_dt rfl))) (hfr : frs args := by repeat (first | exact trivial | exact fr1_eA _ | exact fr0_eA _ | exact fr1_fr (by assumption) | exact FrV.h | refine And.intro ?_ ?_)) (hr : fr1 r := by repeat (first | exact trivial | exact fr1_eA _ | exact fr0_eA _ | exact fr1_fr (by assumption) | exact FrV.h | refine And.intro ?_ ?_)) : ∃ f : Foot, LF C n o τ η f ∧ K f := ⟨_, lf_call ho hd hargs hc hfr hr, k⟩
def M_stratagemlaw31_gentle_L1 (y111 : GOp) : Nat → Int → Int → Option (Int)
  | 0, _, _ => none
  | k128 + 1, v126, v127 =>
    sel (decide (v127 < ((y111.Effs.map cGEffect).length : Int)))
     (ix y111.Effs v127 (fun y129 =>
       sel (decide (((y129.When.map cF).length : Int) > 0))
        (M_stratagemlaw31_gentle_L1 y111 k128 (IntKind.i64.wrap (v126 + 1)) (IntKind.i64.wrap (v127 + 1)))
        (M_stratagemlaw31_gentle_L1 y111 k128 v126 (IntKind.i64.wrap (v127 + 1)))))
     (some v126)
def M_stratagemlaw31_gentle_L2 (a0 : GTask) : Nat → Int → Option (Bool)
  | 0, _ => none
  | k89 + 1, v88 =>
    sel (decide (v88 < ((a0.Ops.map cGOp).length : Int)))
     (ob1 (ix a0.Ops v88 (fun y111 =>
        ob1 (M_stratagemlaw31_gentle_L1 y111 ((((y111.Effs.map cGEffect).length : Int)).toNat + 1) 0 0 : Option (Int))
         (fun v120 => sel (decide (v120 > 1))
            (some (.inr false))
            (some (.inl ())))) : Option (Unit ⊕ Bool))
       (osum
       (fun _ => M_stratagemlaw31_gentle_L2 a0 k89 (IntKind.i64.wrap (v88 + 1)))
       (fun r109 => some r109)))
     (some true)
def M_stratagemlaw31_gentle (a0 : GTask) : Option (Bool) :=
  ob1 (ob1 (M_stratagembase_Tame a0) (fun z5 =>
    sel (!z5)
     (some (.inr false))
     (ob1 (M_stratagembase_Many a0.Vars 100) (fun z6 =>
       sel (decide (z6 > 100))
        (some (.inr false))
        (sel (decide (((a0.Ops.map cGOp).length : Int) > 8))
          (some (.inr false))
          (some (.inl ())))))) : Option (Unit ⊕ Bool))
   (osum
   (fun _ => M_stratagemlaw31_gentle_L2 a0 ((((a0.Ops.map cGOp).length : Int)).toNat + 1) 0)
   (fun r3 => some r3))
set_option maxHeartbeats 16000000 in
set_option maxRecDepth 100000 in
theorem A_stratagemlaw31_gentle (a0 : GTask) {r1 : Bool} (h : M_stratagemlaw31_gentle a0 = some r1) : ACall cx 10 [.agg [.sl 1 (a0.Vars.map cI), .sl 1 (a0.Init.map cI), .sl 2 (a0.Goal.map cF), .sl 4 (a0.Ops.map cGOp)]] (.c (.bool r1)) := by
  refine acall_of Tryz.func10 rfl (by decide) rfl (Nat.le_of_ble_eq_true rfl) ?_; intro _; unfold M_stratagemlaw31_gentle at h; refine awp_seq ?_; refine awp_region ?_; intro _; refine dr_XDStp ?_; obtain ⟨o1, h, hK2⟩ := ob1_ok h; refine awp_cut (α := Unit) (fun _ => mkS 47 [(1, .ptr 1 0 0 0)] [(1, ⟨26, 4, true, [[.sl 1 (a0.Vars.map cI), .sl 1 (a0.Init.map cI), .sl 2 (a0.Goal.map cF), .sl 4 (a0.Ops.map cGOp)]]⟩)]) (fun v => o1 = (.inl v)) ?_ ?_
  · refine awp_seq ?_; refine awp_region ?_; intro _; obtain ⟨z5, u3, h⟩ := ob1_ok h; refine cl_XDStp rfl (A_stratagembase_Tame a0 u3) ?_; intro _; refine spf h (fun c4 h => ?_) (fun c4 h => ?_)
    · intro _; obtain ⟨z6, u5, h⟩ := ob1_ok h; refine cl_XDStp rfl (A_stratagembase_Many a0.Vars 100 u5) ?_; intro _; refine spf h (fun c6 h => ?_) (fun c6 h => ?_)
      · intro _; refine dr_XDStp ?_; refine awp_cond ?_; intro _; refine spl h (fun c7 h => ?_) (fun c7 h => ?_)
        · refine awp_seq ?_; refine awp_region ?_; intro _; refine dr_XDStp ?_; refine awp_ret ?_; have j8 := Option.some.inj h; subst j8; replace h := (osum_r hK2); intro _; obtain rfl := inj1 h; repeat (first | exact True.intro | refine ci_XDStp ?_)
        · refine awp_skip ?_; refine ⟨(), (Option.some.inj h).symm, ?_⟩; repeat (first | exact True.intro | refine ci_XDStp ?_)
      · intro _; refine dr_XDStp ?_; refine awp_cond ?_; intro _; refine litT ?_; refine awp_seq ?_; refine awp_region ?_; intro _; refine dr_XDStp ?_; refine awp_ret ?_; have j9 := Option.some.inj h; subst j9; replace h := (osum_r hK2); intro _; obtain rfl := inj1 h; repeat (first | exact True.intro | refine ci_XDStp ?_)
    · intro _; refine dr_XDStp ?_; refine awp_cond ?_; intro _; refine litT ?_; refine awp_seq ?_; refine awp_region ?_; intro _; refine dr_XDStp ?_; refine awp_ret ?_; have j10 := Option.some.inj h; subst j10; replace h := (osum_r hK2); intro _; obtain rfl := inj1 h; repeat (first | exact True.intro | refine ci_XDStp ?_)
  · rintro _ ho; have ho := ho.symm; subst ho; intro _; replace h := (osum_l hK2); refine awp_seq ?_; refine awp_seq ?_; refine awp_region ?_; intro _; refine dr_XDStp ?_; refine awp_block ?_; refine awp_loop (α := Nat × Int) (fun x => mkS 47 [(24, .sl 4 (a0.Ops.map cGOp)), (25, .c (.int .i64 ((a0.Ops.map cGOp).length : Int))), (26, .c (.int .i64 x.2))] []) (fun x => M_stratagemlaw31_gentle_L2 a0 x.1 x.2 = some r1) (fun x => x.1) ((((a0.Ops.map cGOp).length : Int)).toNat + 1, 0) h ?_ ?_
    · repeat (first | exact True.intro | refine ci_XDStp ?_)
    · intro x11 h; intro _; obtain ⟨k89, m12, h⟩ := succ_of (f := fun n => M_stratagemlaw31_gentle_L2 a0 n x11.2) rfl h; replace h : M_stratagemlaw31_gentle_L2 a0 (k89 + 1) x11.2 = some r1 := h; rw [M_stratagemlaw31_gentle_L2] at h; refine awp_seq ?_; refine awp_region ?_; intro _; refine dr_XDStp ?_; refine awp_seq ?_; refine awp_cond ?_; intro _; refine spl h (fun c13 h => ?_) (fun c13 h => ?_)
      · refine awp_skip ?_; obtain ⟨o14, h, hK15⟩ := ob1_ok h; refine awp_cut (α := Unit) (fun _ => mkS 47 [(24, .sl 4 (a0.Ops.map cGOp)), (25, .c (.int .i64 ((a0.Ops.map cGOp).length : Int))), (26, .c (.int .i64 x11.2))] []) (fun v => o14 = (.inl v)) ?_ ?_
        · refine awp_block ?_; refine awp_seq ?_; refine awp_region ?_; intro _; obtain ⟨y111, w16, q17, h⟩ := ix_ok h; refine Exists.intro (cGOp y111) (And.intro (map_at' w16) ?_); intro _; refine pr_XDStp ?_; refine dr_XDStp ?_; refine awp_seq ?_; refine awp_region ?_; intro _; refine dr_XDStp ?_; obtain ⟨o18, h, hK19⟩ := ob1_ok h; refine awp_cut (α := Int) (fun v120 => mkS 47 [(5, .c (.int .i64 v120)), (24, .sl 4 (a0.Ops.map cGOp)), (25, .c (.int .i64 ((a0.Ops.map cGOp).length : Int))), (26, .c (.int .i64 x11.2))] []) (fun v => o18 = v) ?_ ?_
          · refine awp_seq ?_; refine awp_region ?_; intro _; refine dr_XDStp ?_; refine awp_block ?_; refine awp_loop (α := Nat × Int × Int) (fun x => mkS 47 [(5, .c (.int .i64 x.2.1)), (24, .sl 4 (a0.Ops.map cGOp)), (25, .c (.int .i64 ((a0.Ops.map cGOp).length : Int))), (26, .c (.int .i64 x11.2)), (31, .sl 3 (y111.Effs.map cGEffect)), (32, .c (.int .i64 ((y111.Effs.map cGEffect).length : Int))), (33, .c (.int .i64 x.2.2))] []) (fun x => M_stratagemlaw31_gentle_L1 y111 x.1 x.2.1 x.2.2 = some o18) (fun x => x.1) ((((y111.Effs.map cGEffect).length : Int)).toNat + 1, 0, 0) h ?_ ?_
            · repeat (first | exact True.intro | refine ci_XDStp ?_)
            · intro x20 h; intro _; obtain ⟨k128, m21, h⟩ := succ_of (f := fun n => M_stratagemlaw31_gentle_L1 y111 n x20.2.1 x20.2.2) rfl h; replace h : M_stratagemlaw31_gentle_L1 y111 (k128 + 1) x20.2.1 x20.2.2 = some o18 := h; rw [M_stratagemlaw31_gentle_L1] at h; refine awp_seq ?_; refine awp_region ?_; intro _; refine dr_XDStp ?_; refine awp_seq ?_; refine awp_cond ?_; intro _; refine spl h (fun c22 h => ?_) (fun c22 h => ?_)
              · refine awp_skip ?_; refine awp_seq ?_; refine awp_block ?_; refine awp_seq ?_; refine awp_region ?_; intro _; obtain ⟨y129, w23, q24, h⟩ := ix_ok h; refine Exists.intro (cGEffect y129) (And.intro (map_at' w23) ?_); intro _; refine pr_XDStp ?_; refine dr_XDStp ?_; refine awp_seq ?_; refine awp_region ?_; intro _; refine dr_XDStp ?_; refine awp_cond ?_; intro _; refine spl h (fun c25 h => ?_) (fun c25 h => ?_)
                · refine awp_region ?_; intro _; refine dr_XDStp ?_; refine awp_region ?_; intro _; refine dr_XDStp ?_; refine ⟨(k128, (IntKind.i64.wrap (x20.2.1 + 1)), (IntKind.i64.wrap (x20.2.2 + 1))), h, lt_of_succ m21, ?_⟩; repeat (first | exact True.intro | refine ci_XDStp ?_)
                · refine awp_skip ?_; refine awp_region ?_; intro _; refine dr_XDStp ?_; refine ⟨(k128, x20.2.1, (IntKind.i64.wrap (x20.2.2 + 1))), h, lt_of_succ m21, ?_⟩; repeat (first | exact True.intro | refine ci_XDStp ?_)
              · refine awp_exit ?_; refine ⟨x20.2.1, (Option.some.inj h).symm, ?_⟩; repeat (first | exact True.intro | refine ci_XDStp ?_)
          · rintro v120 ho; have ho := ho.symm; subst ho; intro _; replace h := hK19; refine awp_seq ?_; refine awp_region ?_; intro _; refine dr_XDStp ?_; refine awp_cond ?_; intro _; refine spl h (fun c26 h => ?_) (fun c26 h => ?_)
            · refine awp_seq ?_; refine awp_region ?_; intro _; refine dr_XDStp ?_; refine awp_ret ?_; have j27 := Option.some.inj h; subst j27; replace h := (osum_r hK15); intro _; obtain rfl := inj1 h; repeat (first | exact True.intro | refine ci_XDStp ?_)
            · refine awp_skip ?_; refine ⟨(), (Option.some.inj h).symm, ?_⟩; repeat (first | exact True.intro | refine ci_XDStp ?_)
        · rintro _ ho; have ho := ho.symm; subst ho; intro _; replace h := (osum_l hK15); refine awp_region ?_; intro _; refine dr_XDStp ?_; refine ⟨(k89, (IntKind.i64.wrap (x11.2 + 1))), h, lt_of_succ m12, ?_⟩; repeat (first | exact True.intro | refine ci_XDStp ?_)
      · refine awp_exit ?_; refine awp_seq ?_; refine awp_region ?_; intro _; refine dr_XDStp ?_; refine awp_ret ?_; intro _; obtain rfl := inj1 h; repeat (first | exact True.intro | refine ci_XDStp ?_)
def M_stratagemlaw31_few_L1 (a0 : GCertificate) : Nat → Int → Option (Bool)
  | 0, _ => none
  | k5 + 1, v4 =>
    sel (decide (v4 < ((a0.Nogoods.map cN).length : Int)))
     (ix a0.Nogoods v4 (fun y6 =>
       sel (decide (((y6.1.map cF).length : Int) > 20))
        (some false)
        (M_stratagemlaw31_few_L1 a0 k5 (IntKind.i64.wrap (v4 + 1)))))
     (some (decide (((a0.Nogoods.map cN).length : Int) ≤ 12)))
def M_stratagemlaw31_few (a0 : GCertificate) : Option (Bool) :=
  M_stratagemlaw31_few_L1 a0 ((((a0.Nogoods.map cN).length : Int)).toNat + 1) 0
set_option maxHeartbeats 16000000 in
set_option maxRecDepth 100000 in
theorem A_stratagemlaw31_few (a0 : GCertificate) {r1 : Bool} (h : M_stratagemlaw31_few a0 = some r1) : ACall cx 11 [.agg [.c (.int .i64 a0.Bound), .sl 2 (a0.Nogoods.map cN)]] (.c (.bool r1)) := by
  refine acall_of Tryz.func11 rfl (by decide) rfl (Nat.le_of_ble_eq_true rfl) ?_; intro _; unfold M_stratagemlaw31_few at h; refine awp_seq ?_; refine awp_region ?_; intro _; refine dr_XDStp ?_; refine awp_seq ?_; refine awp_seq ?_; refine awp_region ?_; intro _; refine dr_XDStp ?_; refine awp_block ?_; refine awp_loop (α := Nat × Int) (fun x => mkS 21 [(1, .ptr 1 0 0 0), (6, .sl 2 (a0.Nogoods.map cN)), (7, .c (.int .i64 ((a0.Nogoods.map cN).length : Int))), (8, .c (.int .i64 x.2))] [(1, ⟨29, 2, true, [[.c (.int .i64 a0.Bound), .sl 2 (a0.Nogoods.map cN)]]⟩)]) (fun x => M_stratagemlaw31_few_L1 a0 x.1 x.2 = some r1) (fun x => x.1) ((((a0.Nogoods.map cN).length : Int)).toNat + 1, 0) h ?_ ?_
  · repeat (first | exact True.intro | refine ci_XDStp ?_)
  · intro x1 h; intro _; obtain ⟨k5, m2, h⟩ := succ_of (f := fun n => M_stratagemlaw31_few_L1 a0 n x1.2) rfl h; replace h : M_stratagemlaw31_few_L1 a0 (k5 + 1) x1.2 = some r1 := h; rw [M_stratagemlaw31_few_L1] at h; refine awp_seq ?_; refine awp_region ?_; intro _; refine dr_XDStp ?_; refine awp_seq ?_; refine awp_cond ?_; intro _; refine spl h (fun c3 h => ?_) (fun c3 h => ?_)
    · refine awp_skip ?_; refine awp_seq ?_; refine awp_block ?_; refine awp_seq ?_; refine awp_region ?_; intro _; obtain ⟨y6, w4, q5, h⟩ := ix_ok h; refine Exists.intro (cN y6) (And.intro (map_at' w4) ?_); intro _; refine pr_XDStp ?_; refine dr_XDStp ?_; refine awp_seq ?_; refine awp_region ?_; intro _; refine dr_XDStp ?_; refine awp_cond ?_; intro _; refine spl h (fun c6 h => ?_) (fun c6 h => ?_)
      · refine awp_seq ?_; refine awp_region ?_; intro _; refine dr_XDStp ?_; refine awp_ret ?_; intro _; obtain rfl := inj1 h; repeat (first | exact True.intro | refine ci_XDStp ?_)
      · refine awp_skip ?_; refine awp_region ?_; intro _; refine dr_XDStp ?_; refine ⟨(k5, (IntKind.i64.wrap (x1.2 + 1))), h, lt_of_succ m2, ?_⟩; repeat (first | exact True.intro | refine ci_XDStp ?_)
    · refine awp_exit ?_; refine awp_seq ?_; refine awp_region ?_; intro _; refine dr_XDStp ?_; refine awp_ret ?_; intro _; obtain rfl := inj1 h; repeat (first | exact True.intro | refine ci_XDStp ?_)
def M_stratagemlaw31_CheckerSteps (g : Nat) (a0 : GTask) (a1 : GCertificate) (a2 : Int × Int) : Option (Bool) :=
  ob1 (ob1 (M_stratagemlaw31_gentle a0) (fun z9 =>
    sel (!z9)
     (ob1 (M_stratagemlaw31_awake g) (fun z14 =>
       some (.inr z14)))
     (ob1 (M_stratagemlaw31_few a1) (fun z10 =>
       sel (!z10)
        (ob1 (M_stratagemlaw31_awake g) (fun z13 =>
          some (.inr z13)))
        (ob1 (M_stratagemlaw31_awake g) (fun z11 =>
          sel (!z11)
           (ob1 (M_stratagemlaw31_awake g) (fun z12 =>
             some (.inr z12)))
           (some (.inl ()))))))) : Option (Unit ⊕ Bool))
   (osum
   (fun _ => ob1 (M_checker_Verify g a0 a1 (min a2.1 a2.2)) (fun z15 =>
      ob1 (M_checker_Verify g a0 a1 (max a2.1 a2.2)) (fun z16 =>
       ob1 (M_stratagembase_Is z15 10) (fun z17 =>
        sel z17
         (some true)
         (ob1 (M_stratagembase_Num z15) (fun z18 =>
           ob1 (M_stratagembase_Num z16) (fun z19 =>
            some (z18 == z19))))))))
   (fun r7 => some r7))
set_option maxHeartbeats 16000000 in
set_option maxRecDepth 100000 in
theorem A_stratagemlaw31_CheckerSteps (g : Nat) (a0 : GTask) (a1 : GCertificate) (a2 : Int × Int) {r1 : Bool} (h : M_stratagemlaw31_CheckerSteps g a0 a1 a2 = some r1) : ACall cx 7 [.agg [.sl 1 (a0.Vars.map cI), .sl 1 (a0.Init.map cI), .sl 2 (a0.Goal.map cF), .sl 4 (a0.Ops.map cGOp)], .agg [.c (.int .i64 a1.Bound), .sl 2 (a1.Nogoods.map cN)], .agg [.c (.int .i64 a2.1), .c (.int .i64 a2.2)]] (.c (.bool r1)) := by
  refine acall_of Tryz.func7 rfl (by decide) rfl (Nat.le_of_ble_eq_true rfl) ?_; intro _; unfold M_stratagemlaw31_CheckerSteps at h; refine awp_seq ?_; refine awp_region ?_; intro _; refine dr_XDStp ?_; obtain ⟨o1, h, hK2⟩ := ob1_ok h; refine awp_cut (α := Unit) (fun _ => mkS 45 [(3, .ptr 3 0 0 0), (4, .ptr 4 0 0 0), (5, .ptr 5 0 0 0)] [(3, ⟨26, 4, true, [[.sl 1 (a0.Vars.map cI), .sl 1 (a0.Init.map cI), .sl 2 (a0.Goal.map cF), .sl 4 (a0.Ops.map cGOp)]]⟩), (4, ⟨29, 2, true, [[.c (.int .i64 a1.Bound), .sl 2 (a1.Nogoods.map cN)]]⟩), (5, ⟨52, 2, true, [[.c (.int .i64 a2.1), .c (.int .i64 a2.2)]]⟩)]) (fun v => o1 = (.inl v)) ?_ ?_
  · refine awp_seq ?_; refine awp_region ?_; intro _; obtain ⟨z9, u3, h⟩ := ob1_ok h; refine cl_XDStp rfl (A_stratagemlaw31_gentle a0 u3) ?_; intro _; refine spf h (fun c4 h => ?_) (fun c4 h => ?_)
    · intro _; obtain ⟨z10, u5, h⟩ := ob1_ok h; refine cl_XDStp rfl (A_stratagemlaw31_few a1 u5) ?_; intro _; refine spf h (fun c6 h => ?_) (fun c6 h => ?_)
      · intro _; obtain ⟨z11, u7, h⟩ := ob1_ok h; refine cl_XDStp rfl (A_stratagemlaw31_awake g u7) ?_; intro _; refine dr_XDStp ?_; refine awp_cond ?_; intro _; refine spl h (fun c8 h => ?_) (fun c8 h => ?_)
        · refine awp_seq ?_; refine awp_region ?_; intro _; obtain ⟨z12, u9, h⟩ := ob1_ok h; refine cl_XDStp rfl (A_stratagemlaw31_awake g u9) ?_; intro _; refine dr_XDStp ?_; refine awp_ret ?_; have j10 := Option.some.inj h; subst j10; replace h := (osum_r hK2); intro _; obtain rfl := inj1 h; repeat (first | exact True.intro | refine ci_XDStp ?_)
        · refine awp_skip ?_; refine ⟨(), (Option.some.inj h).symm, ?_⟩; repeat (first | exact True.intro | refine ci_XDStp ?_)
      · intro _; refine dr_XDStp ?_; refine awp_cond ?_; intro _; refine litT ?_; refine awp_seq ?_; refine awp_region ?_; intro _; obtain ⟨z13, u11, h⟩ := ob1_ok h; refine cl_XDStp rfl (A_stratagemlaw31_awake g u11) ?_; intro _; refine dr_XDStp ?_; refine awp_ret ?_; have j12 := Option.some.inj h; subst j12; replace h := (osum_r hK2); intro _; obtain rfl := inj1 h; repeat (first | exact True.intro | refine ci_XDStp ?_)
    · intro _; refine dr_XDStp ?_; refine awp_cond ?_; intro _; refine litT ?_; refine awp_seq ?_; refine awp_region ?_; intro _; obtain ⟨z14, u13, h⟩ := ob1_ok h; refine cl_XDStp rfl (A_stratagemlaw31_awake g u13) ?_; intro _; refine dr_XDStp ?_; refine awp_ret ?_; have j14 := Option.some.inj h; subst j14; replace h := (osum_r hK2); intro _; obtain rfl := inj1 h; repeat (first | exact True.intro | refine ci_XDStp ?_)
  · rintro _ ho; have ho := ho.symm; subst ho; intro _; replace h := (osum_l hK2); refine awp_seq ?_; refine awp_region ?_; intro _; refine ⟨_, lf_arrAt rfl (Nat.le_of_ble_eq_true rfl) rfl rfl rfl (tyTab_ok 52 _ rfl) rfl (tyTab_ok 3 _ rfl) (by decide) (by decide), ?_⟩; intro _; refine ⟨_, lf_arrAt rfl (Nat.le_of_ble_eq_true rfl) rfl rfl rfl (tyTab_ok 52 _ rfl) rfl (tyTab_ok 3 _ rfl) (by decide) (by decide), ?_⟩; intro _; refine ⟨_, lf_min rfl (Nat.le_of_ble_eq_true rfl) rfl rfl, ?_⟩; intro _; obtain ⟨z15, u15, h⟩ := ob1_ok h; refine cl_XDStp rfl (A_checker_Verify g a0 a1 (min a2.1 a2.2) u15) ?_; intro _; refine ⟨_, lf_arrAt rfl (Nat.le_of_ble_eq_true rfl) rfl rfl rfl (tyTab_ok 52 _ rfl) rfl (tyTab_ok 3 _ rfl) (by decide) (by decide), ?_⟩; intro _; refine ⟨_, lf_arrAt rfl (Nat.le_of_ble_eq_true rfl) rfl rfl rfl (tyTab_ok 52 _ rfl) rfl (tyTab_ok 3 _ rfl) (by decide) (by decide), ?_⟩; intro _; refine ⟨_, lf_max rfl (Nat.le_of_ble_eq_true rfl) rfl rfl, ?_⟩; intro _; obtain ⟨z16, u16, h⟩ := ob1_ok h; refine cl_XDStp rfl (A_checker_Verify g a0 a1 (max a2.1 a2.2) u16) ?_; intro _; refine dr_XDStp ?_; refine awp_seq ?_; refine awp_seq ?_; refine awp_region ?_; intro _; obtain ⟨z17, u17, h⟩ := ob1_ok h; refine cl_XDStp rfl (A_stratagembase_Is z15 10 u17) ?_; intro _; refine dr_XDStp ?_; refine awp_cond ?_; intro _; refine spl h (fun c18 h => ?_) (fun c18 h => ?_)
    · refine awp_seq ?_; refine awp_region ?_; intro _; refine dr_XDStp ?_; refine awp_ret ?_; intro _; obtain rfl := inj1 h; repeat (first | exact True.intro | refine ci_XDStp ?_)
    · refine awp_skip ?_; refine awp_seq ?_; refine awp_region ?_; intro _; obtain ⟨z18, u19, h⟩ := ob1_ok h; refine cl_XDStp rfl (A_stratagembase_Num z15 u19) ?_; intro _; obtain ⟨z19, u20, h⟩ := ob1_ok h; refine cl_XDStp rfl (A_stratagembase_Num z16 u20) ?_; intro _; refine dr_XDStp ?_; refine awp_ret ?_; intro _; obtain rfl := inj1 h; repeat (first | exact True.intro | refine ci_XDStp ?_)
end Go.Proofs.YtcpajbglcgbolaaGreat.Am
/- Range loops of the models as recursions. -/
namespace Go.Proofs.YtcpajbglcgbolaaGreat.Am
def M_stratagemlaw31_gentle_L1_B (_ : GOp) (_y129 : GEffect) (_ : Int) : ((Int)) → (((Int)) → Option (Int)) → Option (Int) := fun v126 rc => ixv _y129 (fun y129 =>
       sel (decide (((y129.When.map cF).length : Int) > 0))
        (rc ((IntKind.i64.wrap (v126 + 1))))
        (rc (v126)))
def M_stratagemlaw31_gentle_L1_E (_ : GOp) : ((Int)) → Option (Int) := fun v126 => some v126
theorem M_stratagemlaw31_gentle_L1_rg (y111 : GOp) (hl : y111.Effs.length < 9223372036854775807) : ∀ (k n : Nat) (v126 : Int), n ≤ y111.Effs.length → y111.Effs.length < k + n → M_stratagemlaw31_gentle_L1 y111 k v126 (n : Int) = Rg (M_stratagemlaw31_gentle_L1_B y111) (M_stratagemlaw31_gentle_L1_E y111) (y111.Effs.drop n) n v126 := by
  intro k n v126
  refine rg_of (L := fun k i (p : ((Int))) => match p with | v126 => M_stratagemlaw31_gentle_L1 y111 k v126 i) hl (fun k n p y hy hn => ?_) (fun k p => ?_) k n v126
  · have h1 := lt_some hy
    have h2 := w64s hn
    first | (simp only [M_stratagemlaw31_gentle_L1, M_stratagemlaw31_gentle_L1_B, List.length_map, decide_lt h1, sel, ix_at hy, ixv, h2]; done) | (simp only [List.length_map] at h1 hy; simp only [M_stratagemlaw31_gentle_L1, M_stratagemlaw31_gentle_L1_B, List.length_map, decide_lt h1, sel, ix_at hy, ixv, h2]; done)
  · simp only [M_stratagemlaw31_gentle_L1, M_stratagemlaw31_gentle_L1_E, List.length_map, decide_ge, sel]
theorem M_stratagemlaw31_gentle_L1_eq (y111 : GOp) (v126 : Int) (hl : y111.Effs.length < 9223372036854775807) : M_stratagemlaw31_gentle_L1 y111 (((y111.Effs.map cGEffect).length : Int).toNat + 1) v126 0 = Rg (M_stratagemlaw31_gentle_L1_B y111) (M_stratagemlaw31_gentle_L1_E y111) y111.Effs 0 v126 := by
  have h := M_stratagemlaw31_gentle_L1_rg y111 hl (y111.Effs.length + 1) 0 v126 (Nat.zero_le _) (by omega)
  rw [List.length_map, Int.toNat_natCast]
  exact h
def M_stratagemlaw31_gentle_L2_B (_ : GTask) (_y111 : GOp) (_ : Int) : Unit → (Unit → Option (Bool)) → Option (Bool) := fun _ rc => ob1 (ixv _y111 (fun y111 =>
        ob1 (M_stratagemlaw31_gentle_L1 y111 ((((y111.Effs.map cGEffect).length : Int)).toNat + 1) 0 0 : Option (Int))
         (fun v120 => sel (decide (v120 > 1))
            (some (.inr false))
            (some (.inl ())))) : Option (Unit ⊕ Bool))
       (osum
       (fun _ => rc ())
       (fun r109 => some r109))
def M_stratagemlaw31_gentle_L2_E (_ : GTask) : Unit → Option (Bool) := fun _ => some true
theorem M_stratagemlaw31_gentle_L2_rg (a0 : GTask) (hl : a0.Ops.length < 9223372036854775807) : ∀ (k n : Nat) , n ≤ a0.Ops.length → a0.Ops.length < k + n → M_stratagemlaw31_gentle_L2 a0 k (n : Int) = Rg (M_stratagemlaw31_gentle_L2_B a0) (M_stratagemlaw31_gentle_L2_E a0) (a0.Ops.drop n) n () := by
  intro k n 
  refine rg_of (L := fun k i (p : Unit) => M_stratagemlaw31_gentle_L2 a0 k i) hl (fun k n p y hy hn => ?_) (fun k p => ?_) k n ()
  · have h1 := lt_some hy
    have h2 := w64s hn
    first | (simp only [M_stratagemlaw31_gentle_L2, M_stratagemlaw31_gentle_L2_B, List.length_map, decide_lt h1, sel, ix_at hy, ixv, h2]; done) | (simp only [List.length_map] at h1 hy; simp only [M_stratagemlaw31_gentle_L2, M_stratagemlaw31_gentle_L2_B, List.length_map, decide_lt h1, sel, ix_at hy, ixv, h2]; done)
  · simp only [M_stratagemlaw31_gentle_L2, M_stratagemlaw31_gentle_L2_E, List.length_map, decide_ge, sel]
theorem M_stratagemlaw31_gentle_L2_eq (a0 : GTask)  (hl : a0.Ops.length < 9223372036854775807) : M_stratagemlaw31_gentle_L2 a0 (((a0.Ops.map cGOp).length : Int).toNat + 1) 0 = Rg (M_stratagemlaw31_gentle_L2_B a0) (M_stratagemlaw31_gentle_L2_E a0) a0.Ops 0 () := by
  have h := M_stratagemlaw31_gentle_L2_rg a0 hl (a0.Ops.length + 1) 0  (Nat.zero_le _) (by omega)
  rw [List.length_map, Int.toNat_natCast]
  exact h
def M_stratagemlaw31_few_L1_B (_ : GCertificate) (_y6 : Nogood) (_ : Int) : Unit → (Unit → Option (Bool)) → Option (Bool) := fun _ rc => ixv _y6 (fun y6 =>
       sel (decide (((y6.1.map cF).length : Int) > 20))
        (some false)
        (rc ()))
def M_stratagemlaw31_few_L1_E (a0 : GCertificate) : Unit → Option (Bool) := fun _ => some (decide (((a0.Nogoods.map cN).length : Int) ≤ 12))
theorem M_stratagemlaw31_few_L1_rg (a0 : GCertificate) (hl : a0.Nogoods.length < 9223372036854775807) : ∀ (k n : Nat) , n ≤ a0.Nogoods.length → a0.Nogoods.length < k + n → M_stratagemlaw31_few_L1 a0 k (n : Int) = Rg (M_stratagemlaw31_few_L1_B a0) (M_stratagemlaw31_few_L1_E a0) (a0.Nogoods.drop n) n () := by
  intro k n 
  refine rg_of (L := fun k i (p : Unit) => M_stratagemlaw31_few_L1 a0 k i) hl (fun k n p y hy hn => ?_) (fun k p => ?_) k n ()
  · have h1 := lt_some hy
    have h2 := w64s hn
    first | (simp only [M_stratagemlaw31_few_L1, M_stratagemlaw31_few_L1_B, List.length_map, decide_lt h1, sel, ix_at hy, ixv, h2]; done) | (simp only [List.length_map] at h1 hy; simp only [M_stratagemlaw31_few_L1, M_stratagemlaw31_few_L1_B, List.length_map, decide_lt h1, sel, ix_at hy, ixv, h2]; done)
  · simp only [M_stratagemlaw31_few_L1, M_stratagemlaw31_few_L1_E, List.length_map, decide_ge, sel]
theorem M_stratagemlaw31_few_L1_eq (a0 : GCertificate)  (hl : a0.Nogoods.length < 9223372036854775807) : M_stratagemlaw31_few_L1 a0 (((a0.Nogoods.map cN).length : Int).toNat + 1) 0 = Rg (M_stratagemlaw31_few_L1_B a0) (M_stratagemlaw31_few_L1_E a0) a0.Nogoods 0 () := by
  have h := M_stratagemlaw31_few_L1_rg a0 hl (a0.Nogoods.length + 1) 0  (Nat.zero_le _) (by omega)
  rw [List.length_map, Int.toNat_natCast]
  exact h
end Go.Proofs.YtcpajbglcgbolaaGreat.Am
/- Plain: stratagembase.Tame; the laws' gentle, few. -/
namespace Go.Proofs.YtcpajbglcgbolaaGreat.Am
open Go.RowKit
def condN (es : List GEffect) : Nat := (es.filter fun e => decide (0 < e.When.length)).length
theorem condN_le (es : List GEffect) : condN es ≤ es.length := List.length_filter_le _ _
theorem condN_cons (e : GEffect) (es : List GEffect) : condN (e :: es) = (if 0 < e.When.length then 1 else 0) + condN es := by
  unfold condN
  rw [List.filter_cons]
  by_cases h : 0 < e.When.length
  · rw [if_pos (decide_eq_true h), if_pos h, List.length_cons]; omega
  · rw [if_neg (by simpa using h), if_neg h]; omega
def twoF (es : List GEffect) : Bool := es.all fun e => decide (e.When.length ≤ 2)
theorem tame2 (o : GOp) : ∀ (r : List GEffect) (i : Int) (v : Nat), v + r.length ≤ 1000000 → Rg (M_stratagembase_Tame_L2_B o) (M_stratagembase_Tame_L2_E o) r i v = some (if twoF r = true then .inl ((v + condN r : Nat) : Int) else .inr false)
  | [], i, v, _ => rfl
  | e :: r, i, v, h => by
    rw [List.length_cons] at h
    rw [Rg, M_stratagembase_Tame_L2_B, ixv, sel_dec, sel_dec, List.length_map, twoF, List.all_cons, condN_cons]
    by_cases h1 : e.When.length > 2
    · rw [if_pos (by omega), decide_eq_false (by omega), Bool.false_and, if_neg (by decide)]
    · rw [if_neg (by omega), decide_eq_true (p := e.When.length ≤ 2) (by omega), Bool.true_and]
      by_cases h2 : 0 < e.When.length
      · rw [if_pos (by omega), if_pos h2, wrap_eq (by omega) (by omega), show ((v : Int) + 1) = ((v + 1 : Nat) : Int) from rfl, tame2 o r _ (v + 1) (by omega), Nat.add_assoc]; rfl
      · rw [if_neg (by omega), if_neg h2, tame2 o r _ v (by omega), Nat.zero_add]; rfl
def tameO (o : GOp) : Bool := twoF o.Effs && decide (condN o.Effs ≤ 3)
def tameF (t : GTask) : Bool := smallF t && (t.Vars.all (fun n => decide (2 ≤ n ∧ n ≤ 4)) && t.Ops.all tameO)
theorem tame_eq (t : GTask) (ht : ShT t) : M_stratagembase_Tame t = some (tameF t) := by
  rw [M_stratagembase_Tame, small_eq t ht, ob1_some, tameF]
  cases hs : smallF t with
  | false => rfl
  | true =>
    obtain ⟨hgood, hv, ho⟩ := small_good hs
    have e1 := M_stratagembase_Tame_L1_eq t (by omega)
    have e3 := M_stratagembase_Tame_L3_eq t (by omega)
    rw [Bool.not_true, sel_ff, e1, rg_all (p := fun n : Int => decide (2 ≤ n ∧ n ≤ 4)) (c := some (.inr false))]
    · cases t.Vars.all fun n => decide (2 ≤ n ∧ n ≤ 4) with
      | false => rfl
      | true =>
        rw [if_pos rfl, M_stratagembase_Tame_L1_E, ob1_some, osum_inl, e3, rg_all (p := tameO) (c := some false), M_stratagembase_Tame_L3_E]
        · cases t.Ops.all tameO <;> rfl
        · intro o hom i rc
          have hl := (good_op hgood hom).effs
          have e2 := M_stratagembase_Tame_L2_eq o 0 (show o.Effs.length < _ by omega)
          have e2' : Rg (M_stratagembase_Tame_L2_B o) (M_stratagembase_Tame_L2_E o) o.Effs 0 0 = _ := tame2 o o.Effs 0 0 (by omega)
          have hc := condN_le o.Effs
          rw [M_stratagembase_Tame_L3_B, ixv, e2, e2', Nat.zero_add, ob1_some, tameO]
          cases twoF o.Effs with
          | false => rfl
          | true =>
            rw [if_pos rfl, osum_inl, sel_dec, Bool.true_and]
            by_cases h3 : condN o.Effs ≤ 3
            · rw [if_neg (by omega), if_pos (decide_eq_true h3)]; rfl
            · rw [if_pos (by omega), if_neg (by simpa using h3)]; rfl
    · intro n _ i rc
      rw [M_stratagembase_Tame_L1_B, ixv, sel_dec, sel_dec]
      by_cases h1 : n < 2
      · rw [if_pos h1, if_neg (by rw [decide_eq_true_iff]; omega)]
      · rw [if_neg h1]
        by_cases h2 : n > 4
        · rw [if_pos h2, if_neg (by rw [decide_eq_true_iff]; omega)]
        · rw [if_neg h2, if_pos (by rw [decide_eq_true_iff]; omega)]
def gentleF (t : GTask) : Bool := tameF t && (decide (manyF 100 t.Vars 1 ≤ 100) && (decide (t.Ops.length ≤ 8) && t.Ops.all fun o => decide (condN o.Effs ≤ 1)))
theorem gentle1 (o : GOp) : ∀ (r : List GEffect) (i : Int) (v : Nat), v + r.length ≤ 1000000 → Rg (M_stratagemlaw31_gentle_L1_B o) (M_stratagemlaw31_gentle_L1_E o) r i v = some ((v + condN r : Nat) : Int)
  | [], i, v, _ => rfl
  | e :: r, i, v, h => by
    rw [List.length_cons] at h
    rw [Rg, M_stratagemlaw31_gentle_L1_B, ixv, sel_dec, List.length_map, condN_cons]
    by_cases h2 : 0 < e.When.length
    · rw [if_pos (by omega), if_pos h2, wrap_eq (by omega) (by omega), show ((v : Int) + 1) = ((v + 1 : Nat) : Int) from rfl, gentle1 o r _ (v + 1) (by omega), Nat.add_assoc]
    · rw [if_neg (by omega), if_neg h2, gentle1 o r _ v (by omega), Nat.zero_add]
theorem tame_small {t : GTask} (h : tameF t = true) : smallF t = true := by
  unfold tameF at h
  rw [Bool.and_eq_true] at h
  exact h.1
theorem gentle_eq (t : GTask) (ht : ShT t) : M_stratagemlaw31_gentle t = some (gentleF t) := by
  rw [M_stratagemlaw31_gentle, tame_eq t ht, gentleF]
  cases hs : tameF t with
  | false => rfl
  | true =>
    obtain ⟨hgood, hv, ho⟩ := small_good (tame_small hs)
    rw [ob1_some, Bool.not_true, sel_ff, many_eq t.Vars ht.vars 100 (by decide), ob1_some, sel_dec, Bool.true_and]
    by_cases h1 : manyF 100 t.Vars 1 ≤ 100
    · rw [if_neg (by omega), decide_eq_true h1, Bool.true_and, sel_dec, List.length_map]
      by_cases h2 : t.Ops.length ≤ 8
      · have e2 := M_stratagemlaw31_gentle_L2_eq t (by omega)
        rw [List.length_map] at e2
        rw [if_neg (by omega), decide_eq_true h2, Bool.true_and, ob1_some, osum_inl, e2, rg_all (p := fun o : GOp => decide (condN o.Effs ≤ 1)) (c := some false), M_stratagemlaw31_gentle_L2_E]
        · cases t.Ops.all fun o => decide (condN o.Effs ≤ 1) <;> rfl
        · intro o hom i rc
          have hl := (good_op hgood hom).effs
          have e1 := M_stratagemlaw31_gentle_L1_eq o 0 (show o.Effs.length < _ by omega)
          have e1' : Rg (M_stratagemlaw31_gentle_L1_B o) (M_stratagemlaw31_gentle_L1_E o) o.Effs 0 0 = _ := gentle1 o o.Effs 0 0 (by omega)
          rw [M_stratagemlaw31_gentle_L2_B, ixv, e1, e1', Nat.zero_add, ob1_some, sel_dec]
          by_cases h3 : condN o.Effs ≤ 1
          · rw [if_neg (by omega), if_pos (decide_eq_true h3)]; rfl
          · rw [if_pos (by omega), if_neg (by simpa using h3)]; rfl
      · rw [if_pos (by omega), decide_eq_false h2]; rfl
    · rw [if_pos (by omega), decide_eq_false h1]; rfl
def fewF (c : GCertificate) : Bool := (c.Nogoods.all fun n => decide (n.1.length ≤ 20)) && decide (c.Nogoods.length ≤ 12)
theorem few_eq (c : GCertificate) (hc : ShC c) : M_stratagemlaw31_few c = some (fewF c) := by
  have e1 := M_stratagemlaw31_few_L1_eq c hc.list.lt
  rw [M_stratagemlaw31_few, e1, rg_all (p := fun n : Nogood => decide (n.1.length ≤ 20)) (c := some false), M_stratagemlaw31_few_L1_E, fewF, List.length_map]
  · have : decide ((c.Nogoods.length : Int) ≤ 12) = decide (c.Nogoods.length ≤ 12) := by congr 1; apply propext; omega
    rw [this]
    cases c.Nogoods.all fun n => decide (n.1.length ≤ 20) <;> rfl
  · intro n _ i rc
    rw [M_stratagemlaw31_few_L1_B, ixv, sel_dec, List.length_map]
    by_cases h : n.1.length ≤ 20
    · rw [if_neg (by omega), if_pos (decide_eq_true h)]
    · rw [if_pos (by omega), if_neg (by simpa using h)]
/-- the guard of the laws -/
theorem guard3 {γ : Type} {b1 b2 : Bool} {K : Unit ⊕ Bool → Option γ} {x : Option γ} (h1 : K (.inl ()) = x) (h2 : K (.inr true) = x) : ob1 (ob1 (some b1) (fun z9 => sel (!z9) (ob1 (some true) (fun z14 => some (.inr z14))) (ob1 (some b2) (fun z10 => sel (!z10) (ob1 (some true) (fun z13 => some (.inr z13))) (ob1 (some true) (fun z11 => sel (!z11) (ob1 (some true) (fun z12 => some (.inr z12))) (some (.inl ()))))))) : Option (Unit ⊕ Bool)) K = x := by
  cases b1
  · exact h2
  · cases b2
    · exact h2
    · exact h1
end Go.Proofs.YtcpajbglcgbolaaGreat.Am
/- Plain law: CheckerSteps. -/
namespace Go.Proofs.YtcpajbglcgbolaaGreat.Am
open Go.RowKit
theorem ask_mono {t : GTask} {c : GCertificate} {p : List Fact} {d r1 r2 : Int} (h : r1 ≤ r2) : (askC t c p d r1).2.1 = .no 10 ∨ ((askC t c p d r1).1 = (askC t c p d r2).1 ∧ (askC t c p d r1).2.1 = .nil ∧ (askC t c p d r2).2.1 = .nil ∧ (askC t c p d r1).2.2 ≤ (askC t c p d r2).2.2) := by
  unfold askC
  by_cases h1 : (covA t.Vars p (countL c.Nogoods d)).2 ≤ r1
  · rw [if_pos h1, if_pos (by omega)]
    exact .inr ⟨rfl, rfl, rfl, by show r1 - _ ≤ r2 - _; omega⟩
  · rw [if_neg h1]
    exact .inl rfl
theorem stepL_mono (t : GTask) (c : GCertificate) (d : Int) : ∀ (l : List (List Fact)) (r1 r2 : Int), r1 ≤ r2 → (stepL t c d l r1).1 = .no 10 ∨ ((stepL t c d l r1).1 = (stepL t c d l r2).1 ∧ (stepL t c d l r1).2 ≤ (stepL t c d l r2).2)
  | [], r1, r2, h => .inr ⟨rfl, h⟩
  | p :: ps, r1, r2, h => by
    have hm := ask_mono (t := t) (c := c) (p := p) (d := d) h
    rw [stepL, stepL]
    rcases h1 : askC t c p d r1 with ⟨b1, e1, s1⟩
    rcases h2 : askC t c p d r2 with ⟨b2, e2, s2⟩
    rw [h1, h2] at hm
    rcases hm with hm | ⟨rfl, rfl, rfl, hs⟩
    · simp only at hm
      subst hm
      cases b1 <;> exact .inl rfl
    · cases b1 with
      | false => exact .inr ⟨rfl, hs⟩
      | true => exact stepL_mono t c d ps s1 s2 hs
theorem stepO_mono (t : GTask) (c : GCertificate) (n : Nogood) (o : GOp) {r1 r2 : Int} (h : r1 ≤ r2) : (stepO t c n o r1).1 = .no 10 ∨ ((stepO t c n o r1).1 = (stepO t c n o r2).1 ∧ (stepO t c n o r1).2 ≤ (stepO t c n o r2).2) := by
  unfold stepO
  split
  · exact .inr ⟨rfl, h⟩
  · split
    · exact .inr ⟨rfl, h⟩
    · exact stepL_mono _ _ _ _ _ _ h
theorem opsC_mono (t : GTask) (c : GCertificate) (n : Nogood) (i : Int) : ∀ (l : List GOp) (j r1 r2 : Int), r1 ≤ r2 → (∃ x y, opsC t c n i l j r1 = .inr (x, y, .no 10)) ∨ (∃ x, opsC t c n i l j r1 = .inr x ∧ opsC t c n i l j r2 = .inr x) ∨ ∃ s1 s2, opsC t c n i l j r1 = .inl s1 ∧ opsC t c n i l j r2 = .inl s2 ∧ s1 ≤ s2
  | [], j, r1, r2, h => .inr (.inr ⟨r1, r2, rfl, rfl, h⟩)
  | o :: os, j, r1, r2, h => by
    have hm := stepO_mono t c n o h
    rw [opsC, opsC]
    rcases h1 : stepO t c n o r1 with ⟨e1, s1⟩
    rcases h2 : stepO t c n o r2 with ⟨e2, s2⟩
    rw [h1, h2] at hm
    rcases hm with hm | ⟨rfl, hs⟩
    · simp only at hm
      subst hm
      exact .inl ⟨i, j, rfl⟩
    · cases e1 with
      | no e => exact .inr (.inl ⟨_, rfl, rfl⟩)
      | nil => exact opsC_mono t c n i os (j + 1) s1 s2 hs
theorem nogC_mono (t : GTask) (c : GCertificate) : ∀ (l : List Nogood) (i r1 r2 : Int), r1 ≤ r2 → (nogC t c l i r1).2.2 = .no 10 ∨ nogC t c l i r1 = nogC t c l i r2
  | [], i, r1, r2, _ => .inr rfl
  | n :: ns, i, r1, r2, h => by
    rw [nogC, nogC]
    rcases opsC_mono t c n i t.Ops 0 r1 r2 h with ⟨x, y, e⟩ | ⟨x, e1, e2⟩ | ⟨s1, s2, e1, e2, hs⟩
    · rw [e]; exact .inl rfl
    · rw [e1, e2]; exact .inr rfl
    · rw [e1, e2]; exact nogC_mono t c ns (i + 1) s1 s2 hs
theorem whereC_mono (t : GTask) (c : GCertificate) {r1 r2 : Int} (h : r1 ≤ r2) : (whereC t c r1).2.2 = .no 10 ∨ whereC t c r1 = whereC t c r2 := by
  unfold whereC
  split
  · exact .inr rfl
  · split
    · exact nogC_mono t c _ _ _ _ h
    · have hm := ask_mono (t := t) (c := c) (p := t.Goal) (d := 0) h
      rcases h1 : askC t c t.Goal 0 r1 with ⟨b1, e1, s1⟩
      rcases h2 : askC t c t.Goal 0 r2 with ⟨b2, e2, s2⟩
      rw [h1, h2] at hm
      rcases hm with hm | ⟨rfl, rfl, rfl, hs⟩
      · simp only at hm
        subst hm
        cases b1 <;> exact .inl rfl
      · cases b1 with
        | false => exact .inr rfl
        | true => exact nogC_mono t c _ _ _ _ hs
theorem ver_mono (t : GTask) (c : GCertificate) {s1 s2 : Int} (h : s1 ≤ s2) : verF t c s1 = .no 10 ∨ verF t c s1 = verF t c s2 := by
  unfold verF whereF
  cases checkF t with
  | no e => exact .inr rfl
  | nil =>
    cases properF t.Vars c with
    | no e => exact .inr rfl
    | nil =>
      rcases whereC_mono t c (r1 := max 0 (min s1 1048576)) (r2 := max 0 (min s2 1048576)) (by omega) with e | e
      · exact .inl e
      · exact .inr (by show (whereC t c _).2.2 = (whereC t c _).2.2; rw [e])
theorem steps_true (g : Nat) (hg : 70 ≤ g) (t : GTask) (ht : ShT t) (c : GCertificate) (hc : ShC c) (s : Int × Int) : M_stratagemlaw31_CheckerSteps g t c s = some true := by
  have aw := awake_eq g hg
  rw [M_stratagemlaw31_CheckerSteps, aw, gentle_eq t ht, few_eq c hc]
  refine guard3 ?_ rfl
  rw [osum_inl, verify_eq t ht c hc _ g hg, verify_eq t ht c hc _ g hg, ob1_some, ob1_some]
  rcases ver_mono t c (s1 := min s.1 s.2) (s2 := max s.1 s.2) (by omega) with e | e
  · rw [e, is_no]; rfl
  · rw [e]
    cases verF t c (max s.1 s.2) with
    | nil => rfl
    | no z =>
      rw [is_no, ob1_some, num_no, ob1_some, ob1_some, beq_self_eq_true]
      cases z == 10 <;> rfl
end Go.Proofs.YtcpajbglcgbolaaGreat.Am
/- Opening arguments: slices of numbers, of facts, of nogoods, a certificate. -/
namespace Go.Proofs.YtcpajbglcgbolaaGreat
open Go.RowKit Go.ChangeShapes Go.WideShapes Go.Deep Go.Joins

def I64 (x : Int) : Prop := -9223372036854775808 ≤ x ∧ x ≤ 9223372036854775807
theorem I64.of {x : Int} (h : (Lit.int .i64 x).wf = true) : I64 x := by
  have := bounds_i64 h
  exact this

section
variable {H : Type} {enc : TypeId × Value → H} {P : Program} {w : World} {base : Nat} {spare : Nat → Bool} {held : Bool}

/-- within the form's reach -/
def Sized (P : Program) (t : TypeId) (d : DataW H) : Prop := ∀ n ∈ d.weights P t, n ≤ reachBytes
theorem sized_arg {ts : List TypeId} {ds : List (DataW H)} (h : (DataW.weightsEach P ts ds).all (· ≤ reachBytes) = true) {j : Nat} {t : TypeId} {d : DataW H} (ht : ts[j]? = some t) (hd : ds[j]? = some d) : Sized P t d :=
  fun n hn => of_decide_eq_true (List.all_eq_true.1 h n (DataW.weights_mem_each ht hd n hn))
theorem sized_field {t : TypeId} {fs : Array Field} {parts : List (DataW H)} (h : Sized P t (.agg parts)) (hu : P.underlying t = some (.struct fs)) {j : Nat} {f : Field} {d : DataW H} (hf : fs[j]? = some f) (hd : parts[j]? = some d) : Sized P f.type d :=
  fun n hn => h n (by
    simp only [DataW.weights, hu]
    exact DataW.weights_mem_each (j := j) (by simp [List.getElem?_map, hf]) hd n hn)
theorem weightsAll_mem {e : TypeId} : ∀ {l : List (DataW H)} {d : DataW H}, d ∈ l → ∀ n ∈ d.weights P e, n ∈ DataW.weightsAll P e l
  | x :: l, d, hd, n, hn => by
    simp only [DataW.weightsAll, List.mem_append]
    rcases List.mem_cons.1 hd with rfl | h
    · exact Or.inl hn
    · exact Or.inr (weightsAll_mem h n hn)
theorem sized_elem {t e : TypeId} {elems sp : List (DataW H)} (h : Sized P t (.slice elems sp)) (hu : P.underlying t = some (.slice e)) {d : DataW H} (hd : d ∈ elems) : Sized P e d :=
  fun n hn => h n (by
    simp only [DataW.weights, hu, List.mem_cons, List.mem_append]
    exact Or.inr (Or.inl (weightsAll_mem hd n hn)))
theorem sized_len {t e : TypeId} {elems sp : List (DataW H)} (h : Sized P t (.slice elems sp)) (hu : P.underlying t = some (.slice e)) : elems.length * P.bytesOf e ≤ 140737488355328 := by
  have h1 := h ((elems.length + sp.length) * P.bytesOf e) (by simp [DataW.weights, hu])
  have h2 : elems.length * P.bytesOf e ≤ (elems.length + sp.length) * P.bytesOf e := Nat.mul_le_mul_right _ (by omega)
  have h3 : reachBytes ≤ 140737488355328 := by decide
  omega

end

theorem spot_of_cell {w : World} {p : Addr} {v : Value} (h : w.cell? p = some v) : p.spot = none := by
  unfold World.cell? at h
  split at h
  · split at h
    · cases h
    · rename_i hs; simpa using hs
  · cases h
theorem addr_of_cell {w : World} {a : Addr} {k : Nat} {v : Value} (h0 : ∃ u, w.cell? (a.add 0) = some u) (h : w.cell? (a.add k) = some v) : a = ⟨a.block, a.off, none⟩ ∧ w.cell? ⟨a.block, a.off + k, none⟩ = some v := by
  obtain ⟨u, hu⟩ := h0
  have hs := spot_of_cell hu
  obtain ⟨b, off, sp⟩ := a
  simp [Addr.add] at hs
  subst hs
  refine ⟨rfl, ?_⟩
  rw [← h]
  congr 1
  unfold Addr.add
  split
  · subst k; rfl
  · rfl

theorem list_of {α : Type} (n : Nat) (R : Nat → α → Prop) (h : ∀ i, i < n → ∃ x, R i x) : ∃ l : List α, l.length = n ∧ ∀ k x, l[k]? = some x → R k x := by
  induction n with
  | zero => exact ⟨[], rfl, fun k x hx => by simp at hx⟩
  | succ n ih =>
    obtain ⟨l, hl, hr⟩ := ih (fun i hi => h i (by omega))
    obtain ⟨x, hx⟩ := h n (by omega)
    refine ⟨l ++ [x], by simp [hl], fun k y hy => ?_⟩
    by_cases hk : k < n
    · rw [List.getElem?_append_left (by omega)] at hy
      exact hr k y hy
    · rw [List.getElem?_append_right (by omega)] at hy
      have hk' : k - l.length = 0 := by
        have := (List.getElem?_eq_some_iff.1 hy).1
        simp at this
        omega
      rw [hk'] at hy
      simp at hy
      subst hy
      obtain rfl : k = n := by omega
      exact hx

variable {H : Type} {enc : TypeId × Value → H} {w : World} {base : Nat} {spare : Nat → Bool} {held : Bool}
end Go.Proofs.YtcpajbglcgbolaaGreat
/- Opening arguments for the abstract machine: readers that compose. -/
namespace Go.Proofs.YtcpajbglcgbolaaGreat.Am
open Go.RowKit Go.ChangeShapes Go.WideShapes Go.Deep Go.Joins

/-- nothing is owned at the start -/
abbrev mZ : MM := mO (fun _ => False)
theorem noZ (b : Nat) : ¬ Owned nov mZ b := fun h => owned_nov.1 h

section
variable {H : Type} {enc : TypeId × Value → H} {P : Program} {w : World} {base : Nat} {spare : Nat → Bool} {held : Bool}
/-- cells that stand for the values -/
def CellsRv (w : World) (es : List AV) (cs : List Value) : Prop := es.length = cs.length ∧ (∀ (j : Nat) (y : AV) (u : Value), es[j]? = some y → cs[j]? = some u → RV w nov mZ y u ∧ u.oneCell' = true) ∧ ∀ y ∈ es, Fr y
/-- data of type t read as an α -/
def Opens (enc : TypeId × Value → H) (P : Program) (w : World) (base : Nat) (spare : Nat → Bool) (held : Bool) (t : TypeId) {α : Type} (en : α → List AV) (R : α → Prop) : Prop :=
  ∀ (fuel : Nat) (cs : List Value) (x : DataW H × List MemPlace), DataW.trod enc P w base spare held fuel t cs = some x → Sized P t x.1 → ∃ a, R a ∧ CellsRv w (en a) cs

theorem cells_one1 {y : AV} {u : Value} (h : RV w nov mZ y u) (h1 : u.oneCell' = true) (hf : Fr y) : CellsRv w [y] [u] := by
  refine ⟨rfl, fun j z v hz hv => ?_, fun z hz => by simp at hz; subst hz; exact hf⟩
  cases j with
  | zero => simp at hz hv; subst hz hv; exact ⟨h, h1⟩
  | succ j => simp at hz
theorem opens_int {t : TypeId} {k : IntKind} (ht : P.underlying t = some (.int k)) : Opens enc P w base spare held t (fun z : Int => [.c (.int k z)]) (fun z => (Lit.int k z).wf = true) := by
  intro fuel cs x h _
  obtain ⟨z, rfl, _, wz⟩ := DataW.trod_int ht h
  exact ⟨z, wz, cells_one1 (.c _) rfl (.c _)⟩
theorem opens_slice {t e : TypeId} {α : Type} {en : α → List AV} {R : α → Prop} {sz by_ : Nat} (ht : P.underlying t = some (.slice e)) (hc : P.cellsOf e = sz) (hb : P.bytesOf e = by_) (hby : 0 < by_) (hsz : 0 < sz) (he : Opens enc P w base spare held e en R) :
    Opens enc P w base spare held t (fun l : List α => [.sl sz (l.map en)]) (fun l => l.length * by_ ≤ 140737488355328 ∧ ∀ x ∈ l, R x) := by
  intro fuel cs x h hs
  rcases open_slice ht h with ⟨rfl, _⟩ | ⟨a, len, cap, m, n, D, Pl, rfl, _, hl, hm, hmm, rfl, hi⟩
  · refine ⟨[], ⟨by simp, by simp⟩, cells_one1 ?_ rfl (.sl (fun e he => by cases he))⟩
    exact RV.sl (l := []) (b := 0) (off := 0) (f := fun _ _ => undef) (fun h => absurd rfl h) (Nat.zero_le _) (by simp) (fun k e h => by simp at h) (fun k j e x h => by simp at h) (fun k j e x h => by simp at h) (fun e he => by cases he)
  · have hlen := sized_len hs ht
    rw [hb] at hlen
    simp only [List.length_map, List.length_range] at hlen
    have hml : len ≤ m := by rw [hmm]; split <;> omega
    have hcell : ∀ i, i < len → ∃ z : α, R z ∧ ∃ cs', CellsRv w (en z) cs' ∧ cs'.length = sz ∧ ∀ j, j < sz → w.cell? (a.add (i * sz + j)) = cs'[j]? := by
      intro i hi'
      obtain ⟨cs', hcc, ht'⟩ := hi i (by omega)
      rw [hc] at hcc
      obtain ⟨z, hz, hcr⟩ := he n cs' _ ht' (sized_elem hs ht (List.mem_map.2 ⟨i, by simpa using hi', rfl⟩))
      obtain ⟨_, hcl', hat⟩ := World.cells?_some hcc
      exact ⟨z, hz, cs', hcr, hcl', fun j hj => by rw [← hat j hj, Go.Deep.add_add]⟩
    obtain ⟨l, hl', hat⟩ := list_of len _ hcell
    have hR : ∀ x ∈ l, R x := fun x hx => by
      obtain ⟨k, hk⟩ := List.getElem?_of_mem hx
      exact (hat k x hk).1
    have hfr : FrL (l.map en) := by
      intro e he
      obtain ⟨x, hx, rfl⟩ := List.mem_map.1 he
      obtain ⟨k, hk⟩ := List.getElem?_of_mem hx
      obtain ⟨_, cs', hcr, _⟩ := hat k x hk
      exact hcr.2.2
    refine ⟨l, ⟨by rw [hl']; exact hlen, hR⟩, cells_one1 ?_ rfl (.sl hfr)⟩
    have key : ∀ (k j : Nat) (e : List AV) (y : AV), (l.map en)[k]? = some e → e[j]? = some y → e.length = sz ∧ ∃ u, w.cell? ⟨a.block, a.off + (k * sz + j), none⟩ = some u ∧ u.oneCell' = true ∧ RV w nov mZ y u ∧ a = ⟨a.block, a.off, none⟩ ∧ a.block < w.heap.size := by
      intro k j e y hk hj
      rw [List.getElem?_map] at hk
      cases hx : l[k]? with
      | none => rw [hx] at hk; cases hk
      | some z =>
        rw [hx] at hk
        simp at hk
        subst hk
        obtain ⟨_, cs', ⟨c1, c2, _⟩, c4, c5⟩ := hat k z hx
        have hjl : j < sz := by rw [← c4, ← c1]; exact (List.getElem?_eq_some_iff.1 hj).1
        have hcj := c5 j hjl
        have hget : cs'[j]? = some (cs'[j]'(by omega)) := List.getElem?_eq_getElem _
        rw [hget] at hcj
        obtain ⟨r1, r2⟩ := c2 j y _ hj hget
        have h0 : 0 < len := by have := (List.getElem?_eq_some_iff.1 hx).1; omega
        obtain ⟨_, _, cs0, ⟨_, _, _⟩, d4, d5⟩ := hcell 0 h0
        have hz0 := d5 0 hsz
        rw [List.getElem?_eq_getElem (by omega)] at hz0
        obtain ⟨e1, e2⟩ := addr_of_cell ⟨_, by simpa using hz0⟩ hcj
        exact ⟨by rw [c1, c4], _, e2, r2, r1, e1, lt_of_cell (p := ⟨a.block, a.off + (k * sz + j), none⟩) e2⟩
    have hlen2 : (l.map en).length = len := by simp [hl']
    have := RV.sl (w := w) (vs := nov) (m := mZ) (sz := sz) (l := l.map en) (A := some a) (cap := cap) (b := a.block) (off := a.off) (f := fun k j => (w.cell? ⟨a.block, a.off + (k * sz + j), none⟩).getD undef)
      (fun hne => ?_) (by omega) (by rw [hlen2]; exact Nat.le_trans (Nat.le_mul_of_pos_right _ hby) hlen) (fun k e hk => ?_) (fun k j e y hk hj => ?_) (fun k j e y hk hj => ?_) hfr
    · rw [hlen2] at this
      exact this
    · have h0 : 0 < (l.map en).length := List.length_pos_iff.2 hne
      have hk := List.getElem?_eq_getElem h0
      obtain ⟨x0, hx0, hx0'⟩ : ∃ x0, l[0]? = some x0 ∧ (l.map en)[0] = en x0 := by
        have h1 : 0 < l.length := by simpa using h0
        exact ⟨l[0], List.getElem?_eq_getElem h1, by simp⟩
      obtain ⟨_, cs', ⟨c1, _, _⟩, c4, _⟩ := hat 0 x0 hx0
      have hel : 0 < ((l.map en)[0]).length := by rw [hx0', c1, c4]; exact hsz
      obtain ⟨_, _, _, _, _, q1, q2⟩ := key 0 0 _ _ hk (List.getElem?_eq_getElem hel)
      exact ⟨by rw [← q1], noZ _, q2⟩
    · rw [List.getElem?_map] at hk
      cases hx : l[k]? with
      | none => rw [hx] at hk; cases hk
      | some z =>
        rw [hx] at hk
        simp at hk
        subst hk
        obtain ⟨_, cs', ⟨c1, _, _⟩, c4, _⟩ := hat k z hx
        rw [c1, c4]
    · obtain ⟨_, u, q1, q2, _⟩ := key k j e y hk hj
      rw [q1]
      exact ⟨rfl, q2⟩
    · obtain ⟨_, u, q1, _, q3, _⟩ := key k j e y hk hj
      rw [q1]
      exact q3

/-- fields from one on -/
def OpensF (enc : TypeId × Value → H) (P : Program) (w : World) (base : Nat) (spare : Nat → Bool) (held : Bool) (fs : List Field) (off tot : Nat) {α : Type} (en : α → List AV) (R : α → Prop) : Prop :=
  ∀ (fuel : Nat) (cs : List Value) (xs : List (DataW H × List MemPlace)), cs.length = tot → xs.length = fs.length → (∀ (i : Nat) (f : Field), fs[i]? = some f → DataW.trod enc P w base spare held fuel f.type ((cs.drop f.offset).take (P.cellsOf f.type)) = xs[i]?) →
    (∀ (i : Nat) (f : Field) (x : DataW H × List MemPlace), fs[i]? = some f → xs[i]? = some x → Sized P f.type x.1) → ∃ a, R a ∧ CellsRv w (en a) (cs.drop off)
theorem cells_append {a b : List AV} {xs ys : List Value} (h1 : CellsRv w a xs) (h2 : CellsRv w b ys) : CellsRv w (a ++ b) (xs ++ ys) := by
  refine ⟨by rw [List.length_append, List.length_append, h1.1, h2.1], fun j y u hy hu => ?_, fun y hy => ?_⟩
  · rcases Nat.lt_or_ge j a.length with hlt | hge
    · rw [List.getElem?_append_left hlt] at hy
      rw [List.getElem?_append_left (by rw [← h1.1]; exact hlt)] at hu
      exact h1.2.1 j y u hy hu
    · rw [List.getElem?_append_right hge] at hy
      rw [List.getElem?_append_right (by rw [← h1.1]; exact hge)] at hu
      rw [h1.1] at hy
      exact h2.2.1 _ y u hy hu
  · rcases List.mem_append.1 hy with h | h
    · exact h1.2.2 y h
    · exact h2.2.2 y h
theorem opensF_last {f : Field} {off tot : Nat} {α : Type} {en : α → List AV} {R : α → Prop} (ho : f.offset = off) (htot : off + P.cellsOf f.type = tot) (h : Opens enc P w base spare held f.type en R) : OpensF enc P w base spare held [f] off tot en R := by
  intro fuel cs xs hcl hx ht hs
  obtain ⟨x, rfl⟩ := List.length_eq_one_iff.1 hx
  have h1 := ht 0 f rfl
  obtain ⟨a, ha, hc⟩ := h fuel _ x h1 (hs 0 f x rfl rfl)
  refine ⟨a, ha, ?_⟩
  rw [ho, List.take_of_length_le (by simp; omega)] at hc
  exact hc
theorem opensF_cons {f : Field} {fs : List Field} {off off' tot : Nat} {α β : Type} {en : α → List AV} {R : α → Prop} {en' : β → List AV} {R' : β → Prop} (ho : f.offset = off) (hoff : off + P.cellsOf f.type = off') (h : Opens enc P w base spare held f.type en R) (h' : OpensF enc P w base spare held fs off' tot en' R') :
    OpensF enc P w base spare held (f :: fs) off tot (fun p : α × β => en p.1 ++ en' p.2) (fun p => R p.1 ∧ R' p.2) := by
  intro fuel cs xs hcl hx ht hs
  cases xs with
  | nil => simp at hx
  | cons x xs =>
    obtain ⟨a, ha, hc⟩ := h fuel _ x (ht 0 f rfl) (hs 0 f x rfl rfl)
    obtain ⟨b, hb, hc'⟩ := h' fuel cs xs hcl (by simpa using hx) (fun i g hg => by simpa using ht (i + 1) g (by simpa using hg)) (fun i g y hg hy => hs (i + 1) g y (by simpa using hg) (by simpa using hy))
    refine ⟨(a, b), ⟨ha, hb⟩, ?_⟩
    rw [ho] at hc
    have : cs.drop off = (cs.drop off).take (P.cellsOf f.type) ++ cs.drop off' := by
      rw [← hoff, ← List.drop_drop, List.take_append_drop]
    rw [this]
    exact cells_append hc hc'
theorem opens_struct {t : TypeId} {fs : Array Field} {α : Type} {en : α → List AV} {R : α → Prop} (ht : P.underlying t = some (.struct fs)) (h : OpensF enc P w base spare held fs.toList 0 (P.cellsOf t) en R) : Opens enc P w base spare held t en R := by
  intro fuel cs x hx hs
  obtain ⟨xs, n, _, rfl, hcl, hxl, hf⟩ := DataW.trod_struct ht hx
  obtain ⟨a, ha, hc⟩ := h n cs xs hcl (by simpa using hxl) (fun i f hi => hf i f (by simpa using hi)) (fun i f y hi hy => sized_field hs ht (j := i) (by simpa using hi) (by simp [List.getElem?_map, hy]))
  exact ⟨a, ha, by simpa using hc⟩

/-- a struct that came in -/
theorem agg_rv {es : List AV} {us : Array Value} (h : CellsRv w es us.toList) : RV w nov mZ (.agg es) (.agg us) :=
  .agg (by rw [h.1]; simp) (fun j y u hy hu => (h.2.1 j y u hy (by simpa using hu)).1)
end
end Go.Proofs.YtcpajbglcgbolaaGreat.Am
/- From a walk to a law's row: the arguments read behind the call as before, the result is true. -/
namespace Go.Proofs.YtcpajbglcgbolaaGreat
open Go.RowKit Go.WideShapes Go.ChangeShapes Go.ChangeAt
section
variable {H : Type} {enc : TypeId × Value → H} {P : Program}
theorem post_of_below {f : Func} {s : ChangeSpec} {apart fresh handsOn again : Bool} {W W' : World} {args : Array Value} {v : Value} {ds gs : List (DataW H)} {before pa pv : List MemPlace}
    (hW : DataW.Whole enc P f.params.toList s.vars apart W args.toList ds gs before)
    (hres : ∀ (b : Nat) (sp : Nat → Bool) (hd : Bool), DataW.TrodAll enc P W' b sp hd f.resultTypes.toList (v.resultList f.resultTypes.size) (s.fn H (ds ++ gs)).results [])
    (hargs : ∀ sp : Nat → Bool, (∀ p ∈ before, sp p.block = true) → DataW.TrodAll enc P W' 0 sp true f.params.toList args.toList (s.fn H (ds ++ gs)).args pa)
    (hvars : ∀ sp : Nat → Bool, (∀ p ∈ before, sp p.block = true) → DataW.TrodVars enc P W' sp s.vars (s.fn H (ds ++ gs)).vars pv)
    (hps : before = pa ++ pv) (hb : Below W.heap.size W W')
    (hok : ∀ (j : Nat) (t : TypeId) (r : Value), f.resultTypes[j]? = some t → (v.resultList f.resultTypes.size)[j]? = some r → Value.okWide P W' .any 0 t r) :
    s.post enc P f apart fresh handsOn again W args v W' := by
  have hlt : ∀ p ∈ before, p.block < W.heap.size := fun p hp => hW.lt p hp
  have hold : ∀ p ∈ before, (fun b => decide (b < W.heap.size)) p.block = true := fun p hp => by simpa using hlt p hp
  refine ⟨ds, gs, before, [], pa, pv, hW, hres _ _ _, hargs _ hold, hvars _ hold, World.keptBut_mono (fun p hp => ⟨hp, ?_⟩) (hb.frame (· ∈ before)), fun _ => ?_⟩
  · rw [hps, List.mem_append] at hp
    exact Or.inr hp
  · obtain ⟨_, _, _, _, _, hz, hn⟩ := hW
    refine ⟨hok, _, _, ([] ++ pa) ++ pv, ⟨[] ++ pa, pv, trodAll_append (hargs _ (fun _ _ => rfl)) (hres _ _ _), hvars _ (fun _ _ => rfl), rfl, ?_, ?_⟩, ?_⟩
    · intro b off hp
      have hin : MemPlace.cell b off ∈ before := by rw [hps]; simpa using hp
      rw [hb.frozen (hlt _ hin)]
      exact hz b off hin
    · intro ha
      have := hn ha
      rw [hps] at this
      simpa using this
    · intro p hp _
      rw [hps]
      simpa using hp

theorem trodAll_keep (hl : laidOutB P = true) {W W' : World} (hb : Below W.heap.size W W') (sp : Nat → Bool) (ts : List TypeId) : ∀ (vs : List Value) (ds : List (DataW H)) (ps : List MemPlace), (∀ t ∈ ts, P.readableRec t = true ∧ t < P.types.size) →
    DataW.TrodAll enc P W 0 (fun _ => true) true ts vs ds ps → (∀ x ∈ ps, x.block < W.heap.size) → (∀ x ∈ ps, sp x.block = true) → DataW.TrodAll enc P W' 0 sp true ts vs ds ps := by
  induction ts with
  | nil =>
    intro vs ds ps _ h _ _
    obtain ⟨rfl, rfl, rfl⟩ := trodAll_nil h
    exact trodAll_mk0
  | cons t ts ih =>
    intro vs ds ps hts h hlt hsp
    obtain ⟨v0, vs0, d0, ds0, p0, q0, rfl, rfl, rfl, h0, r0⟩ := trodAll_cons h
    obtain ⟨hr, hrow⟩ := hts t (by simp)
    exact trodAll_cons_mk (WideElems.Trod_stays hl hr hrow h0 (fun x hx => hb.same (hlt x (by simp [hx]))) (fun x hx => hsp x (by simp [hx])))
      (ih _ _ _ (fun t ht => hts t (by simp [ht])) r0 (fun x hx => hlt x (by simp [hx])) (fun x hx => hsp x (by simp [hx])))

/-- A LAW: it returned true, nothing that was there has turned. -/
theorem law_post (hl : laidOutB P = true) {f : Func} {s : ChangeSpec} {T : TypeId} {W W' : World} {args : Array Value} {ds : List (DataW H)} {before : List MemPlace}
    (hvars : s.vars = []) (hrt : f.resultTypes = #[T]) (hT : P.underlying T = some .bool) (hts : f.params.toList.all (fun t => P.readableRec t && decide (t < P.types.size)) = true)
    (hW : DataW.Whole enc P f.params.toList s.vars false W args.toList ds [] before) (hA : DataW.TrodAll enc P W 0 (fun _ => true) true f.params.toList args.toList ds before)
    (e1 : (s.fn H (ds ++ [])).results = [.lit (.bool true)]) (e2 : (s.fn H (ds ++ [])).args = ds) (e3 : (s.fn H (ds ++ [])).vars = []) (hb : Below W.heap.size W W') :
    s.post enc P f false true false false W args (.bool true) W' := by
  have hlt : ∀ x ∈ before, x.block < W.heap.size := fun x hx => hW.lt x hx
  refine post_of_below (pa := before) (pv := []) hW ?_ ?_ ?_ (by simp) hb ?_
  · intro b sp hd
    rw [e1, hrt]
    exact trodAll_cons_mk (shut_bool hT true) trodAll_mk0
  · intro sp hsp
    rw [e2]
    exact trodAll_keep hl hb sp _ _ _ _ (fun t ht => by simpa using List.all_eq_true.1 hts t ht) hA hlt hsp
  · intro sp hsp
    rw [e3, hvars]
    rfl
  · exact ok_one hrt rfl (okWide_bool_mk hT true)
end
end Go.Proofs.YtcpajbglcgbolaaGreat
/- Readers of the arguments of the laws about tasks. -/
namespace Go.Proofs.YtcpajbglcgbolaaGreat.Am
open Go.RowKit Go.ChangeShapes Go.WideShapes Go.Deep Go.Joins
section
variable {H : Type} {enc : TypeId × Value → H} {w : World} {base : Nat} {spare : Nat → Bool} {held : Bool}
theorem opens_conv {P : Program} {t : TypeId} {α β : Type} {en : α → List AV} {en2 : β → List AV} {R : α → Prop} {R2 : β → Prop} (f : α → β) (h : Opens enc P w base spare held t en R) (he : ∀ a, en2 (f a) = en a) (hR : ∀ a, R a → R2 (f a)) : Opens enc P w base spare held t en2 R2 := by
  intro fuel cs x hx hs
  obtain ⟨a, ha, hc⟩ := h fuel cs x hx hs
  exact ⟨f a, hR a ha, by rw [he]; exact hc⟩
theorem opens_str2 {P : Program} {t : TypeId} (ht : P.underlying t = some .string) : Opens enc P w base spare held t (fun s : ByteArray => [.c (.string s)]) (fun s => s.size ≤ 140737488355328) := by
  intro fuel cs x h hsz
  obtain ⟨s, rfl, rfl, -⟩ := DataW.trod_string ht h
  refine ⟨s, ?_, cells_one1 (.c _) rfl (.c _)⟩
  have h1 : s.data.toList.length ≤ 140737488355328 := Nat.le_trans (hsz s.data.toList.length (List.mem_singleton.2 rfl)) (by decide)
  rw [Array.length_toList] at h1
  exact h1
abbrev I64F (p : Fact) : Prop := (Lit.int .i64 p.1).wf = true ∧ (Lit.int .i64 p.2).wf = true
abbrev FactsR (l : List Fact) : Prop := l.length * 16 ≤ 140737488355328 ∧ ∀ p ∈ l, I64F p
abbrev EffR (e : GEffect) : Prop := FactsR e.When
abbrev OpR (o : GOp) : Prop := o.Name.size ≤ 140737488355328 ∧ FactsR o.Pre ∧ o.Effs.length * 40 ≤ 140737488355328 ∧ ∀ e ∈ o.Effs, EffR e
abbrev IntsR (l : List Int) : Prop := l.length * 8 ≤ 140737488355328 ∧ ∀ z ∈ l, (Lit.int .i64 z).wf = true
abbrev TaskR (t : GTask) : Prop := IntsR t.Vars ∧ IntsR t.Init ∧ FactsR t.Goal ∧ t.Ops.length * 72 ≤ 140737488355328 ∧ ∀ o ∈ t.Ops, OpR o
set_option maxRecDepth 100000 in
theorem oFact : Opens enc Tryz.prog w base spare held 63 cF I64F :=
  opens_struct Tryz.underlying63 (opensF_cons (off' := 1) rfl (by kernel_rfl) (opens_int Tryz.underlying3) (opensF_last rfl (by kernel_rfl) (opens_int Tryz.underlying3)))
set_option maxRecDepth 100000 in
theorem oFacts : Opens enc Tryz.prog w base spare held 23 (fun l : List Fact => [.sl 2 (l.map cF)]) FactsR :=
  opens_slice Tryz.underlying23 (by kernel_rfl) (by kernel_rfl) (by decide) (by decide) oFact
set_option maxRecDepth 100000 in
theorem oInts : Opens enc Tryz.prog w base spare held 22 (fun l : List Int => [.sl 1 (l.map cI)]) IntsR :=
  opens_slice Tryz.underlying22 (by kernel_rfl) (by kernel_rfl) (by decide) (by decide) (opens_int Tryz.underlying3)
set_option maxRecDepth 100000 in
theorem oEff : Opens enc Tryz.prog w base spare held 61 cGEffect EffR :=
  opens_conv (fun p : List Fact × (Int × Int) => { When := p.1, Var := p.2.1, Val := p.2.2 : GEffect })
    (opens_struct Tryz.underlying61 (opensF_cons (off' := 1) (en := fun l : List Fact => [AV.sl 2 (l.map cF)]) (R := FactsR) (en' := fun z : Int × Int => [AV.c (.int .i64 z.1)] ++ [AV.c (.int .i64 z.2)]) (R' := fun z : Int × Int => (Lit.int .i64 z.1).wf = true ∧ (Lit.int .i64 z.2).wf = true) rfl (by kernel_rfl) oFacts
      (opensF_cons (off' := 2) (en := fun z : Int => [AV.c (.int .i64 z)]) (R := fun z : Int => (Lit.int .i64 z).wf = true) (en' := fun z : Int => [AV.c (.int .i64 z)]) (R' := fun z : Int => (Lit.int .i64 z).wf = true) rfl (by kernel_rfl) (opens_int Tryz.underlying3) (opensF_last rfl (by kernel_rfl) (opens_int Tryz.underlying3)))))
    (fun _ => rfl) (fun _ h => h.1)
set_option maxRecDepth 100000 in
theorem oOp : Opens enc Tryz.prog w base spare held 59 cGOp OpR :=
  opens_conv (fun p : ByteArray × (Int × (List Fact × List GEffect)) => { Name := p.1, Cost := p.2.1, Pre := p.2.2.1, Effs := p.2.2.2 : GOp })
    (opens_struct Tryz.underlying59 (opensF_cons (off' := 1) (en := fun s : ByteArray => [AV.c (.string s)]) (R := fun s => s.size ≤ 140737488355328) (en' := fun p : Int × (List Fact × List GEffect) => [AV.c (.int .i64 p.1)] ++ ([AV.sl 2 (p.2.1.map cF)] ++ [AV.sl 3 (p.2.2.map cGEffect)])) (R' := fun p : Int × (List Fact × List GEffect) => (Lit.int .i64 p.1).wf = true ∧ (FactsR p.2.1 ∧ (p.2.2.length * 40 ≤ 140737488355328 ∧ ∀ e ∈ p.2.2, EffR e))) rfl (by kernel_rfl) (opens_str2 Tryz.underlying9)
      (opensF_cons (off' := 2) (en := fun z : Int => [AV.c (.int .i64 z)]) (R := fun z : Int => (Lit.int .i64 z).wf = true) (en' := fun p : List Fact × List GEffect => [AV.sl 2 (p.1.map cF)] ++ [AV.sl 3 (p.2.map cGEffect)]) (R' := fun p : List Fact × List GEffect => FactsR p.1 ∧ (p.2.length * 40 ≤ 140737488355328 ∧ ∀ e ∈ p.2, EffR e)) rfl (by kernel_rfl) (opens_int Tryz.underlying3)
        (opensF_cons (off' := 3) (en := fun l : List Fact => [AV.sl 2 (l.map cF)]) (R := FactsR) (en' := fun l : List GEffect => [AV.sl 3 (l.map cGEffect)]) (R' := fun l : List GEffect => l.length * 40 ≤ 140737488355328 ∧ ∀ e ∈ l, EffR e) rfl (by kernel_rfl) oFacts
          (opensF_last rfl (by kernel_rfl) (opens_slice Tryz.underlying57 (by kernel_rfl) (by kernel_rfl) (by decide) (by decide) oEff))))))
    (fun _ => rfl) (fun _ h => ⟨h.1, h.2.2.1, h.2.2.2⟩)
set_option maxRecDepth 100000 in
theorem oTask : Opens enc Tryz.prog w base spare held 26 cGTask TaskR :=
  opens_conv (fun p : List Int × (List Int × (List Fact × List GOp)) => { Vars := p.1, Init := p.2.1, Goal := p.2.2.1, Ops := p.2.2.2 : GTask })
    (opens_struct Tryz.underlying26 (opensF_cons (off' := 1) (en := fun l : List Int => [AV.sl 1 (l.map cI)]) (R := IntsR) (en' := fun p : List Int × (List Fact × List GOp) => [AV.sl 1 (p.1.map cI)] ++ ([AV.sl 2 (p.2.1.map cF)] ++ [AV.sl 4 (p.2.2.map cGOp)])) (R' := fun p : List Int × (List Fact × List GOp) => IntsR p.1 ∧ (FactsR p.2.1 ∧ (p.2.2.length * 72 ≤ 140737488355328 ∧ ∀ o ∈ p.2.2, OpR o))) rfl (by kernel_rfl) oInts
      (opensF_cons (off' := 2) (en := fun l : List Int => [AV.sl 1 (l.map cI)]) (R := IntsR) (en' := fun p : List Fact × List GOp => [AV.sl 2 (p.1.map cF)] ++ [AV.sl 4 (p.2.map cGOp)]) (R' := fun p : List Fact × List GOp => FactsR p.1 ∧ (p.2.length * 72 ≤ 140737488355328 ∧ ∀ o ∈ p.2, OpR o)) rfl (by kernel_rfl) oInts
        (opensF_cons (off' := 3) (en := fun l : List Fact => [AV.sl 2 (l.map cF)]) (R := FactsR) (en' := fun l : List GOp => [AV.sl 4 (l.map cGOp)]) (R' := fun l : List GOp => l.length * 72 ≤ 140737488355328 ∧ ∀ o ∈ l, OpR o) rfl (by kernel_rfl) oFacts
          (opensF_last rfl (by kernel_rfl) (opens_slice Tryz.underlying24 (by kernel_rfl) (by kernel_rfl) (by decide) (by decide) oOp))))))
    (fun _ => rfl) (fun _ h => h)
/-- a struct argument -/
theorem arg_struct {P : Program} {t : TypeId} {fs : Array Field} {α : Type} {en : α → List AV} {R : α → Prop} {r : Reach} {b0 : Nat} {v : Value} {d : DataW H} {p : List MemPlace} (ht : P.underlying t = some (.struct fs)) (hv : Value.okWide P w r b0 t v) (ho : Opens enc P w base spare held t en R) (h : DataW.Trod enc P w base spare held t v d p) (hs : Sized P t d) :
    ∃ a, R a ∧ RV w nov mZ (.agg (en a)) v := by
  obtain ⟨cs, rfl, hsz⟩ := okWide_struct ht hv
  obtain ⟨fuel, hf⟩ := h
  obtain ⟨a, ha, hc⟩ := ho fuel _ _ hf hs
  exact ⟨a, ha, agg_rv hc⟩
end
theorem TaskR.sh {t : GTask} (h : TaskR t) : ShT t := by
  obtain ⟨⟨h1, -⟩, ⟨h2, -⟩, ⟨h3, -⟩, h4, h5⟩ := h
  refine ⟨?_, ?_, ?_, ?_, fun o ho => ?_⟩
  · show _ ≤ _; omega
  · show _ ≤ _; omega
  · show _ ≤ _; omega
  · show _ ≤ _; omega
  · obtain ⟨g1, ⟨g2, -⟩, g3, g4⟩ := h5 o ho
    refine ⟨by omega, ?_, ?_, fun e he => ?_⟩
    · show _ ≤ _; omega
    · show _ ≤ _; omega
    · have := (g4 e he).1
      show _ ≤ _; omega
theorem FactsR.sh {l : List Fact} (h : FactsR l) : Sh l := by have := h.1; show _ ≤ _; omega
theorem law_of {f : FuncId} {args : List AV} {w : World} {cargs : Array Value} (h : ACall cx f args (.c (.bool true))) (hs : cargs.size = args.length) (hr : ∀ (j : Nat) (x : AV) (v : Value), args[j]? = some x → cargs[j]? = some v → RV w nov (mO (fun _ => False)) x v) :
    Calls Tryz.prog f cargs w fun e w' => e = .returned (.bool true) ∧ Below w.heap.size w w' := by
  refine Calls.mono (h.2 w (fun _ => False) cargs trivial (Nat.zero_le _) (fun b hb => hb.elim) hs hr) ?_
  rintro e w' ⟨v, rfl, h1, h2, _⟩
  rw [rv_c h1]
  exact ⟨rfl, ⟨h2.os, h2.tape, h2.output, h2.size, fun b hb => h2.block b hb (fun h => h)⟩⟩
end Go.Proofs.YtcpajbglcgbolaaGreat.Am
/- Reader of a certificate. -/
namespace Go.Proofs.YtcpajbglcgbolaaGreat.Am
open Go.RowKit Go.ChangeShapes Go.WideShapes Go.Deep Go.Joins
section
variable {H : Type} {enc : TypeId × Value → H} {w : World} {base : Nat} {spare : Nat → Bool} {held : Bool}
abbrev NogR (x : Nogood) : Prop := FactsR x.1 ∧ (Lit.int .i64 x.2).wf = true
abbrev CertR (c : GCertificate) : Prop := c.Nogoods.length * 32 ≤ 140737488355328 ∧ ∀ x ∈ c.Nogoods, NogR x
set_option maxRecDepth 100000 in
theorem oNogood : Opens enc Tryz.prog w base spare held 51 cN NogR :=
  opens_struct Tryz.underlying51 (opensF_cons (off' := 1) (en := fun l : List Fact => [AV.sl 2 (l.map cF)]) (R := FactsR) (en' := fun z : Int => [AV.c (.int .i64 z)]) (R' := fun z : Int => (Lit.int .i64 z).wf = true) rfl (by kernel_rfl) oFacts (opensF_last rfl (by kernel_rfl) (opens_int Tryz.underlying3)))
set_option maxRecDepth 100000 in
theorem oNogoods : Opens enc Tryz.prog w base spare held 27 (fun l : List Nogood => [.sl 2 (l.map cN)]) (fun l => l.length * 32 ≤ 140737488355328 ∧ ∀ x ∈ l, NogR x) :=
  opens_slice Tryz.underlying27 (by kernel_rfl) (by kernel_rfl) (by decide) (by decide) oNogood
set_option maxRecDepth 100000 in
theorem oCert : Opens enc Tryz.prog w base spare held 29 cGCertificate CertR :=
  opens_conv (fun p : Int × List Nogood => { Bound := p.1, Nogoods := p.2 : GCertificate })
    (opens_struct Tryz.underlying29 (opensF_cons (off' := 1) (en := fun z : Int => [AV.c (.int .i64 z)]) (R := fun z : Int => (Lit.int .i64 z).wf = true) (en' := fun l : List Nogood => [AV.sl 2 (l.map cN)]) (R' := fun l : List Nogood => l.length * 32 ≤ 140737488355328 ∧ ∀ x ∈ l, NogR x) rfl (by kernel_rfl) (opens_int Tryz.underlying3) (opensF_last rfl (by kernel_rfl) oNogoods)))
    (fun _ => rfl) (fun _ h => h.2)
end
theorem CertR.sh {c : GCertificate} (h : CertR c) : ShC c := by
  refine ⟨?_, fun n hn => ?_⟩
  · have := h.1; show _ ≤ _; omega
  · have := (h.2 n hn).1.1; show _ ≤ _; omega
end Go.Proofs.YtcpajbglcgbolaaGreat.Am
/- Reader of a pair of numbers. -/
namespace Go.Proofs.YtcpajbglcgbolaaGreat.Am
open Go.RowKit Go.ChangeShapes Go.WideShapes Go.Deep Go.Joins
section
variable {H : Type} {enc : TypeId × Value → H} {w : World} {base : Nat} {spare : Nat → Bool} {held : Bool}
set_option maxRecDepth 100000 in
theorem oPair : Opens enc Tryz.prog w base spare held 52 (fun p : Int × Int => [AV.c (.int .i64 p.1), AV.c (.int .i64 p.2)]) (fun _ => True) := by
  intro fuel cs x hx _
  obtain ⟨xs, m, _, rfl, hcl, hxl, hf⟩ := DataW.trod_array Tryz.underlying52 hx
  have hc : Tryz.prog.cellsOf 52 = 2 := by kernel_rfl
  have hi : Tryz.prog.cellsOf 3 = 1 := by kernel_rfl
  rw [hc] at hcl
  match cs, hcl, xs, hxl, hf with
  | [c0, c1], _, [x0, x1], _, hf =>
    have h0 := hf 0 (by decide)
    have h1 := hf 1 (by decide)
    rw [hi] at h0 h1
    obtain ⟨z0, e0, _, _⟩ := DataW.trod_int Tryz.underlying3 h0
    obtain ⟨z1, e1, _, _⟩ := DataW.trod_int Tryz.underlying3 h1
    have e0' : c0 = .int .i64 z0 := by simpa using e0
    have e1' : c1 = .int .i64 z1 := by simpa using e1
    subst e0' e1'
    exact ⟨(z0, z1), trivial, cells_append (cells_one1 (.c _) rfl (.c _)) (cells_one1 (.c _) rfl (.c _))⟩
/-- an array argument -/
theorem arg_array {P : Program} {t e : TypeId} {n : Nat} {α : Type} {en : α → List AV} {R : α → Prop} {r : Reach} {b0 : Nat} {v : Value} {d : DataW H} {p : List MemPlace} (ht : P.underlying t = some (.array n e)) (hv : Value.okWide P w r b0 t v) (ho : Opens enc P w base spare held t en R) (h : DataW.Trod enc P w base spare held t v d p) (hs : Sized P t d) :
    ∃ a, R a ∧ RV w nov mZ (.agg (en a)) v := by
  obtain ⟨cs, rfl⟩ : ∃ cs, v = .agg cs := by
    simp only [Value.okWide, ht] at hv
    obtain ⟨cs, h1, _⟩ := hv
    exact ⟨cs, h1⟩
  obtain ⟨fuel, hf⟩ := h
  obtain ⟨a, ha, hc⟩ := ho fuel _ _ hf hs
  exact ⟨a, ha, agg_rv hc⟩
end
end Go.Proofs.YtcpajbglcgbolaaGreat.Am
/- stratagemlaw31.CheckerSteps returns true for every input. No condition beyond the row's own. -/
namespace Go.Proofs.YtcpajbglcgbolaaGreat.rowSteps
open Go.ChangeShapes Go.WideShapes Go.ChangeAt Go.RowKit Am
theorem laidOut : laidOutB Tryz.prog = true := by kernel_rfl
set_option maxRecDepth 100000 in
theorem contract (H : Type) (enc : TypeId × Value → H) (W : World) (base : Nat) (args : Array Value) (ds gs : List (DataW H)) (before : List MemPlace)
    (hval : ∀ (j : Nat) t v, Tryz.f7.params[j]? = some t → args[j]? = some v → Value.okWide Tryz.prog W .any base t v)
    (hW : DataW.Whole enc Tryz.prog Tryz.f7.params.toList Rows.checkerStepsSpec.vars false W args.toList ds gs before)
    (hsz : (DataW.weightsEach Tryz.prog (Tryz.f7.params.toList ++ (OpenSpec.ofChange Rows.checkerStepsSpec).bare.plain.varTypes Tryz.prog) (ds ++ gs)).all (· ≤ reachBytes) = true) :
    Calls Tryz.prog 7 args W fun e W' => ∃ v, e = .returned v ∧ Rows.checkerStepsSpec.post enc Tryz.prog Tryz.f7 false true false false W args v W' := by
  have hW' := hW
  obtain ⟨p, q, hA0, hV, rfl, hfz, hnd⟩ := hW
  have hA : DataW.TrodAll enc Tryz.prog W 0 (fun _ => true) true Tryz.f7.params.toList args.toList ds p := hA0
  rw [Tryz.params7] at hA hval
  obtain ⟨v0, vs0, d0, ds0, p0, q0, hargs, rfl, rfl, h0, r0⟩ := trodAll_cons hA
  obtain ⟨v1, vs1, d1, ds1, p1, q1, rfl, rfl, rfl, h1, r1⟩ := trodAll_cons r0
  obtain ⟨v2, vs2, d2, ds2, p2, q2, rfl, rfl, rfl, h2, r2⟩ := trodAll_cons r1
  obtain ⟨rfl, rfl, rfl⟩ := trodAll_nil r2
  obtain rfl : args = #[v0, v1, v2] := Array.ext' hargs
  obtain ⟨rfl, rfl⟩ := trodVars_none hV
  simp only [List.append_nil] at hW' hA0 hsz
  rw [Tryz.params7] at hsz
  obtain ⟨t, ht, k0⟩ := arg_struct Tryz.underlying26 (hval 0 26 v0 rfl rfl) oTask h0 (sized_arg hsz (j := 0) rfl rfl)
  obtain ⟨c, hc, k1⟩ := arg_struct Tryz.underlying29 (hval 1 29 v1 rfl rfl) oCert h1 (sized_arg hsz (j := 1) rfl rfl)
  obtain ⟨s, -, k2⟩ := arg_array Tryz.underlying52 (hval 2 52 v2 rfl rfl) oPair h2 (sized_arg hsz (j := 2) rfl rfl)
  refine (law_of (A_stratagemlaw31_CheckerSteps 100 t c s (steps_true 100 (by decide) t ht.sh c hc.sh s)) rfl (fun j x v hx hv => ?_)).mono fun e W' ⟨he, hb⟩ => ?_
  · match j, hx, hv with
    | 0, hx, hv => simp at hx hv; subst hx hv; exact k0
    | 1, hx, hv => simp at hx hv; subst hx hv; exact k1
    | 2, hx, hv => simp at hx hv; subst hx hv; exact k2
    | j + 3, hx, hv => simp at hx
  · subst he
    exact ⟨_, rfl, law_post laidOut rfl (by kernel_rfl) Tryz.underlying4 (by kernel_rfl) hW' hA0 rfl rfl rfl hb⟩
theorem own : ownKnob Tryz.prog.godebug = none := by kernel_rfl
theorem laid_met (os : Os) : laidMet Tryz.prog Rows.checkerStepsRow.laid ((World.holding Tryz.prog os ⟨#[], #[], []⟩).forCall (fun _ _ => 0) ⟨#[], #[.agg #[.slice none 0 0, .slice none 0 0, .slice none 0 0, .slice none 0 0], .agg #[.int .i64 0, .slice none 0 0], .agg #[.int .i64 0, .int .i64 0]], []⟩).memory :=
  laidMet_of_run' 8 (by kernel_rfl) (by kernel_rfl)
theorem reads (os : Os) {H : Type} (enc : TypeId × Value → H) : ∃ places, DataW.whole enc Tryz.prog ((World.holding Tryz.prog os ⟨#[], #[], []⟩).forCall (fun _ _ => 0) ⟨#[], #[.agg #[.slice none 0 0, .slice none 0 0, .slice none 0 0, .slice none 0 0], .agg #[.int .i64 0, .slice none 0 0], .agg #[.int .i64 0, .int .i64 0]], []⟩).memory Tryz.f7.params.toList Rows.checkerStepsSpec.vars false (#[.agg #[.slice none 0 0, .slice none 0 0, .slice none 0 0, .slice none 0 0], .agg #[.int .i64 0, .slice none 0 0], .agg #[.int .i64 0, .int .i64 0]] : Array Value).toList 8 = some ([.agg [.nil, .nil, .nil, .nil], .agg [.lit (.int .i64 0), .nil], .agg [.lit (.int .i64 0), .lit (.int .i64 0)]], [], places) :=
  ⟨[], by kernel_rfl⟩

set_option maxRecDepth 100000 in
theorem lifted (os : Os) (started : os.Started) (H : Type) (enc : TypeId × Value → H) (F : Stop.Interp) :
    ReturnsInHanded {} Tryz.checked os 7 .any ((OpenSpec.ofChange Rows.checkerStepsSpec).preRow enc Tryz.prog Tryz.f7 Rows.checkerStepsRow.domain false Rows.checkerStepsRow.laid) (((OpenSpec.ofChange Rows.checkerStepsSpec).at F).post enc Tryz.prog Tryz.f7 false true false false) := by
  obtain ⟨places, hx⟩ := reads os enc
  refine returnsInHanded_of_row (C := Tryz.checked) (s := OpenSpec.ofChange Rows.checkerStepsSpec) own started (by kernel_rfl) Tryz.func7
    (witness_row_at (enc := enc) (C := Tryz.checked) false (World.holding Tryz.prog os ⟨#[], #[], []⟩) #[.agg #[.slice none 0 0, .slice none 0 0, .slice none 0 0, .slice none 0 0], .agg #[.int .i64 0, .slice none 0 0], .agg #[.int .i64 0, .int .i64 0]] rfl (by kernel_rfl) (by kernel_rfl) (by kernel_rfl)
      (OpenSpec.preRow_of_cond 8 hx (by kernel_rfl) (fun k hk => by cases hk) (by kernel_rfl) (laid_met os))) ?_
  intro W base args ds gs before hval hW _ _ hsz _ _ _
  exact contract H enc W base args ds gs before hval hW hsz

/-- THE STATEMENT. -/
theorem said : Rows.CheckerStepsSaid :=
  OpenClaim.holds_of_cond 7 Tryz.f7 rfl rfl rfl rfl rfl rfl rfl ⟨rfl, rfl, rfl, rfl, rfl⟩ rfl rfl rfl rfl rfl (by kernel_rfl) Tryz.func7 (by kernel_rfl)
    (of_decide_eq_true (by kernel_rfl)) (by unfold Func.isWrapper; first | (rw [if_pos (by decide +kernel)]; kernel_rfl) | (rw [if_neg (by decide +kernel)]; exact ⟨rfl, rfl⟩))
    (fun os started H enc _ F => by rw [OpenClaim.pre_eq_preRow]; exact lifted os started H enc F)
end Go.Proofs.YtcpajbglcgbolaaGreat.rowSteps
